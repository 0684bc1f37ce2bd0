/- What the laws lean on, part 3: a reader of code, plain facts, and what each function gives; no conditions. -/
import Derived.Laws.BitsLemmas
import Derived.Laws.NewFold
import Derived.Deep.AppendSrc
import Derived.Lib.AppendZerosOnto
import Derived.Test.YtnbkagglkajbkaaGreatB2
set_option linter.unusedVariables false
set_option linter.unusedSimpArgs false
noncomputable section
namespace Go.Ev
open Go
open Go.IntKind (bits i64 signed u16 u64 wrap)
theorem zA(a:Addr)(i j:Nat):(a.add i).add j=a.add (i+j):=by
 obtain⟨b,o,s⟩:=a
 by_cases hi:i=0
 ·subst hi;have:(⟨b,o,s⟩:Addr).add 0=⟨b,o,s⟩:=if_pos rfl;rw[this,Nat.zero_add]
 ·have:(⟨b,o,s⟩:Addr).add i=⟨b,o+i,none⟩:=if_neg hi;rw[this,bW];unfold Addr.add;rw[if_neg (by omega),Nat.add_assoc]
theorem wrap_small{n:Int}(h0:0≤n)(h1:n≤9223372036854775807):i64.wrap n=n:=by rw[IntKind.wrap_i64];omega
theorem lL{P:Program}{w:World}{a:Addr}{cs:List Value}{elem:TypeId}{fz:Nat×Nat}(h:w.heap[a.block]? =some (.cells cs.toArray elem fz))(hf:zh fz cs.length):
  ∃w' fz',(markStringish a).run P w= .ok () w'∧w'.heap[a.block]? =some (.cells cs.toArray elem fz')∧zh fz' cs.length∧(∀b,b≠a.block→w'.heap[b]? =w.heap[b]?)∧w'.heap.size=w.heap.size∧w'.os=w.os∧w'.output=w.output:=by
 have hsh:w.shape? a.block=some (elem,cs.length):=by simp[World.shape?,h]
 refine⟨w.freeze ⟨a.block,cs.length,none⟩ 1,if fz.1==fz.2 then(cs.length,cs.length+1)else(min fz.1 cs.length,max fz.2 (cs.length+1)),?_,?_,?_,?_,?_,?_,?_⟩
 ·simp[markStringish,hsh]
 ·obtain⟨lo,hi⟩:=fz;simp only[World.freeze,Nat.one_ne_zero,if_false,Array.getElem?_modify,if_true,h];rfl
 ·unfold zh at hf ⊢
  split
  ·exact .inr (Nat.le_refl _)
  ·rename_i gv;have:fz.1≠fz.2:=(by simpa using gv);right;simp only;omega
 ·intro b hb;simp only[World.freeze,Nat.one_ne_zero,if_false,Array.getElem?_modify];rw[if_neg (fun e=>hb e.symm)]
 ·simp[World.freeze]
 ·simp[World.freeze]
 ·simp[World.freeze]
theorem Ie{z:List Value}{s:Nat}(hz:z.length=s)(d:Value):∀n:Nat,(List.range (n*s)).map (fun i=>z.getD (i%s) d)=(List.replicate n z).flatten
 |0=>by simp
 |n+1=>by
  rw[Nat.succ_mul,List.range_add,List.map_append,Ie hz d n,List.replicate_succ',List.flatten_append]
  congr 1
  rw[List.map_map];simp only[List.flatten_cons,List.flatten_nil,List.append_nil]
  apply List.ext_getElem
  ·simp[hz]
  ·intro i h1 h2;have hi:i<s:=(by simpa using h1);simp[List.getD,Nat.add_mod,Nat.mod_eq_of_lt hi,hz,hi]
theorem Ig{β:Env}{L:Nat→Option Kd}{z:List SV}{zc:List Value}(h:aY β L z zc):∀n:Nat,aY β L ((List.replicate n z).flatten) ((List.replicate n zc).flatten)
 |0=>.nil
 |n+1=>by simp only[List.replicate_succ,List.flatten_cons];exact h.append (Ig h n)
theorem zB{α:Type}{R:α→List Value→Prop}{x:α}{zc:List Value}(h:R x zc):∀n:Nat,aQ R (List.replicate n x) ((List.replicate n zc).flatten)
 |0=>.nil
 |n+1=>by simp only[List.replicate_succ,List.flatten_cons];exact .cons h (zB h n)
theorem me{z:Value}{s:Nat}(n:Nat)(hz:z.cells.size=s):(Array.range (n*s)).map (fun i=>z.cells[i%z.cells.size]!)=((List.replicate n z.cells.toList).flatten).toArray:=by
 apply Array.ext'
 rw[← Ie (z:=z.cells.toList) (s:=s) (by simpa using hz) default n,hz];simp only[Array.toList_map,Array.toList_range]
 apply List.map_congr_left
 intro i _;simp[Array.getElem!_eq_getD,Array.getD_eq_getD_getElem?,List.getD]
noncomputable section
variable {P:Program} {st:St} {o:Oper} {q:Option Prop} {v:LV} {d:List (Nat×Item)}
theorem mM{β:Env}{w:World}{b:Nat}{t:Ty}{l:List t.D}{fC rest:List Value}{elem:TypeId}{fz:Nat×Nat}{c:Nat}(hw:w.heap[b]? =some (.cells (fC++rest).toArray elem fz))(hl:aQ (t.has β true) l fC)
  (hc:l.length≤c) (hr:(c-l.length)*t.w≤rest.length) (hf:zh fz (fC++rest).length):dt β w (.slice (some ⟨b,0,none⟩) l.length c) t l:=
 ⟨_,_,_,rfl,rfl,hc,by simp,fun _=>⟨_,[],fC,rest,elem,fz,rfl,rfl,by simpa using hw,rfl,hl,hr,by simpa using hf⟩⟩
theorem age{id:Nat}{src dst:TypeId}{x:Operand}{s:SV}(ho:o.op= .convert src dst x)(hx:ji (ev st x)=some s)(h:(Mq P id src dst s).val st.hp=some (q,v,d))(oE:(∃x,(id,x)∈d)→kd st.hp id=none):gx P o st q v d:=by
 unfold Mq at h
 split at h
 ·rename_i d' k hs Cy;simp only[Ask.val]at h
  split at h
  ·rename_i k' n;simp at h;obtain⟨rfl,rfl,rfl⟩:=h;refine gx.pure fun _ W ai β₀ β a w hr=>?_;have e:a.eval x= .int k' n.val:=ba hx (aM hr x);refine⟨.int k (k.wrap n.val),by simp[execOp,ho,e,convert,run_underlying hs,run_underlying Cy,Conv.intToInt],?_⟩;show Value.int k (k.wrap n.val)= .int k (Yd k n).val;rw[Up]
  ·cases h
 ·rename_i e hs Cy
  split at h
  ·rename_i he;rw[Ask.cM]at h;obtain⟨⟨pm,l⟩,hc,he2⟩:=map_some h;simp at he2;obtain⟨rfl,rfl,rfl⟩:=he2;refine gx.pure fun _ W ai β₀ β a w hr=>?_;have o7:=mJ hr.heap hc (ba hx (aM hr x));have dL:=run_bytesToString (P:=P) o7;obtain⟨aa,n,c,e1,_⟩:=o7;refine⟨_,?_,rfl⟩;rw[e1]at dL;simp[execOp,ho,e1,convert,run_underlying hs,run_underlying Cy,run_underlying he,dL]
  ·simp[Ask.val]at h
 ·rename_i hs Cy;simp only[Ask.val]at h
  split at h
  ·rename_i l hl;simp at h;obtain⟨rfl,rfl,rfl⟩:=h;refine gx.pure fun _ W ai β₀ β a w hr=>?_;have e:=jh hl (ba hx (aM hr x));exact⟨.string (strOf l),by simp[execOp,ho,e,convert,run_underlying hs,run_underlying Cy],rfl⟩
  ·cases h
 ·rename_i e hs Cy;simp only[Ask.val]at h
  split at h
  ·rename_i l he hl
   split at h
   ·rename_i Yj
    cases h
    have oE:=oE ⟨_,by simp;rfl⟩;intro _ W ai β₀ β a w hr;have ex:=jh hl (ba hx (aM hr x))
    let s:=strOf l
    have hlen:s.size=l.length:=rT l
    let cap:=(Question.appendCap s.size 0 e).cut (w.tape w.drawn (.appendCap s.size 0 e))
    have Cz:s.size≤cap:=by simp[cap,Question.cut]
    let fC:List Value:=(l.map fun n=>((UInt8.ofNat n.toNat).toNat:Int)).map (.int .u8)
    let rest:List Value:=List.replicate (cap-s.size) (.int .u8 0)
    let w1:=w.drew.alloc (.cells (fC++rest).toArray e)
    have hw1:w1.heap[w.heap.size]? =some (.cells (fC++rest).toArray e (0,0)):=heap_alloc_new w.drew _;obtain⟨w2,fz',r1,r2,r3,r4,r5,r6,r7⟩:=lL (P:=P) (a:=⟨w.heap.size,0,none⟩) hw1 (.inl rfl)
    have auc:aQ ((Ty.int .u8).has β true) (l.map fun n=>((UInt8.ofNat n.toNat).toNat:Int)) fC:=by
     show aQ _ _ (List.map _ (List.map _ l));generalize (l.map fun n=>((UInt8.ofNat n.toNat).toNat:Int))=m
     induction m with
     |nil=>exact .nil
     |cons x m ih=>exact aQ.cons (vs:= [_]) rfl ih
    have iA:=mM (c:=cap) r2 auc (by simp;omega) (by simp[rest,Ty.w];omega) r3;have hll:(l.map fun n=>((UInt8.ofNat n.toNat).toNat:Int)).length=s.size:=(by simp[hlen]);rw[hll]at iA
    obtain⟨β',h1,h2,h3⟩:=hr.heap.rY oE (ver:=0) (w':=w2) (by rw[r5];show w.heap.size≤(w.drew.alloc _).heap.size;rw[World.size_alloc];exact Nat.le_succ _) (by rw[r6];rfl) (by rw[r7];rfl) (fun b hb=>by
     rw[r4 b (by show b≠w.heap.size;omega)];exact heap_alloc_old w.drew _ b hb) iA (fun a n c e _=>by simp at e;obtain⟨rfl,_⟩:=e;exact Nat.le_refl _)
    refine⟨β',w2,_,.slice (some ⟨w.heap.size,0,none⟩) s.size cap,?_,.inl rfl,?_,h1,h2⟩
    ·have hel:(strOf l).data.map (fun b=>Value.int .u8 b.toNat)=fC.toArray:=by
      apply Array.ext'
      simp[strOf,fC,List.map_map,Function.comp_def]
     have aud:(strOf l).data.map (fun b=>Value.int .u8 b.toNat)++Array.replicate (cap-s.size) (Value.int .u8 0)=(fC++rest).toArray:=by
      rw[hel];apply Array.ext';simp[rest]
     have hq:(Question.appendCap s.size 0 e).forced=false:=rfl;simp only[execOp,ho,ex,convert,Sem.run_bind,run_underlying hs,run_underlying Cy,run_underlying he,Result.andThen_ok,Conv.stringToBytes,run_choose_drew,hq,Bool.false_eq_true,if_false,newRow,run_newObj,Sem.run_pure];show((Sem.run P (markStringish ⟨w.drew.heap.size,0,none⟩) (w.drew.alloc (.cells ((strOf l).data.map (fun b=>Value.int .u8 b.toNat)++Array.replicate (cap-s.size) (Value.int .u8 0)) e))).andThen _).andThen _=_;rw[aud];show((Sem.run P (markStringish ⟨w.heap.size,0,none⟩) w1).andThen _).andThen _=_;rw[r1];rfl
    ·refine⟨rfl,0,?_,Nat.le_refl _,fun _=>h3.symm⟩;show kd (setAt st.hp id _) id=_;rw[dk,if_pos rfl];rfl
   ·cases h
  ·cases h
 ·rename_i e' e hs Cy
  split at h
  ·rename_i i ver
   split at h
   ·rename_i hsd
    split at h
    ·rename_i he;simp only[Ask.val]at h
     split at h
     ·rename_i ver' l hi
      split at h
      ·rename_i hc;obtain⟨rfl,gv⟩:=hc;simp at h;obtain⟨rfl,rfl,rfl⟩:=h;intro _ W ai β₀ β a w hr;have hd:=ba hx (aM hr x);obtain⟨oN,hh⟩:=hr.heap.o6 (p:=fun v=>a.eval x=v) (aw hi) hd.2;have ayg:=oN;obtain⟨a0,n,c,e1,hn,Rb,ha,eJ⟩:=oN
       have XU:0<c:=by
        have:0<l.length:=List.length_pos_iff.2 gv;omega
       obtain⟨a1,pre,fC,rest,elem,fz,rfl,k1,k2,k3,k4,k5,k6⟩:=eJ XU;obtain⟨w',fz',r1,r2,r3,r4,r5,r6,r7⟩:=lL (P:=P) k2 k6
       obtain⟨β',h1,h2,h3⟩:=hr.heap.v8 (aw hi) (ver':=ver) (l':=l) (v:=β.h i) (w':=w') (.inr ⟨rfl,rfl⟩) (by omega) r6 r7 (fun b hb tm=>r4 b fun e=>tm (by subst e;exact⟨a1,n,c,e1,XU,rfl⟩))
        (by rw[e1];exact⟨_,n,c,rfl,hn,Rb,by simp,fun _=>⟨a1,pre,fC,rest,elem,fz',rfl,k1,r2,k3,k4,k5,r3⟩⟩) (fun a n c e h0=>.inl ⟨a,n,c,e,h0,rfl⟩)
       refine⟨β',w',_,a.eval x,?_,.inl rfl,SV.eM h2 hd,h1,h2⟩;rw[hh,e1];subst hsd;have hee:e'=e:=(by rw[hs]at Cy;simpa using Cy);subst hee;have:a.eval x= .slice (some a1) n c:=(by rw[hh,e1]);simp[execOp,ho,this,convert,run_underlying hs,run_underlying he,r1]
      ·cases h
     ·cases h
    ·simp[Ask.val]at h
   ·simp[Ask.val]at h
  ·simp[Ask.val]at h
 ·simp[Ask.val]at h
end
noncomputable section
variable {P:Program} {st:St} {o:Oper} {q:Option Prop} {v:LV} {d:List (Nat×Item)}
theorem apR{lo hi mx:Option Operand}{W:World}{ai:Hp}{β₀ β:Env}{a:Act}{w:World}(hr:Rel W ai β₀ β st a w){isS:Bool}{n c:Nat}{r:Nat×Nat×Nat}(h:mK n c (lo.map (ev st)) (hi.map (ev st)) (mx.map (ev st))=some r):
  (Instr.sliceBounds isS n c (lo.map a.eval) (hi.map a.eval) (mx.map a.eval)).run P w= .ok r w:=
 Cx (P:=P) (w:=w) (β:=β) (L:=kd st.hp) (lov:=lo.map a.eval) (hiv:=hi.map a.eval) (mxv:=mx.map a.eval) h
  (fun y hy=>by obtain⟨z,hz,rfl⟩:=map_some hy;exact⟨a.eval z,by simp[hz],aM hr z⟩) (by cases lo<;>simp)
  (fun y hy=>by obtain⟨z,hz,rfl⟩:=map_some hy;exact⟨a.eval z,by simp[hz],aM hr z⟩) (by cases hi<;>simp) (by cases mx<;>simp)
theorem Ih{t el:TypeId}{x:Operand}{lo hi mx:Option Operand}{b off n:Nat}(ho:o.op= .slice t x lo hi mx)(hx:ji (ev st x)=some (.ptr b off))(oF:oY P t=some (n,el))
  (h:((fS P 0 (ev st) (.slice t x lo hi mx)).val st.hp)=some (q,v,d)):gx P o st q v d:=by
 have hu:=mI oF;simp only[fS,hx,oF,Ask.val]at h
 split at h
 ·rename_i cells elem sz hb hs
  split at h
  ·rename_i ty n' l gI
   split at h
   ·rename_i x' y' Ms XT
    split at h
    ·rename_i hc;obtain⟨rfl,rfl⟩:=hc
     cases h
     refine gx.pure fun hq W ai β₀ β a w hr=>?_;obtain⟨q1,q2,q3⟩:0≤x'∧x'≤y'∧y'≤(n':Int):=hq;obtain⟨v9,ex⟩:=ba hx (aM hr x);have hsb:=th (P:=P) hr (isS:=false) Ms XT q1 q2 q3 (Nat.le_refl _);refine⟨.slice (some (if n'=x'.toNat then⟨β.b b,off,none⟩else(⟨β.b b,off,none⟩:Addr).add (x'.toNat*ty.w))) (y'.toNat-x'.toNat) (n'-x'.toNat),?_,v9,q1,by omega,by omega,some (if n'=x'.toNat then⟨β.b b,off,none⟩else(⟨β.b b,off,none⟩:Addr).add (x'.toNat*ty.w)),n'-x'.toNat,?_,?_,(fun e=>by cases e),fun h0=>?_⟩
     ·simp only[execOp,ho,ex,Instr.sliceAt,underlying,Sem.run_bind,run_program,Result.andThen_ok,hu,Instr.sureAddr,Sem.run_pure,hsb,run_sizeOf hs,Option.map_none]
     ·rw[show(y'-x').toNat=y'.toNat-x'.toNat from by omega]
     ·omega
     ·rw[if_neg (by omega)]
    ·cases h
   ·cases h
  ·obtain⟨r,hsp,he⟩:=map_some h
   cases he
   refine gx.pure fun _ W ai β₀ β a w hr=>?_;obtain⟨v9,ex⟩:=ba hx (aM hr x);have hsb:=apR (P:=P) hr (isS:=false) hsp;refine⟨.slice (some ⟨β.b b,if r.2.2=r.1 then off else off+r.1*sz,none⟩) (r.2.1-r.1) (r.2.2-r.1),?_,v9,rfl⟩;simp only[execOp,ho,ex,Instr.sliceAt,underlying,Sem.run_bind,run_program,Result.andThen_ok,hu,Instr.sureAddr,Sem.run_pure,hsb,run_sizeOf hs]
   split<;>simp[bW]
 ·cases h
theorem yh{a:Option Addr}{c k:Nat}{f:Addr→Addr}(h:a=none→c=0):(if c=k then a else a.map f)=none→c-k=0:=by
 intro e
 split at e
 ·have:=h e;omega
 ·cases a with
  |none=>have:=h rfl;omega
  |some a=>cases e
theorem a9.Ym{W:World}{ai:Hp}{β₀ β:Env}{hp:Hp}{w:World}(h:a9 W ai β₀ β hp w){pm:Bool}{u u':Value}{t:Ty}{l l':List t.D}(hr:β.rd pm u t l)(o7:bQ β pm w u' t l')(mL:∀b,inBlock u' b→inBlock u b):
  ∃β',a9 W ai β₀ β' hp w∧bM β β' (kd hp) (kd hp)∧β'.rd pm u' t l':=by
 obtain⟨h1,h2,h3⟩:=h.ou o7 fun b hb=>⟨((h.reads _ _ _ _ hr).2 b (mL b hb)).1,((h.reads _ _ _ _ hr).2 b (mL b hb)).2,h.from_ pm u t l b hr (mL b hb)⟩;exact⟨_,h1,h2,h3⟩
theorem agf{W:World}{ai:Hp}{β₀ β:Env}{hp:Hp}{w:World}(h:a9 W ai β₀ β hp w){s r:SV}{pm:Bool}{t:Ty}{l:List t.D}{x y:Int}(hc:(jm s).val hp=some (pm,⟨t,l⟩))(hs:ami t.w x y s=some r)
  {a:Option Addr} {n c:Nat} (hd:s.den β (kd hp) (.slice a n c)) (q1:0≤x) (q2:x≤y) (q3:y≤l.length):
  ∃β',a9 W ai β₀ β' hp w∧bM β β' (kd hp) (kd hp)∧r.den β' (kd hp) (.slice (if c=x.toNat then a else a.map (·.add (x.toNat*t.w))) (y.toNat-x.toNat) (c-x.toNat)):=by
 have o7:=kE h hc hd;obtain⟨a',n',c',e,hn,Rb,hz,eJ⟩:=o7;simp at e;obtain⟨rfl,rfl,rfl⟩:=e;have hyx:(y-x).toNat=y.toNat-x.toNat:=by omega
 unfold ami at hs
 split at hs
 ·rename_i lA nn t' l';simp at hs;subst hs
  have rW:pm=lA∧(⟨t,l⟩:(t:Ty)×List t.D)=⟨t',l'⟩:=by
   unfold jm at hc;rw[Ask.dZ]at hc;simp[Er,Ask.val,Ask.cM,jl]at hc;obtain⟨h1,rfl,h2⟩:=hc;exact⟨h1.symm,by simpa using h2.symm⟩
  obtain⟨rfl,e⟩:=rW
  cases e
  have Ur:xw (.slice a n c) t.w x (y-x) (.slice (if c=x.toNat then a else a.map (·.add (x.toNat*t.w))) (y.toNat-x.toNat) (c-x.toNat)):=by
   refine⟨_,_,_,_,_,rfl,q1,by omega,by omega,by rw[hyx],by omega,yh hz,fun h0=>?_⟩;obtain⟨a0,_,rfl,_⟩:=eJ (by omega);exact⟨a0,rfl,by rw[if_neg (by omega)];rfl⟩
  have aue:bQ β pm w (.slice a n c) t l:=⟨_,_,_,rfl,hn,Rb,hz,eJ⟩;obtain⟨_,_,oP⟩:=hd
  have mL:∀b,inBlock (Value.slice (if c=x.toNat then a else a.map (·.add (x.toNat*t.w))) (y.toNat-x.toNat) (c-x.toNat)) b→inBlock (Value.slice a n c) b:=by
   intro b hb
   cases a with
   |none=>split at hb<;>exact hb.elim
   |some a=>
    split at hb
    ·obtain⟨h1,h2⟩:=hb;exact⟨by omega,h2⟩
    ·obtain⟨h1,h2⟩:=hb;exact⟨by omega,by rw[← h2,dI]⟩
  rcases oP with oP|⟨rfl,oP⟩|⟨e,rfl⟩
  ·obtain⟨β',k1,k2,k3⟩:=h.Ym oP ((h.reads _ _ _ _ oP).1.sub Ur) mL;exact⟨β',k1,k2,rfl,fun e=>(by cases e),.inl k3⟩
  ·obtain⟨β',k1,k2,k3⟩:=h.Ym oP ((h.reads _ _ _ _ oP).1.sub Ur) mL;exact⟨β',k1,k2,rfl,fun e=>(by cases e),.inr (.inl ⟨rfl,k3⟩)⟩
  ·simp at e;obtain⟨rfl,rfl,rfl⟩:=e;refine⟨β,h,bM.refl _ _,rfl,fun e=>(by cases e),.inr (.inr ⟨?_,by simp⟩)⟩;have ti:x.toNat=0:=(by simp at q3;omega);have zy:y.toNat=0:=(by simp at q3;omega);rw[ti,zy];rfl
 ·rename_i i ver;simp at hs;subst hs;obtain⟨k1,cc,k2,k3,k4⟩:=hd;refine⟨β,h,bM.refl _ _,rfl,cc,k2,k3,fun e=>⟨a,n,c,_,_,(k4 e).symm,q1,by omega,by omega,by rw[hyx],by omega,yh hz,fun h0=>?_⟩⟩;obtain⟨a0,_,rfl,_⟩:=eJ (by omega);exact⟨a0,rfl,by rw[if_neg (by omega)];rfl⟩
 ·rename_i i ver w' z m;simp at hs;subst hs
  have hw:w'=t.w:=by
   unfold jm at hc;rw[Ask.dZ]at hc
   split at hc
   ·rename_i t0 _;rw[Ask.cM]at hc;obtain⟨⟨lA,l'⟩,h1,h2⟩:=map_some hc;simp at h2;obtain⟨_,rfl,_⟩:=h2;simp only[jl,Ask.val]at h1
    split at h1
    ·split at h1
     ·split at h1
      ·rename_i hh;exact hh.2
      ·cases h1
     ·cases h1
    ·cases h1
   ·cases hc
  subst hw;obtain⟨k1,cc,k2,k3,k4⟩:=hd;refine⟨β,h,bM.refl _ _,rfl,cc,k2,k3,fun e=>?_⟩;obtain⟨a1,m1,c1,a2,c2,e1,z0,m0,hle,e2,hc2,hz2,tn⟩:=k4 e;simp at e2;obtain⟨rfl,e3,rfl⟩:=e2;refine⟨a1,m1,c1,_,_,e1,by omega,by omega,by omega,by rw[hyx],by omega,yh hz2,fun h0=>?_⟩;obtain⟨a0,rfl,rfl⟩:=tn (by omega);refine⟨a0,rfl,?_⟩;rw[if_neg (by omega),Option.map_some,zA,← Nat.add_mul,show(z+x).toNat=z.toNat+x.toNat from by omega]
 ·rename_i b o' t' m z k;simp at hs;subst hs;have ht:t'=t:=by have:=Uq hc;simp[Er,Ask.val]at this;exact this
  subst ht;obtain⟨k1,z0,m0,zm,a2,c2,e2,hc2,hz2,tn⟩:=hd;simp at e2;obtain⟨rfl,e3,rfl⟩:=e2;refine⟨β,h,bM.refl _ _,k1,by omega,by omega,by omega,_,_,by rw[hyx],by omega,yh hz2,fun h0=>?_⟩;have:=tn (by omega);subst this;rw[if_neg (by omega),Option.map_some,zA,← Nat.add_mul,show(z+x).toNat=z.toNat+x.toNat from by omega]
 ·cases hs
end
noncomputable section
variable {P:Program} {st:St} {o:Oper} {q:Option Prop} {v:LV} {d:List (Nat×Item)}
theorem Yn{id:Nat}{t:TypeId}{x:Operand}{lo hi mx:Option Operand}(ho:o.op= .slice t x lo hi mx)
  (h:((fS P id (ev st) (.slice t x lo hi mx)).val st.hp)=some (q,v,d)):gx P o st q v d:=by
 have h0:=h;simp only[fS]at h
 split at h
 ·rename_i b off n el _ hx oF;refine Ih ho hx oF ?_;simp only[fS]at h0 ⊢;exact h0
 ·rename_i b off len cap el hx oF j3;have hu:=dJ j3;simp only[Ask.val]at h
  split at h
  ·rename_i l hh m sz hsp hs
   cases h
   refine gx.pure fun _ W ai β₀ β a w hr=>?_;obtain⟨v9,ex⟩:=ba hx (aM hr x);have hsb:=apR (P:=P) hr (isS:=true) hsp;refine⟨.slice (some ⟨β.b b,if m=l then off else off+l*sz,none⟩) (hh-l) (m-l),?_,v9,rfl⟩;simp only[execOp,ho,ex,Instr.sliceAt,Instr.slice,underlying,Sem.run_bind,run_program,Result.andThen_ok,hu,Sem.run_pure,hsb,run_sizeOf hs]
   split<;>simp[bW]
  ·cases h
 ·rename_i s el hx oF j3;have hu:=dJ j3;rw[Ask.cM]at h
  split at h
  ·rename_i pm ty l sz hc hs
   split at h
   ·rename_i x' y' Ms XT
    split at h
    ·rename_i hw;subst hw;obtain⟨r,L8,he⟩:=map_some h
     cases he
     intro hq W ai β₀ β a w hr;obtain⟨q1,q2,q3⟩:0≤x'∧x'≤y'∧y'≤(l.length:Int):=hq;have hd:=ba hx (aM hr x);obtain⟨a',n',c',ex,hn,Rb,_⟩:=kE hr.heap hc hd;rw[ex]at hd;rw[← hn]at XT q3;have hsb:=th (P:=P) hr (isS:=true) Ms XT q1 q2 q3 Rb;obtain⟨β',k1,k2,k3⟩:=agf hr.heap hc L8 hd q1 q2 (by rw[← hn];exact q3);refine⟨β',w,_,_,?_,.inl rfl,k3,k1,k2⟩;simp only[execOp,ho,ex,Instr.sliceAt,Instr.slice,underlying,Sem.run_bind,run_program,Result.andThen_ok,hu,Sem.run_pure,Option.map_none];rw[hsb];simp only[Result.andThen_ok,run_sizeOf hs,Sem.run_pure]
    ·cases h
   ·cases h
  ·cases h
 ·simp[Ask.val]at h
theorem Ew{id:Nat}{t:TypeId}{x y:Operand}(ho:o.op= .makeSlice t x y)(h:((fS P id (ev st) (.makeSlice t x y)).val st.hp)=some (q,v,d))(oE:(∃x,(id,x)∈d)→kd st.hp id=none):gx P o st q v d:=by
 simp only[fS,Ask.val]at h
 split at h
 ·rename_i el k1 n k2 c j3 hn hc;have hu:=dJ j3
  split at h
  ·rename_i ty sz z rD hty hs hz L9
   split at h
   ·rename_i kN;obtain⟨rfl,iT,Yo⟩:=kN
    split at h
    ·rename_i z0 hz0
     cases h
     have Yp:=oE ⟨_,by simp;rfl⟩;intro hq W ai β₀ β a w hr;obtain⟨rfl,CA,ayh,ayi⟩:c=n∧0≤n∧(rD:Int)*n≤2 ^ 46∧n≤2 ^ 46:=hq;have en:=fh hn (aM hr x);have ec:=fh hc (aM hr y);obtain⟨zv,Rc,hzd⟩:=oZ (P:=P) (w:=w) (β:=β) (L:=kd st.hp) hz;have hzs:zv.cells.size=ty.w:=(by have:=hzd.length;simp at this;omega);have hzh:=ty.gw hz0 hzd;have amm:=wrap_small (n:=c) CA (by omega)
     have aug:∃i,P.info? el=some i∧i.bytes=rD:=by
      unfold oX at L9;obtain⟨i,h1,h2⟩:=map_some L9;exact⟨i,h1,h2⟩
     obtain⟨i,hi,hib⟩:=aug;have gI:aQ (ty.has β true) (List.replicate c.toNat z0) ((List.replicate c.toNat zv.cells.toList).flatten):=zB hzh _;have iA:=mM (β:=β) (w:=w.alloc (.cells ((List.replicate c.toNat zv.cells.toList).flatten++ []).toArray el)) (b:=w.heap.size) (elem:=el) (fz:=(0,0)) (rest:= []) (c:=c.toNat) (heap_alloc_new w _) gI (by simp) (by simp) (.inl rfl);rw[List.append_nil,List.length_replicate]at iA;obtain⟨β',h1,h2,h3⟩:=hr.heap.rY Yp (ver:=0) (w':=w.alloc (.cells ((List.replicate c.toNat zv.cells.toList).flatten).toArray el)) (by rw[World.size_alloc];exact Nat.le_succ _) rfl rfl (fun b hb=>heap_alloc_old w _ b hb) iA (fun a n c e _=>by simp at e;obtain⟨rfl,_⟩:=e;exact Nat.le_refl _);refine⟨β',_,_,.slice (some ⟨w.heap.size,0,none⟩) c.toNat c.toNat,?_,.inl rfl,?_,h1,h2⟩
     ·have hti:(typeInfo el).run P w= .ok i w:=by simp[typeInfo,hi]
      have Yq:¬ ((c<0)∨((i.bytes:Int)*c>2 ^ 48)):=by
       rw[hib];intro hh;rcases hh with hh|hh<;>omega
      have agj:(decide (c<0)||decide ((i.bytes:Int)*c>2 ^ 48))=false:=by
       have:¬ (c<0)∧¬ ((i.bytes:Int)*c>2 ^ 48):=⟨fun hh=>Yq (.inl hh),fun hh=>Yq (.inr hh)⟩;simp only[this.1,this.2,decide_false,Bool.or_self]
      simp only[execOp,ho,en,ec,Instr.makeSlice,Sem.run_bind,run_underlying hu,Result.andThen_ok,asInt,asIntOf,Sem.run_pure,hti,amm,agj,Bool.false_or];rw[if_neg (by simp;omega)];simp only[Sem.run_bind,run_askRoom,Result.andThen_ok,run_sizeOf hs]
      by_cases Mv:c.toNat*ty.w=0
      ·have h01:c.toNat=0:=by
        rcases Nat.mul_eq_zero.1 Mv with k|k
        ·exact k
        ·omega
       rw[if_pos Mv];simp only[Sem.run_bind,Result.andThen_ok,newRow,run_newObj,Sem.run_pure,h01];have hr0:(Array.range 0).map (fun x=>(#[]:Array Value)[x%(#[]:Array Value).size]!)= #[]:=(by simp);rw[Nat.zero_mul,hr0];simp
      ·rw[if_neg Mv];simp only[Sem.run_bind,Rc,Result.andThen_ok,newRow,run_newObj,Sem.run_pure,me c.toNat hzs];rfl
     ·refine⟨rfl,0,?_,Nat.le_refl _,fun _=>h3.symm⟩;show kd (setAt st.hp id _) id=_;rw[dk,if_pos rfl];rfl
    ·cases h
   ·cases h
  ·cases h
 ·cases h
theorem CB{id:Nat}{t:TypeId}{len:Nat}{parts:Array (Nat×Operand)}(ho:o.op= .buildSlice t len parts)(h:((fS P id (ev st) (.buildSlice t len parts)).val st.hp)=some (q,v,d))(oE:(∃x,(id,x)∈d)→kd st.hp id=none):gx P o st q v d:=by
 simp only[fS,Ask.val]at h
 split at h
 ·rename_i el j3;have hu:=dJ j3
  split at h
  ·rename_i sz z hs hz
   split at h
   ·rename_i kN;obtain⟨h16,Yo,iT⟩:=kN
    split at h
    ·rename_i l hl
     have base:∀ (W:World) (ai:Hp) (β₀ β:Env) (a:Act) (w:World),Rel W ai β₀ β st a w→
       ∃c:List Value,aY β (kd st.hp) l c∧(execOp a.eval o).run P w= .ok (.value (.slice (some ⟨w.heap.size,0,none⟩) len len)) (w.alloc (.cells c.toArray el)):=by
      intro W ai β₀ β a w hr;obtain⟨zv,Rc,hzd⟩:=oZ (P:=P) (w:=w) (β:=β) (L:=kd st.hp) hz;have hzs:zv.cells.size=sz:=by have:=hzd.length;simp at this;omega
      obtain⟨c,hcc,hd⟩:=En (β:=β) (L:=kd st.hp) (place:=fun i=>some (i*sz,sz)) _ (parts.toList.map fun p=>(p.1,a.eval p.2)) _ _ l (Ig hzd len)
       (bP.of_map _ _ _ fun p _=>⟨rfl,aM hr p.2⟩) hl
      refine⟨c,hd,?_⟩;simp only[execOp,ho,Instr.buildSlice,Sem.run_bind,run_underlying hu,Result.andThen_ok,run_sizeOf hs];rw[if_neg (by omega)]
      have apT:Instr.fill (fun i=>some (i*sz,sz)) ((List.replicate len zv.cells.toList).flatten).toArray (Array.map (fun x=>match x with|(i,x)=>(i,a.eval x)) parts).toList=some c.toArray:=by
       rw[← hcc];simp
      by_cases Mv:len*sz=0
      ·have h01:len=0:=by
        rcases Nat.mul_eq_zero.1 Mv with k|k
        ·exact k
        ·omega
       rw[if_pos Mv]
       have aui:Instr.fill (fun i=>some (i*sz,sz)) #[] (Array.map (fun x=>match x with|(i,x)=>(i,a.eval x)) parts).toList=some c.toArray:=by
        rw[← apT,h01];simp
       simp only[Sem.run_bind,Result.andThen_ok,Sem.run_pure,Mv];have hr0:(Array.range 0).map (fun x=>(#[]:Array Value)[x%(#[]:Array Value).size]!)= #[]:=(by simp);rw[hr0,aui];simp[newRow]
      ·rw[if_neg Mv];simp only[Sem.run_bind,Rc,Result.andThen_ok,Sem.run_pure,me len hzs];rw[apT];simp[newRow]
     have apU:some (q,v,d)=some ((none:Option Prop),LV.one (.sc (.slice id 0 len len)),[(id,Item.bm l el)])→gx P o st q v d:=by
      intro he;cases he;have oE:=oE ⟨_,by simp;rfl⟩;intro _ W ai β₀ β a w hr;obtain⟨c,hd,dL⟩:=base W ai β₀ β a w hr;obtain⟨β',h1,h2,h3⟩:=hr.heap.Yg oE el hd;refine⟨β',_,_,_,dL,.inl rfl,⟨?_,by rw[h3]⟩,h1,h2⟩;show kd (setAt st.hp id _) id=_;rw[dk,if_pos rfl];rfl
     split at h
     ·rename_i ty hty
      split at h
      ·rename_i hw;subst hw
       split at h
       ·rename_i xs hxs
        cases h
        have oE:=oE ⟨_,by simp;rfl⟩;intro _ W ai β₀ β a w hr;obtain⟨c,hd,dL⟩:=base W ai β₀ β a w hr;obtain⟨hh,hlen⟩:=gS (R:=ty.has β true) (fun a x vs h hd=>ty.gw h hd) _ hxs hd;have iA:=mM (β:=β) (w:=w.alloc (.cells (c++ []).toArray el)) (b:=w.heap.size) (elem:=el) (fz:=(0,0)) (rest:= []) (c:=len) (heap_alloc_new w _) hh (by omega) (by simp[hlen]) (.inl rfl);rw[List.append_nil,hlen]at iA;obtain⟨β',h1,h2,h3⟩:=hr.heap.rY oE (ver:=0) (w':=w.alloc (.cells c.toArray el)) (by rw[World.size_alloc];exact Nat.le_succ _) rfl rfl (fun b hb=>heap_alloc_old w _ b hb) iA (fun a n c e _=>by simp at e;obtain⟨rfl,_⟩:=e;exact Nat.le_refl _);refine⟨β',_,_,_,dL,.inl rfl,⟨rfl,0,?_,Nat.le_refl _,fun _=>h3.symm⟩,h1,h2⟩;show kd (setAt st.hp id _) id=_;rw[dk,if_pos rfl];rfl
       ·exact apU h.symm
      ·cases h
     ·exact apU h.symm
    ·cases h
   ·cases h
  ·cases h
 ·cases h
theorem Us{op:BinOp}{t:TypeId}{ox oy:Operand}{x y:LV}{b:Bool}(h:Mr P op t x y=some b){w:World}{β:Env}{L:Nat→Option Kd}{xv yv:Value}(hx:x.den β L xv)(hy:y.den β L yv):
  (do eqGuard op t ox oy xv yv;binOp op t xv yv:Sem Value).run P w= .ok (.bool b) w:=by
 unfold Mr at h
 have key:∀ {pm:Bool} {ty:Ty} {l:List ty.D} {n c:Nat} {e:TypeId},dU P t=some e→(LV.one (.sc (.rd pm true ty l))).den β L xv→(LV.one (.sc (.g9 (.slice none n c)))).den β L yv→
   ∃a n c n' c',xv= .slice (some a) n c∧yv= .slice none n' c':=by
  intro pm ty l n c e _ h1 h2;obtain⟨_,h3,_⟩:=h1;obtain⟨_,rfl⟩:=h2;have:=h3 rfl
  cases xv with
  |slice a n' c'=>cases a with
   |none=>exact absurd rfl this
   |some a=>exact⟨a,n',c',n,c,rfl,rfl⟩
  |_=>exact this.elim
 split at h
 ·rename_i e j3
  cases h
  obtain⟨a,n,c,n',c',rfl,rfl⟩:=key j3 hx hy;rw[Sem.run_bind,db (by simp) (by simp)];exact qA rfl (kh (dJ j3))
 ·rename_i e j3
  cases h
  obtain⟨a,n,c,n',c',rfl,rfl⟩:=key j3 hx hy;rw[Sem.run_bind,db (by simp) (by simp)];exact qB rfl (kh (dJ j3))
 ·cases h
theorem agk{id:Nat}(h:(fS P id (ev st) o.op).val st.hp=some (q,v,d))(oE:(∃x,(id,x)∈d)→kd st.hp id=none):gx P o st q v d:=by
 cases ho:o.op<;>rw[ho]at h<;>(try (simp[fS,Ask.val]at h;done))
 case slice t x lo hi mx=>exact Yn ho h
 case makeSlice t x y=>exact Ew ho h oE
 case buildSlice t n parts=>exact CB ho h oE
 all_goals simp only[fS]at h
 case move x=>
  cases h
  exact .pure fun _ W ai β₀ β a w hr=>⟨a.eval x,by simp[execOp,ho],aM hr x⟩
 case assign x=>
  cases h
  exact .pure fun _ W ai β₀ β a w hr=>⟨a.eval x,by simp[execOp,ho],aM hr x⟩
 case pick c x y=>
  simp only[Ask.val]at h
  split at h
  ·rename_i t hc
   cases h
   refine .pure fun _ W ai β₀ β a w hr=>⟨if t then a.eval x else a.eval y,?_,?_⟩
   ·have:=aM hr c;rw[hc]at this;have e:a.eval c= .bool t:=this;simp[execOp,ho,e,asBool]
   ·cases t
    ·exact aM hr y
    ·exact aM hr x
  ·rename_i t hc
   have Yr:∀ (a:Act) (w:World) {W:World} {ai:Hp} {β₀ β:Env},Rel W ai β₀ β st a w→(execOp a.eval o).run P w= .ok (.value (if t then a.eval x else a.eval y)) w:=by
    intro a w W ai β₀ β hr;have:=aM hr c;rw[hc]at this;have e:a.eval c= .bool t:=this;simp[execOp,ho,e,asBool]
   split at h
   ·rename_i u v hx hy
    cases h
    refine .pure fun _ W ai β₀ β a w hr=>⟨_,Yr a w hr,?_⟩
    cases t
    ·exact H8 (J:=Ye) (L₁:=kd st.hp) ⟨fun _ _ h=>h,fun _ _ _ _ h=>(by cases h),fun _ h=>(by cases h)⟩ (hy▸aM hr y)
    ·exact Mi (J:=Ye) (L₁:=kd st.hp) ⟨fun _ _ h=>h,fun _ _ _ _ h=>(by cases h),fun _ h=>(by cases h)⟩ (hx▸aM hr x)
   ·rename_i u hx _
    cases h
    refine .pure fun hq W ai β₀ β a w hr=>⟨_,Yr a w hr,?_⟩;have ht:t=true:=hq;subst ht;exact hx▸aM hr x
   ·rename_i u hy _
    cases h
    refine .pure fun hq W ai β₀ β a w hr=>⟨_,Yr a w hr,?_⟩;have ht:t=false:=hq;subst ht;exact hy▸aM hr y
   ·cases h
  ·cases h
 case alloc t=>
  simp only[Ask.val]at h;obtain⟨l,hl,he⟩:=map_some h
  cases he
  have oE:=oE ⟨_,by simp;rfl⟩;refine Ib (mk:=fun _=>Instr.alloc t true (.tuple #[])) (fun a=>by simp[execOp,ho]) (fun W ai β₀ β a w hr=>?_) oE;obtain⟨z,hz,hd⟩:=oZ (P:=P) (w:=w) (β:=β) (L:=kd st.hp) hl;refine⟨_,hd,?_⟩;simp only[Instr.alloc,Sem.run_bind,hz,Result.andThen_ok,newVar,newRow,run_newObj,Sem.run_pure];simp
 case box t x=>
  simp only[Ask.val]at h;obtain⟨l,hl,he⟩:=map_some h
  cases he
  have oE:=oE ⟨_,by simp;rfl⟩;refine Ib (mk:=fun a=>Instr.box t (a.eval x)) (fun a=>by simp[execOp,ho]) (fun W ai β₀ β a w hr=>?_) oE;obtain⟨cs,hcs,hd⟩:=oW hl (aM hr x);refine⟨_,hd,?_⟩;simp only[Instr.box,Sem.run_bind,Result.andThen_ok,newVar,newRow,run_newObj,Sem.run_pure,hcs];rfl
 case build t parts=>
  simp only[Ask.val]at h
  split at h
  ·rename_i z place hz Q5;obtain⟨l,hl,he⟩:=map_some h
   cases he
   refine .pure fun _ W ai β₀ β a w hr=>?_;obtain⟨zv,Rc,hzd⟩:=oZ (P:=P) (w:=w) (β:=β) (L:=kd st.hp) hz
   obtain⟨c,hc,hd⟩:=En (β:=β) (L:=kd st.hp) (place:=place) _ (parts.toList.map fun p=>(p.1,a.eval p.2)) z zv.cells.toList l hzd
    (bP.of_map _ _ _ fun p _=>⟨rfl,aM hr p.2⟩) hl
   refine⟨.agg c.toArray,?_,c,rfl,hd⟩;unfold Q4 at Q5
   split at Q5
   ·rename_i fs hu;obtain⟨pl,auj,rfl⟩:=map_some Q5;have:=oz (P:=P) (w:=w) fs.toList pl auj;simp only[execOp,ho,Instr.build,Sem.run_bind,Rc,Result.andThen_ok,underlying,run_program,hu,Sem.run_pure];rw[Array.mapM_eq_mapM_toList];simp only[Sem.run_map,this,Result.andThen_ok];simp at hc;simp[hc]
   ·rename_i n e hu;obtain⟨s,hs,rfl⟩:=map_some Q5;simp only[execOp,ho,Instr.build,Sem.run_bind,Rc,Result.andThen_ok,underlying,run_program,hu,Sem.run_pure,run_sizeOf hs];simp at hc;simp[hc]
   ·simp at Q5
  ·cases h
 case load t x=>
  split at h
  ·rename_i s hx;exact agc ho hx h
  ·simp[Ask.val]at h
 case store t x y=>
  split at h
  ·rename_i s l hx hl;exact Yl ho hx hl h
  ·simp[Ask.val]at h
 case nilCheck x=>
  simp only[Ask.val]at h
  split at h
  ·rename_i b off hx
   cases h
   refine .pure fun _ W ai β₀ β a w hr=>?_;have hd:=aM hr x;rw[hx]at hd;obtain⟨eV,e⟩:kd st.hp b=some .bm∧a.eval x= .pointer (some ⟨β.b b,off,none⟩):=hd;exact⟨_,by simp[execOp,ho,e],eV,rfl⟩
  ·rename_i s wd z f hx
   cases h
   refine .pure fun _ W ai β₀ β a w hr=>?_;have hd:=aM hr x;rw[hx]at hd;have hd':=hd;obtain⟨ad,n,c,h1,h2,h3,e⟩:=hd;refine⟨.pointer (some (ad.add (z.toNat*wd+f))),by simp[execOp,ho,e],?_⟩;rw[e]at hd';exact hd'
  ·cases h
 case binOp op t x y yt=>
  simp only[Ask.val]at h
  split at h
  ·rename_i b hn
   cases h
   refine .pure fun hq W ai β₀ β a w hr=>⟨.bool b,?_,rfl⟩;have:=Us (w:=w) (ox:=x) (oy:=y) hn (aM hr x) (aM hr y);simp only[execOp,ho];rw[Sem.run_bind,this];rfl
  ·obtain⟨r,L8,he⟩:=map_some h
   cases he
   refine .pure fun hq W ai β₀ β a w hr=>?_;obtain⟨val,e1,e2⟩:=Ya (P:=P) (w:=w) (ox:=x) (oy:=y) (s:=r.2) (q:=r.1) (by rw[L8]) hq (aM hr x) (aM hr y);refine⟨val,?_,e2⟩;simp only[execOp,ho];rw[Sem.run_bind,e1];rfl
 case unOp op t x=>
  simp only[Ask.val]at h
  split at h
  ·rename_i s h1;obtain⟨r,L8,he⟩:=map_some h
   cases he
   refine .pure fun hq W ai β₀ β a w hr=>?_;have hd:=ba h1 (aM hr x)
   cases s<;>simp only[apJ]at L8<;>try (simp at L8;done)
   ·cases op<;>simp at L8<;>subst L8<;>(have e:a.eval x=_:=hd)
    ·exact⟨_,by simp[execOp,ho,e,Op.unary,Op.intArith];rfl,by simp only[LV.den,VV.den,SV.den,map2_val];simp[SI.val]⟩
    ·exact⟨_,by simp only[execOp,ho,e,Op.unary,Op.intBits];rfl,by simp only[LV.den,VV.den,SV.den,map2_val];rfl⟩
   ·rename_i b
    cases op<;>simp at L8<;>subst L8
    have e:a.eval x=_:=hd;exact⟨_,by simp[execOp,ho,e,Op.unary];rfl,by cases b<;>simp[LV.den,VV.den,SV.den,SB.val]⟩
  ·cases h
 case convert src dst x=>
  split at h
  ·rename_i s hx;exact age ho hx h oE
  ·simp[Ask.val]at h
 case sliceToArrayPointer t x=>
  split at h
  ·rename_i b off len cap n e hx ha;simp only[Ask.val]at h
   split at h
   ·rename_i hle
    cases h
    refine .pure fun _ W ai β₀ β a w hr=>?_;obtain⟨eV,ex⟩:=ba hx (aM hr x);have hu:=mI ha;exact⟨_,by simp[execOp,ho,ex,Instr.arrayAt,underlying,hu,Nat.not_lt.2 hle],eV,rfl⟩
   ·cases h
  ·rename_i s n e hns hx ha;rw[Ask.cM]at h
   split at h
   ·rename_i pm ty l hc
    split at h
    ·rename_i kN;obtain⟨CA,hs⟩:=kN
     cases h
     refine .pure fun hq W ai β₀ β a w hr=>?_;have Yk:n≤l.length:=hq;have hd:=ba hx (aM hr x);obtain⟨a',n',c',ex,hn,Rb,_,eJ⟩:=kE hr.heap hc hd;obtain⟨a0,_,rfl,_⟩:=eJ (by omega);have hu:=mI ha;rw[ex]at hd;refine⟨.pointer (some a0),?_,a0,n',c',hd,Int.le_refl _,by omega,by simp[Addr.add]⟩;simp[execOp,ho,ex,Instr.arrayAt,underlying,hu,show ¬n'<n by omega]
    ·cases h
   ·cases h
  ·simp[Ask.val]at h
 case fieldAddr s x f=>
  simp only[Ask.val]at h
  split at h
  ·rename_i av fs hx hf;have hu:=zq hf
   split at h
   ·rename_i fd hfd;have agl:fs.toArray[f]? =some fd:=by simpa using hfd
    split at h
    ·rename_i n hn
     split at h
     ·cases h
     ·rename_i CA
      split at h
      ·rename_i b off
       cases h
       refine .pure fun _ W ai β₀ β a w hr=>?_;obtain⟨eV,ex⟩:=ba hx (aM hr x);refine⟨.pointer (some ⟨β.b b,off+fd.offset,none⟩),?_,eV,rfl⟩;simp only[execOp,ho,ex,Instr.fieldAt,underlying,Sem.run_bind,run_program,Result.andThen_ok,hu,Sem.run_pure,agl,Instr.sureAddr,fieldPlace,run_sizeOf hn,CA,if_false,bW]
      ·rename_i s' wd z f0
       cases h
       refine .pure fun _ W ai β₀ β a w hr=>?_;obtain⟨ad,n',c,h1,h2,h3,ex⟩:=ba hx (aM hr x);refine⟨.pointer (some (ad.add (z.toNat*wd+(f0+fd.offset)))),?_,ad,n',c,h1,h2,h3,rfl⟩;simp only[execOp,ho,ex,Instr.fieldAt,underlying,Sem.run_bind,run_program,Result.andThen_ok,hu,Sem.run_pure,agl,Instr.sureAddr,fieldPlace,run_sizeOf hn,CA,if_false,zA,Nat.add_assoc]
      ·cases h
    ·cases h
   ·cases h
  ·cases h
 case field s x f=>
  simp only[Ask.val]at h
  split at h
  ·rename_i l fs hx hf
   split at h
   ·rename_i fd hfd;obtain⟨y,hy,he⟩:=map_some h
    cases he
    refine .pure fun _ W ai β₀ β a w hr=>?_;have hd:=aM hr x;rw[hx]at hd;obtain⟨cs,ex,hd⟩:=hd;have hu:=zq hf;have agl:fs.toArray[f]? =some fd:=(by simpa using hfd);obtain⟨val,h1,h2⟩:=jF (P:=P) (w:=w) hd hy;refine⟨val,?_,h2⟩;simp[execOp,ho,ex,Instr.field,underlying,hu,agl,asAgg,h1]
   ·cases h
  ·cases h
 case indexAddr t x i=>
  split at h
  ·rename_i s hx;exact Mu ho hx h
  ·simp[Ask.val]at h
 case index t x i=>
  simp only[Ask.val]at h;obtain⟨r,L8,he⟩:=map_some h
  cases he
  exact amj ho (by rw[L8])
 case extract x i=>
  simp only[Ask.val]at h
  split at h
  ·rename_i l hx;obtain⟨y,hy,he⟩:=map_some h
   cases he
   refine .pure fun _ W ai β₀ β a w hr=>?_;have hd:=aM hr x;rw[hx]at hd;obtain⟨cs,ex,hd⟩:=hd;obtain⟨val,h1,h2⟩:=hd.get hy;have h1':cs.toArray[i]? =some val:=(by simpa using h1);exact⟨val,by simp[execOp,ho,ex,Instr.extract,h1'],h2⟩
  ·cases h
end
def Ys(P:Program)(ty:Ty)(t:TypeId)(x:SV):Ask (Option (Bool×List ty.D)):=
 match dU P t with
 |some _=>jl ty x
 |none=>match P.underlying t with
  |some .string=>.ret (if h:Ty.int .u8=ty then(oU x).map fun l=>(true,h▸(l.map fun n=>((UInt8.ofNat n.toNat).toNat:Int)))else none)
  |_=>.ret none
def amp(P:Program)(t:TypeId)(x:SV):Ask (Option SI):=
 match x with
 | .g9 (.slice _ n _)=>.ret ((dU P t).map fun _=>.lit n)
 | .slice _ _ n _=>.ret ((dU P t).map fun _=>.lit n)
 | .str l=>.ret (if P.underlying t matches some .string then some (.sym l.length)else none)
 | .g9 (.string s)=>.ret (if P.underlying t matches some .string then some (.lit s.size)else none)
 |x=>match dU P t with
  |some _=>(jm x).map fun c=>c.map fun c=>.sym c.2.2.length
  |none=>.ret none
def wa(f:Int→Int→Int)(k:IntKind):SI→List SV→Option SI
 |x,[]=>some x
 |x,.int k' y::l=>if k'=k then wa f k (map2 f x y) l else none
 |_,_=>none
def Yt(x y:Int):Int:=if y<x then y else x
def Yu(x y:Int):Int:=if y>x then y else x
def iX{α:Type}(l:List α)(z len:Nat)(m:List α):List α:=l.take z++(m.take len++l.drop (z+min len m.length))
def Yv(P:Program)(id:Nat)(t u:TypeId)(s x:SV):Ask Stp:=
 match dU P t with
 |none=>.ret none
 |some el=>match Cw P 8 el,c9 P el,ow P el,oX P el with
  |some ty,some sz,some z,some rD=>
   if sz=ty.w∧0<ty.w∧wL z=ty.w then
    (Ys P ty u x).bind fun c=>match c with
     |some (pm,m)=>if pm||ty.flat then
       match s with
       | .g9 (.slice none 0 0)=>.ret (some (some (m.length*rD≤70368744177664∧m.length≤70368744177664),.one (.sc (.sl id 0)),[(id,.own 0 ty m)]))
       | .sl i ver=>.get i fun y=>.ret (match y with
        |some (.own ver' vR l)=>if h:vR=ty then(if ver=ver' then some (some ((l.length+m.length)*rD≤70368744177664∧l.length+m.length≤70368744177664),.one (.sc (.sl i (ver+1))),[(i,.own (ver+1) ty ((h▸l:List ty.D)++m))])else none)else none
        |_=>none)
       |_=>.ret none
      else .ret none
     |none=>.ret none
   else .ret none
  |_,_,_,_=>.ret none
def Mw(P:Program)(id:Nat)(t u:TypeId)(s:SV)(n:Int):Ask Stp:=
 match dU P t,P.underlying u with
 |some el,some (.int _)=>match Cw P 8 el,c9 P el,ow P el,oX P el with
  |some ty,some sz,some z,some rD=>
   if sz=ty.w∧0<ty.w∧wL z=ty.w then
    match ty.read true z with
    |some z0=>match s with
     | .g9 (.slice none 0 0)=>.ret (some (some (0≤n∧n.toNat*rD≤70368744177664∧n.toNat≤70368744177664),.one (.sc (.sl id 0)),[(id,.own 0 ty (List.replicate n.toNat z0))]))
     | .sl i ver=>.get i fun y=>.ret (match y with
      |some (.own ver' vR l)=>if h:vR=ty then(if ver=ver' then some (some (0≤n∧(l.length+n.toNat)*rD≤70368744177664∧l.length+n.toNat≤70368744177664),.one (.sc (.sl i (ver+1))),[(i,.own (ver+1) ty ((h▸l:List ty.D)++List.replicate n.toNat z0))])else none)else none
      |_=>none)
     |_=>.ret none
    |none=>.ret none
   else .ret none
  |_,_,_,_=>.ret none
 |_,_=>.ret none
def Mx(P:Program)(t u:TypeId)(d x:SV):Ask Stp:=
 match dU P t with
 |none=>.ret none
 |some el=>match Cw P 8 el,c9 P el with
  |some ty,some sz=>
   if sz=ty.w∧0<ty.w then
    (match dU P u with|some _=>jl ty x|none=>.ret none).bind fun c=>match c with
     |some (pm,m)=>if pm||ty.flat then
       match d with
       | .sl i ver=>.get i fun y=>.ret (match y with
        |some (.own ver' vR l)=>if h:vR=ty then(if ver=ver' then some (none,.one (.sc (.int .i64 (.sym (min m.length l.length:Nat)))),[(i,.own ver' ty (iX (h▸l) 0 l.length m))])else none)else none
        |_=>none)
       | .vw i ver w z n=>.get i fun y=>.ret (match y with
        |some (.own ver' vR l)=>if h:vR=ty then(if ver=ver'∧w=ty.w then some (none,.one (.sc (.int .i64 (.sym (min m.length n.toNat:Nat)))),[(i,.own ver' ty (iX (h▸l) z.toNat n.toNat m))])else none)else none
        |_=>none)
       | .vb b o' vR k z n=>.get b fun y=>.ret (match y with
        |some (.bm cells elem)=>match rowAt cells o' with
         |some (.arr aul k' l)=>if h:aul=ty then(if vR=ty∧k'=k then(jG cells o' (.arr ty k' (iX (h▸l) z.toNat n.toNat m))).map fun c=>(none,.one (.sc (.int .i64 (.sym (min m.length n.toNat:Nat)))),[(b,.bm c elem)])else none)else none
         |_=>none
        |_=>none)
       | .slice b o' n _=>.get b fun y=>.ret (match y with
        |some (.bm cells elem)=>match Uo cells o' (n*ty.w)with
         |some s=>match dE (ty.read true) ty.w n s with
          |some l=>(rU cells o' ((List.range n).flatMap fun j=>ty.CU true ((iX l 0 n m).getD j ty.z))).map fun c=>(none,.one (.sc (.int .i64 (.sym (min m.length n:Nat)))),[(b,.bm c elem)])
          |none=>none
         |none=>none
        |_=>none)
       |_=>.ret none
      else .ret none
     |none=>.ret none
   else .ret none
  |_,_=>.ret none
def agm(P:Program)(id:Nat)(b:Builtin)(ts:List TypeId)(xs:List LV):Ask Stp:=
 match b,ts,xs with
 | .len,[t],[x]=>match ji x with
  |some x=>(amp P t x).map fun n=>n.map fun n=>(none,.one (.sc (.int .i64 n)),[])
  |none=>.ret none
 | .append,[t,u],[s,x]=>match ji s,ji x with
  |some s,some (.int _ n)=>Mw P id t u s n.val
  |some s,some x=>Yv P id t u s x
  |_,_=>.ret none
 | .copy,[t,u],[s,x]=>match ji s,ji x with
  |some s,some x=>Mx P t u s x
  |_,_=>.ret none
 | .min,_,x::l=>.ret (match ji x,cX ji l with
  |some (.int k x),some l=>(wa Yt k x l).map fun n=>(none,.one (.sc (.int k n)),[])
  |_,_=>none)
 | .max,_,x::l=>.ret (match ji x,cX ji l with
  |some (.int k x),some l=>(wa Yu k x l).map fun n=>(none,.one (.sc (.int k n)),[])
  |_,_=>none)
 |_,_,_=>.ret none
noncomputable section
variable {P:Program} {W:World} {ai:Hp} {β₀ β:Env} {hp:Hp} {w:World}
theorem Ut{β:Env}{pm:Bool}{ty:Ty}{t e:TypeId}(hu:P.underlying t=some (.slice e)){v:Value}{m:List ty.D}(h:bQ β pm w v ty m):
  ∃news,Src P ty.w t v m.length news w∧aQ (ty.has β pm) m news:=by
 obtain⟨a,n,c,rfl,rfl,hc,_,hr⟩:=h;rcases Nat.eq_zero_or_pos m.length with h0|h0
 ·have:m= []:=List.eq_nil_of_length_eq_zero h0;subst this;refine⟨[],?_,.nil⟩
  cases a with
  |none=>exact Src.ofNil w hu c
  |some a=>exact Src.ofSlice w hu a 0 c [] (by simp) (fun j u h=>by simp at h) (fun u h=>by cases h)
 ·obtain⟨a0,fC,rfl,h1,h2,h3⟩:=hr h0;exact⟨fC,Src.ofSlice w hu a0 m.length c fC (bc h2) (fun j u hj=>h3 j u hj) (kJ h2),h2⟩
theorem CC{β:Env}(l:List Int):aQ ((Ty.int .u8).has β true) (l.map fun n=>((UInt8.ofNat n.toNat).toNat:Int)) (byteCells (strOf l)):=by
 have:byteCells (strOf l)=(l.map fun n=>((UInt8.ofNat n.toNat).toNat:Int)).map (Value.int .u8):=by
  simp[byteCells,strOf]
 rw[this];generalize (l.map fun n=>((UInt8.ofNat n.toNat).toNat:Int))=m
 induction m with
 |nil=>exact .nil
 |cons x m ih=>exact aQ.cons (vs:= [_]) rfl ih
theorem Yw(h:a9 W ai β₀ β hp w){ty:Ty}{t:TypeId}{x:SV}{pm:Bool}{m:List ty.D}(hs:(Ys P ty t x).val hp=some (pm,m))(hf:(pm||ty.flat)=true){v:Value}(hd:x.den β (kd hp) v):
  ∃news,Src P ty.w t v m.length news w∧aQ (ty.has β true) m news:=by
 unfold Ys at hs
 split at hs
 ·rename_i e j3;obtain⟨news,h1,h2⟩:=Ut (P:=P) (dJ j3) (mJ h hs hd);refine⟨news,h1,?_⟩
  cases pm with
  |true=>exact h2
  |false=>exact h2.imp fun _ _=>ty.rS (by simpa using hf)
 ·split at hs
  ·rename_i hu;simp only[Ask.val]at hs
   split at hs
   ·rename_i e;subst e;obtain⟨l,hl,he⟩:=map_some hs
    cases he
    have hv:=jh hl hd;subst hv;refine⟨byteCells (strOf l),?_,CC l⟩;have:=Src.ofString (P:=P) w hu (strOf l);rw[rT]at this;rw[List.length_map];exact this
   ·cases hs
  ·simp[Ask.val]at hs
theorem zC{el:TypeId}{z:List SV}{n:Nat}(hz:ow P el=some z)(hw:wL z=n):∃i zv,P.info? el=some i∧i.zero=some zv∧zv.cells.size=n:=by
 unfold ow at hz
 split at hz
 ·rename_i i lay hi _
  split at hz
  ·rename_i zv Rc;have:=(qC (β:=⟨fun _=>0,fun _=>.nilIface,fun _ _ _ _=>False⟩) (L:=fun _=>none) _ _ hz).length;exact⟨i,zv,hi,Rc,by simpa [hw]using this⟩
  ·cases hz
 ·cases hz
theorem zD{t u el ty_:TypeId}{ty:Ty}{z:List SV}{rD:Nat}(j3:dU P t=some el)(hs:c9 P el=some ty.w)(iT:0<ty.w)(hz:ow P el=some z)(Yo:wL z=ty.w)(L9:oX P el=some rD)
  {hd:Value} {l m:List ty.D} (oN:dt β w hd ty l) {x:Value} {news:List Value} (CD:Src P ty.w u x m.length news w) (lM:aQ (ty.has β true) m news)
  (hb1:(l.length+m.length)*rD≤70368744177664) (v9:l.length+m.length≤70368744177664):
  ∃v' w',(Builtin.append_ #[t,u] ty_ #[hd,x]).run P w= .ok v' w'∧dt β w' v' ty (l++m)∧w.heap.size≤w'.heap.size∧w'.os=w.os∧w'.output=w.output∧
   (∀b,b<w.heap.size→¬ (∃a n c,hd= .slice (some a) n c∧0<c∧a.block=b)→w'.heap[b]? =w.heap[b]?)∧
   (∀a n c,v'= .slice (some a) n c→0<c→(∃n' c',hd= .slice (some a) n' c'∧0<c')∨w.heap.size≤a.block):=by
 obtain⟨base,n,c,rfl,hn,Rb,iY,eJ⟩:=oN;have hu:=dJ j3;obtain⟨i,zv,hi,Rc,hzs⟩:=zC (P:=P) hz Yo;have his:i.size=ty.w:=by unfold c9 at hs;rw[hi]at hs;simpa using hs
 have hib:i.bytes=rD:=by unfold oX at L9;rw[hi]at L9;simpa using L9
 by_cases Ii:n+m.length≤c
 ·
  rcases Nat.eq_zero_or_pos c with h0|h0
  ·have Rd:l= []:=List.eq_nil_of_length_eq_zero (by omega);have C1:m= []:=List.eq_nil_of_length_eq_zero (by omega);subst Rd C1;have hnw:news= []:=(by cases lM;rfl);subst hnw;refine⟨.slice base n c,w,?_,⟨base,n,c,rfl,hn,Rb,iY,eJ⟩,Nat.le_refl _,rfl,rfl,fun _ _ _=>rfl,fun a n' c' e h=>by simp at e;omega⟩;have hle:n≤c:=Rb;have Yx:=CD.cells;have hlen:=CD.len;have hr2:n+0≤c:=(by simpa using Rb);simp only[List.length_nil]at hlen Yx;rcases CD.kind with⟨e',hk⟩|hk<;>cases base<;>simp[Builtin.append_,run_underlying hu,run_underlying hk,sizeOf,typeInfo,hi,his,hlen,Yx,hle,storeCells]
  ·obtain⟨a0,pre,fC,rest,elem,fz,rfl,k1,k2,k3,k4,k5,k6⟩:=eJ h0;have hnl:news.length=m.length*ty.w:=bc lM;have hvl:fC.length=n*ty.w:=(by rw[bc k4,hn]);have hrl:m.length*ty.w≤rest.length:=Nat.le_trans (Nat.mul_le_mul_right _ (by omega)) k5
   obtain⟨w',r1,r2,r3,r4,r5,r6⟩:=dC (P:=P) (a:=a0.add (n*ty.w)) (mH k1 _) (elem:=elem) (fz:=fz) news 0 (pre++fC) (rest.take (m.length*ty.w)) (rest.drop (m.length*ty.w)) w
    (by rw[dI,k2];simp) (by
     obtain⟨b0,o0,s0⟩:=a0;simp at k1 k3;subst k1;rw[bW];simp[k3,hvl]) (by rw[hnl,List.length_take,Nat.min_eq_left hrl]) (kJ lM) (fun off q1 q2=>k6.not (by simp[hnl]at q2 ⊢;omega))
   rw[dI]at r2 r3;refine⟨.slice (some a0) (n+m.length) c,w',?_,⟨some a0,n+m.length,c,rfl,by simp[hn],Ii,by simp,fun _=>⟨a0,pre,fC++news,rest.drop (m.length*ty.w),elem,fz,rfl,k1,?_,k3,k4.append lM,?_,?_⟩⟩,by omega,r5,r6,fun b _ tm=>r3 b fun e=>tm ⟨a0,n,c,rfl,h0,e.symm⟩,fun a n' c' e _=>.inl (by simp at e;obtain⟨rfl,_,_⟩:=e;exact⟨n,c,rfl,h0⟩)⟩
   ·rcases CD.kind with⟨e',hk⟩|hk<;>simp[Builtin.append_,run_underlying hu,run_underlying hk,sizeOf,typeInfo,hi,his,CD.len,Ii,CD.cells,r1]
   ·rw[r2];simp
   ·rw[List.length_drop];have:(c-(n+m.length))*ty.w=(c-n)*ty.w-m.length*ty.w:=(by rw[← Nat.sub_sub,Nat.sub_mul]);omega
   ·have:(pre++((fC++news)++rest.drop (m.length*ty.w))).length=(pre++(fC++rest)).length:=(by simp[hnl];omega);rw[this];exact k6
 ·
  have hg:c<n+m.length:=by omega
  have x6:Builtin.nextslicecap (n+m.length) c*i.bytes≤281474976710656:=growslice_fits hg (by rw[hib,hn];omega)
  have holds:∃o8,aQ (ty.has β true) l o8∧∀ (w':World),(∀b,b<w.heap.size→w'.heap[b]? =w.heap[b]?)→(Builtin.firstCells i.size n (.slice base n c)).run P w'= .ok o8.toArray w':=by
   rcases Nat.eq_zero_or_pos c with h0|h0
   ·have Rd:l= []:=List.eq_nil_of_length_eq_zero (by omega);have CA:n=0:=(by omega);subst Rd CA;refine⟨[],.nil,fun w' _=>?_⟩
    cases base with
    |none=>simp[Builtin.firstCells]
    |some a=>simp[Builtin.firstCells,loadCells,loadCellsFrom]
   ·obtain⟨a0,pre,fC,rest,elem,fz,rfl,k1,k2,k3,k4,k5,k6⟩:=eJ h0;refine⟨fC,k4,fun w' hw'=>?_⟩;have hvl:fC.length=n*i.size:=(by rw[bc k4,hn,his]);have eV:a0.block<w.heap.size:=(Array.getElem?_eq_some_iff.1 k2).1;refine run_firstCells_some (P:=P) w' i.size n a0 n c fC hvl fun j u hj=>?_
    have hh:da w a0 fC:=by
     have:=eD k2;obtain⟨b0,o0,s0⟩:=a0;simp at k1 k3;subst k1 k3;exact this
    exact hh.of (fun _=>hw' _ eV) j u hj
  obtain⟨o8,ho1,ho2⟩:=holds;have HY:Src P i.size u x m.length news w:=by rw[his];exact CD
  have dL:=run_append_grow_src (P:=P) w t u ty_ el i zv hu hi Rc base n c o8 (ho2 _ (fun _ _=>rfl)) x m.length news HY hg (by omega) x6;have Cz:=grownCap_ge w (n+m.length) c el;have hzc:(Builtin.zeroCells zv.cells (grownCap w (n+m.length) c el-(n+m.length))).size=(grownCap w (n+m.length) c el-(n+m.length))*ty.w:=by simp[Builtin.zeroCells,hzs]
  generalize apX:grownCap w (n+m.length) c el=cap at dL Cz hzc
  have oF:((o8++news).toArray++Builtin.zeroCells zv.cells (cap-(n+m.length)))=((o8++news)++(Builtin.zeroCells zv.cells (cap-(n+m.length))).toList).toArray:=by
   apply Array.ext';simp
  rw[oF]at dL
  have iA:=mM (β:=β) (w:=w.drew.alloc (.cells ((o8++news)++(Builtin.zeroCells zv.cells (cap-(n+m.length))).toList).toArray el)) (b:=w.heap.size) (t:=ty) (l:=l++m) (elem:=el) (fz:=(0,0)) (c:=cap)
   (heap_alloc_new w.drew _) (ho1.append lM) (by simp;omega) (Nat.le_of_eq (by rw[List.length_append,← hn];exact(Array.length_toList.trans hzc).symm)) (.inl rfl)
  refine⟨_,_,dL,?_,?_,rfl,rfl,fun b hb _=>heap_alloc_old w.drew _ b hb,fun a n' c' e _=>.inr (by simp at e;obtain⟨rfl,_,_⟩:=e;exact Nat.le_refl _)⟩
  ·rw[List.length_append,← hn]at iA;exact iA
  ·show w.heap.size≤(w.drew.alloc _).heap.size;rw[World.size_alloc];exact Nat.le_succ _
theorem tq{t u el ty_:TypeId}{ty:Ty}{z:List SV}{rD:Nat}(j3:dU P t=some el)(hs:c9 P el=some ty.w)(iT:0<ty.w)(hz:ow P el=some z)(Yo:wL z=ty.w)(L9:oX P el=some rD)
  {hd:Value} {l:List ty.D} (oN:dt β w hd ty l) {kn kq:IntKind} (hku:P.underlying u=some (.int kn)) {z0:ty.D} (hz0:ty.read true z=some z0) (k:Nat)
  (hb1:(l.length+k)*rD≤70368744177664) (v9:l.length+k≤70368744177664):
  ∃v' w',(Builtin.append_ #[t,u] ty_ #[hd,.int kq k]).run P w= .ok v' w'∧dt β w' v' ty (l++List.replicate k z0)∧w.heap.size≤w'.heap.size∧w'.os=w.os∧w'.output=w.output∧
   (∀b,b<w.heap.size→¬ (∃a n c,hd= .slice (some a) n c∧0<c∧a.block=b)→w'.heap[b]? =w.heap[b]?)∧
   (∀a n c,v'= .slice (some a) n c→0<c→(∃n' c',hd= .slice (some a) n' c'∧0<c')∨w.heap.size≤a.block):=by
 obtain⟨base,n,c,rfl,hn,Rb,iY,eJ⟩:=oN;have hu:=dJ j3;obtain⟨i,zv,hi,Rc,hzs⟩:=zC (P:=P) hz Yo;have his:i.size=ty.w:=by unfold c9 at hs;rw[hi]at hs;simpa using hs
 have hib:i.bytes=rD:=by unfold oX at L9;rw[hi]at L9;simpa using L9
 have hzr:(zeroValue el).run P w= .ok zv w:=by simp[zeroValue,typeInfo,hi,Rc]
 obtain⟨XV,apY,hzd⟩:=oZ (P:=P) (w:=w) (β:=β) (L:=fun _=>none) hz;obtain rfl:XV=zv:=by rw[hzr]at apY;injection apY with e;exact e.symm
 have hzh:=ty.gw hz0 hzd;have lM:aQ (ty.has β true) (List.replicate k z0) ((List.replicate k XV.cells.toList).flatten):=zB hzh _
 have apZ:∀m,Builtin.zeroCells XV.cells m=((List.replicate m XV.cells.toList).flatten).toArray:=fun m=>by
  rw[← me m hzs];unfold Builtin.zeroCells;rw[hzs]
 have amm:i64.wrap (k:Int)=k:=by rw[IntKind.wrap_i64];omega
 have auo:¬ ((k:Int)<0):=by omega
 have aup:¬ (281474976710656<(k:Int)*(i.bytes:Int)):=by
  rw[← Int.natCast_mul,hib];have:k*rD≤(l.length+k)*rD:=Nat.mul_le_mul_right _ (by omega);omega
 generalize hnw:(List.replicate k XV.cells.toList).flatten=news at lM
 by_cases Ii:n+k≤c
 ·
  rcases Nat.eq_zero_or_pos c with h0|h0
  ·have Rd:l= []:=List.eq_nil_of_length_eq_zero (by omega);have C1:k=0:=(by omega);subst Rd C1;refine⟨.slice base n c,w,?_,⟨base,n,c,rfl,hn,Rb,iY,eJ⟩,Nat.le_refl _,rfl,rfl,fun _ _ _=>rfl,fun a n' c' e h=>by simp at e;omega⟩;have hle:n≤c:=Rb;have hw0:i64.wrap 0=0:=rfl
   cases base<;>simp[Builtin.append_,run_underlying hu,run_underlying hku,sizeOf,typeInfo,hi,his,hle,storeCells,asInt,asIntOf,hw0]
  ·obtain⟨a0,pre,fC,rest,elem,fz,rfl,k1,k2,k3,k4,k5,k6⟩:=eJ h0;have hnl:news.length=k*ty.w:=(by rw[bc lM,List.length_replicate]);have hvl:fC.length=n*ty.w:=(by rw[bc k4,hn]);have hrl:k*ty.w≤rest.length:=Nat.le_trans (Nat.mul_le_mul_right _ (by omega)) k5
   obtain⟨w',r1,r2,r3,r4,r5,r6⟩:=dC (P:=P) (a:=a0.add (n*ty.w)) (mH k1 _) (elem:=elem) (fz:=fz) news 0 (pre++fC) (rest.take (k*ty.w)) (rest.drop (k*ty.w)) w
    (by rw[dI,k2];simp) (by
     obtain⟨b0,o0,s0⟩:=a0;simp at k1 k3;subst k1;rw[bW];simp[k3,hvl]) (by rw[hnl,List.length_take,Nat.min_eq_left hrl]) (kJ lM) (fun off q1 q2=>k6.not (by simp[hnl]at q2 ⊢;omega))
   rw[dI]at r2 r3;refine⟨.slice (some a0) (n+k) c,w',?_,⟨some a0,n+k,c,rfl,by simp[hn],Ii,by simp,fun _=>⟨a0,pre,fC++news,rest.drop (k*ty.w),elem,fz,rfl,k1,?_,k3,k4.append lM,?_,?_⟩⟩,by omega,r5,r6,fun b _ tm=>r3 b fun e=>tm ⟨a0,n,c,rfl,h0,e.symm⟩,fun a n' c' e _=>.inl (by simp at e;obtain⟨rfl,_,_⟩:=e;exact⟨n,c,rfl,h0⟩)⟩
   ·rcases Nat.eq_zero_or_pos k with hk0|hk0
    ·subst hk0;have hw0:i64.wrap 0=0:=rfl;have CA:news= []:=(by rw[← hnw];rfl);rw[CA]at r1;have amt:n≤c:=Rb;simp[Builtin.append_,run_underlying hu,run_underlying hku,sizeOf,typeInfo,hi,his,amt,r1,asInt,asIntOf,hw0]
    ·have hns:¬ (k*ty.w=0):=Nat.mul_ne_zero (by omega) (by omega);have hzk:Builtin.zeroCells XV.cells k=news.toArray:=(by rw[apZ k,hnw]);simp[Builtin.append_,run_underlying hu,run_underlying hku,sizeOf,typeInfo,hi,Rc,zeroValue,his,Ii,r1,asInt,asIntOf,amm,auo,aup,hns,hzk]
   ·rw[r2];simp
   ·rw[List.length_drop];have:(c-(n+k))*ty.w=(c-n)*ty.w-k*ty.w:=(by rw[← Nat.sub_sub,Nat.sub_mul]);omega
   ·have:(pre++((fC++news)++rest.drop (k*ty.w))).length=(pre++(fC++rest)).length:=(by simp[hnl];omega);rw[this];exact k6
 ·
  have hg:c<n+k:=by omega
  have x6:Builtin.nextslicecap (n+k) c*i.bytes≤281474976710656:=growslice_fits hg (by rw[hib,hn];omega)
  have holds:∃o8,aQ (ty.has β true) l o8∧∀ (w':World),(∀b,b<w.heap.size→w'.heap[b]? =w.heap[b]?)→(Builtin.firstCells i.size n (.slice base n c)).run P w'= .ok o8.toArray w':=by
   rcases Nat.eq_zero_or_pos c with h0|h0
   ·have Rd:l= []:=List.eq_nil_of_length_eq_zero (by omega);have CA:n=0:=(by omega);subst Rd CA;refine⟨[],.nil,fun w' _=>?_⟩
    cases base with
    |none=>simp[Builtin.firstCells]
    |some a=>simp[Builtin.firstCells,loadCells,loadCellsFrom]
   ·obtain⟨a0,pre,fC,rest,elem,fz,rfl,k1,k2,k3,k4,k5,k6⟩:=eJ h0;refine⟨fC,k4,fun w' hw'=>?_⟩;have hvl:fC.length=n*i.size:=(by rw[bc k4,hn,his]);have eV:a0.block<w.heap.size:=(Array.getElem?_eq_some_iff.1 k2).1;refine run_firstCells_some (P:=P) w' i.size n a0 n c fC hvl fun j u hj=>?_
    have hh:da w a0 fC:=by
     have:=eD k2;obtain⟨b0,o0,s0⟩:=a0;simp at k1 k3;subst k1 k3;exact this
    exact hh.of (fun _=>hw' _ eV) j u hj
  obtain⟨o8,ho1,ho2⟩:=holds
  have dL:=Go.Lib.run_append_grow_zeros (P:=P) w t u ty_ el i XV kq kn hu hku hi Rc base n c o8 (ho2 _ (fun _ _=>rfl)) k (by omega) (by omega) hg (by omega) (by
   have:k*rD≤(l.length+k)*rD:=Nat.mul_le_mul_right _ (by omega);rw[hib];omega) x6
  rw[show(o8.toArray++Builtin.zeroCells XV.cells k)=(o8++news).toArray from by rw[apZ k,hnw];simp]at dL;have Cz:=grownCap_ge w (n+k) c el;have hzc:(Builtin.zeroCells XV.cells (grownCap w (n+k) c el-(n+k))).size=(grownCap w (n+k) c el-(n+k))*ty.w:=by simp[Builtin.zeroCells,hzs]
  generalize apX:grownCap w (n+k) c el=cap at dL Cz hzc
  have oF:((o8++news).toArray++Builtin.zeroCells XV.cells (cap-(n+k)))=((o8++news)++(Builtin.zeroCells XV.cells (cap-(n+k))).toList).toArray:=by
   apply Array.ext';simp
  rw[oF]at dL
  have iA:=mM (β:=β) (w:=w.drew.alloc (.cells ((o8++news)++(Builtin.zeroCells XV.cells (cap-(n+k))).toList).toArray el)) (b:=w.heap.size) (t:=ty) (l:=l++List.replicate k z0) (elem:=el) (fz:=(0,0)) (c:=cap)
   (heap_alloc_new w.drew _) (ho1.append lM) (by simp;omega) (Nat.le_of_eq (by rw[List.length_append,List.length_replicate,← hn];exact(Array.length_toList.trans hzc).symm)) (.inl rfl)
  refine⟨_,_,dL,?_,?_,rfl,rfl,fun b hb _=>heap_alloc_old w.drew _ b hb,fun a n' c' e _=>.inr (by simp at e;obtain⟨rfl,_,_⟩:=e;exact Nat.le_refl _)⟩
  ·rw[List.length_append,List.length_replicate,← hn]at iA;exact iA
  ·show w.heap.size≤(w.drew.alloc _).heap.size;rw[World.size_alloc];exact Nat.le_succ _
end
noncomputable section
variable {P:Program} {W:World} {ai:Hp} {β₀ β:Env} {hp:Hp} {w:World}
theorem Ey{α:Type}(l:List α)(z len:Nat)(m:List α):iX l z len m=l.take z++(m.take (min m.length len)++l.drop (z+min m.length len)):=by
 unfold iX;rw[Nat.min_comm len m.length]
 congr 2
 rcases Nat.le_total m.length len with h|h
 ·rw[Nat.min_eq_left h,List.take_of_length_le h,List.take_length]
 ·rw[Nat.min_eq_right h]
theorem o9{α:Type}{l:List α}{z len:Nat}{m:List α}(h:z+len≤l.length):(iX l z len m).length=l.length:=by
 rw[Ey];simp only[List.length_append,List.length_take,List.length_drop];omega
theorem tr{β:Env}{pm:Bool}{t u el e' ty_:TypeId}{ty:Ty}(j3:dU P t=some el)(hu:dU P u=some e')(hs:c9 P el=some ty.w){v:Value}{m:List ty.D}(hr:bQ β pm w v ty m)(Ez c:Nat):
  ∃ws,aQ (ty.has β pm) (m.take (min m.length Ez)) ws∧∀ (base:Option Addr) (w':World),(∀a,base=some a→(storeCells a ws).run P w= .ok () w')→(base=none→w'=w)→
   (Builtin.copy_ #[t,u] ty_ #[.slice base Ez c,v]).run P w= .ok (.int .i64 ((min m.length Ez:Nat):Int)) w':=by
 obtain⟨a,n,c',rfl,rfl,hc,_,eJ⟩:=hr
 have key:∃ws,aQ (ty.has β pm) (m.take (min m.length Ez)) ws∧(Builtin.firstCells ty.w (min m.length Ez) (.slice a m.length c')).run P w= .ok ws.toArray w:=by
  rcases Nat.eq_zero_or_pos m.length with h0|h0
  ·have:m= []:=List.eq_nil_of_length_eq_zero h0;subst this;refine⟨[],by simpa using aQ.nil,?_⟩
   cases a with
   |none=>simp[Builtin.firstCells]
   |some a=>simp[Builtin.firstCells,loadCells,loadCellsFrom]
  ·obtain⟨a0,fC,rfl,h1,h2,h3⟩:=eJ h0;obtain⟨v1,v2,rfl,k1,k2⟩:=ij h2 (min m.length Ez);refine⟨v1,k1,?_⟩;have hl:v1.length=min m.length Ez*ty.w:=(by rw[bc k1,List.length_take];congr 1;omega);have hh:da w a0 v1:=fun i x hi=>h3 i x (by rw[List.getElem?_append_left (List.getElem?_eq_some_iff.1 hi).1];exact hi);have:=lI (P:=P) hh;rw[hl]at this;exact this
 obtain⟨ws,h1,h2⟩:=key;refine⟨ws,h1,fun base w' hw hn=>?_⟩;have Uu:Nat.min m.length Ez=min m.length Ez:=rfl;unfold Builtin.copy_;simp only[List.getElem?_toArray,List.getElem?_cons_zero,List.getElem?_cons_succ,Sem.run_bind,run_underlying (dJ j3),Result.andThen_ok,Builtin.lenOf,Sem.run_pure,run_sizeOf hs,Uu,h2]
 cases base with
 |none=>rw[hn rfl];rfl
 |some a=>simp only[Sem.run_bind,hw a rfl];rfl
theorem wb{β:Env}{ty:Ty}{l m:List ty.D}{z len:Nat}{fC ws:List Value}(h:aQ (ty.has β true) l fC)(hz:z+len≤l.length)(hw:aQ (ty.has β true) (m.take (min m.length len)) ws):
  ∃p old r,fC=p++(old++r)∧p.length=z*ty.w∧old.length=ws.length∧aQ (ty.has β true) (iX l z len m) (p++(ws++r)):=by
 obtain⟨p,v2,rfl,k1,k2⟩:=ij h z;obtain⟨old,r,rfl,k3,k4⟩:=ij k2 (min m.length len);refine⟨p,old,r,rfl,?_,?_,?_⟩
 ·rw[bc k1,List.length_take,Nat.min_eq_left (by omega)]
 ·rw[bc k3,bc hw,List.length_take,List.length_take,List.length_drop]
  congr 1;omega
 ·rw[Ey];rw[List.drop_drop]at k4;exact k1.append (hw.append k4)
theorem a9.Re(h:a9 W ai β₀ β hp w){i ver:Nat}{t:Ty}{l m:List t.D}(hi:hp[i]? =some (some (.own ver t l))){a:Option Addr}{n c:Nat}(he:β.h i= .slice a n c){z len:Nat}(hz:z+len≤l.length)
  {ws:List Value} (hw:aQ (t.has β true) (m.take (min m.length len)) ws):
  ∃w' β',(∀a0,a=some a0→(storeCells (a0.add (z*t.w)) ws).run P w= .ok () w')∧(a=none→w'=w)∧(ws= []→w'=w)∧a9 W ai β₀ β' (setAt hp i (.own ver t (iX l z len m))) w'∧bM β β' (kd hp) (kd (setAt hp i (.own ver t (iX l z len m)))):=by
 have XQ:dt β w (β.h i) t l:=h.items _ _ hi;have auq:=XQ;obtain⟨a',n',c',e,hn1,hn2,iY,h4⟩:=XQ;rw[he]at e;simp at e;obtain⟨rfl,rfl,rfl⟩:=e;rcases Nat.eq_zero_or_pos c with hc|hc
 ·have Rd:l= []:=List.eq_nil_of_length_eq_zero (by omega);subst Rd;have hlen:len=0:=by simp at hz;omega
  subst hlen
  have hws:ws= []:=by
   have:=bc hw;simp only[Nat.min_zero,List.take_zero,List.length_nil,Nat.zero_mul]at this;exact List.eq_nil_of_length_eq_zero this
  subst hws;have Uv:iX ([]:List t.D) z 0 m= []:=by rw[Ey];simp
  rw[Uv];obtain⟨β',s1,s2,_⟩:=h.v8 hi (ver':=ver) (l':= []) (v:=β.h i) (w':=w) (.inr ⟨rfl,rfl⟩) (Nat.le_refl _) rfl rfl (fun _ _ _=>rfl) auq (fun a n c e h0=>.inl ⟨a,n,c,e,h0,rfl⟩);exact⟨w,β',fun a0 _=>rfl,fun _=>rfl,fun _=>rfl,s1,s2⟩
 ·obtain⟨a0,pre,fC,rest,elem,fz,rfl,k1,k2,k3,k4,k5,k6⟩:=h4 hc;obtain⟨p,old,r,rfl,e1,e2,h9⟩:=wb k4 hz hw
  obtain⟨w',r1,r2,r3,r4,r5,r6⟩:=dC (P:=P) (a:=a0.add (z*t.w)) (mH k1 _) (elem:=elem) (fz:=fz) ws 0 (pre++p) old (r++rest) w
   (by rw[dI,k2];simp) (by
    obtain⟨b0,o0,s0⟩:=a0;simp at k1 k3;subst k1;rw[bW];simp[k3,e1]) e2 (kJ hw) (fun off q1 q2=>k6.not (by simp at q2 ⊢;omega))
  rw[dI]at r2 r3
  obtain⟨β',s1,s2,s3⟩:=h.v8 hi (ver':=ver) (l':=iX l z len m) (v:=β.h i) (w':=w') (.inr ⟨rfl,rfl⟩) (by omega) r5 r6 (fun b hb tm=>by
    refine r3 b fun e=>tm ?_;subst e;exact⟨a0,n,c,he,hc,rfl⟩)
   (by
    rw[he];refine⟨some a0,n,c,rfl,by rw[o9 hz];exact hn1,hn2,by simp,fun _=>⟨a0,pre,p++(ws++r),rest,elem,fz,rfl,k1,?_,k3,h9,k5,?_⟩⟩
    ·rw[r2];simp
    ·have:(pre++(p++(ws++r)++rest)).length=(pre++(p++(old++r)++rest)).length:=(by simp[e2]);rw[this];exact k6)
   (fun a n c e h0=>.inl ⟨a,n,c,e,h0,rfl⟩)
  refine⟨w',β',fun a1 e=>by simp at e;subst e;exact r1,fun e=>(by cases e),fun e=>?_,s1,s2⟩;subst e;have:(storeCells (a0.add (z*t.w)) []).run P w= .ok () w:=rfl;rw[this]at r1;cases r1;rfl
theorem a9.agp(h:a9 W ai β₀ β hp w){b o:Nat}{t:Ty}{k:Nat}{cells cells':List SV}{elem:TypeId}{l m:List t.D}(hi:hp[b]? =some (some (.bm cells elem)))(gI:rowAt cells o=some (.arr t k l)){z len:Nat}(hz:z+len≤k)
  (rV:jG cells o (.arr t k (iX l z len m))=some cells') {ws:List Value} (hw:aQ (t.has β true) (m.take (min m.length len)) ws):
  ∃w',(storeCells ((⟨β.b b,o,none⟩:Addr).add (z*t.w)) ws).run P w= .ok () w'∧(ws= []→w'=w)∧a9 W ai β₀ β (setAt hp b (.bm cells' elem)) w'∧bM β β (kd hp) (kd (setAt hp b (.bm cells' elem))):=by
 obtain⟨cs,fz,g1,g2,g3,_⟩:=h.gf hi
 have hlk:l.length=k:=by
  obtain⟨_,_,_,_,_,hh,_⟩:=o5 _ _ gI g3;exact hh
 obtain⟨pre,mid,post,rfl,e3,_,h6,h7⟩:=lK _ _ gI rV g3 (by rw[o9 (by omega)];exact hlk);obtain⟨p,old,r,rfl,e1,e2,h9⟩:=wb (z:=z) (len:=len) h6 (by rw[hlk];exact hz) hw
 obtain⟨w',r1,r2,r3,r4,r5,r6⟩:=dC (P:=P) (a:=⟨β.b b,o+z*t.w,none⟩) rfl (elem:=elem) (fz:=fz) ws 0 (pre++p) old (r++post) w
  (by rw[g1];simp) (by simp[e3,e1]) e2 (kJ hw) (fun off q1 q2=>g2.not (by simp at q2 ⊢;omega))
 obtain⟨s1,s2⟩:=h.Et hi (cells':=cells') (w':=w') (by omega) r5 r6 r3 (c:=pre++((p++(ws++r))++post)) (fz:=fz)
  (by rw[r2];simp) (by
   have:(pre++((p++(ws++r))++post)).length=(pre++((p++(old++r))++post)).length:=(by simp[e2]);rw[this];exact g2) (h7 _ h9)
 refine⟨w',by rw[bW];exact r1,fun e=>?_,s1,s2⟩;subst e;have:(storeCells ⟨β.b b,o+z*t.w,none⟩ []).run P w= .ok () w:=rfl;rw[this]at r1;cases r1;rfl
theorem xF{L:Nat→Option Kd}{ty:Ty}:∀ {l:List ty.D} {vs:List Value},aQ (ty.has β true) l vs→aY β L (l.flatMap (ty.CU true)) vs
 | [],_,h=>by cases h;exact .nil
 |x::l,_,.cons h t=>by rw[List.flatMap_cons];exact(ty.ma h).append (xF t)
theorem zE{α:Type}(l:List α)(d:α):(List.range l.length).map (fun j=>l.getD j d)=l:=by
 apply List.ext_getElem
 ·simp
 ·intro i h1 h2;simp at h1 ⊢;simp[h1]
theorem agq{st:St}{a:Act}(hr:Rel W ai β₀ β st a w){t u ty_:TypeId}{d x:SV}{q:Option Prop}{v:LV}{dl:List (Nat×Item)}(h:(Mx P t u d x).val st.hp=some (q,v,dl)){dv xv:Value}(hd:d.den β (kd st.hp) dv)(hx:x.den β (kd st.hp) xv):
  ∃ (β':Env) (w':World) (val:Value),(Builtin.copy_ #[t,u] ty_ #[dv,xv]).run P w= .ok val w'∧v.den β' (kd (aF dl st.hp)) val∧a9 W ai β₀ β' (aF dl st.hp) w'∧bM β β' (kd st.hp) (kd (aF dl st.hp)):=by
 unfold Mx at h
 split at h
 ·simp[Ask.val]at h
 rename_i el j3
 split at h
 rotate_left
 ·simp[Ask.val]at h
 rename_i ty sz hty hs
 split at h
 rotate_left
 ·simp[Ask.val]at h
 rename_i kN;obtain⟨rfl,iT⟩:=kN;rw[Ask.dZ]at h
 split at h
 rotate_left
 ·simp[Ask.val]at h
 rename_i pm m hc
 split at h
 rotate_left
 ·simp[Ask.val]at h
 rename_i hf
 have hu:∃e',dU P u=some e'∧(jl ty x).val st.hp=some (pm,m):=by
  split at hc
  ·rename_i e' he;exact⟨e',he,hc⟩
  ·simp[Ask.val]at hc
 obtain⟨e',hu,hc⟩:=hu;have o7:=mJ hr.heap hc hx
 have Rf:∀ {k:Nat} {ws:List Value},aQ (ty.has β pm) (m.take k) ws→aQ (ty.has β true) (m.take k) ws:=by
  intro k ws hh
  cases pm with
  |true=>exact hh
  |false=>exact hh.imp fun _ _=>ty.rS (by simpa using hf)
 split at h
 ·
  rename_i i ver;simp only[Ask.val]at h
  split at h
  ·rename_i ver' vR l hi
   split at h
   ·rename_i e;subst e
    split at h
    ·rename_i e;subst e
     cases h
     obtain⟨oN,hh⟩:=hr.heap.o6 (p:=fun v=>dv=v) (aw hi) hd.2;obtain⟨base,n,c,e1,hn,_⟩:=oN;obtain⟨ws,k1,k2⟩:=tr (ty_:=ty_) j3 hu hs o7 n c;rw[hn]at k1;obtain⟨w',β',r1,r2,_,r3,r4⟩:=hr.heap.Re (P:=P) (aw hi) e1 (z:=0) (len:=l.length) (by omega) (Rf k1);have dL:=k2 base w' (fun a0 e=>by have:=r1 a0 e;rw[Nat.zero_mul]at this;exact this) r2;refine⟨β',w',_,by rw[hh,e1];exact dL,?_,r3,r4⟩;rw[hn];rfl
    ·cases h
   ·cases h
  ·cases h
 ·
  rename_i i ver w0 z n;simp only[Ask.val]at h
  split at h
  ·rename_i ver' vR l hi
   split at h
   ·rename_i e;subst e
    split at h
    ·rename_i e;obtain⟨rfl,rfl⟩:=e
     cases h
     obtain⟨oN,hh⟩:=hr.heap.o6 (p:=fun v=>xw v vR.w z n dv) (aw hi) hd.2;obtain⟨base,n1,c1,e1,hn,_⟩:=oN;obtain⟨a2,m2,c2,a3,c3,e2,z0,n0,hle,rfl,_,_,tn⟩:=hh;rw[e1]at e2;simp at e2;obtain⟨rfl,rfl,rfl⟩:=e2;obtain⟨ws,k1,k2⟩:=tr (ty_:=ty_) j3 hu hs o7 n.toNat c3;obtain⟨w',β',r1,r2,r0,r3,r4⟩:=hr.heap.Re (P:=P) (aw hi) e1 (z:=z.toNat) (len:=n.toNat) (by omega) (Rf k1);refine⟨β',w',_,k2 a3 w' (fun a0 e=>?_) (fun e=>?_),rfl,r3,r4⟩
     ·rcases Int.lt_or_le 0 n with h0|h0
      ·obtain⟨a4,e4,e5⟩:=tn h0;rw[e]at e5;simp at e5;subst e5;exact r1 _ e4
      ·have:ws= []:=by
        have:=bc k1;rw[show n.toNat=0 from by omega]at this;simp at this;exact this
       subst this;rw[r0 rfl];rfl
     ·rcases Int.lt_or_le 0 n with h0|h0
      ·obtain⟨a4,e4,e5⟩:=tn h0;rw[e]at e5;cases e5
      ·have:ws= []:=by
        have:=bc k1;rw[show n.toNat=0 from by omega]at this;simp at this;exact this
       exact r0 this
    ·cases h
   ·cases h
  ·cases h
 ·
  rename_i b o' ty0 k z n;simp only[Ask.val]at h
  split at h
  ·rename_i cells elem hi
   split at h
   ·rename_i vR k' l gI
    split at h
    ·rename_i e;subst e
     split at h
     ·rename_i e;obtain⟨rfl,rfl⟩:=e;obtain⟨cells',rV,he⟩:=map_some h
      cases he
      obtain⟨hb,z0,n0,zn,a3,c3,rfl,_,_,tn⟩:=hd;obtain⟨ws,k1,k2⟩:=tr (ty_:=ty_) j3 hu hs o7 n.toNat c3;obtain⟨w',r1,r0,r3,r4⟩:=hr.heap.agp (P:=P) (aw hi) gI (z:=z.toNat) (len:=n.toNat) (by omega) rV (Rf k1);refine⟨β,w',_,k2 a3 w' (fun a0 e=>?_) (fun e=>?_),rfl,r3,r4⟩
      ·rcases Int.lt_or_le 0 n with h0|h0
       ·have e5:=tn h0;rw[e]at e5;simp at e5;subst e5;exact r1
       ·have:ws= []:=by
         have:=bc k1;rw[show n.toNat=0 from by omega]at this;simp at this;exact this
        subst this;rw[r0 rfl];rfl
      ·rcases Int.lt_or_le 0 n with h0|h0
       ·have e5:=tn h0;rw[e]at e5;cases e5
       ·have:ws= []:=by
         have:=bc k1;rw[show n.toNat=0 from by omega]at this;simp at this;exact this
        exact r0 this
     ·cases h
    ·cases h
   ·cases h
  ·cases h
 ·
  rename_i b o' n cp;simp only[Ask.val]at h
  split at h
  ·rename_i cells elem hi
   split at h
   ·rename_i s Ur
    split at h
    ·rename_i l hl;obtain⟨cells',X7,he⟩:=map_some h
     cases he
     obtain⟨hb,rfl⟩:=hd;obtain⟨ws,k1,k2⟩:=tr (ty_:=ty_) j3 hu hs o7 n cp;obtain⟨cs,fz,g1,g2,g3,_⟩:=hr.heap.gf (aw hi);obtain⟨pre,mid,post,e1,e2,e3,h4⟩:=qv Ur g3;obtain⟨h5,h6⟩:=gS (R:=ty.has β true) (fun a x vs h hd=>ty.gw h hd) _ hl h4;obtain⟨p,old,r,e4,e5,e6,h9⟩:=wb h5 (z:=0) (len:=n) (by omega) (Rf k1);have HZ:p= []:=List.eq_nil_of_length_eq_zero (by rw[e5];simp);subst HZ
     have aur:aY β (kd st.hp) ((List.range n).flatMap fun j=>ty.CU true ((iX l 0 n m).getD j ty.z)) (ws++r):=by
      have:((List.range n).flatMap fun j=>ty.CU true ((iX l 0 n m).getD j ty.z))=(iX l 0 n m).flatMap (ty.CU true):=by
       have hlen:(iX l 0 n m).length=n:=by rw[o9 (by omega)];exact h6
       conv=>rhs;rw[← zE (iX l 0 n m) ty.z,hlen]
       rw[List.flatMap_map]
      rw[this];exact xF (by simpa using h9)
     obtain⟨aus,tj,ap1,f1,f2,f3,f4⟩:=qw X7 _ _ g3 aur
     have Mt:pre=aus∧mid=tj∧post=ap1:=by
      have hml:mid.length=tj.length:=by
       rw[f3,e4];simp[e6]
      rw[e1]at f1;obtain⟨g,g'⟩:=List.append_inj f1 (by rw[e2,f2]);obtain⟨g4,g5⟩:=List.append_inj g' hml;exact⟨g,g4,g5⟩
     obtain⟨rfl,rfl,rfl⟩:=Mt;subst e4
     obtain⟨w',r1,r2,r3,r4,r5,r6⟩:=dC (P:=P) (a:=⟨β.b b,o',none⟩) rfl (elem:=elem) (fz:=fz) ws 0 pre old (r++post) w
      (by rw[g1,e1];simp) (by simp[e2]) e6 (kJ k1) (fun off q1 q2=>g2.not (by rw[e1];simp at q2 ⊢;omega))
     obtain⟨s1,s2⟩:=hr.heap.Et (aw hi) (cells':=cells') (w':=w') (by omega) r5 r6 r3 (c:=pre++((ws++r)++post)) (fz:=fz)
      (by rw[r2];simp) (by
       have:(pre++((ws++r)++post)).length=cs.length:=(by rw[e1];simp[e6]);rw[this];exact g2) f4
     exact⟨β,w',_,k2 _ w' (fun a0 e=>by simp at e;subst e;exact r1) (fun e=>by cases e),rfl,s1,s2⟩
    ·cases h
   ·cases h
  ·cases h
 ·simp[Ask.val]at h
end
end Go.Ev
end
