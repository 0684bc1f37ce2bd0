/- What the laws lean on, part 3: a reader of code, plain facts, and what each function gives; no conditions. -/
import Derived.Laws.BitsLemmas
import Derived.Laws.NewFold
import Derived.Deep.AppendSrc
import Derived.Lib.AppendZerosOnto
import Derived.Test.YtcbjpiangpjbgaaGreatA2
set_option linter.unusedVariables false
set_option linter.unusedSimpArgs false
noncomputable section
namespace Go.Ev
open Go
open Go.IntKind (i64 signed u32 u64 wrap wrap_u32)
theorem yV(a:Addr)(i j:Nat):(a.add i).add j=a.add (i+j):=by
 obtain⟨b,o,s⟩:=a
 by_cases hi:i=0
 ·subst hi;have:(⟨b,o,s⟩:Addr).add 0=⟨b,o,s⟩:=if_pos rfl;rw[this,Nat.zero_add]
 ·have:(⟨b,o,s⟩:Addr).add i=⟨b,o+i,none⟩:=if_neg hi;rw[this,cj];unfold Addr.add;rw[if_neg (by omega),Nat.add_assoc]
theorem wrap_small{n:Int}(h0:0≤n)(h1:n≤9223372036854775807):i64.wrap n=n:=by rw[IntKind.wrap_i64];omega
theorem lH{P:Program}{w:World}{a:Addr}{cs:List Value}{elem:TypeId}{fz:Nat×Nat}(h:w.heap[a.block]? =some (.cells cs.toArray elem fz))(hf:yG fz cs.length):
  ∃w' fz',(markStringish a).run P w= .ok () w'∧w'.heap[a.block]? =some (.cells cs.toArray elem fz')∧yG fz' cs.length∧(∀b,b≠a.block→w'.heap[b]? =w.heap[b]?)∧w'.heap.size=w.heap.size∧w'.os=w.os∧w'.output=w.output:=by
 have hsh:w.shape? a.block=some (elem,cs.length):=by simp[World.shape?,h]
 refine⟨w.freeze ⟨a.block,cs.length,none⟩ 1,if fz.1==fz.2 then(cs.length,cs.length+1)else(min fz.1 cs.length,max fz.2 (cs.length+1)),?_,?_,?_,?_,?_,?_,?_⟩
 ·simp[markStringish,hsh]
 ·obtain⟨lo,hi⟩:=fz;simp only[World.freeze,Nat.one_ne_zero,if_false,Array.getElem?_modify,if_true,h];rfl
 ·unfold yG at hf ⊢
  split
  ·exact .inr (Nat.le_refl _)
  ·rename_i gD;have:fz.1≠fz.2:=(by simpa using gD);right;simp only;omega
 ·intro b hb;simp only[World.freeze,Nat.one_ne_zero,if_false,Array.getElem?_modify];rw[if_neg (fun e=>hb e.symm)]
 ·simp[World.freeze]
 ·simp[World.freeze]
 ·simp[World.freeze]
theorem Hm{z:List Value}{s:Nat}(hz:z.length=s)(d:Value):∀n:Nat,(List.range (n*s)).map (fun i=>z.getD (i%s) d)=(List.replicate n z).flatten
 |0=>by simp
 |n+1=>by
  rw[Nat.succ_mul,List.range_add,List.map_append,Hm hz d n,List.replicate_succ',List.flatten_append]
  congr 1
  rw[List.map_map];simp only[List.flatten_cons,List.flatten_nil,List.append_nil]
  apply List.ext_getElem
  ·simp[hz]
  ·intro i h1 h2;have hi:i<s:=(by simpa using h1);simp[List.getD,Nat.add_mod,Nat.mod_eq_of_lt hi,hz,hi]
theorem Hn{β:Env}{L:Nat→Option Kd}{z:List SV}{zc:List Value}(h:bz β L z zc):∀n:Nat,bz β L ((List.replicate n z).flatten) ((List.replicate n zc).flatten)
 |0=>.nil
 |n+1=>by simp only[List.replicate_succ,List.flatten_cons];exact h.append (Hn h n)
theorem yW{α:Type}{R:α→List Value→Prop}{x:α}{zc:List Value}(h:R x zc):∀n:Nat,bp R (List.replicate n x) ((List.replicate n zc).flatten)
 |0=>.nil
 |n+1=>by simp only[List.replicate_succ,List.flatten_cons];exact .cons h (yW h n)
theorem l9{z:Value}{s:Nat}(n:Nat)(hz:z.cells.size=s):(Array.range (n*s)).map (fun i=>z.cells[i%z.cells.size]!)=((List.replicate n z.cells.toList).flatten).toArray:=by
 apply Array.ext'
 rw[← Hm (z:=z.cells.toList) (s:=s) (by simpa using hz) default n,hz];simp only[Array.toList_map,Array.toList_range]
 apply List.map_congr_left
 intro i _;simp[Array.getElem!_eq_getD,Array.getD_eq_getD_getElem?,List.getD]
noncomputable section
variable {P:Program} {st:St} {o:Oper} {q:Option Prop} {v:LV} {d:List (Nat×Item)}
theorem mH{β:Env}{w:World}{b:Nat}{t:Ty}{l:List t.D}{eH rest:List Value}{elem:TypeId}{fz:Nat×Nat}{c:Nat}(hw:w.heap[b]? =some (.cells (eH++rest).toArray elem fz))(hl:bp (t.has β true) l eH)
  (hc:l.length≤c) (hr:(c-l.length)*t.w≤rest.length) (hf:yG fz (eH++rest).length):da β w (.slice (some ⟨b,0,none⟩) l.length c) t l:=
 ⟨_,_,_,rfl,rfl,hc,by simp,fun _=>⟨_,[],eH,rest,elem,fz,rfl,rfl,by simpa using hw,rfl,hl,hr,by simpa using hf⟩⟩
theorem al5{id:Nat}{src dst:TypeId}{x:Operand}{s:SV}(ho:o.op= .convert src dst x)(hx:jr (ev st x)=some s)(h:(Mq P id src dst s).val st.hp=some (q,v,d))(og:(∃x,(id,x)∈d)→kd st.hp id=none):gE P o st q v d:=by
 unfold Mq at h
 split at h
 ·rename_i d' k hs A8;simp only[Ask.val]at h
  split at h
  ·rename_i k' n;simp at h;obtain⟨rfl,rfl,rfl⟩:=h;refine gE.pure fun _ W an β₀ β a w hr=>?_;have e:a.eval x= .int k' n.val:=bD hx (bh hr x);refine⟨.int k (k.wrap n.val),by simp[execOp,ho,e,convert,run_underlying hs,run_underlying A8,Conv.intToInt],?_⟩;show Value.int k (k.wrap n.val)= .int k (aad k n).val;rw[U8]
  ·cases h
 ·rename_i e hs A8
  split at h
  ·rename_i he;rw[Ask.dc]at h;obtain⟨⟨pm,l⟩,hc,he2⟩:=map_some h;simp at he2;obtain⟨rfl,rfl,rfl⟩:=he2;refine gE.pure fun _ W an β₀ β a w hr=>?_;have oM:=mD hr.heap hc (bD hx (bh hr x));have et:=run_bytesToString (P:=P) oM;obtain⟨aa,n,c,e1,_⟩:=oM;refine⟨_,?_,rfl⟩;rw[e1]at et;simp[execOp,ho,e1,convert,run_underlying hs,run_underlying A8,run_underlying he,et]
  ·simp[Ask.val]at h
 ·rename_i hs A8;simp only[Ask.val]at h
  split at h
  ·rename_i l hl;simp at h;obtain⟨rfl,rfl,rfl⟩:=h;refine gE.pure fun _ W an β₀ β a w hr=>?_;have e:=jq hl (bD hx (bh hr x));exact⟨.string (strOf l),by simp[execOp,ho,e,convert,run_underlying hs,run_underlying A8],rfl⟩
  ·cases h
 ·rename_i e hs A8;simp only[Ask.val]at h
  split at h
  ·rename_i l he hl
   split at h
   ·rename_i ZU
    cases h
    have og:=og ⟨_,by simp;rfl⟩;intro _ W an β₀ β a w hr;have ex:=jq hl (bD hx (bh hr x))
    let s:=strOf l
    have hlen:s.size=l.length:=rv l
    let cap:=(Question.appendCap s.size 0 e).cut (w.tape w.drawn (.appendCap s.size 0 e))
    have al6:s.size≤cap:=by simp[cap,Question.cut]
    let eH:List Value:=(l.map fun n=>((UInt8.ofNat n.toNat).toNat:Int)).map (.int .u8)
    let rest:List Value:=List.replicate (cap-s.size) (.int .u8 0)
    let w1:=w.drew.alloc (.cells (eH++rest).toArray e)
    have hw1:w1.heap[w.heap.size]? =some (.cells (eH++rest).toArray e (0,0)):=heap_alloc_new w.drew _;obtain⟨w2,fz',r1,r2,r3,r4,r5,r6,r7⟩:=lH (P:=P) (a:=⟨w.heap.size,0,none⟩) hw1 (.inl rfl)
    have aGu:bp ((Ty.int .u8).has β true) (l.map fun n=>((UInt8.ofNat n.toNat).toNat:Int)) eH:=by
     show bp _ _ (List.map _ (List.map _ l));generalize (l.map fun n=>((UInt8.ofNat n.toNat).toNat:Int))=m
     induction m with
     |nil=>exact .nil
     |cons x m ih=>exact bp.cons (vs:= [_]) rfl ih
    have iu:=mH (c:=cap) r2 aGu (by simp;omega) (by simp[rest,Ty.w];omega) r3;have hll:(l.map fun n=>((UInt8.ofNat n.toNat).toNat:Int)).length=s.size:=(by simp[hlen]);rw[hll]at iu
    obtain⟨β',h1,h2,h3⟩:=hr.heap.oL og (ver:=0) (w':=w2) (by rw[r5];show w.heap.size≤(w.drew.alloc _).heap.size;rw[World.size_alloc];exact Nat.le_succ _) (by rw[r6];rfl) (by rw[r7];rfl) (fun b hb=>by
     rw[r4 b (by show b≠w.heap.size;omega)];exact heap_alloc_old w.drew _ b hb) iu (fun a n c e _=>by simp at e;obtain⟨rfl,_⟩:=e;exact Nat.le_refl _)
    refine⟨β',w2,_,.slice (some ⟨w.heap.size,0,none⟩) s.size cap,?_,.inl rfl,?_,h1,h2⟩
    ·have hel:(strOf l).data.map (fun b=>Value.int .u8 b.toNat)=eH.toArray:=by
      apply Array.ext'
      simp[strOf,eH,List.map_map,Function.comp_def]
     have aGv:(strOf l).data.map (fun b=>Value.int .u8 b.toNat)++Array.replicate (cap-s.size) (Value.int .u8 0)=(eH++rest).toArray:=by
      rw[hel];apply Array.ext';simp[rest]
     have hq:(Question.appendCap s.size 0 e).forced=false:=rfl;simp only[execOp,ho,ex,convert,Sem.run_bind,run_underlying hs,run_underlying A8,run_underlying he,Result.andThen_ok,Conv.stringToBytes,run_choose_drew,hq,Bool.false_eq_true,if_false,newRow,run_newObj,Sem.run_pure];show((Sem.run P (markStringish ⟨w.drew.heap.size,0,none⟩) (w.drew.alloc (.cells ((strOf l).data.map (fun b=>Value.int .u8 b.toNat)++Array.replicate (cap-s.size) (Value.int .u8 0)) e))).andThen _).andThen _=_;rw[aGv];show((Sem.run P (markStringish ⟨w.heap.size,0,none⟩) w1).andThen _).andThen _=_;rw[r1];rfl
    ·refine⟨rfl,0,?_,Nat.le_refl _,fun _=>h3.symm⟩;show kd (setAt st.hp id _) id=_;rw[dt,if_pos rfl];rfl
   ·cases h
  ·cases h
 ·rename_i e' e hs A8
  split at h
  ·rename_i i ver
   split at h
   ·rename_i hsd
    split at h
    ·rename_i he;simp only[Ask.val]at h
     split at h
     ·rename_i ver' l hi
      split at h
      ·rename_i hc;obtain⟨rfl,gD⟩:=hc;simp at h;obtain⟨rfl,rfl,rfl⟩:=h;intro _ W an β₀ β a w hr;have hd:=bD hx (bh hr x);obtain⟨qP,hh⟩:=hr.heap.oK (p:=fun v=>a.eval x=v) (aB hi) hd.2;have aLb:=qP;obtain⟨a0,n,c,e1,hn,Rg,ha,eU⟩:=qP
       have Rh:0<c:=by
        have:0<l.length:=List.length_pos_iff.2 gD;omega
       obtain⟨a1,pre,eH,rest,elem,fz,rfl,k1,k2,k3,k4,k5,k6⟩:=eU Rh;obtain⟨w',fz',r1,r2,r3,r4,r5,r6,r7⟩:=lH (P:=P) k2 k6
       obtain⟨β',h1,h2,h3⟩:=hr.heap.vk (aB hi) (ver':=ver) (l':=l) (v:=β.h i) (w':=w') (.inr ⟨rfl,rfl⟩) (by omega) r6 r7 (fun b hb sO=>r4 b fun e=>sO (by subst e;exact⟨a1,n,c,e1,Rh,rfl⟩))
        (by rw[e1];exact⟨_,n,c,rfl,hn,Rg,by simp,fun _=>⟨a1,pre,eH,rest,elem,fz',rfl,k1,r2,k3,k4,k5,r3⟩⟩) (fun a n c e h0=>.inl ⟨a,n,c,e,h0,rfl⟩)
       refine⟨β',w',_,a.eval x,?_,.inl rfl,SV.eW h2 hd,h1,h2⟩;rw[hh,e1];subst hsd;have hee:e'=e:=(by rw[hs]at A8;simpa using A8);subst hee;have:a.eval x= .slice (some a1) n c:=(by rw[hh,e1]);simp[execOp,ho,this,convert,run_underlying hs,run_underlying he,r1]
      ·cases h
     ·cases h
    ·simp[Ask.val]at h
   ·simp[Ask.val]at h
  ·simp[Ask.val]at h
 ·simp[Ask.val]at h
end
noncomputable section
variable {P:Program} {st:St} {o:Oper} {q:Option Prop} {v:LV} {d:List (Nat×Item)}
theorem aA9{lo hi mx:Option Operand}{W:World}{an:Hp}{β₀ β:Env}{a:Act}{w:World}(hr:Rel W an β₀ β st a w){isS:Bool}{n c:Nat}{r:Nat×Nat×Nat}(h:mE n c (lo.map (ev st)) (hi.map (ev st)) (mx.map (ev st))=some r):
  (Instr.sliceBounds isS n c (lo.map a.eval) (hi.map a.eval) (mx.map a.eval)).run P w= .ok r w:=
 A7 (P:=P) (w:=w) (β:=β) (L:=kd st.hp) (lov:=lo.map a.eval) (hiv:=hi.map a.eval) (mxv:=mx.map a.eval) h
  (fun y hy=>by obtain⟨z,hz,rfl⟩:=map_some hy;exact⟨a.eval z,by simp[hz],bh hr z⟩) (by cases lo<;>simp)
  (fun y hy=>by obtain⟨z,hz,rfl⟩:=map_some hy;exact⟨a.eval z,by simp[hz],bh hr z⟩) (by cases hi<;>simp) (by cases mx<;>simp)
theorem Ho{t el:TypeId}{x:Operand}{lo hi mx:Option Operand}{b off n:Nat}(ho:o.op= .slice t x lo hi mx)(hx:jr (ev st x)=some (.ptr b off))(oh:oH P t=some (n,el))
  (h:((gd P 0 (ev st) (.slice t x lo hi mx)).val st.hp)=some (q,v,d)):gE P o st q v d:=by
 have hu:=mB oh;simp only[gd,hx,oh,Ask.val]at h
 split at h
 ·rename_i cells elem sz hb hs
  split at h
  ·rename_i ty n' l jR
   split at h
   ·rename_i x' y' hlo ZT
    split at h
    ·rename_i hc;obtain⟨rfl,rfl⟩:=hc
     cases h
     refine gE.pure fun hq W an β₀ β a w hr=>?_;obtain⟨q1,q2,q3⟩:0≤x'∧x'≤y'∧y'≤(n':Int):=hq;obtain⟨yU,ex⟩:=bD hx (bh hr x);have hsb:=sM (P:=P) hr (isS:=false) hlo ZT q1 q2 q3 (Nat.le_refl _);refine⟨.slice (some (if n'=x'.toNat then⟨β.b b,off,none⟩else(⟨β.b b,off,none⟩:Addr).add (x'.toNat*ty.w))) (y'.toNat-x'.toNat) (n'-x'.toNat),?_,yU,q1,by omega,by omega,some (if n'=x'.toNat then⟨β.b b,off,none⟩else(⟨β.b b,off,none⟩:Addr).add (x'.toNat*ty.w)),n'-x'.toNat,?_,?_,(fun e=>by cases e),fun h0=>?_⟩
     ·simp only[execOp,ho,ex,Instr.sliceAt,underlying,Sem.run_bind,run_program,Result.andThen_ok,hu,Instr.sureAddr,Sem.run_pure,hsb,run_sizeOf hs,Option.map_none]
     ·rw[show(y'-x').toNat=y'.toNat-x'.toNat from by omega]
     ·omega
     ·rw[if_neg (by omega)]
    ·cases h
   ·cases h
  ·obtain⟨r,hsp,he⟩:=map_some h
   cases he
   refine gE.pure fun _ W an β₀ β a w hr=>?_;obtain⟨yU,ex⟩:=bD hx (bh hr x);have hsb:=aA9 (P:=P) hr (isS:=false) hsp;refine⟨.slice (some ⟨β.b b,if r.2.2=r.1 then off else off+r.1*sz,none⟩) (r.2.1-r.1) (r.2.2-r.1),?_,yU,rfl⟩;simp only[execOp,ho,ex,Instr.sliceAt,underlying,Sem.run_bind,run_program,Result.andThen_ok,hu,Instr.sureAddr,Sem.run_pure,hsb,run_sizeOf hs]
   split<;>simp[cj]
 ·cases h
theorem xA{a:Option Addr}{c k:Nat}{f:Addr→Addr}(h:a=none→c=0):(if c=k then a else a.map f)=none→c-k=0:=by
 intro e
 split at e
 ·have:=h e;omega
 ·cases a with
  |none=>have:=h rfl;omega
  |some a=>cases e
theorem bB.aak{W:World}{an:Hp}{β₀ β:Env}{hp:Hp}{w:World}(h:bB W an β₀ β hp w){pm:Bool}{u u':Value}{t:Ty}{l l':List t.D}(hr:β.rd pm u t l)(oM:ca β pm w u' t l')(mF:∀b,inBlock u' b→inBlock u b):
  ∃β',bB W an β₀ β' hp w∧cb β β' (kd hp) (kd hp)∧β'.rd pm u' t l':=by
 obtain⟨h1,h2,h3⟩:=h.nZ oM fun b hb=>⟨((h.reads _ _ _ _ hr).2 b (mF b hb)).1,((h.reads _ _ _ _ hr).2 b (mF b hb)).2,h.from_ pm u t l b hr (mF b hb)⟩;exact⟨_,h1,h2,h3⟩
theorem al7{W:World}{an:Hp}{β₀ β:Env}{hp:Hp}{w:World}(h:bB W an β₀ β hp w){s r:SV}{pm:Bool}{t:Ty}{l:List t.D}{x y:Int}(hc:(ju s).val hp=some (pm,⟨t,l⟩))(hs:avD t.w x y s=some r)
  {a:Option Addr} {n c:Nat} (hd:s.den β (kd hp) (.slice a n c)) (q1:0≤x) (q2:x≤y) (q3:y≤l.length):
  ∃β',bB W an β₀ β' hp w∧cb β β' (kd hp) (kd hp)∧r.den β' (kd hp) (.slice (if c=x.toNat then a else a.map (·.add (x.toNat*t.w))) (y.toNat-x.toNat) (c-x.toNat)):=by
 have oM:=kN h hc hd;obtain⟨a',n',c',e,hn,Rg,hz,eU⟩:=oM;simp at e;obtain⟨rfl,rfl,rfl⟩:=e;have hyx:(y-x).toNat=y.toNat-x.toNat:=by omega
 unfold avD at hs
 split at hs
 ·rename_i ly nn t' l';simp at hs;subst hs
  have rA:pm=ly∧(⟨t,l⟩:(t:Ty)×List t.D)=⟨t',l'⟩:=by
   unfold ju at hc;rw[Ask.eJ]at hc;simp[C4,Ask.val,Ask.dc,jt]at hc;obtain⟨h1,rfl,h2⟩:=hc;exact⟨h1.symm,by simpa using h2.symm⟩
  obtain⟨rfl,e⟩:=rA
  cases e
  have Vb:wG (.slice a n c) t.w x (y-x) (.slice (if c=x.toNat then a else a.map (·.add (x.toNat*t.w))) (y.toNat-x.toNat) (c-x.toNat)):=by
   refine⟨_,_,_,_,_,rfl,q1,by omega,by omega,by rw[hyx],by omega,xA hz,fun h0=>?_⟩;obtain⟨a0,_,rfl,_⟩:=eU (by omega);exact⟨a0,rfl,by rw[if_neg (by omega)];rfl⟩
  have aGw:ca β pm w (.slice a n c) t l:=⟨_,_,_,rfl,hn,Rg,hz,eU⟩;obtain⟨_,_,qN⟩:=hd
  have mF:∀b,inBlock (Value.slice (if c=x.toNat then a else a.map (·.add (x.toNat*t.w))) (y.toNat-x.toNat) (c-x.toNat)) b→inBlock (Value.slice a n c) b:=by
   intro b hb
   cases a with
   |none=>split at hb<;>exact hb.elim
   |some a=>
    split at hb
    ·obtain⟨h1,h2⟩:=hb;exact⟨by omega,h2⟩
    ·obtain⟨h1,h2⟩:=hb;exact⟨by omega,by rw[← h2,dX]⟩
  rcases qN with qN|⟨rfl,qN⟩|⟨e,rfl⟩
  ·obtain⟨β',k1,k2,k3⟩:=h.aak qN ((h.reads _ _ _ _ qN).1.sub Vb) mF;exact⟨β',k1,k2,rfl,fun e=>(by cases e),.inl k3⟩
  ·obtain⟨β',k1,k2,k3⟩:=h.aak qN ((h.reads _ _ _ _ qN).1.sub Vb) mF;exact⟨β',k1,k2,rfl,fun e=>(by cases e),.inr (.inl ⟨rfl,k3⟩)⟩
  ·simp at e;obtain⟨rfl,rfl,rfl⟩:=e;refine⟨β,h,cb.refl _ _,rfl,fun e=>(by cases e),.inr (.inr ⟨?_,by simp⟩)⟩;have vl:x.toNat=0:=(by simp at q3;omega);have yS:y.toNat=0:=(by simp at q3;omega);rw[vl,yS];rfl
 ·rename_i i ver;simp at hs;subst hs;obtain⟨k1,cc,k2,k3,k4⟩:=hd;refine⟨β,h,cb.refl _ _,rfl,cc,k2,k3,fun e=>⟨a,n,c,_,_,(k4 e).symm,q1,by omega,by omega,by rw[hyx],by omega,xA hz,fun h0=>?_⟩⟩;obtain⟨a0,_,rfl,_⟩:=eU (by omega);exact⟨a0,rfl,by rw[if_neg (by omega)];rfl⟩
 ·rename_i i ver w' z m;simp at hs;subst hs
  have hw:w'=t.w:=by
   unfold ju at hc;rw[Ask.eJ]at hc
   split at hc
   ·rename_i t0 _;rw[Ask.dc]at hc;obtain⟨⟨ly,l'⟩,h1,h2⟩:=map_some hc;simp at h2;obtain⟨_,rfl,_⟩:=h2;simp only[jt,Ask.val]at h1
    split at h1
    ·split at h1
     ·split at h1
      ·rename_i hh;exact hh.2
      ·cases h1
     ·cases h1
    ·cases h1
   ·cases hc
  subst hw;obtain⟨k1,cc,k2,k3,k4⟩:=hd;refine⟨β,h,cb.refl _ _,rfl,cc,k2,k3,fun e=>?_⟩;obtain⟨a1,m1,c1,a2,c2,e1,z0,m0,hle,e2,hc2,hz2,sP⟩:=k4 e;simp at e2;obtain⟨rfl,e3,rfl⟩:=e2;refine⟨a1,m1,c1,_,_,e1,by omega,by omega,by omega,by rw[hyx],by omega,xA hz2,fun h0=>?_⟩;obtain⟨a0,rfl,rfl⟩:=sP (by omega);refine⟨a0,rfl,?_⟩;rw[if_neg (by omega),Option.map_some,yV,← Nat.add_mul,show(z+x).toNat=z.toNat+x.toNat from by omega]
 ·rename_i b o' t' m z k;simp at hs;subst hs;have ht:t'=t:=by have:=Va hc;simp[C4,Ask.val]at this;exact this
  subst ht;obtain⟨k1,z0,m0,zm,a2,c2,e2,hc2,hz2,sP⟩:=hd;simp at e2;obtain⟨rfl,e3,rfl⟩:=e2;refine⟨β,h,cb.refl _ _,k1,by omega,by omega,by omega,_,_,by rw[hyx],by omega,xA hz2,fun h0=>?_⟩;have:=sP (by omega);subst this;rw[if_neg (by omega),Option.map_some,yV,← Nat.add_mul,show(z+x).toNat=z.toNat+x.toNat from by omega]
 ·cases hs
end
noncomputable section
variable {P:Program} {st:St} {o:Oper} {q:Option Prop} {v:LV} {d:List (Nat×Item)}
theorem aal{id:Nat}{t:TypeId}{x:Operand}{lo hi mx:Option Operand}(ho:o.op= .slice t x lo hi mx)
  (h:((gd P id (ev st) (.slice t x lo hi mx)).val st.hp)=some (q,v,d)):gE P o st q v d:=by
 have h0:=h;simp only[gd]at h
 split at h
 ·rename_i b off n el _ hx oh;refine Ho ho hx oh ?_;simp only[gd]at h0 ⊢;exact h0
 ·rename_i b off len cap el hx oh n7;have hu:=dY n7;simp only[Ask.val]at h
  split at h
  ·rename_i l hh m sz hsp hs
   cases h
   refine gE.pure fun _ W an β₀ β a w hr=>?_;obtain⟨yU,ex⟩:=bD hx (bh hr x);have hsb:=aA9 (P:=P) hr (isS:=true) hsp;refine⟨.slice (some ⟨β.b b,if m=l then off else off+l*sz,none⟩) (hh-l) (m-l),?_,yU,rfl⟩;simp only[execOp,ho,ex,Instr.sliceAt,Instr.slice,underlying,Sem.run_bind,run_program,Result.andThen_ok,hu,Sem.run_pure,hsb,run_sizeOf hs]
   split<;>simp[cj]
  ·cases h
 ·rename_i s el hx oh n7;have hu:=dY n7;rw[Ask.dc]at h
  split at h
  ·rename_i pm ty l sz hc hs
   split at h
   ·rename_i x' y' hlo ZT
    split at h
    ·rename_i hw;subst hw;obtain⟨r,L8,he⟩:=map_some h
     cases he
     intro hq W an β₀ β a w hr;obtain⟨q1,q2,q3⟩:0≤x'∧x'≤y'∧y'≤(l.length:Int):=hq;have hd:=bD hx (bh hr x);obtain⟨a',n',c',ex,hn,Rg,_⟩:=kN hr.heap hc hd;rw[ex]at hd;rw[← hn]at ZT q3;have hsb:=sM (P:=P) hr (isS:=true) hlo ZT q1 q2 q3 Rg;obtain⟨β',k1,k2,k3⟩:=al7 hr.heap hc L8 hd q1 q2 (by rw[← hn];exact q3);refine⟨β',w,_,_,?_,.inl rfl,k3,k1,k2⟩;simp only[execOp,ho,ex,Instr.sliceAt,Instr.slice,underlying,Sem.run_bind,run_program,Result.andThen_ok,hu,Sem.run_pure,Option.map_none];rw[hsb];simp only[Result.andThen_ok,run_sizeOf hs,Sem.run_pure]
    ·cases h
   ·cases h
  ·cases h
 ·simp[Ask.val]at h
theorem C8{id:Nat}{t:TypeId}{x y:Operand}(ho:o.op= .makeSlice t x y)(h:((gd P id (ev st) (.makeSlice t x y)).val st.hp)=some (q,v,d))(og:(∃x,(id,x)∈d)→kd st.hp id=none):gE P o st q v d:=by
 simp only[gd,Ask.val]at h
 split at h
 ·rename_i el k1 n k2 c n7 hn hc;have hu:=dY n7
  split at h
  ·rename_i ty sz z by_ hty hs hz L9
   split at h
   ·rename_i mG;obtain⟨rfl,jn,Vc⟩:=mG
    split at h
    ·rename_i z0 hz0
     cases h
     have aam:=og ⟨_,by simp;rfl⟩;intro hq W an β₀ β a w hr;obtain⟨rfl,xB,aLc,aLd⟩:c=n∧0≤n∧(by_:Int)*n≤2 ^ 46∧n≤2 ^ 46:=hq;have en:=fx hn (bh hr x);have ec:=fx hc (bh hr y);obtain⟨zv,Ri,hzd⟩:=oI (P:=P) (w:=w) (β:=β) (L:=kd st.hp) hz;have hzs:zv.cells.size=ty.w:=(by have:=hzd.length;simp at this;omega);have hzh:=ty.iv hz0 hzd;have avK:=wrap_small (n:=c) xB (by omega)
     have aGy:∃i,P.info? el=some i∧i.bytes=by_:=by
      unfold oG at L9;obtain⟨i,h1,h2⟩:=map_some L9;exact⟨i,h1,h2⟩
     obtain⟨i,hi,hib⟩:=aGy;have jR:bp (ty.has β true) (List.replicate c.toNat z0) ((List.replicate c.toNat zv.cells.toList).flatten):=yW hzh _;have iu:=mH (β:=β) (w:=w.alloc (.cells ((List.replicate c.toNat zv.cells.toList).flatten++ []).toArray el)) (b:=w.heap.size) (elem:=el) (fz:=(0,0)) (rest:= []) (c:=c.toNat) (heap_alloc_new w _) jR (by simp) (by simp) (.inl rfl);rw[List.append_nil,List.length_replicate]at iu;obtain⟨β',h1,h2,h3⟩:=hr.heap.oL aam (ver:=0) (w':=w.alloc (.cells ((List.replicate c.toNat zv.cells.toList).flatten).toArray el)) (by rw[World.size_alloc];exact Nat.le_succ _) rfl rfl (fun b hb=>heap_alloc_old w _ b hb) iu (fun a n c e _=>by simp at e;obtain⟨rfl,_⟩:=e;exact Nat.le_refl _);refine⟨β',_,_,.slice (some ⟨w.heap.size,0,none⟩) c.toNat c.toNat,?_,.inl rfl,?_,h1,h2⟩
     ·have hti:(typeInfo el).run P w= .ok i w:=by simp[typeInfo,hi]
      have aan:¬ ((c<0)∨((i.bytes:Int)*c>2 ^ 48)):=by
       rw[hib];intro hh;rcases hh with hh|hh<;>omega
      have ama:(decide (c<0)||decide ((i.bytes:Int)*c>2 ^ 48))=false:=by
       have:¬ (c<0)∧¬ ((i.bytes:Int)*c>2 ^ 48):=⟨fun hh=>aan (.inl hh),fun hh=>aan (.inr hh)⟩;simp only[this.1,this.2,decide_false,Bool.or_self]
      simp only[execOp,ho,en,ec,Instr.makeSlice,Sem.run_bind,run_underlying hu,Result.andThen_ok,asInt,asIntOf,Sem.run_pure,hti,avK,ama,Bool.false_or];rw[if_neg (by simp;omega)];simp only[Sem.run_bind,run_askRoom,Result.andThen_ok,run_sizeOf hs]
      by_cases Mu:c.toNat*ty.w=0
      ·have h01:c.toNat=0:=by
        rcases Nat.mul_eq_zero.1 Mu with k|k
        ·exact k
        ·omega
       rw[if_pos Mu];simp only[Sem.run_bind,Result.andThen_ok,newRow,run_newObj,Sem.run_pure,h01];have hr0:(Array.range 0).map (fun x=>(#[]:Array Value)[x%(#[]:Array Value).size]!)= #[]:=(by simp);rw[Nat.zero_mul,hr0];simp
      ·rw[if_neg Mu];simp only[Sem.run_bind,Ri,Result.andThen_ok,newRow,run_newObj,Sem.run_pure,l9 c.toNat hzs];rfl
     ·refine⟨rfl,0,?_,Nat.le_refl _,fun _=>h3.symm⟩;show kd (setAt st.hp id _) id=_;rw[dt,if_pos rfl];rfl
    ·cases h
   ·cases h
  ·cases h
 ·cases h
theorem A9{id:Nat}{t:TypeId}{len:Nat}{parts:Array (Nat×Operand)}(ho:o.op= .buildSlice t len parts)(h:((gd P id (ev st) (.buildSlice t len parts)).val st.hp)=some (q,v,d))(og:(∃x,(id,x)∈d)→kd st.hp id=none):gE P o st q v d:=by
 simp only[gd,Ask.val]at h
 split at h
 ·rename_i el n7;have hu:=dY n7
  split at h
  ·rename_i sz z hs hz
   split at h
   ·rename_i mG;obtain⟨G5,Vc,jn⟩:=mG
    split at h
    ·rename_i l hl
     have base:∀ (W:World) (an:Hp) (β₀ β:Env) (a:Act) (w:World),Rel W an β₀ β st a w→
       ∃c:List Value,bz β (kd st.hp) l c∧(execOp a.eval o).run P w= .ok (.value (.slice (some ⟨w.heap.size,0,none⟩) len len)) (w.alloc (.cells c.toArray el)):=by
      intro W an β₀ β a w hr;obtain⟨zv,Ri,hzd⟩:=oI (P:=P) (w:=w) (β:=β) (L:=kd st.hp) hz;have hzs:zv.cells.size=sz:=by have:=hzd.length;simp at this;omega
      obtain⟨c,hcc,hd⟩:=C1 (β:=β) (L:=kd st.hp) (place:=fun i=>some (i*sz,sz)) _ (parts.toList.map fun p=>(p.1,a.eval p.2)) _ _ l (Hn hzd len)
       (bX.of_map _ _ _ fun p _=>⟨rfl,bh hr p.2⟩) hl
      refine⟨c,hd,?_⟩;simp only[execOp,ho,Instr.buildSlice,Sem.run_bind,run_underlying hu,Result.andThen_ok,run_sizeOf hs];rw[if_neg (by omega)]
      have aBb:Instr.fill (fun i=>some (i*sz,sz)) ((List.replicate len zv.cells.toList).flatten).toArray (Array.map (fun x=>match x with|(i,x)=>(i,a.eval x)) parts).toList=some c.toArray:=by
       rw[← hcc];simp
      by_cases Mu:len*sz=0
      ·have h01:len=0:=by
        rcases Nat.mul_eq_zero.1 Mu with k|k
        ·exact k
        ·omega
       rw[if_pos Mu]
       have aGA:Instr.fill (fun i=>some (i*sz,sz)) #[] (Array.map (fun x=>match x with|(i,x)=>(i,a.eval x)) parts).toList=some c.toArray:=by
        rw[← aBb,h01];simp
       simp only[Sem.run_bind,Result.andThen_ok,Sem.run_pure,Mu];have hr0:(Array.range 0).map (fun x=>(#[]:Array Value)[x%(#[]:Array Value).size]!)= #[]:=(by simp);rw[hr0,aGA];simp[newRow]
      ·rw[if_neg Mu];simp only[Sem.run_bind,Ri,Result.andThen_ok,Sem.run_pure,l9 len hzs];rw[aBb];simp[newRow]
     have aBc:some (q,v,d)=some ((none:Option Prop),LV.one (.sc (.slice id 0 len len)),[(id,Item.bH l el)])→gE P o st q v d:=by
      intro he;cases he;have og:=og ⟨_,by simp;rfl⟩;intro _ W an β₀ β a w hr;obtain⟨c,hd,et⟩:=base W an β₀ β a w hr;obtain⟨β',h1,h2,h3⟩:=hr.heap.aag og el hd;refine⟨β',_,_,_,et,.inl rfl,⟨?_,by rw[h3]⟩,h1,h2⟩;show kd (setAt st.hp id _) id=_;rw[dt,if_pos rfl];rfl
     split at h
     ·rename_i ty hty
      split at h
      ·rename_i hw;subst hw
       split at h
       ·rename_i xs hxs
        cases h
        have og:=og ⟨_,by simp;rfl⟩;intro _ W an β₀ β a w hr;obtain⟨c,hd,et⟩:=base W an β₀ β a w hr;obtain⟨hh,hlen⟩:=oC (R:=ty.has β true) (fun a x vs h hd=>ty.iv h hd) _ hxs hd;have iu:=mH (β:=β) (w:=w.alloc (.cells (c++ []).toArray el)) (b:=w.heap.size) (elem:=el) (fz:=(0,0)) (rest:= []) (c:=len) (heap_alloc_new w _) hh (by omega) (by simp[hlen]) (.inl rfl);rw[List.append_nil,hlen]at iu;obtain⟨β',h1,h2,h3⟩:=hr.heap.oL og (ver:=0) (w':=w.alloc (.cells c.toArray el)) (by rw[World.size_alloc];exact Nat.le_succ _) rfl rfl (fun b hb=>heap_alloc_old w _ b hb) iu (fun a n c e _=>by simp at e;obtain⟨rfl,_⟩:=e;exact Nat.le_refl _);refine⟨β',_,_,_,et,.inl rfl,⟨rfl,0,?_,Nat.le_refl _,fun _=>h3.symm⟩,h1,h2⟩;show kd (setAt st.hp id _) id=_;rw[dt,if_pos rfl];rfl
       ·exact aBc h.symm
      ·cases h
     ·exact aBc h.symm
    ·cases h
   ·cases h
  ·cases h
 ·cases h
theorem Vd{op:BinOp}{t:TypeId}{ox oy:Operand}{x y:LV}{b:Bool}(h:Mr P op t x y=some b){w:World}{β:Env}{L:Nat→Option Kd}{xv yv:Value}(hx:x.den β L xv)(hy:y.den β L yv):
  (do eqGuard op t ox oy xv yv;binOp op t xv yv:Sem Value).run P w= .ok (.bool b) w:=by
 unfold Mr at h
 have key:∀ {pm:Bool} {ty:Ty} {l:List ty.D} {n c:Nat} {e:TypeId},eE P t=some e→(LV.one (.sc (.rd pm true ty l))).den β L xv→(LV.one (.sc (.fO (.slice none n c)))).den β L yv→
   ∃a n c n' c',xv= .slice (some a) n c∧yv= .slice none n' c':=by
  intro pm ty l n c e _ h1 h2;obtain⟨_,h3,_⟩:=h1;obtain⟨_,rfl⟩:=h2;have:=h3 rfl
  cases xv with
  |slice a n' c'=>cases a with
   |none=>exact absurd rfl this
   |some a=>exact⟨a,n',c',n,c,rfl,rfl⟩
  |_=>exact this.elim
 split at h
 ·rename_i e n7
  cases h
  obtain⟨a,n,c,n',c',rfl,rfl⟩:=key n7 hx hy;rw[Sem.run_bind,dA (by simp) (by simp)];exact pS rfl (ku (dY n7))
 ·rename_i e n7
  cases h
  obtain⟨a,n,c,n',c',rfl,rfl⟩:=key n7 hx hy;rw[Sem.run_bind,dA (by simp) (by simp)];exact pT rfl (ku (dY n7))
 ·cases h
theorem amb{id:Nat}(h:(gd P id (ev st) o.op).val st.hp=some (q,v,d))(og:(∃x,(id,x)∈d)→kd st.hp id=none):gE P o st q v d:=by
 cases ho:o.op<;>rw[ho]at h<;>(try (simp[gd,Ask.val]at h;done))
 case slice t x lo hi mx=>exact aal ho h
 case makeSlice t x y=>exact C8 ho h og
 case buildSlice t n parts=>exact A9 ho h og
 all_goals simp only[gd]at h
 case move x=>
  cases h
  exact .pure fun _ W an β₀ β a w hr=>⟨a.eval x,by simp[execOp,ho],bh hr x⟩
 case assign x=>
  cases h
  exact .pure fun _ W an β₀ β a w hr=>⟨a.eval x,by simp[execOp,ho],bh hr x⟩
 case pick c x y=>
  simp only[Ask.val]at h
  split at h
  ·rename_i t hc
   cases h
   refine .pure fun _ W an β₀ β a w hr=>⟨if t then a.eval x else a.eval y,?_,?_⟩
   ·have:=bh hr c;rw[hc]at this;have e:a.eval c= .bool t:=this;simp[execOp,ho,e,asBool]
   ·cases t
    ·exact bh hr y
    ·exact bh hr x
  ·rename_i t hc
   have aao:∀ (a:Act) (w:World) {W:World} {an:Hp} {β₀ β:Env},Rel W an β₀ β st a w→(execOp a.eval o).run P w= .ok (.value (if t then a.eval x else a.eval y)) w:=by
    intro a w W an β₀ β hr;have:=bh hr c;rw[hc]at this;have e:a.eval c= .bool t:=this;simp[execOp,ho,e,asBool]
   split at h
   ·rename_i u v hx hy
    cases h
    refine .pure fun _ W an β₀ β a w hr=>⟨_,aao a w hr,?_⟩
    cases t
    ·exact Hh (J:=aae) (L₁:=kd st.hp) ⟨fun _ _ h=>h,fun _ _ _ _ h=>(by cases h),fun _ h=>(by cases h)⟩ (hy▸bh hr y)
    ·exact Mj (J:=aae) (L₁:=kd st.hp) ⟨fun _ _ h=>h,fun _ _ _ _ h=>(by cases h),fun _ h=>(by cases h)⟩ (hx▸bh hr x)
   ·rename_i u hx _
    cases h
    refine .pure fun hq W an β₀ β a w hr=>⟨_,aao a w hr,?_⟩;have ht:t=true:=hq;subst ht;exact hx▸bh hr x
   ·rename_i u hy _
    cases h
    refine .pure fun hq W an β₀ β a w hr=>⟨_,aao a w hr,?_⟩;have ht:t=false:=hq;subst ht;exact hy▸bh hr y
   ·cases h
  ·cases h
 case alloc t=>
  simp only[Ask.val]at h;obtain⟨l,hl,he⟩:=map_some h
  cases he
  have og:=og ⟨_,by simp;rfl⟩;refine Hk (mk:=fun _=>Instr.alloc t true (.tuple #[])) (fun a=>by simp[execOp,ho]) (fun W an β₀ β a w hr=>?_) og;obtain⟨z,hz,hd⟩:=oI (P:=P) (w:=w) (β:=β) (L:=kd st.hp) hl;refine⟨_,hd,?_⟩;simp only[Instr.alloc,Sem.run_bind,hz,Result.andThen_ok,newVar,newRow,run_newObj,Sem.run_pure];simp
 case box t x=>
  simp only[Ask.val]at h;obtain⟨l,hl,he⟩:=map_some h
  cases he
  have og:=og ⟨_,by simp;rfl⟩;refine Hk (mk:=fun a=>Instr.box t (a.eval x)) (fun a=>by simp[execOp,ho]) (fun W an β₀ β a w hr=>?_) og;obtain⟨cs,hcs,hd⟩:=oF hl (bh hr x);refine⟨_,hd,?_⟩;simp only[Instr.box,Sem.run_bind,Result.andThen_ok,newVar,newRow,run_newObj,Sem.run_pure,hcs];rfl
 case build t parts=>
  simp only[Ask.val]at h
  split at h
  ·rename_i z place hz hpl;obtain⟨l,hl,he⟩:=map_some h
   cases he
   refine .pure fun _ W an β₀ β a w hr=>?_;obtain⟨zv,Ri,hzd⟩:=oI (P:=P) (w:=w) (β:=β) (L:=kd st.hp) hz
   obtain⟨c,hc,hd⟩:=C1 (β:=β) (L:=kd st.hp) (place:=place) _ (parts.toList.map fun p=>(p.1,a.eval p.2)) z zv.cells.toList l hzd
    (bX.of_map _ _ _ fun p _=>⟨rfl,bh hr p.2⟩) hl
   refine⟨.agg c.toArray,?_,c,rfl,hd⟩;unfold Q9 at hpl
   split at hpl
   ·rename_i fs hu;obtain⟨pl,aGC,rfl⟩:=map_some hpl;have:=n6 (P:=P) (w:=w) fs.toList pl aGC;simp only[execOp,ho,Instr.build,Sem.run_bind,Ri,Result.andThen_ok,underlying,run_program,hu,Sem.run_pure];rw[Array.mapM_eq_mapM_toList];simp only[Sem.run_map,this,Result.andThen_ok];simp at hc;simp[hc]
   ·rename_i n e hu;obtain⟨s,hs,rfl⟩:=map_some hpl;simp only[execOp,ho,Instr.build,Sem.run_bind,Ri,Result.andThen_ok,underlying,run_program,hu,Sem.run_pure,run_sizeOf hs];simp at hc;simp[hc]
   ·simp at hpl
  ·cases h
 case load t x=>
  split at h
  ·rename_i s hx;exact al4 ho hx h
  ·simp[Ask.val]at h
 case store t x y=>
  split at h
  ·rename_i s l hx hl;exact aaj ho hx hl h
  ·simp[Ask.val]at h
 case nilCheck x=>
  simp only[Ask.val]at h
  split at h
  ·rename_i b off hx
   cases h
   refine .pure fun _ W an β₀ β a w hr=>?_;have hd:=bh hr x;rw[hx]at hd;obtain⟨dU,e⟩:kd st.hp b=some .bH∧a.eval x= .pointer (some ⟨β.b b,off,none⟩):=hd;exact⟨_,by simp[execOp,ho,e],dU,rfl⟩
  ·rename_i s wd z f hx
   cases h
   refine .pure fun _ W an β₀ β a w hr=>?_;have hd:=bh hr x;rw[hx]at hd;have hd':=hd;obtain⟨ad,n,c,h1,h2,h3,e⟩:=hd;refine⟨.pointer (some (ad.add (z.toNat*wd+f))),by simp[execOp,ho,e],?_⟩;rw[e]at hd';exact hd'
  ·cases h
 case binOp op t x y yt=>
  simp only[Ask.val]at h
  split at h
  ·rename_i b hn
   cases h
   refine .pure fun hq W an β₀ β a w hr=>⟨.bool b,?_,rfl⟩;have:=Vd (w:=w) (ox:=x) (oy:=y) hn (bh hr x) (bh hr y);simp only[execOp,ho];rw[Sem.run_bind,this];rfl
  ·obtain⟨r,L8,he⟩:=map_some h
   cases he
   refine .pure fun hq W an β₀ β a w hr=>?_;obtain⟨val,e1,e2⟩:=aaa (P:=P) (w:=w) (ox:=x) (oy:=y) (s:=r.2) (q:=r.1) (by rw[L8]) hq (bh hr x) (bh hr y);refine⟨val,?_,e2⟩;simp only[execOp,ho];rw[Sem.run_bind,e1];rfl
 case unOp op t x=>
  simp only[Ask.val]at h
  split at h
  ·rename_i s h1;obtain⟨r,L8,he⟩:=map_some h
   cases he
   refine .pure fun hq W an β₀ β a w hr=>?_;have hd:=bD h1 (bh hr x)
   cases s<;>simp only[aA1]at L8<;>try (simp at L8;done)
   ·cases op<;>simp at L8<;>subst L8<;>(have e:a.eval x=_:=hd)
    ·exact⟨_,by simp[execOp,ho,e,Op.unary,Op.intArith];rfl,by simp only[LV.den,VV.den,SV.den,map2_val];simp[SI.val]⟩
    ·exact⟨_,by simp only[execOp,ho,e,Op.unary,Op.intBits];rfl,by simp only[LV.den,VV.den,SV.den,map2_val];rfl⟩
   ·rename_i b
    cases op<;>simp at L8<;>subst L8
    have e:a.eval x=_:=hd;exact⟨_,by simp[execOp,ho,e,Op.unary];rfl,by cases b<;>simp[LV.den,VV.den,SV.den,SB.val]⟩
  ·cases h
 case convert src dst x=>
  split at h
  ·rename_i s hx;exact al5 ho hx h og
  ·simp[Ask.val]at h
 case sliceToArrayPointer t x=>
  split at h
  ·rename_i b off len cap n e hx ha;simp only[Ask.val]at h
   split at h
   ·rename_i hle
    cases h
    refine .pure fun _ W an β₀ β a w hr=>?_;obtain⟨dU,ex⟩:=bD hx (bh hr x);have hu:=mB ha;exact⟨_,by simp[execOp,ho,ex,Instr.arrayAt,underlying,hu,Nat.not_lt.2 hle],dU,rfl⟩
   ·cases h
  ·rename_i s n e hns hx ha;rw[Ask.dc]at h
   split at h
   ·rename_i pm ty l hc
    split at h
    ·rename_i mG;obtain⟨xB,hs⟩:=mG
     cases h
     refine .pure fun hq W an β₀ β a w hr=>?_;have U9:n≤l.length:=hq;have hd:=bD hx (bh hr x);obtain⟨a',n',c',ex,hn,Rg,_,eU⟩:=kN hr.heap hc hd;obtain⟨a0,_,rfl,_⟩:=eU (by omega);have hu:=mB ha;rw[ex]at hd;refine⟨.pointer (some a0),?_,a0,n',c',hd,Int.le_refl _,by omega,by simp[Addr.add]⟩;simp[execOp,ho,ex,Instr.arrayAt,underlying,hu,show ¬n'<n by omega]
    ·cases h
   ·cases h
  ·simp[Ask.val]at h
 case fieldAddr s x f=>
  simp only[Ask.val]at h
  split at h
  ·rename_i av fs hx hf;have hu:=yN hf
   split at h
   ·rename_i fd hfd;have amc:fs.toArray[f]? =some fd:=by simpa using hfd
    split at h
    ·rename_i n hn
     split at h
     ·cases h
     ·rename_i xB
      split at h
      ·rename_i b off
       cases h
       refine .pure fun _ W an β₀ β a w hr=>?_;obtain⟨dU,ex⟩:=bD hx (bh hr x);refine⟨.pointer (some ⟨β.b b,off+fd.offset,none⟩),?_,dU,rfl⟩;simp only[execOp,ho,ex,Instr.fieldAt,underlying,Sem.run_bind,run_program,Result.andThen_ok,hu,Sem.run_pure,amc,Instr.sureAddr,fieldPlace,run_sizeOf hn,xB,if_false,cj]
      ·rename_i s' wd z f0
       cases h
       refine .pure fun _ W an β₀ β a w hr=>?_;obtain⟨ad,n',c,h1,h2,h3,ex⟩:=bD hx (bh hr x);refine⟨.pointer (some (ad.add (z.toNat*wd+(f0+fd.offset)))),?_,ad,n',c,h1,h2,h3,rfl⟩;simp only[execOp,ho,ex,Instr.fieldAt,underlying,Sem.run_bind,run_program,Result.andThen_ok,hu,Sem.run_pure,amc,Instr.sureAddr,fieldPlace,run_sizeOf hn,xB,if_false,yV,Nat.add_assoc]
      ·cases h
    ·cases h
   ·cases h
  ·cases h
 case field s x f=>
  simp only[Ask.val]at h
  split at h
  ·rename_i l fs hx hf
   split at h
   ·rename_i fd hfd;obtain⟨y,hy,he⟩:=map_some h
    cases he
    refine .pure fun _ W an β₀ β a w hr=>?_;have hd:=bh hr x;rw[hx]at hd;obtain⟨cs,ex,hd⟩:=hd;have hu:=yN hf;have amc:fs.toArray[f]? =some fd:=(by simpa using hfd);obtain⟨val,h1,h2⟩:=jQ (P:=P) (w:=w) hd hy;refine⟨val,?_,h2⟩;simp[execOp,ho,ex,Instr.field,underlying,hu,amc,asAgg,h1]
   ·cases h
  ·cases h
 case indexAddr t x i=>
  split at h
  ·rename_i s hx;exact Mt ho hx h
  ·simp[Ask.val]at h
 case index t x i=>
  simp only[Ask.val]at h;obtain⟨r,L8,he⟩:=map_some h
  cases he
  exact avG ho (by rw[L8])
 case extract x i=>
  simp only[Ask.val]at h
  split at h
  ·rename_i l hx;obtain⟨y,hy,he⟩:=map_some h
   cases he
   refine .pure fun _ W an β₀ β a w hr=>?_;have hd:=bh hr x;rw[hx]at hd;obtain⟨cs,ex,hd⟩:=hd;obtain⟨val,h1,h2⟩:=hd.get hy;have h1':cs.toArray[i]? =some val:=(by simpa using h1);exact⟨val,by simp[execOp,ho,ex,Instr.extract,h1'],h2⟩
  ·cases h
end
def aap(P:Program)(ty:Ty)(t:TypeId)(x:SV):Ask (Option (Bool×List ty.D)):=
 match eE P t with
 |some _=>jt ty x
 |none=>match P.underlying t with
  |some .string=>.ret (if h:Ty.int .u8=ty then(oD x).map fun l=>(true,h▸(l.map fun n=>((UInt8.ofNat n.toNat).toNat:Int)))else none)
  |_=>.ret none
def avM(P:Program)(t:TypeId)(x:SV):Ask (Option SI):=
 match x with
 | .fO (.slice _ n _)=>.ret ((eE P t).map fun _=>.lit n)
 | .slice _ _ n _=>.ret ((eE P t).map fun _=>.lit n)
 | .str l=>.ret (if P.underlying t matches some .string then some (.sym l.length)else none)
 | .fO (.string s)=>.ret (if P.underlying t matches some .string then some (.lit s.size)else none)
 |x=>match eE P t with
  |some _=>(ju x).map fun c=>c.map fun c=>.sym c.2.2.length
  |none=>.ret none
def vm(f:Int→Int→Int)(k:IntKind):SI→List SV→Option SI
 |x,[]=>some x
 |x,.int k' y::l=>if k'=k then vm f k (map2 f x y) l else none
 |_,_=>none
def aaq(x y:Int):Int:=if y<x then y else x
def aar(x y:Int):Int:=if y>x then y else x
def gq{α:Type}(l:List α)(z len:Nat)(m:List α):List α:=l.take z++(m.take len++l.drop (z+min len m.length))
def aas(P:Program)(id:Nat)(t u:TypeId)(s x:SV):Ask Stp:=
 match eE P t with
 |none=>.ret none
 |some el=>match A6 P 8 el,dz P el,mC P el,oG P el with
  |some ty,some sz,some z,some by_=>
   if sz=ty.w∧0<ty.w∧wL z=ty.w then
    (aap P ty u x).bind fun c=>match c with
     |some (pm,m)=>if pm||ty.flat then
       match s with
       | .fO (.slice none 0 0)=>.ret (some (some (m.length*by_≤70368744177664∧m.length≤70368744177664),.one (.sc (.sl id 0)),[(id,.own 0 ty m)]))
       | .sl i ver=>.get i fun y=>.ret (match y with
        |some (.own ver' u3 l)=>if h:u3=ty then(if ver=ver' then some (some ((l.length+m.length)*by_≤70368744177664∧l.length+m.length≤70368744177664),.one (.sc (.sl i (ver+1))),[(i,.own (ver+1) ty ((h▸l:List ty.D)++m))])else none)else none
        |_=>none)
       |_=>.ret none
      else .ret none
     |none=>.ret none
   else .ret none
  |_,_,_,_=>.ret none
def Mv(P:Program)(id:Nat)(t u:TypeId)(s:SV)(n:Int):Ask Stp:=
 match eE P t,P.underlying u with
 |some el,some (.int _)=>match A6 P 8 el,dz P el,mC P el,oG P el with
  |some ty,some sz,some z,some by_=>
   if sz=ty.w∧0<ty.w∧wL z=ty.w then
    match ty.read true z with
    |some z0=>match s with
     | .fO (.slice none 0 0)=>.ret (some (some (0≤n∧n.toNat*by_≤70368744177664∧n.toNat≤70368744177664),.one (.sc (.sl id 0)),[(id,.own 0 ty (List.replicate n.toNat z0))]))
     | .sl i ver=>.get i fun y=>.ret (match y with
      |some (.own ver' u3 l)=>if h:u3=ty then(if ver=ver' then some (some (0≤n∧(l.length+n.toNat)*by_≤70368744177664∧l.length+n.toNat≤70368744177664),.one (.sc (.sl i (ver+1))),[(i,.own (ver+1) ty ((h▸l:List ty.D)++List.replicate n.toNat z0))])else none)else none
      |_=>none)
     |_=>.ret none
    |none=>.ret none
   else .ret none
  |_,_,_,_=>.ret none
 |_,_=>.ret none
def Mw(P:Program)(t u:TypeId)(d x:SV):Ask Stp:=
 match eE P t with
 |none=>.ret none
 |some el=>match A6 P 8 el,dz P el with
  |some ty,some sz=>
   if sz=ty.w∧0<ty.w then
    (match eE P u with|some _=>jt ty x|none=>.ret none).bind fun c=>match c with
     |some (pm,m)=>if pm||ty.flat then
       match d with
       | .sl i ver=>.get i fun y=>.ret (match y with
        |some (.own ver' u3 l)=>if h:u3=ty then(if ver=ver' then some (none,.one (.sc (.int .i64 (.sym (min m.length l.length:Nat)))),[(i,.own ver' ty (gq (h▸l) 0 l.length m))])else none)else none
        |_=>none)
       | .vw i ver w z n=>.get i fun y=>.ret (match y with
        |some (.own ver' u3 l)=>if h:u3=ty then(if ver=ver'∧w=ty.w then some (none,.one (.sc (.int .i64 (.sym (min m.length n.toNat:Nat)))),[(i,.own ver' ty (gq (h▸l) z.toNat n.toNat m))])else none)else none
        |_=>none)
       | .vb b o' u3 k z n=>.get b fun y=>.ret (match y with
        |some (.bH cells elem)=>match rowAt cells o' with
         |some (.arr aGE k' l)=>if h:aGE=ty then(if u3=ty∧k'=k then(jS cells o' (.arr ty k' (gq (h▸l) z.toNat n.toNat m))).map fun c=>(none,.one (.sc (.int .i64 (.sym (min m.length n.toNat:Nat)))),[(b,.bH c elem)])else none)else none
         |_=>none
        |_=>none)
       | .slice b o' n _=>.get b fun y=>.ret (match y with
        |some (.bH cells elem)=>match U7 cells o' (n*ty.w)with
         |some s=>match sG (ty.read true) ty.w n s with
          |some l=>(ry cells o' ((List.range n).flatMap fun j=>ty.Bw true ((gq l 0 n m).getD j ty.z))).map fun c=>(none,.one (.sc (.int .i64 (.sym (min m.length n:Nat)))),[(b,.bH c elem)])
          |none=>none
         |none=>none
        |_=>none)
       |_=>.ret none
      else .ret none
     |none=>.ret none
   else .ret none
  |_,_=>.ret none
def amd(P:Program)(id:Nat)(b:Builtin)(ts:List TypeId)(xs:List LV):Ask Stp:=
 match b,ts,xs with
 | .len,[t],[x]=>match jr x with
  |some x=>(avM P t x).map fun n=>n.map fun n=>(none,.one (.sc (.int .i64 n)),[])
  |none=>.ret none
 | .append,[t,u],[s,x]=>match jr s,jr x with
  |some s,some (.int _ n)=>Mv P id t u s n.val
  |some s,some x=>aas P id t u s x
  |_,_=>.ret none
 | .copy,[t,u],[s,x]=>match jr s,jr x with
  |some s,some x=>Mw P t u s x
  |_,_=>.ret none
 | .min,_,x::l=>.ret (match jr x,dn jr l with
  |some (.int k x),some l=>(vm aaq k x l).map fun n=>(none,.one (.sc (.int k n)),[])
  |_,_=>none)
 | .max,_,x::l=>.ret (match jr x,dn jr l with
  |some (.int k x),some l=>(vm aar k x l).map fun n=>(none,.one (.sc (.int k n)),[])
  |_,_=>none)
 |_,_,_=>.ret none
noncomputable section
variable {P:Program} {W:World} {an:Hp} {β₀ β:Env} {hp:Hp} {w:World}
theorem BD{β:Env}{pm:Bool}{ty:Ty}{t e:TypeId}(hu:P.underlying t=some (.slice e)){v:Value}{m:List ty.D}(h:ca β pm w v ty m):
  ∃news,Src P ty.w t v m.length news w∧bp (ty.has β pm) m news:=by
 obtain⟨a,n,c,rfl,rfl,hc,_,hr⟩:=h;rcases Nat.eq_zero_or_pos m.length with h0|h0
 ·have:m= []:=List.eq_nil_of_length_eq_zero h0;subst this;refine⟨[],?_,.nil⟩
  cases a with
  |none=>exact Src.ofNil w hu c
  |some a=>exact Src.ofSlice w hu a 0 c [] (by simp) (fun j u h=>by simp at h) (fun u h=>by cases h)
 ·obtain⟨a0,eH,rfl,h1,h2,h3⟩:=hr h0;exact⟨eH,Src.ofSlice w hu a0 m.length c eH (bG h2) (fun j u hj=>h3 j u hj) (kS h2),h2⟩
theorem Ba{β:Env}(l:List Int):bp ((Ty.int .u8).has β true) (l.map fun n=>((UInt8.ofNat n.toNat).toNat:Int)) (byteCells (strOf l)):=by
 have:byteCells (strOf l)=(l.map fun n=>((UInt8.ofNat n.toNat).toNat:Int)).map (Value.int .u8):=by
  simp[byteCells,strOf]
 rw[this];generalize (l.map fun n=>((UInt8.ofNat n.toNat).toNat:Int))=m
 induction m with
 |nil=>exact .nil
 |cons x m ih=>exact bp.cons (vs:= [_]) rfl ih
theorem aat(h:bB W an β₀ β hp w){ty:Ty}{t:TypeId}{x:SV}{pm:Bool}{m:List ty.D}(hs:(aap P ty t x).val hp=some (pm,m))(hf:(pm||ty.flat)=true){v:Value}(hd:x.den β (kd hp) v):
  ∃news,Src P ty.w t v m.length news w∧bp (ty.has β true) m news:=by
 unfold aap at hs
 split at hs
 ·rename_i e n7;obtain⟨news,h1,h2⟩:=BD (P:=P) (dY n7) (mD h hs hd);refine⟨news,h1,?_⟩
  cases pm with
  |true=>exact h2
  |false=>exact h2.imp fun _ _=>ty.ru (by simpa using hf)
 ·split at hs
  ·rename_i hu;simp only[Ask.val]at hs
   split at hs
   ·rename_i e;subst e;obtain⟨l,hl,he⟩:=map_some hs
    cases he
    have hv:=jq hl hd;subst hv;refine⟨byteCells (strOf l),?_,Ba l⟩;have:=Src.ofString (P:=P) w hu (strOf l);rw[rv]at this;rw[List.length_map];exact this
   ·cases hs
  ·simp[Ask.val]at hs
theorem yX{el:TypeId}{z:List SV}{n:Nat}(hz:mC P el=some z)(hw:wL z=n):∃i zv,P.info? el=some i∧i.zero=some zv∧zv.cells.size=n:=by
 unfold mC at hz
 split at hz
 ·rename_i i lay hi _
  split at hz
  ·rename_i zv Ri;have:=(pU (β:=⟨fun _=>0,fun _=>.nilIface,fun _ _ _ _=>False⟩) (L:=fun _=>none) _ _ hz).length;exact⟨i,zv,hi,Ri,by simpa [hw]using this⟩
  ·cases hz
 ·cases hz
theorem rC{t u el ty_:TypeId}{ty:Ty}{z:List SV}{by_:Nat}(n7:eE P t=some el)(hs:dz P el=some ty.w)(jn:0<ty.w)(hz:mC P el=some z)(Vc:wL z=ty.w)(L9:oG P el=some by_)
  {hd:Value} {l m:List ty.D} (qP:da β w hd ty l) {x:Value} {news:List Value} (vn:Src P ty.w u x m.length news w) (jT:bp (ty.has β true) m news)
  (hb1:(l.length+m.length)*by_≤70368744177664) (yU:l.length+m.length≤70368744177664):
  ∃v' w',(Builtin.append_ #[t,u] ty_ #[hd,x]).run P w= .ok v' w'∧da β w' v' ty (l++m)∧w.heap.size≤w'.heap.size∧w'.os=w.os∧w'.output=w.output∧
   (∀b,b<w.heap.size→¬ (∃a n c,hd= .slice (some a) n c∧0<c∧a.block=b)→w'.heap[b]? =w.heap[b]?)∧
   (∀a n c,v'= .slice (some a) n c→0<c→(∃n' c',hd= .slice (some a) n' c'∧0<c')∨w.heap.size≤a.block):=by
 obtain⟨base,n,c,rfl,hn,Rg,jf,eU⟩:=qP;have hu:=dY n7;obtain⟨i,zv,hi,Ri,hzs⟩:=yX (P:=P) hz Vc;have his:i.size=ty.w:=by unfold dz at hs;rw[hi]at hs;simpa using hs
 have hib:i.bytes=by_:=by unfold oG at L9;rw[hi]at L9;simpa using L9
 by_cases Hq:n+m.length≤c
 ·
  rcases Nat.eq_zero_or_pos c with h0|h0
  ·have Ma:l= []:=List.eq_nil_of_length_eq_zero (by omega);have C9:m= []:=List.eq_nil_of_length_eq_zero (by omega);subst Ma C9;have hnw:news= []:=(by cases jT;rfl);subst hnw;refine⟨.slice base n c,w,?_,⟨base,n,c,rfl,hn,Rg,jf,eU⟩,Nat.le_refl _,rfl,rfl,fun _ _ _=>rfl,fun a n' c' e h=>by simp at e;omega⟩;have hle:n≤c:=Rg;have aau:=vn.cells;have hlen:=vn.len;have hr2:n+0≤c:=(by simpa using Rg);simp only[List.length_nil]at hlen aau;rcases vn.kind with⟨e',hk⟩|hk<;>cases base<;>simp[Builtin.append_,run_underlying hu,run_underlying hk,sizeOf,typeInfo,hi,his,hlen,aau,hle,storeCells]
  ·obtain⟨a0,pre,eH,rest,elem,fz,rfl,k1,k2,k3,k4,k5,k6⟩:=eU h0;have hnl:news.length=m.length*ty.w:=bG jT;have hvl:eH.length=n*ty.w:=(by rw[bG k4,hn]);have hrl:m.length*ty.w≤rest.length:=Nat.le_trans (Nat.mul_le_mul_right _ (by omega)) k5
   obtain⟨w',r1,r2,r3,r4,r5,r6⟩:=dO (P:=P) (a:=a0.add (n*ty.w)) (mA k1 _) (elem:=elem) (fz:=fz) news 0 (pre++eH) (rest.take (m.length*ty.w)) (rest.drop (m.length*ty.w)) w
    (by rw[dX,k2];simp) (by
     obtain⟨b0,o0,s0⟩:=a0;simp at k1 k3;subst k1;rw[cj];simp[k3,hvl]) (by rw[hnl,List.length_take,Nat.min_eq_left hrl]) (kS jT) (fun off q1 q2=>k6.not (by simp[hnl]at q2 ⊢;omega))
   rw[dX]at r2 r3;refine⟨.slice (some a0) (n+m.length) c,w',?_,⟨some a0,n+m.length,c,rfl,by simp[hn],Hq,by simp,fun _=>⟨a0,pre,eH++news,rest.drop (m.length*ty.w),elem,fz,rfl,k1,?_,k3,k4.append jT,?_,?_⟩⟩,by omega,r5,r6,fun b _ sO=>r3 b fun e=>sO ⟨a0,n,c,rfl,h0,e.symm⟩,fun a n' c' e _=>.inl (by simp at e;obtain⟨rfl,_,_⟩:=e;exact⟨n,c,rfl,h0⟩)⟩
   ·rcases vn.kind with⟨e',hk⟩|hk<;>simp[Builtin.append_,run_underlying hu,run_underlying hk,sizeOf,typeInfo,hi,his,vn.len,Hq,vn.cells,r1]
   ·rw[r2];simp
   ·rw[List.length_drop];have:(c-(n+m.length))*ty.w=(c-n)*ty.w-m.length*ty.w:=(by rw[← Nat.sub_sub,Nat.sub_mul]);omega
   ·have:(pre++((eH++news)++rest.drop (m.length*ty.w))).length=(pre++(eH++rest)).length:=(by simp[hnl];omega);rw[this];exact k6
 ·
  have hg:c<n+m.length:=by omega
  have Ve:Builtin.nextslicecap (n+m.length) c*i.bytes≤281474976710656:=growslice_fits hg (by rw[hib,hn];omega)
  have holds:∃oN,bp (ty.has β true) l oN∧∀ (w':World),(∀b,b<w.heap.size→w'.heap[b]? =w.heap[b]?)→(Builtin.firstCells i.size n (.slice base n c)).run P w'= .ok oN.toArray w':=by
   rcases Nat.eq_zero_or_pos c with h0|h0
   ·have Ma:l= []:=List.eq_nil_of_length_eq_zero (by omega);have xB:n=0:=(by omega);subst Ma xB;refine⟨[],.nil,fun w' _=>?_⟩
    cases base with
    |none=>simp[Builtin.firstCells]
    |some a=>simp[Builtin.firstCells,loadCells,loadCellsFrom]
   ·obtain⟨a0,pre,eH,rest,elem,fz,rfl,k1,k2,k3,k4,k5,k6⟩:=eU h0;refine⟨eH,k4,fun w' hw'=>?_⟩;have hvl:eH.length=n*i.size:=(by rw[bG k4,hn,his]);have dU:a0.block<w.heap.size:=(Array.getElem?_eq_some_iff.1 k2).1;refine run_firstCells_some (P:=P) w' i.size n a0 n c eH hvl fun j u hj=>?_
    have hh:dp w a0 eH:=by
     have:=eQ k2;obtain⟨b0,o0,s0⟩:=a0;simp at k1 k3;subst k1 k3;exact this
    exact hh.of (fun _=>hw' _ dU) j u hj
  obtain⟨oN,ho1,ho2⟩:=holds;have G4:Src P i.size u x m.length news w:=by rw[his];exact vn
  have et:=run_append_grow_src (P:=P) w t u ty_ el i zv hu hi Ri base n c oN (ho2 _ (fun _ _=>rfl)) x m.length news G4 hg (by omega) Ve;have al6:=grownCap_ge w (n+m.length) c el;have hzc:(Builtin.zeroCells zv.cells (grownCap w (n+m.length) c el-(n+m.length))).size=(grownCap w (n+m.length) c el-(n+m.length))*ty.w:=by simp[Builtin.zeroCells,hzs]
  generalize aBf:grownCap w (n+m.length) c el=cap at et al6 hzc
  have oh:((oN++news).toArray++Builtin.zeroCells zv.cells (cap-(n+m.length)))=((oN++news)++(Builtin.zeroCells zv.cells (cap-(n+m.length))).toList).toArray:=by
   apply Array.ext';simp
  rw[oh]at et
  have iu:=mH (β:=β) (w:=w.drew.alloc (.cells ((oN++news)++(Builtin.zeroCells zv.cells (cap-(n+m.length))).toList).toArray el)) (b:=w.heap.size) (t:=ty) (l:=l++m) (elem:=el) (fz:=(0,0)) (c:=cap)
   (heap_alloc_new w.drew _) (ho1.append jT) (by simp;omega) (Nat.le_of_eq (by rw[List.length_append,← hn];exact(Array.length_toList.trans hzc).symm)) (.inl rfl)
  refine⟨_,_,et,?_,?_,rfl,rfl,fun b hb _=>heap_alloc_old w.drew _ b hb,fun a n' c' e _=>.inr (by simp at e;obtain⟨rfl,_,_⟩:=e;exact Nat.le_refl _)⟩
  ·rw[List.length_append,← hn]at iu;exact iu
  ·show w.heap.size≤(w.drew.alloc _).heap.size;rw[World.size_alloc];exact Nat.le_succ _
theorem sQ{t u el ty_:TypeId}{ty:Ty}{z:List SV}{by_:Nat}(n7:eE P t=some el)(hs:dz P el=some ty.w)(jn:0<ty.w)(hz:mC P el=some z)(Vc:wL z=ty.w)(L9:oG P el=some by_)
  {hd:Value} {l:List ty.D} (qP:da β w hd ty l) {kn kq:IntKind} (hku:P.underlying u=some (.int kn)) {z0:ty.D} (hz0:ty.read true z=some z0) (k:Nat)
  (hb1:(l.length+k)*by_≤70368744177664) (yU:l.length+k≤70368744177664):
  ∃v' w',(Builtin.append_ #[t,u] ty_ #[hd,.int kq k]).run P w= .ok v' w'∧da β w' v' ty (l++List.replicate k z0)∧w.heap.size≤w'.heap.size∧w'.os=w.os∧w'.output=w.output∧
   (∀b,b<w.heap.size→¬ (∃a n c,hd= .slice (some a) n c∧0<c∧a.block=b)→w'.heap[b]? =w.heap[b]?)∧
   (∀a n c,v'= .slice (some a) n c→0<c→(∃n' c',hd= .slice (some a) n' c'∧0<c')∨w.heap.size≤a.block):=by
 obtain⟨base,n,c,rfl,hn,Rg,jf,eU⟩:=qP;have hu:=dY n7;obtain⟨i,zv,hi,Ri,hzs⟩:=yX (P:=P) hz Vc;have his:i.size=ty.w:=by unfold dz at hs;rw[hi]at hs;simpa using hs
 have hib:i.bytes=by_:=by unfold oG at L9;rw[hi]at L9;simpa using L9
 have hzr:(zeroValue el).run P w= .ok zv w:=by simp[zeroValue,typeInfo,hi,Ri]
 obtain⟨ZV,aBg,hzd⟩:=oI (P:=P) (w:=w) (β:=β) (L:=fun _=>none) hz;obtain rfl:ZV=zv:=by rw[hzr]at aBg;injection aBg with e;exact e.symm
 have hzh:=ty.iv hz0 hzd;have jT:bp (ty.has β true) (List.replicate k z0) ((List.replicate k ZV.cells.toList).flatten):=yW hzh _
 have aBh:∀m,Builtin.zeroCells ZV.cells m=((List.replicate m ZV.cells.toList).flatten).toArray:=fun m=>by
  rw[← l9 m hzs];unfold Builtin.zeroCells;rw[hzs]
 have avK:i64.wrap (k:Int)=k:=by rw[IntKind.wrap_i64];omega
 have aGJ:¬ ((k:Int)<0):=by omega
 have aGK:¬ (281474976710656<(k:Int)*(i.bytes:Int)):=by
  rw[← Int.natCast_mul,hib];have:k*by_≤(l.length+k)*by_:=Nat.mul_le_mul_right _ (by omega);omega
 generalize hnw:(List.replicate k ZV.cells.toList).flatten=news at jT
 by_cases Hq:n+k≤c
 ·
  rcases Nat.eq_zero_or_pos c with h0|h0
  ·have Ma:l= []:=List.eq_nil_of_length_eq_zero (by omega);have C9:k=0:=(by omega);subst Ma C9;refine⟨.slice base n c,w,?_,⟨base,n,c,rfl,hn,Rg,jf,eU⟩,Nat.le_refl _,rfl,rfl,fun _ _ _=>rfl,fun a n' c' e h=>by simp at e;omega⟩;have hle:n≤c:=Rg;have hw0:i64.wrap 0=0:=rfl
   cases base<;>simp[Builtin.append_,run_underlying hu,run_underlying hku,sizeOf,typeInfo,hi,his,hle,storeCells,asInt,asIntOf,hw0]
  ·obtain⟨a0,pre,eH,rest,elem,fz,rfl,k1,k2,k3,k4,k5,k6⟩:=eU h0;have hnl:news.length=k*ty.w:=(by rw[bG jT,List.length_replicate]);have hvl:eH.length=n*ty.w:=(by rw[bG k4,hn]);have hrl:k*ty.w≤rest.length:=Nat.le_trans (Nat.mul_le_mul_right _ (by omega)) k5
   obtain⟨w',r1,r2,r3,r4,r5,r6⟩:=dO (P:=P) (a:=a0.add (n*ty.w)) (mA k1 _) (elem:=elem) (fz:=fz) news 0 (pre++eH) (rest.take (k*ty.w)) (rest.drop (k*ty.w)) w
    (by rw[dX,k2];simp) (by
     obtain⟨b0,o0,s0⟩:=a0;simp at k1 k3;subst k1;rw[cj];simp[k3,hvl]) (by rw[hnl,List.length_take,Nat.min_eq_left hrl]) (kS jT) (fun off q1 q2=>k6.not (by simp[hnl]at q2 ⊢;omega))
   rw[dX]at r2 r3;refine⟨.slice (some a0) (n+k) c,w',?_,⟨some a0,n+k,c,rfl,by simp[hn],Hq,by simp,fun _=>⟨a0,pre,eH++news,rest.drop (k*ty.w),elem,fz,rfl,k1,?_,k3,k4.append jT,?_,?_⟩⟩,by omega,r5,r6,fun b _ sO=>r3 b fun e=>sO ⟨a0,n,c,rfl,h0,e.symm⟩,fun a n' c' e _=>.inl (by simp at e;obtain⟨rfl,_,_⟩:=e;exact⟨n,c,rfl,h0⟩)⟩
   ·rcases Nat.eq_zero_or_pos k with hk0|hk0
    ·subst hk0;have hw0:i64.wrap 0=0:=rfl;have xB:news= []:=(by rw[← hnw];rfl);rw[xB]at r1;have avQ:n≤c:=Rg;simp[Builtin.append_,run_underlying hu,run_underlying hku,sizeOf,typeInfo,hi,his,avQ,r1,asInt,asIntOf,hw0]
    ·have hns:¬ (k*ty.w=0):=Nat.mul_ne_zero (by omega) (by omega);have hzk:Builtin.zeroCells ZV.cells k=news.toArray:=(by rw[aBh k,hnw]);simp[Builtin.append_,run_underlying hu,run_underlying hku,sizeOf,typeInfo,hi,Ri,zeroValue,his,Hq,r1,asInt,asIntOf,avK,aGJ,aGK,hns,hzk]
   ·rw[r2];simp
   ·rw[List.length_drop];have:(c-(n+k))*ty.w=(c-n)*ty.w-k*ty.w:=(by rw[← Nat.sub_sub,Nat.sub_mul]);omega
   ·have:(pre++((eH++news)++rest.drop (k*ty.w))).length=(pre++(eH++rest)).length:=(by simp[hnl];omega);rw[this];exact k6
 ·
  have hg:c<n+k:=by omega
  have Ve:Builtin.nextslicecap (n+k) c*i.bytes≤281474976710656:=growslice_fits hg (by rw[hib,hn];omega)
  have holds:∃oN,bp (ty.has β true) l oN∧∀ (w':World),(∀b,b<w.heap.size→w'.heap[b]? =w.heap[b]?)→(Builtin.firstCells i.size n (.slice base n c)).run P w'= .ok oN.toArray w':=by
   rcases Nat.eq_zero_or_pos c with h0|h0
   ·have Ma:l= []:=List.eq_nil_of_length_eq_zero (by omega);have xB:n=0:=(by omega);subst Ma xB;refine⟨[],.nil,fun w' _=>?_⟩
    cases base with
    |none=>simp[Builtin.firstCells]
    |some a=>simp[Builtin.firstCells,loadCells,loadCellsFrom]
   ·obtain⟨a0,pre,eH,rest,elem,fz,rfl,k1,k2,k3,k4,k5,k6⟩:=eU h0;refine⟨eH,k4,fun w' hw'=>?_⟩;have hvl:eH.length=n*i.size:=(by rw[bG k4,hn,his]);have dU:a0.block<w.heap.size:=(Array.getElem?_eq_some_iff.1 k2).1;refine run_firstCells_some (P:=P) w' i.size n a0 n c eH hvl fun j u hj=>?_
    have hh:dp w a0 eH:=by
     have:=eQ k2;obtain⟨b0,o0,s0⟩:=a0;simp at k1 k3;subst k1 k3;exact this
    exact hh.of (fun _=>hw' _ dU) j u hj
  obtain⟨oN,ho1,ho2⟩:=holds
  have et:=Go.Lib.run_append_grow_zeros (P:=P) w t u ty_ el i ZV kq kn hu hku hi Ri base n c oN (ho2 _ (fun _ _=>rfl)) k (by omega) (by omega) hg (by omega) (by
   have:k*by_≤(l.length+k)*by_:=Nat.mul_le_mul_right _ (by omega);rw[hib];omega) Ve
  rw[show(oN.toArray++Builtin.zeroCells ZV.cells k)=(oN++news).toArray from by rw[aBh k,hnw];simp]at et;have al6:=grownCap_ge w (n+k) c el;have hzc:(Builtin.zeroCells ZV.cells (grownCap w (n+k) c el-(n+k))).size=(grownCap w (n+k) c el-(n+k))*ty.w:=by simp[Builtin.zeroCells,hzs]
  generalize aBf:grownCap w (n+k) c el=cap at et al6 hzc
  have oh:((oN++news).toArray++Builtin.zeroCells ZV.cells (cap-(n+k)))=((oN++news)++(Builtin.zeroCells ZV.cells (cap-(n+k))).toList).toArray:=by
   apply Array.ext';simp
  rw[oh]at et
  have iu:=mH (β:=β) (w:=w.drew.alloc (.cells ((oN++news)++(Builtin.zeroCells ZV.cells (cap-(n+k))).toList).toArray el)) (b:=w.heap.size) (t:=ty) (l:=l++List.replicate k z0) (elem:=el) (fz:=(0,0)) (c:=cap)
   (heap_alloc_new w.drew _) (ho1.append jT) (by simp;omega) (Nat.le_of_eq (by rw[List.length_append,List.length_replicate,← hn];exact(Array.length_toList.trans hzc).symm)) (.inl rfl)
  refine⟨_,_,et,?_,?_,rfl,rfl,fun b hb _=>heap_alloc_old w.drew _ b hb,fun a n' c' e _=>.inr (by simp at e;obtain⟨rfl,_,_⟩:=e;exact Nat.le_refl _)⟩
  ·rw[List.length_append,List.length_replicate,← hn]at iu;exact iu
  ·show w.heap.size≤(w.drew.alloc _).heap.size;rw[World.size_alloc];exact Nat.le_succ _
end
noncomputable section
variable {P:Program} {W:World} {an:Hp} {β₀ β:Env} {hp:Hp} {w:World}
theorem Da{α:Type}(l:List α)(z len:Nat)(m:List α):gq l z len m=l.take z++(m.take (min m.length len)++l.drop (z+min m.length len)):=by
 unfold gq;rw[Nat.min_comm len m.length]
 congr 2
 rcases Nat.le_total m.length len with h|h
 ·rw[Nat.min_eq_left h,List.take_of_length_le h,List.take_length]
 ·rw[Nat.min_eq_right h]
theorem oO{α:Type}{l:List α}{z len:Nat}{m:List α}(h:z+len≤l.length):(gq l z len m).length=l.length:=by
 rw[Da];simp only[List.length_append,List.length_take,List.length_drop];omega
theorem sR{β:Env}{pm:Bool}{t u el e' ty_:TypeId}{ty:Ty}(n7:eE P t=some el)(hu:eE P u=some e')(hs:dz P el=some ty.w){v:Value}{m:List ty.D}(hr:ca β pm w v ty m)(Db c:Nat):
  ∃ws,bp (ty.has β pm) (m.take (min m.length Db)) ws∧∀ (base:Option Addr) (w':World),(∀a,base=some a→(storeCells a ws).run P w= .ok () w')→(base=none→w'=w)→
   (Builtin.copy_ #[t,u] ty_ #[.slice base Db c,v]).run P w= .ok (.int .i64 ((min m.length Db:Nat):Int)) w':=by
 obtain⟨a,n,c',rfl,rfl,hc,_,eU⟩:=hr
 have key:∃ws,bp (ty.has β pm) (m.take (min m.length Db)) ws∧(Builtin.firstCells ty.w (min m.length Db) (.slice a m.length c')).run P w= .ok ws.toArray w:=by
  rcases Nat.eq_zero_or_pos m.length with h0|h0
  ·have:m= []:=List.eq_nil_of_length_eq_zero h0;subst this;refine⟨[],by simpa using bp.nil,?_⟩
   cases a with
   |none=>simp[Builtin.firstCells]
   |some a=>simp[Builtin.firstCells,loadCells,loadCellsFrom]
  ·obtain⟨a0,eH,rfl,h1,h2,h3⟩:=eU h0;obtain⟨v1,v2,rfl,k1,k2⟩:=ie h2 (min m.length Db);refine⟨v1,k1,?_⟩;have hl:v1.length=min m.length Db*ty.w:=(by rw[bG k1,List.length_take];congr 1;omega);have hh:dp w a0 v1:=fun i x hi=>h3 i x (by rw[List.getElem?_append_left (List.getElem?_eq_some_iff.1 hi).1];exact hi);have:=lF (P:=P) hh;rw[hl]at this;exact this
 obtain⟨ws,h1,h2⟩:=key;refine⟨ws,h1,fun base w' hw hn=>?_⟩;have Vf:Nat.min m.length Db=min m.length Db:=rfl;unfold Builtin.copy_;simp only[List.getElem?_toArray,List.getElem?_cons_zero,List.getElem?_cons_succ,Sem.run_bind,run_underlying (dY n7),Result.andThen_ok,Builtin.lenOf,Sem.run_pure,run_sizeOf hs,Vf,h2]
 cases base with
 |none=>rw[hn rfl];rfl
 |some a=>simp only[Sem.run_bind,hw a rfl];rfl
theorem vo{β:Env}{ty:Ty}{l m:List ty.D}{z len:Nat}{eH ws:List Value}(h:bp (ty.has β true) l eH)(hz:z+len≤l.length)(hw:bp (ty.has β true) (m.take (min m.length len)) ws):
  ∃p old r,eH=p++(old++r)∧p.length=z*ty.w∧old.length=ws.length∧bp (ty.has β true) (gq l z len m) (p++(ws++r)):=by
 obtain⟨p,v2,rfl,k1,k2⟩:=ie h z;obtain⟨old,r,rfl,k3,k4⟩:=ie k2 (min m.length len);refine⟨p,old,r,rfl,?_,?_,?_⟩
 ·rw[bG k1,List.length_take,Nat.min_eq_left (by omega)]
 ·rw[bG k3,bG hw,List.length_take,List.length_take,List.length_drop]
  congr 1;omega
 ·rw[Da];rw[List.drop_drop]at k4;exact k1.append (hw.append k4)
theorem bB.Rj(h:bB W an β₀ β hp w){i ver:Nat}{t:Ty}{l m:List t.D}(hi:hp[i]? =some (some (.own ver t l))){a:Option Addr}{n c:Nat}(he:β.h i= .slice a n c){z len:Nat}(hz:z+len≤l.length)
  {ws:List Value} (hw:bp (t.has β true) (m.take (min m.length len)) ws):
  ∃w' β',(∀a0,a=some a0→(storeCells (a0.add (z*t.w)) ws).run P w= .ok () w')∧(a=none→w'=w)∧(ws= []→w'=w)∧bB W an β₀ β' (setAt hp i (.own ver t (gq l z len m))) w'∧cb β β' (kd hp) (kd (setAt hp i (.own ver t (gq l z len m)))):=by
 have ZR:da β w (β.h i) t l:=h.items _ _ hi;have aGL:=ZR;obtain⟨a',n',c',e,hn1,hn2,jf,h4⟩:=ZR;rw[he]at e;simp at e;obtain⟨rfl,rfl,rfl⟩:=e;rcases Nat.eq_zero_or_pos c with hc|hc
 ·have Ma:l= []:=List.eq_nil_of_length_eq_zero (by omega);subst Ma;have hlen:len=0:=by simp at hz;omega
  subst hlen
  have hws:ws= []:=by
   have:=bG hw;simp only[Nat.min_zero,List.take_zero,List.length_nil,Nat.zero_mul]at this;exact List.eq_nil_of_length_eq_zero this
  subst hws;have Vg:gq ([]:List t.D) z 0 m= []:=by rw[Da];simp
  rw[Vg];obtain⟨β',s1,s2,_⟩:=h.vk hi (ver':=ver) (l':= []) (v:=β.h i) (w':=w) (.inr ⟨rfl,rfl⟩) (Nat.le_refl _) rfl rfl (fun _ _ _=>rfl) aGL (fun a n c e h0=>.inl ⟨a,n,c,e,h0,rfl⟩);exact⟨w,β',fun a0 _=>rfl,fun _=>rfl,fun _=>rfl,s1,s2⟩
 ·obtain⟨a0,pre,eH,rest,elem,fz,rfl,k1,k2,k3,k4,k5,k6⟩:=h4 hc;obtain⟨p,old,r,rfl,e1,e2,h9⟩:=vo k4 hz hw
  obtain⟨w',r1,r2,r3,r4,r5,r6⟩:=dO (P:=P) (a:=a0.add (z*t.w)) (mA k1 _) (elem:=elem) (fz:=fz) ws 0 (pre++p) old (r++rest) w
   (by rw[dX,k2];simp) (by
    obtain⟨b0,o0,s0⟩:=a0;simp at k1 k3;subst k1;rw[cj];simp[k3,e1]) e2 (kS hw) (fun off q1 q2=>k6.not (by simp at q2 ⊢;omega))
  rw[dX]at r2 r3
  obtain⟨β',s1,s2,s3⟩:=h.vk hi (ver':=ver) (l':=gq l z len m) (v:=β.h i) (w':=w') (.inr ⟨rfl,rfl⟩) (by omega) r5 r6 (fun b hb sO=>by
    refine r3 b fun e=>sO ?_;subst e;exact⟨a0,n,c,he,hc,rfl⟩)
   (by
    rw[he];refine⟨some a0,n,c,rfl,by rw[oO hz];exact hn1,hn2,by simp,fun _=>⟨a0,pre,p++(ws++r),rest,elem,fz,rfl,k1,?_,k3,h9,k5,?_⟩⟩
    ·rw[r2];simp
    ·have:(pre++(p++(ws++r)++rest)).length=(pre++(p++(old++r)++rest)).length:=(by simp[e2]);rw[this];exact k6)
   (fun a n c e h0=>.inl ⟨a,n,c,e,h0,rfl⟩)
  refine⟨w',β',fun a1 e=>by simp at e;subst e;exact r1,fun e=>(by cases e),fun e=>?_,s1,s2⟩;subst e;have:(storeCells (a0.add (z*t.w)) []).run P w= .ok () w:=rfl;rw[this]at r1;cases r1;rfl
theorem bB.amf(h:bB W an β₀ β hp w){b o:Nat}{t:Ty}{k:Nat}{cells cells':List SV}{elem:TypeId}{l m:List t.D}(hi:hp[b]? =some (some (.bH cells elem)))(jR:rowAt cells o=some (.arr t k l)){z len:Nat}(hz:z+len≤k)
  (rz:jS cells o (.arr t k (gq l z len m))=some cells') {ws:List Value} (hw:bp (t.has β true) (m.take (min m.length len)) ws):
  ∃w',(storeCells ((⟨β.b b,o,none⟩:Addr).add (z*t.w)) ws).run P w= .ok () w'∧(ws= []→w'=w)∧bB W an β₀ β (setAt hp b (.bH cells' elem)) w'∧cb β β (kd hp) (kd (setAt hp b (.bH cells' elem))):=by
 obtain⟨cs,fz,g1,g2,g3,_⟩:=h.je hi
 have hlk:l.length=k:=by
  obtain⟨_,_,_,_,_,hh,_⟩:=oJ _ _ jR g3;exact hh
 obtain⟨pre,mid,post,rfl,e3,_,h6,h7⟩:=lG _ _ jR rz g3 (by rw[oO (by omega)];exact hlk);obtain⟨p,old,r,rfl,e1,e2,h9⟩:=vo (z:=z) (len:=len) h6 (by rw[hlk];exact hz) hw
 obtain⟨w',r1,r2,r3,r4,r5,r6⟩:=dO (P:=P) (a:=⟨β.b b,o+z*t.w,none⟩) rfl (elem:=elem) (fz:=fz) ws 0 (pre++p) old (r++post) w
  (by rw[g1];simp) (by simp[e3,e1]) e2 (kS hw) (fun off q1 q2=>g2.not (by simp at q2 ⊢;omega))
 obtain⟨s1,s2⟩:=h.C6 hi (cells':=cells') (w':=w') (by omega) r5 r6 r3 (c:=pre++((p++(ws++r))++post)) (fz:=fz)
  (by rw[r2];simp) (by
   have:(pre++((p++(ws++r))++post)).length=(pre++((p++(old++r))++post)).length:=(by simp[e2]);rw[this];exact g2) (h7 _ h9)
 refine⟨w',by rw[cj];exact r1,fun e=>?_,s1,s2⟩;subst e;have:(storeCells ⟨β.b b,o+z*t.w,none⟩ []).run P w= .ok () w:=rfl;rw[this]at r1;cases r1;rfl
theorem wQ{L:Nat→Option Kd}{ty:Ty}:∀ {l:List ty.D} {vs:List Value},bp (ty.has β true) l vs→bz β L (l.flatMap (ty.Bw true)) vs
 | [],_,h=>by cases h;exact .nil
 |x::l,_,.cons h t=>by rw[List.flatMap_cons];exact(ty.l6 h).append (wQ t)
theorem yY{α:Type}(l:List α)(d:α):(List.range l.length).map (fun j=>l.getD j d)=l:=by
 apply List.ext_getElem
 ·simp
 ·intro i h1 h2;simp at h1 ⊢;simp[h1]
theorem amg{st:St}{a:Act}(hr:Rel W an β₀ β st a w){t u ty_:TypeId}{d x:SV}{q:Option Prop}{v:LV}{dl:List (Nat×Item)}(h:(Mw P t u d x).val st.hp=some (q,v,dl)){dv xv:Value}(hd:d.den β (kd st.hp) dv)(hx:x.den β (kd st.hp) xv):
  ∃ (β':Env) (w':World) (val:Value),(Builtin.copy_ #[t,u] ty_ #[dv,xv]).run P w= .ok val w'∧v.den β' (kd (aV dl st.hp)) val∧bB W an β₀ β' (aV dl st.hp) w'∧cb β β' (kd st.hp) (kd (aV dl st.hp)):=by
 unfold Mw at h
 split at h
 ·simp[Ask.val]at h
 rename_i el n7
 split at h
 rotate_left
 ·simp[Ask.val]at h
 rename_i ty sz hty hs
 split at h
 rotate_left
 ·simp[Ask.val]at h
 rename_i mG;obtain⟨rfl,jn⟩:=mG;rw[Ask.eJ]at h
 split at h
 rotate_left
 ·simp[Ask.val]at h
 rename_i pm m hc
 split at h
 rotate_left
 ·simp[Ask.val]at h
 rename_i hf
 have hu:∃e',eE P u=some e'∧(jt ty x).val st.hp=some (pm,m):=by
  split at hc
  ·rename_i e' he;exact⟨e',he,hc⟩
  ·simp[Ask.val]at hc
 obtain⟨e',hu,hc⟩:=hu;have oM:=mD hr.heap hc hx
 have Rk:∀ {k:Nat} {ws:List Value},bp (ty.has β pm) (m.take k) ws→bp (ty.has β true) (m.take k) ws:=by
  intro k ws hh
  cases pm with
  |true=>exact hh
  |false=>exact hh.imp fun _ _=>ty.ru (by simpa using hf)
 split at h
 ·
  rename_i i ver;simp only[Ask.val]at h
  split at h
  ·rename_i ver' u3 l hi
   split at h
   ·rename_i e;subst e
    split at h
    ·rename_i e;subst e
     cases h
     obtain⟨qP,hh⟩:=hr.heap.oK (p:=fun v=>dv=v) (aB hi) hd.2;obtain⟨base,n,c,e1,hn,_⟩:=qP;obtain⟨ws,k1,k2⟩:=sR (ty_:=ty_) n7 hu hs oM n c;rw[hn]at k1;obtain⟨w',β',r1,r2,_,r3,r4⟩:=hr.heap.Rj (P:=P) (aB hi) e1 (z:=0) (len:=l.length) (by omega) (Rk k1);have et:=k2 base w' (fun a0 e=>by have:=r1 a0 e;rw[Nat.zero_mul]at this;exact this) r2;refine⟨β',w',_,by rw[hh,e1];exact et,?_,r3,r4⟩;rw[hn];rfl
    ·cases h
   ·cases h
  ·cases h
 ·
  rename_i i ver w0 z n;simp only[Ask.val]at h
  split at h
  ·rename_i ver' u3 l hi
   split at h
   ·rename_i e;subst e
    split at h
    ·rename_i e;obtain⟨rfl,rfl⟩:=e
     cases h
     obtain⟨qP,hh⟩:=hr.heap.oK (p:=fun v=>wG v u3.w z n dv) (aB hi) hd.2;obtain⟨base,n1,c1,e1,hn,_⟩:=qP;obtain⟨a2,m2,c2,a3,c3,e2,z0,n0,hle,rfl,_,_,sP⟩:=hh;rw[e1]at e2;simp at e2;obtain⟨rfl,rfl,rfl⟩:=e2;obtain⟨ws,k1,k2⟩:=sR (ty_:=ty_) n7 hu hs oM n.toNat c3;obtain⟨w',β',r1,r2,r0,r3,r4⟩:=hr.heap.Rj (P:=P) (aB hi) e1 (z:=z.toNat) (len:=n.toNat) (by omega) (Rk k1);refine⟨β',w',_,k2 a3 w' (fun a0 e=>?_) (fun e=>?_),rfl,r3,r4⟩
     ·rcases Int.lt_or_le 0 n with h0|h0
      ·obtain⟨a4,e4,e5⟩:=sP h0;rw[e]at e5;simp at e5;subst e5;exact r1 _ e4
      ·have:ws= []:=by
        have:=bG k1;rw[show n.toNat=0 from by omega]at this;simp at this;exact this
       subst this;rw[r0 rfl];rfl
     ·rcases Int.lt_or_le 0 n with h0|h0
      ·obtain⟨a4,e4,e5⟩:=sP h0;rw[e]at e5;cases e5
      ·have:ws= []:=by
        have:=bG k1;rw[show n.toNat=0 from by omega]at this;simp at this;exact this
       exact r0 this
    ·cases h
   ·cases h
  ·cases h
 ·
  rename_i b o' ty0 k z n;simp only[Ask.val]at h
  split at h
  ·rename_i cells elem hi
   split at h
   ·rename_i u3 k' l jR
    split at h
    ·rename_i e;subst e
     split at h
     ·rename_i e;obtain⟨rfl,rfl⟩:=e;obtain⟨cells',rz,he⟩:=map_some h
      cases he
      obtain⟨hb,z0,n0,zn,a3,c3,rfl,_,_,sP⟩:=hd;obtain⟨ws,k1,k2⟩:=sR (ty_:=ty_) n7 hu hs oM n.toNat c3;obtain⟨w',r1,r0,r3,r4⟩:=hr.heap.amf (P:=P) (aB hi) jR (z:=z.toNat) (len:=n.toNat) (by omega) rz (Rk k1);refine⟨β,w',_,k2 a3 w' (fun a0 e=>?_) (fun e=>?_),rfl,r3,r4⟩
      ·rcases Int.lt_or_le 0 n with h0|h0
       ·have e5:=sP h0;rw[e]at e5;simp at e5;subst e5;exact r1
       ·have:ws= []:=by
         have:=bG k1;rw[show n.toNat=0 from by omega]at this;simp at this;exact this
        subst this;rw[r0 rfl];rfl
      ·rcases Int.lt_or_le 0 n with h0|h0
       ·have e5:=sP h0;rw[e]at e5;cases e5
       ·have:ws= []:=by
         have:=bG k1;rw[show n.toNat=0 from by omega]at this;simp at this;exact this
        exact r0 this
     ·cases h
    ·cases h
   ·cases h
  ·cases h
 ·
  rename_i b o' n cp;simp only[Ask.val]at h
  split at h
  ·rename_i cells elem hi
   split at h
   ·rename_i s Vb
    split at h
    ·rename_i l hl;obtain⟨cells',Z7,he⟩:=map_some h
     cases he
     obtain⟨hb,rfl⟩:=hd;obtain⟨ws,k1,k2⟩:=sR (ty_:=ty_) n7 hu hs oM n cp;obtain⟨cs,fz,g1,g2,g3,_⟩:=hr.heap.je (aB hi);obtain⟨pre,mid,post,e1,e2,e3,h4⟩:=pP Vb g3;obtain⟨h5,h6⟩:=oC (R:=ty.has β true) (fun a x vs h hd=>ty.iv h hd) _ hl h4;obtain⟨p,old,r,e4,e5,e6,h9⟩:=vo h5 (z:=0) (len:=n) (by omega) (Rk k1);have BE:p= []:=List.eq_nil_of_length_eq_zero (by rw[e5];simp);subst BE
     have aGM:bz β (kd st.hp) ((List.range n).flatMap fun j=>ty.Bw true ((gq l 0 n m).getD j ty.z)) (ws++r):=by
      have:((List.range n).flatMap fun j=>ty.Bw true ((gq l 0 n m).getD j ty.z))=(gq l 0 n m).flatMap (ty.Bw true):=by
       have hlen:(gq l 0 n m).length=n:=by rw[oO (by omega)];exact h6
       conv=>rhs;rw[← yY (gq l 0 n m) ty.z,hlen]
       rw[List.flatMap_map]
      rw[this];exact wQ (by simpa using h9)
     obtain⟨aGN,sN,aBj,f1,f2,f3,f4⟩:=pQ Z7 _ _ g3 aGM
     have Ms:pre=aGN∧mid=sN∧post=aBj:=by
      have hml:mid.length=sN.length:=by
       rw[f3,e4];simp[e6]
      rw[e1]at f1;obtain⟨g,g'⟩:=List.append_inj f1 (by rw[e2,f2]);obtain⟨g4,g5⟩:=List.append_inj g' hml;exact⟨g,g4,g5⟩
     obtain⟨rfl,rfl,rfl⟩:=Ms;subst e4
     obtain⟨w',r1,r2,r3,r4,r5,r6⟩:=dO (P:=P) (a:=⟨β.b b,o',none⟩) rfl (elem:=elem) (fz:=fz) ws 0 pre old (r++post) w
      (by rw[g1,e1];simp) (by simp[e2]) e6 (kS k1) (fun off q1 q2=>g2.not (by rw[e1];simp at q2 ⊢;omega))
     obtain⟨s1,s2⟩:=hr.heap.C6 (aB hi) (cells':=cells') (w':=w') (by omega) r5 r6 r3 (c:=pre++((ws++r)++post)) (fz:=fz)
      (by rw[r2];simp) (by
       have:(pre++((ws++r)++post)).length=cs.length:=(by rw[e1];simp[e6]);rw[this];exact g2) f4
     exact⟨β,w',_,k2 _ w' (fun a0 e=>by simp at e;subst e;exact r1) (fun e=>by cases e),rfl,s1,s2⟩
    ·cases h
   ·cases h
  ·cases h
 ·simp[Ask.val]at h
end
end Go.Ev
end
