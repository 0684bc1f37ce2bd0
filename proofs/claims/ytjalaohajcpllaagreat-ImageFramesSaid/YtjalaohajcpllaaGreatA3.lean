/- What the laws lean on, part 3: a reader of code, plain facts, and what each function gives; no conditions. -/
import Derived.Laws.BitsLemmas
import Derived.Laws.NewFold
import Derived.Deep.AppendSrc
import Derived.Lib.AppendZerosOnto
import Derived.Test.YtjalaohajcpllaaGreatA2
section
set_option linter.unusedVariables false
set_option linter.unusedSimpArgs false
namespace Go.Ev
open Go
theorem AO (a:Addr) (i j:Nat):(a.add i).add j=a.add (i+j):=by
 obtain ⟨b,o,s⟩:=a
 by_cases hi:i=0
 ·subst hi
  have:(⟨b,o,s⟩:Addr).add 0=⟨b,o,s⟩:=if_pos rfl
  rw[this,Nat.zero_add]
 ·have:(⟨b,o,s⟩:Addr).add i=⟨b,o+i,none⟩:=if_neg hi
  rw[this,b9]
  unfold Addr.add
  rw[if_neg (by omega),Nat.add_assoc]
theorem wrap_small {n:Int} (h0:0≤n) (h1:n≤9223372036854775807):IntKind.i64.wrap n=n:=by rw[IntKind.wrap_i64];omega
theorem lk {P:Program} {w:World} {a:Addr} {cs:List Value} {elem:TypeId} {fz:Nat×Nat} (h:w.heap[a.block]? =some (.cells cs.toArray elem fz)) (hf:AA fz cs.length):
  ∃ w' fz',(markStringish a).run P w= .ok () w'∧w'.heap[a.block]? =some (.cells cs.toArray elem fz')∧AA fz' cs.length∧(∀ b,b≠a.block→w'.heap[b]? =w.heap[b]?)∧w'.heap.size=w.heap.size∧w'.os=w.os∧w'.output=w.output:=by
 have hsh:w.shape? a.block=some (elem,cs.length):=by simp[World.shape?,h]
 refine ⟨w.freeze ⟨a.block,cs.length,none⟩ 1,if fz.1==fz.2 then (cs.length,cs.length+1) else (min fz.1 cs.length,max fz.2 (cs.length+1)),?_,?_,?_,?_,?_,?_,?_⟩
 ·simp[markStringish,hsh]
 ·obtain ⟨lo,hi⟩:=fz
  simp only[World.freeze,Nat.one_ne_zero,if_false,Array.getElem?_modify,if_true,h]
  rfl
 ·unfold AA at hf ⊢
  split
  ·exact .inr (Nat.le_refl _)
  ·rename_i gk
   have:fz.1≠fz.2:=by simpa using gk
   right;simp only;omega
 ·intro b hb
  simp only[World.freeze,Nat.one_ne_zero,if_false,Array.getElem?_modify]
  rw[if_neg (fun e=>hb e.symm)]
 ·simp[World.freeze]
 ·simp[World.freeze]
 ·simp[World.freeze]
theorem Jr {z:List Value} {s:Nat} (hz:z.length=s) (d:Value): ∀ n:Nat,(List.range (n*s)).map (fun i=>z.getD (i%s) d)=(List.replicate n z).flatten
 |0=>by simp
 |n+1=>by
  rw[Nat.succ_mul,List.range_add,List.map_append,Jr hz d n,List.replicate_succ',List.flatten_append]
  congr 1
  rw[List.map_map]
  simp only[List.flatten_cons,List.flatten_nil,List.append_nil]
  apply List.ext_getElem
  ·simp[hz]
  ·intro i h1 h2
   have hi:i<s:=by simpa using h1
   simp[List.getD,Nat.add_mod,Nat.mod_eq_of_lt hi,hz,hi]
theorem Js {β:Env} {L:Nat→Option Kd} {z:List SV} {zc:List Value} (h:bo β L z zc): ∀ n:Nat,bo β L ((List.replicate n z).flatten) ((List.replicate n zc).flatten)
 |0=> .nil
 |n+1=>by simp only[List.replicate_succ,List.flatten_cons];exact h.append (Js h n)
theorem AP {α:Type} {R:α→List Value→Prop} {x:α} {zc:List Value} (h:R x zc): ∀ n:Nat,aZ R (List.replicate n x) ((List.replicate n zc).flatten)
 |0=> .nil
 |n+1=>by simp only[List.replicate_succ,List.flatten_cons];exact .cons h (AP h n)
theorem lM {z:Value} {s:Nat} (n:Nat) (hz:z.cells.size=s):(Array.range (n*s)).map (fun i=>z.cells[i%z.cells.size]!)=((List.replicate n z.cells.toList).flatten).toArray:=by
 apply Array.ext'
 rw[← Jr (z:=z.cells.toList) (s:=s) (by simpa using hz) default n,hz]
 simp only[Array.toList_map,Array.toList_range]
 apply List.map_congr_left
 intro i _
 simp[Array.getElem!_eq_getD,Array.getD_eq_getD_getElem?,List.getD]
section
variable {P:Program} {st:St} {o:Oper} {q:Option Prop} {v:LV} {d:List (Nat×Item)}
theorem mm {β:Env} {w:World} {b:Nat} {t:Ty} {l:List t.D} {fo rest:List Value} {elem:TypeId} {fz:Nat×Nat} {c:Nat} (hw:w.heap[b]? =some (.cells (fo++rest).toArray elem fz)) (hl:aZ (t.has β true) l fo)
  (hc:l.length≤c) (hr:(c-l.length)*t.w≤rest.length) (hf:AA fz (fo++rest).length):dt β w (.slice (some ⟨b,0,none⟩) l.length c) t l:=
 ⟨_,_,_,rfl,rfl,hc,by simp,fun _=>⟨_,[],fo,rest,elem,fz,rfl,rfl,by simpa using hw,rfl,hl,hr,by simpa using hf⟩⟩
theorem ahM {id:Nat} {src dst:TypeId} {x:Operand} {s:SV} (ho:o.op= .convert src dst x) (hx:iQ (ev st x)=some s) (h:(Ng P id src dst s).val st.hp=some (q,v,d)) (oD:(∃ x,(id,x)∈d)→kd st.hp id=none):gm P o st q v d:=by
 unfold Ng at h
 split at h
 ·rename_i d' k hs DD
  simp only[Ask.val] at h
  split at h
  ·rename_i k' n
   simp at h;obtain ⟨rfl,rfl,rfl⟩:=h
   refine gm.pure fun _ W al β₀ β a w hr=>?_
   have e:a.eval x= .int k' n.val:=bm hx (aV hr x)
   refine ⟨.int k (k.wrap n.val),by simp[execOp,ho,e,convert,run_underlying hs,run_underlying DD,Conv.intToInt],?_⟩
   show Value.int k (k.wrap n.val)= .int k (Zv k n).val
   rw[Vw]
  ·cases h
 ·rename_i e hs DD
  split at h
  ·rename_i he
   rw[Ask.cZ] at h
   obtain ⟨⟨pm,l⟩,hc,he2⟩:=map_some h
   simp at he2;obtain ⟨rfl,rfl,rfl⟩:=he2
   refine gm.pure fun _ W al β₀ β a w hr=>?_
   have oX:=mh hr.heap hc (bm hx (aV hr x))
   have dY:=run_bytesToString (P:=P) oX
   obtain ⟨aa,n,c,e1,_⟩:=oX
   refine ⟨_,?_,rfl⟩
   rw[e1] at dY
   simp[execOp,ho,e1,convert,run_underlying hs,run_underlying DD,run_underlying he,dY]
  ·simp[Ask.val] at h
 ·rename_i hs DD
  simp only[Ask.val] at h
  split at h
  ·rename_i l hl
   simp at h;obtain ⟨rfl,rfl,rfl⟩:=h
   refine gm.pure fun _ W al β₀ β a w hr=>?_
   have e:=iP hl (bm hx (aV hr x))
   exact ⟨.string (strOf l),by simp[execOp,ho,e,convert,run_underlying hs,run_underlying DD],rfl⟩
  ·cases h
 ·rename_i e hs DD
  simp only[Ask.val] at h
  split at h
  ·rename_i l he hl
   split at h
   ·rename_i ZB
    cases h
    have oD:=oD ⟨_,by simp;rfl⟩
    intro _ W al β₀ β a w hr
    have ex:=iP hl (bm hx (aV hr x))
    let s:=strOf l
    have hlen:s.size=l.length:=r9 l
    let cap:=(Question.appendCap s.size 0 e).cut (w.tape w.drawn (.appendCap s.size 0 e))
    have DE:s.size≤cap:=by simp[cap,Question.cut]
    let fo:List Value:=(l.map fun n=>((UInt8.ofNat n.toNat).toNat:Int)).map (.int .u8)
    let rest:List Value:=List.replicate (cap-s.size) (.int .u8 0)
    let w1:=w.drew.alloc (.cells (fo++rest).toArray e)
    have hw1:w1.heap[w.heap.size]? =some (.cells (fo++rest).toArray e (0,0)):=heap_alloc_new w.drew _
    obtain ⟨w2,fz',r1,r2,r3,r4,r5,r6,r7⟩:=lk (P:=P) (a:=⟨w.heap.size,0,none⟩) hw1 (.inl rfl)
    have au0:aZ ((Ty.int .u8).has β true) (l.map fun n=>((UInt8.ofNat n.toNat).toNat:Int)) fo:=by
     show aZ _ _ (List.map _ (List.map _ l))
     generalize (l.map fun n=>((UInt8.ofNat n.toNat).toNat:Int))=m
     induction m with
     |nil=>exact .nil
     |cons x m ih=>exact aZ.cons (vs:= [_]) rfl ih
    have g8:=mm (c:=cap) r2 au0 (by simp;omega) (by simp[rest,Ty.w];omega) r3
    have hll:(l.map fun n=>((UInt8.ofNat n.toNat).toNat:Int)).length=s.size:=by simp[hlen]
    rw[hll] at g8
    obtain ⟨β',h1,h2,h3⟩:=hr.heap.sj oD (ver:=0) (w':=w2) (by rw[r5];show w.heap.size≤(w.drew.alloc _).heap.size;rw[World.size_alloc];exact Nat.le_succ _) (by rw[r6];rfl) (by rw[r7];rfl) (fun b hb=>by
     rw[r4 b (by show b≠w.heap.size;omega)]
     exact heap_alloc_old w.drew _ b hb) g8 (fun a n c e _=>by simp at e;obtain ⟨rfl,_⟩:=e;exact Nat.le_refl _)
    refine ⟨β',w2,_,.slice (some ⟨w.heap.size,0,none⟩) s.size cap,?_,.inl rfl,?_,h1,h2⟩
    ·have hel:(strOf l).data.map (fun b=>Value.int .u8 b.toNat)=fo.toArray:=by
      apply Array.ext'
      simp[strOf,fo,List.map_map,Function.comp_def]
     have au1:(strOf l).data.map (fun b=>Value.int .u8 b.toNat)++Array.replicate (cap-s.size) (Value.int .u8 0)=(fo++rest).toArray:=by
      rw[hel];apply Array.ext';simp[rest]
     have hq:(Question.appendCap s.size 0 e).forced=false:=rfl
     simp only[execOp,ho,ex,convert,Sem.run_bind,run_underlying hs,run_underlying DD,run_underlying he,Result.andThen_ok,Conv.stringToBytes,run_choose_drew,hq,Bool.false_eq_true,if_false,newRow,run_newObj,Sem.run_pure]
     show ((Sem.run P (markStringish ⟨w.drew.heap.size,0,none⟩) (w.drew.alloc (.cells ((strOf l).data.map (fun b=>Value.int .u8 b.toNat)++Array.replicate (cap-s.size) (Value.int .u8 0)) e))).andThen _).andThen _=_
     rw[au1]
     show ((Sem.run P (markStringish ⟨w.heap.size,0,none⟩) w1).andThen _).andThen _=_
     rw[r1];rfl
    ·refine ⟨rfl,0,?_,Nat.le_refl _,fun _=>h3.symm⟩
     show kd (setAt st.hp id _) id=_
     rw[dn,if_pos rfl];rfl
   ·cases h
  ·cases h
 ·rename_i e' e hs DD
  split at h
  ·rename_i i ver
   split at h
   ·rename_i hsd
    split at h
    ·rename_i he
     simp only[Ask.val] at h
     split at h
     ·rename_i ver' l hi
      split at h
      ·rename_i hc
       obtain ⟨rfl,gk⟩:=hc
       simp at h;obtain ⟨rfl,rfl,rfl⟩:=h
       intro _ W al β₀ β a w hr
       have hd:=bm hx (aV hr x)
       obtain ⟨oK,hh⟩:=hr.heap.oW (p:=fun v=>a.eval x=v) (aB hi) hd.2
       have ayI:=oK
       obtain ⟨a0,n,c,e1,hn,SS,ha,ef⟩:=oK
       have hc0:0<c:=by
        have:0<l.length:=List.length_pos_iff.2 gk
        omega
       obtain ⟨a1,pre,fo,rest,elem,fz,rfl,k1,k2,k3,k4,k5,k6⟩:=ef hc0
       obtain ⟨w',fz',r1,r2,r3,r4,r5,r6,r7⟩:=lk (P:=P) k2 k6
       obtain ⟨β',h1,h2,h3⟩:=hr.heap.xl (aB hi) (ver':=ver) (l':=l) (v:=β.h i) (w':=w') (.inr ⟨rfl,rfl⟩) (by omega) r6 r7 (fun b hb rO=>r4 b fun e=>rO (by subst e;exact ⟨a1,n,c,e1,hc0,rfl⟩))
        (by rw[e1];exact ⟨_,n,c,rfl,hn,SS,by simp,fun _=>⟨a1,pre,fo,rest,elem,fz',rfl,k1,r2,k3,k4,k5,r3⟩⟩) (fun a n c e h0=> .inl ⟨a,n,c,e,h0,rfl⟩)
       refine ⟨β',w',_,a.eval x,?_,.inl rfl,SV.eA h2 hd,h1,h2⟩
       rw[hh,e1]
       subst hsd
       have hee:e'=e:=by rw[hs] at DD;simpa using DD
       subst hee
       have:a.eval x= .slice (some a1) n c:=by rw[hh,e1]
       simp[execOp,ho,this,convert,run_underlying hs,run_underlying he,r1]
      ·cases h
     ·cases h
    ·simp[Ask.val] at h
   ·simp[Ask.val] at h
  ·simp[Ask.val] at h
 ·simp[Ask.val] at h
end
end Go.Ev
end
section
set_option linter.unusedVariables false
set_option linter.unusedSimpArgs false
namespace Go.Ev
open Go
section
variable {P:Program} {st:St} {o:Oper} {q:Option Prop} {v:LV} {d:List (Nat×Item)}
theorem aqL {lo hi mx:Option Operand} {W:World} {al:Hp} {β₀ β:Env} {a:Act} {w:World} (hr:Rel W al β₀ β st a w) {isS:Bool} {n c:Nat} {r:Nat×Nat×Nat} (h:mi n c (lo.map (ev st)) (hi.map (ev st)) (mx.map (ev st))=some r):
  (Instr.sliceBounds isS n c (lo.map a.eval) (hi.map a.eval) (mx.map a.eval)).run P w= .ok r w:=
 DC (P:=P) (w:=w) (β:=β) (L:=kd st.hp) (lov:=lo.map a.eval) (hiv:=hi.map a.eval) (mxv:=mx.map a.eval) h
  (fun y hy=>by obtain ⟨z,hz,rfl⟩:=map_some hy;exact ⟨a.eval z,by simp[hz],aV hr z⟩) (by cases lo<;>simp)
  (fun y hy=>by obtain ⟨z,hz,rfl⟩:=map_some hy;exact ⟨a.eval z,by simp[hz],aV hr z⟩) (by cases hi<;>simp) (by cases mx<;>simp)
theorem Jt {t el:TypeId} {x:Operand} {lo hi mx:Option Operand} {b off n:Nat} (ho:o.op= .slice t x lo hi mx) (hx:iQ (ev st x)=some (.ptr b off)) (oF:oT P t=some (n,el))
  (h:((fK P 0 (ev st) (.slice t x lo hi mx)).val st.hp)=some (q,v,d)):gm P o st q v d:=by
 have hu:=mg oF
 simp only[fK,hx,oF,Ask.val] at h
 split at h
 ·rename_i cells elem sz hb hs
  split at h
  ·rename_i ty n' l jl
   split at h
   ·rename_i x' y' Dx Zc
    split at h
    ·rename_i hc
     obtain ⟨rfl,rfl⟩:=hc
     cases h
     refine gm.pure fun hq W al β₀ β a w hr=>?_
     obtain ⟨q1,q2,q3⟩:0≤x'∧x'≤y'∧y'≤(n':Int):=hq
     obtain ⟨xb,ex⟩:=bm hx (aV hr x)
     have hsb:=tq (P:=P) hr (isS:=false) Dx Zc q1 q2 q3 (Nat.le_refl _)
     refine ⟨.slice (some (if n'=x'.toNat then ⟨β.b b,off,none⟩ else (⟨β.b b,off,none⟩:Addr).add (x'.toNat*ty.w))) (y'.toNat-x'.toNat) (n'-x'.toNat),?_,xb,q1,by omega,by omega,some (if n'=x'.toNat then ⟨β.b b,off,none⟩ else (⟨β.b b,off,none⟩:Addr).add (x'.toNat*ty.w)),n'-x'.toNat,?_,?_,(fun e=>by cases e),fun h0=>?_⟩
     ·simp only[execOp,ho,ex,Instr.sliceAt,underlying,Sem.run_bind,run_program,Result.andThen_ok,hu,Instr.sureAddr,Sem.run_pure,hsb,run_sizeOf hs,Option.map_none]
     ·rw[show (y'-x').toNat=y'.toNat-x'.toNat from by omega]
     ·omega
     ·rw[if_neg (by omega)]
    ·cases h
   ·cases h
  ·obtain ⟨r,hsp,he⟩:=map_some h
   cases he
   refine gm.pure fun _ W al β₀ β a w hr=>?_
   obtain ⟨xb,ex⟩:=bm hx (aV hr x)
   have hsb:=aqL (P:=P) hr (isS:=false) hsp
   refine ⟨.slice (some ⟨β.b b,if r.2.2=r.1 then off else off+r.1*sz,none⟩) (r.2.1-r.1) (r.2.2-r.1),?_,xb,rfl⟩
   simp only[execOp,ho,ex,Instr.sliceAt,underlying,Sem.run_bind,run_program,Result.andThen_ok,hu,Instr.sureAddr,Sem.run_pure,hsb,run_sizeOf hs]
   split<;>simp[b9]
 ·cases h
theorem zp {a:Option Addr} {c k:Nat} {f:Addr→Addr} (h:a=none→c=0):(if c=k then a else a.map f)=none→c-k=0:=by
 intro e
 split at e
 ·have:=h e;omega
 ·cases a with
  |none=>have:=h rfl;omega
  |some a=>cases e
theorem bd.ZE {W:World} {al:Hp} {β₀ β:Env} {hp:Hp} {w:World} (h:bd W al β₀ β hp w) {pm:Bool} {u u':Value} {t:Ty} {l l':List t.D} (hr:β.rd pm u t l) (oX:bW β pm w u' t l') (mj: ∀ b,inBlock u' b→inBlock u b):
  ∃ β',bd W al β₀ β' hp w∧bU β β' (kd hp) (kd hp)∧β'.rd pm u' t l':=by
 obtain ⟨h1,h2,h3⟩:=h.ot oX fun b hb=>⟨((h.reads _ _ _ _ hr).2 b (mj b hb)).1,((h.reads _ _ _ _ hr).2 b (mj b hb)).2,h.from_ pm u t l b hr (mj b hb)⟩
 exact ⟨_,h1,h2,h3⟩
theorem ahN {W:World} {al:Hp} {β₀ β:Env} {hp:Hp} {w:World} (h:bd W al β₀ β hp w) {s r:SV} {pm:Bool} {t:Ty} {l:List t.D} {x y:Int} (hc:(iT s).val hp=some (pm,⟨t,l⟩)) (hs:am7 t.w x y s=some r)
  {a:Option Addr} {n c:Nat} (hd:s.den β (kd hp) (.slice a n c)) (q1:0≤x) (q2:x≤y) (q3:y≤l.length):
  ∃ β',bd W al β₀ β' hp w∧bU β β' (kd hp) (kd hp)∧r.den β' (kd hp) (.slice (if c=x.toNat then a else a.map (·.add (x.toNat*t.w))) (y.toNat-x.toNat) (c-x.toNat)):=by
 have oX:=j6 h hc hd
 obtain ⟨a',n',c',e,hn,SS,hz,ef⟩:=oX
 simp at e;obtain ⟨rfl,rfl,rfl⟩:=e
 have hyx:(y-x).toNat=y.toNat-x.toNat:=by omega
 unfold am7 at hs
 split at hs
 ·rename_i kT nn t' l'
  simp at hs;subst hs
  have se:pm=kT∧(⟨t,l⟩:(t:Ty)×List t.D)=⟨t',l'⟩:=by
   unfold iT at hc
   rw[Ask.dR] at hc
   simp[Fv,Ask.val,Ask.cZ,iS] at hc
   obtain ⟨h1,rfl,h2⟩:=hc
   exact ⟨h1.symm,by simpa using h2.symm⟩
  obtain ⟨rfl,e⟩:=se
  cases e
  have ahO:yD (.slice a n c) t.w x (y-x) (.slice (if c=x.toNat then a else a.map (·.add (x.toNat*t.w))) (y.toNat-x.toNat) (c-x.toNat)):=by
   refine ⟨_,_,_,_,_,rfl,q1,by omega,by omega,by rw[hyx],by omega,zp hz,fun h0=>?_⟩
   obtain ⟨a0,_,rfl,_⟩:=ef (by omega)
   exact ⟨a0,rfl,by rw[if_neg (by omega)];rfl⟩
  have au2:bW β pm w (.slice a n c) t l:=⟨_,_,_,rfl,hn,SS,hz,ef⟩
  obtain ⟨_,_,oE⟩:=hd
  have mj: ∀ b,inBlock (Value.slice (if c=x.toNat then a else a.map (·.add (x.toNat*t.w))) (y.toNat-x.toNat) (c-x.toNat)) b→inBlock (Value.slice a n c) b:=by
   intro b hb
   cases a with
   |none=>split at hb<;>exact hb.elim
   |some a=>
    split at hb
    ·obtain ⟨h1,h2⟩:=hb;exact ⟨by omega,h2⟩
    ·obtain ⟨h1,h2⟩:=hb;exact ⟨by omega,by rw[← h2,dC]⟩
  rcases oE with oE|⟨rfl,oE⟩|⟨e,rfl⟩
  ·obtain ⟨β',k1,k2,k3⟩:=h.ZE oE ((h.reads _ _ _ _ oE).1.sub ahO) mj
   exact ⟨β',k1,k2,rfl,fun e=>(by cases e),.inl k3⟩
  ·obtain ⟨β',k1,k2,k3⟩:=h.ZE oE ((h.reads _ _ _ _ oE).1.sub ahO) mj
   exact ⟨β',k1,k2,rfl,fun e=>(by cases e),.inr (.inl ⟨rfl,k3⟩)⟩
  ·simp at e;obtain ⟨rfl,rfl,rfl⟩:=e
   refine ⟨β,h,bU.refl _ _,rfl,fun e=>(by cases e),.inr (.inr ⟨?_,by simp⟩)⟩
   have xa:x.toNat=0:=by simp at q3;omega
   have AL:y.toNat=0:=by simp at q3;omega
   rw[xa,AL];rfl
 ·rename_i i ver
  simp at hs;subst hs
  obtain ⟨k1,cc,k2,k3,k4⟩:=hd
  refine ⟨β,h,bU.refl _ _,rfl,cc,k2,k3,fun e=>⟨a,n,c,_,_,(k4 e).symm,q1,by omega,by omega,by rw[hyx],by omega,zp hz,fun h0=>?_⟩⟩
  obtain ⟨a0,_,rfl,_⟩:=ef (by omega)
  exact ⟨a0,rfl,by rw[if_neg (by omega)];rfl⟩
 ·rename_i i ver w' z m
  simp at hs;subst hs
  have hw:w'=t.w:=by
   unfold iT at hc
   rw[Ask.dR] at hc
   split at hc
   ·rename_i t0 _
    rw[Ask.cZ] at hc
    obtain ⟨⟨kT,l'⟩,h1,h2⟩:=map_some hc
    simp at h2;obtain ⟨_,rfl,_⟩:=h2
    simp only[iS,Ask.val] at h1
    split at h1
    ·split at h1
     ·split at h1
      ·rename_i hh;exact hh.2
      ·cases h1
     ·cases h1
    ·cases h1
   ·cases hc
  subst hw
  obtain ⟨k1,cc,k2,k3,k4⟩:=hd
  refine ⟨β,h,bU.refl _ _,rfl,cc,k2,k3,fun e=>?_⟩
  obtain ⟨a1,m1,c1,a2,c2,e1,z0,m0,hle,e2,hc2,hz2,tu⟩:=k4 e
  simp at e2;obtain ⟨rfl,e3,rfl⟩:=e2
  refine ⟨a1,m1,c1,_,_,e1,by omega,by omega,by omega,by rw[hyx],by omega,zp hz2,fun h0=>?_⟩
  obtain ⟨a0,rfl,rfl⟩:=tu (by omega)
  refine ⟨a0,rfl,?_⟩
  rw[if_neg (by omega),Option.map_some,AO,← Nat.add_mul,show (z+x).toNat=z.toNat+x.toNat from by omega]
 ·rename_i b o' t' m z k
  simp at hs;subst hs
  have ht:t'=t:=by have:=Vx hc;simp[Fv,Ask.val] at this;exact this
  subst ht
  obtain ⟨k1,z0,m0,zm,a2,c2,e2,hc2,hz2,tu⟩:=hd
  simp at e2;obtain ⟨rfl,e3,rfl⟩:=e2
  refine ⟨β,h,bU.refl _ _,k1,by omega,by omega,by omega,_,_,by rw[hyx],by omega,zp hz2,fun h0=>?_⟩
  have:=tu (by omega)
  subst this
  rw[if_neg (by omega),Option.map_some,AO,← Nat.add_mul,show (z+x).toNat=z.toNat+x.toNat from by omega]
 ·cases hs
end
end Go.Ev
end
section
set_option linter.unusedVariables false
set_option linter.unusedSimpArgs false
namespace Go.Ev
open Go
section
variable {P:Program} {st:St} {o:Oper} {q:Option Prop} {v:LV} {d:List (Nat×Item)}
theorem ZF {id:Nat} {t:TypeId} {x:Operand} {lo hi mx:Option Operand} (ho:o.op= .slice t x lo hi mx)
  (h:((fK P id (ev st) (.slice t x lo hi mx)).val st.hp)=some (q,v,d)):gm P o st q v d:=by
 have h0:=h
 simp only[fK] at h
 split at h
 ·rename_i b off n el _ hx oF
  refine Jt ho hx oF ?_
  simp only[fK] at h0 ⊢
  exact h0
 ·rename_i b off len cap el hx oF nb
  have hu:=dD nb
  simp only[Ask.val] at h
  split at h
  ·rename_i l hh m sz hsp hs
   cases h
   refine gm.pure fun _ W al β₀ β a w hr=>?_
   obtain ⟨xb,ex⟩:=bm hx (aV hr x)
   have hsb:=aqL (P:=P) hr (isS:=true) hsp
   refine ⟨.slice (some ⟨β.b b,if m=l then off else off+l*sz,none⟩) (hh-l) (m-l),?_,xb,rfl⟩
   simp only[execOp,ho,ex,Instr.sliceAt,Instr.slice,underlying,Sem.run_bind,run_program,Result.andThen_ok,hu,Sem.run_pure,hsb,run_sizeOf hs]
   split<;>simp[b9]
  ·cases h
 ·rename_i s el hx oF nb
  have hu:=dD nb
  rw[Ask.cZ] at h
  split at h
  ·rename_i pm ty l sz hc hs
   split at h
   ·rename_i x' y' Dx Zc
    split at h
    ·rename_i hw;subst hw
     obtain ⟨r,MY,he⟩:=map_some h
     cases he
     intro hq W al β₀ β a w hr
     obtain ⟨q1,q2,q3⟩:0≤x'∧x'≤y'∧y'≤(l.length:Int):=hq
     have hd:=bm hx (aV hr x)
     obtain ⟨a',n',c',ex,hn,SS,_⟩:=j6 hr.heap hc hd
     rw[ex] at hd
     rw[← hn] at Zc q3
     have hsb:=tq (P:=P) hr (isS:=true) Dx Zc q1 q2 q3 SS
     obtain ⟨β',k1,k2,k3⟩:=ahN hr.heap hc MY hd q1 q2 (by rw[← hn];exact q3)
     refine ⟨β',w,_,_,?_,.inl rfl,k3,k1,k2⟩
     simp only[execOp,ho,ex,Instr.sliceAt,Instr.slice,underlying,Sem.run_bind,run_program,Result.andThen_ok,hu,Sem.run_pure,Option.map_none]
     rw[hsb]
     simp only[Result.andThen_ok,run_sizeOf hs,Sem.run_pure]
    ·cases h
   ·cases h
  ·cases h
 ·simp[Ask.val] at h
theorem Fz {id:Nat} {t:TypeId} {x y:Operand} (ho:o.op= .makeSlice t x y) (h:((fK P id (ev st) (.makeSlice t x y)).val st.hp)=some (q,v,d)) (oD:(∃ x,(id,x)∈d)→kd st.hp id=none):gm P o st q v d:=by
 simp only[fK,Ask.val] at h
 split at h
 ·rename_i el k1 n k2 c nb hn hc
  have hu:=dD nb
  split at h
  ·rename_i ty sz z w9 hty hs hz MZ
   split at h
   ·rename_i kh
    obtain ⟨rfl,iO,ZG⟩:=kh
    split at h
    ·rename_i z0 hz0
     cases h
     have ZH:=oD ⟨_,by simp;rfl⟩
     intro hq W al β₀ β a w hr
     obtain ⟨rfl,DF,ayJ,ayK⟩:c=n∧0≤n∧(w9:Int)*n≤2 ^ 46∧n≤2 ^ 46:=hq
     have en:=eS hn (aV hr x)
     have ec:=eS hc (aV hr y)
     obtain ⟨zv,SU,hzd⟩:=oU (P:=P) (w:=w) (β:=β) (L:=kd st.hp) hz
     have hzs:zv.cells.size=ty.w:=by have:=hzd.length;simp at this;omega
     have hzh:=ty.gl hz0 hzd
     have ane:=wrap_small (n:=c) DF (by omega)
     have au4: ∃ i,P.info? el=some i∧i.bytes=w9:=by
      unfold oS at MZ
      obtain ⟨i,h1,h2⟩:=map_some MZ
      exact ⟨i,h1,h2⟩
     obtain ⟨i,hi,hib⟩:=au4
     have jl:aZ (ty.has β true) (List.replicate c.toNat z0) ((List.replicate c.toNat zv.cells.toList).flatten):=AP hzh _
     have g8:=mm (β:=β) (w:=w.alloc (.cells ((List.replicate c.toNat zv.cells.toList).flatten++ []).toArray el)) (b:=w.heap.size) (elem:=el) (fz:=(0,0)) (rest:= []) (c:=c.toNat) (heap_alloc_new w _) jl (by simp) (by simp) (.inl rfl)
     rw[List.append_nil,List.length_replicate] at g8
     obtain ⟨β',h1,h2,h3⟩:=hr.heap.sj ZH (ver:=0) (w':=w.alloc (.cells ((List.replicate c.toNat zv.cells.toList).flatten).toArray el)) (by rw[World.size_alloc];exact Nat.le_succ _) rfl rfl (fun b hb=>heap_alloc_old w _ b hb) g8 (fun a n c e _=>by simp at e;obtain ⟨rfl,_⟩:=e;exact Nat.le_refl _)
     refine ⟨β',_,_,.slice (some ⟨w.heap.size,0,none⟩) c.toNat c.toNat,?_,.inl rfl,?_,h1,h2⟩
     ·have hti:(typeInfo el).run P w= .ok i w:=by simp[typeInfo,hi]
      have ZI: ¬ ((c<0)∨((i.bytes:Int)*c>2 ^ 48)):=by
       rw[hib]
       intro hh
       rcases hh with hh|hh<;>omega
      have ahR:(decide (c<0)||decide ((i.bytes:Int)*c>2 ^ 48))=false:=by
       have: ¬ (c<0)∧ ¬ ((i.bytes:Int)*c>2 ^ 48):=⟨fun hh=>ZI (.inl hh),fun hh=>ZI (.inr hh)⟩
       simp only[this.1,this.2,decide_false,Bool.or_self]
      simp only[execOp,ho,en,ec,Instr.makeSlice,Sem.run_bind,run_underlying hu,Result.andThen_ok,asInt,asIntOf,Sem.run_pure,hti,ane,ahR,Bool.false_or]
      rw[if_neg (by simp;omega)]
      simp only[Sem.run_bind,run_askRoom,Result.andThen_ok,run_sizeOf hs]
      by_cases Zd:c.toNat*ty.w=0
      ·have h01:c.toNat=0:=by
        rcases Nat.mul_eq_zero.1 Zd with k|k
        ·exact k
        ·omega
       rw[if_pos Zd]
       simp only[Sem.run_bind,Result.andThen_ok,newRow,run_newObj,Sem.run_pure,h01]
       have hr0:(Array.range 0).map (fun x=>(#[]:Array Value)[x%(#[]:Array Value).size]!)= #[]:=by simp
       rw[Nat.zero_mul,hr0]
       simp
      ·rw[if_neg Zd]
       simp only[Sem.run_bind,SU,Result.andThen_ok,newRow,run_newObj,Sem.run_pure,lM c.toNat hzs]
       rfl
     ·refine ⟨rfl,0,?_,Nat.le_refl _,fun _=>h3.symm⟩
      show kd (setAt st.hp id _) id=_
      rw[dn,if_pos rfl];rfl
    ·cases h
   ·cases h
  ·cases h
 ·cases h
theorem DG {id:Nat} {t:TypeId} {len:Nat} {parts:Array (Nat×Operand)} (ho:o.op= .buildSlice t len parts) (h:((fK P id (ev st) (.buildSlice t len parts)).val st.hp)=some (q,v,d)) (oD:(∃ x,(id,x)∈d)→kd st.hp id=none):gm P o st q v d:=by
 simp only[fK,Ask.val] at h
 split at h
 ·rename_i el nb
  have hu:=dD nb
  split at h
  ·rename_i sz z hs hz
   split at h
   ·rename_i kh
    obtain ⟨h16,ZG,iO⟩:=kh
    split at h
    ·rename_i l hl
     have base: ∀ (W:World) (al:Hp) (β₀ β:Env) (a:Act) (w:World),Rel W al β₀ β st a w→
       ∃ c:List Value,bo β (kd st.hp) l c∧(execOp a.eval o).run P w= .ok (.value (.slice (some ⟨w.heap.size,0,none⟩) len len)) (w.alloc (.cells c.toArray el)):=by
      intro W al β₀ β a w hr
      obtain ⟨zv,SU,hzd⟩:=oU (P:=P) (w:=w) (β:=β) (L:=kd st.hp) hz
      have hzs:zv.cells.size=sz:=by have:=hzd.length;simp at this;omega
      obtain ⟨c,hcc,hd⟩:=Fq (β:=β) (L:=kd st.hp) (place:=fun i=>some (i*sz,sz)) _ (parts.toList.map fun p=>(p.1,a.eval p.2)) _ _ l (Js hzd len)
       (b8.of_map _ _ _ fun p _=>⟨rfl,aV hr p.2⟩) hl
      refine ⟨c,hd,?_⟩
      simp only[execOp,ho,Instr.buildSlice,Sem.run_bind,run_underlying hu,Result.andThen_ok,run_sizeOf hs]
      rw[if_neg (by omega)]
      have aqN:Instr.fill (fun i=>some (i*sz,sz)) ((List.replicate len zv.cells.toList).flatten).toArray (Array.map (fun x=>match x with|(i,x)=>(i,a.eval x)) parts).toList=some c.toArray:=by
       rw[← hcc];simp
      by_cases Zd:len*sz=0
      ·have h01:len=0:=by
        rcases Nat.mul_eq_zero.1 Zd with k|k
        ·exact k
        ·omega
       rw[if_pos Zd]
       have au6:Instr.fill (fun i=>some (i*sz,sz)) #[] (Array.map (fun x=>match x with|(i,x)=>(i,a.eval x)) parts).toList=some c.toArray:=by
        rw[← aqN,h01];simp
       simp only[Sem.run_bind,Result.andThen_ok,Sem.run_pure,Zd]
       have hr0:(Array.range 0).map (fun x=>(#[]:Array Value)[x%(#[]:Array Value).size]!)= #[]:=by simp
       rw[hr0,au6]
       simp[newRow]
      ·rw[if_neg Zd]
       simp only[Sem.run_bind,SU,Result.andThen_ok,Sem.run_pure,lM len hzs]
       rw[aqN]
       simp[newRow]
     have aqO:some (q,v,d)=some ((none:Option Prop),LV.one (.sc (.slice id 0 len len)),[(id,Item.a8 l el)])→gm P o st q v d:=by
      intro he;cases he
      have oD:=oD ⟨_,by simp;rfl⟩
      intro _ W al β₀ β a w hr
      obtain ⟨c,hd,dY⟩:=base W al β₀ β a w hr
      obtain ⟨β',h1,h2,h3⟩:=hr.heap.Zy oD el hd
      refine ⟨β',_,_,_,dY,.inl rfl,⟨?_,by rw[h3]⟩,h1,h2⟩
      show kd (setAt st.hp id _) id=_
      rw[dn,if_pos rfl];rfl
     split at h
     ·rename_i ty hty
      split at h
      ·rename_i hw;subst hw
       split at h
       ·rename_i xs hxs
        cases h
        have oD:=oD ⟨_,by simp;rfl⟩
        intro _ W al β₀ β a w hr
        obtain ⟨c,hd,dY⟩:=base W al β₀ β a w hr
        obtain ⟨hh,hlen⟩:=gA (R:=ty.has β true) (fun a x vs h hd=>ty.gl h hd) _ hxs hd
        have g8:=mm (β:=β) (w:=w.alloc (.cells (c++ []).toArray el)) (b:=w.heap.size) (elem:=el) (fz:=(0,0)) (rest:= []) (c:=len) (heap_alloc_new w _) hh (by omega) (by simp[hlen]) (.inl rfl)
        rw[List.append_nil,hlen] at g8
        obtain ⟨β',h1,h2,h3⟩:=hr.heap.sj oD (ver:=0) (w':=w.alloc (.cells c.toArray el)) (by rw[World.size_alloc];exact Nat.le_succ _) rfl rfl (fun b hb=>heap_alloc_old w _ b hb) g8 (fun a n c e _=>by simp at e;obtain ⟨rfl,_⟩:=e;exact Nat.le_refl _)
        refine ⟨β',_,_,_,dY,.inl rfl,⟨rfl,0,?_,Nat.le_refl _,fun _=>h3.symm⟩,h1,h2⟩
        show kd (setAt st.hp id _) id=_
        rw[dn,if_pos rfl];rfl
       ·exact aqO h.symm
      ·cases h
     ·exact aqO h.symm
    ·cases h
   ·cases h
  ·cases h
 ·cases h
theorem Vy {op:BinOp} {t:TypeId} {ox oy:Operand} {x y:LV} {b:Bool} (h:Nh P op t x y=some b) {w:World} {β:Env} {L:Nat→Option Kd} {xv yv:Value} (hx:x.den β L xv) (hy:y.den β L yv):
  (do eqGuard op t ox oy xv yv;binOp op t xv yv:Sem Value).run P w= .ok (.bool b) w:=by
 unfold Nh at h
 have key: ∀ {pm:Bool} {ty:Ty} {l:List ty.D} {n c:Nat} {e:TypeId},dL P t=some e→(LV.one (.sc (.rd pm true ty l))).den β L xv→(LV.one (.sc (.gz (.slice none n c)))).den β L yv→
   ∃ a n c n' c',xv= .slice (some a) n c∧yv= .slice none n' c':=by
  intro pm ty l n c e _ h1 h2
  obtain ⟨_,h3,_⟩:=h1
  obtain ⟨_,rfl⟩:=h2
  have:=h3 rfl
  cases xv with
  |slice a n' c'=>cases a with
   |none=>exact absurd rfl this
   |some a=>exact ⟨a,n',c',n,c,rfl,rfl⟩
  |_=>exact this.elim
 split at h
 ·rename_i e nb
  cases h
  obtain ⟨a,n,c,n',c',rfl,rfl⟩:=key nb hx hy
  rw[Sem.run_bind,dk (by simp) (by simp)]
  exact qu rfl (jS (dD nb))
 ·rename_i e nb
  cases h
  obtain ⟨a,n,c,n',c',rfl,rfl⟩:=key nb hx hy
  rw[Sem.run_bind,dk (by simp) (by simp)]
  exact qv rfl (jS (dD nb))
 ·cases h
theorem ahS {id:Nat} (h:(fK P id (ev st) o.op).val st.hp=some (q,v,d)) (oD:(∃ x,(id,x)∈d)→kd st.hp id=none):gm P o st q v d:=by
 cases ho:o.op<;>rw[ho] at h<;>(try (simp[fK,Ask.val] at h;done))
 case slice t x lo hi mx=>exact ZF ho h
 case makeSlice t x y=>exact Fz ho h oD
 case buildSlice t n parts=>exact DG ho h oD
 all_goals simp only[fK] at h
 case move x=>
  cases h
  exact .pure fun _ W al β₀ β a w hr=>⟨a.eval x,by simp[execOp,ho],aV hr x⟩
 case assign x=>
  cases h
  exact .pure fun _ W al β₀ β a w hr=>⟨a.eval x,by simp[execOp,ho],aV hr x⟩
 case pick c x y=>
  simp only[Ask.val] at h
  split at h
  ·rename_i t hc
   cases h
   refine .pure fun _ W al β₀ β a w hr=>⟨if t then a.eval x else a.eval y,?_,?_⟩
   ·have:=aV hr c;rw[hc] at this
    have e:a.eval c= .bool t:=this
    simp[execOp,ho,e,asBool]
   ·cases t
    ·exact aV hr y
    ·exact aV hr x
  ·rename_i t hc
   have ZJ: ∀ (a:Act) (w:World) {W:World} {al:Hp} {β₀ β:Env},Rel W al β₀ β st a w→(execOp a.eval o).run P w= .ok (.value (if t then a.eval x else a.eval y)) w:=by
    intro a w W al β₀ β hr
    have:=aV hr c;rw[hc] at this
    have e:a.eval c= .bool t:=this
    simp[execOp,ho,e,asBool]
   split at h
   ·rename_i u v hx hy
    cases h
    refine .pure fun _ W al β₀ β a w hr=>⟨_,ZJ a w hr,?_⟩
    cases t
    ·exact Jm (J:=Zw) (L₁:=kd st.hp) ⟨fun _ _ h=>h,fun _ _ _ _ h=>(by cases h),fun _ h=>(by cases h)⟩ (hy▸aV hr y)
    ·exact M7 (J:=Zw) (L₁:=kd st.hp) ⟨fun _ _ h=>h,fun _ _ _ _ h=>(by cases h),fun _ h=>(by cases h)⟩ (hx▸aV hr x)
   ·rename_i u hx _
    cases h
    refine .pure fun hq W al β₀ β a w hr=>⟨_,ZJ a w hr,?_⟩
    have ht:t=true:=hq
    subst ht
    exact hx▸aV hr x
   ·rename_i u hy _
    cases h
    refine .pure fun hq W al β₀ β a w hr=>⟨_,ZJ a w hr,?_⟩
    have ht:t=false:=hq
    subst ht
    exact hy▸aV hr y
   ·cases h
  ·cases h
 case alloc t=>
  simp only[Ask.val] at h
  obtain ⟨l,hl,he⟩:=map_some h
  cases he
  have oD:=oD ⟨_,by simp;rfl⟩
  refine Jp (mk:=fun _=>Instr.alloc t true (.tuple #[])) (fun a=>by simp[execOp,ho]) (fun W al β₀ β a w hr=>?_) oD
  obtain ⟨z,hz,hd⟩:=oU (P:=P) (w:=w) (β:=β) (L:=kd st.hp) hl
  refine ⟨_,hd,?_⟩
  simp only[Instr.alloc,Sem.run_bind,hz,Result.andThen_ok,newVar,newRow,run_newObj,Sem.run_pure]
  simp
 case box t x=>
  simp only[Ask.val] at h
  obtain ⟨l,hl,he⟩:=map_some h
  cases he
  have oD:=oD ⟨_,by simp;rfl⟩
  refine Jp (mk:=fun a=>Instr.box t (a.eval x)) (fun a=>by simp[execOp,ho]) (fun W al β₀ β a w hr=>?_) oD
  obtain ⟨cs,hcs,hd⟩:=oR hl (aV hr x)
  refine ⟨_,hd,?_⟩
  simp only[Instr.box,Sem.run_bind,Result.andThen_ok,newVar,newRow,run_newObj,Sem.run_pure,hcs]
  rfl
 case build t parts=>
  simp only[Ask.val] at h
  split at h
  ·rename_i z place hz Zp
   obtain ⟨l,hl,he⟩:=map_some h
   cases he
   refine .pure fun _ W al β₀ β a w hr=>?_
   obtain ⟨zv,SU,hzd⟩:=oU (P:=P) (w:=w) (β:=β) (L:=kd st.hp) hz
   obtain ⟨c,hc,hd⟩:=Fq (β:=β) (L:=kd st.hp) (place:=place) _ (parts.toList.map fun p=>(p.1,a.eval p.2)) z zv.cells.toList l hzd
    (b8.of_map _ _ _ fun p _=>⟨rfl,aV hr p.2⟩) hl
   refine ⟨.agg c.toArray,?_,c,rfl,hd⟩
   unfold SL at Zp
   split at Zp
   ·rename_i fs hu
    obtain ⟨pl,au7,rfl⟩:=map_some Zp
    have:=ow (P:=P) (w:=w) fs.toList pl au7
    simp only[execOp,ho,Instr.build,Sem.run_bind,SU,Result.andThen_ok,underlying,run_program,hu,Sem.run_pure]
    rw[Array.mapM_eq_mapM_toList]
    simp only[Sem.run_map,this,Result.andThen_ok]
    simp at hc
    simp[hc]
   ·rename_i n e hu
    obtain ⟨s,hs,rfl⟩:=map_some Zp
    simp only[execOp,ho,Instr.build,Sem.run_bind,SU,Result.andThen_ok,underlying,run_program,hu,Sem.run_pure,run_sizeOf hs]
    simp at hc
    simp[hc]
   ·simp at Zp
  ·cases h
 case load t x=>
  split at h
  ·rename_i s hx;exact ahL ho hx h
  ·simp[Ask.val] at h
 case store t x y=>
  split at h
  ·rename_i s l hx hl;exact ZD ho hx hl h
  ·simp[Ask.val] at h
 case nilCheck x=>
  simp only[Ask.val] at h
  split at h
  ·rename_i b off hx
   cases h
   refine .pure fun _ W al β₀ β a w hr=>?_
   have hd:=aV hr x;rw[hx] at hd
   obtain ⟨fq,e⟩:kd st.hp b=some .a8∧a.eval x= .pointer (some ⟨β.b b,off,none⟩):=hd
   exact ⟨_,by simp[execOp,ho,e],fq,rfl⟩
  ·rename_i s wd z f hx
   cases h
   refine .pure fun _ W al β₀ β a w hr=>?_
   have hd:=aV hr x;rw[hx] at hd
   have hd':=hd
   obtain ⟨ad,n,c,h1,h2,h3,e⟩:=hd
   refine ⟨.pointer (some (ad.add (z.toNat*wd+f))),by simp[execOp,ho,e],?_⟩
   rw[e] at hd';exact hd'
  ·cases h
 case binOp op t x y yt=>
  simp only[Ask.val] at h
  split at h
  ·rename_i b hn
   cases h
   refine .pure fun hq W al β₀ β a w hr=>⟨.bool b,?_,rfl⟩
   have:=Vy (w:=w) (ox:=x) (oy:=y) hn (aV hr x) (aV hr y)
   simp only[execOp,ho]
   rw[Sem.run_bind,this];rfl
  ·obtain ⟨r,MY,he⟩:=map_some h
   cases he
   refine .pure fun hq W al β₀ β a w hr=>?_
   obtain ⟨val,e1,e2⟩:=Zt (P:=P) (w:=w) (ox:=x) (oy:=y) (s:=r.2) (q:=r.1) (by rw[MY]) hq (aV hr x) (aV hr y)
   refine ⟨val,?_,e2⟩
   simp only[execOp,ho]
   rw[Sem.run_bind,e1];rfl
 case unOp op t x=>
  simp only[Ask.val] at h
  split at h
  ·rename_i s h1
   obtain ⟨r,MY,he⟩:=map_some h
   cases he
   refine .pure fun hq W al β₀ β a w hr=>?_
   have hd:=bm h1 (aV hr x)
   cases s<;>simp only[aqD] at MY<;>try (simp at MY;done)
   ·cases op<;>simp at MY<;>subst MY<;>(have e:a.eval x=_:=hd)
    ·exact ⟨_,by simp[execOp,ho,e,Op.unary,Op.intArith];rfl,by simp only[LV.den,VV.den,SV.den,map2_val];simp[SI.val]⟩
    ·exact ⟨_,by simp only[execOp,ho,e,Op.unary,Op.intBits];rfl,by simp only[LV.den,VV.den,SV.den,map2_val];rfl⟩
   ·rename_i b
    cases op<;>simp at MY<;>subst MY
    have e:a.eval x=_:=hd
    exact ⟨_,by simp[execOp,ho,e,Op.unary];rfl,by cases b<;>simp[LV.den,VV.den,SV.den,SB.val]⟩
  ·cases h
 case convert src dst x=>
  split at h
  ·rename_i s hx;exact ahM ho hx h oD
  ·simp[Ask.val] at h
 case sliceToArrayPointer t x=>
  split at h
  ·rename_i b off len cap n e hx ha
   simp only[Ask.val] at h
   split at h
   ·rename_i hle
    cases h
    refine .pure fun _ W al β₀ β a w hr=>?_
    obtain ⟨fq,ex⟩:=bm hx (aV hr x)
    have hu:=mg ha
    exact ⟨_,by simp[execOp,ho,ex,Instr.arrayAt,underlying,hu,Nat.not_lt.2 hle],fq,rfl⟩
   ·cases h
  ·rename_i s n e hns hx ha
   rw[Ask.cZ] at h
   split at h
   ·rename_i pm ty l hc
    split at h
    ·rename_i kh
     obtain ⟨DF,hs⟩:=kh
     cases h
     refine .pure fun hq W al β₀ β a w hr=>?_
     have ZC:n≤l.length:=hq
     have hd:=bm hx (aV hr x)
     obtain ⟨a',n',c',ex,hn,SS,_,ef⟩:=j6 hr.heap hc hd
     obtain ⟨a0,_,rfl,_⟩:=ef (by omega)
     have hu:=mg ha
     rw[ex] at hd
     refine ⟨.pointer (some a0),?_,a0,n',c',hd,Int.le_refl _,by omega,by simp[Addr.add]⟩
     simp[execOp,ho,ex,Instr.arrayAt,underlying,hu,show ¬ n'<n by omega]
    ·cases h
   ·cases h
  ·simp[Ask.val] at h
 case fieldAddr s x f=>
  simp only[Ask.val] at h
  split at h
  ·rename_i av fs hx hf
   have hu:=AI hf
   split at h
   ·rename_i fd hfd
    have ahT:fs.toArray[f]? =some fd:=by simpa using hfd
    split at h
    ·rename_i n hn
     split at h
     ·cases h
     ·rename_i DF
      split at h
      ·rename_i b off
       cases h
       refine .pure fun _ W al β₀ β a w hr=>?_
       obtain ⟨fq,ex⟩:=bm hx (aV hr x)
       refine ⟨.pointer (some ⟨β.b b,off+fd.offset,none⟩),?_,fq,rfl⟩
       simp only[execOp,ho,ex,Instr.fieldAt,underlying,Sem.run_bind,run_program,Result.andThen_ok,hu,Sem.run_pure,ahT,Instr.sureAddr,fieldPlace,run_sizeOf hn,DF,if_false,b9]
      ·rename_i s' wd z f0
       cases h
       refine .pure fun _ W al β₀ β a w hr=>?_
       obtain ⟨ad,n',c,h1,h2,h3,ex⟩:=bm hx (aV hr x)
       refine ⟨.pointer (some (ad.add (z.toNat*wd+(f0+fd.offset)))),?_,ad,n',c,h1,h2,h3,rfl⟩
       simp only[execOp,ho,ex,Instr.fieldAt,underlying,Sem.run_bind,run_program,Result.andThen_ok,hu,Sem.run_pure,ahT,Instr.sureAddr,fieldPlace,run_sizeOf hn,DF,if_false,AO,Nat.add_assoc]
      ·cases h
    ·cases h
   ·cases h
  ·cases h
 case field s x f=>
  simp only[Ask.val] at h
  split at h
  ·rename_i l fs hx hf
   split at h
   ·rename_i fd hfd
    obtain ⟨y,hy,he⟩:=map_some h
    cases he
    refine .pure fun _ W al β₀ β a w hr=>?_
    have hd:=aV hr x;rw[hx] at hd
    obtain ⟨cs,ex,hd⟩:=hd
    have hu:=AI hf
    have ahT:fs.toArray[f]? =some fd:=by simpa using hfd
    obtain ⟨val,h1,h2⟩:=jj (P:=P) (w:=w) hd hy
    refine ⟨val,?_,h2⟩
    simp[execOp,ho,ex,Instr.field,underlying,hu,ahT,asAgg,h1]
   ·cases h
  ·cases h
 case indexAddr t x i=>
  split at h
  ·rename_i s hx;exact Nj ho hx h
  ·simp[Ask.val] at h
 case index t x i=>
  simp only[Ask.val] at h
  obtain ⟨r,MY,he⟩:=map_some h
  cases he
  exact am9 ho (by rw[MY])
 case extract x i=>
  simp only[Ask.val] at h
  split at h
  ·rename_i l hx
   obtain ⟨y,hy,he⟩:=map_some h
   cases he
   refine .pure fun _ W al β₀ β a w hr=>?_
   have hd:=aV hr x;rw[hx] at hd
   obtain ⟨cs,ex,hd⟩:=hd
   obtain ⟨val,h1,h2⟩:=hd.get hy
   have h1':cs.toArray[i]? =some val:=by simpa using h1
   exact ⟨val,by simp[execOp,ho,ex,Instr.extract,h1'],h2⟩
  ·cases h
end
end Go.Ev
end
section
set_option linter.unusedVariables false
set_option linter.unusedSimpArgs false
namespace Go.Ev
open Go
def ZK (P:Program) (ty:Ty) (t:TypeId) (x:SV):Ask (Option (Bool×List ty.D)):=
 match dL P t with
 |some _=>iS ty x
 |none=>match P.underlying t with
  |some .string=> .ret (if h:Ty.int .u8=ty then (oP x).map fun l=>(true,h▸(l.map fun n=>((UInt8.ofNat n.toNat).toNat:Int))) else none)
  |_=> .ret none
def ang (P:Program) (t:TypeId) (x:SV):Ask (Option SI):=
 match x with
 | .gz (.slice _ n _)=> .ret ((dL P t).map fun _=> .lit n)
 | .slice _ _ n _=> .ret ((dL P t).map fun _=> .lit n)
 | .str l=> .ret (if P.underlying t matches some .string then some (.sym l.length) else none)
 | .gz (.string s)=> .ret (if P.underlying t matches some .string then some (.lit s.size) else none)
 |x=>match dL P t with
  |some _=>(iT x).map fun c=>c.map fun c=> .sym c.2.2.length
  |none=> .ret none
def xm (f:Int→Int→Int) (k:IntKind):SI→List SV→Option SI
 |x,[]=>some x
 |x,.int k' y::l=>if k'=k then xm f k (map2 f x y) l else none
 |_,_=>none
def ZL (x y:Int):Int:=if y<x then y else x
def ZM (x y:Int):Int:=if y>x then y else x
def iH {α:Type} (l:List α) (z len:Nat) (m:List α):List α:=l.take z++(m.take len++l.drop (z+min len m.length))
def ZN (P:Program) (id:Nat) (t u:TypeId) (s x:SV):Ask Stp:=
 match dL P t with
 |none=> .ret none
 |some el=>match DB P 8 el,de P el,ov P el,oS P el with
  |some ty,some sz,some z,some w9=>
   if sz=ty.w∧0<ty.w∧wL z=ty.w then
    (ZK P ty u x).bind fun c=>match c with
     |some (pm,m)=>if pm||ty.flat then
       match s with
       | .gz (.slice none 0 0)=> .ret (some (some (m.length*w9≤70368744177664∧m.length≤70368744177664),.one (.sc (.sl id 0)),[(id,.own 0 ty m)]))
       | .sl i ver=> .get i fun y=> .ret (match y with
        |some (.own ver' w8 l)=>if h:w8=ty then (if ver=ver' then some (some ((l.length+m.length)*w9≤70368744177664∧l.length+m.length≤70368744177664),.one (.sc (.sl i (ver+1))),[(i,.own (ver+1) ty ((h▸l:List ty.D)++m))]) else none) else none
        |_=>none)
       |_=> .ret none
      else .ret none
     |none=> .ret none
   else .ret none
  |_,_,_,_=> .ret none
def Nk (P:Program) (id:Nat) (t u:TypeId) (s:SV) (n:Int):Ask Stp:=
 match dL P t,P.underlying u with
 |some el,some (.int _)=>match DB P 8 el,de P el,ov P el,oS P el with
  |some ty,some sz,some z,some w9=>
   if sz=ty.w∧0<ty.w∧wL z=ty.w then
    match ty.read true z with
    |some z0=>match s with
     | .gz (.slice none 0 0)=> .ret (some (some (0≤n∧n.toNat*w9≤70368744177664∧n.toNat≤70368744177664),.one (.sc (.sl id 0)),[(id,.own 0 ty (List.replicate n.toNat z0))]))
     | .sl i ver=> .get i fun y=> .ret (match y with
      |some (.own ver' w8 l)=>if h:w8=ty then (if ver=ver' then some (some (0≤n∧(l.length+n.toNat)*w9≤70368744177664∧l.length+n.toNat≤70368744177664),.one (.sc (.sl i (ver+1))),[(i,.own (ver+1) ty ((h▸l:List ty.D)++List.replicate n.toNat z0))]) else none) else none
      |_=>none)
     |_=> .ret none
    |none=> .ret none
   else .ret none
  |_,_,_,_=> .ret none
 |_,_=> .ret none
def Nl (P:Program) (t u:TypeId) (d x:SV):Ask Stp:=
 match dL P t with
 |none=> .ret none
 |some el=>match DB P 8 el,de P el with
  |some ty,some sz=>
   if sz=ty.w∧0<ty.w then
    (match dL P u with|some _=>iS ty x|none=> .ret none).bind fun c=>match c with
     |some (pm,m)=>if pm||ty.flat then
       match d with
       | .sl i ver=> .get i fun y=> .ret (match y with
        |some (.own ver' w8 l)=>if h:w8=ty then (if ver=ver' then some (none,.one (.sc (.int .i64 (.sym (min m.length l.length:Nat)))),[(i,.own ver' ty (iH (h▸l) 0 l.length m))]) else none) else none
        |_=>none)
       | .vw i ver w z n=> .get i fun y=> .ret (match y with
        |some (.own ver' w8 l)=>if h:w8=ty then (if ver=ver'∧w=ty.w then some (none,.one (.sc (.int .i64 (.sym (min m.length n.toNat:Nat)))),[(i,.own ver' ty (iH (h▸l) z.toNat n.toNat m))]) else none) else none
        |_=>none)
       | .vb b o' w8 k z n=> .get b fun y=> .ret (match y with
        |some (.a8 cells elem)=>match rowAt cells o' with
         |some (.arr au9 k' l)=>if h:au9=ty then (if w8=ty∧k'=k then (jm cells o' (.arr ty k' (iH (h▸l) z.toNat n.toNat m))).map fun c=>(none,.one (.sc (.int .i64 (.sym (min m.length n.toNat:Nat)))),[(b,.a8 c elem)]) else none) else none
         |_=>none
        |_=>none)
       | .slice b o' n _=> .get b fun y=> .ret (match y with
        |some (.a8 cells elem)=>match Vv cells o' (n*ty.w) with
         |some s=>match dy (ty.read true) ty.w n s with
          |some l=>(sa cells o' ((List.range n).flatMap fun j=>ty.D0 true ((iH l 0 n m).getD j ty.z))).map fun c=>(none,.one (.sc (.int .i64 (.sym (min m.length n:Nat)))),[(b,.a8 c elem)])
          |none=>none
         |none=>none
        |_=>none)
       |_=> .ret none
      else .ret none
     |none=> .ret none
   else .ret none
  |_,_=> .ret none
def ahU (P:Program) (id:Nat) (b:Builtin) (ts:List TypeId) (xs:List LV):Ask Stp:=
 match b,ts,xs with
 | .len,[t],[x]=>match iQ x with
  |some x=>(ang P t x).map fun n=>n.map fun n=>(none,.one (.sc (.int .i64 n)),[])
  |none=> .ret none
 | .append,[t,u],[s,x]=>match iQ s,iQ x with
  |some s,some (.int _ n)=>Nk P id t u s n.val
  |some s,some x=>ZN P id t u s x
  |_,_=> .ret none
 | .copy,[t,u],[s,x]=>match iQ s,iQ x with
  |some s,some x=>Nl P t u s x
  |_,_=> .ret none
 | .min,_,x::l=> .ret (match iQ x,c9 iQ l with
  |some (.int k x),some l=>(xm ZL k x l).map fun n=>(none,.one (.sc (.int k n)),[])
  |_,_=>none)
 | .max,_,x::l=> .ret (match iQ x,c9 iQ l with
  |some (.int k x),some l=>(xm ZM k x l).map fun n=>(none,.one (.sc (.int k n)),[])
  |_,_=>none)
 |_,_,_=> .ret none
section
variable {P:Program} {W:World} {al:Hp} {β₀ β:Env} {hp:Hp} {w:World}
theorem Vz {β:Env} {pm:Bool} {ty:Ty} {t e:TypeId} (hu:P.underlying t=some (.slice e)) {v:Value} {m:List ty.D} (h:bW β pm w v ty m):
  ∃ news,Src P ty.w t v m.length news w∧aZ (ty.has β pm) m news:=by
 obtain ⟨a,n,c,rfl,rfl,hc,_,hr⟩:=h
 rcases Nat.eq_zero_or_pos m.length with h0|h0
 ·have:m= []:=List.eq_nil_of_length_eq_zero h0
  subst this
  refine ⟨[],?_,.nil⟩
  cases a with
  |none=>exact Src.ofNil w hu c
  |some a=>exact Src.ofSlice w hu a 0 c [] (by simp) (fun j u h=>by simp at h) (fun u h=>by cases h)
 ·obtain ⟨a0,fo,rfl,h1,h2,h3⟩:=hr h0
  exact ⟨fo,Src.ofSlice w hu a0 m.length c fo (bp h2) (fun j u hj=>h3 j u hj) (ke h2),h2⟩
theorem DH {β:Env} (l:List Int):aZ ((Ty.int .u8).has β true) (l.map fun n=>((UInt8.ofNat n.toNat).toNat:Int)) (byteCells (strOf l)):=by
 have:byteCells (strOf l)=(l.map fun n=>((UInt8.ofNat n.toNat).toNat:Int)).map (Value.int .u8):=by
  simp[byteCells,strOf]
 rw[this]
 generalize (l.map fun n=>((UInt8.ofNat n.toNat).toNat:Int))=m
 induction m with
 |nil=>exact .nil
 |cons x m ih=>exact aZ.cons (vs:= [_]) rfl ih
theorem ZO (h:bd W al β₀ β hp w) {ty:Ty} {t:TypeId} {x:SV} {pm:Bool} {m:List ty.D} (hs:(ZK P ty t x).val hp=some (pm,m)) (hf:(pm||ty.flat)=true) {v:Value} (hd:x.den β (kd hp) v):
  ∃ news,Src P ty.w t v m.length news w∧aZ (ty.has β true) m news:=by
 unfold ZK at hs
 split at hs
 ·rename_i e nb
  obtain ⟨news,h1,h2⟩:=Vz (P:=P) (dD nb) (mh h hs hd)
  refine ⟨news,h1,?_⟩
  cases pm with
  |true=>exact h2
  |false=>exact h2.imp fun _ _=>ty.r8 (by simpa using hf)
 ·split at hs
  ·rename_i hu
   simp only[Ask.val] at hs
   split at hs
   ·rename_i e;subst e
    obtain ⟨l,hl,he⟩:=map_some hs
    cases he
    have hv:=iP hl hd
    subst hv
    refine ⟨byteCells (strOf l),?_,DH l⟩
    have:=Src.ofString (P:=P) w hu (strOf l)
    rw[r9] at this
    rw[List.length_map];exact this
   ·cases hs
  ·simp[Ask.val] at hs
theorem AQ {el:TypeId} {z:List SV} {n:Nat} (hz:ov P el=some z) (hw:wL z=n): ∃ i zv,P.info? el=some i∧i.zero=some zv∧zv.cells.size=n:=by
 unfold ov at hz
 split at hz
 ·rename_i i lay hi _
  split at hz
  ·rename_i zv SU
   have:=(qw (β:=⟨fun _=>0,fun _=> .nilIface,fun _ _ _ _=>False⟩) (L:=fun _=>none) _ _ hz).length
   exact ⟨i,zv,hi,SU,by simpa [hw] using this⟩
  ·cases hz
 ·cases hz
theorem AR {t u el ty_:TypeId} {ty:Ty} {z:List SV} {w9:Nat} (nb:dL P t=some el) (hs:de P el=some ty.w) (iO:0<ty.w) (hz:ov P el=some z) (ZG:wL z=ty.w) (MZ:oS P el=some w9)
  {hd:Value} {l m:List ty.D} (oK:dt β w hd ty l) {x:Value} {news:List Value} (DI:Src P ty.w u x m.length news w) (ln:aZ (ty.has β true) m news)
  (hb1:(l.length+m.length)*w9≤70368744177664) (xb:l.length+m.length≤70368744177664):
  ∃ v' w',(Builtin.append_ #[t,u] ty_ #[hd,x]).run P w= .ok v' w'∧dt β w' v' ty (l++m)∧w.heap.size≤w'.heap.size∧w'.os=w.os∧w'.output=w.output∧
   (∀ b,b<w.heap.size→ ¬ (∃ a n c,hd= .slice (some a) n c∧0<c∧a.block=b)→w'.heap[b]? =w.heap[b]?)∧
   (∀ a n c,v'= .slice (some a) n c→0<c→(∃ n' c',hd= .slice (some a) n' c'∧0<c')∨w.heap.size≤a.block):=by
 obtain ⟨base,n,c,rfl,hn,SS,oY,ef⟩:=oK
 have hu:=dD nb
 obtain ⟨i,zv,hi,SU,hzs⟩:=AQ (P:=P) hz ZG
 have his:i.size=ty.w:=by unfold de at hs;rw[hi] at hs;simpa using hs
 have hib:i.bytes=w9:=by unfold oS at MZ;rw[hi] at MZ;simpa using MZ
 by_cases Ju:n+m.length≤c
 ·
  rcases Nat.eq_zero_or_pos c with h0|h0
  ·have SW:l= []:=List.eq_nil_of_length_eq_zero (by omega)
   have Jd:m= []:=List.eq_nil_of_length_eq_zero (by omega)
   subst SW Jd
   have hnw:news= []:=by cases ln;rfl
   subst hnw
   refine ⟨.slice base n c,w,?_,⟨base,n,c,rfl,hn,SS,oY,ef⟩,Nat.le_refl _,rfl,rfl,fun _ _ _=>rfl,fun a n' c' e h=>by simp at e;omega⟩
   have hle:n≤c:=SS
   have ZP:=DI.cells
   have hlen:=DI.len
   have hr2:n+0≤c:=by simpa using SS
   simp only[List.length_nil] at hlen ZP
   rcases DI.kind with ⟨e',hk⟩|hk<;>cases base<;>simp[Builtin.append_,run_underlying hu,run_underlying hk,sizeOf,typeInfo,hi,his,hlen,ZP,hle,storeCells]
  ·obtain ⟨a0,pre,fo,rest,elem,fz,rfl,k1,k2,k3,k4,k5,k6⟩:=ef h0
   have hnl:news.length=m.length*ty.w:=bp ln
   have hvl:fo.length=n*ty.w:=by rw[bp k4,hn]
   have hrl:m.length*ty.w≤rest.length:=Nat.le_trans (Nat.mul_le_mul_right _ (by omega)) k5
   obtain ⟨w',r1,r2,r3,r4,r5,r6⟩:=dA (P:=P) (a:=a0.add (n*ty.w)) (mf k1 _) (elem:=elem) (fz:=fz) news 0 (pre++fo) (rest.take (m.length*ty.w)) (rest.drop (m.length*ty.w)) w
    (by rw[dC,k2];simp) (by
     obtain ⟨b0,o0,s0⟩:=a0
     simp at k1 k3;subst k1
     rw[b9];simp[k3,hvl]) (by rw[hnl,List.length_take,Nat.min_eq_left hrl]) (ke ln) (fun off q1 q2=>k6.not (by simp[hnl] at q2 ⊢;omega))
   rw[dC] at r2 r3
   refine ⟨.slice (some a0) (n+m.length) c,w',?_,⟨some a0,n+m.length,c,rfl,by simp[hn],Ju,by simp,fun _=>⟨a0,pre,fo++news,rest.drop (m.length*ty.w),elem,fz,rfl,k1,?_,k3,k4.append ln,?_,?_⟩⟩,by omega,r5,r6,fun b _ rO=>r3 b fun e=>rO ⟨a0,n,c,rfl,h0,e.symm⟩,fun a n' c' e _=> .inl (by simp at e;obtain ⟨rfl,_,_⟩:=e;exact ⟨n,c,rfl,h0⟩)⟩
   ·rcases DI.kind with ⟨e',hk⟩|hk<;>simp[Builtin.append_,run_underlying hu,run_underlying hk,sizeOf,typeInfo,hi,his,DI.len,Ju,DI.cells,r1]
   ·rw[r2];simp
   ·rw[List.length_drop]
    have:(c-(n+m.length))*ty.w=(c-n)*ty.w-m.length*ty.w:=by rw[← Nat.sub_sub,Nat.sub_mul]
    omega
   ·have:(pre++((fo++news)++rest.drop (m.length*ty.w))).length=(pre++(fo++rest)).length:=by simp[hnl];omega
    rw[this];exact k6
 ·
  have hg:c<n+m.length:=by omega
  have FA:Builtin.nextslicecap (n+m.length) c*i.bytes≤281474976710656:=growslice_fits hg (by rw[hib,hn];omega)
  have holds: ∃ oZ,aZ (ty.has β true) l oZ∧ ∀ (w':World),(∀ b,b<w.heap.size→w'.heap[b]? =w.heap[b]?)→(Builtin.firstCells i.size n (.slice base n c)).run P w'= .ok oZ.toArray w':=by
   rcases Nat.eq_zero_or_pos c with h0|h0
   ·have SW:l= []:=List.eq_nil_of_length_eq_zero (by omega)
    have DF:n=0:=by omega
    subst SW DF
    refine ⟨[],.nil,fun w' _=>?_⟩
    cases base with
    |none=>simp[Builtin.firstCells]
    |some a=>simp[Builtin.firstCells,loadCells,loadCellsFrom]
   ·obtain ⟨a0,pre,fo,rest,elem,fz,rfl,k1,k2,k3,k4,k5,k6⟩:=ef h0
    refine ⟨fo,k4,fun w' hw'=>?_⟩
    have hvl:fo.length=n*i.size:=by rw[bp k4,hn,his]
    have fq:a0.block<w.heap.size:=(Array.getElem?_eq_some_iff.1 k2).1
    refine run_firstCells_some (P:=P) w' i.size n a0 n c fo hvl fun j u hj=>?_
    have hh:dh w a0 fo:=by
     have:=dX k2
     obtain ⟨b0,o0,s0⟩:=a0
     simp at k1 k3;subst k1 k3
     exact this
    exact hh.of (fun _=>hw' _ fq) j u hj
  obtain ⟨oZ,ho1,ho2⟩:=holds
  have Jc:Src P i.size u x m.length news w:=by rw[his];exact DI
  have dY:=run_append_grow_src (P:=P) w t u ty_ el i zv hu hi SU base n c oZ (ho2 _ (fun _ _=>rfl)) x m.length news Jc hg (by omega) FA
  have DE:=grownCap_ge w (n+m.length) c el
  have hzc:(Builtin.zeroCells zv.cells (grownCap w (n+m.length) c el-(n+m.length))).size=(grownCap w (n+m.length) c el-(n+m.length))*ty.w:=by simp[Builtin.zeroCells,hzs]
  generalize aqR:grownCap w (n+m.length) c el=cap at dY DE hzc
  have oF:((oZ++news).toArray++Builtin.zeroCells zv.cells (cap-(n+m.length)))=((oZ++news)++(Builtin.zeroCells zv.cells (cap-(n+m.length))).toList).toArray:=by
   apply Array.ext';simp
  rw[oF] at dY
  have g8:=mm (β:=β) (w:=w.drew.alloc (.cells ((oZ++news)++(Builtin.zeroCells zv.cells (cap-(n+m.length))).toList).toArray el)) (b:=w.heap.size) (t:=ty) (l:=l++m) (elem:=el) (fz:=(0,0)) (c:=cap)
   (heap_alloc_new w.drew _) (ho1.append ln) (by simp;omega) (Nat.le_of_eq (by rw[List.length_append,← hn];exact (Array.length_toList.trans hzc).symm)) (.inl rfl)
  refine ⟨_,_,dY,?_,?_,rfl,rfl,fun b hb _=>heap_alloc_old w.drew _ b hb,fun a n' c' e _=> .inr (by simp at e;obtain ⟨rfl,_,_⟩:=e;exact Nat.le_refl _)⟩
  ·rw[List.length_append,← hn] at g8;exact g8
  ·show w.heap.size≤(w.drew.alloc _).heap.size
   rw[World.size_alloc];exact Nat.le_succ _
theorem tv {t u el ty_:TypeId} {ty:Ty} {z:List SV} {w9:Nat} (nb:dL P t=some el) (hs:de P el=some ty.w) (iO:0<ty.w) (hz:ov P el=some z) (ZG:wL z=ty.w) (MZ:oS P el=some w9)
  {hd:Value} {l:List ty.D} (oK:dt β w hd ty l) {kn kq:IntKind} (hku:P.underlying u=some (.int kn)) {z0:ty.D} (hz0:ty.read true z=some z0) (k:Nat)
  (hb1:(l.length+k)*w9≤70368744177664) (xb:l.length+k≤70368744177664):
  ∃ v' w',(Builtin.append_ #[t,u] ty_ #[hd,.int kq k]).run P w= .ok v' w'∧dt β w' v' ty (l++List.replicate k z0)∧w.heap.size≤w'.heap.size∧w'.os=w.os∧w'.output=w.output∧
   (∀ b,b<w.heap.size→ ¬ (∃ a n c,hd= .slice (some a) n c∧0<c∧a.block=b)→w'.heap[b]? =w.heap[b]?)∧
   (∀ a n c,v'= .slice (some a) n c→0<c→(∃ n' c',hd= .slice (some a) n' c'∧0<c')∨w.heap.size≤a.block):=by
 obtain ⟨base,n,c,rfl,hn,SS,oY,ef⟩:=oK
 have hu:=dD nb
 obtain ⟨i,zv,hi,SU,hzs⟩:=AQ (P:=P) hz ZG
 have his:i.size=ty.w:=by unfold de at hs;rw[hi] at hs;simpa using hs
 have hib:i.bytes=w9:=by unfold oS at MZ;rw[hi] at MZ;simpa using MZ
 have hzr:(zeroValue el).run P w= .ok zv w:=by simp[zeroValue,typeInfo,hi,SU]
 obtain ⟨Ze,aqS,hzd⟩:=oU (P:=P) (w:=w) (β:=β) (L:=fun _=>none) hz
 obtain rfl:Ze=zv:=by rw[hzr] at aqS;injection aqS with e;exact e.symm
 have hzh:=ty.gl hz0 hzd
 have ln:aZ (ty.has β true) (List.replicate k z0) ((List.replicate k Ze.cells.toList).flatten):=AP hzh _
 have aqT: ∀ m,Builtin.zeroCells Ze.cells m=((List.replicate m Ze.cells.toList).flatten).toArray:=fun m=>by
  rw[← lM m hzs];unfold Builtin.zeroCells;rw[hzs]
 have ane:IntKind.i64.wrap (k:Int)=k:=by rw[IntKind.wrap_i64];omega
 have avd: ¬ ((k:Int)<0):=by omega
 have ave: ¬ (281474976710656<(k:Int)*(i.bytes:Int)):=by
  rw[← Int.natCast_mul,hib]
  have:k*w9≤(l.length+k)*w9:=Nat.mul_le_mul_right _ (by omega)
  omega
 generalize hnw:(List.replicate k Ze.cells.toList).flatten=news at ln
 by_cases Ju:n+k≤c
 ·
  rcases Nat.eq_zero_or_pos c with h0|h0
  ·have SW:l= []:=List.eq_nil_of_length_eq_zero (by omega)
   have Jd:k=0:=by omega
   subst SW Jd
   refine ⟨.slice base n c,w,?_,⟨base,n,c,rfl,hn,SS,oY,ef⟩,Nat.le_refl _,rfl,rfl,fun _ _ _=>rfl,fun a n' c' e h=>by simp at e;omega⟩
   have hle:n≤c:=SS
   have hw0:IntKind.i64.wrap 0=0:=rfl
   cases base<;>simp[Builtin.append_,run_underlying hu,run_underlying hku,sizeOf,typeInfo,hi,his,hle,storeCells,asInt,asIntOf,hw0]
  ·obtain ⟨a0,pre,fo,rest,elem,fz,rfl,k1,k2,k3,k4,k5,k6⟩:=ef h0
   have hnl:news.length=k*ty.w:=by rw[bp ln,List.length_replicate]
   have hvl:fo.length=n*ty.w:=by rw[bp k4,hn]
   have hrl:k*ty.w≤rest.length:=Nat.le_trans (Nat.mul_le_mul_right _ (by omega)) k5
   obtain ⟨w',r1,r2,r3,r4,r5,r6⟩:=dA (P:=P) (a:=a0.add (n*ty.w)) (mf k1 _) (elem:=elem) (fz:=fz) news 0 (pre++fo) (rest.take (k*ty.w)) (rest.drop (k*ty.w)) w
    (by rw[dC,k2];simp) (by
     obtain ⟨b0,o0,s0⟩:=a0
     simp at k1 k3;subst k1
     rw[b9];simp[k3,hvl]) (by rw[hnl,List.length_take,Nat.min_eq_left hrl]) (ke ln) (fun off q1 q2=>k6.not (by simp[hnl] at q2 ⊢;omega))
   rw[dC] at r2 r3
   refine ⟨.slice (some a0) (n+k) c,w',?_,⟨some a0,n+k,c,rfl,by simp[hn],Ju,by simp,fun _=>⟨a0,pre,fo++news,rest.drop (k*ty.w),elem,fz,rfl,k1,?_,k3,k4.append ln,?_,?_⟩⟩,by omega,r5,r6,fun b _ rO=>r3 b fun e=>rO ⟨a0,n,c,rfl,h0,e.symm⟩,fun a n' c' e _=> .inl (by simp at e;obtain ⟨rfl,_,_⟩:=e;exact ⟨n,c,rfl,h0⟩)⟩
   ·rcases Nat.eq_zero_or_pos k with hk0|hk0
    ·subst hk0
     have hw0:IntKind.i64.wrap 0=0:=rfl
     have DF:news= []:=by rw[← hnw];rfl
     rw[DF] at r1
     have ank:n≤c:=SS
     simp[Builtin.append_,run_underlying hu,run_underlying hku,sizeOf,typeInfo,hi,his,ank,r1,asInt,asIntOf,hw0]
    ·have hns: ¬ (k*ty.w=0):=Nat.mul_ne_zero (by omega) (by omega)
     have hzk:Builtin.zeroCells Ze.cells k=news.toArray:=by rw[aqT k,hnw]
     simp[Builtin.append_,run_underlying hu,run_underlying hku,sizeOf,typeInfo,hi,SU,zeroValue,his,Ju,r1,asInt,asIntOf,ane,avd,ave,hns,hzk]
   ·rw[r2];simp
   ·rw[List.length_drop]
    have:(c-(n+k))*ty.w=(c-n)*ty.w-k*ty.w:=by rw[← Nat.sub_sub,Nat.sub_mul]
    omega
   ·have:(pre++((fo++news)++rest.drop (k*ty.w))).length=(pre++(fo++rest)).length:=by simp[hnl];omega
    rw[this];exact k6
 ·
  have hg:c<n+k:=by omega
  have FA:Builtin.nextslicecap (n+k) c*i.bytes≤281474976710656:=growslice_fits hg (by rw[hib,hn];omega)
  have holds: ∃ oZ,aZ (ty.has β true) l oZ∧ ∀ (w':World),(∀ b,b<w.heap.size→w'.heap[b]? =w.heap[b]?)→(Builtin.firstCells i.size n (.slice base n c)).run P w'= .ok oZ.toArray w':=by
   rcases Nat.eq_zero_or_pos c with h0|h0
   ·have SW:l= []:=List.eq_nil_of_length_eq_zero (by omega)
    have DF:n=0:=by omega
    subst SW DF
    refine ⟨[],.nil,fun w' _=>?_⟩
    cases base with
    |none=>simp[Builtin.firstCells]
    |some a=>simp[Builtin.firstCells,loadCells,loadCellsFrom]
   ·obtain ⟨a0,pre,fo,rest,elem,fz,rfl,k1,k2,k3,k4,k5,k6⟩:=ef h0
    refine ⟨fo,k4,fun w' hw'=>?_⟩
    have hvl:fo.length=n*i.size:=by rw[bp k4,hn,his]
    have fq:a0.block<w.heap.size:=(Array.getElem?_eq_some_iff.1 k2).1
    refine run_firstCells_some (P:=P) w' i.size n a0 n c fo hvl fun j u hj=>?_
    have hh:dh w a0 fo:=by
     have:=dX k2
     obtain ⟨b0,o0,s0⟩:=a0
     simp at k1 k3;subst k1 k3
     exact this
    exact hh.of (fun _=>hw' _ fq) j u hj
  obtain ⟨oZ,ho1,ho2⟩:=holds
  have dY:=Go.Lib.run_append_grow_zeros (P:=P) w t u ty_ el i Ze kq kn hu hku hi SU base n c oZ (ho2 _ (fun _ _=>rfl)) k (by omega) (by omega) hg (by omega) (by
   have:k*w9≤(l.length+k)*w9:=Nat.mul_le_mul_right _ (by omega)
   rw[hib];omega) FA
  rw[show (oZ.toArray++Builtin.zeroCells Ze.cells k)=(oZ++news).toArray from by rw[aqT k,hnw];simp] at dY
  have DE:=grownCap_ge w (n+k) c el
  have hzc:(Builtin.zeroCells Ze.cells (grownCap w (n+k) c el-(n+k))).size=(grownCap w (n+k) c el-(n+k))*ty.w:=by simp[Builtin.zeroCells,hzs]
  generalize aqR:grownCap w (n+k) c el=cap at dY DE hzc
  have oF:((oZ++news).toArray++Builtin.zeroCells Ze.cells (cap-(n+k)))=((oZ++news)++(Builtin.zeroCells Ze.cells (cap-(n+k))).toList).toArray:=by
   apply Array.ext';simp
  rw[oF] at dY
  have g8:=mm (β:=β) (w:=w.drew.alloc (.cells ((oZ++news)++(Builtin.zeroCells Ze.cells (cap-(n+k))).toList).toArray el)) (b:=w.heap.size) (t:=ty) (l:=l++List.replicate k z0) (elem:=el) (fz:=(0,0)) (c:=cap)
   (heap_alloc_new w.drew _) (ho1.append ln) (by simp;omega) (Nat.le_of_eq (by rw[List.length_append,List.length_replicate,← hn];exact (Array.length_toList.trans hzc).symm)) (.inl rfl)
  refine ⟨_,_,dY,?_,?_,rfl,rfl,fun b hb _=>heap_alloc_old w.drew _ b hb,fun a n' c' e _=> .inr (by simp at e;obtain ⟨rfl,_,_⟩:=e;exact Nat.le_refl _)⟩
  ·rw[List.length_append,List.length_replicate,← hn] at g8;exact g8
  ·show w.heap.size≤(w.drew.alloc _).heap.size
   rw[World.size_alloc];exact Nat.le_succ _
end
end Go.Ev
end
section
set_option linter.unusedVariables false
set_option linter.unusedSimpArgs false
namespace Go.Ev
open Go
section
variable {P:Program} {W:World} {al:Hp} {β₀ β:Env} {hp:Hp} {w:World}
theorem FB {α:Type} (l:List α) (z len:Nat) (m:List α):iH l z len m=l.take z++(m.take (min m.length len)++l.drop (z+min m.length len)):=by
 unfold iH
 rw[Nat.min_comm len m.length]
 congr 2
 rcases Nat.le_total m.length len with h|h
 ·rw[Nat.min_eq_left h,List.take_of_length_le h,List.take_length]
 ·rw[Nat.min_eq_right h]
theorem o5 {α:Type} {l:List α} {z len:Nat} {m:List α} (h:z+len≤l.length):(iH l z len m).length=l.length:=by
 rw[FB]
 simp only[List.length_append,List.length_take,List.length_drop]
 omega
theorem tw {β:Env} {pm:Bool} {t u el e' ty_:TypeId} {ty:Ty} (nb:dL P t=some el) (hu:dL P u=some e') (hs:de P el=some ty.w) {v:Value} {m:List ty.D} (hr:bW β pm w v ty m) (FC c:Nat):
  ∃ ws,aZ (ty.has β pm) (m.take (min m.length FC)) ws∧ ∀ (base:Option Addr) (w':World),(∀ a,base=some a→(storeCells a ws).run P w= .ok () w')→(base=none→w'=w)→
   (Builtin.copy_ #[t,u] ty_ #[.slice base FC c,v]).run P w= .ok (.int .i64 ((min m.length FC:Nat):Int)) w':=by
 obtain ⟨a,n,c',rfl,rfl,hc,_,ef⟩:=hr
 have key: ∃ ws,aZ (ty.has β pm) (m.take (min m.length FC)) ws∧(Builtin.firstCells ty.w (min m.length FC) (.slice a m.length c')).run P w= .ok ws.toArray w:=by
  rcases Nat.eq_zero_or_pos m.length with h0|h0
  ·have:m= []:=List.eq_nil_of_length_eq_zero h0
   subst this
   refine ⟨[],by simpa using aZ.nil,?_⟩
   cases a with
   |none=>simp[Builtin.firstCells]
   |some a=>simp[Builtin.firstCells,loadCells,loadCellsFrom]
  ·obtain ⟨a0,fo,rfl,h1,h2,h3⟩:=ef h0
   obtain ⟨v1,v2,rfl,k1,k2⟩:=gS h2 (min m.length FC)
   refine ⟨v1,k1,?_⟩
   have hl:v1.length=min m.length FC*ty.w:=by rw[bp k1,List.length_take];congr 1;omega
   have hh:dh w a0 v1:=fun i x hi=>h3 i x (by rw[List.getElem?_append_left (List.getElem?_eq_some_iff.1 hi).1];exact hi)
   have:=lf (P:=P) hh
   rw[hl] at this
   exact this
 obtain ⟨ws,h1,h2⟩:=key
 refine ⟨ws,h1,fun base w' hw hn=>?_⟩
 have VA:Nat.min m.length FC=min m.length FC:=rfl
 unfold Builtin.copy_
 simp only[List.getElem?_toArray,List.getElem?_cons_zero,List.getElem?_cons_succ,Sem.run_bind,run_underlying (dD nb),Result.andThen_ok,Builtin.lenOf,Sem.run_pure,run_sizeOf hs,VA,h2]
 cases base with
 |none=>rw[hn rfl];rfl
 |some a=>simp only[Sem.run_bind,hw a rfl];rfl
theorem xn {β:Env} {ty:Ty} {l m:List ty.D} {z len:Nat} {fo ws:List Value} (h:aZ (ty.has β true) l fo) (hz:z+len≤l.length) (hw:aZ (ty.has β true) (m.take (min m.length len)) ws):
  ∃ p old r,fo=p++(old++r)∧p.length=z*ty.w∧old.length=ws.length∧aZ (ty.has β true) (iH l z len m) (p++(ws++r)):=by
 obtain ⟨p,v2,rfl,k1,k2⟩:=gS h z
 obtain ⟨old,r,rfl,k3,k4⟩:=gS k2 (min m.length len)
 refine ⟨p,old,r,rfl,?_,?_,?_⟩
 ·rw[bp k1,List.length_take,Nat.min_eq_left (by omega)]
 ·rw[bp k3,bp hw,List.length_take,List.length_take,List.length_drop]
  congr 1;omega
 ·rw[FB]
  rw[List.drop_drop] at k4
  exact k1.append (hw.append k4)
theorem bd.SX (h:bd W al β₀ β hp w) {i ver:Nat} {t:Ty} {l m:List t.D} (hi:hp[i]? =some (some (.own ver t l))) {a:Option Addr} {n c:Nat} (he:β.h i= .slice a n c) {z len:Nat} (hz:z+len≤l.length)
  {ws:List Value} (hw:aZ (t.has β true) (m.take (min m.length len)) ws):
  ∃ w' β',(∀ a0,a=some a0→(storeCells (a0.add (z*t.w)) ws).run P w= .ok () w')∧(a=none→w'=w)∧(ws= []→w'=w)∧bd W al β₀ β' (setAt hp i (.own ver t (iH l z len m))) w'∧bU β β' (kd hp) (kd (setAt hp i (.own ver t (iH l z len m)))):=by
 have Za:dt β w (β.h i) t l:=h.items _ _ hi
 have avf:=Za
 obtain ⟨a',n',c',e,hn1,hn2,oY,h4⟩:=Za
 rw[he] at e;simp at e;obtain ⟨rfl,rfl,rfl⟩:=e
 rcases Nat.eq_zero_or_pos c with hc|hc
 ·have SW:l= []:=List.eq_nil_of_length_eq_zero (by omega)
  subst SW
  have hlen:len=0:=by simp at hz;omega
  subst hlen
  have hws:ws= []:=by
   have:=bp hw
   simp only[Nat.min_zero,List.take_zero,List.length_nil,Nat.zero_mul] at this
   exact List.eq_nil_of_length_eq_zero this
  subst hws
  have VB:iH ([]:List t.D) z 0 m= []:=by rw[FB];simp
  rw[VB]
  obtain ⟨β',s1,s2,_⟩:=h.xl hi (ver':=ver) (l':= []) (v:=β.h i) (w':=w) (.inr ⟨rfl,rfl⟩) (Nat.le_refl _) rfl rfl (fun _ _ _=>rfl) avf (fun a n c e h0=> .inl ⟨a,n,c,e,h0,rfl⟩)
  exact ⟨w,β',fun a0 _=>rfl,fun _=>rfl,fun _=>rfl,s1,s2⟩
 ·obtain ⟨a0,pre,fo,rest,elem,fz,rfl,k1,k2,k3,k4,k5,k6⟩:=h4 hc
  obtain ⟨p,old,r,rfl,e1,e2,h9⟩:=xn k4 hz hw
  obtain ⟨w',r1,r2,r3,r4,r5,r6⟩:=dA (P:=P) (a:=a0.add (z*t.w)) (mf k1 _) (elem:=elem) (fz:=fz) ws 0 (pre++p) old (r++rest) w
   (by rw[dC,k2];simp) (by
    obtain ⟨b0,o0,s0⟩:=a0
    simp at k1 k3;subst k1
    rw[b9];simp[k3,e1]) e2 (ke hw) (fun off q1 q2=>k6.not (by simp at q2 ⊢;omega))
  rw[dC] at r2 r3
  obtain ⟨β',s1,s2,s3⟩:=h.xl hi (ver':=ver) (l':=iH l z len m) (v:=β.h i) (w':=w') (.inr ⟨rfl,rfl⟩) (by omega) r5 r6 (fun b hb rO=>by
    refine r3 b fun e=>rO ?_
    subst e
    exact ⟨a0,n,c,he,hc,rfl⟩)
   (by
    rw[he]
    refine ⟨some a0,n,c,rfl,by rw[o5 hz];exact hn1,hn2,by simp,fun _=>⟨a0,pre,p++(ws++r),rest,elem,fz,rfl,k1,?_,k3,h9,k5,?_⟩⟩
    ·rw[r2];simp
    ·have:(pre++(p++(ws++r)++rest)).length=(pre++(p++(old++r)++rest)).length:=by simp[e2]
     rw[this];exact k6)
   (fun a n c e h0=> .inl ⟨a,n,c,e,h0,rfl⟩)
  refine ⟨w',β',fun a1 e=>by simp at e;subst e;exact r1,fun e=>(by cases e),fun e=>?_,s1,s2⟩
  subst e
  have:(storeCells (a0.add (z*t.w)) []).run P w= .ok () w:=rfl
  rw[this] at r1;cases r1;rfl
theorem bd.ahW (h:bd W al β₀ β hp w) {b o:Nat} {t:Ty} {k:Nat} {cells cells':List SV} {elem:TypeId} {l m:List t.D} (hi:hp[b]? =some (some (.a8 cells elem))) (jl:rowAt cells o=some (.arr t k l)) {z len:Nat} (hz:z+len≤k)
  (sd:jm cells o (.arr t k (iH l z len m))=some cells') {ws:List Value} (hw:aZ (t.has β true) (m.take (min m.length len)) ws):
  ∃ w',(storeCells ((⟨β.b b,o,none⟩:Addr).add (z*t.w)) ws).run P w= .ok () w'∧(ws= []→w'=w)∧bd W al β₀ β (setAt hp b (.a8 cells' elem)) w'∧bU β β (kd hp) (kd (setAt hp b (.a8 cells' elem))):=by
 obtain ⟨cs,fz,g1,g2,g3,_⟩:=h.fT hi
 have hlk:l.length=k:=by
  obtain ⟨_,_,_,_,_,hh,_⟩:=oV _ _ jl g3;exact hh
 obtain ⟨pre,mid,post,rfl,e3,_,h6,h7⟩:=lj _ _ jl sd g3 (by rw[o5 (by omega)];exact hlk)
 obtain ⟨p,old,r,rfl,e1,e2,h9⟩:=xn (z:=z) (len:=len) h6 (by rw[hlk];exact hz) hw
 obtain ⟨w',r1,r2,r3,r4,r5,r6⟩:=dA (P:=P) (a:=⟨β.b b,o+z*t.w,none⟩) rfl (elem:=elem) (fz:=fz) ws 0 (pre++p) old (r++post) w
  (by rw[g1];simp) (by simp[e3,e1]) e2 (ke hw) (fun off q1 q2=>g2.not (by simp at q2 ⊢;omega))
 obtain ⟨s1,s2⟩:=h.Fx hi (cells':=cells') (w':=w') (by omega) r5 r6 r3 (c:=pre++((p++(ws++r))++post)) (fz:=fz)
  (by rw[r2];simp) (by
   have:(pre++((p++(ws++r))++post)).length=(pre++((p++(old++r))++post)).length:=by simp[e2]
   rw[this];exact g2) (h7 _ h9)
 refine ⟨w',by rw[b9];exact r1,fun e=>?_,s1,s2⟩
 subst e
 have:(storeCells ⟨β.b b,o+z*t.w,none⟩ []).run P w= .ok () w:=rfl
 rw[this] at r1;cases r1;rfl
theorem yM {L:Nat→Option Kd} {ty:Ty}: ∀ {l:List ty.D} {vs:List Value},aZ (ty.has β true) l vs→bo β L (l.flatMap (ty.D0 true)) vs
 | [],_,h=>by cases h;exact .nil
 |x::l,_,.cons h t=>by rw[List.flatMap_cons];exact (ty.lL h).append (yM t)
theorem AS {α:Type} (l:List α) (d:α):(List.range l.length).map (fun j=>l.getD j d)=l:=by
 apply List.ext_getElem
 ·simp
 ·intro i h1 h2;simp at h1 ⊢;simp[h1]
theorem ahX {st:St} {a:Act} (hr:Rel W al β₀ β st a w) {t u ty_:TypeId} {d x:SV} {q:Option Prop} {v:LV} {dl:List (Nat×Item)} (h:(Nl P t u d x).val st.hp=some (q,v,dl)) {dv xv:Value} (hd:d.den β (kd st.hp) dv) (hx:x.den β (kd st.hp) xv):
  ∃ (β':Env) (w':World) (val:Value),(Builtin.copy_ #[t,u] ty_ #[dv,xv]).run P w= .ok val w'∧v.den β' (kd (aK dl st.hp)) val∧bd W al β₀ β' (aK dl st.hp) w'∧bU β β' (kd st.hp) (kd (aK dl st.hp)):=by
 unfold Nl at h
 split at h
 ·simp[Ask.val] at h
 rename_i el nb
 split at h
 rotate_left
 ·simp[Ask.val] at h
 rename_i ty sz hty hs
 split at h
 rotate_left
 ·simp[Ask.val] at h
 rename_i kh
 obtain ⟨rfl,iO⟩:=kh
 rw[Ask.dR] at h
 split at h
 rotate_left
 ·simp[Ask.val] at h
 rename_i pm m hc
 split at h
 rotate_left
 ·simp[Ask.val] at h
 rename_i hf
 have hu: ∃ e',dL P u=some e'∧(iS ty x).val st.hp=some (pm,m):=by
  split at hc
  ·rename_i e' he;exact ⟨e',he,hc⟩
  ·simp[Ask.val] at hc
 obtain ⟨e',hu,hc⟩:=hu
 have oX:=mh hr.heap hc hx
 have SY: ∀ {k:Nat} {ws:List Value},aZ (ty.has β pm) (m.take k) ws→aZ (ty.has β true) (m.take k) ws:=by
  intro k ws hh
  cases pm with
  |true=>exact hh
  |false=>exact hh.imp fun _ _=>ty.r8 (by simpa using hf)
 split at h
 ·
  rename_i i ver
  simp only[Ask.val] at h
  split at h
  ·rename_i ver' w8 l hi
   split at h
   ·rename_i e;subst e
    split at h
    ·rename_i e;subst e
     cases h
     obtain ⟨oK,hh⟩:=hr.heap.oW (p:=fun v=>dv=v) (aB hi) hd.2
     obtain ⟨base,n,c,e1,hn,_⟩:=oK
     obtain ⟨ws,k1,k2⟩:=tw (ty_:=ty_) nb hu hs oX n c
     rw[hn] at k1
     obtain ⟨w',β',r1,r2,_,r3,r4⟩:=hr.heap.SX (P:=P) (aB hi) e1 (z:=0) (len:=l.length) (by omega) (SY k1)
     have dY:=k2 base w' (fun a0 e=>by have:=r1 a0 e;rw[Nat.zero_mul] at this;exact this) r2
     refine ⟨β',w',_,by rw[hh,e1];exact dY,?_,r3,r4⟩
     rw[hn];rfl
    ·cases h
   ·cases h
  ·cases h
 ·
  rename_i i ver w0 z n
  simp only[Ask.val] at h
  split at h
  ·rename_i ver' w8 l hi
   split at h
   ·rename_i e;subst e
    split at h
    ·rename_i e;obtain ⟨rfl,rfl⟩:=e
     cases h
     obtain ⟨oK,hh⟩:=hr.heap.oW (p:=fun v=>yD v w8.w z n dv) (aB hi) hd.2
     obtain ⟨base,n1,c1,e1,hn,_⟩:=oK
     obtain ⟨a2,m2,c2,a3,c3,e2,z0,n0,hle,rfl,_,_,tu⟩:=hh
     rw[e1] at e2;simp at e2;obtain ⟨rfl,rfl,rfl⟩:=e2
     obtain ⟨ws,k1,k2⟩:=tw (ty_:=ty_) nb hu hs oX n.toNat c3
     obtain ⟨w',β',r1,r2,r0,r3,r4⟩:=hr.heap.SX (P:=P) (aB hi) e1 (z:=z.toNat) (len:=n.toNat) (by omega) (SY k1)
     refine ⟨β',w',_,k2 a3 w' (fun a0 e=>?_) (fun e=>?_),rfl,r3,r4⟩
     ·rcases Int.lt_or_le 0 n with h0|h0
      ·obtain ⟨a4,e4,e5⟩:=tu h0
       rw[e] at e5;simp at e5;subst e5
       exact r1 _ e4
      ·have:ws= []:=by
        have:=bp k1
        rw[show n.toNat=0 from by omega] at this
        simp at this;exact this
       subst this
       rw[r0 rfl];rfl
     ·rcases Int.lt_or_le 0 n with h0|h0
      ·obtain ⟨a4,e4,e5⟩:=tu h0
       rw[e] at e5;cases e5
      ·have:ws= []:=by
        have:=bp k1
        rw[show n.toNat=0 from by omega] at this
        simp at this;exact this
       exact r0 this
    ·cases h
   ·cases h
  ·cases h
 ·
  rename_i b o' ty0 k z n
  simp only[Ask.val] at h
  split at h
  ·rename_i cells elem hi
   split at h
   ·rename_i w8 k' l jl
    split at h
    ·rename_i e;subst e
     split at h
     ·rename_i e;obtain ⟨rfl,rfl⟩:=e
      obtain ⟨cells',sd,he⟩:=map_some h
      cases he
      obtain ⟨hb,z0,n0,zn,a3,c3,rfl,_,_,tu⟩:=hd
      obtain ⟨ws,k1,k2⟩:=tw (ty_:=ty_) nb hu hs oX n.toNat c3
      obtain ⟨w',r1,r0,r3,r4⟩:=hr.heap.ahW (P:=P) (aB hi) jl (z:=z.toNat) (len:=n.toNat) (by omega) sd (SY k1)
      refine ⟨β,w',_,k2 a3 w' (fun a0 e=>?_) (fun e=>?_),rfl,r3,r4⟩
      ·rcases Int.lt_or_le 0 n with h0|h0
       ·have e5:=tu h0
        rw[e] at e5;simp at e5;subst e5
        exact r1
       ·have:ws= []:=by
         have:=bp k1
         rw[show n.toNat=0 from by omega] at this
         simp at this;exact this
        subst this
        rw[r0 rfl];rfl
      ·rcases Int.lt_or_le 0 n with h0|h0
       ·have e5:=tu h0
        rw[e] at e5;cases e5
       ·have:ws= []:=by
         have:=bp k1
         rw[show n.toNat=0 from by omega] at this
         simp at this;exact this
        exact r0 this
     ·cases h
    ·cases h
   ·cases h
  ·cases h
 ·
  rename_i b o' n cp
  simp only[Ask.val] at h
  split at h
  ·rename_i cells elem hi
   split at h
   ·rename_i s ahO
    split at h
    ·rename_i l hl
     obtain ⟨cells',Zq,he⟩:=map_some h
     cases he
     obtain ⟨hb,rfl⟩:=hd
     obtain ⟨ws,k1,k2⟩:=tw (ty_:=ty_) nb hu hs oX n cp
     obtain ⟨cs,fz,g1,g2,g3,_⟩:=hr.heap.fT (aB hi)
     obtain ⟨pre,mid,post,e1,e2,e3,h4⟩:=qp ahO g3
     obtain ⟨h5,h6⟩:=gA (R:=ty.has β true) (fun a x vs h hd=>ty.gl h hd) _ hl h4
     obtain ⟨p,old,r,e4,e5,e6,h9⟩:=xn h5 (z:=0) (len:=n) (by omega) (SY k1)
     have Je:p= []:=List.eq_nil_of_length_eq_zero (by rw[e5];simp)
     subst Je
     have avg:bo β (kd st.hp) ((List.range n).flatMap fun j=>ty.D0 true ((iH l 0 n m).getD j ty.z)) (ws++r):=by
      have:((List.range n).flatMap fun j=>ty.D0 true ((iH l 0 n m).getD j ty.z))=(iH l 0 n m).flatMap (ty.D0 true):=by
       have hlen:(iH l 0 n m).length=n:=by rw[o5 (by omega)];exact h6
       conv=>rhs;rw[← AS (iH l 0 n m) ty.z,hlen]
       rw[List.flatMap_map]
      rw[this]
      exact yM (by simpa using h9)
     obtain ⟨avh,tr,aqV,f1,f2,f3,f4⟩:=qs Zq _ _ g3 avg
     have Ni:pre=avh∧mid=tr∧post=aqV:=by
      have hml:mid.length=tr.length:=by
       rw[f3,e4];simp[e6]
      rw[e1] at f1
      obtain ⟨g,g'⟩:=List.append_inj f1 (by rw[e2,f2])
      obtain ⟨g4,g5⟩:=List.append_inj g' hml
      exact ⟨g,g4,g5⟩
     obtain ⟨rfl,rfl,rfl⟩:=Ni
     subst e4
     obtain ⟨w',r1,r2,r3,r4,r5,r6⟩:=dA (P:=P) (a:=⟨β.b b,o',none⟩) rfl (elem:=elem) (fz:=fz) ws 0 pre old (r++post) w
      (by rw[g1,e1];simp) (by simp[e2]) e6 (ke k1) (fun off q1 q2=>g2.not (by rw[e1];simp at q2 ⊢;omega))
     obtain ⟨s1,s2⟩:=hr.heap.Fx (aB hi) (cells':=cells') (w':=w') (by omega) r5 r6 r3 (c:=pre++((ws++r)++post)) (fz:=fz)
      (by rw[r2];simp) (by
       have:(pre++((ws++r)++post)).length=cs.length:=by rw[e1];simp[e6]
       rw[this];exact g2) f4
     exact ⟨β,w',_,k2 _ w' (fun a0 e=>by simp at e;subst e;exact r1) (fun e=>by cases e),rfl,s1,s2⟩
    ·cases h
   ·cases h
  ·cases h
 ·simp[Ask.val] at h
end
end Go.Ev
end
