/- What the laws lean on, part 3: a reader of code, plain facts, and what each function gives; no conditions. -/
import Derived.Laws.BitsLemmas
import Derived.Laws.NewFold
import Derived.Deep.AppendSrc
import Derived.Lib.AppendZerosOnto
import Derived.Test.YtnbkagglkajbkaaGreatC2
set_option linter.unusedVariables false
set_option linter.unusedSimpArgs false
noncomputable section
namespace Go.Ev
open Go
open Go.IntKind (i64 signed u16 u64 wrap)
theorem yA(a:Addr)(i j:Nat):(a.add i).add j=a.add (i+j):=by
 obtain⟨b,o,s⟩:=a
 by_cases hi:i=0
 ·subst hi;have:(⟨b,o,s⟩:Addr).add 0=⟨b,o,s⟩:=if_pos rfl;rw[this,Nat.zero_add]
 ·have:(⟨b,o,s⟩:Addr).add i=⟨b,o+i,none⟩:=if_neg hi;rw[this,bK];unfold Addr.add;rw[if_neg (by omega),Nat.add_assoc]
theorem wrap_small{n:Int}(h0:0≤n)(h1:n≤9223372036854775807):i64.wrap n=n:=by rw[IntKind.wrap_i64];omega
theorem kY{P:Program}{w:World}{a:Addr}{cs:List Value}{elem:TypeId}{fz:Nat×Nat}(h:w.heap[a.block]? =some (.cells cs.toArray elem fz))(hf:yk fz cs.length):
  ∃w' fz',(markStringish a).run P w= .ok () w'∧w'.heap[a.block]? =some (.cells cs.toArray elem fz')∧yk fz' cs.length∧(∀b,b≠a.block→w'.heap[b]? =w.heap[b]?)∧w'.heap.size=w.heap.size∧w'.os=w.os∧w'.output=w.output:=by
 have hsh:w.shape? a.block=some (elem,cs.length):=by simp[World.shape?,h]
 refine⟨w.freeze ⟨a.block,cs.length,none⟩ 1,if fz.1==fz.2 then(cs.length,cs.length+1)else(min fz.1 cs.length,max fz.2 (cs.length+1)),?_,?_,?_,?_,?_,?_,?_⟩
 ·simp[markStringish,hsh]
 ·obtain⟨lo,hi⟩:=fz;simp only[World.freeze,Nat.one_ne_zero,if_false,Array.getElem?_modify,if_true,h];rfl
 ·unfold yk at hf ⊢
  split
  ·exact .inr (Nat.le_refl _)
  ·rename_i gz;have:fz.1≠fz.2:=(by simpa using gz);right;simp only;omega
 ·intro b hb;simp only[World.freeze,Nat.one_ne_zero,if_false,Array.getElem?_modify];rw[if_neg (fun e=>hb e.symm)]
 ·simp[World.freeze]
 ·simp[World.freeze]
 ·simp[World.freeze]
theorem Im{z:List Value}{s:Nat}(hz:z.length=s)(d:Value):∀n:Nat,(List.range (n*s)).map (fun i=>z.getD (i%s) d)=(List.replicate n z).flatten
 |0=>by simp
 |n+1=>by
  rw[Nat.succ_mul,List.range_add,List.map_append,Im hz d n,List.replicate_succ',List.flatten_append]
  congr 1
  rw[List.map_map];simp only[List.flatten_cons,List.flatten_nil,List.append_nil]
  apply List.ext_getElem
  ·simp[hz]
  ·intro i h1 h2;have hi:i<s:=(by simpa using h1);simp[List.getD,Nat.add_mod,Nat.mod_eq_of_lt hi,hz,hi]
theorem Io{β:Env}{L:Nat→Option Kd}{z:List SV}{zc:List Value}(h:a8 β L z zc):∀n:Nat,a8 β L ((List.replicate n z).flatten) ((List.replicate n zc).flatten)
 |0=>.nil
 |n+1=>by simp only[List.replicate_succ,List.flatten_cons];exact h.append (Io h n)
theorem yB{α:Type}{R:α→List Value→Prop}{x:α}{zc:List Value}(h:R x zc):∀n:Nat,aV R (List.replicate n x) ((List.replicate n zc).flatten)
 |0=>.nil
 |n+1=>by simp only[List.replicate_succ,List.flatten_cons];exact .cons h (yB h n)
theorem lG{z:Value}{s:Nat}(n:Nat)(hz:z.cells.size=s):(Array.range (n*s)).map (fun i=>z.cells[i%z.cells.size]!)=((List.replicate n z.cells.toList).flatten).toArray:=by
 apply Array.ext'
 rw[← Im (z:=z.cells.toList) (s:=s) (by simpa using hz) default n,hz];simp only[Array.toList_map,Array.toList_range]
 apply List.map_congr_left
 intro i _;simp[Array.getElem!_eq_getD,Array.getD_eq_getD_getElem?,List.getD]
noncomputable section
variable {P:Program} {st:St} {o:Oper} {q:Option Prop} {v:LV} {d:List (Nat×Item)}
theorem mf{β:Env}{w:World}{b:Nat}{t:Ty}{l:List t.D}{ft rest:List Value}{elem:TypeId}{fz:Nat×Nat}{c:Nat}(hw:w.heap[b]? =some (.cells (ft++rest).toArray elem fz))(hl:aV (t.has β true) l ft)
  (hc:l.length≤c) (hr:(c-l.length)*t.w≤rest.length) (hf:yk fz (ft++rest).length):dm β w (.slice (some ⟨b,0,none⟩) l.length c) t l:=
 ⟨_,_,_,rfl,rfl,hc,by simp,fun _=>⟨_,[],ft,rest,elem,fz,rfl,rfl,by simpa using hw,rfl,hl,hr,by simpa using hf⟩⟩
theorem ajH{id:Nat}{src dst:TypeId}{x:Operand}{s:SV}(ho:o.op= .convert src dst x)(hx:iK (ev st x)=some s)(h:(MZ P id src dst s).val st.hp=some (q,v,d))(nM:(∃x,(id,x)∈d)→kd st.hp id=none):gh P o st q v d:=by
 unfold MZ at h
 split at h
 ·rename_i d' k hs BP;simp only[Ask.val]at h
  split at h
  ·rename_i k' n;simp at h;obtain⟨rfl,rfl,rfl⟩:=h;refine gh.pure fun _ W aj β₀ β a w hr=>?_;have e:a.eval x= .int k' n.val:=bf hx (aU hr x);refine⟨.int k (k.wrap n.val),by simp[execOp,ho,e,convert,run_underlying hs,run_underlying BP,Conv.intToInt],?_⟩;show Value.int k (k.wrap n.val)= .int k (aab k n).val;rw[VA]
  ·cases h
 ·rename_i e hs BP
  split at h
  ·rename_i he;rw[Ask.cG]at h;obtain⟨⟨pm,l⟩,hc,he2⟩:=map_some h;simp at he2;obtain⟨rfl,rfl,rfl⟩:=he2;refine gh.pure fun _ W aj β₀ β a w hr=>?_;have oh:=l7 hr.heap hc (bf hx (aU hr x));have eB:=run_bytesToString (P:=P) oh;obtain⟨aa,n,c,e1,_⟩:=oh;refine⟨_,?_,rfl⟩;rw[e1]at eB;simp[execOp,ho,e1,convert,run_underlying hs,run_underlying BP,run_underlying he,eB]
  ·simp[Ask.val]at h
 ·rename_i hs BP;simp only[Ask.val]at h
  split at h
  ·rename_i l hl;simp at h;obtain⟨rfl,rfl,rfl⟩:=h;refine gh.pure fun _ W aj β₀ β a w hr=>?_;have e:=iJ hl (bf hx (aU hr x));exact⟨.string (strOf l),by simp[execOp,ho,e,convert,run_underlying hs,run_underlying BP],rfl⟩
  ·cases h
 ·rename_i e hs BP;simp only[Ask.val]at h
  split at h
  ·rename_i l he hl
   split at h
   ·rename_i hsz
    cases h
    have nM:=nM ⟨_,by simp;rfl⟩;intro _ W aj β₀ β a w hr;have ex:=iJ hl (bf hx (aU hr x))
    let s:=strOf l
    have hlen:s.size=l.length:=q4 l
    let cap:=(Question.appendCap s.size 0 e).cut (w.tape w.drawn (.appendCap s.size 0 e))
    have BQ:s.size≤cap:=by simp[cap,Question.cut]
    let ft:List Value:=(l.map fun n=>((UInt8.ofNat n.toNat).toNat:Int)).map (.int .u8)
    let rest:List Value:=List.replicate (cap-s.size) (.int .u8 0)
    let w1:=w.drew.alloc (.cells (ft++rest).toArray e)
    have hw1:w1.heap[w.heap.size]? =some (.cells (ft++rest).toArray e (0,0)):=heap_alloc_new w.drew _;obtain⟨w2,fz',r1,r2,r3,r4,r5,r6,r7⟩:=kY (P:=P) (a:=⟨w.heap.size,0,none⟩) hw1 (.inl rfl)
    have aAM:aV ((Ty.int .u8).has β true) (l.map fun n=>((UInt8.ofNat n.toNat).toNat:Int)) ft:=by
     show aV _ _ (List.map _ (List.map _ l));generalize (l.map fun n=>((UInt8.ofNat n.toNat).toNat:Int))=m
     induction m with
     |nil=>exact .nil
     |cons x m ih=>exact aV.cons (vs:= [_]) rfl ih
    have gZ:=mf (c:=cap) r2 aAM (by simp;omega) (by simp[rest,Ty.w];omega) r3;have hll:(l.map fun n=>((UInt8.ofNat n.toNat).toNat:Int)).length=s.size:=(by simp[hlen]);rw[hll]at gZ
    obtain⟨β',h1,h2,h3⟩:=hr.heap.rf nM (ver:=0) (w':=w2) (by rw[r5];show w.heap.size≤(w.drew.alloc _).heap.size;rw[World.size_alloc];exact Nat.le_succ _) (by rw[r6];rfl) (by rw[r7];rfl) (fun b hb=>by
     rw[r4 b (by show b≠w.heap.size;omega)];exact heap_alloc_old w.drew _ b hb) gZ (fun a n c e _=>by simp at e;obtain⟨rfl,_⟩:=e;exact Nat.le_refl _)
    refine⟨β',w2,_,.slice (some ⟨w.heap.size,0,none⟩) s.size cap,?_,.inl rfl,?_,h1,h2⟩
    ·have hel:(strOf l).data.map (fun b=>Value.int .u8 b.toNat)=ft.toArray:=by
      apply Array.ext'
      simp[strOf,ft,List.map_map,Function.comp_def]
     have aAN:(strOf l).data.map (fun b=>Value.int .u8 b.toNat)++Array.replicate (cap-s.size) (Value.int .u8 0)=(ft++rest).toArray:=by
      rw[hel];apply Array.ext';simp[rest]
     have hq:(Question.appendCap s.size 0 e).forced=false:=rfl;simp only[execOp,ho,ex,convert,Sem.run_bind,run_underlying hs,run_underlying BP,run_underlying he,Result.andThen_ok,Conv.stringToBytes,run_choose_drew,hq,Bool.false_eq_true,if_false,newRow,run_newObj,Sem.run_pure];show((Sem.run P (markStringish ⟨w.drew.heap.size,0,none⟩) (w.drew.alloc (.cells ((strOf l).data.map (fun b=>Value.int .u8 b.toNat)++Array.replicate (cap-s.size) (Value.int .u8 0)) e))).andThen _).andThen _=_;rw[aAN];show((Sem.run P (markStringish ⟨w.heap.size,0,none⟩) w1).andThen _).andThen _=_;rw[r1];rfl
    ·refine⟨rfl,0,?_,Nat.le_refl _,fun _=>h3.symm⟩;show kd (setAt st.hp id _) id=_;rw[c7,if_pos rfl];rfl
   ·cases h
  ·cases h
 ·rename_i e' e hs BP
  split at h
  ·rename_i i ver
   split at h
   ·rename_i hsd
    split at h
    ·rename_i he;simp only[Ask.val]at h
     split at h
     ·rename_i ver' l hi
      split at h
      ·rename_i hc;obtain⟨rfl,gz⟩:=hc;simp at h;obtain⟨rfl,rfl,rfl⟩:=h;intro _ W aj β₀ β a w hr;have hd:=bf hx (aU hr x);obtain⟨nW,hh⟩:=hr.heap.og (p:=fun v=>a.eval x=v) (aB hi) hd.2;have aFu:=nW;obtain⟨a0,n,c,e1,hn,Sr,ha,eD⟩:=nW
       have hc0:0<c:=by
        have:0<l.length:=List.length_pos_iff.2 gz;omega
       obtain⟨a1,pre,ft,rest,elem,fz,rfl,k1,k2,k3,k4,k5,k6⟩:=eD hc0;obtain⟨w',fz',r1,r2,r3,r4,r5,r6,r7⟩:=kY (P:=P) k2 k6
       obtain⟨β',h1,h2,h3⟩:=hr.heap.uZ (aB hi) (ver':=ver) (l':=l) (v:=β.h i) (w':=w') (.inr ⟨rfl,rfl⟩) (by omega) r6 r7 (fun b hb qK=>r4 b fun e=>qK (by subst e;exact⟨a1,n,c,e1,hc0,rfl⟩))
        (by rw[e1];exact⟨_,n,c,rfl,hn,Sr,by simp,fun _=>⟨a1,pre,ft,rest,elem,fz',rfl,k1,r2,k3,k4,k5,r3⟩⟩) (fun a n c e h0=>.inl ⟨a,n,c,e,h0,rfl⟩)
       refine⟨β',w',_,a.eval x,?_,.inl rfl,SV.eI h2 hd,h1,h2⟩;rw[hh,e1];subst hsd;have hee:e'=e:=(by rw[hs]at BP;simpa using BP);subst hee;have:a.eval x= .slice (some a1) n c:=(by rw[hh,e1]);simp[execOp,ho,this,convert,run_underlying hs,run_underlying he,r1]
      ·cases h
     ·cases h
    ·simp[Ask.val]at h
   ·simp[Ask.val]at h
  ·simp[Ask.val]at h
 ·simp[Ask.val]at h
end
noncomputable section
variable {P:Program} {st:St} {o:Oper} {q:Option Prop} {v:LV} {d:List (Nat×Item)}
theorem avo{lo hi mx:Option Operand}{W:World}{aj:Hp}{β₀ β:Env}{a:Act}{w:World}(hr:Rel W aj β₀ β st a w){isS:Bool}{n c:Nat}{r:Nat×Nat×Nat}(h:l9 n c (lo.map (ev st)) (hi.map (ev st)) (mx.map (ev st))=some r):
  (Instr.sliceBounds isS n c (lo.map a.eval) (hi.map a.eval) (mx.map a.eval)).run P w= .ok r w:=
 BN (P:=P) (w:=w) (β:=β) (L:=kd st.hp) (lov:=lo.map a.eval) (hiv:=hi.map a.eval) (mxv:=mx.map a.eval) h
  (fun y hy=>by obtain⟨z,hz,rfl⟩:=map_some hy;exact⟨a.eval z,by simp[hz],aU hr z⟩) (by cases lo<;>simp)
  (fun y hy=>by obtain⟨z,hz,rfl⟩:=map_some hy;exact⟨a.eval z,by simp[hz],aU hr z⟩) (by cases hi<;>simp) (by cases mx<;>simp)
theorem Ip{t el:TypeId}{x:Operand}{lo hi mx:Option Operand}{b off n:Nat}(ho:o.op= .slice t x lo hi mx)(hx:iK (ev st x)=some (.ptr b off))(nN:oa P t=some (n,el))
  (h:((fF P 0 (ev st) (.slice t x lo hi mx)).val st.hp)=some (q,v,d)):gh P o st q v d:=by
 have hu:=l6 nN;simp only[fF,hx,nN,Ask.val]at h
 split at h
 ·rename_i cells elem sz hb hs
  split at h
  ·rename_i ty n' l ji
   split at h
   ·rename_i x' y' Sp ZP
    split at h
    ·rename_i hc;obtain⟨rfl,rfl⟩:=hc
     cases h
     refine gh.pure fun hq W aj β₀ β a w hr=>?_;obtain⟨q1,q2,q3⟩:0≤x'∧x'≤y'∧y'≤(n':Int):=hq;obtain⟨sa,ex⟩:=bf hx (aU hr x);have hsb:=rZ (P:=P) hr (isS:=false) Sp ZP q1 q2 q3 (Nat.le_refl _);refine⟨.slice (some (if n'=x'.toNat then⟨β.b b,off,none⟩else(⟨β.b b,off,none⟩:Addr).add (x'.toNat*ty.w))) (y'.toNat-x'.toNat) (n'-x'.toNat),?_,sa,q1,by omega,by omega,some (if n'=x'.toNat then⟨β.b b,off,none⟩else(⟨β.b b,off,none⟩:Addr).add (x'.toNat*ty.w)),n'-x'.toNat,?_,?_,(fun e=>by cases e),fun h0=>?_⟩
     ·simp only[execOp,ho,ex,Instr.sliceAt,underlying,Sem.run_bind,run_program,Result.andThen_ok,hu,Instr.sureAddr,Sem.run_pure,hsb,run_sizeOf hs,Option.map_none]
     ·rw[show(y'-x').toNat=y'.toNat-x'.toNat from by omega]
     ·omega
     ·rw[if_neg (by omega)]
    ·cases h
   ·cases h
  ·obtain⟨r,hsp,he⟩:=map_some h
   cases he
   refine gh.pure fun _ W aj β₀ β a w hr=>?_;obtain⟨sa,ex⟩:=bf hx (aU hr x);have hsb:=avo (P:=P) hr (isS:=false) hsp;refine⟨.slice (some ⟨β.b b,if r.2.2=r.1 then off else off+r.1*sz,none⟩) (r.2.1-r.1) (r.2.2-r.1),?_,sa,rfl⟩;simp only[execOp,ho,ex,Instr.sliceAt,underlying,Sem.run_bind,run_program,Result.andThen_ok,hu,Instr.sureAddr,Sem.run_pure,hsb,run_sizeOf hs]
   split<;>simp[bK]
 ·cases h
theorem xm{a:Option Addr}{c k:Nat}{f:Addr→Addr}(h:a=none→c=0):(if c=k then a else a.map f)=none→c-k=0:=by
 intro e
 split at e
 ·have:=h e;omega
 ·cases a with
  |none=>have:=h rfl;omega
  |some a=>cases e
theorem bd.aak{W:World}{aj:Hp}{β₀ β:Env}{hp:Hp}{w:World}(h:bd W aj β₀ β hp w){pm:Bool}{u u':Value}{t:Ty}{l l':List t.D}(hr:β.rd pm u t l)(oh:bG β pm w u' t l')(mc:∀b,inBlock u' b→inBlock u b):
  ∃β',bd W aj β₀ β' hp w∧bH β β' (kd hp) (kd hp)∧β'.rd pm u' t l':=by
 obtain⟨h1,h2,h3⟩:=h.nD oh fun b hb=>⟨((h.reads _ _ _ _ hr).2 b (mc b hb)).1,((h.reads _ _ _ _ hr).2 b (mc b hb)).2,h.from_ pm u t l b hr (mc b hb)⟩;exact⟨_,h1,h2,h3⟩
theorem ajI{W:World}{aj:Hp}{β₀ β:Env}{hp:Hp}{w:World}(h:bd W aj β₀ β hp w){s r:SV}{pm:Bool}{t:Ty}{l:List t.D}{x y:Int}(hc:(iN s).val hp=some (pm,⟨t,l⟩))(hs:aqy t.w x y s=some r)
  {a:Option Addr} {n c:Nat} (hd:s.den β (kd hp) (.slice a n c)) (q1:0≤x) (q2:x≤y) (q3:y≤l.length):
  ∃β',bd W aj β₀ β' hp w∧bH β β' (kd hp) (kd hp)∧r.den β' (kd hp) (.slice (if c=x.toNat then a else a.map (·.add (x.toNat*t.w))) (y.toNat-x.toNat) (c-x.toNat)):=by
 have oh:=j6 h hc hd;obtain⟨a',n',c',e,hn,Sr,hz,eD⟩:=oh;simp at e;obtain⟨rfl,rfl,rfl⟩:=e;have hyx:(y-x).toNat=y.toNat-x.toNat:=by omega
 unfold aqy at hs
 split at hs
 ·rename_i kN nn t' l';simp at hs;subst hs
  have ra:pm=kN∧(⟨t,l⟩:(t:Ty)×List t.D)=⟨t',l'⟩:=by
   unfold iN at hc;rw[Ask.dZ]at hc;simp[DZ,Ask.val,Ask.cG,iM]at hc;obtain⟨h1,rfl,h2⟩:=hc;exact⟨h1.symm,by simpa using h2.symm⟩
  obtain⟨rfl,e⟩:=ra
  cases e
  have VC:wy (.slice a n c) t.w x (y-x) (.slice (if c=x.toNat then a else a.map (·.add (x.toNat*t.w))) (y.toNat-x.toNat) (c-x.toNat)):=by
   refine⟨_,_,_,_,_,rfl,q1,by omega,by omega,by rw[hyx],by omega,xm hz,fun h0=>?_⟩;obtain⟨a0,_,rfl,_⟩:=eD (by omega);exact⟨a0,rfl,by rw[if_neg (by omega)];rfl⟩
  have aAO:bG β pm w (.slice a n c) t l:=⟨_,_,_,rfl,hn,Sr,hz,eD⟩;obtain⟨_,_,qw⟩:=hd
  have mc:∀b,inBlock (Value.slice (if c=x.toNat then a else a.map (·.add (x.toNat*t.w))) (y.toNat-x.toNat) (c-x.toNat)) b→inBlock (Value.slice a n c) b:=by
   intro b hb
   cases a with
   |none=>split at hb<;>exact hb.elim
   |some a=>
    split at hb
    ·obtain⟨h1,h2⟩:=hb;exact⟨by omega,h2⟩
    ·obtain⟨h1,h2⟩:=hb;exact⟨by omega,by rw[← h2,dJ]⟩
  rcases qw with qw|⟨rfl,qw⟩|⟨e,rfl⟩
  ·obtain⟨β',k1,k2,k3⟩:=h.aak qw ((h.reads _ _ _ _ qw).1.sub VC) mc;exact⟨β',k1,k2,rfl,fun e=>(by cases e),.inl k3⟩
  ·obtain⟨β',k1,k2,k3⟩:=h.aak qw ((h.reads _ _ _ _ qw).1.sub VC) mc;exact⟨β',k1,k2,rfl,fun e=>(by cases e),.inr (.inl ⟨rfl,k3⟩)⟩
  ·simp at e;obtain⟨rfl,rfl,rfl⟩:=e;refine⟨β,h,bH.refl _ _,rfl,fun e=>(by cases e),.inr (.inr ⟨?_,by simp⟩)⟩;have wI:x.toNat=0:=(by simp at q3;omega);have BO:y.toNat=0:=(by simp at q3;omega);rw[wI,BO];rfl
 ·rename_i i ver;simp at hs;subst hs;obtain⟨k1,cc,k2,k3,k4⟩:=hd;refine⟨β,h,bH.refl _ _,rfl,cc,k2,k3,fun e=>⟨a,n,c,_,_,(k4 e).symm,q1,by omega,by omega,by rw[hyx],by omega,xm hz,fun h0=>?_⟩⟩;obtain⟨a0,_,rfl,_⟩:=eD (by omega);exact⟨a0,rfl,by rw[if_neg (by omega)];rfl⟩
 ·rename_i i ver w' z m;simp at hs;subst hs
  have hw:w'=t.w:=by
   unfold iN at hc;rw[Ask.dZ]at hc
   split at hc
   ·rename_i t0 _;rw[Ask.cG]at hc;obtain⟨⟨kN,l'⟩,h1,h2⟩:=map_some hc;simp at h2;obtain⟨_,rfl,_⟩:=h2;simp only[iM,Ask.val]at h1
    split at h1
    ·split at h1
     ·split at h1
      ·rename_i hh;exact hh.2
      ·cases h1
     ·cases h1
    ·cases h1
   ·cases hc
  subst hw;obtain⟨k1,cc,k2,k3,k4⟩:=hd;refine⟨β,h,bH.refl _ _,rfl,cc,k2,k3,fun e=>?_⟩;obtain⟨a1,m1,c1,a2,c2,e1,z0,m0,hle,e2,hc2,hz2,r9⟩:=k4 e;simp at e2;obtain⟨rfl,e3,rfl⟩:=e2;refine⟨a1,m1,c1,_,_,e1,by omega,by omega,by omega,by rw[hyx],by omega,xm hz2,fun h0=>?_⟩;obtain⟨a0,rfl,rfl⟩:=r9 (by omega);refine⟨a0,rfl,?_⟩;rw[if_neg (by omega),Option.map_some,yA,← Nat.add_mul,show(z+x).toNat=z.toNat+x.toNat from by omega]
 ·rename_i b o' t' m z k;simp at hs;subst hs;have ht:t'=t:=by have:=VB hc;simp[DZ,Ask.val]at this;exact this
  subst ht;obtain⟨k1,z0,m0,zm,a2,c2,e2,hc2,hz2,r9⟩:=hd;simp at e2;obtain⟨rfl,e3,rfl⟩:=e2;refine⟨β,h,bH.refl _ _,k1,by omega,by omega,by omega,_,_,by rw[hyx],by omega,xm hz2,fun h0=>?_⟩;have:=r9 (by omega);subst this;rw[if_neg (by omega),Option.map_some,yA,← Nat.add_mul,show(z+x).toNat=z.toNat+x.toNat from by omega]
 ·cases hs
end
noncomputable section
variable {P:Program} {st:St} {o:Oper} {q:Option Prop} {v:LV} {d:List (Nat×Item)}
theorem aal{id:Nat}{t:TypeId}{x:Operand}{lo hi mx:Option Operand}(ho:o.op= .slice t x lo hi mx)
  (h:((fF P id (ev st) (.slice t x lo hi mx)).val st.hp)=some (q,v,d)):gh P o st q v d:=by
 have h0:=h;simp only[fF]at h
 split at h
 ·rename_i b off n el _ hx nN;refine Ip ho hx nN ?_;simp only[fF]at h0 ⊢;exact h0
 ·rename_i b off len cap el hx nN me;have hu:=dK me;simp only[Ask.val]at h
  split at h
  ·rename_i l hh m sz hsp hs
   cases h
   refine gh.pure fun _ W aj β₀ β a w hr=>?_;obtain⟨sa,ex⟩:=bf hx (aU hr x);have hsb:=avo (P:=P) hr (isS:=true) hsp;refine⟨.slice (some ⟨β.b b,if m=l then off else off+l*sz,none⟩) (hh-l) (m-l),?_,sa,rfl⟩;simp only[execOp,ho,ex,Instr.sliceAt,Instr.slice,underlying,Sem.run_bind,run_program,Result.andThen_ok,hu,Sem.run_pure,hsb,run_sizeOf hs]
   split<;>simp[bK]
  ·cases h
 ·rename_i s el hx nN me;have hu:=dK me;rw[Ask.cG]at h
  split at h
  ·rename_i pm ty l sz hc hs
   split at h
   ·rename_i x' y' Sp ZP
    split at h
    ·rename_i hw;subst hw;obtain⟨r,MG,he⟩:=map_some h
     cases he
     intro hq W aj β₀ β a w hr;obtain⟨q1,q2,q3⟩:0≤x'∧x'≤y'∧y'≤(l.length:Int):=hq;have hd:=bf hx (aU hr x);obtain⟨a',n',c',ex,hn,Sr,_⟩:=j6 hr.heap hc hd;rw[ex]at hd;rw[← hn]at ZP q3;have hsb:=rZ (P:=P) hr (isS:=true) Sp ZP q1 q2 q3 Sr;obtain⟨β',k1,k2,k3⟩:=ajI hr.heap hc MG hd q1 q2 (by rw[← hn];exact q3);refine⟨β',w,_,_,?_,.inl rfl,k3,k1,k2⟩;simp only[execOp,ho,ex,Instr.sliceAt,Instr.slice,underlying,Sem.run_bind,run_program,Result.andThen_ok,hu,Sem.run_pure,Option.map_none];rw[hsb];simp only[Result.andThen_ok,run_sizeOf hs,Sem.run_pure]
    ·cases h
   ·cases h
  ·cases h
 ·simp[Ask.val]at h
theorem D3{id:Nat}{t:TypeId}{x y:Operand}(ho:o.op= .makeSlice t x y)(h:((fF P id (ev st) (.makeSlice t x y)).val st.hp)=some (q,v,d))(nM:(∃x,(id,x)∈d)→kd st.hp id=none):gh P o st q v d:=by
 simp only[fF,Ask.val]at h
 split at h
 ·rename_i el k1 n k2 c me hn hc;have hu:=dK me
  split at h
  ·rename_i ty sz z uP hty hs hz MH
   split at h
   ·rename_i ke;obtain⟨rfl,jf,hwz⟩:=ke
    split at h
    ·rename_i z0 hz0
     cases h
     have aan:=nM ⟨_,by simp;rfl⟩;intro hq W aj β₀ β a w hr;obtain⟨rfl,BR,aFv,aFw⟩:c=n∧0≤n∧(uP:Int)*n≤2 ^ 46∧n≤2 ^ 46:=hq;have en:=eW hn (aU hr x);have ec:=eW hc (aU hr y);obtain⟨zv,Ss,hzd⟩:=ob (P:=P) (w:=w) (β:=β) (L:=kd st.hp) hz;have hzs:zv.cells.size=ty.w:=(by have:=hzd.length;simp at this;omega);have hzh:=ty.gK hz0 hzd;have aqF:=wrap_small (n:=c) BR (by omega)
     have aAQ:∃i,P.info? el=some i∧i.bytes=uP:=by
      unfold n9 at MH;obtain⟨i,h1,h2⟩:=map_some MH;exact⟨i,h1,h2⟩
     obtain⟨i,hi,hib⟩:=aAQ;have ji:aV (ty.has β true) (List.replicate c.toNat z0) ((List.replicate c.toNat zv.cells.toList).flatten):=yB hzh _;have gZ:=mf (β:=β) (w:=w.alloc (.cells ((List.replicate c.toNat zv.cells.toList).flatten++ []).toArray el)) (b:=w.heap.size) (elem:=el) (fz:=(0,0)) (rest:= []) (c:=c.toNat) (heap_alloc_new w _) ji (by simp) (by simp) (.inl rfl);rw[List.append_nil,List.length_replicate]at gZ;obtain⟨β',h1,h2,h3⟩:=hr.heap.rf aan (ver:=0) (w':=w.alloc (.cells ((List.replicate c.toNat zv.cells.toList).flatten).toArray el)) (by rw[World.size_alloc];exact Nat.le_succ _) rfl rfl (fun b hb=>heap_alloc_old w _ b hb) gZ (fun a n c e _=>by simp at e;obtain⟨rfl,_⟩:=e;exact Nat.le_refl _);refine⟨β',_,_,.slice (some ⟨w.heap.size,0,none⟩) c.toNat c.toNat,?_,.inl rfl,?_,h1,h2⟩
     ·have hti:(typeInfo el).run P w= .ok i w:=by simp[typeInfo,hi]
      have aao:¬ ((c<0)∨((i.bytes:Int)*c>2 ^ 48)):=by
       rw[hib];intro hh;rcases hh with hh|hh<;>omega
      have ajL:(decide (c<0)||decide ((i.bytes:Int)*c>2 ^ 48))=false:=by
       have:¬ (c<0)∧¬ ((i.bytes:Int)*c>2 ^ 48):=⟨fun hh=>aao (.inl hh),fun hh=>aao (.inr hh)⟩;simp only[this.1,this.2,decide_false,Bool.or_self]
      simp only[execOp,ho,en,ec,Instr.makeSlice,Sem.run_bind,run_underlying hu,Result.andThen_ok,asInt,asIntOf,Sem.run_pure,hti,aqF,ajL,Bool.false_or];rw[if_neg (by simp;omega)];simp only[Sem.run_bind,run_askRoom,Result.andThen_ok,run_sizeOf hs]
      by_cases M4:c.toNat*ty.w=0
      ·have h01:c.toNat=0:=by
        rcases Nat.mul_eq_zero.1 M4 with k|k
        ·exact k
        ·omega
       rw[if_pos M4];simp only[Sem.run_bind,Result.andThen_ok,newRow,run_newObj,Sem.run_pure,h01];have hr0:(Array.range 0).map (fun x=>(#[]:Array Value)[x%(#[]:Array Value).size]!)= #[]:=(by simp);rw[Nat.zero_mul,hr0];simp
      ·rw[if_neg M4];simp only[Sem.run_bind,Ss,Result.andThen_ok,newRow,run_newObj,Sem.run_pure,lG c.toNat hzs];rfl
     ·refine⟨rfl,0,?_,Nat.le_refl _,fun _=>h3.symm⟩;show kd (setAt st.hp id _) id=_;rw[c7,if_pos rfl];rfl
    ·cases h
   ·cases h
  ·cases h
 ·cases h
theorem BS{id:Nat}{t:TypeId}{len:Nat}{parts:Array (Nat×Operand)}(ho:o.op= .buildSlice t len parts)(h:((fF P id (ev st) (.buildSlice t len parts)).val st.hp)=some (q,v,d))(nM:(∃x,(id,x)∈d)→kd st.hp id=none):gh P o st q v d:=by
 simp only[fF,Ask.val]at h
 split at h
 ·rename_i el me;have hu:=dK me
  split at h
  ·rename_i sz z hs hz
   split at h
   ·rename_i ke;obtain⟨h16,hwz,jf⟩:=ke
    split at h
    ·rename_i l hl
     have base:∀ (W:World) (aj:Hp) (β₀ β:Env) (a:Act) (w:World),Rel W aj β₀ β st a w→
       ∃c:List Value,a8 β (kd st.hp) l c∧(execOp a.eval o).run P w= .ok (.value (.slice (some ⟨w.heap.size,0,none⟩) len len)) (w.alloc (.cells c.toArray el)):=by
      intro W aj β₀ β a w hr;obtain⟨zv,Ss,hzd⟩:=ob (P:=P) (w:=w) (β:=β) (L:=kd st.hp) hz;have hzs:zv.cells.size=sz:=by have:=hzd.length;simp at this;omega
      obtain⟨c,hcc,hd⟩:=DW (β:=β) (L:=kd st.hp) (place:=fun i=>some (i*sz,sz)) _ (parts.toList.map fun p=>(p.1,a.eval p.2)) _ _ l (Io hzd len)
       (bF.of_map _ _ _ fun p _=>⟨rfl,aU hr p.2⟩) hl
      refine⟨c,hd,?_⟩;simp only[execOp,ho,Instr.buildSlice,Sem.run_bind,run_underlying hu,Result.andThen_ok,run_sizeOf hs];rw[if_neg (by omega)]
      have avq:Instr.fill (fun i=>some (i*sz,sz)) ((List.replicate len zv.cells.toList).flatten).toArray (Array.map (fun x=>match x with|(i,x)=>(i,a.eval x)) parts).toList=some c.toArray:=by
       rw[← hcc];simp
      by_cases M4:len*sz=0
      ·have h01:len=0:=by
        rcases Nat.mul_eq_zero.1 M4 with k|k
        ·exact k
        ·omega
       rw[if_pos M4]
       have aAS:Instr.fill (fun i=>some (i*sz,sz)) #[] (Array.map (fun x=>match x with|(i,x)=>(i,a.eval x)) parts).toList=some c.toArray:=by
        rw[← avq,h01];simp
       simp only[Sem.run_bind,Result.andThen_ok,Sem.run_pure,M4];have hr0:(Array.range 0).map (fun x=>(#[]:Array Value)[x%(#[]:Array Value).size]!)= #[]:=(by simp);rw[hr0,aAS];simp[newRow]
      ·rw[if_neg M4];simp only[Sem.run_bind,Ss,Result.andThen_ok,Sem.run_pure,lG len hzs];rw[avq];simp[newRow]
     have avr:some (q,v,d)=some ((none:Option Prop),LV.one (.sc (.slice id 0 len len)),[(id,Item.ba l el)])→gh P o st q v d:=by
      intro he;cases he;have nM:=nM ⟨_,by simp;rfl⟩;intro _ W aj β₀ β a w hr;obtain⟨c,hd,eB⟩:=base W aj β₀ β a w hr;obtain⟨β',h1,h2,h3⟩:=hr.heap.aae nM el hd;refine⟨β',_,_,_,eB,.inl rfl,⟨?_,by rw[h3]⟩,h1,h2⟩;show kd (setAt st.hp id _) id=_;rw[c7,if_pos rfl];rfl
     split at h
     ·rename_i ty hty
      split at h
      ·rename_i hw;subst hw
       split at h
       ·rename_i xs hxs
        cases h
        have nM:=nM ⟨_,by simp;rfl⟩;intro _ W aj β₀ β a w hr;obtain⟨c,hd,eB⟩:=base W aj β₀ β a w hr;obtain⟨hh,hlen⟩:=jg (R:=ty.has β true) (fun a x vs h hd=>ty.gK h hd) _ hxs hd;have gZ:=mf (β:=β) (w:=w.alloc (.cells (c++ []).toArray el)) (b:=w.heap.size) (elem:=el) (fz:=(0,0)) (rest:= []) (c:=len) (heap_alloc_new w _) hh (by omega) (by simp[hlen]) (.inl rfl);rw[List.append_nil,hlen]at gZ;obtain⟨β',h1,h2,h3⟩:=hr.heap.rf nM (ver:=0) (w':=w.alloc (.cells c.toArray el)) (by rw[World.size_alloc];exact Nat.le_succ _) rfl rfl (fun b hb=>heap_alloc_old w _ b hb) gZ (fun a n c e _=>by simp at e;obtain⟨rfl,_⟩:=e;exact Nat.le_refl _);refine⟨β',_,_,_,eB,.inl rfl,⟨rfl,0,?_,Nat.le_refl _,fun _=>h3.symm⟩,h1,h2⟩;show kd (setAt st.hp id _) id=_;rw[c7,if_pos rfl];rfl
       ·exact avr h.symm
      ·cases h
     ·exact avr h.symm
    ·cases h
   ·cases h
  ·cases h
 ·cases h
theorem VD{op:BinOp}{t:TypeId}{ox oy:Operand}{x y:LV}{b:Bool}(h:M0 P op t x y=some b){w:World}{β:Env}{L:Nat→Option Kd}{xv yv:Value}(hx:x.den β L xv)(hy:y.den β L yv):
  (do eqGuard op t ox oy xv yv;binOp op t xv yv:Sem Value).run P w= .ok (.bool b) w:=by
 unfold M0 at h
 have key:∀ {pm:Bool} {ty:Ty} {l:List ty.D} {n c:Nat} {e:TypeId},dT P t=some e→(LV.one (.sc (.rd pm true ty l))).den β L xv→(LV.one (.sc (.gY (.slice none n c)))).den β L yv→
   ∃a n c n' c',xv= .slice (some a) n c∧yv= .slice none n' c':=by
  intro pm ty l n c e _ h1 h2;obtain⟨_,h3,_⟩:=h1;obtain⟨_,rfl⟩:=h2;have:=h3 rfl
  cases xv with
  |slice a n' c'=>cases a with
   |none=>exact absurd rfl this
   |some a=>exact⟨a,n',c',n,c,rfl,rfl⟩
  |_=>exact this.elim
 split at h
 ·rename_i e me
  cases h
  obtain⟨a,n,c,n',c',rfl,rfl⟩:=key me hx hy;rw[Sem.run_bind,cX (by simp) (by simp)];exact pE rfl (jV (dK me))
 ·rename_i e me
  cases h
  obtain⟨a,n,c,n',c',rfl,rfl⟩:=key me hx hy;rw[Sem.run_bind,cX (by simp) (by simp)];exact pF rfl (jV (dK me))
 ·cases h
theorem ajM{id:Nat}(h:(fF P id (ev st) o.op).val st.hp=some (q,v,d))(nM:(∃x,(id,x)∈d)→kd st.hp id=none):gh P o st q v d:=by
 cases ho:o.op<;>rw[ho]at h<;>(try (simp[fF,Ask.val]at h;done))
 case slice t x lo hi mx=>exact aal ho h
 case makeSlice t x y=>exact D3 ho h nM
 case buildSlice t n parts=>exact BS ho h nM
 all_goals simp only[fF]at h
 case move x=>
  cases h
  exact .pure fun _ W aj β₀ β a w hr=>⟨a.eval x,by simp[execOp,ho],aU hr x⟩
 case assign x=>
  cases h
  exact .pure fun _ W aj β₀ β a w hr=>⟨a.eval x,by simp[execOp,ho],aU hr x⟩
 case pick c x y=>
  simp only[Ask.val]at h
  split at h
  ·rename_i t hc
   cases h
   refine .pure fun _ W aj β₀ β a w hr=>⟨if t then a.eval x else a.eval y,?_,?_⟩
   ·have:=aU hr c;rw[hc]at this;have e:a.eval c= .bool t:=this;simp[execOp,ho,e,asBool]
   ·cases t
    ·exact aU hr y
    ·exact aU hr x
  ·rename_i t hc
   have aap:∀ (a:Act) (w:World) {W:World} {aj:Hp} {β₀ β:Env},Rel W aj β₀ β st a w→(execOp a.eval o).run P w= .ok (.value (if t then a.eval x else a.eval y)) w:=by
    intro a w W aj β₀ β hr;have:=aU hr c;rw[hc]at this;have e:a.eval c= .bool t:=this;simp[execOp,ho,e,asBool]
   split at h
   ·rename_i u v hx hy
    cases h
    refine .pure fun _ W aj β₀ β a w hr=>⟨_,aap a w hr,?_⟩
    cases t
    ·exact Ih (J:=aac) (L₁:=kd st.hp) ⟨fun _ _ h=>h,fun _ _ _ _ h=>(by cases h),fun _ h=>(by cases h)⟩ (hy▸aU hr y)
    ·exact MR (J:=aac) (L₁:=kd st.hp) ⟨fun _ _ h=>h,fun _ _ _ _ h=>(by cases h),fun _ h=>(by cases h)⟩ (hx▸aU hr x)
   ·rename_i u hx _
    cases h
    refine .pure fun hq W aj β₀ β a w hr=>⟨_,aap a w hr,?_⟩;have ht:t=true:=hq;subst ht;exact hx▸aU hr x
   ·rename_i u hy _
    cases h
    refine .pure fun hq W aj β₀ β a w hr=>⟨_,aap a w hr,?_⟩;have ht:t=false:=hq;subst ht;exact hy▸aU hr y
   ·cases h
  ·cases h
 case alloc t=>
  simp only[Ask.val]at h;obtain⟨l,hl,he⟩:=map_some h
  cases he
  have nM:=nM ⟨_,by simp;rfl⟩;refine Ik (mk:=fun _=>Instr.alloc t true (.tuple #[])) (fun a=>by simp[execOp,ho]) (fun W aj β₀ β a w hr=>?_) nM;obtain⟨z,hz,hd⟩:=ob (P:=P) (w:=w) (β:=β) (L:=kd st.hp) hl;refine⟨_,hd,?_⟩;simp only[Instr.alloc,Sem.run_bind,hz,Result.andThen_ok,newVar,newRow,run_newObj,Sem.run_pure];simp
 case box t x=>
  simp only[Ask.val]at h;obtain⟨l,hl,he⟩:=map_some h
  cases he
  have nM:=nM ⟨_,by simp;rfl⟩;refine Ik (mk:=fun a=>Instr.box t (a.eval x)) (fun a=>by simp[execOp,ho]) (fun W aj β₀ β a w hr=>?_) nM;obtain⟨cs,hcs,hd⟩:=n8 hl (aU hr x);refine⟨_,hd,?_⟩;simp only[Instr.box,Sem.run_bind,Result.andThen_ok,newVar,newRow,run_newObj,Sem.run_pure,hcs];rfl
 case build t parts=>
  simp only[Ask.val]at h
  split at h
  ·rename_i z place hz hpl;obtain⟨l,hl,he⟩:=map_some h
   cases he
   refine .pure fun _ W aj β₀ β a w hr=>?_;obtain⟨zv,Ss,hzd⟩:=ob (P:=P) (w:=w) (β:=β) (L:=kd st.hp) hz
   obtain⟨c,hc,hd⟩:=DW (β:=β) (L:=kd st.hp) (place:=place) _ (parts.toList.map fun p=>(p.1,a.eval p.2)) z zv.cells.toList l hzd
    (bF.of_map _ _ _ fun p _=>⟨rfl,aU hr p.2⟩) hl
   refine⟨.agg c.toArray,?_,c,rfl,hd⟩;unfold Sj at hpl
   split at hpl
   ·rename_i fs hu;obtain⟨pl,aAU,rfl⟩:=map_some hpl;have:=nG (P:=P) (w:=w) fs.toList pl aAU;simp only[execOp,ho,Instr.build,Sem.run_bind,Ss,Result.andThen_ok,underlying,run_program,hu,Sem.run_pure];rw[Array.mapM_eq_mapM_toList];simp only[Sem.run_map,this,Result.andThen_ok];simp at hc;simp[hc]
   ·rename_i n e hu;obtain⟨s,hs,rfl⟩:=map_some hpl;simp only[execOp,ho,Instr.build,Sem.run_bind,Ss,Result.andThen_ok,underlying,run_program,hu,Sem.run_pure,run_sizeOf hs];simp at hc;simp[hc]
   ·simp at hpl
  ·cases h
 case load t x=>
  split at h
  ·rename_i s hx;exact ajF ho hx h
  ·simp[Ask.val]at h
 case store t x y=>
  split at h
  ·rename_i s l hx hl;exact aaj ho hx hl h
  ·simp[Ask.val]at h
 case nilCheck x=>
  simp only[Ask.val]at h
  split at h
  ·rename_i b off hx
   cases h
   refine .pure fun _ W aj β₀ β a w hr=>?_;have hd:=aU hr x;rw[hx]at hd;obtain⟨dQ,e⟩:kd st.hp b=some .ba∧a.eval x= .pointer (some ⟨β.b b,off,none⟩):=hd;exact⟨_,by simp[execOp,ho,e],dQ,rfl⟩
  ·rename_i s wd z f hx
   cases h
   refine .pure fun _ W aj β₀ β a w hr=>?_;have hd:=aU hr x;rw[hx]at hd;have hd':=hd;obtain⟨ad,n,c,h1,h2,h3,e⟩:=hd;refine⟨.pointer (some (ad.add (z.toNat*wd+f))),by simp[execOp,ho,e],?_⟩;rw[e]at hd';exact hd'
  ·cases h
 case binOp op t x y yt=>
  simp only[Ask.val]at h
  split at h
  ·rename_i b hn
   cases h
   refine .pure fun hq W aj β₀ β a w hr=>⟨.bool b,?_,rfl⟩;have:=VD (w:=w) (ox:=x) (oy:=y) hn (aU hr x) (aU hr y);simp only[execOp,ho];rw[Sem.run_bind,this];rfl
  ·obtain⟨r,MG,he⟩:=map_some h
   cases he
   refine .pure fun hq W aj β₀ β a w hr=>?_;obtain⟨val,e1,e2⟩:=Z8 (P:=P) (w:=w) (ox:=x) (oy:=y) (s:=r.2) (q:=r.1) (by rw[MG]) hq (aU hr x) (aU hr y);refine⟨val,?_,e2⟩;simp only[execOp,ho];rw[Sem.run_bind,e1];rfl
 case unOp op t x=>
  simp only[Ask.val]at h
  split at h
  ·rename_i s h1;obtain⟨r,MG,he⟩:=map_some h
   cases he
   refine .pure fun hq W aj β₀ β a w hr=>?_;have hd:=bf h1 (aU hr x)
   cases s<;>simp only[avh]at MG<;>try (simp at MG;done)
   ·cases op<;>simp at MG<;>subst MG<;>(have e:a.eval x=_:=hd)
    ·exact⟨_,by simp[execOp,ho,e,Op.unary,Op.intArith];rfl,by simp only[LV.den,VV.den,SV.den,map2_val];simp[SI.val]⟩
    ·exact⟨_,by simp only[execOp,ho,e,Op.unary,Op.intBits];rfl,by simp only[LV.den,VV.den,SV.den,map2_val];rfl⟩
   ·rename_i b
    cases op<;>simp at MG<;>subst MG
    have e:a.eval x=_:=hd;exact⟨_,by simp[execOp,ho,e,Op.unary];rfl,by cases b<;>simp[LV.den,VV.den,SV.den,SB.val]⟩
  ·cases h
 case convert src dst x=>
  split at h
  ·rename_i s hx;exact ajH ho hx h nM
  ·simp[Ask.val]at h
 case sliceToArrayPointer t x=>
  split at h
  ·rename_i b off len cap n e hx ha;simp only[Ask.val]at h
   split at h
   ·rename_i hle
    cases h
    refine .pure fun _ W aj β₀ β a w hr=>?_;obtain⟨dQ,ex⟩:=bf hx (aU hr x);have hu:=l6 ha;exact⟨_,by simp[execOp,ho,ex,Instr.arrayAt,underlying,hu,Nat.not_lt.2 hle],dQ,rfl⟩
   ·cases h
  ·rename_i s n e hns hx ha;rw[Ask.cG]at h
   split at h
   ·rename_i pm ty l hc
    split at h
    ·rename_i ke;obtain⟨BR,hs⟩:=ke
     cases h
     refine .pure fun hq W aj β₀ β a w hr=>?_;have hq':n≤l.length:=hq;have hd:=bf hx (aU hr x);obtain⟨a',n',c',ex,hn,Sr,_,eD⟩:=j6 hr.heap hc hd;obtain⟨a0,_,rfl,_⟩:=eD (by omega);have hu:=l6 ha;rw[ex]at hd;refine⟨.pointer (some a0),?_,a0,n',c',hd,Int.le_refl _,by omega,by simp[Addr.add]⟩;simp[execOp,ho,ex,Instr.arrayAt,underlying,hu,show ¬n'<n by omega]
    ·cases h
   ·cases h
  ·simp[Ask.val]at h
 case fieldAddr s x f=>
  simp only[Ask.val]at h
  split at h
  ·rename_i av fs hx hf;have hu:=yr hf
   split at h
   ·rename_i fd hfd;have ajN:fs.toArray[f]? =some fd:=by simpa using hfd
    split at h
    ·rename_i n hn
     split at h
     ·cases h
     ·rename_i BR
      split at h
      ·rename_i b off
       cases h
       refine .pure fun _ W aj β₀ β a w hr=>?_;obtain⟨dQ,ex⟩:=bf hx (aU hr x);refine⟨.pointer (some ⟨β.b b,off+fd.offset,none⟩),?_,dQ,rfl⟩;simp only[execOp,ho,ex,Instr.fieldAt,underlying,Sem.run_bind,run_program,Result.andThen_ok,hu,Sem.run_pure,ajN,Instr.sureAddr,fieldPlace,run_sizeOf hn,BR,if_false,bK]
      ·rename_i s' wd z f0
       cases h
       refine .pure fun _ W aj β₀ β a w hr=>?_;obtain⟨ad,n',c,h1,h2,h3,ex⟩:=bf hx (aU hr x);refine⟨.pointer (some (ad.add (z.toNat*wd+(f0+fd.offset)))),?_,ad,n',c,h1,h2,h3,rfl⟩;simp only[execOp,ho,ex,Instr.fieldAt,underlying,Sem.run_bind,run_program,Result.andThen_ok,hu,Sem.run_pure,ajN,Instr.sureAddr,fieldPlace,run_sizeOf hn,BR,if_false,yA,Nat.add_assoc]
      ·cases h
    ·cases h
   ·cases h
  ·cases h
 case field s x f=>
  simp only[Ask.val]at h
  split at h
  ·rename_i l fs hx hf
   split at h
   ·rename_i fd hfd;obtain⟨y,hy,he⟩:=map_some h
    cases he
    refine .pure fun _ W aj β₀ β a w hr=>?_;have hd:=aU hr x;rw[hx]at hd;obtain⟨cs,ex,hd⟩:=hd;have hu:=yr hf;have ajN:fs.toArray[f]? =some fd:=(by simpa using hfd);obtain⟨val,h1,h2⟩:=jh (P:=P) (w:=w) hd hy;refine⟨val,?_,h2⟩;simp[execOp,ho,ex,Instr.field,underlying,hu,ajN,asAgg,h1]
   ·cases h
  ·cases h
 case indexAddr t x i=>
  split at h
  ·rename_i s hx;exact M3 ho hx h
  ·simp[Ask.val]at h
 case index t x i=>
  simp only[Ask.val]at h;obtain⟨r,MG,he⟩:=map_some h
  cases he
  exact aqA ho (by rw[MG])
 case extract x i=>
  simp only[Ask.val]at h
  split at h
  ·rename_i l hx;obtain⟨y,hy,he⟩:=map_some h
   cases he
   refine .pure fun _ W aj β₀ β a w hr=>?_;have hd:=aU hr x;rw[hx]at hd;obtain⟨cs,ex,hd⟩:=hd;obtain⟨val,h1,h2⟩:=hd.get hy;have h1':cs.toArray[i]? =some val:=(by simpa using h1);exact⟨val,by simp[execOp,ho,ex,Instr.extract,h1'],h2⟩
  ·cases h
end
def aaq(P:Program)(ty:Ty)(t:TypeId)(x:SV):Ask (Option (Bool×List ty.D)):=
 match dT P t with
 |some _=>iM ty x
 |none=>match P.underlying t with
  |some .string=>.ret (if h:Ty.int .u8=ty then(n6 x).map fun l=>(true,h▸(l.map fun n=>((UInt8.ofNat n.toNat).toNat:Int)))else none)
  |_=>.ret none
def aqH(P:Program)(t:TypeId)(x:SV):Ask (Option SI):=
 match x with
 | .gY (.slice _ n _)=>.ret ((dT P t).map fun _=>.lit n)
 | .slice _ _ n _=>.ret ((dT P t).map fun _=>.lit n)
 | .str l=>.ret (if P.underlying t matches some .string then some (.sym l.length)else none)
 | .gY (.string s)=>.ret (if P.underlying t matches some .string then some (.lit s.size)else none)
 |x=>match dT P t with
  |some _=>(iN x).map fun c=>c.map fun c=>.sym c.2.2.length
  |none=>.ret none
def u0(f:Int→Int→Int)(k:IntKind):SI→List SV→Option SI
 |x,[]=>some x
 |x,.int k' y::l=>if k'=k then u0 f k (map2 f x y) l else none
 |_,_=>none
def aar(x y:Int):Int:=if y<x then y else x
def aas(x y:Int):Int:=if y>x then y else x
def iC{α:Type}(l:List α)(z len:Nat)(m:List α):List α:=l.take z++(m.take len++l.drop (z+min len m.length))
def aat(P:Program)(id:Nat)(t u:TypeId)(s x:SV):Ask Stp:=
 match dT P t with
 |none=>.ret none
 |some el=>match BM P 8 el,cT P el,nF P el,n9 P el with
  |some ty,some sz,some z,some uP=>
   if sz=ty.w∧0<ty.w∧wL z=ty.w then
    (aaq P ty u x).bind fun c=>match c with
     |some (pm,m)=>if pm||ty.flat then
       match s with
       | .gY (.slice none 0 0)=>.ret (some (some (m.length*uP≤70368744177664∧m.length≤70368744177664),.one (.sc (.sl id 0)),[(id,.own 0 ty m)]))
       | .sl i ver=>.get i fun y=>.ret (match y with
        |some (.own ver' uO l)=>if h:uO=ty then(if ver=ver' then some (some ((l.length+m.length)*uP≤70368744177664∧l.length+m.length≤70368744177664),.one (.sc (.sl i (ver+1))),[(i,.own (ver+1) ty ((h▸l:List ty.D)++m))])else none)else none
        |_=>none)
       |_=>.ret none
      else .ret none
     |none=>.ret none
   else .ret none
  |_,_,_,_=>.ret none
def M5(P:Program)(id:Nat)(t u:TypeId)(s:SV)(n:Int):Ask Stp:=
 match dT P t,P.underlying u with
 |some el,some (.int _)=>match BM P 8 el,cT P el,nF P el,n9 P el with
  |some ty,some sz,some z,some uP=>
   if sz=ty.w∧0<ty.w∧wL z=ty.w then
    match ty.read true z with
    |some z0=>match s with
     | .gY (.slice none 0 0)=>.ret (some (some (0≤n∧n.toNat*uP≤70368744177664∧n.toNat≤70368744177664),.one (.sc (.sl id 0)),[(id,.own 0 ty (List.replicate n.toNat z0))]))
     | .sl i ver=>.get i fun y=>.ret (match y with
      |some (.own ver' uO l)=>if h:uO=ty then(if ver=ver' then some (some (0≤n∧(l.length+n.toNat)*uP≤70368744177664∧l.length+n.toNat≤70368744177664),.one (.sc (.sl i (ver+1))),[(i,.own (ver+1) ty ((h▸l:List ty.D)++List.replicate n.toNat z0))])else none)else none
      |_=>none)
     |_=>.ret none
    |none=>.ret none
   else .ret none
  |_,_,_,_=>.ret none
 |_,_=>.ret none
def M6(P:Program)(t u:TypeId)(d x:SV):Ask Stp:=
 match dT P t with
 |none=>.ret none
 |some el=>match BM P 8 el,cT P el with
  |some ty,some sz=>
   if sz=ty.w∧0<ty.w then
    (match dT P u with|some _=>iM ty x|none=>.ret none).bind fun c=>match c with
     |some (pm,m)=>if pm||ty.flat then
       match d with
       | .sl i ver=>.get i fun y=>.ret (match y with
        |some (.own ver' uO l)=>if h:uO=ty then(if ver=ver' then some (none,.one (.sc (.int .i64 (.sym (min m.length l.length:Nat)))),[(i,.own ver' ty (iC (h▸l) 0 l.length m))])else none)else none
        |_=>none)
       | .vw i ver w z n=>.get i fun y=>.ret (match y with
        |some (.own ver' uO l)=>if h:uO=ty then(if ver=ver'∧w=ty.w then some (none,.one (.sc (.int .i64 (.sym (min m.length n.toNat:Nat)))),[(i,.own ver' ty (iC (h▸l) z.toNat n.toNat m))])else none)else none
        |_=>none)
       | .vb b o' uO k z n=>.get b fun y=>.ret (match y with
        |some (.ba cells elem)=>match rowAt cells o' with
         |some (.arr aAW k' l)=>if h:aAW=ty then(if uO=ty∧k'=k then(jj cells o' (.arr ty k' (iC (h▸l) z.toNat n.toNat m))).map fun c=>(none,.one (.sc (.int .i64 (.sym (min m.length n.toNat:Nat)))),[(b,.ba c elem)])else none)else none
         |_=>none
        |_=>none)
       | .slice b o' n _=>.get b fun y=>.ret (match y with
        |some (.ba cells elem)=>match Vz cells o' (n*ty.w)with
         |some s=>match gp (ty.read true) ty.w n s with
          |some l=>(q5 cells o' ((List.range n).flatMap fun j=>ty.Cf true ((iC l 0 n m).getD j ty.z))).map fun c=>(none,.one (.sc (.int .i64 (.sym (min m.length n:Nat)))),[(b,.ba c elem)])
          |none=>none
         |none=>none
        |_=>none)
       |_=>.ret none
      else .ret none
     |none=>.ret none
   else .ret none
  |_,_=>.ret none
def ajO(P:Program)(id:Nat)(b:Builtin)(ts:List TypeId)(xs:List LV):Ask Stp:=
 match b,ts,xs with
 | .len,[t],[x]=>match iK x with
  |some x=>(aqH P t x).map fun n=>n.map fun n=>(none,.one (.sc (.int .i64 n)),[])
  |none=>.ret none
 | .append,[t,u],[s,x]=>match iK s,iK x with
  |some s,some (.int _ n)=>M5 P id t u s n.val
  |some s,some x=>aat P id t u s x
  |_,_=>.ret none
 | .copy,[t,u],[s,x]=>match iK s,iK x with
  |some s,some x=>M6 P t u s x
  |_,_=>.ret none
 | .min,_,x::l=>.ret (match iK x,cN iK l with
  |some (.int k x),some l=>(u0 aar k x l).map fun n=>(none,.one (.sc (.int k n)),[])
  |_,_=>none)
 | .max,_,x::l=>.ret (match iK x,cN iK l with
  |some (.int k x),some l=>(u0 aas k x l).map fun n=>(none,.one (.sc (.int k n)),[])
  |_,_=>none)
 |_,_,_=>.ret none
noncomputable section
variable {P:Program} {W:World} {aj:Hp} {β₀ β:Env} {hp:Hp} {w:World}
theorem VE{β:Env}{pm:Bool}{ty:Ty}{t e:TypeId}(hu:P.underlying t=some (.slice e)){v:Value}{m:List ty.D}(h:bG β pm w v ty m):
  ∃news,Src P ty.w t v m.length news w∧aV (ty.has β pm) m news:=by
 obtain⟨a,n,c,rfl,rfl,hc,_,hr⟩:=h;rcases Nat.eq_zero_or_pos m.length with h0|h0
 ·have:m= []:=List.eq_nil_of_length_eq_zero h0;subst this;refine⟨[],?_,.nil⟩
  cases a with
  |none=>exact Src.ofNil w hu c
  |some a=>exact Src.ofSlice w hu a 0 c [] (by simp) (fun j u h=>by simp at h) (fun u h=>by cases h)
 ·obtain⟨a0,ft,rfl,h1,h2,h3⟩:=hr h0;exact⟨ft,Src.ofSlice w hu a0 m.length c ft (bl h2) (fun j u hj=>h3 j u hj) (ka h2),h2⟩
theorem BT{β:Env}(l:List Int):aV ((Ty.int .u8).has β true) (l.map fun n=>((UInt8.ofNat n.toNat).toNat:Int)) (byteCells (strOf l)):=by
 have:byteCells (strOf l)=(l.map fun n=>((UInt8.ofNat n.toNat).toNat:Int)).map (Value.int .u8):=by
  simp[byteCells,strOf]
 rw[this];generalize (l.map fun n=>((UInt8.ofNat n.toNat).toNat:Int))=m
 induction m with
 |nil=>exact .nil
 |cons x m ih=>exact aV.cons (vs:= [_]) rfl ih
theorem aau(h:bd W aj β₀ β hp w){ty:Ty}{t:TypeId}{x:SV}{pm:Bool}{m:List ty.D}(hs:(aaq P ty t x).val hp=some (pm,m))(hf:(pm||ty.flat)=true){v:Value}(hd:x.den β (kd hp) v):
  ∃news,Src P ty.w t v m.length news w∧aV (ty.has β true) m news:=by
 unfold aaq at hs
 split at hs
 ·rename_i e me;obtain⟨news,h1,h2⟩:=VE (P:=P) (dK me) (l7 h hs hd);refine⟨news,h1,?_⟩
  cases pm with
  |true=>exact h2
  |false=>exact h2.imp fun _ _=>ty.qZ (by simpa using hf)
 ·split at hs
  ·rename_i hu;simp only[Ask.val]at hs
   split at hs
   ·rename_i e;subst e;obtain⟨l,hl,he⟩:=map_some hs
    cases he
    have hv:=iJ hl hd;subst hv;refine⟨byteCells (strOf l),?_,BT l⟩;have:=Src.ofString (P:=P) w hu (strOf l);rw[q4]at this;rw[List.length_map];exact this
   ·cases hs
  ·simp[Ask.val]at hs
theorem yC{el:TypeId}{z:List SV}{n:Nat}(hz:nF P el=some z)(hw:wL z=n):∃i zv,P.info? el=some i∧i.zero=some zv∧zv.cells.size=n:=by
 unfold nF at hz
 split at hz
 ·rename_i i lay hi _
  split at hz
  ·rename_i zv Ss;have:=(pG (β:=⟨fun _=>0,fun _=>.nilIface,fun _ _ _ _=>False⟩) (L:=fun _=>none) _ _ hz).length;exact⟨i,zv,hi,Ss,by simpa [hw]using this⟩
  ·cases hz
 ·cases hz
theorem yD{t u el ty_:TypeId}{ty:Ty}{z:List SV}{uP:Nat}(me:dT P t=some el)(hs:cT P el=some ty.w)(jf:0<ty.w)(hz:nF P el=some z)(hwz:wL z=ty.w)(MH:n9 P el=some uP)
  {hd:Value} {l m:List ty.D} (nW:dm β w hd ty l) {x:Value} {news:List Value} (BU:Src P ty.w u x m.length news w) (kZ:aV (ty.has β true) m news)
  (hb1:(l.length+m.length)*uP≤70368744177664) (sa:l.length+m.length≤70368744177664):
  ∃v' w',(Builtin.append_ #[t,u] ty_ #[hd,x]).run P w= .ok v' w'∧dm β w' v' ty (l++m)∧w.heap.size≤w'.heap.size∧w'.os=w.os∧w'.output=w.output∧
   (∀b,b<w.heap.size→¬ (∃a n c,hd= .slice (some a) n c∧0<c∧a.block=b)→w'.heap[b]? =w.heap[b]?)∧
   (∀a n c,v'= .slice (some a) n c→0<c→(∃n' c',hd= .slice (some a) n' c'∧0<c')∨w.heap.size≤a.block):=by
 obtain⟨base,n,c,rfl,hn,Sr,kg,eD⟩:=nW;have hu:=dK me;obtain⟨i,zv,hi,Ss,hzs⟩:=yC (P:=P) hz hwz;have his:i.size=ty.w:=by unfold cT at hs;rw[hi]at hs;simpa using hs
 have hib:i.bytes=uP:=by unfold n9 at MH;rw[hi]at MH;simpa using MH
 by_cases Iq:n+m.length≤c
 ·
  rcases Nat.eq_zero_or_pos c with h0|h0
  ·have Su:l= []:=List.eq_nil_of_length_eq_zero (by omega);have Cl:m= []:=List.eq_nil_of_length_eq_zero (by omega);subst Su Cl;have hnw:news= []:=(by cases kZ;rfl);subst hnw;refine⟨.slice base n c,w,?_,⟨base,n,c,rfl,hn,Sr,kg,eD⟩,Nat.le_refl _,rfl,rfl,fun _ _ _=>rfl,fun a n' c' e h=>by simp at e;omega⟩;have hle:n≤c:=Sr;have aav:=BU.cells;have hlen:=BU.len;have hr2:n+0≤c:=(by simpa using Sr);simp only[List.length_nil]at hlen aav;rcases BU.kind with⟨e',hk⟩|hk<;>cases base<;>simp[Builtin.append_,run_underlying hu,run_underlying hk,sizeOf,typeInfo,hi,his,hlen,aav,hle,storeCells]
  ·obtain⟨a0,pre,ft,rest,elem,fz,rfl,k1,k2,k3,k4,k5,k6⟩:=eD h0;have hnl:news.length=m.length*ty.w:=bl kZ;have hvl:ft.length=n*ty.w:=(by rw[bl k4,hn]);have hrl:m.length*ty.w≤rest.length:=Nat.le_trans (Nat.mul_le_mul_right _ (by omega)) k5
   obtain⟨w',r1,r2,r3,r4,r5,r6⟩:=dD (P:=P) (a:=a0.add (n*ty.w)) (lZ k1 _) (elem:=elem) (fz:=fz) news 0 (pre++ft) (rest.take (m.length*ty.w)) (rest.drop (m.length*ty.w)) w
    (by rw[dJ,k2];simp) (by
     obtain⟨b0,o0,s0⟩:=a0;simp at k1 k3;subst k1;rw[bK];simp[k3,hvl]) (by rw[hnl,List.length_take,Nat.min_eq_left hrl]) (ka kZ) (fun off q1 q2=>k6.not (by simp[hnl]at q2 ⊢;omega))
   rw[dJ]at r2 r3;refine⟨.slice (some a0) (n+m.length) c,w',?_,⟨some a0,n+m.length,c,rfl,by simp[hn],Iq,by simp,fun _=>⟨a0,pre,ft++news,rest.drop (m.length*ty.w),elem,fz,rfl,k1,?_,k3,k4.append kZ,?_,?_⟩⟩,by omega,r5,r6,fun b _ qK=>r3 b fun e=>qK ⟨a0,n,c,rfl,h0,e.symm⟩,fun a n' c' e _=>.inl (by simp at e;obtain⟨rfl,_,_⟩:=e;exact⟨n,c,rfl,h0⟩)⟩
   ·rcases BU.kind with⟨e',hk⟩|hk<;>simp[Builtin.append_,run_underlying hu,run_underlying hk,sizeOf,typeInfo,hi,his,BU.len,Iq,BU.cells,r1]
   ·rw[r2];simp
   ·rw[List.length_drop];have:(c-(n+m.length))*ty.w=(c-n)*ty.w-m.length*ty.w:=(by rw[← Nat.sub_sub,Nat.sub_mul]);omega
   ·have:(pre++((ft++news)++rest.drop (m.length*ty.w))).length=(pre++(ft++rest)).length:=(by simp[hnl];omega);rw[this];exact k6
 ·
  have hg:c<n+m.length:=by omega
  have VF:Builtin.nextslicecap (n+m.length) c*i.bytes≤281474976710656:=growslice_fits hg (by rw[hib,hn];omega)
  have holds:∃om,aV (ty.has β true) l om∧∀ (w':World),(∀b,b<w.heap.size→w'.heap[b]? =w.heap[b]?)→(Builtin.firstCells i.size n (.slice base n c)).run P w'= .ok om.toArray w':=by
   rcases Nat.eq_zero_or_pos c with h0|h0
   ·have Su:l= []:=List.eq_nil_of_length_eq_zero (by omega);have BR:n=0:=(by omega);subst Su BR;refine⟨[],.nil,fun w' _=>?_⟩
    cases base with
    |none=>simp[Builtin.firstCells]
    |some a=>simp[Builtin.firstCells,loadCells,loadCellsFrom]
   ·obtain⟨a0,pre,ft,rest,elem,fz,rfl,k1,k2,k3,k4,k5,k6⟩:=eD h0;refine⟨ft,k4,fun w' hw'=>?_⟩;have hvl:ft.length=n*i.size:=(by rw[bl k4,hn,his]);have dQ:a0.block<w.heap.size:=(Array.getElem?_eq_some_iff.1 k2).1;refine run_firstCells_some (P:=P) w' i.size n a0 n c ft hvl fun j u hj=>?_
    have hh:cV w a0 ft:=by
     have:=eA k2;obtain⟨b0,o0,s0⟩:=a0;simp at k1 k3;subst k1 k3;exact this
    exact hh.of (fun _=>hw' _ dQ) j u hj
  obtain⟨om,ho1,ho2⟩:=holds;have H7:Src P i.size u x m.length news w:=by rw[his];exact BU
  have eB:=run_append_grow_src (P:=P) w t u ty_ el i zv hu hi Ss base n c om (ho2 _ (fun _ _=>rfl)) x m.length news H7 hg (by omega) VF;have BQ:=grownCap_ge w (n+m.length) c el;have hzc:(Builtin.zeroCells zv.cells (grownCap w (n+m.length) c el-(n+m.length))).size=(grownCap w (n+m.length) c el-(n+m.length))*ty.w:=by simp[Builtin.zeroCells,hzs]
  generalize avu:grownCap w (n+m.length) c el=cap at eB BQ hzc
  have nN:((om++news).toArray++Builtin.zeroCells zv.cells (cap-(n+m.length)))=((om++news)++(Builtin.zeroCells zv.cells (cap-(n+m.length))).toList).toArray:=by
   apply Array.ext';simp
  rw[nN]at eB
  have gZ:=mf (β:=β) (w:=w.drew.alloc (.cells ((om++news)++(Builtin.zeroCells zv.cells (cap-(n+m.length))).toList).toArray el)) (b:=w.heap.size) (t:=ty) (l:=l++m) (elem:=el) (fz:=(0,0)) (c:=cap)
   (heap_alloc_new w.drew _) (ho1.append kZ) (by simp;omega) (Nat.le_of_eq (by rw[List.length_append,← hn];exact(Array.length_toList.trans hzc).symm)) (.inl rfl)
  refine⟨_,_,eB,?_,?_,rfl,rfl,fun b hb _=>heap_alloc_old w.drew _ b hb,fun a n' c' e _=>.inr (by simp at e;obtain⟨rfl,_,_⟩:=e;exact Nat.le_refl _)⟩
  ·rw[List.length_append,← hn]at gZ;exact gZ
  ·show w.heap.size≤(w.drew.alloc _).heap.size;rw[World.size_alloc];exact Nat.le_succ _
theorem sd{t u el ty_:TypeId}{ty:Ty}{z:List SV}{uP:Nat}(me:dT P t=some el)(hs:cT P el=some ty.w)(jf:0<ty.w)(hz:nF P el=some z)(hwz:wL z=ty.w)(MH:n9 P el=some uP)
  {hd:Value} {l:List ty.D} (nW:dm β w hd ty l) {kn kq:IntKind} (hku:P.underlying u=some (.int kn)) {z0:ty.D} (hz0:ty.read true z=some z0) (k:Nat)
  (hb1:(l.length+k)*uP≤70368744177664) (sa:l.length+k≤70368744177664):
  ∃v' w',(Builtin.append_ #[t,u] ty_ #[hd,.int kq k]).run P w= .ok v' w'∧dm β w' v' ty (l++List.replicate k z0)∧w.heap.size≤w'.heap.size∧w'.os=w.os∧w'.output=w.output∧
   (∀b,b<w.heap.size→¬ (∃a n c,hd= .slice (some a) n c∧0<c∧a.block=b)→w'.heap[b]? =w.heap[b]?)∧
   (∀a n c,v'= .slice (some a) n c→0<c→(∃n' c',hd= .slice (some a) n' c'∧0<c')∨w.heap.size≤a.block):=by
 obtain⟨base,n,c,rfl,hn,Sr,kg,eD⟩:=nW;have hu:=dK me;obtain⟨i,zv,hi,Ss,hzs⟩:=yC (P:=P) hz hwz;have his:i.size=ty.w:=by unfold cT at hs;rw[hi]at hs;simpa using hs
 have hib:i.bytes=uP:=by unfold n9 at MH;rw[hi]at MH;simpa using MH
 have hzr:(zeroValue el).run P w= .ok zv w:=by simp[zeroValue,typeInfo,hi,Ss]
 obtain⟨ZQ,avv,hzd⟩:=ob (P:=P) (w:=w) (β:=β) (L:=fun _=>none) hz;obtain rfl:ZQ=zv:=by rw[hzr]at avv;injection avv with e;exact e.symm
 have hzh:=ty.gK hz0 hzd;have kZ:aV (ty.has β true) (List.replicate k z0) ((List.replicate k ZQ.cells.toList).flatten):=yB hzh _
 have avw:∀m,Builtin.zeroCells ZQ.cells m=((List.replicate m ZQ.cells.toList).flatten).toArray:=fun m=>by
  rw[← lG m hzs];unfold Builtin.zeroCells;rw[hzs]
 have aqF:i64.wrap (k:Int)=k:=by rw[IntKind.wrap_i64];omega
 have aA0:¬ ((k:Int)<0):=by omega
 have aA1:¬ (281474976710656<(k:Int)*(i.bytes:Int)):=by
  rw[← Int.natCast_mul,hib];have:k*uP≤(l.length+k)*uP:=Nat.mul_le_mul_right _ (by omega);omega
 generalize hnw:(List.replicate k ZQ.cells.toList).flatten=news at kZ
 by_cases Iq:n+k≤c
 ·
  rcases Nat.eq_zero_or_pos c with h0|h0
  ·have Su:l= []:=List.eq_nil_of_length_eq_zero (by omega);have Cl:k=0:=(by omega);subst Su Cl;refine⟨.slice base n c,w,?_,⟨base,n,c,rfl,hn,Sr,kg,eD⟩,Nat.le_refl _,rfl,rfl,fun _ _ _=>rfl,fun a n' c' e h=>by simp at e;omega⟩;have hle:n≤c:=Sr;have hw0:i64.wrap 0=0:=rfl
   cases base<;>simp[Builtin.append_,run_underlying hu,run_underlying hku,sizeOf,typeInfo,hi,his,hle,storeCells,asInt,asIntOf,hw0]
  ·obtain⟨a0,pre,ft,rest,elem,fz,rfl,k1,k2,k3,k4,k5,k6⟩:=eD h0;have hnl:news.length=k*ty.w:=(by rw[bl kZ,List.length_replicate]);have hvl:ft.length=n*ty.w:=(by rw[bl k4,hn]);have hrl:k*ty.w≤rest.length:=Nat.le_trans (Nat.mul_le_mul_right _ (by omega)) k5
   obtain⟨w',r1,r2,r3,r4,r5,r6⟩:=dD (P:=P) (a:=a0.add (n*ty.w)) (lZ k1 _) (elem:=elem) (fz:=fz) news 0 (pre++ft) (rest.take (k*ty.w)) (rest.drop (k*ty.w)) w
    (by rw[dJ,k2];simp) (by
     obtain⟨b0,o0,s0⟩:=a0;simp at k1 k3;subst k1;rw[bK];simp[k3,hvl]) (by rw[hnl,List.length_take,Nat.min_eq_left hrl]) (ka kZ) (fun off q1 q2=>k6.not (by simp[hnl]at q2 ⊢;omega))
   rw[dJ]at r2 r3;refine⟨.slice (some a0) (n+k) c,w',?_,⟨some a0,n+k,c,rfl,by simp[hn],Iq,by simp,fun _=>⟨a0,pre,ft++news,rest.drop (k*ty.w),elem,fz,rfl,k1,?_,k3,k4.append kZ,?_,?_⟩⟩,by omega,r5,r6,fun b _ qK=>r3 b fun e=>qK ⟨a0,n,c,rfl,h0,e.symm⟩,fun a n' c' e _=>.inl (by simp at e;obtain⟨rfl,_,_⟩:=e;exact⟨n,c,rfl,h0⟩)⟩
   ·rcases Nat.eq_zero_or_pos k with hk0|hk0
    ·subst hk0;have hw0:i64.wrap 0=0:=rfl;have BR:news= []:=(by rw[← hnw];rfl);rw[BR]at r1;have aqL:n≤c:=Sr;simp[Builtin.append_,run_underlying hu,run_underlying hku,sizeOf,typeInfo,hi,his,aqL,r1,asInt,asIntOf,hw0]
    ·have hns:¬ (k*ty.w=0):=Nat.mul_ne_zero (by omega) (by omega);have hzk:Builtin.zeroCells ZQ.cells k=news.toArray:=(by rw[avw k,hnw]);simp[Builtin.append_,run_underlying hu,run_underlying hku,sizeOf,typeInfo,hi,Ss,zeroValue,his,Iq,r1,asInt,asIntOf,aqF,aA0,aA1,hns,hzk]
   ·rw[r2];simp
   ·rw[List.length_drop];have:(c-(n+k))*ty.w=(c-n)*ty.w-k*ty.w:=(by rw[← Nat.sub_sub,Nat.sub_mul]);omega
   ·have:(pre++((ft++news)++rest.drop (k*ty.w))).length=(pre++(ft++rest)).length:=(by simp[hnl];omega);rw[this];exact k6
 ·
  have hg:c<n+k:=by omega
  have VF:Builtin.nextslicecap (n+k) c*i.bytes≤281474976710656:=growslice_fits hg (by rw[hib,hn];omega)
  have holds:∃om,aV (ty.has β true) l om∧∀ (w':World),(∀b,b<w.heap.size→w'.heap[b]? =w.heap[b]?)→(Builtin.firstCells i.size n (.slice base n c)).run P w'= .ok om.toArray w':=by
   rcases Nat.eq_zero_or_pos c with h0|h0
   ·have Su:l= []:=List.eq_nil_of_length_eq_zero (by omega);have BR:n=0:=(by omega);subst Su BR;refine⟨[],.nil,fun w' _=>?_⟩
    cases base with
    |none=>simp[Builtin.firstCells]
    |some a=>simp[Builtin.firstCells,loadCells,loadCellsFrom]
   ·obtain⟨a0,pre,ft,rest,elem,fz,rfl,k1,k2,k3,k4,k5,k6⟩:=eD h0;refine⟨ft,k4,fun w' hw'=>?_⟩;have hvl:ft.length=n*i.size:=(by rw[bl k4,hn,his]);have dQ:a0.block<w.heap.size:=(Array.getElem?_eq_some_iff.1 k2).1;refine run_firstCells_some (P:=P) w' i.size n a0 n c ft hvl fun j u hj=>?_
    have hh:cV w a0 ft:=by
     have:=eA k2;obtain⟨b0,o0,s0⟩:=a0;simp at k1 k3;subst k1 k3;exact this
    exact hh.of (fun _=>hw' _ dQ) j u hj
  obtain⟨om,ho1,ho2⟩:=holds
  have eB:=Go.Lib.run_append_grow_zeros (P:=P) w t u ty_ el i ZQ kq kn hu hku hi Ss base n c om (ho2 _ (fun _ _=>rfl)) k (by omega) (by omega) hg (by omega) (by
   have:k*uP≤(l.length+k)*uP:=Nat.mul_le_mul_right _ (by omega);rw[hib];omega) VF
  rw[show(om.toArray++Builtin.zeroCells ZQ.cells k)=(om++news).toArray from by rw[avw k,hnw];simp]at eB;have BQ:=grownCap_ge w (n+k) c el;have hzc:(Builtin.zeroCells ZQ.cells (grownCap w (n+k) c el-(n+k))).size=(grownCap w (n+k) c el-(n+k))*ty.w:=by simp[Builtin.zeroCells,hzs]
  generalize avu:grownCap w (n+k) c el=cap at eB BQ hzc
  have nN:((om++news).toArray++Builtin.zeroCells ZQ.cells (cap-(n+k)))=((om++news)++(Builtin.zeroCells ZQ.cells (cap-(n+k))).toList).toArray:=by
   apply Array.ext';simp
  rw[nN]at eB
  have gZ:=mf (β:=β) (w:=w.drew.alloc (.cells ((om++news)++(Builtin.zeroCells ZQ.cells (cap-(n+k))).toList).toArray el)) (b:=w.heap.size) (t:=ty) (l:=l++List.replicate k z0) (elem:=el) (fz:=(0,0)) (c:=cap)
   (heap_alloc_new w.drew _) (ho1.append kZ) (by simp;omega) (Nat.le_of_eq (by rw[List.length_append,List.length_replicate,← hn];exact(Array.length_toList.trans hzc).symm)) (.inl rfl)
  refine⟨_,_,eB,?_,?_,rfl,rfl,fun b hb _=>heap_alloc_old w.drew _ b hb,fun a n' c' e _=>.inr (by simp at e;obtain⟨rfl,_,_⟩:=e;exact Nat.le_refl _)⟩
  ·rw[List.length_append,List.length_replicate,← hn]at gZ;exact gZ
  ·show w.heap.size≤(w.drew.alloc _).heap.size;rw[World.size_alloc];exact Nat.le_succ _
end
noncomputable section
variable {P:Program} {W:World} {aj:Hp} {β₀ β:Env} {hp:Hp} {w:World}
theorem D4{α:Type}(l:List α)(z len:Nat)(m:List α):iC l z len m=l.take z++(m.take (min m.length len)++l.drop (z+min m.length len)):=by
 unfold iC;rw[Nat.min_comm len m.length]
 congr 2
 rcases Nat.le_total m.length len with h|h
 ·rw[Nat.min_eq_left h,List.take_of_length_le h,List.take_length]
 ·rw[Nat.min_eq_right h]
theorem oo{α:Type}{l:List α}{z len:Nat}{m:List α}(h:z+len≤l.length):(iC l z len m).length=l.length:=by
 rw[D4];simp only[List.length_append,List.length_take,List.length_drop];omega
theorem se{β:Env}{pm:Bool}{t u el e' ty_:TypeId}{ty:Ty}(me:dT P t=some el)(hu:dT P u=some e')(hs:cT P el=some ty.w){v:Value}{m:List ty.D}(hr:bG β pm w v ty m)(D5 c:Nat):
  ∃ws,aV (ty.has β pm) (m.take (min m.length D5)) ws∧∀ (base:Option Addr) (w':World),(∀a,base=some a→(storeCells a ws).run P w= .ok () w')→(base=none→w'=w)→
   (Builtin.copy_ #[t,u] ty_ #[.slice base D5 c,v]).run P w= .ok (.int .i64 ((min m.length D5:Nat):Int)) w':=by
 obtain⟨a,n,c',rfl,rfl,hc,_,eD⟩:=hr
 have key:∃ws,aV (ty.has β pm) (m.take (min m.length D5)) ws∧(Builtin.firstCells ty.w (min m.length D5) (.slice a m.length c')).run P w= .ok ws.toArray w:=by
  rcases Nat.eq_zero_or_pos m.length with h0|h0
  ·have:m= []:=List.eq_nil_of_length_eq_zero h0;subst this;refine⟨[],by simpa using aV.nil,?_⟩
   cases a with
   |none=>simp[Builtin.firstCells]
   |some a=>simp[Builtin.firstCells,loadCells,loadCellsFrom]
  ·obtain⟨a0,ft,rfl,h1,h2,h3⟩:=eD h0;obtain⟨v1,v2,rfl,k1,k2⟩:=gU h2 (min m.length D5);refine⟨v1,k1,?_⟩;have hl:v1.length=min m.length D5*ty.w:=(by rw[bl k1,List.length_take];congr 1;omega);have hh:cV w a0 v1:=fun i x hi=>h3 i x (by rw[List.getElem?_append_left (List.getElem?_eq_some_iff.1 hi).1];exact hi);have:=kW (P:=P) hh;rw[hl]at this;exact this
 obtain⟨ws,h1,h2⟩:=key;refine⟨ws,h1,fun base w' hw hn=>?_⟩;have VG:Nat.min m.length D5=min m.length D5:=rfl;unfold Builtin.copy_;simp only[List.getElem?_toArray,List.getElem?_cons_zero,List.getElem?_cons_succ,Sem.run_bind,run_underlying (dK me),Result.andThen_ok,Builtin.lenOf,Sem.run_pure,run_sizeOf hs,VG,h2]
 cases base with
 |none=>rw[hn rfl];rfl
 |some a=>simp only[Sem.run_bind,hw a rfl];rfl
theorem u3{β:Env}{ty:Ty}{l m:List ty.D}{z len:Nat}{ft ws:List Value}(h:aV (ty.has β true) l ft)(hz:z+len≤l.length)(hw:aV (ty.has β true) (m.take (min m.length len)) ws):
  ∃p old r,ft=p++(old++r)∧p.length=z*ty.w∧old.length=ws.length∧aV (ty.has β true) (iC l z len m) (p++(ws++r)):=by
 obtain⟨p,v2,rfl,k1,k2⟩:=gU h z;obtain⟨old,r,rfl,k3,k4⟩:=gU k2 (min m.length len);refine⟨p,old,r,rfl,?_,?_,?_⟩
 ·rw[bl k1,List.length_take,Nat.min_eq_left (by omega)]
 ·rw[bl k3,bl hw,List.length_take,List.length_take,List.length_drop]
  congr 1;omega
 ·rw[D4];rw[List.drop_drop]at k4;exact k1.append (hw.append k4)
theorem bd.Sv(h:bd W aj β₀ β hp w){i ver:Nat}{t:Ty}{l m:List t.D}(hi:hp[i]? =some (some (.own ver t l))){a:Option Addr}{n c:Nat}(he:β.h i= .slice a n c){z len:Nat}(hz:z+len≤l.length)
  {ws:List Value} (hw:aV (t.has β true) (m.take (min m.length len)) ws):
  ∃w' β',(∀a0,a=some a0→(storeCells (a0.add (z*t.w)) ws).run P w= .ok () w')∧(a=none→w'=w)∧(ws= []→w'=w)∧bd W aj β₀ β' (setAt hp i (.own ver t (iC l z len m))) w'∧bH β β' (kd hp) (kd (setAt hp i (.own ver t (iC l z len m)))):=by
 have ZN:dm β w (β.h i) t l:=h.items _ _ hi;have aA2:=ZN;obtain⟨a',n',c',e,hn1,hn2,kg,h4⟩:=ZN;rw[he]at e;simp at e;obtain⟨rfl,rfl,rfl⟩:=e;rcases Nat.eq_zero_or_pos c with hc|hc
 ·have Su:l= []:=List.eq_nil_of_length_eq_zero (by omega);subst Su;have hlen:len=0:=by simp at hz;omega
  subst hlen
  have hws:ws= []:=by
   have:=bl hw;simp only[Nat.min_zero,List.take_zero,List.length_nil,Nat.zero_mul]at this;exact List.eq_nil_of_length_eq_zero this
  subst hws;have VH:iC ([]:List t.D) z 0 m= []:=by rw[D4];simp
  rw[VH];obtain⟨β',s1,s2,_⟩:=h.uZ hi (ver':=ver) (l':= []) (v:=β.h i) (w':=w) (.inr ⟨rfl,rfl⟩) (Nat.le_refl _) rfl rfl (fun _ _ _=>rfl) aA2 (fun a n c e h0=>.inl ⟨a,n,c,e,h0,rfl⟩);exact⟨w,β',fun a0 _=>rfl,fun _=>rfl,fun _=>rfl,s1,s2⟩
 ·obtain⟨a0,pre,ft,rest,elem,fz,rfl,k1,k2,k3,k4,k5,k6⟩:=h4 hc;obtain⟨p,old,r,rfl,e1,e2,h9⟩:=u3 k4 hz hw
  obtain⟨w',r1,r2,r3,r4,r5,r6⟩:=dD (P:=P) (a:=a0.add (z*t.w)) (lZ k1 _) (elem:=elem) (fz:=fz) ws 0 (pre++p) old (r++rest) w
   (by rw[dJ,k2];simp) (by
    obtain⟨b0,o0,s0⟩:=a0;simp at k1 k3;subst k1;rw[bK];simp[k3,e1]) e2 (ka hw) (fun off q1 q2=>k6.not (by simp at q2 ⊢;omega))
  rw[dJ]at r2 r3
  obtain⟨β',s1,s2,s3⟩:=h.uZ hi (ver':=ver) (l':=iC l z len m) (v:=β.h i) (w':=w') (.inr ⟨rfl,rfl⟩) (by omega) r5 r6 (fun b hb qK=>by
    refine r3 b fun e=>qK ?_;subst e;exact⟨a0,n,c,he,hc,rfl⟩)
   (by
    rw[he];refine⟨some a0,n,c,rfl,by rw[oo hz];exact hn1,hn2,by simp,fun _=>⟨a0,pre,p++(ws++r),rest,elem,fz,rfl,k1,?_,k3,h9,k5,?_⟩⟩
    ·rw[r2];simp
    ·have:(pre++(p++(ws++r)++rest)).length=(pre++(p++(old++r)++rest)).length:=(by simp[e2]);rw[this];exact k6)
   (fun a n c e h0=>.inl ⟨a,n,c,e,h0,rfl⟩)
  refine⟨w',β',fun a1 e=>by simp at e;subst e;exact r1,fun e=>(by cases e),fun e=>?_,s1,s2⟩;subst e;have:(storeCells (a0.add (z*t.w)) []).run P w= .ok () w:=rfl;rw[this]at r1;cases r1;rfl
theorem bd.ajQ(h:bd W aj β₀ β hp w){b o:Nat}{t:Ty}{k:Nat}{cells cells':List SV}{elem:TypeId}{l m:List t.D}(hi:hp[b]? =some (some (.ba cells elem)))(ji:rowAt cells o=some (.arr t k l)){z len:Nat}(hz:z+len≤k)
  (q6:jj cells o (.arr t k (iC l z len m))=some cells') {ws:List Value} (hw:aV (t.has β true) (m.take (min m.length len)) ws):
  ∃w',(storeCells ((⟨β.b b,o,none⟩:Addr).add (z*t.w)) ws).run P w= .ok () w'∧(ws= []→w'=w)∧bd W aj β₀ β (setAt hp b (.ba cells' elem)) w'∧bH β β (kd hp) (kd (setAt hp b (.ba cells' elem))):=by
 obtain⟨cs,fz,g1,g2,g3,_⟩:=h.fL hi
 have hlk:l.length=k:=by
  obtain⟨_,_,_,_,_,hh,_⟩:=oc _ _ ji g3;exact hh
 obtain⟨pre,mid,post,rfl,e3,_,h6,h7⟩:=kX _ _ ji q6 g3 (by rw[oo (by omega)];exact hlk);obtain⟨p,old,r,rfl,e1,e2,h9⟩:=u3 (z:=z) (len:=len) h6 (by rw[hlk];exact hz) hw
 obtain⟨w',r1,r2,r3,r4,r5,r6⟩:=dD (P:=P) (a:=⟨β.b b,o+z*t.w,none⟩) rfl (elem:=elem) (fz:=fz) ws 0 (pre++p) old (r++post) w
  (by rw[g1];simp) (by simp[e3,e1]) e2 (ka hw) (fun off q1 q2=>g2.not (by simp at q2 ⊢;omega))
 obtain⟨s1,s2⟩:=h.D1 hi (cells':=cells') (w':=w') (by omega) r5 r6 r3 (c:=pre++((p++(ws++r))++post)) (fz:=fz)
  (by rw[r2];simp) (by
   have:(pre++((p++(ws++r))++post)).length=(pre++((p++(old++r))++post)).length:=(by simp[e2]);rw[this];exact g2) (h7 _ h9)
 refine⟨w',by rw[bK];exact r1,fun e=>?_,s1,s2⟩;subst e;have:(storeCells ⟨β.b b,o+z*t.w,none⟩ []).run P w= .ok () w:=rfl;rw[this]at r1;cases r1;rfl
theorem wJ{L:Nat→Option Kd}{ty:Ty}:∀ {l:List ty.D} {vs:List Value},aV (ty.has β true) l vs→a8 β L (l.flatMap (ty.Cf true)) vs
 | [],_,h=>by cases h;exact .nil
 |x::l,_,.cons h t=>by rw[List.flatMap_cons];exact(ty.lF h).append (wJ t)
theorem yE{α:Type}(l:List α)(d:α):(List.range l.length).map (fun j=>l.getD j d)=l:=by
 apply List.ext_getElem
 ·simp
 ·intro i h1 h2;simp at h1 ⊢;simp[h1]
theorem ajR{st:St}{a:Act}(hr:Rel W aj β₀ β st a w){t u ty_:TypeId}{d x:SV}{q:Option Prop}{v:LV}{dl:List (Nat×Item)}(h:(M6 P t u d x).val st.hp=some (q,v,dl)){dv xv:Value}(hd:d.den β (kd st.hp) dv)(hx:x.den β (kd st.hp) xv):
  ∃ (β':Env) (w':World) (val:Value),(Builtin.copy_ #[t,u] ty_ #[dv,xv]).run P w= .ok val w'∧v.den β' (kd (aI dl st.hp)) val∧bd W aj β₀ β' (aI dl st.hp) w'∧bH β β' (kd st.hp) (kd (aI dl st.hp)):=by
 unfold M6 at h
 split at h
 ·simp[Ask.val]at h
 rename_i el me
 split at h
 rotate_left
 ·simp[Ask.val]at h
 rename_i ty sz hty hs
 split at h
 rotate_left
 ·simp[Ask.val]at h
 rename_i ke;obtain⟨rfl,jf⟩:=ke;rw[Ask.dZ]at h
 split at h
 rotate_left
 ·simp[Ask.val]at h
 rename_i pm m hc
 split at h
 rotate_left
 ·simp[Ask.val]at h
 rename_i hf
 have hu:∃e',dT P u=some e'∧(iM ty x).val st.hp=some (pm,m):=by
  split at hc
  ·rename_i e' he;exact⟨e',he,hc⟩
  ·simp[Ask.val]at hc
 obtain⟨e',hu,hc⟩:=hu;have oh:=l7 hr.heap hc hx
 have Sw:∀ {k:Nat} {ws:List Value},aV (ty.has β pm) (m.take k) ws→aV (ty.has β true) (m.take k) ws:=by
  intro k ws hh
  cases pm with
  |true=>exact hh
  |false=>exact hh.imp fun _ _=>ty.qZ (by simpa using hf)
 split at h
 ·
  rename_i i ver;simp only[Ask.val]at h
  split at h
  ·rename_i ver' uO l hi
   split at h
   ·rename_i e;subst e
    split at h
    ·rename_i e;subst e
     cases h
     obtain⟨nW,hh⟩:=hr.heap.og (p:=fun v=>dv=v) (aB hi) hd.2;obtain⟨base,n,c,e1,hn,_⟩:=nW;obtain⟨ws,k1,k2⟩:=se (ty_:=ty_) me hu hs oh n c;rw[hn]at k1;obtain⟨w',β',r1,r2,_,r3,r4⟩:=hr.heap.Sv (P:=P) (aB hi) e1 (z:=0) (len:=l.length) (by omega) (Sw k1);have eB:=k2 base w' (fun a0 e=>by have:=r1 a0 e;rw[Nat.zero_mul]at this;exact this) r2;refine⟨β',w',_,by rw[hh,e1];exact eB,?_,r3,r4⟩;rw[hn];rfl
    ·cases h
   ·cases h
  ·cases h
 ·
  rename_i i ver w0 z n;simp only[Ask.val]at h
  split at h
  ·rename_i ver' uO l hi
   split at h
   ·rename_i e;subst e
    split at h
    ·rename_i e;obtain⟨rfl,rfl⟩:=e
     cases h
     obtain⟨nW,hh⟩:=hr.heap.og (p:=fun v=>wy v uO.w z n dv) (aB hi) hd.2;obtain⟨base,n1,c1,e1,hn,_⟩:=nW;obtain⟨a2,m2,c2,a3,c3,e2,z0,n0,hle,rfl,_,_,r9⟩:=hh;rw[e1]at e2;simp at e2;obtain⟨rfl,rfl,rfl⟩:=e2;obtain⟨ws,k1,k2⟩:=se (ty_:=ty_) me hu hs oh n.toNat c3;obtain⟨w',β',r1,r2,r0,r3,r4⟩:=hr.heap.Sv (P:=P) (aB hi) e1 (z:=z.toNat) (len:=n.toNat) (by omega) (Sw k1);refine⟨β',w',_,k2 a3 w' (fun a0 e=>?_) (fun e=>?_),rfl,r3,r4⟩
     ·rcases Int.lt_or_le 0 n with h0|h0
      ·obtain⟨a4,e4,e5⟩:=r9 h0;rw[e]at e5;simp at e5;subst e5;exact r1 _ e4
      ·have:ws= []:=by
        have:=bl k1;rw[show n.toNat=0 from by omega]at this;simp at this;exact this
       subst this;rw[r0 rfl];rfl
     ·rcases Int.lt_or_le 0 n with h0|h0
      ·obtain⟨a4,e4,e5⟩:=r9 h0;rw[e]at e5;cases e5
      ·have:ws= []:=by
        have:=bl k1;rw[show n.toNat=0 from by omega]at this;simp at this;exact this
       exact r0 this
    ·cases h
   ·cases h
  ·cases h
 ·
  rename_i b o' ty0 k z n;simp only[Ask.val]at h
  split at h
  ·rename_i cells elem hi
   split at h
   ·rename_i uO k' l ji
    split at h
    ·rename_i e;subst e
     split at h
     ·rename_i e;obtain⟨rfl,rfl⟩:=e;obtain⟨cells',q6,he⟩:=map_some h
      cases he
      obtain⟨hb,z0,n0,zn,a3,c3,rfl,_,_,r9⟩:=hd;obtain⟨ws,k1,k2⟩:=se (ty_:=ty_) me hu hs oh n.toNat c3;obtain⟨w',r1,r0,r3,r4⟩:=hr.heap.ajQ (P:=P) (aB hi) ji (z:=z.toNat) (len:=n.toNat) (by omega) q6 (Sw k1);refine⟨β,w',_,k2 a3 w' (fun a0 e=>?_) (fun e=>?_),rfl,r3,r4⟩
      ·rcases Int.lt_or_le 0 n with h0|h0
       ·have e5:=r9 h0;rw[e]at e5;simp at e5;subst e5;exact r1
       ·have:ws= []:=by
         have:=bl k1;rw[show n.toNat=0 from by omega]at this;simp at this;exact this
        subst this;rw[r0 rfl];rfl
      ·rcases Int.lt_or_le 0 n with h0|h0
       ·have e5:=r9 h0;rw[e]at e5;cases e5
       ·have:ws= []:=by
         have:=bl k1;rw[show n.toNat=0 from by omega]at this;simp at this;exact this
        exact r0 this
     ·cases h
    ·cases h
   ·cases h
  ·cases h
 ·
  rename_i b o' n cp;simp only[Ask.val]at h
  split at h
  ·rename_i cells elem hi
   split at h
   ·rename_i s VC
    split at h
    ·rename_i l hl;obtain⟨cells',Z5,he⟩:=map_some h
     cases he
     obtain⟨hb,rfl⟩:=hd;obtain⟨ws,k1,k2⟩:=se (ty_:=ty_) me hu hs oh n cp;obtain⟨cs,fz,g1,g2,g3,_⟩:=hr.heap.fL (aB hi);obtain⟨pre,mid,post,e1,e2,e3,h4⟩:=pC VC g3;obtain⟨h5,h6⟩:=jg (R:=ty.has β true) (fun a x vs h hd=>ty.gK h hd) _ hl h4;obtain⟨p,old,r,e4,e5,e6,h9⟩:=u3 h5 (z:=0) (len:=n) (by omega) (Sw k1);have Cm:p= []:=List.eq_nil_of_length_eq_zero (by rw[e5];simp);subst Cm
     have aA3:a8 β (kd st.hp) ((List.range n).flatMap fun j=>ty.Cf true ((iC l 0 n m).getD j ty.z)) (ws++r):=by
      have:((List.range n).flatMap fun j=>ty.Cf true ((iC l 0 n m).getD j ty.z))=(iC l 0 n m).flatMap (ty.Cf true):=by
       have hlen:(iC l 0 n m).length=n:=by rw[oo (by omega)];exact h6
       conv=>rhs;rw[← yE (iC l 0 n m) ty.z,hlen]
       rw[List.flatMap_map]
      rw[this];exact wJ (by simpa using h9)
     obtain⟨aA4,r8,avy,f1,f2,f3,f4⟩:=pD Z5 _ _ g3 aA3
     have M1:pre=aA4∧mid=r8∧post=avy:=by
      have hml:mid.length=r8.length:=by
       rw[f3,e4];simp[e6]
      rw[e1]at f1;obtain⟨g,g'⟩:=List.append_inj f1 (by rw[e2,f2]);obtain⟨g4,g5⟩:=List.append_inj g' hml;exact⟨g,g4,g5⟩
     obtain⟨rfl,rfl,rfl⟩:=M1;subst e4
     obtain⟨w',r1,r2,r3,r4,r5,r6⟩:=dD (P:=P) (a:=⟨β.b b,o',none⟩) rfl (elem:=elem) (fz:=fz) ws 0 pre old (r++post) w
      (by rw[g1,e1];simp) (by simp[e2]) e6 (ka k1) (fun off q1 q2=>g2.not (by rw[e1];simp at q2 ⊢;omega))
     obtain⟨s1,s2⟩:=hr.heap.D1 (aB hi) (cells':=cells') (w':=w') (by omega) r5 r6 r3 (c:=pre++((ws++r)++post)) (fz:=fz)
      (by rw[r2];simp) (by
       have:(pre++((ws++r)++post)).length=cs.length:=(by rw[e1];simp[e6]);rw[this];exact g2) f4
     exact⟨β,w',_,k2 _ w' (fun a0 e=>by simp at e;subst e;exact r1) (fun e=>by cases e),rfl,s1,s2⟩
    ·cases h
   ·cases h
  ·cases h
 ·simp[Ask.val]at h
end
end Go.Ev
end
