/- What the laws lean on, part 3: a reader of code, plain facts, and what each function gives; no conditions. -/
import Derived.Laws.BitsLemmas
import Derived.Laws.NewFold
import Derived.Deep.AppendSrc
import Derived.Lib.AppendZerosOnto
import Derived.Test.YtliehnnljilacaaGreatA2
noncomputable section
open Go.IntKind (i64 signed u16 u32 u64 wrap wrap_u32)
set_option linter.unusedVariables false
set_option linter.unusedSimpArgs false
namespace Go.Ev
open Go
theorem CW(a:Addr)(i j:Nat):(a.add i).add j=a.add (i+j):=by
 obtain⟨b,o,s⟩:=a;by_cases hi:i=0
 ·subst hi;have:(⟨b,o,s⟩:Addr).add 0=⟨b,o,s⟩:=if_pos rfl;rw[this,Nat.zero_add]
 ·have:(⟨b,o,s⟩:Addr).add i=⟨b,o+i,none⟩:=if_neg hi;rw[this,dN];unfold Addr.add;rw[if_neg (by omega),Nat.add_assoc]
theorem wrap_small{n:Int}(h0:0≤n)(h1:n≤9223372036854775807):i64.wrap n=n:=by rw[IntKind.wrap_i64];omega
theorem ot{P:Program}{w:World}{a:Addr}{cs:List Value}{elem:TypeId}{fz:Nat×Nat}(h:w.heap[a.block]? =some (.cells cs.toArray elem fz))(hf:CI fz cs.length):∃w' fz',(markStringish a).run P w= .ok () w'∧w'.heap[a.block]? =some (.cells cs.toArray elem fz')∧CI fz' cs.length∧(∀b,b≠a.block→w'.heap[b]? =w.heap[b]?)∧w'.heap.size=w.heap.size∧w'.os=w.os∧w'.output=w.output:=by
 have hsh:w.shape? a.block=some (elem,cs.length):=by simp[World.shape?,h]
 refine⟨w.freeze ⟨a.block,cs.length,none⟩ 1,if fz.1==fz.2 then(cs.length,cs.length+1)else(min fz.1 cs.length,max fz.2 (cs.length+1)),?_,?_,?_,?_,?_,?_,?_⟩
 ·simp[markStringish,hsh]
 ·obtain⟨lo,hi⟩:=fz;simp only[World.freeze,Nat.one_ne_zero,if_false,Array.getElem?_modify,if_true,h];rfl
 ·unfold CI at hf ⊢;split
  ·exact .inr (Nat.le_refl _)
  ·rename_i ko;have:fz.1≠fz.2:=(by simpa using ko);right;simp only;omega
 ·intro b hb;simp only[World.freeze,Nat.one_ne_zero,if_false,Array.getElem?_modify];rw[if_neg (fun e=>hb e.symm)]
 ·simp[World.freeze]
 ·simp[World.freeze]
 ·simp[World.freeze]
theorem Ow{z:List Value}{s:Nat}(hz:z.length=s)(d:Value):∀n:Nat,(List.range (n*s)).map (fun i=>z.getD (i%s) d)=(List.replicate n z).flatten
 |0=>by simp
 |n+1=>by
  rw[Nat.succ_mul,List.range_add,List.map_append,Ow hz d n,List.replicate_succ',List.flatten_append];congr 1;rw[List.map_map];simp only[List.flatten_cons,List.flatten_nil,List.append_nil];apply List.ext_getElem
  ·simp[hz]
  ·intro i h1 h2;have hi:i<s:=(by simpa using h1);simp[List.getD,Nat.add_mod,Nat.mod_eq_of_lt hi,hz,hi]
theorem Ox{β:Env}{L:Nat→Option Kd}{z:List SV}{zc:List Value}(h:dc β L z zc):∀n:Nat,dc β L ((List.replicate n z).flatten) ((List.replicate n zc).flatten)
 |0=>.nil
 |n+1=>by simp only[List.replicate_succ,List.flatten_cons];exact h.append (Ox h n)
theorem CX{α:Type}{R:α→List Value→Prop}{x:α}{zc:List Value}(h:R x zc):∀n:Nat,cI R (List.replicate n x) ((List.replicate n zc).flatten)
 |0=>.nil
 |n+1=>by simp only[List.replicate_succ,List.flatten_cons];exact .cons h (CX h n)
theorem oS{z:Value}{s:Nat}(n:Nat)(hz:z.cells.size=s):(Array.range (n*s)).map (fun i=>z.cells[i%z.cells.size]!)=((List.replicate n z.cells.toList).flatten).toArray:=by
 apply Array.ext';rw[← Ow (z:=z.cells.toList) (s:=s) (by simpa using hz) default n,hz];simp only[Array.toList_map,Array.toList_range];apply List.map_congr_left;intro i _;simp[Array.getElem!_eq_getD,Array.getD_eq_getD_getElem?,List.getD]
noncomputable section
variable {P:Program} {st:St} {o:Oper} {q:Option Prop} {v:LV} {d:List (Nat×bE)}
theorem pF{β:Env}{w:World}{b:Nat}{t:Ty}{l:List t.D}{gq rest:List Value}{elem:TypeId}{fz:Nat×Nat}{c:Nat}(hw:w.heap[b]? =some (.cells (gq++rest).toArray elem fz))(hl:cI (t.has β true) l gq)
  (hc:l.length≤c) (hr:(c-l.length)*t.w≤rest.length) (hf:CI fz (gq++rest).length):eY β w (.slice (some ⟨b,0,none⟩) l.length c) t l:=
 ⟨_,_,_,rfl,rfl,hc,by simp,fun _=>⟨_,[],gq,rest,elem,fz,rfl,rfl,by simpa using hw,rfl,hl,hr,by simpa using hf⟩⟩
theorem aq4{id:Nat}{src dst:TypeId}{x:Operand}{s:SV}(ho:o.op= .convert src dst x)(hx:lr (ev st x)=some s)(h:(R8 P id src dst s).val st.hp=some (q,v,d))(rA:(∃x,(id,x)∈d)→kd st.hp id=none):gn P o st q v d:=by
 unfold R8 at h;split at h
 ·rename_i d' k hs AF;simp only[Ask.val]at h;split at h
  ·rename_i k' n;simp at h;obtain⟨rfl,rfl,rfl⟩:=h;refine gn.pure fun _ W bP β₀ β a w hr=>?_;have e:a.eval x= .int k' n.val:=cX hx (cF hr x);refine⟨.int k (k.wrap n.val),by simp[execOp,ho,e,convert,run_underlying hs,run_underlying AF,Conv.intToInt],?_⟩;show Value.int k (k.wrap n.val)= .int k (afc k n).val;rw[abX]
  ·cases h
 ·rename_i d' hs AF;simp only[Ask.val]at h;split at h
  ·rename_i k' n;simp at h;obtain⟨rfl,rfl,rfl⟩:=h;refine gn.pure fun _ W bP β₀ β a w hr=>?_;have e:a.eval x= .int k' n.val:=cX hx (cF hr x);exact⟨.float .f64 (uM n.val),by simp[execOp,ho,e,convert,run_underlying hs,run_underlying AF,Conv.intToFloat,uM],rfl⟩
  ·cases h
 ·rename_i e hs AF;split at h
  ·rename_i he;rw[Ask.fc]at h;obtain⟨⟨pm,l⟩,hc,he2⟩:=map_some h;simp at he2;obtain⟨rfl,rfl,rfl⟩:=he2;refine gn.pure fun _ W bP β₀ β a w hr=>?_;have r8:=pC hr.heap hc (cX hx (cF hr x));have gp:=run_bytesToString (P:=P) r8;obtain⟨aa,n,c,e1,_⟩:=r8;refine⟨_,?_,rfl⟩;rw[e1]at gp;simp[execOp,ho,e1,convert,run_underlying hs,run_underlying AF,run_underlying he,gp]
  ·simp[Ask.val]at h
 ·rename_i hs AF;simp only[Ask.val]at h;split at h
  ·rename_i l hl;simp at h;obtain⟨rfl,rfl,rfl⟩:=h;refine gn.pure fun _ W bP β₀ β a w hr=>?_;have e:=lq hl (cX hx (cF hr x));exact⟨.string (strOf l),by simp[execOp,ho,e,convert,run_underlying hs,run_underlying AF],rfl⟩
  ·cases h
 ·rename_i e hs AF;simp only[Ask.val]at h;split at h
  ·rename_i l he hl;split at h
   ·rename_i hsz;cases h;have rA:=rA ⟨_,by simp;rfl⟩;intro _ W bP β₀ β a w hr;have ex:=lq hl (cX hx (cF hr x))
    let s:=strOf l
    have hlen:s.size=l.length:=uH l
    let cap:=(Question.appendCap s.size 0 e).cut (w.tape w.drawn (.appendCap s.size 0 e))
    have F7:s.size≤cap:=by simp[cap,Question.cut]
    let gq:List Value:=(l.map fun n=>((UInt8.ofNat n.toNat).toNat:Int)).map (.int .u8)
    let rest:List Value:=List.replicate (cap-s.size) (.int .u8 0)
    let w1:=w.drew.alloc (.cells (gq++rest).toArray e)
    have hw1:w1.heap[w.heap.size]? =some (.cells (gq++rest).toArray e (0,0)):=heap_alloc_new w.drew _;obtain⟨w2,fz',r1,r2,r3,r4,r5,r6,r7⟩:=ot (P:=P) (a:=⟨w.heap.size,0,none⟩) hw1 (.inl rfl);have aW9:cI ((Ty.int .u8).has β true) (l.map fun n=>((UInt8.ofNat n.toNat).toNat:Int)) gq:=by
     show cI _ _ (List.map _ (List.map _ l));generalize (l.map fun n=>((UInt8.ofNat n.toNat).toNat:Int))=m;induction m with
     |nil=>exact .nil
     |cons x m ih=>exact cI.cons (vs:= [_]) rfl ih
    have kr:=pF (c:=cap) r2 aW9 (by simp;omega) (by simp[rest,Ty.w];omega) r3;have hll:(l.map fun n=>((UInt8.ofNat n.toNat).toNat:Int)).length=s.size:=(by simp[hlen]);rw[hll]at kr
    obtain⟨β',h1,h2,h3⟩:=hr.heap.rZ rA (ver:=0) (w':=w2) (by rw[r5];show w.heap.size≤(w.drew.alloc _).heap.size;rw[World.size_alloc];exact Nat.le_succ _) (by rw[r6];rfl) (by rw[r7];rfl) (fun b hb=>by
     rw[r4 b (by show b≠w.heap.size;omega)];exact heap_alloc_old w.drew _ b hb) kr (fun a n c e _=>by simp at e;obtain⟨rfl,_⟩:=e;exact Nat.le_refl _)
    refine⟨β',w2,_,.slice (some ⟨w.heap.size,0,none⟩) s.size cap,?_,.inl rfl,?_,h1,h2⟩
    ·have hel:(strOf l).data.map (fun b=>Value.int .u8 b.toNat)=gq.toArray:=by
      apply Array.ext';simp[strOf,gq,List.map_map,Function.comp_def]
     have aXa:(strOf l).data.map (fun b=>Value.int .u8 b.toNat)++Array.replicate (cap-s.size) (Value.int .u8 0)=(gq++rest).toArray:=by
      rw[hel];apply Array.ext';simp[rest]
     have hq:(Question.appendCap s.size 0 e).forced=false:=rfl;simp only[execOp,ho,ex,convert,Sem.run_bind,run_underlying hs,run_underlying AF,run_underlying he,Result.andThen_ok,Conv.stringToBytes,run_choose_drew,hq,Bool.false_eq_true,if_false,newRow,run_newObj,Sem.run_pure];show((Sem.run P (markStringish ⟨w.drew.heap.size,0,none⟩) (w.drew.alloc (.cells ((strOf l).data.map (fun b=>Value.int .u8 b.toNat)++Array.replicate (cap-s.size) (Value.int .u8 0)) e))).andThen _).andThen _=_;rw[aXa];show((Sem.run P (markStringish ⟨w.heap.size,0,none⟩) w1).andThen _).andThen _=_;rw[r1];rfl
    ·refine⟨rfl,0,?_,Nat.le_refl _,fun _=>h3.symm⟩;show kd (cL st.hp id _) id=_;rw[fB,if_pos rfl];rfl
   ·cases h
  ·cases h
 ·rename_i e' e hs AF;split at h
  ·rename_i i ver;split at h
   ·rename_i hsd;split at h
    ·rename_i he;simp only[Ask.val]at h;split at h
     ·rename_i ver' l hi;split at h
      ·rename_i hc;obtain⟨rfl,ko⟩:=hc;simp at h;obtain⟨rfl,rfl,rfl⟩:=h;intro _ W bP β₀ β a w hr;have hd:=cX hx (cF hr x);obtain⟨tZ,hh⟩:=hr.heap.rY (p:=fun v=>a.eval x=v) (cf hi) hd.2;have a2z:=tZ;obtain⟨a0,n,c,e1,hn,W2,ha,gQ⟩:=tZ;have hc0:0<c:=by
        have:0<l.length:=List.length_pos_iff.2 ko;omega
       obtain⟨a1,pre,gq,rest,elem,fz,rfl,k1,k2,k3,k4,k5,k6⟩:=gQ hc0;obtain⟨w',fz',r1,r2,r3,r4,r5,r6,r7⟩:=ot (P:=P) k2 k6
       obtain⟨β',h1,h2,h3⟩:=hr.heap.yZ (cf hi) (ver':=ver) (l':=l) (v:=β.h i) (w':=w') (.inr ⟨rfl,rfl⟩) (by omega) r6 r7 (fun b hb rC=>r4 b fun e=>rC (by subst e;exact⟨a1,n,c,e1,hc0,rfl⟩))
        (by rw[e1];exact⟨_,n,c,rfl,hn,W2,by simp,fun _=>⟨a1,pre,gq,rest,elem,fz',rfl,k1,r2,k3,k4,k5,r3⟩⟩) (fun a n c e h0=>.inl ⟨a,n,c,e,h0,rfl⟩)
       refine⟨β',w',_,a.eval x,?_,.inl rfl,SV.gB h2 hd,h1,h2⟩;rw[hh,e1];subst hsd;have hee:e'=e:=(by rw[hs]at AF;simpa using AF);subst hee;have:a.eval x= .slice (some a1) n c:=(by rw[hh,e1]);simp[execOp,ho,this,convert,run_underlying hs,run_underlying he,r1]
      ·cases h
     ·cases h
    ·simp[Ask.val]at h
   ·simp[Ask.val]at h
  ·simp[Ask.val]at h
 ·simp[Ask.val]at h
end
noncomputable section
variable {P:Program} {st:St} {o:Oper} {q:Option Prop} {v:LV} {d:List (Nat×bE)}
theorem aL7{lo hi mx:Option Operand}{W:World}{bP:Hp}{β₀ β:Env}{a:Act}{w:World}(hr:Rel W bP β₀ β st a w){isS:Bool}{n c:Nat}{r:Nat×Nat×Nat}(h:pD n c (lo.map (ev st)) (hi.map (ev st)) (mx.map (ev st))=some r):
  (Instr.sliceBounds isS n c (lo.map a.eval) (hi.map a.eval) (mx.map a.eval)).run P w= .ok r w:=
 F6 (P:=P) (w:=w) (β:=β) (L:=kd st.hp) (lov:=lo.map a.eval) (hiv:=hi.map a.eval) (mxv:=mx.map a.eval) h
  (fun y hy=>by obtain⟨z,hz,rfl⟩:=map_some hy;exact⟨a.eval z,by simp[hz],cF hr z⟩) (by cases lo<;>simp)
  (fun y hy=>by obtain⟨z,hz,rfl⟩:=map_some hy;exact⟨a.eval z,by simp[hz],cF hr z⟩) (by cases hi<;>simp) (by cases mx<;>simp)
theorem Oy{t el:TypeId}{x:Operand}{lo hi mx:Option Operand}{b off n:Nat}(ho:o.op= .slice t x lo hi mx)(hx:lr (ev st x)=some (.ptr b off))(rB:rV P t=some (n,el)) (h:((iD P 0 (ev st) (.slice t x lo hi mx)).val st.hp)=some (q,v,d)):gn P o st q v d:=by
 have hu:=pA rB;simp only[iD,hx,rB,Ask.val]at h;split at h
 ·rename_i cells elem sz hb hs;split at h
  ·rename_i ty n' l lX;split at h
   ·rename_i x' y' hlo hhi;split at h
    ·rename_i hc;obtain⟨rfl,rfl⟩:=hc;cases h;refine gn.pure fun hq W bP β₀ β a w hr=>?_;obtain⟨q1,q2,q3⟩:0≤x'∧x'≤y'∧y'≤(n':Int):=hq;obtain⟨CV,ex⟩:=cX hx (cF hr x);have hsb:=vP (P:=P) hr (isS:=false) hlo hhi q1 q2 q3 (Nat.le_refl _);refine⟨.slice (some (if n'=x'.toNat then⟨β.b b,off,none⟩else(⟨β.b b,off,none⟩:Addr).add (x'.toNat*ty.w))) (y'.toNat-x'.toNat) (n'-x'.toNat),?_,CV,q1,by omega,by omega,some (if n'=x'.toNat then⟨β.b b,off,none⟩else(⟨β.b b,off,none⟩:Addr).add (x'.toNat*ty.w)),n'-x'.toNat,?_,?_,(fun e=>by cases e),fun h0=>?_⟩
     ·simp only[execOp,ho,ex,Instr.sliceAt,underlying,Sem.run_bind,run_program,Result.andThen_ok,hu,Instr.sureAddr,Sem.run_pure,hsb,run_sizeOf hs,Option.map_none]
     ·rw[show(y'-x').toNat=y'.toNat-x'.toNat from by omega]
     ·omega
     ·rw[if_neg (by omega)]
    ·cases h
   ·cases h
  ·obtain⟨r,hsp,he⟩:=map_some h;cases he;refine gn.pure fun _ W bP β₀ β a w hr=>?_;obtain⟨CV,ex⟩:=cX hx (cF hr x);have hsb:=aL7 (P:=P) hr (isS:=false) hsp;refine⟨.slice (some ⟨β.b b,if r.2.2=r.1 then off else off+r.1*sz,none⟩) (r.2.1-r.1) (r.2.2-r.1),?_,CV,rfl⟩;simp only[execOp,ho,ex,Instr.sliceAt,underlying,Sem.run_bind,run_program,Result.andThen_ok,hu,Instr.sureAddr,Sem.run_pure,hsb,run_sizeOf hs];split<;>simp[dN]
 ·cases h
theorem AT{a:Option Addr}{c k:Nat}{f:Addr→Addr}(h:a=none→c=0):(if c=k then a else a.map f)=none→c-k=0:=by
 intro e;split at e
 ·have:=h e;omega
 ·cases a with
  |none=>have:=h rfl;omega
  |some a=>cases e
theorem cN.afj{W:World}{bP:Hp}{β₀ β:Env}{hp:Hp}{w:World}(h:cN W bP β₀ β hp w){pm:Bool}{u u':Value}{t:Ty}{l l':List t.D}(hr:β.rd pm u t l)(r8:dw β pm w u' t l')(n9:∀b,inBlock u' b→inBlock u b):∃β',cN W bP β₀ β' hp w∧dx β β' (kd hp) (kd hp)∧β'.rd pm u' t l':=by
 obtain⟨h1,h2,h3⟩:=h.rp r8 fun b hb=>⟨((h.reads _ _ _ _ hr).2 b (n9 b hb)).1,((h.reads _ _ _ _ hr).2 b (n9 b hb)).2,h.from_ pm u t l b hr (n9 b hb)⟩;exact⟨_,h1,h2,h3⟩
theorem aq5{W:World}{bP:Hp}{β₀ β:Env}{hp:Hp}{w:World}(h:cN W bP β₀ β hp w){s r:SV}{pm:Bool}{t:Ty}{l:List t.D}{x y:Int}(hc:(lz s).val hp=some (pm,⟨t,l⟩))(hs:aDS t.w x y s=some r)
  {a:Option Addr} {n c:Nat} (hd:s.den β (kd hp) (.slice a n c)) (q1:0≤x) (q2:x≤y) (q3:y≤l.length):
  ∃β',cN W bP β₀ β' hp w∧dx β β' (kd hp) (kd hp)∧r.den β' (kd hp) (.slice (if c=x.toNat then a else a.map (·.add (x.toNat*t.w))) (y.toNat-x.toNat) (c-x.toNat)):=by
 have r8:=na h hc hd;obtain⟨a',n',c',e,hn,W2,hz,gQ⟩:=r8;simp at e;obtain⟨rfl,rfl,rfl⟩:=e;have hyx:(y-x).toNat=y.toNat-x.toNat:=by omega
 unfold aDS at hs;split at hs
 ·rename_i nm nn t' l';simp at hs;subst hs;have uK:pm=nm∧(⟨t,l⟩:(t:Ty)×List t.D)=⟨t',l'⟩:=by
   unfold lz at hc;rw[Ask.gC]at hc;simp[H2,Ask.val,Ask.fc,ly]at hc;obtain⟨h1,rfl,h2⟩:=hc;exact⟨h1.symm,by simpa using h2.symm⟩
  obtain⟨rfl,e⟩:=uK;cases e;have ab0:z9 (.slice a n c) t.w x (y-x) (.slice (if c=x.toNat then a else a.map (·.add (x.toNat*t.w))) (y.toNat-x.toNat) (c-x.toNat)):=by
   refine⟨_,_,_,_,_,rfl,q1,by omega,by omega,by rw[hyx],by omega,AT hz,fun h0=>?_⟩;obtain⟨a0,_,rfl,_⟩:=gQ (by omega);exact⟨a0,rfl,by rw[if_neg (by omega)];rfl⟩
  have aXb:dw β pm w (.slice a n c) t l:=⟨_,_,_,rfl,hn,W2,hz,gQ⟩;obtain⟨_,_,mN⟩:=hd;have n9:∀b,inBlock (Value.slice (if c=x.toNat then a else a.map (·.add (x.toNat*t.w))) (y.toNat-x.toNat) (c-x.toNat)) b→inBlock (Value.slice a n c) b:=by
   intro b hb;cases a with
   |none=>split at hb<;>exact hb.elim
   |some a=>
    split at hb
    ·obtain⟨h1,h2⟩:=hb;exact⟨by omega,h2⟩
    ·obtain⟨h1,h2⟩:=hb;exact⟨by omega,by rw[← h2,fY]⟩
  rcases mN with mN|⟨rfl,mN⟩|⟨e,rfl⟩
  ·obtain⟨β',k1,k2,k3⟩:=h.afj mN ((h.reads _ _ _ _ mN).1.sub ab0) n9;exact⟨β',k1,k2,rfl,fun e=>(by cases e),.inl k3⟩
  ·obtain⟨β',k1,k2,k3⟩:=h.afj mN ((h.reads _ _ _ _ mN).1.sub ab0) n9;exact⟨β',k1,k2,rfl,fun e=>(by cases e),.inr (.inl ⟨rfl,k3⟩)⟩
  ·simp at e;obtain⟨rfl,rfl,rfl⟩:=e;refine⟨β,h,dx.refl _ _,rfl,fun e=>(by cases e),.inr (.inr ⟨?_,by simp⟩)⟩;have W0:x.toNat=0:=(by simp at q3;omega);have hy0:y.toNat=0:=(by simp at q3;omega);rw[W0,hy0];rfl
 ·rename_i i ver;simp at hs;subst hs;obtain⟨k1,cc,k2,k3,k4⟩:=hd;refine⟨β,h,dx.refl _ _,rfl,cc,k2,k3,fun e=>⟨a,n,c,_,_,(k4 e).symm,q1,by omega,by omega,by rw[hyx],by omega,AT hz,fun h0=>?_⟩⟩;obtain⟨a0,_,rfl,_⟩:=gQ (by omega);exact⟨a0,rfl,by rw[if_neg (by omega)];rfl⟩
 ·rename_i i ver w' z m;simp at hs;subst hs;have hw:w'=t.w:=by
   unfold lz at hc;rw[Ask.gC]at hc;split at hc
   ·rename_i t0 _;rw[Ask.fc]at hc;obtain⟨⟨nm,l'⟩,h1,h2⟩:=map_some hc;simp at h2;obtain⟨_,rfl,_⟩:=h2;simp only[ly,Ask.val]at h1;split at h1
    ·split at h1
     ·split at h1
      ·rename_i hh;exact hh.2
      ·cases h1
     ·cases h1
    ·cases h1
   ·cases hc
  subst hw;obtain⟨k1,cc,k2,k3,k4⟩:=hd;refine⟨β,h,dx.refl _ _,rfl,cc,k2,k3,fun e=>?_⟩;obtain⟨a1,m1,c1,a2,c2,e1,z0,m0,hle,e2,hc2,hz2,vR⟩:=k4 e;simp at e2;obtain⟨rfl,e3,rfl⟩:=e2;refine⟨a1,m1,c1,_,_,e1,by omega,by omega,by omega,by rw[hyx],by omega,AT hz2,fun h0=>?_⟩;obtain⟨a0,rfl,rfl⟩:=vR (by omega);refine⟨a0,rfl,?_⟩;rw[if_neg (by omega),Option.map_some,CW,← Nat.add_mul,show(z+x).toNat=z.toNat+x.toNat from by omega]
 ·rename_i b o' t' m z k;simp at hs;subst hs;have ht:t'=t:=by have:=abZ hc;simp[H2,Ask.val]at this;exact this
  subst ht;obtain⟨k1,z0,m0,zm,a2,c2,e2,hc2,hz2,vR⟩:=hd;simp at e2;obtain⟨rfl,e3,rfl⟩:=e2;refine⟨β,h,dx.refl _ _,k1,by omega,by omega,by omega,_,_,by rw[hyx],by omega,AT hz2,fun h0=>?_⟩;have:=vR (by omega);subst this;rw[if_neg (by omega),Option.map_some,CW,← Nat.add_mul,show(z+x).toNat=z.toNat+x.toNat from by omega]
 ·cases hs
end
noncomputable section
variable {P:Program} {st:St} {o:Oper} {q:Option Prop} {v:LV} {d:List (Nat×bE)}
theorem afk{id:Nat}{t:TypeId}{x:Operand}{lo hi mx:Option Operand}(ho:o.op= .slice t x lo hi mx) (h:((iD P id (ev st) (.slice t x lo hi mx)).val st.hp)=some (q,v,d)):gn P o st q v d:=by
 have h0:=h;simp only[iD]at h;split at h
 ·rename_i b off n el _ hx rB;refine Oy ho hx rB ?_;simp only[iD]at h0 ⊢;exact h0
 ·rename_i b off len cap el hx rB ru;have hu:=fZ ru;simp only[Ask.val]at h;split at h
  ·rename_i l hh m sz hsp hs;cases h;refine gn.pure fun _ W bP β₀ β a w hr=>?_;obtain⟨CV,ex⟩:=cX hx (cF hr x);have hsb:=aL7 (P:=P) hr (isS:=true) hsp;refine⟨.slice (some ⟨β.b b,if m=l then off else off+l*sz,none⟩) (hh-l) (m-l),?_,CV,rfl⟩;simp only[execOp,ho,ex,Instr.sliceAt,Instr.slice,underlying,Sem.run_bind,run_program,Result.andThen_ok,hu,Sem.run_pure,hsb,run_sizeOf hs];split<;>simp[dN]
  ·cases h
 ·rename_i s el hx rB ru;have hu:=fZ ru;rw[Ask.fc]at h;split at h
  ·rename_i pm ty l sz hc hs;split at h
   ·rename_i x' y' hlo hhi;split at h
    ·rename_i hw;subst hw;obtain⟨r,RS,he⟩:=map_some h;cases he;intro hq W bP β₀ β a w hr;obtain⟨q1,q2,q3⟩:0≤x'∧x'≤y'∧y'≤(l.length:Int):=hq;have hd:=cX hx (cF hr x);obtain⟨a',n',c',ex,hn,W2,_⟩:=na hr.heap hc hd;rw[ex]at hd;rw[← hn]at hhi q3;have hsb:=vP (P:=P) hr (isS:=true) hlo hhi q1 q2 q3 W2;obtain⟨β',k1,k2,k3⟩:=aq5 hr.heap hc RS hd q1 q2 (by rw[← hn];exact q3);refine⟨β',w,_,_,?_,.inl rfl,k3,k1,k2⟩;simp only[execOp,ho,ex,Instr.sliceAt,Instr.slice,underlying,Sem.run_bind,run_program,Result.andThen_ok,hu,Sem.run_pure,Option.map_none];rw[hsb];simp only[Result.andThen_ok,run_sizeOf hs,Sem.run_pure]
    ·cases h
   ·cases h
  ·cases h
 ·simp[Ask.val]at h
theorem H7{id:Nat}{t:TypeId}{x y:Operand}(ho:o.op= .makeSlice t x y)(h:((iD P id (ev st) (.makeSlice t x y)).val st.hp)=some (q,v,d))(rA:(∃x,(id,x)∈d)→kd st.hp id=none):gn P o st q v d:=by
 simp only[iD,Ask.val]at h;split at h
 ·rename_i el k1 n k2 c ru hn hc;have hu:=fZ ru;split at h
  ·rename_i ty sz z by_ hty hs hz H8;split at h
   ·rename_i pE;obtain⟨rfl,lp,hwz⟩:=pE;split at h
    ·rename_i z0 hz0;cases h;have afl:=rA ⟨_,by simp;rfl⟩;intro hq W bP β₀ β a w hr;obtain⟨rfl,AU,a2B,a2C⟩:c=n∧0≤n∧(by_:Int)*n≤2 ^ 46∧n≤2 ^ 46:=hq;have en:=ig hn (cF hr x);have ec:=ig hc (cF hr y);obtain⟨zv,W3,hzd⟩:=rW (P:=P) (w:=w) (β:=β) (L:=kd st.hp) hz;have hzs:zv.cells.size=ty.w:=(by have:=hzd.length;simp at this;omega);have hzh:=ty.kt hz0 hzd;have aDW:=wrap_small (n:=c) AU (by omega);have aXe:∃i,P.info? el=some i∧i.bytes=by_:=by
      unfold rU at H8;obtain⟨i,h1,h2⟩:=map_some H8;exact⟨i,h1,h2⟩
     obtain⟨i,hi,hib⟩:=aXe;have lX:cI (ty.has β true) (List.replicate c.toNat z0) ((List.replicate c.toNat zv.cells.toList).flatten):=CX hzh _;have kr:=pF (β:=β) (w:=w.alloc (.cells ((List.replicate c.toNat zv.cells.toList).flatten++ []).toArray el)) (b:=w.heap.size) (elem:=el) (fz:=(0,0)) (rest:= []) (c:=c.toNat) (heap_alloc_new w _) lX (by simp) (by simp) (.inl rfl);rw[List.append_nil,List.length_replicate]at kr;obtain⟨β',h1,h2,h3⟩:=hr.heap.rZ afl (ver:=0) (w':=w.alloc (.cells ((List.replicate c.toNat zv.cells.toList).flatten).toArray el)) (by rw[World.size_alloc];exact Nat.le_succ _) rfl rfl (fun b hb=>heap_alloc_old w _ b hb) kr (fun a n c e _=>by simp at e;obtain⟨rfl,_⟩:=e;exact Nat.le_refl _);refine⟨β',_,_,.slice (some ⟨w.heap.size,0,none⟩) c.toNat c.toNat,?_,.inl rfl,?_,h1,h2⟩
     ·have hti:(typeInfo el).run P w= .ok i w:=(by simp[typeInfo,hi]);have afm:¬ ((c<0)∨((i.bytes:Int)*c>2 ^ 48)):=by
       rw[hib];intro hh;rcases hh with hh|hh<;>omega
      have aq8:(decide (c<0)||decide ((i.bytes:Int)*c>2 ^ 48))=false:=by
       have:¬ (c<0)∧¬ ((i.bytes:Int)*c>2 ^ 48):=⟨fun hh=>afm (.inl hh),fun hh=>afm (.inr hh)⟩;simp only[this.1,this.2,decide_false,Bool.or_self]
      simp only[execOp,ho,en,ec,Instr.makeSlice,Sem.run_bind,run_underlying hu,Result.andThen_ok,asInt,asIntOf,Sem.run_pure,hti,aDW,aq8,Bool.false_or];rw[if_neg (by simp;omega)];simp only[Sem.run_bind,run_askRoom,Result.andThen_ok,run_sizeOf hs];by_cases GH:c.toNat*ty.w=0
      ·have h01:c.toNat=0:=by
        rcases Nat.mul_eq_zero.1 GH with k|k
        ·exact k
        ·omega
       rw[if_pos GH];simp only[Sem.run_bind,Result.andThen_ok,newRow,run_newObj,Sem.run_pure,h01];have hr0:(Array.range 0).map (fun x=>(#[]:Array Value)[x%(#[]:Array Value).size]!)= #[]:=(by simp);rw[Nat.zero_mul,hr0];simp
      ·rw[if_neg GH];simp only[Sem.run_bind,W3,Result.andThen_ok,newRow,run_newObj,Sem.run_pure,oS c.toNat hzs];rfl
     ·refine⟨rfl,0,?_,Nat.le_refl _,fun _=>h3.symm⟩;show kd (cL st.hp id _) id=_;rw[fB,if_pos rfl];rfl
    ·cases h
   ·cases h
  ·cases h
 ·cases h
theorem F8{id:Nat}{t:TypeId}{len:Nat}{parts:Array (Nat×Operand)}(ho:o.op= .buildSlice t len parts)(h:((iD P id (ev st) (.buildSlice t len parts)).val st.hp)=some (q,v,d))(rA:(∃x,(id,x)∈d)→kd st.hp id=none):gn P o st q v d:=by
 simp only[iD,Ask.val]at h;split at h
 ·rename_i el ru;have hu:=fZ ru;split at h
  ·rename_i sz z hs hz;split at h
   ·rename_i pE;obtain⟨h16,hwz,lp⟩:=pE;split at h
    ·rename_i l hl
     have base:∀ (W:World) (bP:Hp) (β₀ β:Env) (a:Act) (w:World),Rel W bP β₀ β st a w→
       ∃c:List Value,dc β (kd st.hp) l c∧(execOp a.eval o).run P w= .ok (.value (.slice (some ⟨w.heap.size,0,none⟩) len len)) (w.alloc (.cells c.toArray el)):=by
      intro W bP β₀ β a w hr;obtain⟨zv,W3,hzd⟩:=rW (P:=P) (w:=w) (β:=β) (L:=kd st.hp) hz;have hzs:zv.cells.size=sz:=by have:=hzd.length;simp at this;omega
      obtain⟨c,hcc,hd⟩:=HY (β:=β) (L:=kd st.hp) (place:=fun i=>some (i*sz,sz)) _ (parts.toList.map fun p=>(p.1,a.eval p.2)) _ _ l (Ox hzd len)
       (dC.of_map _ _ _ fun p _=>⟨rfl,cF hr p.2⟩) hl
      refine⟨c,hd,?_⟩;simp only[execOp,ho,Instr.buildSlice,Sem.run_bind,run_underlying hu,Result.andThen_ok,run_sizeOf hs];rw[if_neg (by omega)];have aL8:Instr.fill (fun i=>some (i*sz,sz)) ((List.replicate len zv.cells.toList).flatten).toArray (Array.map (fun x=>match x with|(i,x)=>(i,a.eval x)) parts).toList=some c.toArray:=by
       rw[← hcc];simp
      by_cases GH:len*sz=0
      ·have h01:len=0:=by
        rcases Nat.mul_eq_zero.1 GH with k|k
        ·exact k
        ·omega
       rw[if_pos GH];have aXh:Instr.fill (fun i=>some (i*sz,sz)) #[] (Array.map (fun x=>match x with|(i,x)=>(i,a.eval x)) parts).toList=some c.toArray:=by
        rw[← aL8,h01];simp
       simp only[Sem.run_bind,Result.andThen_ok,Sem.run_pure,GH];have hr0:(Array.range 0).map (fun x=>(#[]:Array Value)[x%(#[]:Array Value).size]!)= #[]:=(by simp);rw[hr0,aXh];simp[newRow]
      ·rw[if_neg GH];simp only[Sem.run_bind,W3,Result.andThen_ok,Sem.run_pure,oS len hzs];rw[aL8];simp[newRow]
     have aL9:some (q,v,d)=some ((none:Option Prop),LV.one (.sc (.slice id 0 len len)),[(id,bE.cK l el)])→gn P o st q v d:=by
      intro he;cases he;have rA:=rA ⟨_,by simp;rfl⟩;intro _ W bP β₀ β a w hr;obtain⟨c,hd,gp⟩:=base W bP β₀ β a w hr;obtain⟨β',h1,h2,h3⟩:=hr.heap.aff rA el hd;refine⟨β',_,_,_,gp,.inl rfl,⟨?_,by rw[h3]⟩,h1,h2⟩;show kd (cL st.hp id _) id=_;rw[fB,if_pos rfl];rfl
     split at h
     ·rename_i ty hty;split at h
      ·rename_i hw;subst hw;split at h
       ·rename_i xs hxs;cases h;have rA:=rA ⟨_,by simp;rfl⟩;intro _ W bP β₀ β a w hr;obtain⟨c,hd,gp⟩:=base W bP β₀ β a w hr;obtain⟨hh,hlen⟩:=rQ (R:=ty.has β true) (fun a x vs h hd=>ty.kt h hd) _ hxs hd;have kr:=pF (β:=β) (w:=w.alloc (.cells (c++ []).toArray el)) (b:=w.heap.size) (elem:=el) (fz:=(0,0)) (rest:= []) (c:=len) (heap_alloc_new w _) hh (by omega) (by simp[hlen]) (.inl rfl);rw[List.append_nil,hlen]at kr;obtain⟨β',h1,h2,h3⟩:=hr.heap.rZ rA (ver:=0) (w':=w.alloc (.cells c.toArray el)) (by rw[World.size_alloc];exact Nat.le_succ _) rfl rfl (fun b hb=>heap_alloc_old w _ b hb) kr (fun a n c e _=>by simp at e;obtain⟨rfl,_⟩:=e;exact Nat.le_refl _);refine⟨β',_,_,_,gp,.inl rfl,⟨rfl,0,?_,Nat.le_refl _,fun _=>h3.symm⟩,h1,h2⟩;show kd (cL st.hp id _) id=_;rw[fB,if_pos rfl];rfl
       ·exact aL9 h.symm
      ·cases h
     ·exact aL9 h.symm
    ·cases h
   ·cases h
  ·cases h
 ·cases h
theorem ab2{op:BinOp}{t:TypeId}{ox oy:Operand}{x y:LV}{b:Bool}(h:R9 P op t x y=some b){w:World}{β:Env}{L:Nat→Option Kd}{xv yv:Value}(hx:x.den β L xv)(hy:y.den β L yv):
  (do eqGuard op t ox oy xv yv;binOp op t xv yv:Sem Value).run P w= .ok (.bool b) w:=by
 unfold R9 at h
 have key:∀ {pm:Bool} {ty:Ty} {l:List ty.D} {n c:Nat} {e:TypeId},gv P t=some e→(LV.one (.sc (.rd pm true ty l))).den β L xv→(LV.one (.sc (.gm (.slice none n c)))).den β L yv→
   ∃a n c n' c',xv= .slice (some a) n c∧yv= .slice none n' c':=by
  intro pm ty l n c e _ h1 h2;obtain⟨_,h3,_⟩:=h1;obtain⟨_,rfl⟩:=h2;have:=h3 rfl;cases xv with
  |slice a n' c'=>cases a with
   |none=>exact absurd rfl this
   |some a=>exact⟨a,n',c',n,c,rfl,rfl⟩
  |_=>exact this.elim
 split at h
 ·rename_i e ru;cases h;obtain⟨a,n,c,n',c',rfl,rfl⟩:=key ru hx hy;rw[Sem.run_bind,fa (by simp) (by simp)];exact ti rfl (mO (fZ ru))
 ·rename_i e ru;cases h;obtain⟨a,n,c,n',c',rfl,rfl⟩:=key ru hx hy;rw[Sem.run_bind,fa (by simp) (by simp)];exact tj rfl (mO (fZ ru))
 ·cases h
theorem aq9{id:Nat}(h:(iD P id (ev st) o.op).val st.hp=some (q,v,d))(rA:(∃x,(id,x)∈d)→kd st.hp id=none):gn P o st q v d:=by
 cases ho:o.op<;>rw[ho]at h<;>(try (simp[iD,Ask.val]at h;done))
 case slice t x lo hi mx=>exact afk ho h
 case makeSlice t x y=>exact H7 ho h rA
 case buildSlice t n parts=>exact F8 ho h rA
 all_goals simp only[iD]at h
 case move x=>
  cases h;exact .pure fun _ W bP β₀ β a w hr=>⟨a.eval x,by simp[execOp,ho],cF hr x⟩
 case assign x=>
  cases h;exact .pure fun _ W bP β₀ β a w hr=>⟨a.eval x,by simp[execOp,ho],cF hr x⟩
 case pick c x y=>
  simp only[Ask.val]at h;split at h
  ·rename_i t hc;cases h;refine .pure fun _ W bP β₀ β a w hr=>⟨if t then a.eval x else a.eval y,?_,?_⟩
   ·have:=cF hr c;rw[hc]at this;have e:a.eval c= .bool t:=this;simp[execOp,ho,e,asBool]
   ·cases t
    ·exact cF hr y
    ·exact cF hr x
  ·rename_i t hc;have afn:∀ (a:Act) (w:World) {W:World} {bP:Hp} {β₀ β:Env},Rel W bP β₀ β st a w→(execOp a.eval o).run P w= .ok (.value (if t then a.eval x else a.eval y)) w:=by
    intro a w W bP β₀ β hr;have:=cF hr c;rw[hc]at this;have e:a.eval c= .bool t:=this;simp[execOp,ho,e,asBool]
   split at h
   ·rename_i u v hx hy;cases h;refine .pure fun _ W bP β₀ β a w hr=>⟨_,afn a w hr,?_⟩;cases t
    ·exact On (J:=afd) (L₁:=kd st.hp) ⟨fun _ _ h=>h,fun _ _ _ _ h=>(by cases h),fun _ h=>(by cases h)⟩ (hy▸cF hr y)
    ·exact R2 (J:=afd) (L₁:=kd st.hp) ⟨fun _ _ h=>h,fun _ _ _ _ h=>(by cases h),fun _ h=>(by cases h)⟩ (hx▸cF hr x)
   ·rename_i u hx _;cases h;refine .pure fun hq W bP β₀ β a w hr=>⟨_,afn a w hr,?_⟩;have ht:t=true:=hq;subst ht;exact hx▸cF hr x
   ·rename_i u hy _;cases h;refine .pure fun hq W bP β₀ β a w hr=>⟨_,afn a w hr,?_⟩;have ht:t=false:=hq;subst ht;exact hy▸cF hr y
   ·cases h
  ·cases h
 case alloc t=>
  simp only[Ask.val]at h;obtain⟨l,hl,he⟩:=map_some h;cases he;have rA:=rA ⟨_,by simp;rfl⟩;refine Ou (mk:=fun _=>Instr.alloc t true (.tuple #[])) (fun a=>by simp[execOp,ho]) (fun W bP β₀ β a w hr=>?_) rA;obtain⟨z,hz,hd⟩:=rW (P:=P) (w:=w) (β:=β) (L:=kd st.hp) hl;refine⟨_,hd,?_⟩;simp only[Instr.alloc,Sem.run_bind,hz,Result.andThen_ok,newVar,newRow,run_newObj,Sem.run_pure];simp
 case box t x=>
  simp only[Ask.val]at h;obtain⟨l,hl,he⟩:=map_some h;cases he;have rA:=rA ⟨_,by simp;rfl⟩;refine Ou (mk:=fun a=>Instr.box t (a.eval x)) (fun a=>by simp[execOp,ho]) (fun W bP β₀ β a w hr=>?_) rA;obtain⟨cs,hcs,hd⟩:=rT hl (cF hr x);refine⟨_,hd,?_⟩;simp only[Instr.box,Sem.run_bind,Result.andThen_ok,newVar,newRow,run_newObj,Sem.run_pure,hcs];rfl
 case build t parts=>
  simp only[Ask.val]at h;split at h
  ·rename_i z place hz hpl;obtain⟨l,hl,he⟩:=map_some h;cases he;refine .pure fun _ W bP β₀ β a w hr=>?_;obtain⟨zv,W3,hzd⟩:=rW (P:=P) (w:=w) (β:=β) (L:=kd st.hp) hz
   obtain⟨c,hc,hd⟩:=HY (β:=β) (L:=kd st.hp) (place:=place) _ (parts.toList.map fun p=>(p.1,a.eval p.2)) z zv.cells.toList l hzd
    (dC.of_map _ _ _ fun p _=>⟨rfl,cF hr p.2⟩) hl
   refine⟨.agg c.toArray,?_,c,rfl,hd⟩;unfold WV at hpl;split at hpl
   ·rename_i fs hu;obtain⟨pl,aXi,rfl⟩:=map_some hpl;have:=rr (P:=P) (w:=w) fs.toList pl aXi;simp only[execOp,ho,Instr.build,Sem.run_bind,W3,Result.andThen_ok,underlying,run_program,hu,Sem.run_pure];rw[Array.mapM_eq_mapM_toList];simp only[Sem.run_map,this,Result.andThen_ok];simp at hc;simp[hc]
   ·rename_i n e hu;obtain⟨s,hs,rfl⟩:=map_some hpl;simp only[execOp,ho,Instr.build,Sem.run_bind,W3,Result.andThen_ok,underlying,run_program,hu,Sem.run_pure,run_sizeOf hs];simp at hc;simp[hc]
   ·simp at hpl
  ·cases h
 case load t x=>
  split at h
  ·rename_i s hx;exact aq3 ho hx h
  ·simp[Ask.val]at h
 case store t x y=>
  split at h
  ·rename_i s l hx hl;exact afi ho hx hl h
  ·simp[Ask.val]at h
 case nilCheck x=>
  simp only[Ask.val]at h;split at h
  ·rename_i b off hx;cases h;refine .pure fun _ W bP β₀ β a w hr=>?_;have hd:=cF hr x;rw[hx]at hd;obtain⟨iZ,e⟩:kd st.hp b=some .cK∧a.eval x= .pointer (some ⟨β.b b,off,none⟩):=hd;exact⟨_,by simp[execOp,ho,e],iZ,rfl⟩
  ·rename_i s wd z f hx;cases h;refine .pure fun _ W bP β₀ β a w hr=>?_;have hd:=cF hr x;rw[hx]at hd;have hd':=hd;obtain⟨ad,n,c,h1,h2,h3,e⟩:=hd;refine⟨.pointer (some (ad.add (z.toNat*wd+f))),by simp[execOp,ho,e],?_⟩;rw[e]at hd';exact hd'
  ·cases h
 case binOp op t x y yt=>
  simp only[Ask.val]at h;split at h
  ·rename_i b hn;cases h;refine .pure fun hq W bP β₀ β a w hr=>⟨.bool b,?_,rfl⟩;have:=ab2 (w:=w) (ox:=x) (oy:=y) hn (cF hr x) (cF hr y);simp only[execOp,ho];rw[Sem.run_bind,this];rfl
  ·obtain⟨r,RS,he⟩:=map_some h;cases he;refine .pure fun hq W bP β₀ β a w hr=>?_;obtain⟨val,e1,e2⟩:=ae9 (P:=P) (w:=w) (ox:=x) (oy:=y) (s:=r.2) (q:=r.1) (by rw[RS]) hq (cF hr x) (cF hr y);refine⟨val,?_,e2⟩;simp only[execOp,ho];rw[Sem.run_bind,e1];rfl
 case unOp op t x=>
  simp only[Ask.val]at h;split at h
  ·rename_i s h1;obtain⟨r,RS,he⟩:=map_some h;cases he;refine .pure fun hq W bP β₀ β a w hr=>?_;have hd:=cX h1 (cF hr x);cases s<;>simp only[aLX]at RS<;>try (simp at RS;done)
   ·cases op<;>simp at RS<;>subst RS<;>(have e:a.eval x=_:=hd)
    ·exact⟨_,by simp[execOp,ho,e,Op.unary,Op.intArith];rfl,by simp only[LV.den,VV.den,SV.den,map2_val];simp[SI.val]⟩
    ·exact⟨_,by simp only[execOp,ho,e,Op.unary,Op.intBits];rfl,by simp only[LV.den,VV.den,SV.den,map2_val];rfl⟩
   ·rename_i b;cases op<;>simp at RS<;>subst RS;have e:a.eval x=_:=hd;exact⟨_,by simp[execOp,ho,e,Op.unary];rfl,by cases b<;>simp[LV.den,VV.den,SV.den,SB.val]⟩
  ·cases h
 case convert src dst x=>
  split at h
  ·rename_i s hx;exact aq4 ho hx h rA
  ·simp[Ask.val]at h
 case makeFunc fn fs cs=>
  cases fn with
  |func g=>
   simp only[Ask.val]at h;split at h
   ·rename_i hfs;have hfs:fs= #[]:=(by simpa using hfs);subst hfs;have ecs:∀a:Act,cs.map a.eval=(cs.toList.map a.eval).toArray:=fun a=>(by rw[← Array.toList_map,Array.toArray_toList]);split at h
    ·rename_i hcs;cases h;have:cs.toList= []:=(by simpa using hcs);exact .pure fun _ W bP β₀ β a w hr=>⟨.func (.func g) #[] #[],by simp[execOp,ho,Instr.makeFunc,ecs,this],rfl,rfl⟩
    ·rename_i b off hcs;cases h;obtain⟨x,hx,hx2⟩:∃x,cs.toList= [x]∧ev st x= .one (.sc (.ptr b off)):=by
      match hl:cs.toList,hcs with
      | [x],hcs=>exact⟨x,rfl,by simpa using hcs⟩
      |_::_::_,hcs=>simp at hcs
     refine .pure fun _ W bP β₀ β a w hr=>?_;have hd:=cF hr x;rw[hx2]at hd;obtain⟨h1,h2⟩:=hd;exact⟨.func (.func g) #[] #[a.eval x],by simp[execOp,ho,Instr.makeFunc,ecs,hx],h1,by rw[h2]⟩
    ·cases h
   ·cases h
  |_=>simp[Ask.val]at h
 case sliceToArrayPointer t x=>
  split at h
  ·rename_i b off len cap n e hx ha;simp only[Ask.val]at h;split at h
   ·rename_i hle;cases h;refine .pure fun _ W bP β₀ β a w hr=>?_;obtain⟨iZ,ex⟩:=cX hx (cF hr x);have hu:=pA ha;exact⟨_,by simp[execOp,ho,ex,Instr.arrayAt,underlying,hu,Nat.not_lt.2 hle],iZ,rfl⟩
   ·cases h
  ·rename_i s n e hns hx ha;rw[Ask.fc]at h;split at h
   ·rename_i pm ty l hc;split at h
    ·rename_i pE;obtain⟨AU,hs⟩:=pE;cases h;refine .pure fun hq W bP β₀ β a w hr=>?_;have hq':n≤l.length:=hq;have hd:=cX hx (cF hr x);obtain⟨a',n',c',ex,hn,W2,_,gQ⟩:=na hr.heap hc hd;obtain⟨a0,_,rfl,_⟩:=gQ (by omega);have hu:=pA ha;rw[ex]at hd;refine⟨.pointer (some a0),?_,a0,n',c',hd,Int.le_refl _,by omega,by simp[Addr.add]⟩;simp[execOp,ho,ex,Instr.arrayAt,underlying,hu,show ¬n'<n by omega]
    ·cases h
   ·cases h
  ·simp[Ask.val]at h
 case fieldAddr s x f=>
  simp only[Ask.val]at h;split at h
  ·rename_i av fs hx hf;have hu:=CP hf;split at h
   ·rename_i fd hfd;have ara:fs.toArray[f]? =some fd:=(by simpa using hfd);split at h
    ·rename_i n hn;split at h
     ·cases h
     ·rename_i AU;split at h
      ·rename_i b off;cases h;refine .pure fun _ W bP β₀ β a w hr=>?_;obtain⟨iZ,ex⟩:=cX hx (cF hr x);refine⟨.pointer (some ⟨β.b b,off+fd.offset,none⟩),?_,iZ,rfl⟩;simp only[execOp,ho,ex,Instr.fieldAt,underlying,Sem.run_bind,run_program,Result.andThen_ok,hu,Sem.run_pure,ara,Instr.sureAddr,fieldPlace,run_sizeOf hn,AU,if_false,dN]
      ·rename_i s' wd z f0;cases h;refine .pure fun _ W bP β₀ β a w hr=>?_;obtain⟨ad,n',c,h1,h2,h3,ex⟩:=cX hx (cF hr x);refine⟨.pointer (some (ad.add (z.toNat*wd+(f0+fd.offset)))),?_,ad,n',c,h1,h2,h3,rfl⟩;simp only[execOp,ho,ex,Instr.fieldAt,underlying,Sem.run_bind,run_program,Result.andThen_ok,hu,Sem.run_pure,ara,Instr.sureAddr,fieldPlace,run_sizeOf hn,AU,if_false,CW,Nat.add_assoc]
      ·cases h
    ·cases h
   ·cases h
  ·cases h
 case field s x f=>
  simp only[Ask.val]at h;split at h
  ·rename_i l fs hx hf;split at h
   ·rename_i fd hfd;obtain⟨y,hy,he⟩:=map_some h;cases he;refine .pure fun _ W bP β₀ β a w hr=>?_;have hd:=cF hr x;rw[hx]at hd;obtain⟨cs,ex,hd⟩:=hd;have hu:=CP hf;have ara:fs.toArray[f]? =some fd:=(by simpa using hfd);obtain⟨val,h1,h2⟩:=lW (P:=P) (w:=w) hd hy;refine⟨val,?_,h2⟩;simp[execOp,ho,ex,Instr.field,underlying,hu,ara,asAgg,h1]
   ·cases h
  ·cases h
 case indexAddr t x i=>
  split at h
  ·rename_i s hx;exact Sb ho hx h
  ·simp[Ask.val]at h
 case index t x i=>
  simp only[Ask.val]at h;obtain⟨r,RS,he⟩:=map_some h;cases he;exact aDU ho (by rw[RS])
 case extract x i=>
  simp only[Ask.val]at h;split at h
  ·rename_i l hx;obtain⟨y,hy,he⟩:=map_some h;cases he;refine .pure fun _ W bP β₀ β a w hr=>?_;have hd:=cF hr x;rw[hx]at hd;obtain⟨cs,ex,hd⟩:=hd;obtain⟨val,h1,h2⟩:=hd.get hy;have h1':cs.toArray[i]? =some val:=(by simpa using h1);exact⟨val,by simp[execOp,ho,ex,Instr.extract,h1'],h2⟩
  ·cases h
end
def afp(P:Program)(ty:Ty)(t:TypeId)(x:SV):Ask (Option (Bool×List ty.D)):=match gv P t with
 |some _=>ly ty x
 |none=>match P.underlying t with
  |some .string=>.ret (if h:Ty.int .u8=ty then(rR x).map fun l=>(true,h▸(l.map fun n=>((UInt8.ofNat n.toNat).toNat:Int)))else none)
  |_=>.ret none
def aDY(P:Program)(t:TypeId)(x:SV):Ask (Option SI):=match x with
 | .gm (.slice _ n _)=>.ret ((gv P t).map fun _=>.lit n)
 | .slice _ _ n _=>.ret ((gv P t).map fun _=>.lit n)
 | .str l=>.ret (if P.underlying t matches some .string then some (.sym l.length)else none)
 | .gm (.string s)=>.ret (if P.underlying t matches some .string then some (.lit s.size)else none)
 |x=>match gv P t with
  |some _=>(lz x).map fun c=>c.map fun c=>.sym c.2.2.length
  |none=>.ret none
def y4(f:Int→Int→Int)(k:IntKind):SI→List SV→Option SI
 |x,[]=>some x
 |x,.int k' y::l=>if k'=k then y4 f k (map2 f x y) l else none
 |_,_=>none
def afq(x y:Int):Int:=if y<x then y else x
def afr(x y:Int):Int:=if y>x then y else x
def cP{α:Type}(l:List α)(z len:Nat)(m:List α):List α:=l.take z++(m.take len++l.drop (z+min len m.length))
def afs(P:Program)(id:Nat)(t u:TypeId)(s x:SV):Ask Stp:=match gv P t with
 |none=>.ret none
 |some el=>match F5 P 8 el,fF P el,pB P el,rU P el with
  |some ty,some sz,some z,some by_=>
   if sz=ty.w∧0<ty.w∧wL z=ty.w then
    (afp P ty u x).bind fun c=>match c with
     |some (pm,m)=>if pm||ty.flat then
       match s with
       | .gm (.slice none 0 0)=>.ret (some (some (m.length*by_≤70368744177664∧m.length≤70368744177664),.one (.sc (.sl id 0)),[(id,.own 0 ty m)]))
       | .sl i ver=>.get i fun y=>.ret (match y with
        |some (.own ver' yO l)=>if h:yO=ty then(if ver=ver' then some (some ((l.length+m.length)*by_≤70368744177664∧l.length+m.length≤70368744177664),.one (.sc (.sl i (ver+1))),[(i,.own (ver+1) ty ((h▸l:List ty.D)++m))])else none)else none
        |_=>none)
       |_=>.ret none
      else .ret none
     |none=>.ret none
   else .ret none
  |_,_,_,_=>.ret none
def Sc(P:Program)(id:Nat)(t u:TypeId)(s:SV)(n:Int):Ask Stp:=match gv P t,P.underlying u with
 |some el,some (.int _)=>match F5 P 8 el,fF P el,pB P el,rU P el with
  |some ty,some sz,some z,some by_=>
   if sz=ty.w∧0<ty.w∧wL z=ty.w then
    match ty.read true z with
    |some z0=>match s with
     | .gm (.slice none 0 0)=>.ret (some (some (0≤n∧n.toNat*by_≤70368744177664∧n.toNat≤70368744177664),.one (.sc (.sl id 0)),[(id,.own 0 ty (List.replicate n.toNat z0))]))
     | .sl i ver=>.get i fun y=>.ret (match y with
      |some (.own ver' yO l)=>if h:yO=ty then(if ver=ver' then some (some (0≤n∧(l.length+n.toNat)*by_≤70368744177664∧l.length+n.toNat≤70368744177664),.one (.sc (.sl i (ver+1))),[(i,.own (ver+1) ty ((h▸l:List ty.D)++List.replicate n.toNat z0))])else none)else none
      |_=>none)
     |_=>.ret none
    |none=>.ret none
   else .ret none
  |_,_,_,_=>.ret none
 |_,_=>.ret none
def Sd(P:Program)(t u:TypeId)(d x:SV):Ask Stp:=match gv P t with
 |none=>.ret none
 |some el=>match F5 P 8 el,fF P el with
  |some ty,some sz=>
   if sz=ty.w∧0<ty.w then
    (match gv P u with|some _=>ly ty x|none=>.ret none).bind fun c=>match c with
     |some (pm,m)=>if pm||ty.flat then
       match d with
       | .sl i ver=>.get i fun y=>.ret (match y with
        |some (.own ver' yO l)=>if h:yO=ty then(if ver=ver' then some (none,.one (.sc (.int .i64 (.sym (min m.length l.length:Nat)))),[(i,.own ver' ty (cP (h▸l) 0 l.length m))])else none)else none
        |_=>none)
       | .vw i ver w z n=>.get i fun y=>.ret (match y with
        |some (.own ver' yO l)=>if h:yO=ty then(if ver=ver'∧w=ty.w then some (none,.one (.sc (.int .i64 (.sym (min m.length n.toNat:Nat)))),[(i,.own ver' ty (cP (h▸l) z.toNat n.toNat m))])else none)else none
        |_=>none)
       | .vb b o' yO k z n=>.get b fun y=>.ret (match y with
        |some (.cK cells elem)=>match rowAt cells o' with
         |some (.arr aXk k' l)=>if h:aXk=ty then(if yO=ty∧k'=k then(lY cells o' (.arr ty k' (cP (h▸l) z.toNat n.toNat m))).map fun c=>(none,.one (.sc (.int .i64 (.sym (min m.length n.toNat:Nat)))),[(b,.cK c elem)])else none)else none
         |_=>none
        |_=>none)
       | .slice b o' n _=>.get b fun y=>.ret (match y with
        |some (.cK cells elem)=>match abW cells o' (n*ty.w)with
         |some s=>match vJ (ty.read true) ty.w n s with
          |some l=>(uI cells o' ((List.range n).flatMap fun j=>ty.Gz true ((cP l 0 n m).getD j ty.z))).map fun c=>(none,.one (.sc (.int .i64 (.sym (min m.length n:Nat)))),[(b,.cK c elem)])
          |none=>none
         |none=>none
        |_=>none)
       |_=>.ret none
      else .ret none
     |none=>.ret none
   else .ret none
  |_,_=>.ret none
def arb(P:Program)(id:Nat)(b:Builtin)(ts:List TypeId)(xs:List LV):Ask Stp:=match b,ts,xs with
 | .len,[t],[x]=>match lr x with
  |some x=>(aDY P t x).map fun n=>n.map fun n=>(none,.one (.sc (.int .i64 n)),[])
  |none=>.ret none
 | .append,[t,u],[s,x]=>match lr s,lr x with
  |some s,some (.int _ n)=>Sc P id t u s n.val
  |some s,some x=>afs P id t u s x
  |_,_=>.ret none
 | .copy,[t,u],[s,x]=>match lr s,lr x with
  |some s,some x=>Sd P t u s x
  |_,_=>.ret none
 | .min,_,x::l=>.ret (match lr x,ft lr l with
  |some (.int k x),some l=>(y4 afq k x l).map fun n=>(none,.one (.sc (.int k n)),[])
  |_,_=>none)
 | .max,_,x::l=>.ret (match lr x,ft lr l with
  |some (.int k x),some l=>(y4 afr k x l).map fun n=>(none,.one (.sc (.int k n)),[])
  |_,_=>none)
 |_,_,_=>.ret none
noncomputable section
variable {P:Program} {W:World} {bP:Hp} {β₀ β:Env} {hp:Hp} {w:World}
theorem GI{β:Env}{pm:Bool}{ty:Ty}{t e:TypeId}(hu:P.underlying t=some (.slice e)){v:Value}{m:List ty.D}(h:dw β pm w v ty m):∃news,Src P ty.w t v m.length news w∧cI (ty.has β pm) m news:=by
 obtain⟨a,n,c,rfl,rfl,hc,_,hr⟩:=h;rcases Nat.eq_zero_or_pos m.length with h0|h0
 ·have:m= []:=List.eq_nil_of_length_eq_zero h0;subst this;refine⟨[],?_,.nil⟩;cases a with
  |none=>exact Src.ofNil w hu c
  |some a=>exact Src.ofSlice w hu a 0 c [] (by simp) (fun j u h=>by simp at h) (fun u h=>by cases h)
 ·obtain⟨a0,gq,rfl,h1,h2,h3⟩:=hr h0;exact⟨gq,Src.ofSlice w hu a0 m.length c gq (dh h2) (fun j u hj=>h3 j u hj) (nk h2),h2⟩
theorem F9{β:Env}(l:ab):cI ((Ty.int .u8).has β true) (l.map fun n=>((UInt8.ofNat n.toNat).toNat:Int)) (byteCells (strOf l)):=by
 have:byteCells (strOf l)=(l.map fun n=>((UInt8.ofNat n.toNat).toNat:Int)).map (Value.int .u8):=by
  simp[byteCells,strOf]
 rw[this];generalize (l.map fun n=>((UInt8.ofNat n.toNat).toNat:Int))=m;induction m with
 |nil=>exact .nil
 |cons x m ih=>exact cI.cons (vs:= [_]) rfl ih
theorem afu(h:cN W bP β₀ β hp w){ty:Ty}{t:TypeId}{x:SV}{pm:Bool}{m:List ty.D}(hs:(afp P ty t x).val hp=some (pm,m))(hf:(pm||ty.flat)=true){v:Value}(hd:x.den β (kd hp) v):
  ∃news,Src P ty.w t v m.length news w∧cI (ty.has β true) m news:=by
 unfold afp at hs;split at hs
 ·rename_i e ru;obtain⟨news,h1,h2⟩:=GI (P:=P) (fZ ru) (pC h hs hd);refine⟨news,h1,?_⟩;cases pm with
  |true=>exact h2
  |false=>exact h2.imp fun _ _=>ty.uG (by simpa using hf)
 ·split at hs
  ·rename_i hu;simp only[Ask.val]at hs;split at hs
   ·rename_i e;subst e;obtain⟨l,hl,he⟩:=map_some hs;cases he;have hv:=lq hl hd;subst hv;refine⟨byteCells (strOf l),?_,F9 l⟩;have:=Src.ofString (P:=P) w hu (strOf l);rw[uH]at this;rw[List.length_map];exact this
   ·cases hs
  ·simp[Ask.val]at hs
theorem CY{el:TypeId}{z:List SV}{n:Nat}(hz:pB P el=some z)(hw:wL z=n):∃i zv,P.info? el=some i∧i.zero=some zv∧zv.cells.size=n:=by
 unfold pB at hz;split at hz
 ·rename_i i lay hi _;split at hz
  ·rename_i zv W3;have:=(tk (β:=⟨fun _=>0,fun _=>.nilIface,fun _ _ _ _=>False⟩) (L:=fun _=>none) _ _ hz).length;exact⟨i,zv,hi,W3,by simpa [hw]using this⟩
  ·cases hz
 ·cases hz
theorem uN{t u el ty_:TypeId}{ty:Ty}{z:List SV}{by_:Nat}(ru:gv P t=some el)(hs:fF P el=some ty.w)(lp:0<ty.w)(hz:pB P el=some z)(hwz:wL z=ty.w)(H8:rU P el=some by_) {hd:Value} {l m:List ty.D} (tZ:eY β w hd ty l) {x:Value} {news:List Value} (y5:Src P ty.w u x m.length news w) (lZ:cI (ty.has β true) m news) (hb1:(l.length+m.length)*by_≤70368744177664) (CV:l.length+m.length≤70368744177664):∃v' w',(Builtin.append_ #[t,u] ty_ #[hd,x]).run P w= .ok v' w'∧eY β w' v' ty (l++m)∧w.heap.size≤w'.heap.size∧w'.os=w.os∧w'.output=w.output∧(∀b,b<w.heap.size→¬ (∃a n c,hd= .slice (some a) n c∧0<c∧a.block=b)→w'.heap[b]? =w.heap[b]?)∧(∀a n c,v'= .slice (some a) n c→0<c→(∃n' c',hd= .slice (some a) n' c'∧0<c')∨w.heap.size≤a.block):=by
 obtain⟨base,n,c,rfl,hn,W2,ns,gQ⟩:=tZ;have hu:=fZ ru;obtain⟨i,zv,hi,W3,hzs⟩:=CY (P:=P) hz hwz;have his:i.size=ty.w:=by unfold fF at hs;rw[hi]at hs;simpa using hs
 have hib:i.bytes=by_:=by unfold rU at H8;rw[hi]at H8;simpa using H8
 by_cases Oz:n+m.length≤c
 ·
  rcases Nat.eq_zero_or_pos c with h0|h0
  ·have RT:l= []:=List.eq_nil_of_length_eq_zero (by omega);have hm0:m= []:=List.eq_nil_of_length_eq_zero (by omega);subst RT hm0;have hnw:news= []:=(by cases lZ;rfl);subst hnw;refine⟨.slice base n c,w,?_,⟨base,n,c,rfl,hn,W2,ns,gQ⟩,Nat.le_refl _,rfl,rfl,fun _ _ _=>rfl,fun a n' c' e h=>by simp at e;omega⟩;have hle:n≤c:=W2;have afw:=y5.cells;have hlen:=y5.len;have hr2:n+0≤c:=(by simpa using W2);simp only[List.length_nil]at hlen afw;rcases y5.kind with⟨e',hk⟩|hk<;>cases base<;>simp[Builtin.append_,run_underlying hu,run_underlying hk,sizeOf,typeInfo,hi,his,hlen,afw,hle,storeCells]
  ·obtain⟨a0,pre,gq,rest,elem,fz,rfl,k1,k2,k3,k4,k5,k6⟩:=gQ h0;have hnl:news.length=m.length*ty.w:=dh lZ;have hvl:gq.length=n*ty.w:=(by rw[dh k4,hn]);have hrl:m.length*ty.w≤rest.length:=Nat.le_trans (Nat.mul_le_mul_right _ (by omega)) k5
   obtain⟨w',r1,r2,r3,r4,r5,r6⟩:=fU (P:=P) (a:=a0.add (n*ty.w)) (py k1 _) (elem:=elem) (fz:=fz) news 0 (pre++gq) (rest.take (m.length*ty.w)) (rest.drop (m.length*ty.w)) w
    (by rw[fY,k2];simp) (by
     obtain⟨b0,o0,s0⟩:=a0;simp at k1 k3;subst k1;rw[dN];simp[k3,hvl]) (by rw[hnl,List.length_take,Nat.min_eq_left hrl]) (nk lZ) (fun off q1 q2=>k6.not (by simp[hnl]at q2 ⊢;omega))
   rw[fY]at r2 r3;refine⟨.slice (some a0) (n+m.length) c,w',?_,⟨some a0,n+m.length,c,rfl,by simp[hn],Oz,by simp,fun _=>⟨a0,pre,gq++news,rest.drop (m.length*ty.w),elem,fz,rfl,k1,?_,k3,k4.append lZ,?_,?_⟩⟩,by omega,r5,r6,fun b _ rC=>r3 b fun e=>rC ⟨a0,n,c,rfl,h0,e.symm⟩,fun a n' c' e _=>.inl (by simp at e;obtain⟨rfl,_,_⟩:=e;exact⟨n,c,rfl,h0⟩)⟩
   ·rcases y5.kind with⟨e',hk⟩|hk<;>simp[Builtin.append_,run_underlying hu,run_underlying hk,sizeOf,typeInfo,hi,his,y5.len,Oz,y5.cells,r1]
   ·rw[r2];simp
   ·rw[List.length_drop];have:(c-(n+m.length))*ty.w=(c-n)*ty.w-m.length*ty.w:=(by rw[← Nat.sub_sub,Nat.sub_mul]);omega
   ·have:(pre++((gq++news)++rest.drop (m.length*ty.w))).length=(pre++(gq++rest)).length:=(by simp[hnl];omega);rw[this];exact k6
 ·
  have hg:c<n+m.length:=by omega
  have ab3:Builtin.nextslicecap (n+m.length) c*i.bytes≤281474976710656:=growslice_fits hg (by rw[hib,hn];omega);have holds:∃r9,cI (ty.has β true) l r9∧∀ (w':World),(∀b,b<w.heap.size→w'.heap[b]? =w.heap[b]?)→(Builtin.firstCells i.size n (.slice base n c)).run P w'= .ok r9.toArray w':=by
   rcases Nat.eq_zero_or_pos c with h0|h0
   ·have RT:l= []:=List.eq_nil_of_length_eq_zero (by omega);have AU:n=0:=(by omega);subst RT AU;refine⟨[],.nil,fun w' _=>?_⟩;cases base with
    |none=>simp[Builtin.firstCells]
    |some a=>simp[Builtin.firstCells,loadCells,loadCellsFrom]
   ·obtain⟨a0,pre,gq,rest,elem,fz,rfl,k1,k2,k3,k4,k5,k6⟩:=gQ h0;refine⟨gq,k4,fun w' hw'=>?_⟩;have hvl:gq.length=n*i.size:=(by rw[dh k4,hn,his]);have iZ:a0.block<w.heap.size:=(Array.getElem?_eq_some_iff.1 k2).1;refine run_firstCells_some (P:=P) w' i.size n a0 n c gq hvl fun j u hj=>?_;have hh:fu w a0 gq:=by
     have:=gI k2;obtain⟨b0,o0,s0⟩:=a0;simp at k1 k3;subst k1 k3;exact this
    exact hh.of (fun _=>hw' _ iZ) j u hj
  obtain⟨r9,OA,Ga⟩:=holds;have N9:Src P i.size u x m.length news w:=by rw[his];exact y5
  have gp:=run_append_grow_src (P:=P) w t u ty_ el i zv hu hi W3 base n c r9 (Ga _ (fun _ _=>rfl)) x m.length news N9 hg (by omega) ab3;have F7:=grownCap_ge w (n+m.length) c el;have hzc:(Builtin.zeroCells zv.cells (grownCap w (n+m.length) c el-(n+m.length))).size=(grownCap w (n+m.length) c el-(n+m.length))*ty.w:=by simp[Builtin.zeroCells,hzs]
  generalize aMc:grownCap w (n+m.length) c el=cap at gp F7 hzc;have rB:((r9++news).toArray++Builtin.zeroCells zv.cells (cap-(n+m.length)))=((r9++news)++(Builtin.zeroCells zv.cells (cap-(n+m.length))).toList).toArray:=by
   apply Array.ext';simp
  rw[rB]at gp
  have kr:=pF (β:=β) (w:=w.drew.alloc (.cells ((r9++news)++(Builtin.zeroCells zv.cells (cap-(n+m.length))).toList).toArray el)) (b:=w.heap.size) (t:=ty) (l:=l++m) (elem:=el) (fz:=(0,0)) (c:=cap)
   (heap_alloc_new w.drew _) (OA.append lZ) (by simp;omega) (Nat.le_of_eq (by rw[List.length_append,← hn];exact(Array.length_toList.trans hzc).symm)) (.inl rfl)
  refine⟨_,_,gp,?_,?_,rfl,rfl,fun b hb _=>heap_alloc_old w.drew _ b hb,fun a n' c' e _=>.inr (by simp at e;obtain⟨rfl,_,_⟩:=e;exact Nat.le_refl _)⟩
  ·rw[List.length_append,← hn]at kr;exact kr
  ·show w.heap.size≤(w.drew.alloc _).heap.size;rw[World.size_alloc];exact Nat.le_succ _
theorem vS{t u el ty_:TypeId}{ty:Ty}{z:List SV}{by_:Nat}(ru:gv P t=some el)(hs:fF P el=some ty.w)(lp:0<ty.w)(hz:pB P el=some z)(hwz:wL z=ty.w)(H8:rU P el=some by_) {hd:Value} {l:List ty.D} (tZ:eY β w hd ty l) {kn kq:IntKind} (hku:P.underlying u=some (.int kn)) {z0:ty.D} (hz0:ty.read true z=some z0) (k:Nat) (hb1:(l.length+k)*by_≤70368744177664) (CV:l.length+k≤70368744177664):∃v' w',(Builtin.append_ #[t,u] ty_ #[hd,.int kq k]).run P w= .ok v' w'∧eY β w' v' ty (l++List.replicate k z0)∧w.heap.size≤w'.heap.size∧w'.os=w.os∧w'.output=w.output∧(∀b,b<w.heap.size→¬ (∃a n c,hd= .slice (some a) n c∧0<c∧a.block=b)→w'.heap[b]? =w.heap[b]?)∧(∀a n c,v'= .slice (some a) n c→0<c→(∃n' c',hd= .slice (some a) n' c'∧0<c')∨w.heap.size≤a.block):=by
 obtain⟨base,n,c,rfl,hn,W2,ns,gQ⟩:=tZ;have hu:=fZ ru;obtain⟨i,zv,hi,W3,hzs⟩:=CY (P:=P) hz hwz;have his:i.size=ty.w:=by unfold fF at hs;rw[hi]at hs;simpa using hs
 have hib:i.bytes=by_:=by unfold rU at H8;rw[hi]at H8;simpa using H8
 have hzr:(zeroValue el).run P w= .ok zv w:=by simp[zeroValue,typeInfo,hi,W3]
 obtain⟨zv',aMd,hzd⟩:=rW (P:=P) (w:=w) (β:=β) (L:=fun _=>none) hz;obtain rfl:zv'=zv:=by rw[hzr]at aMd;injection aMd with e;exact e.symm
 have hzh:=ty.kt hz0 hzd;have lZ:cI (ty.has β true) (List.replicate k z0) ((List.replicate k zv'.cells.toList).flatten):=CX hzh _
 have aMe:∀m,Builtin.zeroCells zv'.cells m=((List.replicate m zv'.cells.toList).flatten).toArray:=fun m=>by
  rw[← oS m hzs];unfold Builtin.zeroCells;rw[hzs]
 have aDW:i64.wrap (k:Int)=k:=by rw[IntKind.wrap_i64];omega
 have aXo:¬ ((k:Int)<0):=by omega
 have aXp:¬ (281474976710656<(k:Int)*(i.bytes:Int)):=by
  rw[← Int.natCast_mul,hib];have:k*by_≤(l.length+k)*by_:=Nat.mul_le_mul_right _ (by omega);omega
 generalize hnw:(List.replicate k zv'.cells.toList).flatten=news at lZ;by_cases Oz:n+k≤c
 ·
  rcases Nat.eq_zero_or_pos c with h0|h0
  ·have RT:l= []:=List.eq_nil_of_length_eq_zero (by omega);have hm0:k=0:=(by omega);subst RT hm0;refine⟨.slice base n c,w,?_,⟨base,n,c,rfl,hn,W2,ns,gQ⟩,Nat.le_refl _,rfl,rfl,fun _ _ _=>rfl,fun a n' c' e h=>by simp at e;omega⟩;have hle:n≤c:=W2;have hw0:i64.wrap 0=0:=rfl;cases base<;>simp[Builtin.append_,run_underlying hu,run_underlying hku,sizeOf,typeInfo,hi,his,hle,storeCells,asInt,asIntOf,hw0]
  ·obtain⟨a0,pre,gq,rest,elem,fz,rfl,k1,k2,k3,k4,k5,k6⟩:=gQ h0;have hnl:news.length=k*ty.w:=(by rw[dh lZ,List.length_replicate]);have hvl:gq.length=n*ty.w:=(by rw[dh k4,hn]);have hrl:k*ty.w≤rest.length:=Nat.le_trans (Nat.mul_le_mul_right _ (by omega)) k5
   obtain⟨w',r1,r2,r3,r4,r5,r6⟩:=fU (P:=P) (a:=a0.add (n*ty.w)) (py k1 _) (elem:=elem) (fz:=fz) news 0 (pre++gq) (rest.take (k*ty.w)) (rest.drop (k*ty.w)) w
    (by rw[fY,k2];simp) (by
     obtain⟨b0,o0,s0⟩:=a0;simp at k1 k3;subst k1;rw[dN];simp[k3,hvl]) (by rw[hnl,List.length_take,Nat.min_eq_left hrl]) (nk lZ) (fun off q1 q2=>k6.not (by simp[hnl]at q2 ⊢;omega))
   rw[fY]at r2 r3;refine⟨.slice (some a0) (n+k) c,w',?_,⟨some a0,n+k,c,rfl,by simp[hn],Oz,by simp,fun _=>⟨a0,pre,gq++news,rest.drop (k*ty.w),elem,fz,rfl,k1,?_,k3,k4.append lZ,?_,?_⟩⟩,by omega,r5,r6,fun b _ rC=>r3 b fun e=>rC ⟨a0,n,c,rfl,h0,e.symm⟩,fun a n' c' e _=>.inl (by simp at e;obtain⟨rfl,_,_⟩:=e;exact⟨n,c,rfl,h0⟩)⟩
   ·rcases Nat.eq_zero_or_pos k with hk0|hk0
    ·subst hk0;have hw0:i64.wrap 0=0:=rfl;have AU:news= []:=(by rw[← hnw];rfl);rw[AU]at r1;have aD2:n≤c:=W2;simp[Builtin.append_,run_underlying hu,run_underlying hku,sizeOf,typeInfo,hi,his,aD2,r1,asInt,asIntOf,hw0]
    ·have hns:¬ (k*ty.w=0):=Nat.mul_ne_zero (by omega) (by omega);have hzk:Builtin.zeroCells zv'.cells k=news.toArray:=(by rw[aMe k,hnw]);simp[Builtin.append_,run_underlying hu,run_underlying hku,sizeOf,typeInfo,hi,W3,zeroValue,his,Oz,r1,asInt,asIntOf,aDW,aXo,aXp,hns,hzk]
   ·rw[r2];simp
   ·rw[List.length_drop];have:(c-(n+k))*ty.w=(c-n)*ty.w-k*ty.w:=(by rw[← Nat.sub_sub,Nat.sub_mul]);omega
   ·have:(pre++((gq++news)++rest.drop (k*ty.w))).length=(pre++(gq++rest)).length:=(by simp[hnl];omega);rw[this];exact k6
 ·
  have hg:c<n+k:=by omega
  have ab3:Builtin.nextslicecap (n+k) c*i.bytes≤281474976710656:=growslice_fits hg (by rw[hib,hn];omega);have holds:∃r9,cI (ty.has β true) l r9∧∀ (w':World),(∀b,b<w.heap.size→w'.heap[b]? =w.heap[b]?)→(Builtin.firstCells i.size n (.slice base n c)).run P w'= .ok r9.toArray w':=by
   rcases Nat.eq_zero_or_pos c with h0|h0
   ·have RT:l= []:=List.eq_nil_of_length_eq_zero (by omega);have AU:n=0:=(by omega);subst RT AU;refine⟨[],.nil,fun w' _=>?_⟩;cases base with
    |none=>simp[Builtin.firstCells]
    |some a=>simp[Builtin.firstCells,loadCells,loadCellsFrom]
   ·obtain⟨a0,pre,gq,rest,elem,fz,rfl,k1,k2,k3,k4,k5,k6⟩:=gQ h0;refine⟨gq,k4,fun w' hw'=>?_⟩;have hvl:gq.length=n*i.size:=(by rw[dh k4,hn,his]);have iZ:a0.block<w.heap.size:=(Array.getElem?_eq_some_iff.1 k2).1;refine run_firstCells_some (P:=P) w' i.size n a0 n c gq hvl fun j u hj=>?_;have hh:fu w a0 gq:=by
     have:=gI k2;obtain⟨b0,o0,s0⟩:=a0;simp at k1 k3;subst k1 k3;exact this
    exact hh.of (fun _=>hw' _ iZ) j u hj
  obtain⟨r9,OA,Ga⟩:=holds
  have gp:=Go.Lib.run_append_grow_zeros (P:=P) w t u ty_ el i zv' kq kn hu hku hi W3 base n c r9 (Ga _ (fun _ _=>rfl)) k (by omega) (by omega) hg (by omega) (by
   have:k*by_≤(l.length+k)*by_:=Nat.mul_le_mul_right _ (by omega);rw[hib];omega) ab3
  rw[show(r9.toArray++Builtin.zeroCells zv'.cells k)=(r9++news).toArray from by rw[aMe k,hnw];simp]at gp;have F7:=grownCap_ge w (n+k) c el;have hzc:(Builtin.zeroCells zv'.cells (grownCap w (n+k) c el-(n+k))).size=(grownCap w (n+k) c el-(n+k))*ty.w:=by simp[Builtin.zeroCells,hzs]
  generalize aMc:grownCap w (n+k) c el=cap at gp F7 hzc;have rB:((r9++news).toArray++Builtin.zeroCells zv'.cells (cap-(n+k)))=((r9++news)++(Builtin.zeroCells zv'.cells (cap-(n+k))).toList).toArray:=by
   apply Array.ext';simp
  rw[rB]at gp
  have kr:=pF (β:=β) (w:=w.drew.alloc (.cells ((r9++news)++(Builtin.zeroCells zv'.cells (cap-(n+k))).toList).toArray el)) (b:=w.heap.size) (t:=ty) (l:=l++List.replicate k z0) (elem:=el) (fz:=(0,0)) (c:=cap)
   (heap_alloc_new w.drew _) (OA.append lZ) (by simp;omega) (Nat.le_of_eq (by rw[List.length_append,List.length_replicate,← hn];exact(Array.length_toList.trans hzc).symm)) (.inl rfl)
  refine⟨_,_,gp,?_,?_,rfl,rfl,fun b hb _=>heap_alloc_old w.drew _ b hb,fun a n' c' e _=>.inr (by simp at e;obtain⟨rfl,_,_⟩:=e;exact Nat.le_refl _)⟩
  ·rw[List.length_append,List.length_replicate,← hn]at kr;exact kr
  ·show w.heap.size≤(w.drew.alloc _).heap.size;rw[World.size_alloc];exact Nat.le_succ _
end
noncomputable section
variable {P:Program} {W:World} {bP:Hp} {β₀ β:Env} {hp:Hp} {w:World}
theorem H9{α:Type}(l:List α)(z len:Nat)(m:List α):cP l z len m=l.take z++(m.take (min m.length len)++l.drop (z+min m.length len)):=by
 unfold cP;rw[Nat.min_comm len m.length];congr 2;rcases Nat.le_total m.length len with h|h
 ·rw[Nat.min_eq_left h,List.take_of_length_le h,List.take_length]
 ·rw[Nat.min_eq_right h]
theorem sa{α:Type}{l:List α}{z len:Nat}{m:List α}(h:z+len≤l.length):(cP l z len m).length=l.length:=by
 rw[H9];simp only[List.length_append,List.length_take,List.length_drop];omega
theorem vT{β:Env}{pm:Bool}{t u el e' ty_:TypeId}{ty:Ty}(ru:gv P t=some el)(hu:gv P u=some e')(hs:fF P el=some ty.w){v:Value}{m:List ty.D}(hr:dw β pm w v ty m)(Ia c:Nat):∃ws,cI (ty.has β pm) (m.take (min m.length Ia)) ws∧∀ (base:Option Addr) (w':World),(∀a,base=some a→(storeCells a ws).run P w= .ok () w')→(base=none→w'=w)→(Builtin.copy_ #[t,u] ty_ #[.slice base Ia c,v]).run P w= .ok (.int .i64 ((min m.length Ia:Nat):Int)) w':=by
 obtain⟨a,n,c',rfl,rfl,hc,_,gQ⟩:=hr;have key:∃ws,cI (ty.has β pm) (m.take (min m.length Ia)) ws∧(Builtin.firstCells ty.w (min m.length Ia) (.slice a m.length c')).run P w= .ok ws.toArray w:=by
  rcases Nat.eq_zero_or_pos m.length with h0|h0
  ·have:m= []:=List.eq_nil_of_length_eq_zero h0;subst this;refine⟨[],by simpa using cI.nil,?_⟩;cases a with
   |none=>simp[Builtin.firstCells]
   |some a=>simp[Builtin.firstCells,loadCells,loadCellsFrom]
  ·obtain⟨a0,gq,rfl,h1,h2,h3⟩:=gQ h0;obtain⟨v1,v2,rfl,k1,k2⟩:=j8 h2 (min m.length Ia);refine⟨v1,k1,?_⟩;have hl:v1.length=min m.length Ia*ty.w:=(by rw[dh k1,List.length_take];congr 1;omega);have hh:fu w a0 v1:=fun i x hi=>h3 i x (by rw[List.getElem?_append_left (List.getElem?_eq_some_iff.1 hi).1];exact hi);have:=oo (P:=P) hh;rw[hl]at this;exact this
 obtain⟨ws,h1,h2⟩:=key;refine⟨ws,h1,fun base w' hw hn=>?_⟩;have aXq:Nat.min m.length Ia=min m.length Ia:=rfl;unfold Builtin.copy_;simp only[List.getElem?_toArray,List.getElem?_cons_zero,List.getElem?_cons_succ,Sem.run_bind,run_underlying (fZ ru),Result.andThen_ok,Builtin.lenOf,Sem.run_pure,run_sizeOf hs,aXq,h2];cases base with
 |none=>rw[hn rfl];rfl
 |some a=>simp only[Sem.run_bind,hw a rfl];rfl
theorem y6{β:Env}{ty:Ty}{l m:List ty.D}{z len:Nat}{gq ws:List Value}(h:cI (ty.has β true) l gq)(hz:z+len≤l.length)(hw:cI (ty.has β true) (m.take (min m.length len)) ws):∃p old r,gq=p++(old++r)∧p.length=z*ty.w∧old.length=ws.length∧cI (ty.has β true) (cP l z len m) (p++(ws++r)):=by
 obtain⟨p,v2,rfl,k1,k2⟩:=j8 h z;obtain⟨old,r,rfl,k3,k4⟩:=j8 k2 (min m.length len);refine⟨p,old,r,rfl,?_,?_,?_⟩
 ·rw[dh k1,List.length_take,Nat.min_eq_left (by omega)]
 ·rw[dh k3,dh hw,List.length_take,List.length_take,List.length_drop];congr 1;omega
 ·rw[H9];rw[List.drop_drop]at k4;exact k1.append (hw.append k4)
theorem cN.W4(h:cN W bP β₀ β hp w){i ver:Nat}{t:Ty}{l m:List t.D}(hi:hp[i]? =some (some (.own ver t l))){a:Option Addr}{n c:Nat}(he:β.h i= .slice a n c){z len:Nat}(hz:z+len≤l.length) {ws:List Value} (hw:cI (t.has β true) (m.take (min m.length len)) ws):∃w' β',(∀a0,a=some a0→(storeCells (a0.add (z*t.w)) ws).run P w= .ok () w')∧(a=none→w'=w)∧(ws= []→w'=w)∧cN W bP β₀ β' (cL hp i (.own ver t (cP l z len m))) w'∧dx β β' (kd hp) (kd (cL hp i (.own ver t (cP l z len m)))):=by
 have hit:eY β w (β.h i) t l:=h.items _ _ hi;have aXr:=hit;obtain⟨a',n',c',e,hn1,hn2,ns,h4⟩:=hit;rw[he]at e;simp at e;obtain⟨rfl,rfl,rfl⟩:=e;rcases Nat.eq_zero_or_pos c with hc|hc
 ·have RT:l= []:=List.eq_nil_of_length_eq_zero (by omega);subst RT;have hlen:len=0:=by simp at hz;omega
  subst hlen;have hws:ws= []:=by
   have:=dh hw;simp only[Nat.min_zero,List.take_zero,List.length_nil,Nat.zero_mul]at this;exact List.eq_nil_of_length_eq_zero this
  subst hws;have Oa:cP ([]:List t.D) z 0 m= []:=by rw[H9];simp
  rw[Oa];obtain⟨β',s1,s2,_⟩:=h.yZ hi (ver':=ver) (l':= []) (v:=β.h i) (w':=w) (.inr ⟨rfl,rfl⟩) (Nat.le_refl _) rfl rfl (fun _ _ _=>rfl) aXr (fun a n c e h0=>.inl ⟨a,n,c,e,h0,rfl⟩);exact⟨w,β',fun a0 _=>rfl,fun _=>rfl,fun _=>rfl,s1,s2⟩
 ·obtain⟨a0,pre,gq,rest,elem,fz,rfl,k1,k2,k3,k4,k5,k6⟩:=h4 hc;obtain⟨p,old,r,rfl,e1,e2,h9⟩:=y6 k4 hz hw
  obtain⟨w',r1,r2,r3,r4,r5,r6⟩:=fU (P:=P) (a:=a0.add (z*t.w)) (py k1 _) (elem:=elem) (fz:=fz) ws 0 (pre++p) old (r++rest) w
   (by rw[fY,k2];simp) (by
    obtain⟨b0,o0,s0⟩:=a0;simp at k1 k3;subst k1;rw[dN];simp[k3,e1]) e2 (nk hw) (fun off q1 q2=>k6.not (by simp at q2 ⊢;omega))
  rw[fY]at r2 r3
  obtain⟨β',s1,s2,s3⟩:=h.yZ hi (ver':=ver) (l':=cP l z len m) (v:=β.h i) (w':=w') (.inr ⟨rfl,rfl⟩) (by omega) r5 r6 (fun b hb rC=>by
    refine r3 b fun e=>rC ?_;subst e;exact⟨a0,n,c,he,hc,rfl⟩)
   (by
    rw[he];refine⟨some a0,n,c,rfl,by rw[sa hz];exact hn1,hn2,by simp,fun _=>⟨a0,pre,p++(ws++r),rest,elem,fz,rfl,k1,?_,k3,h9,k5,?_⟩⟩
    ·rw[r2];simp
    ·have:(pre++(p++(ws++r)++rest)).length=(pre++(p++(old++r)++rest)).length:=(by simp[e2]);rw[this];exact k6)
   (fun a n c e h0=>.inl ⟨a,n,c,e,h0,rfl⟩)
  refine⟨w',β',fun a1 e=>by simp at e;subst e;exact r1,fun e=>(by cases e),fun e=>?_,s1,s2⟩;subst e;have:(storeCells (a0.add (z*t.w)) []).run P w= .ok () w:=rfl;rw[this]at r1;cases r1;rfl
theorem cN.ard(h:cN W bP β₀ β hp w){b o:Nat}{t:Ty}{k:Nat}{cells cells':List SV}{elem:TypeId}{l m:List t.D}(hi:hp[b]? =some (some (.cK cells elem)))(lX:rowAt cells o=some (.arr t k l)){z len:Nat}(hz:z+len≤k) (uJ:lY cells o (.arr t k (cP l z len m))=some cells') {ws:List Value} (hw:cI (t.has β true) (m.take (min m.length len)) ws):∃w',(storeCells ((⟨β.b b,o,none⟩:Addr).add (z*t.w)) ws).run P w= .ok () w'∧(ws= []→w'=w)∧cN W bP β₀ β (cL hp b (.cK cells' elem)) w'∧dx β β (kd hp) (kd (cL hp b (.cK cells' elem))):=by
 obtain⟨cs,fz,g1,g2,g3,_⟩:=h.k9 hi;have hlk:l.length=k:=by
  obtain⟨_,_,_,_,_,hh,_⟩:=rX _ _ lX g3;exact hh
 obtain⟨pre,mid,post,rfl,e3,_,h6,h7⟩:=oq _ _ lX uJ g3 (by rw[sa (by omega)];exact hlk);obtain⟨p,old,r,rfl,e1,e2,h9⟩:=y6 (z:=z) (len:=len) h6 (by rw[hlk];exact hz) hw
 obtain⟨w',r1,r2,r3,r4,r5,r6⟩:=fU (P:=P) (a:=⟨β.b b,o+z*t.w,none⟩) rfl (elem:=elem) (fz:=fz) ws 0 (pre++p) old (r++post) w
  (by rw[g1];simp) (by simp[e3,e1]) e2 (nk hw) (fun off q1 q2=>g2.not (by simp at q2 ⊢;omega))
 obtain⟨s1,s2⟩:=h.H4 hi (cells':=cells') (w':=w') (by omega) r5 r6 r3 (c:=pre++((p++(ws++r))++post)) (fz:=fz)
  (by rw[r2];simp) (by
   have:(pre++((p++(ws++r))++post)).length=(pre++((p++(old++r))++post)).length:=(by simp[e2]);rw[this];exact g2) (h7 _ h9)
 refine⟨w',by rw[dN];exact r1,fun e=>?_,s1,s2⟩;subst e;have:(storeCells ⟨β.b b,o+z*t.w,none⟩ []).run P w= .ok () w:=rfl;rw[this]at r1;cases r1;rfl
theorem Ai{L:Nat→Option Kd}{ty:Ty}:∀ {l:List ty.D} {vs:List Value},cI (ty.has β true) l vs→dc β L (l.flatMap (ty.Gz true)) vs
 | [],_,h=>by cases h;exact .nil
 |x::l,_,.cons h t=>by rw[List.flatMap_cons];exact(ty.oR h).append (Ai t)
theorem CZ{α:Type}(l:List α)(d:α):(List.range l.length).map (fun j=>l.getD j d)=l:=by
 apply List.ext_getElem
 ·simp
 ·intro i h1 h2;simp at h1 ⊢;simp[h1]
theorem are{st:St}{a:Act}(hr:Rel W bP β₀ β st a w){t u ty_:TypeId}{d x:SV}{q:Option Prop}{v:LV}{dl:List (Nat×bE)}(h:(Sd P t u d x).val st.hp=some (q,v,dl)){dv xv:Value}(hd:d.den β (kd st.hp) dv)(hx:x.den β (kd st.hp) xv):∃ (β':Env) (w':World) (val:Value),(Builtin.copy_ #[t,u] ty_ #[dv,xv]).run P w= .ok val w'∧v.den β' (kd (cq dl st.hp)) val∧cN W bP β₀ β' (cq dl st.hp) w'∧dx β β' (kd st.hp) (kd (cq dl st.hp)):=by
 unfold Sd at h;split at h
 ·simp[Ask.val]at h
 rename_i el ru;split at h
 rotate_left
 ·simp[Ask.val]at h
 rename_i ty sz hty hs;split at h
 rotate_left
 ·simp[Ask.val]at h
 rename_i pE;obtain⟨rfl,lp⟩:=pE;rw[Ask.gC]at h;split at h
 rotate_left
 ·simp[Ask.val]at h
 rename_i pm m hc;split at h
 rotate_left
 ·simp[Ask.val]at h
 rename_i hf;have hu:∃e',gv P u=some e'∧(ly ty x).val st.hp=some (pm,m):=by
  split at hc
  ·rename_i e' he;exact⟨e',he,hc⟩
  ·simp[Ask.val]at hc
 obtain⟨e',hu,hc⟩:=hu;have r8:=pC hr.heap hc hx;have W5:∀ {k:Nat} {ws:List Value},cI (ty.has β pm) (m.take k) ws→cI (ty.has β true) (m.take k) ws:=by
  intro k ws hh;cases pm with
  |true=>exact hh
  |false=>exact hh.imp fun _ _=>ty.uG (by simpa using hf)
 split at h
 ·
  rename_i i ver;simp only[Ask.val]at h;split at h
  ·rename_i ver' yO l hi;split at h
   ·rename_i e;subst e;split at h
    ·rename_i e;subst e;cases h;obtain⟨tZ,hh⟩:=hr.heap.rY (p:=fun v=>dv=v) (cf hi) hd.2;obtain⟨base,n,c,e1,hn,_⟩:=tZ;obtain⟨ws,k1,k2⟩:=vT (ty_:=ty_) ru hu hs r8 n c;rw[hn]at k1;obtain⟨w',β',r1,r2,_,r3,r4⟩:=hr.heap.W4 (P:=P) (cf hi) e1 (z:=0) (len:=l.length) (by omega) (W5 k1);have gp:=k2 base w' (fun a0 e=>by have:=r1 a0 e;rw[Nat.zero_mul]at this;exact this) r2;refine⟨β',w',_,by rw[hh,e1];exact gp,?_,r3,r4⟩;rw[hn];rfl
    ·cases h
   ·cases h
  ·cases h
 ·
  rename_i i ver w0 z n;simp only[Ask.val]at h;split at h
  ·rename_i ver' yO l hi;split at h
   ·rename_i e;subst e;split at h
    ·rename_i e;obtain⟨rfl,rfl⟩:=e;cases h;obtain⟨tZ,hh⟩:=hr.heap.rY (p:=fun v=>z9 v yO.w z n dv) (cf hi) hd.2;obtain⟨base,n1,c1,e1,hn,_⟩:=tZ;obtain⟨a2,m2,c2,a3,c3,e2,z0,n0,hle,rfl,_,_,vR⟩:=hh;rw[e1]at e2;simp at e2;obtain⟨rfl,rfl,rfl⟩:=e2;obtain⟨ws,k1,k2⟩:=vT (ty_:=ty_) ru hu hs r8 n.toNat c3;obtain⟨w',β',r1,r2,r0,r3,r4⟩:=hr.heap.W4 (P:=P) (cf hi) e1 (z:=z.toNat) (len:=n.toNat) (by omega) (W5 k1);refine⟨β',w',_,k2 a3 w' (fun a0 e=>?_) (fun e=>?_),rfl,r3,r4⟩
     ·rcases Int.lt_or_le 0 n with h0|h0
      ·obtain⟨a4,e4,e5⟩:=vR h0;rw[e]at e5;simp at e5;subst e5;exact r1 _ e4
      ·have:ws= []:=by
        have:=dh k1;rw[show n.toNat=0 from by omega]at this;simp at this;exact this
       subst this;rw[r0 rfl];rfl
     ·rcases Int.lt_or_le 0 n with h0|h0
      ·obtain⟨a4,e4,e5⟩:=vR h0;rw[e]at e5;cases e5
      ·have:ws= []:=by
        have:=dh k1;rw[show n.toNat=0 from by omega]at this;simp at this;exact this
       exact r0 this
    ·cases h
   ·cases h
  ·cases h
 ·
  rename_i b o' ty0 k z n;simp only[Ask.val]at h;split at h
  ·rename_i cells elem hi;split at h
   ·rename_i yO k' l lX;split at h
    ·rename_i e;subst e;split at h
     ·rename_i e;obtain⟨rfl,rfl⟩:=e;obtain⟨cells',uJ,he⟩:=map_some h;cases he;obtain⟨hb,z0,n0,zn,a3,c3,rfl,_,_,vR⟩:=hd;obtain⟨ws,k1,k2⟩:=vT (ty_:=ty_) ru hu hs r8 n.toNat c3;obtain⟨w',r1,r0,r3,r4⟩:=hr.heap.ard (P:=P) (cf hi) lX (z:=z.toNat) (len:=n.toNat) (by omega) uJ (W5 k1);refine⟨β,w',_,k2 a3 w' (fun a0 e=>?_) (fun e=>?_),rfl,r3,r4⟩
      ·rcases Int.lt_or_le 0 n with h0|h0
       ·have e5:=vR h0;rw[e]at e5;simp at e5;subst e5;exact r1
       ·have:ws= []:=by
         have:=dh k1;rw[show n.toNat=0 from by omega]at this;simp at this;exact this
        subst this;rw[r0 rfl];rfl
      ·rcases Int.lt_or_le 0 n with h0|h0
       ·have e5:=vR h0;rw[e]at e5;cases e5
       ·have:ws= []:=by
         have:=dh k1;rw[show n.toNat=0 from by omega]at this;simp at this;exact this
        exact r0 this
     ·cases h
    ·cases h
   ·cases h
  ·cases h
 ·
  rename_i b o' n cp;simp only[Ask.val]at h;split at h
  ·rename_i cells elem hi;split at h
   ·rename_i s ab0;split at h
    ·rename_i l hl;obtain⟨cells',ae4,he⟩:=map_some h;cases he;obtain⟨hb,rfl⟩:=hd;obtain⟨ws,k1,k2⟩:=vT (ty_:=ty_) ru hu hs r8 n cp;obtain⟨cs,fz,g1,g2,g3,_⟩:=hr.heap.k9 (cf hi);obtain⟨pre,mid,post,e1,e2,e3,h4⟩:=tg ab0 g3;obtain⟨h5,h6⟩:=rQ (R:=ty.has β true) (fun a x vs h hd=>ty.kt h hd) _ hl h4;obtain⟨p,old,r,e4,e5,e6,h9⟩:=y6 h5 (z:=0) (len:=n) (by omega) (W5 k1);have Gb:p= []:=List.eq_nil_of_length_eq_zero (by rw[e5];simp);subst Gb;have aD3:dc β (kd st.hp) ((List.range n).flatMap fun j=>ty.Gz true ((cP l 0 n m).getD j ty.z)) (ws++r):=by
      have:((List.range n).flatMap fun j=>ty.Gz true ((cP l 0 n m).getD j ty.z))=(cP l 0 n m).flatMap (ty.Gz true):=by
       have hlen:(cP l 0 n m).length=n:=by rw[sa (by omega)];exact h6
       conv=>rhs;rw[← CZ (cP l 0 n m) ty.z,hlen]
       rw[List.flatMap_map]
      rw[this];exact Ai (by simpa using h9)
     obtain⟨Gc,vQ,aMg,f1,f2,f3,f4⟩:=th ae4 _ _ g3 aD3;have Sa:pre=Gc∧mid=vQ∧post=aMg:=by
      have hml:mid.length=vQ.length:=by
       rw[f3,e4];simp[e6]
      rw[e1]at f1;obtain⟨g,g'⟩:=List.append_inj f1 (by rw[e2,f2]);obtain⟨g4,g5⟩:=List.append_inj g' hml;exact⟨g,g4,g5⟩
     obtain⟨rfl,rfl,rfl⟩:=Sa;subst e4
     obtain⟨w',r1,r2,r3,r4,r5,r6⟩:=fU (P:=P) (a:=⟨β.b b,o',none⟩) rfl (elem:=elem) (fz:=fz) ws 0 pre old (r++post) w
      (by rw[g1,e1];simp) (by simp[e2]) e6 (nk k1) (fun off q1 q2=>g2.not (by rw[e1];simp at q2 ⊢;omega))
     obtain⟨s1,s2⟩:=hr.heap.H4 (cf hi) (cells':=cells') (w':=w') (by omega) r5 r6 r3 (c:=pre++((ws++r)++post)) (fz:=fz)
      (by rw[r2];simp) (by
       have:(pre++((ws++r)++post)).length=cs.length:=(by rw[e1];simp[e6]);rw[this];exact g2) f4
     exact⟨β,w',_,k2 _ w' (fun a0 e=>by simp at e;subst e;exact r1) (fun e=>by cases e),rfl,s1,s2⟩
    ·cases h
   ·cases h
  ·cases h
 ·simp[Ask.val]at h
end
end Go.Ev
