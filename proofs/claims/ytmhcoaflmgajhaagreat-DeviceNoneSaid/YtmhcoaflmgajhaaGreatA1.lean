/- What the laws lean on, part 1: a reader of code, plain facts, and what each function gives; no conditions. -/
import Derived.Tactics
import Derived.Laws.World
import Derived.Laws.Rows
import Derived.Laws.Cells
import Derived.Laws.Small
import Derived.Laws.StructEq
import Derived.ChangeKeysEq
set_option linter.unusedVariables false
set_option linter.unusedSimpArgs false
noncomputable section
namespace Go.Ev
open Go
open Go.IntKind (i64 signed u32 u64 wrap wrap_u32)
inductive bd {α β:Type} (R:α→β→Prop):List α→List β→Prop where
 |nil:bd R [] []
 |cons {a b l m} (h:R a b) (t:bd R l m):bd R (a::l) (b::m)
noncomputable section
variable {α β:Type} {R S:α→β→Prop}
theorem bd.length{l:List α}{m:List β}(h:bd R l m):l.length=m.length:=by
 induction h with
 |nil=>rfl
 |cons _ _ ih=>simp[ih]
theorem bd.imp{l:List α}{m:List β}(h:bd R l m)(f:∀a b,R a b→S a b):bd S l m:=by
 induction h with
 |nil=>exact .nil
 |cons h _ ih=>exact .cons (f _ _ h) ih
theorem bd.imp_mem{l:List α}{m:List β}(h:bd R l m)(f:∀a b,a∈l→R a b→S a b):bd S l m:=by
 induction h with
 |nil=>exact .nil
 |cons h _ ih=>exact .cons (f _ _ (by simp) h) (ih fun a b ha=>f a b (by simp[ha]))
theorem bd.get{l:List α}{m:List β}(h:bd R l m):∀ {i:Nat} {a:α},l[i]? =some a→∃b,m[i]? =some b∧R a b:=by
 induction h with
 |nil=>intro i a h;simp at h
 |cons h _ ih=>
  intro i a hi
  cases i with
  |zero=>simp at hi;subst hi;exact⟨_,by simp,h⟩
  |succ i=>simp at hi;obtain⟨b,hb,hr⟩:=ih hi;exact⟨b,by simpa using hb,hr⟩
theorem bd.set{l:List α}{m:List β}(h:bd R l m):∀ (i:Nat) {a:α} {b:β},R a b→bd R (l.set i a) (m.set i b):=by
 induction h with
 |nil=>intro i a b _;exact .nil
 |cons h t ih=>
  intro i a b hr
  cases i with
  |zero=>exact .cons hr t
  |succ i=>exact .cons h (ih i hr)
theorem bd.append{l l':List α}{m m':List β}(h:bd R l m)(h':bd R l' m'):bd R (l++l') (m++m'):=by
 induction h with
 |nil=>exact h'
 |cons h _ ih=>exact .cons h ih
theorem bd.of_map{γ:Type}(f:γ→α)(g:γ→β)(l:List γ)(h:∀x∈l,R (f x) (g x)):bd R (l.map f) (l.map g):=by
 induction l with
 |nil=>exact .nil
 |cons x l ih=>exact .cons (h x (by simp)) (ih fun y hy=>h y (by simp[hy]))
theorem bd.pN{γ:Type}{T:γ→β→Prop}{f:α→γ}{l:List α}{m:List β}(h:bd R l m)(hf:∀a b,R a b→T (f a) b):bd T (l.map f) m:=by
 induction h with
 |nil=>exact .nil
 |cons h _ ih=>exact .cons (hf _ _ h) ih
end
inductive aF {α:Type} (R:α→List Value→Prop):List α→List Value→Prop where
 |nil:aF R [] []
 |cons {x l vs ws} (h:R x vs) (t:aF R l ws):aF R (x::l) (vs++ws)
noncomputable section
variable {α:Type} {R S:α→List Value→Prop}
theorem aF.imp_mem{l:List α}{vs:List Value}(h:aF R l vs)(f:∀x vs,x∈l→R x vs→S x vs):aF S l vs:=by
 induction h with
 |nil=>exact .nil
 |cons h _ ih=>exact .cons (f _ _ (by simp) h) (ih fun x vs hx=>f x vs (by simp[hx]))
theorem aF.imp{l:List α}{vs:List Value}(h:aF R l vs)(f:∀x vs,R x vs→S x vs):aF S l vs:=h.imp_mem fun x vs _=>f x vs
theorem aF.append{l m:List α}{vs ws:List Value}(h:aF R l vs)(h':aF R m ws):aF R (l++m) (vs++ws):=by
 induction h with
 |nil=>exact h'
 |cons h _ ih=>rw[List.cons_append,List.append_assoc];exact .cons h ih
theorem aF.one{x:α}{vs:List Value}(h:R x vs):aF R [x] vs:=by have:=aF.cons h .nil;simpa using this
theorem aF.fw{x:α}{vs:List Value}(h:aF R [x] vs):R x vs:=by
 cases h with
 |cons h t=>cases t;simpa using h
theorem aF.split:∀ {l m:List α} {vs:List Value},aF R (l++m) vs→∃v1 v2,vs=v1++v2∧aF R l v1∧aF R m v2
 | [],m,vs,h=>⟨[],vs,rfl,.nil,h⟩
 |x::l,m,_,.cons (vs:=vs) h t=>by
  obtain⟨v1,v2,rfl,h1,h2⟩:=aF.split t;exact⟨vs++v1,v2,by simp,.cons h h1,h2⟩
theorem aF.length{k:Nat}(hk:∀x vs,R x vs→vs.length=k){l:List α}{vs:List Value}(h:aF R l vs):vs.length=l.length*k:=by
 induction h with
 |nil=>simp
 |cons h _ ih=>rw[List.length_append,hk _ _ h,ih,List.length_cons,Nat.succ_mul];omega
theorem aF.get{l:List α}{vs:List Value}(h:aF R l vs){i:Nat}{x:α}(hi:l[i]? =some x):
  ∃a u b,vs=a++(u++b)∧R x u∧aF R (l.take i) a∧aF R (l.drop (i+1)) b:=by
 have hl:i<l.length:=(List.getElem?_eq_some_iff.1 hi).1;have hx:l[i]=x:=(List.getElem?_eq_some_iff.1 hi).2;have e:l=l.take i++(x::l.drop (i+1)):=by rw[← hx,List.getElem_cons_drop,List.take_append_drop]
 rw[e]at h;obtain⟨v1,v2,rfl,h1,h2⟩:=aF.split h
 cases h2 with
 |cons h3 h4=>exact⟨v1,_,_,rfl,h3,h1,h4⟩
theorem aF.zD{l:List α}{i:Nat}{x:α}(hi:i<l.length){a u b:List Value}(h:R x u)(ha:aF R (l.take i) a)(hb:aF R (l.drop (i+1)) b):aF R (l.set i x) (a++(u++b)):=by
 rw[List.set_eq_take_append_cons_drop,if_pos hi];exact ha.append (.cons h hb)
end
inductive Ty where
 |int (k:IntKind)
 |bool
 |jd
 |str
 |sl (t:Ty)
 |pair (a b:Ty)
 |arr (t:Ty) (n:Nat)
 deriving DecidableEq
@[reducible] def Ty.D:Ty→Type
 | .int _=>Int
 | .bool=>Bool
 | .jd=>Nat
 | .str=>List Int
 | .sl t=>List t.D
 | .pair a b=>a.D×b.D
 | .arr t _=>List t.D
def Ty.z:(t:Ty)→t.D
 | .int _=>(0:Int)
 | .bool=>false
 | .jd=>(0:Nat)
 | .str=>([]:List Int)
 | .sl _=> []
 | .pair a b=>(a.z,b.z)
 | .arr t n=>List.replicate n t.z
def Ty.w:Ty→Nat
 | .int _| .bool| .jd| .str| .sl _=>1
 | .pair a b=>a.w+b.w
 | .arr t n=>n*t.w
def strOf(l:List Int):ByteArray:=⟨(l.map fun n=>UInt8.ofNat n.toNat).toArray⟩
structure Env where
 b:Nat→Nat
 h:Nat→Value
 rd:Bool→Value→(t:Ty)→List t.D→Prop
instance:CoeFun Env (fun _=>Nat→Nat):=⟨Env.b⟩
def oQ(β:Env)(pm:Bool)(v:Value)(t:Ty)(l:List t.D):Prop:=β.rd true v t l∨(pm=false∧β.rd false v t l)∨(v= .slice none 0 0∧l= [])
def Ty.has(β:Env)(pm:Bool):(t:Ty)→t.D→List Value→Prop
 | .int k,n,vs=>vs= [.int k n]
 | .bool,b,vs=>vs= [.bool b]
 | .jd,n,vs=>vs= [.float .f64 n]
 | .str,l,vs=>vs= [.string (strOf l)]
 | .sl t,l,vs=>∃v,vs= [v]∧v.oneCell'=true∧oQ β pm v t l
 | .pair a b,x,vs=>∃u w,vs=u++w∧a.has β pm x.1 u∧b.has β pm x.2 w
 | .arr t n,l,vs=>l.length=n∧aF (t.has β pm) l vs
theorem Ty.cU{β:Env}{pm:Bool}:∀ (t:Ty) {x:t.D} {vs:List Value},t.has β pm x vs→vs.length=t.w
 | .int _,_,_,h=>by simp only[Ty.has]at h;subst h;rfl
 | .bool,_,_,h=>by simp only[Ty.has]at h;subst h;rfl
 | .jd,_,_,h=>by simp only[Ty.has]at h;subst h;rfl
 | .str,_,_,h=>by simp only[Ty.has]at h;subst h;rfl
 | .sl _,_,_,h=>by simp only[Ty.has]at h;obtain⟨v,rfl,_⟩:=h;rfl
 | .pair a b,_,_,h=>by
  simp only[Ty.has]at h;obtain⟨u,w,rfl,h1,h2⟩:=h;simp[Ty.w,a.cU h1,b.cU h2]
 | .arr t n,_,_,h=>by
  simp only[Ty.has]at h;obtain⟨h1,h2⟩:=h;rw[h2.length fun _ _=>t.cU,h1];rfl
theorem Ty.lP{β:Env}{pm:Bool}:∀ (t:Ty) {x:t.D} {vs:List Value},t.has β pm x vs→∀v∈vs,v.oneCell'=true
 | .int _,_,_,h=>by simp only[Ty.has]at h;subst h;simp[Value.oneCell']
 | .bool,_,_,h=>by simp only[Ty.has]at h;subst h;simp[Value.oneCell']
 | .jd,_,_,h=>by simp only[Ty.has]at h;subst h;simp[Value.oneCell']
 | .str,_,_,h=>by simp only[Ty.has]at h;subst h;simp[Value.oneCell']
 | .sl _,_,_,h=>by simp only[Ty.has]at h;obtain⟨v,rfl,h,_⟩:=h;simpa using h
 | .pair a b,_,_,h=>by
  simp only[Ty.has]at h;obtain⟨u,w,rfl,h1,h2⟩:=h;intro v hv;rcases List.mem_append.1 hv with hv|hv
  ·exact a.lP h1 v hv
  ·exact b.lP h2 v hv
 | .arr t n,_,vs,h=>by
  simp only[Ty.has]at h;obtain⟨_,h2⟩:=h
  have key:∀ {l:List t.D} {vs:List Value},aF (t.has β pm) l vs→∀v∈vs,v.oneCell'=true:=by
   intro l vs h
   induction h with
   |nil=>simp
   |cons h _ ih=>
    intro v hv;rcases List.mem_append.1 hv with hv|hv
    ·exact t.lP h v hv
    ·exact ih v hv
  exact key h2
theorem fR{β:Env}{pm:Bool}{t:Ty}{l:List t.D}{vs:List Value}(h:aF (t.has β pm) l vs):∀v∈vs,v.oneCell'=true:=by
 induction h with
 |nil=>simp
 |cons h _ ih=>
  intro v hv;rcases List.mem_append.1 hv with hv|hv
  ·exact t.lP h v hv
  ·exact ih v hv
theorem aR{β:Env}{pm:Bool}{t:Ty}{l:List t.D}{vs:List Value}(h:aF (t.has β pm) l vs):vs.length=l.length*t.w:=h.length fun _ _=>t.cU
inductive SI where
 |lit (n:Int)
 |sym (n:Int)
def SI.val:SI→Int
 | .lit n=>n
 | .sym n=>n
inductive SB where
 |lit (b:Bool)
 |sym (b:Bool)
def SB.val:SB→Bool
 | .lit b=>b
 | .sym b=>b
inductive SV where
 |int (k:IntKind) (n:SI)
 |bool (b:SB)
 |jd (n:Nat)
 |str (l:List Int)
 |ptr (b off:Nat)
 |nx (b base gQ n:Nat) (z:Int)
 |slice (b off len cap:Nat)
 |cQ (v:Value)
 |br
 |arr (t:Ty) (n:Nat) (l:List t.D)
 |rd (pm nn:Bool) (t:Ty) (l:List t.D)
 |sl (i ver:Nat)
 |vw (i ver w:Nat) (z n:Int)
 |vb (b o:Nat) (t:Ty) (m:Nat) (z n:Int)
 |ep (s:SV) (w:Nat) (z:Int) (f:Nat)
 |Gv (g:FuncId) (b off:Nat)
inductive VV where
 |sc (s:SV)
 |agg (l:List SV)
inductive LV where
 |one (x:VV)
 |bV (l:List VV)
 |br
inductive Kd where
 |aZ
 |own (c:Nat)
 deriving DecidableEq
def ot(h:Value)(w:Nat)(z n:Int)(v:Value):Prop:=
 ∃a m c a' c',h= .slice a m c∧0≤z∧0≤n∧z+n≤m∧v= .slice a' n.toNat c'∧n.toNat≤c'∧(a'=none→c'=0)∧(0<n→∃a0,a=some a0∧a'=some (a0.add (z.toNat*w)))
def notNil:Value→Prop
 | .slice a _ _=>a≠none
 |_=>False
def SV.den(β:Env)(L:Nat→Option Kd):SV→Value→Prop
 | .int k i,v=>v= .int k i.val
 | .bool b,v=>v= .bool b.val
 | .jd n,v=>v= .float .f64 n
 | .str l,v=>v= .string (strOf l)
 | .ptr b o,v=>L b=some .aZ∧v= .pointer (some ⟨β.b b,o,none⟩)
 | .nx b base gQ n z,v=>L b=some .aZ∧z.toNat<n∧v= .pointer (some ⟨β.b b,base+z.toNat*gQ,none⟩)
 | .slice b o l c,v=>L b=some .aZ∧v= .slice (some ⟨β.b b,o,none⟩) l c
 | .cQ c,v=>c.oneCell'=true∧v=c
 | .br,v=>v.oneCell'=true
 | .arr _ _ _,_=>False
 | .rd pm nn t l,v=>v.oneCell'=true∧(nn=true→notNil v)∧oQ β pm v t l
 | .sl i ver,v=>v.oneCell'=true∧∃c,L i=some (.own c)∧ver≤c∧(ver=c→v=β.h i)
 | .vw i ver w z n,v=>v.oneCell'=true∧∃c,L i=some (.own c)∧ver≤c∧(ver=c→ot (β.h i) w z n v)
 | .vb b o t m z n,v=>L b=some .aZ∧0≤z∧0≤n∧z+n≤m∧∃a' c',v= .slice a' n.toNat c'∧n.toNat≤c'∧(a'=none→c'=0)∧(0<n→a'=some ((⟨β.b b,o,none⟩:Addr).add (z.toNat*t.w)))
 | .ep s w z f,v=>∃a n c,s.den β L (.slice (some a) n c)∧0≤z∧z<n∧v= .pointer (some (a.add (z.toNat*w+f)))
 | .Gv g b o,v=>L b=some .aZ∧v= .func (.func g) #[] #[.pointer (some ⟨β.b b,o,none⟩)]
def SV.eW(β:Env)(L:Nat→Option Kd):SV→List Value→Prop
 | .arr t n l,vs=>l.length=n∧aF (t.has β true) l vs
 |s,vs=>∃v,vs= [v]∧s.den β L v
def SV.w:SV→Nat
 | .arr t n _=>n*t.w
 |_=>1
abbrev aP(β:Env)(L:Nat→Option Kd):List SV→List Value→Prop:=aF (SV.eW β L)
def VV.den(β:Env)(L:Nat→Option Kd):VV→Value→Prop
 | .sc s,v=>s.den β L v
 | .agg l,v=>∃cs:List Value,v= .agg cs.toArray∧aP β L l cs
def LV.den(β:Env)(L:Nat→Option Kd):LV→Value→Prop
 | .one x,v=>x.den β L v
 | .bV l,v=>∃vs:List Value,v= .tuple vs.toArray∧bd (VV.den β L) l vs
 | .br,_=>True
structure bh (β β':Env) (L L':Nat→Option Kd):Prop where
 aZ:∀i,L i=some .aZ→L' i=some .aZ∧β'.b i=β.b i
 own:∀i c,L i=some (.own c)→∃c',L' i=some (.own c')∧c≤c'∧(c=c'→β'.h i=β.h i)
 rd:∀pm v t l,β.rd pm v t l→β'.rd pm v t l
theorem bh.refl(β:Env)(L:Nat→Option Kd):bh β β L L:=⟨fun _ h=>⟨h,rfl⟩,fun _ c h=>⟨c,h,Nat.le_refl _,fun _=>rfl⟩,fun _ _ _ _ h=>h⟩
theorem bh.trans{β β' XF:Env}{L L' L'':Nat→Option Kd}(h:bh β β' L L')(h':bh β' XF L' L''):bh β XF L L'':=by
 refine⟨fun i hi=>⟨(h'.aZ i (h.aZ i hi).1).1,(h'.aZ i (h.aZ i hi).1).2.trans (h.aZ i hi).2⟩,fun i c hi=>?_,fun pm v t l hr=>h'.rd pm v t l (h.rd pm v t l hr)⟩;obtain⟨c1,h1,h2,h3⟩:=h.own i c hi;obtain⟨c2,h4,h5,h6⟩:=h'.own i c1 h1;exact⟨c2,h4,by omega,fun e=>(h6 (by omega)).trans (h3 (by omega))⟩
theorem oQ.mono{β β':Env}(hr:∀pm v t l,β.rd pm v t l→β'.rd pm v t l){pm:Bool}{v:Value}{t:Ty}{l:List t.D}(h:oQ β pm v t l):oQ β' pm v t l:=
 h.imp (hr _ _ _ _) (Or.imp (fun⟨a,b⟩=>⟨a,hr _ _ _ _ b⟩) id)
theorem Ty.hU{β β':Env}(hr:∀pm v t l,β.rd pm v t l→β'.rd pm v t l){pm:Bool}:∀ (t:Ty) {x:t.D} {vs:List Value},t.has β pm x vs→t.has β' pm x vs
 | .int _,_,_,h=>h
 | .bool,_,_,h=>h
 | .jd,_,_,h=>h
 | .str,_,_,h=>h
 | .sl _,_,_,⟨v,h1,h2,h3⟩=>⟨v,h1,h2,h3.mono hr⟩
 | .pair a b,_,_,⟨u,w,h,h1,h2⟩=>⟨u,w,h,a.hU hr h1,b.hU hr h2⟩
 | .arr t _,_,_,⟨h1,h2⟩=>⟨h1,h2.imp fun _ _=>t.hU hr⟩
theorem SV.aT{β:Env}{L:Nat→Option Kd}{s:SV}{v:Value}(h:s.den β L v):v.oneCell'=true:=by
 cases s<;>simp only[SV.den]at h
 ·subst h;rfl
 ·subst h;rfl
 ·subst h;rfl
 ·subst h;rfl
 ·obtain⟨_,rfl⟩:=h;rfl
 ·obtain⟨_,_,rfl⟩:=h;rfl
 ·obtain⟨_,rfl⟩:=h;rfl
 ·obtain⟨h,rfl⟩:=h;exact h
 ·exact h
 ·exact h.1
 ·exact h.1
 ·exact h.1
 ·obtain⟨_,_,_,_,_,_,rfl,_⟩:=h;rfl
 ·obtain⟨_,_,_,_,_,_,rfl⟩:=h;rfl
 ·obtain⟨_,rfl⟩:=h;rfl
theorem SV.cM{β β':Env}{L L':Nat→Option Kd}(ha:bh β β' L L'):∀ {s:SV} {v:Value},s.den β L v→s.den β' L' v
 | .int _ _,_,h=>h
 | .bool _,_,h=>h
 | .jd _,_,h=>h
 | .str _,_,h=>h
 | .ptr _ _,_,⟨h1,h2⟩=>⟨(ha.aZ _ h1).1,by rw[(ha.aZ _ h1).2];exact h2⟩
 | .nx _ _ _ _ _,_,⟨h1,h2,h3⟩=>⟨(ha.aZ _ h1).1,h2,by rw[(ha.aZ _ h1).2];exact h3⟩
 | .slice _ _ _ _,_,⟨h1,h2⟩=>⟨(ha.aZ _ h1).1,by rw[(ha.aZ _ h1).2];exact h2⟩
 | .cQ _,_,h=>h
 | .br,_,h=>h
 | .rd _ _ _ _,_,⟨h1,h2,h3⟩=>⟨h1,h2,h3.mono ha.rd⟩
 | .sl i ver,_,⟨h1,c,h2,h3,h4⟩=>by
  obtain⟨c',k1,k2,k3⟩:=ha.own i c h2;exact⟨h1,c',k1,by omega,fun e=>(h4 (by omega)).trans (k3 (by omega)).symm⟩
 | .vw i ver w z n,_,⟨h1,c,h2,h3,h4⟩=>by
  obtain⟨c',k1,k2,k3⟩:=ha.own i c h2;exact⟨h1,c',k1,by omega,fun e=>by rw[k3 (by omega)];exact h4 (by omega)⟩
 | .vb _ _ _ _ _ _,_,⟨h1,h2,h3,Gw,a',c',h4,h5,h6⟩=>⟨(ha.aZ _ h1).1,h2,h3,Gw,a',c',h4,h5,by rw[(ha.aZ _ h1).2];exact h6⟩
 | .ep _ _ _ _,_,⟨a,n,c,h1,h2⟩=>⟨a,n,c,SV.cM ha h1,h2⟩
 | .Gv _ _ _,_,⟨h1,h2⟩=>⟨(ha.aZ _ h1).1,by rw[(ha.aZ _ h1).2];exact h2⟩
theorem SV.Ep{β β':Env}{L L':Nat→Option Kd}(ha:bh β β' L L'){s:SV}{vs:List Value}(h:s.eW β L vs):s.eW β' L' vs:=by
 cases s with
 |arr t n l=>exact⟨h.1,h.2.imp fun _ _=>t.hU ha.rd⟩
 |_=>exact let ⟨v,h1,h2⟩:=h;⟨v,h1,SV.cM ha h2⟩
theorem aP.mono{β β':Env}{L L':Nat→Option Kd}(ha:bh β β' L L'){l:List SV}{vs:List Value}(h:aP β L l vs):aP β' L' l vs:=h.imp fun _ _=>SV.Ep ha
theorem SV.dP{β:Env}{L:Nat→Option Kd}{s:SV}{vs:List Value}(h:s.eW β L vs):vs.length=s.w:=by
 cases s with
 |arr t n l=>rw[aR h.2,h.1];rfl
 |_=>obtain⟨v,rfl,_⟩:=h;rfl
theorem SV.GD{β:Env}{L:Nat→Option Kd}{s:SV}{vs:List Value}(h:s.eW β L vs):∀v∈vs,v.oneCell'=true:=by
 cases s with
 |arr t n l=>exact fR h.2
 |_=>obtain⟨v,rfl,h⟩:=h;intro u hu;simp at hu;subst hu;exact SV.aT h
theorem SV.lQ{β:Env}{L:Nat→Option Kd}{s:SV}{v:Value}(h:s.den β L v):s.eW β L [v]:=by
 cases s with
 |arr t n l=>exact h.elim
 |_=>exact⟨v,rfl,h⟩
theorem SV.eG{β:Env}{L:Nat→Option Kd}{s:SV}{vs:List Value}(h:s.eW β L vs)(hs:∀t n l,s≠ .arr t n l):∃v,vs= [v]∧s.den β L v:=by
 cases s with
 |arr t n l=>exact absurd rfl (hs t n l)
 |_=>exact h
theorem aP.pO{β:Env}{L:Nat→Option Kd}{l:List SV}{vs:List Value}(h:aP β L l vs):∀v∈vs,v.oneCell'=true:=by
 induction h with
 |nil=>simp
 |cons h _ ih=>
  intro v hv;rcases List.mem_append.1 hv with hv|hv
  ·exact SV.GD h v hv
  ·exact ih v hv
def wL:List SV→Nat
 | []=>0
 |s::l=>s.w+wL l
theorem aP.length{β:Env}{L:Nat→Option Kd}{l:List SV}{vs:List Value}(h:aP β L l vs):vs.length=wL l:=by
 induction h with
 |nil=>rfl
 |cons h _ ih=>simp[wL,SV.dP h,ih]
theorem aP.nil{β:Env}{L:Nat→Option Kd}:aP β L [] []:=aF.nil
theorem aP.dX{β:Env}{L:Nat→Option Kd}{s:SV}{v:Value}{l:List SV}{vs:List Value}(h:s.den β L v)(t:aP β L l vs):aP β L (s::l) (v::vs):=aF.cons (SV.lQ h) t
theorem VV.cM{β β':Env}{L L':Nat→Option Kd}(ha:bh β β' L L'){s:VV}{v:Value}(h:s.den β L v):s.den β' L' v:=by
 cases s with
 |sc s=>exact SV.cM ha h
 |agg l=>obtain⟨cs,rfl,h⟩:=h;exact⟨cs,rfl,h.mono ha⟩
theorem LV.cM{β β':Env}{L L':Nat→Option Kd}(ha:bh β β' L L'){s:LV}{v:Value}(h:s.den β L v):s.den β' L' v:=by
 cases s with
 |one x=>exact VV.cM ha h
 |bV l=>obtain⟨cs,rfl,h⟩:=h;exact⟨cs,rfl,h.imp fun _ _=>VV.cM ha⟩
 |br=>trivial
def SV.je:Value→Option SV
 | .int k n=>some (.int k (.lit n))
 | .bool b=>some (.bool (.lit b))
 | .agg _| .tuple _=>none
 |x=>some (.cQ x)
def bP{α β:Type}(f:α→Option β):List α→Option (List β)
 | []=>some []
 |x::l=>match f x,bP f l with
  |some y,some m=>some (y::m)
  |_,_=>none
def LV.je:Value→LV
 | .agg cs=>match bP SV.je cs.toList with
  |some l=>.one (.agg l)
  |none=>.br
 | .tuple cs=>if cs.isEmpty then .bV []else .br
 |x=>match SV.je x with
  |some s=>.one (.sc s)
  |none=>.br
theorem SV.ki{β:Env}{L:Nat→Option Kd}{v:Value}{s:SV}(h:SV.je v=some s):s.den β L v:=by
 cases v<;>simp[SV.je]at h<;>subst h<;>simp[SV.den,SI.val,SB.val,Value.oneCell']
theorem ou{α β:Type}{f:α→Option β}{R:β→α→Prop}(hf:∀x y,f x=some y→R y x):∀ {l:List α} {m:List β},bP f l=some m→bd R m l
 | [],m,h=>by simp[bP]at h;subst h;exact .nil
 |x::l,m,h=>by
  simp only[bP]at h
  split at h
  ·rename_i y m' h1 h2;simp at h;subst h;exact .cons (hf _ _ h1) (ou hf h2)
  ·simp at h
theorem lR{β:Env}{L:Nat→Option Kd}{l:List SV}{vs:List Value}(h:bd (SV.den β L) l vs):aP β L l vs:=by
 induction h with
 |nil=>exact .nil
 |cons h _ ih=>exact aP.dX h ih
theorem LV.ki{β:Env}{L:Nat→Option Kd}(v:Value):(LV.je v).den β L v:=by
 cases v with
 |agg cs=>
  simp only[LV.je]
  split
  ·rename_i l h;exact⟨cs.toList,by simp,lR (ou (fun _ _=>SV.ki) h)⟩
  ·trivial
 |tuple cs=>
  simp only[LV.je]
  split
  ·rename_i h;have:cs= #[]:=(by simpa using h);subst this;exact⟨[],rfl,.nil⟩
  ·trivial
 |_=>simp[LV.je,SV.je,LV.den,VV.den,SV.den,SI.val,SB.val,Value.oneCell']
inductive Item where
 |aZ (cells:List SV) (elem:TypeId)
 |own (ver:Nat) (t:Ty) (l:List t.D)
 |gone (ver:Nat)
def Item.kd:Item→Kd
 | .aZ _ _=>.aZ
 | .own v _ _| .gone v=>.own v
abbrev Hp:=List (Option Item)
def kd(hp:Hp)(i:Nat):Option Kd:=
 match hp[i]? with
 |some (some x)=>some x.kd
 |_=>none
structure St where
 fr:List LV
 hp:Hp
theorem gz{hp:Hp}{i:Nat}{k:Kd}(h:kd hp i=some k):∃x,hp[i]? =some (some x)∧x.kd=k:=by
 unfold kd at h;split at h
 ·rename_i x hx;simp at h;exact⟨x,hx,h⟩
 ·cases h
theorem bX{hp:Hp}{i:Nat}{x:Item}(h:hp[i]? =some (some x)):kd hp i=some x.kd:=by unfold kd;rw[h]
def bx(β:Env)(x:Item)(i b:Nat):Prop:=
 match x with
 | .aZ _ _=>b=β.b i
 | .own _ _ _=>∃a n c,β.h i= .slice (some a) n c∧0<c∧a.block=b
 | .gone _=>False
def dh(hp:Hp)(β:Env)(b:Nat):Prop:=∃i x,hp[i]? =some (some x)∧bx β x i b
def bQ(w:World)(a:Addr)(vs:List Value):Prop:=∀i u,vs[i]? =some u→w.cell? (a.add i)=some u
def pP(fz:Nat×Nat)(n:Nat):Prop:=fz.1=fz.2∨n≤fz.1
theorem pP.not{fz:Nat×Nat}{n off:Nat}(h:pP fz n)(ho:off<n):¬ (fz.1≤off∧off<fz.2):=by unfold pP at h;omega
def bI(β:Env)(w:World)(h:Value)(t:Ty)(l:List t.D):Prop:=
 ∃a n c,h= .slice a n c∧n=l.length∧n≤c∧(a=none→c=0)∧
  (0<c→∃ (a0:Addr) (pre cz rest:List Value) (elem:TypeId) (fz:Nat×Nat),a=some a0∧a0.spot=none∧w.heap[a0.block]? =some (.cells (pre++(cz++rest)).toArray elem fz)∧
   pre.length=a0.off∧aF (t.has β true) l cz∧(c-n)*t.w≤rest.length∧pP fz (pre++(cz++rest)).length)
def cV(β:Env)(L:Nat→Option Kd)(w:World)(i:Nat):Item→Prop
 | .aZ cells elem=>∃ (c:List Value) (fz:Nat×Nat),w.heap[β.b i]? =some (.cells c.toArray elem fz)∧pP fz c.length∧aP β L cells c
 | .own _ t l=>bI β w (β.h i) t l
 | .gone _=>True
def bg(β:Env)(pm:Bool)(w:World)(v:Value)(t:Ty)(l:List t.D):Prop:=
 ∃a n c,v= .slice a n c∧n=l.length∧n≤c∧(a=none→c=0)∧(0<n→∃ (a0:Addr) (cz:List Value),a=some a0∧a0.spot=none∧aF (t.has β pm) l cz∧bQ w a0 cz)
def inBlock:Value→Nat→Prop
 | .slice (some a) n _,b=>0<n∧a.block=b
 |_,_=>False
theorem cd(a:Addr)(n:Nat):(a.add n).block=a.block:=by unfold Addr.add;split<;>rfl
theorem bQ.of{w w':World}{a:Addr}{vs:List Value}(h:bQ w a vs)(hs:vs≠ []→w'.heap[a.block]? =w.heap[a.block]?):bQ w' a vs:=by
 intro i u hu;have h1:=h i u hu;have eC:vs≠ []:=fun e=>by subst e;simp at hu
 unfold World.cell? at h1 ⊢;rw[cd]at h1 ⊢;rw[hs eC];exact h1
theorem bQ.lt{w:World}{a:Addr}{vs:List Value}(h:bQ w a vs)(eC:vs≠ []):a.block<w.heap.size:=by
 cases vs with
 |nil=>exact absurd rfl eC
 |cons v vs=>
  have:=h 0 v (by simp);unfold World.cell? at this;rw[cd]at this
  split at this
  ·rename_i h1;exact(Array.getElem?_eq_some_iff.1 h1).1
  ·cases this
theorem bg.of{β:Env}{pm:Bool}{w w':World}{v:Value}{t:Ty}{l:List t.D}(h:bg β pm w v t l)(hs:∀b,inBlock v b→b<w.heap.size→w'.heap[b]? =w.heap[b]?):bg β pm w' v t l:=by
 obtain⟨a,n,c,rfl,hn,hc,hz,hr⟩:=h;refine⟨a,n,c,rfl,hn,hc,hz,fun h0=>?_⟩;obtain⟨a0,cz,rfl,h1,h2,h3⟩:=hr h0;exact⟨a0,cz,rfl,h1,h2,h3.of fun eC=>hs _ ⟨h0,rfl⟩ (h3.lt eC)⟩
theorem bg.mono{β β':Env}(hm:∀pm v t l,β.rd pm v t l→β'.rd pm v t l){pm:Bool}{w:World}{v:Value}{t:Ty}{l:List t.D}(h:bg β pm w v t l):bg β' pm w v t l:=by
 obtain⟨a,n,c,rfl,hn,hc,hz,hr⟩:=h;refine⟨a,n,c,rfl,hn,hc,hz,fun h0=>?_⟩;obtain⟨a0,cz,rfl,h1,h2,h3⟩:=hr h0;exact⟨a0,cz,rfl,h1,h2.imp fun _ _=>t.hU hm,h3⟩
structure aQ (W:World) (ag:Hp) (β₀ β:Env) (hp:Hp) (w:World):Prop where
 items:∀i x,hp[i]? =some (some x)→cV β (kd hp) w i x
 inj:∀i j x y b,hp[i]? =some (some x)→hp[j]? =some (some y)→bx β x i b→bx β y j b→i=j
 first:bh β₀ β (kd ag) (kd hp)
 own:∀i x b,hp[i]? =some (some x)→bx β x i b→W.heap.size≤b∨∃y,ag[i]? =some (some y)∧bx β₀ y i b
 os:w.os=W.os
 output:w.output=W.output
 size:W.heap.size≤w.heap.size
 ao:∀b,b<W.heap.size→¬dh ag β₀ b→w.heap[b]? =W.heap[b]?
 reads:∀pm v t l,β.rd pm v t l→bg β pm w v t l∧∀b,inBlock v b→b<w.heap.size∧¬dh hp β b
 from_:∀pm v t l b,β.rd pm v t l→inBlock v b→W.heap.size≤b∨∃gu v' t' l',(pm=true→gu=true)∧β₀.rd gu v' t' l'∧inBlock v' b
structure Rel (W:World) (ag:Hp) (β₀ β:Env) (st:St) (a:Act) (w:World):Prop where
 defers:a.defers= []
 fr:bd (LV.den β (kd st.hp)) st.fr a.tmps.toList
 heap:aQ W ag β₀ β st.hp w
def setAt:Hp→Nat→Item→Hp
 | [],0,b=> [some b]
 | [],n+1,b=>none::setAt [] n b
 |_::l,0,b=>some b::l
 |x::l,n+1,b=>x::setAt l n b
theorem bZ:∀ (hp:Hp) (i:Nat) (b:Item),(setAt hp i b)[i]? =some (some b)
 | [],0,_=>rfl
 | [],n+1,b=>by simp[setAt,bZ [] n b]
 |_::_,0,_=>rfl
 |_::l,n+1,b=>by simp[setAt,bZ l n b]
theorem sd:∀ (i:Nat) (b:Item) (j:Nat) (x:Item),j≠i→(setAt [] i b)[j]? ≠some (some x)
 |0,b,0,_,h=>absurd rfl h
 |0,b,j+1,_,_=>by simp[setAt]
 |n+1,b,0,_,_=>by simp[setAt]
 |n+1,b,j+1,x,h=>by
  have:=sd n b j x (by omega);simpa [setAt]using this
theorem bz:∀ (hp:Hp) (i:Nat) (b:Item) (j:Nat) (x:Item),j≠i→((setAt hp i b)[j]? =some (some x)↔hp[j]? =some (some x))
 | [],i,b,j,x,h=>⟨fun hh=>absurd hh (sd i b j x h),fun hh=>by simp at hh⟩
 |_::_,0,_,0,_,h=>absurd rfl h
 |_::_,0,_,j+1,_,_=>by simp[setAt]
 |_::_,n+1,_,0,_,_=>by simp[setAt]
 |_::l,n+1,b,j+1,x,h=>by
  have:=bz l n b j x (by omega);simpa [setAt]using this
theorem bR(hp:Hp)(i:Nat)(x:Item)(j:Nat):kd (setAt hp i x) j=if j=i then some x.kd else kd hp j:=by
 split
 ·rename_i h;subst h;exact bX (bZ hp j x)
 ·rename_i h;unfold kd
  split
  ·rename_i y hy;rw[(bz hp i x j y h).1 hy]
  ·rename_i hn
   split
   ·rename_i y hy;exact absurd ((bz hp i x j y h).2 hy) (hn y)
   ·rfl
noncomputable section
variable {W:World} {ag:Hp} {β₀ β:Env} {hp:Hp} {w:World}
theorem bx.congr{β β':Env}{x:Item}{i b:Nat}(hb:β'.b i=β.b i)(hh:β'.h i=β.h i):bx β' x i b↔bx β x i b:=by
 cases x<;>simp only[bx,hb,hh]
theorem bI.of{β β':Env}{w w':World}{h:Value}{t:Ty}{l:List t.D}(hm:∀pm v t l,β.rd pm v t l→β'.rd pm v t l)(hk:bI β w h t l)(hw:∀a n c,h= .slice (some a) n c→0<c→w'.heap[a.block]? =w.heap[a.block]?):bI β' w' h t l:=by
 obtain⟨a,n,c,rfl,h1,h2,h3,h4⟩:=hk;refine⟨a,n,c,rfl,h1,h2,h3,fun h0=>?_⟩;obtain⟨a0,pre,cz,rest,elem,fz,rfl,k1,k2,k3,k4,k5⟩:=h4 h0;exact⟨a0,pre,cz,rest,elem,fz,rfl,k1,by rw[hw _ _ _ rfl h0];exact k2,k3,k4.imp fun _ _=>t.hU hm,k5⟩
theorem cV.of{β β':Env}{L L':Nat→Option Kd}{w w':World}{i:Nat}{x:Item}(ha:bh β β' L L')(hb:β'.b i=β.b i)(hh:β'.h i=β.h i)(h:cV β L w i x)(hw:∀b,bx β x i b→w'.heap[b]? =w.heap[b]?):cV β' L' w' i x:=by
 cases x with
 |aZ cells elem=>
  obtain⟨c,fz,h1,h2,h3⟩:=h;exact⟨c,fz,by rw[hb,hw _ rfl];exact h1,h2,h3.mono ha⟩
 |own v t l=>
  show bI β' w' (β'.h i) t l;rw[hh];exact bI.of ha.rd h fun a n c e h0=>hw _ ⟨a,n,c,e,h0,rfl⟩
 |gone v=>trivial
theorem bI.lt{β:Env}{w:World}{h:Value}{t:Ty}{l:List t.D}(hk:bI β w h t l){a:Addr}{n c:Nat}(e:h= .slice (some a) n c)(h0:0<c):a.block<w.heap.size:=by
 obtain⟨a',n',c',rfl,_,_,_,h4⟩:=hk;simp at e;obtain⟨rfl,rfl,rfl⟩:=e;obtain⟨a0,_,_,_,_,_,e,_,k,_⟩:=h4 h0;simp at e;subst e;exact(Array.getElem?_eq_some_iff.1 k).1
theorem cV.lt{β:Env}{L:Nat→Option Kd}{w:World}{i:Nat}{x:Item}(h:cV β L w i x){b:Nat}(ho:bx β x i b):b<w.heap.size:=by
 cases x with
 |aZ cells elem=>
  obtain⟨c,fz,h1,_⟩:=h;have ho':b=β.b i:=ho;subst ho';exact(Array.getElem?_eq_some_iff.1 h1).1
 |own v t l=>
  obtain⟨a,n,c,e,h0,rfl⟩:=ho;exact bI.lt h e h0
 |gone v=>exact ho.elim
theorem aQ.add(h:aQ W ag β₀ β hp w){id:Nat}(jo:kd hp id=none){x:Item}{β':Env}{w':World}
  (hb:∀j,j≠id→β'.b j=β.b j) (hh:∀j,j≠id→β'.h j=β.h j) (kG:β'.rd=β.rd) (hs:w.heap.size≤w'.heap.size) (MU:w'.os=w.os) (ti:w'.output=w.output)
  (hold:∀b,b<w.heap.size→w'.heap[b]? =w.heap[b]?) (dY:∀b,bx β' x id b→w.heap.size≤b) (Gx:bh β β' (kd hp) (kd (setAt hp id x))→cV β' (kd (setAt hp id x)) w' id x):
  aQ W ag β₀ β' (setAt hp id x) w'∧bh β β' (kd hp) (kd (setAt hp id x)):=by
 have eC:∀ {i k},kd hp i=some k→i≠id:=fun hi e=>by subst e;rw[jo]at hi;cases hi
 have ahw:∀ {i y},hp[i]? =some (some y)→i≠id:=fun hi=>eC (bX hi)
 have kH:bh β β' (kd hp) (kd (setAt hp id x)):=by
  refine⟨fun i hi=>⟨by rw[bR,if_neg (eC hi)];exact hi,hb i (eC hi)⟩,fun i c hi=>⟨c,by rw[bR,if_neg (eC hi)];exact hi,Nat.le_refl _,fun _=>hh i (eC hi)⟩,fun pm v t l hr=>by rw[kG];exact hr⟩
 have jz:∀ {i y},(setAt hp id x)[i]? =some (some y)→(i=id∧y=x)∨(i≠id∧hp[i]? =some (some y)):=by
  intro i y hi
  by_cases e:i=id
  ·subst e;rw[bZ]at hi;simp at hi;exact .inl ⟨rfl,hi.symm⟩
  ·exact .inr ⟨e,(bz hp id x i y e).1 hi⟩
 have gR:∀ {b},dh (setAt hp id x) β' b→w.heap.size≤b∨dh hp β b:=by
  rintro b ⟨i,y,hi,ho⟩
  rcases jz hi with⟨rfl,rfl⟩|⟨e,oZ⟩
  ·exact .inl (dY b ho)
  ·exact .inr ⟨i,y,oZ,(bx.congr (hb i e) (hh i e)).1 ho⟩
 refine⟨⟨?_,?_,h.first.trans kH,?_,MU.trans h.os,ti.trans h.output,Nat.le_trans h.size hs,?_,?_,?_⟩,kH⟩
 ·intro i y hi;rcases jz hi with⟨rfl,rfl⟩|⟨e,oZ⟩
  ·exact Gx kH
  ·exact(h.items i y oZ).of kH (hb i e) (hh i e) fun b ho=>hold b ((h.items i y oZ).lt ho)
 ·intro i j y z b hi hj h1 h2;rcases jz hi with⟨rfl,rfl⟩|⟨ei,oZ⟩<;>rcases jz hj with⟨e,rfl⟩|⟨ej,se⟩
  ·exact e.symm
  ·have k1:=dY b h1;have k2:=(h.items j z se).lt ((bx.congr (hb j ej) (hh j ej)).1 h2);omega
  ·subst e;have k1:=dY b h2;have k2:=(h.items i y oZ).lt ((bx.congr (hb i ei) (hh i ei)).1 h1);omega
  ·exact h.inj i j y z b oZ se ((bx.congr (hb i ei) (hh i ei)).1 h1) ((bx.congr (hb j ej) (hh j ej)).1 h2)
 ·intro i y b hi ho;rcases jz hi with⟨rfl,rfl⟩|⟨e,oZ⟩
  ·exact .inl (Nat.le_trans h.size (dY b ho))
  ·exact h.own i y b oZ ((bx.congr (hb i e) (hh i e)).1 ho)
 ·intro b fx eC;rw[hold b (by have:=h.size;omega)];exact h.ao b fx eC
 ·intro pm v t l hr;rw[kG]at hr;obtain⟨h1,h2⟩:=h.reads pm v t l hr;refine⟨(h1.of fun b fx hl=>hold b hl).mono fun pm v t l hr=>by rw[kG];exact hr,fun b fx=>⟨Nat.lt_of_lt_of_le (h2 b fx).1 hs,fun ho=>?_⟩⟩;rcases gR ho with k|k
  ·have:=(h2 b fx).1;omega
  ·exact(h2 b fx).2 k
 ·intro pm v t l b hr fx;rw[kG]at hr;exact h.from_ pm v t l b hr fx
theorem aQ.zE(h:aQ W ag β₀ β hp w){i:Nat}{x x':Item}(hi:hp[i]? =some (some x)){β':Env}{w':World}
  (hb:β'.b=β.b) (hh:∀j,j≠i→β'.h j=β.h j) (kG:β'.rd=β.rd)
  (hkd:(x.kd= .aZ∧x'.kd= .aZ)∨∃c c',x.kd= .own c∧x'.kd= .own c'∧c≤c'∧(c=c'→β'.h i=β.h i))
  (hs:w.heap.size≤w'.heap.size) (MU:w'.os=w.os) (ti:w'.output=w.output)
  (hold:∀b,b<w.heap.size→¬bx β x i b→w'.heap[b]? =w.heap[b]?) (dY:∀b,bx β' x' i b→bx β x i b∨w.heap.size≤b)
  (Gx:bh β β' (kd hp) (kd (hp.set i (some x')))→cV β' (kd (hp.set i (some x'))) w' i x'):
  aQ W ag β₀ β' (hp.set i (some x')) w'∧bh β β' (kd hp) (kd (hp.set i (some x'))):=by
 have Xg:i<hp.length:=(List.getElem?_eq_some_iff.1 hi).1;have wB:(hp.set i (some x'))[i]? =some (some x'):=List.getElem?_set_self Xg;have GF:∀j,j≠i→(hp.set i (some x'))[j]? =hp[j]? :=fun j hj=>List.getElem?_set_ne (Ne.symm hj);have XG:kd (hp.set i (some x')) i=some x'.kd:=bX wB;have XH:∀j,j≠i→kd (hp.set i (some x')) j=kd hp j:=fun j hj=>by unfold kd;rw[GF j hj]
 have kH:bh β β' (kd hp) (kd (hp.set i (some x'))):=by
  refine⟨fun j hj=>?_,fun j c hj=>?_,fun pm v t l hr=>by rw[kG];exact hr⟩
  ·by_cases e:j=i
   ·subst e;rw[bX hi]at hj;simp at hj;rcases hkd with⟨_,k⟩|⟨c,c',k,_⟩
    ·exact⟨by rw[XG,k],by rw[hb]⟩
    ·rw[hj]at k;cases k
   ·exact⟨by rw[XH j e];exact hj,by rw[hb]⟩
  ·by_cases e:j=i
   ·subst e;rw[bX hi]at hj;simp at hj;rcases hkd with⟨k,_⟩|⟨c1,c',k,k1,k2,k3⟩
    ·rw[hj]at k;cases k
    ·rw[hj]at k;simp at k;subst k;exact⟨c',by rw[XG,k1],k2,k3⟩
   ·exact⟨c,by rw[XH j e];exact hj,Nat.le_refl _,fun _=>hh j e⟩
 have jz:∀ {j y},(hp.set i (some x'))[j]? =some (some y)→(j=i∧y=x')∨(j≠i∧hp[j]? =some (some y)):=by
  intro j y hj
  by_cases e:j=i
  ·subst e;rw[wB]at hj;simp at hj;exact .inl ⟨rfl,hj.symm⟩
  ·exact .inr ⟨e,by rw[GF j e]at hj;exact hj⟩
 have ny:∀ {j y b},j≠i→(bx β' y j b↔bx β y j b):=fun e=>bx.congr (by rw[hb]) (hh _ e);have hx:=h.items i x hi;have SQ:∀ {j y b},j≠i→hp[j]? =some (some y)→bx β y j b→¬bx β x i b:=fun e hj h1 h2=>e (h.inj _ _ _ _ _ hj hi h1 h2)
 have gR:∀ {b},dh (hp.set i (some x')) β' b→w.heap.size≤b∨dh hp β b:=by
  rintro b ⟨j,y,hj,ho⟩
  rcases jz hj with⟨rfl,rfl⟩|⟨e,se⟩
  ·rcases dY b ho with k|k
   ·exact .inr ⟨_,x,hi,k⟩
   ·exact .inl k
  ·exact .inr ⟨j,y,se,(ny e).1 ho⟩
 refine⟨⟨?_,?_,h.first.trans kH,?_,MU.trans h.os,ti.trans h.output,Nat.le_trans h.size hs,?_,?_,?_⟩,kH⟩
 ·intro j y hj;rcases jz hj with⟨rfl,rfl⟩|⟨e,se⟩
  ·exact Gx kH
  ·exact(h.items j y se).of kH (by rw[hb]) (hh j e) fun b ho=>hold b ((h.items j y se).lt ho) (SQ e se ho)
 ·intro j k y z b hj hk h1 h2;rcases jz hj with⟨ej,rfl⟩|⟨ej,se⟩<;>rcases jz hk with⟨ek,rfl⟩|⟨ek,jv⟩
  ·rw[ej,ek]
  ·subst ej;have k2:=(ny ek).1 h2;rcases dY b h1 with k|k
   ·exact absurd k (SQ ek jv k2)
   ·have:=(h.items _ z jv).lt k2;omega
  ·subst ek;have k1:=(ny ej).1 h1;rcases dY b h2 with k|k
   ·exact absurd k (SQ ej se k1)
   ·have:=(h.items _ y se).lt k1;omega
  ·exact h.inj j k y z b se jv ((ny ej).1 h1) ((ny ek).1 h2)
 ·intro j y b hj ho;rcases jz hj with⟨rfl,rfl⟩|⟨e,se⟩
  ·rcases dY b ho with k|k
   ·exact h.own _ x b hi k
   ·exact .inl (Nat.le_trans h.size k)
  ·exact h.own j y b se ((ny e).1 ho)
 ·intro b fx eC;rw[hold b (by have:=h.size;omega) fun ho=>?_]
  ·exact h.ao b fx eC
  ·rcases h.own i x b hi ho with k|⟨y,k⟩
   ·omega
   ·exact eC ⟨i,y,k⟩
 ·intro pm v t l hr;rw[kG]at hr;obtain⟨h1,h2⟩:=h.reads pm v t l hr;refine⟨(h1.of fun b fx hl=>hold b hl fun ho=>(h2 b fx).2 ⟨i,x,hi,ho⟩).mono fun pm v t l hr=>by rw[kG];exact hr,fun b fx=>⟨Nat.lt_of_lt_of_le (h2 b fx).1 hs,fun ho=>?_⟩⟩;rcases gR ho with k|k
  ·have:=(h2 b fx).1;omega
  ·exact(h2 b fx).2 k
 ·intro pm v t l b hr fx;rw[kG]at hr;exact h.from_ pm v t l b hr fx
theorem aQ.drew(h:aQ W ag β₀ β hp w)(n:Nat)(tp:Tape):aQ W ag β₀ β hp {w with drawn:=n,tape:=tp}:=
 ⟨h.items,h.inj,h.first,h.own,h.os,h.output,h.size,h.ao,h.reads,h.from_⟩
def Env.jf(β:Env)(pm:Bool)(v:Value)(t:Ty)(l:List t.D):Env:=⟨β.b,β.h,fun gu v' t' l'=>β.rd gu v' t' l'∨(gu=pm∧v'=v∧∃e:t=t',e▸l=l')⟩
theorem aQ.jf(h:aQ W ag β₀ β hp w){pm:Bool}{v:Value}{t:Ty}{l:List t.D}(hr:bg β pm w v t l)
  (hb:∀b,inBlock v b→b<w.heap.size∧¬dh hp β b∧(W.heap.size≤b∨∃gu v' t' l',(pm=true→gu=true)∧β₀.rd gu v' t' l'∧inBlock v' b)):
  aQ W ag β₀ (β.jf pm v t l) hp w∧bh β (β.jf pm v t l) (kd hp) (kd hp)∧(β.jf pm v t l).rd pm v t l:=by
 have hm:∀gu v' t' l',β.rd gu v' t' l'→(β.jf pm v t l).rd gu v' t' l':=fun _ _ _ _ h=>.inl h;have kH:bh β (β.jf pm v t l) (kd hp) (kd hp):=⟨fun i hi=>⟨hi,rfl⟩,fun i c hi=>⟨c,hi,Nat.le_refl _,fun _=>rfl⟩,hm⟩;have XI:∀ {x i b},bx (β.jf pm v t l) x i b↔bx β x i b:=bx.congr rfl rfl;have hod:∀ {b},dh hp (β.jf pm v t l) b↔dh hp β b:=⟨fun⟨i,x,h1,h2⟩=>⟨i,x,h1,XI.1 h2⟩,fun⟨i,x,h1,h2⟩=>⟨i,x,h1,XI.2 h2⟩⟩;refine⟨⟨fun i x hi=>(h.items i x hi).of kH rfl rfl fun _ _=>rfl,fun i j x y b hi hj h1 h2=>h.inj i j x y b hi hj (XI.1 h1) (XI.1 h2),h.first.trans kH,fun i x b hi ho=>h.own i x b hi (XI.1 ho),h.os,h.output,h.size,h.ao,?_,?_⟩,kH,.inr ⟨rfl,rfl,rfl,rfl⟩⟩
 ·rintro gu v' t' l' (hv|⟨rfl,rfl,rfl,rfl⟩)
  ·obtain⟨h1,h2⟩:=h.reads gu v' t' l' hv;exact⟨h1.mono hm,fun b fx=>⟨(h2 b fx).1,fun ho=>(h2 b fx).2 (hod.1 ho)⟩⟩
  ·exact⟨hr.mono hm,fun b fx=>⟨(hb b fx).1,fun ho=>(hb b fx).2.1 (hod.1 ho)⟩⟩
 ·rintro gu v' t' l' b (hv|⟨rfl,rfl,rfl,rfl⟩) hbl
  ·exact h.from_ gu v' t' l' b hv hbl
  ·exact(hb b hbl).2.2
end
inductive Ask (α:Type) where
 |ret (a:α)
 |get (i:Nat) (k:Option Item→Ask α)
def aW(hp:Hp)(i:Nat):Option Item:=match hp[i]? with|some (some x)=>some x|_=>none
def Ask.val{α:Type}(hp:Hp):Ask α→α
 | .ret a=>a
 | .get i k=>(k (aW hp i)).val hp
def Ask.log{α:Type}(hp:Hp):Ask α→List Nat
 | .ret _=> []
 | .get i k=>i::(k (aW hp i)).log hp
def Ask.bind{α β:Type}:Ask α→(α→Ask β)→Ask β
 | .ret a,f=>f a
 | .get i k,f=>.get i fun x=>(k x).bind f
def Ask.map{α β:Type}(f:α→β)(a:Ask α):Ask β:=a.bind fun x=>.ret (f x)
theorem Ask.cA{α β:Type}(hp:Hp):∀ (a:Ask α) (f:α→Ask β),(a.bind f).val hp=(f (a.val hp)).val hp
 | .ret _,_=>rfl
 | .get i k,f=>Ask.cA hp (k (aW hp i)) f
theorem Ask.bL{α β:Type}(hp:Hp)(a:Ask α)(f:α→β):(a.map f).val hp=f (a.val hp):=Ask.cA hp a _
theorem Ask.tj{α:Type}{hp hp2:Hp}:∀ (a:Ask α),(∀i∈a.log hp,aW hp2 i=aW hp i)→a.val hp2=a.val hp∧a.log hp2=a.log hp
 | .ret _,_=>⟨rfl,rfl⟩
 | .get i k,h=>by
  have h0:aW hp2 i=aW hp i:=h i (by simp[Ask.log]);have:=Ask.tj (hp:=hp) (hp2:=hp2) (k (aW hp i)) fun j hj=>h j (by simp[Ask.log,hj]);simp only[Ask.val,Ask.log,h0];exact⟨this.1,by rw[this.2]⟩
theorem an{hp:Hp}{i:Nat}{x:Item}(h:aW hp i=some x):hp[i]? =some (some x):=by
 unfold aW at h;split at h
 ·rename_i y hy;simp at h;subst h;exact hy
 ·cases h
theorem kj{hp:Hp}{i:Nat}{x:Item}(h:hp[i]? =some (some x)):aW hp i=some x:=by unfold aW;rw[h]
def Ty.flat:Ty→Bool
 | .int _| .bool| .jd| .str=>true
 | .sl _=>false
 | .pair a b=>a.flat&&b.flat
 | .arr t _=>t.flat
theorem Ty.k8{β:Env}{pm gu:Bool}:∀ (t:Ty) {x:t.D} {vs:List Value},t.flat=true→t.has β pm x vs→t.has β gu x vs
 | .int _,_,_,_,h=>h
 | .bool,_,_,_,h=>h
 | .jd,_,_,_,h=>h
 | .str,_,_,_,h=>h
 | .sl _,_,_,hf,_=>by cases hf
 | .pair a b,_,_,hf,h=>by
  simp only[Ty.flat,Bool.and_eq_true]at hf;obtain⟨u,w,h,h1,h2⟩:=h;exact⟨u,w,h,a.k8 hf.1 h1,b.k8 hf.2 h2⟩
 | .arr t _,_,_,hf,⟨h1,h2⟩=>⟨h1,h2.imp fun _ _=>t.k8 hf⟩
theorem oQ.Er{β:Env}{pm:Bool}{v:Value}{t:Ty}{l:List t.D}(h:oQ β true v t l):oQ β pm v t l:=by
 rcases h with h|⟨h,_⟩|h
 ·exact .inl h
 ·cases h
 ·exact .inr (.inr h)
theorem Ty.jA{β:Env}{pm:Bool}:∀ (t:Ty) {x:t.D} {vs:List Value},t.has β true x vs→t.has β pm x vs
 | .int _,_,_,h=>h
 | .bool,_,_,h=>h
 | .jd,_,_,h=>h
 | .str,_,_,h=>h
 | .sl _,_,_,⟨v,h1,h2,h3⟩=>⟨v,h1,h2,h3.Er⟩
 | .pair a b,_,_,⟨u,w,h,h1,h2⟩=>⟨u,w,h,a.jA h1,b.jA h2⟩
 | .arr t _,_,_,⟨h1,h2⟩=>⟨h1,h2.imp fun _ _=>t.jA⟩
def Ty.sg(pm:Bool):(t:Ty)→t.D→List SV
 | .int k,n=> [.int k (.sym n)]
 | .bool,b=> [.bool (.sym b)]
 | .jd,n=> [.jd n]
 | .str,l=> [.str l]
 | .sl t,l=> [.rd pm false t l]
 | .pair a b,x=>a.sg pm x.1++b.sg pm x.2
 | .arr t n,l=>if pm||t.flat then [.arr t n l]else List.replicate (n*t.w) .br
theorem sh{β:Env}{L:Nat→Option Kd}:∀ {vs:List Value} {n:Nat},vs.length=n→(∀v∈vs,v.oneCell'=true)→aP β L (List.replicate n .br) vs
 | [],_,h,_=>by simp at h;subst h;exact .nil
 |v::vs,n,h,h1=>by
  cases n with
  |zero=>simp at h
  |succ n=>
   rw[List.replicate_succ];exact aP.dX (h1 v (by simp)) (sh (by simpa using h) fun u hu=>h1 u (by simp[hu]))
theorem Ty.gS{β:Env}{L:Nat→Option Kd}{pm:Bool}:∀ (t:Ty) {x:t.D} {vs:List Value},t.has β pm x vs→aP β L (t.sg pm x) vs
 | .int _,_,_,h=>by simp only[Ty.has]at h;subst h;exact aP.dX rfl .nil
 | .bool,_,_,h=>by simp only[Ty.has]at h;subst h;exact aP.dX rfl .nil
 | .jd,_,_,h=>by simp only[Ty.has]at h;subst h;exact aP.dX rfl .nil
 | .str,_,_,h=>by simp only[Ty.has]at h;subst h;exact aP.dX rfl .nil
 | .sl _,_,_,h=>by
  simp only[Ty.has]at h;obtain⟨v,rfl,h1,h2⟩:=h;exact aP.dX ⟨h1,fun h=>by(cases h),h2⟩ .nil
 | .pair a b,_,_,h=>by
  simp only[Ty.has]at h;obtain⟨u,w,rfl,h1,h2⟩:=h;exact(a.gS h1).append (b.gS h2)
 | .arr t n,x,vs,h=>by
  have tk:=h;simp only[Ty.has]at h;obtain⟨h1,h2⟩:=h;simp only[Ty.sg]
  split
  ·rename_i hp;refine aF.one (R:=SV.eW β L) ⟨h1,?_⟩
   cases pm with
   |true=>exact h2
   |false=>exact h2.imp fun _ _=>t.k8 (by simpa using hp)
  ·exact sh (Ty.cU _ tk) (Ty.lP _ tk)
def nz:List SV→Nat→Option (List SV×List SV)
 |l,0=>some ([],l)
 | [],_+1=>none
 | .arr t n x::r,k+1=>
  if n*t.w≤k+1 then(nz r (k+1-n*t.w)).map fun p=>(.arr t n x::p.1,p.2)
  else if t.w≠0∧(k+1)%t.w=0 then some ([.arr t ((k+1)/t.w) (x.take ((k+1)/t.w))],.arr t (n-(k+1)/t.w) (x.drop ((k+1)/t.w))::r)
  else none
 |s::r,k+1=>(nz r k).map fun p=>(s::p.1,p.2)
theorem dQ{β:Env}{t:Ty}{pm:Bool}{l:List t.D}{vs:List Value}(h:aF (t.has β pm) l vs)(j:Nat):∃v1 v2,vs=v1++v2∧aF (t.has β pm) (l.take j) v1∧aF (t.has β pm) (l.drop j) v2:=by
 rw[← List.take_append_drop j l]at h;exact h.split
theorem gA{β:Env}{L:Nat→Option Kd}:∀ (l:List SV) (k:Nat) {a b:List SV} {vs:List Value},nz l k=some (a,b)→aP β L l vs→
  ∃va vb,vs=va++vb∧va.length=k∧aP β L a va∧aP β L b vb
 |l,0,a,b,vs,h,hd=>by
  have:nz l 0=some ([],l):=by cases l<;>rfl
  rw[this]at h;simp at h;obtain⟨rfl,rfl⟩:=h;exact⟨[],vs,rfl,rfl,.nil,hd⟩
 | [],k+1,a,b,vs,h,_=>by simp[nz]at h
 |s::r,k+1,a,b,vs,h,hd=>by
  have plain:(∀t n l,s≠ .arr t n l)→∃va vb,vs=va++vb∧va.length=k+1∧aP β L a va∧aP β L b vb:=by
   intro hs
   have h':(nz r k).map (fun p=>(s::p.1,p.2))=some (a,b):=by
    cases s with
    |arr t n l=>exact absurd rfl (hs t n l)
    |_=>exact h
   obtain⟨⟨a',b'⟩,h1,h2⟩:=Option.map_eq_some_iff.1 h';simp at h2;obtain⟨rfl,rfl⟩:=h2
   cases hd with
   |cons h3 h4=>
    obtain⟨v,rfl,h5⟩:=SV.eG h3 hs;obtain⟨va,vb,rfl,e,h6,h7⟩:=gA r k h1 h4;exact⟨v::va,vb,rfl,by simp[e],aP.dX h5 h6,h7⟩
  cases s with
  |arr t n x=>
   simp only[nz]at h
   cases hd with
   |cons h3 h4=>
    rename_i us ws;have rK:=SV.dP h3;simp only[SV.w]at rK
    split at h
    ·rename_i hle;obtain⟨⟨a',b'⟩,h1,h2⟩:=Option.map_eq_some_iff.1 h;simp at h2;obtain⟨rfl,rfl⟩:=h2;obtain⟨va,vb,rfl,e,h6,h7⟩:=gA r (k+1-n*t.w) h1 h4;exact⟨us++va,vb,by simp,by simp[rK,e];omega,.cons h3 h6,h7⟩
    ·rename_i dE
     split at h
     ·rename_i hw;simp at h;obtain⟨rfl,rfl⟩:=h;obtain⟨h5,h6⟩:=h3;obtain⟨v1,v2,rfl,h7,h8⟩:=dQ h6 ((k+1)/t.w);have hdiv:(k+1)/t.w*t.w=k+1:=Nat.div_mul_cancel (Nat.dvd_of_mod_eq_zero hw.2)
      have ahx:(k+1)/t.w<n:=Nat.lt_of_not_le fun hle=>dE (by
       have:=Nat.mul_le_mul_right t.w hle;omega)
      have SR:(x.take ((k+1)/t.w)).length=(k+1)/t.w:=(by simp;omega);refine⟨v1,v2++ws,by simp,by rw[aR h7,SR,hdiv],aF.one (R:=SV.eW β L) ⟨SR,h7⟩,.cons (R:=SV.eW β L) ⟨by simp;omega,h8⟩ h4⟩
     ·simp at h
  |_=>exact plain (by intros;simp)
def Es(l:List SV)(off m:Nat):Option (List SV):=
 match nz l off with
 |some (_,b)=>(nz b m).map (·.1)
 |none=>none
theorem kl{β:Env}{L:Nat→Option Kd}{l:List SV}{off m:Nat}{s:List SV}{vs:List Value}(h:Es l off m=some s)(hd:aP β L l vs):
  ∃pre mid post,vs=pre++(mid++post)∧pre.length=off∧mid.length=m∧aP β L s mid:=by
 unfold Es at h;split at h
 ·rename_i a b hc;obtain⟨⟨x,y⟩,h1,rfl⟩:=Option.map_eq_some_iff.1 h;obtain⟨va,vb,rfl,e1,h2,h3⟩:=gA _ _ hc hd;obtain⟨vc,ve,rfl,e2,h4,h5⟩:=gA _ _ h1 h3;exact⟨va,vc,ve,rfl,e1,e2,h4⟩
 ·cases h
def ov:List SV→Nat→Option SV
 | [],_=>none
 | .arr t n x::r,off=>
  if off<n*t.w then
   (if t.w=1 then match t.sg true (x.getD off t.z)with| [.arr _ _ _]=>none| [s]=>some s|_=>none
    else if(t.sg true (x.getD (off/t.w) t.z)).all (fun s=>match s with| .arr _ _ _=>false|_=>true)then(t.sg true (x.getD (off/t.w) t.z))[off%t.w]? else none)
  else ov r (off-n*t.w)
 |s::_,0=>some s
 |_::r,off+1=>ov r off
theorem eH{β:Env}{t:Ty}{pm:Bool}{l:List t.D}{vs:List Value}(h:aF (t.has β pm) l vs){j:Nat}(hj:j<l.length):
  ∃a u b,vs=a++(u++b)∧a.length=j*t.w∧t.has β pm (l.getD j t.z) u∧aF (t.has β pm) (l.take j) a∧aF (t.has β pm) (l.drop (j+1)) b:=by
 have e:l[j]? =some (l.getD j t.z):=by simp[List.getD,hj]
 obtain⟨a,u,b,rfl,h1,h2,h3⟩:=h.get e;exact⟨a,u,b,rfl,by rw[aR h2,List.length_take,Nat.min_eq_left (Nat.le_of_lt hj)],h1,h2,h3⟩
theorem jB{β:Env}{L:Nat→Option Kd}:∀ {l:List SV} {vs:List Value} {i:Nat} {s:SV},l.all (fun s=>match s with| .arr _ _ _=>false|_=>true)=true→aP β L l vs→l[i]? =some s→∃v,vs[i]? =some v∧s.den β L v
 | [],_,_,_,_,_,h=>by simp at h
 |x::l,_,i,s,ha,.cons h1 h2,h=>by
  simp only[List.all_cons,Bool.and_eq_true]at ha;obtain⟨v,rfl,hv⟩:=SV.eG h1 (fun t n l e=>by subst e;simp at ha)
  cases i with
  |zero=>simp at h;subst h;exact⟨v,by simp,hv⟩
  |succ i=>
   simp at h;obtain⟨u,h3,h4⟩:=jB ha.2 h2 h;exact⟨u,by simpa using h3,h4⟩
theorem jC{β:Env}{L:Nat→Option Kd}:∀ (l:List SV) (off:Nat) {s:SV} {vs:List Value},ov l off=some s→aP β L l vs→∃v,vs[off]? =some v∧s.den β L v
 | [],_,_,_,h,_=>by simp[ov]at h
 |x::r,off,s,vs,h,hd=>by
  have plain:(∀t n l,x≠ .arr t n l)→∃v,vs[off]? =some v∧s.den β L v:=by
   intro hs
   cases hd with
   |cons h1 h2=>
    obtain⟨v,rfl,h3⟩:=SV.eG h1 hs
    cases off with
    |zero=>
     have:s=x:=by
      cases x with
      |arr t n l=>exact absurd rfl (hs t n l)
      |_=>simp[ov]at h;exact h.symm
     subst this;exact⟨v,rfl,h3⟩
    |succ off=>
     have:ov r off=some s:=by
      cases x with
      |arr t n l=>exact absurd rfl (hs t n l)
      |_=>exact h
     obtain⟨u,h4,h5⟩:=jC r off this h2;exact⟨u,by simpa using h4,h5⟩
  cases x with
  |arr t n x=>
   have h':(if off<n*t.w then
   (if t.w=1 then match t.sg true (x.getD off t.z)with| [.arr _ _ _]=>none| [s]=>some s|_=>none
    else if(t.sg true (x.getD (off/t.w) t.z)).all (fun s=>match s with| .arr _ _ _=>false|_=>true)then(t.sg true (x.getD (off/t.w) t.z))[off%t.w]? else none)
  else ov r (off-n*t.w))=some s:=by
    cases off<;>exact h
   clear h
   cases hd with
   |cons h1 h2=>
    rename_i us ws;have rK:=SV.dP h1;simp only[SV.w]at rK;obtain⟨h3,h4⟩:=h1
    split at h'
    ·rename_i dE
     split at h'
     ·rename_i hw;have hj:off<x.length:=(by rw[h3];rw[hw]at dE;omega);obtain⟨a,u,b,rfl,e1,h5,_⟩:=eH h4 hj;have h6:=t.gS (L:=L) h5;rw[hw,Nat.mul_one]at e1
      split at h'
      ·cases h'
      ·rename_i s' _ hse;simp at h';subst h';rw[hse]at h6;obtain⟨v,rfl,h7⟩:=SV.eG (aF.fw h6) (by assumption);exact⟨v,by rw[← e1];simp,h7⟩
      ·cases h'
     ·split at h'
      ·rename_i hw tk
       have eI:0<t.w:=by rcases Nat.eq_zero_or_pos t.w with e|e
                         · rw[e]at dE;omega
                         · exact e
       have hj:off/t.w<x.length:=(by rw[h3];exact(Nat.div_lt_iff_lt_mul eI).2 dE);obtain⟨a,u,b,rfl,e1,h5,_⟩:=eH h4 hj;obtain⟨v,h7,h8⟩:=jB tk (t.gS (L:=L) h5) h';refine⟨v,?_,h8⟩;have hm:off=a.length+off%t.w:=(by rw[e1,Nat.mul_comm];exact(Nat.div_add_mod off t.w).symm);have ads:=(List.getElem?_eq_some_iff.1 h7).1;rw[hm,List.append_assoc,List.getElem?_append_right (by omega),Nat.add_sub_cancel_left,List.append_assoc,List.getElem?_append_left ads];exact h7
      ·cases h'
    ·rename_i hge;obtain⟨v,h5,h6⟩:=jC r (off-n*t.w) h' h2;exact⟨v,by rw[List.getElem?_append_right (by omega),rK];exact h5,h6⟩
  |_=>exact plain (by intros;simp)
def lS{α:Type}(f:List SV→Option α)(w:Nat):Nat→List SV→Option (List α)
 |0,[]=>some []
 |0,_::_=>none
 |n+1,l=>match nz l w with
  |some (a,b)=>match f a,lS f w n b with
   |some x,some m=>some (x::m)
   |_,_=>none
  |none=>none
theorem jD{β:Env}{L:Nat→Option Kd}{α:Type}{R:α→List Value→Prop}{f:List SV→Option α}{w:Nat}(hf:∀a x vs,f a=some x→aP β L a vs→R x vs):
  ∀ (n:Nat) {l:List SV} {m:List α} {vs:List Value},lS f w n l=some m→aP β L l vs→aF R m vs∧m.length=n
 |0,[],m,vs,h,hd=>by simp[lS]at h;subst h;cases hd;exact⟨.nil,rfl⟩
 |0,_::_,_,_,h,_=>by simp[lS]at h
 |n+1,l,m,vs,h,hd=>by
  simp only[lS]at h
  split at h
  ·rename_i a b hc
   split at h
   ·rename_i x m' h1 h2;simp at h;subst h;obtain⟨va,vb,rfl,_,h3,h4⟩:=gA _ _ hc hd;obtain⟨h5,h6⟩:=jD hf n h2 h4;exact⟨.cons (hf _ _ _ h1 h3) h5,by simp[h6]⟩
   ·cases h
  ·cases h
def gB(s:ByteArray):List Int:=s.data.toList.map fun x=>(x.toNat:Int)
theorem da(s:ByteArray):strOf (gB s)=s:=by
 unfold strOf gB;rw[List.map_map]
 have:((fun n:Int=>UInt8.ofNat n.toNat)∘fun x:UInt8=>(x.toNat:Int))=id:=by
  funext x;simp
 rw[this];simp
theorem k9(l:List Int):(strOf l).size=l.length:=by unfold strOf;show Array.size _=_;simp
def Ty.read(pm:Bool):(t:Ty)→List SV→Option t.D
 | .int k,l=>match l with
  | [.int k' n]=>if k'=k then some n.val else none
  |_=>none
 | .bool,l=>match l with
  | [.bool b]=>some b.val
  |_=>none
 | .jd,l=>match l with
  | [.jd n]=>some n
  |_=>none
 | .str,l=>match l with
  | [.str s]=>some s
  | [.cQ (.string s)]=>some (gB s)
  |_=>none
 | .sl t,l=>match l with
  | [.rd gu _ t' m]=>if h:t'=t then(if gu|| !pm then some (h▸m)else none)else none
  | [.cQ (.slice none 0 0)]=>some []
  |_=>none
 | .pair a b,l=>match nz l a.w with
  |some (x,y)=>match a.read pm x,b.read pm y with
   |some u,some v=>some (u,v)
   |_,_=>none
  |none=>none
 | .arr t n,l=>match l with
  | [.arr t' n' m]=>if h:t'=t then(if n'=n then some (h▸m)else none)else none
  |l=>lS (t.read pm) t.w n l
theorem Ty.dZ{β:Env}{L:Nat→Option Kd}{pm:Bool}:∀ (t:Ty) {l:List SV} {x:t.D} {vs:List Value},t.read pm l=some x→aP β L l vs→t.has β pm x vs
 | .int k,l,x,vs,h,hd=>by
  simp only[Ty.read]at h
  split at h
  ·split at h
   ·rename_i hk;simp at h;subst h hk;obtain⟨v,rfl,rfl⟩:=aF.fw hd;rfl
   ·cases h
  ·cases h
 | .bool,l,x,vs,h,hd=>by
  simp only[Ty.read]at h
  split at h
  ·simp at h;subst h;obtain⟨v,rfl,rfl⟩:=aF.fw hd;rfl
  ·cases h
 | .jd,l,x,vs,h,hd=>by
  simp only[Ty.read]at h
  split at h
  ·simp at h;subst h;obtain⟨v,rfl,rfl⟩:=aF.fw hd;rfl
  ·cases h
 | .str,l,x,vs,h,hd=>by
  simp only[Ty.read]at h
  split at h
  ·simp at h;subst h;obtain⟨v,rfl,rfl⟩:=aF.fw hd;rfl
  ·simp at h;subst h;obtain⟨v,rfl,_,rfl⟩:=aF.fw hd;simp only[Ty.has];rw[da]
  ·cases h
 | .sl t,l,x,vs,h,hd=>by
  simp only[Ty.read]at h
  split at h
  ·rename_i gu nn t' m
   split at h
   ·rename_i ht;subst ht
    split at h
    ·rename_i hp;simp at h;subst h;obtain⟨v,rfl,h1,_,h2⟩:=aF.fw hd;refine⟨v,rfl,h1,?_⟩
     cases gu
     ·simp at hp;subst hp;exact h2
     ·exact h2.Er
    ·cases h
   ·cases h
  ·simp at h;subst h;obtain⟨v,rfl,h1,rfl⟩:=aF.fw hd;exact⟨_,rfl,h1,.inr (.inr ⟨rfl,rfl⟩)⟩
  ·cases h
 | .pair a b,l,x,vs,h,hd=>by
  simp only[Ty.read]at h
  split at h
  ·rename_i u w hc
   split at h
   ·rename_i x1 x2 h1 h2;simp at h;subst h;obtain⟨va,vb,rfl,_,h3,h4⟩:=gA _ _ hc hd;exact⟨va,vb,rfl,a.dZ h1 h3,b.dZ h2 h4⟩
   ·cases h
  ·cases h
 | .arr t n,l,x,vs,h,hd=>by
  simp only[Ty.read]at h
  split at h
  ·rename_i t' n' m
   split at h
   ·rename_i ht;subst ht
    split at h
    ·rename_i hn;simp at h;subst h hn;obtain⟨h1,h2⟩:=aF.fw hd;exact⟨h1,h2.imp fun _ _=>t'.jA⟩
    ·cases h
   ·cases h
  ·obtain⟨h1,h2⟩:=jD (R:=t.has β pm) (fun a x vs h hd=>t.dZ h hd) n h hd;exact⟨h2,h1⟩
def la(l:List SV)(off:Nat)(new:List SV):Option (List SV):=
 match nz l off with
 |some (a,b)=>(nz b (wL new)).map fun p=>a++new++p.2
 |none=>none
def wC:List SV→Nat→List SV→Option (List SV)
 | [],off,new=>la [] off new
 | .arr t n x::r,off,new=>
  if n*t.w≤off then(wC r (off-n*t.w) new).map (.arr t n x:: ·)
  else match(if t.w≠0∧off%t.w=0∧wL new=t.w then t.read true new else none)with
   |some y=>some (.arr t n (x.set (off/t.w) y)::r)
   |none=>la (.arr t n x::r) off new
 |s::r,0,new=>la (s::r) 0 new
 |s::r,off+1,new=>(wC r off new).map (s:: ·)
def B8(β:Env)(L:Nat→Option Kd)(l l':List SV)(off:Nat)(new:List SV):Prop:=
 ∀vs ws,aP β L l vs→aP β L new ws→∃pre old post,vs=pre++(old++post)∧pre.length=off∧old.length=ws.length∧aP β L l' (pre++(ws++post))
theorem km{β:Env}{L:Nat→Option Kd}{l l':List SV}{off:Nat}{new:List SV}(h:la l off new=some l'):B8 β L l l' off new:=by
 intro vs ws hd hn;unfold la at h;split at h
 ·rename_i a b hc;obtain⟨⟨x,y⟩,h1,rfl⟩:=Option.map_eq_some_iff.1 h;obtain⟨va,vb,rfl,e1,h2,h3⟩:=gA _ _ hc hd;obtain⟨vc,ve,rfl,e2,h4,h5⟩:=gA _ _ h1 h3;refine⟨va,vc,ve,rfl,e1,by rw[e2,hn.length],?_⟩;rw[List.append_assoc];exact h2.append (hn.append h5)
 ·cases h
theorem lT{β:Env}{L:Nat→Option Kd}:∀ (l:List SV) (off:Nat) {new l':List SV},wC l off new=some l'→B8 β L l l' off new
 | [],off,new,l',h=>km h
 |s::r,off,new,l',h=>by
  have plain:(∀t n l,s≠ .arr t n l)→B8 β L (s::r) l' off new:=by
   intro hs
   cases off with
   |zero=>
    refine km ?_
    cases s with
    |arr t n l=>exact absurd rfl (hs t n l)
    |_=>exact h
   |succ off=>
    have h':(wC r off new).map (s:: ·)=some l':=by
     cases s with
     |arr t n l=>exact absurd rfl (hs t n l)
     |_=>exact h
    obtain⟨r',h1,rfl⟩:=Option.map_eq_some_iff.1 h';intro vs ws hd hn
    cases hd with
    |cons h2 h3=>
     obtain⟨v,rfl,h4⟩:=SV.eG h2 hs;obtain⟨pre,old,post,rfl,e1,e2,h5⟩:=lT r off h1 _ _ h3 hn;exact⟨v::pre,old,post,rfl,by simp[e1],e2,aP.dX h4 h5⟩
  cases s with
  |arr t n x=>
   have h':(if n*t.w≤off then(wC r (off-n*t.w) new).map (.arr t n x:: ·)
    else match(if t.w≠0∧off%t.w=0∧wL new=t.w then t.read true new else none)with
     |some y=>some (.arr t n (x.set (off/t.w) y)::r)
     |none=>la (.arr t n x::r) off new)=some l':=by
    cases off<;>exact h
   clear h
   split at h'
   ·rename_i hle;obtain⟨r',h1,rfl⟩:=Option.map_eq_some_iff.1 h';intro vs ws hd hn
    cases hd with
    |cons h2 h3=>
     rename_i us vs;have rK:=SV.dP h2;simp only[SV.w]at rK;obtain⟨pre,old,post,rfl,e1,e2,h5⟩:=lT r _ h1 _ _ h3 hn;refine⟨us++pre,old,post,by simp,by simp[rK,e1];omega,e2,?_⟩;rw[List.append_assoc];exact .cons h2 h5
   ·rename_i dE
    split at h'
    ·rename_i y hy
     split at hy
     ·rename_i hw;simp at h';subst h';intro vs ws hd hn
      cases hd with
      |cons h2 h3=>
       rename_i us vs;obtain⟨h4,h5⟩:=h2
       have hj:off/t.w<x.length:=by
        rw[h4];exact(Nat.div_lt_iff_lt_mul (by omega)).2 (by omega)
       obtain⟨a,u,b,rfl,e1,h6,h7,h8⟩:=eH h5 hj;have GG:=t.dZ hy hn;refine⟨a,u,b++vs,by simp,?_,by rw[t.cU h6,t.cU GG],?_⟩
       ·rw[e1];exact Nat.div_mul_cancel (Nat.dvd_of_mod_eq_zero hw.2.1)
       ·have h9:aF (t.has β true) (x.set (off/t.w) y) (a++(ws++b)):=aF.zD hj GG h7 h8;have XJ:=aF.cons (R:=SV.eW β L) (x:=.arr t n (x.set (off/t.w) y)) ⟨by simpa using h4,h9⟩ h3;simpa using XJ
     ·cases hy
    ·exact km h'
  |_=>exact plain (by intros;simp)
theorem bo(b off k:Nat):(⟨b,off,none⟩:Addr).add k=⟨b,off+k,none⟩:=by
 unfold Addr.add;split
 ·rename_i e;subst e;simp
 ·rfl
theorem add_add{a:Addr}(h:a.spot=none)(i j:Nat):(a.add i).add j=a.add (i+j):=by
 obtain⟨b,o,s⟩:=a;simp at h;subst h;rw[bo,bo,bo,Nat.add_assoc]
theorem hX{a:Addr}(h:a.spot=none)(i:Nat):(a.add i).spot=none:=by
 obtain⟨b,o,s⟩:=a;simp at h;subst h;rw[bo]
theorem bQ.mid{w:World}{a:Addr}(hs:a.spot=none){pre mid post:List Value}(h:bQ w a (pre++(mid++post))):bQ w (a.add pre.length) mid:=by
 intro i u hu;rw[add_add hs];refine h _ u ?_;rw[List.getElem?_append_right (by omega),Nat.add_sub_cancel_left,List.getElem?_append_left (List.getElem?_eq_some_iff.1 hu).1];exact hu
theorem cC{w:World}{b:Nat}{pre mid post:List Value}{elem:TypeId}{fz:Nat×Nat}(h:w.heap[b]? =some (.cells (pre++(mid++post)).toArray elem fz)):bQ w ⟨b,pre.length,none⟩ mid:=by
 intro i u hu;rw[bo];simp only[World.cell?,h];have dE:=(List.getElem?_eq_some_iff.1 hu).1;simp only[Option.isSome_none,Bool.false_eq_true,if_false,List.getElem?_toArray];rw[List.getElem?_append_right (by omega),Nat.add_sub_cancel_left,List.getElem?_append_left dE];exact hu
theorem gC{P:Program}{w:World}{a:Addr}{vs:List Value}(h:bQ w a vs):(loadCells a vs.length).run P w= .ok vs.toArray w:=
 run_loadCells_list w a vs h
theorem ca{P:Program}{a:Addr}(hs:a.spot=none){elem:TypeId}{fz:Nat×Nat}:∀ (ws:List Value) (k:Nat) (pre old post:List Value) (w:World),w.heap[a.block]? =some (.cells (pre++(old++post)).toArray elem fz)→pre.length=a.off+k→old.length=ws.length→
  (∀v∈ws,v.oneCell'=true)→(∀off,pre.length≤off→off<pre.length+ws.length→¬ (fz.1≤off∧off<fz.2))→
  ∃w',(storeCells a ws k).run P w= .ok () w'∧w'.heap[a.block]? =some (.cells (pre++(ws++post)).toArray elem fz)∧(∀b,b≠a.block→w'.heap[b]? =w.heap[b]?)∧w'.heap.size=w.heap.size∧w'.os=w.os∧w'.output=w.output
 | [],k,pre,old,post,w,h,_,hl,_,_=>by
  have:old= []:=List.eq_nil_of_length_eq_zero (by simpa using hl);subst this;exact⟨w,rfl,h,fun _ _=>rfl,rfl,rfl,rfl⟩
 |v::ws,k,pre,old,post,w,h,hp,hl,h1,hf=>by
  cases old with
  |nil=>simp at hl
  |cons o old=>
   obtain⟨b,of,s⟩:=a;simp at hs;subst hs;simp only at h hp hl ⊢;have adt:(⟨b,of,none⟩:Addr).add k=⟨b,pre.length,none⟩:=by rw[bo];congr 1;exact hp.symm
   have hc:w.cell? ⟨b,pre.length,none⟩=some o:=by
    simp only[World.cell?,h];simp
   have hfz:w.frozen? ⟨b,pre.length,none⟩=false:=by
    simp only[World.frozen?,h];have:=hf pre.length (Nat.le_refl _) (by simp);simpa using this
   have oR:(w.setCell ⟨b,pre.length,none⟩ v).heap[b]? =some (.cells ((pre++ [v])++(old++post)).toArray elem fz):=by
    simp only[World.setCell,Array.getElem?_modify,h];simp
   obtain⟨w',e1,e2,e3,e4,e5,e6⟩:=ca (P:=P) (a:=⟨b,of,none⟩) rfl (elem:=elem) (fz:=fz) ws (k+1) (pre++ [v]) old post (w.setCell ⟨b,pre.length,none⟩ v) oR (by simp;omega) (by simpa using hl) (fun u hu=>h1 u (by simp[hu]))
    (fun off k1 k2=>hf off (by simp at k1;omega) (by simp at k2 ⊢;omega))
   refine⟨w',?_,by simpa using e2,fun c lb=>?_,?_,?_,?_⟩
   ·simp only[storeCells,Sem.run_bind,adt,run_store P w _ v _ (h1 v (by simp)),hc,hfz];simpa using e1
   ·rw[e3 c lb];exact heap_setCell_other w _ c v lb
   ·rw[e4];simp
   ·rw[e5];rfl
   ·rw[e6];rfl
def map2(f:Int→Int→Int):SI→SI→SI
 | .lit a,.lit b=>.lit (f a b)
 |a,b=>.sym (f a.val b.val)
def map2B(f:Int→Int→Bool):SI→SI→SB
 | .lit a,.lit b=>.lit (f a b)
 |a,b=>.sym (f a.val b.val)
@[simp] theorem map2_val(f:Int→Int→Int)(a b:SI):(map2 f a b).val=f a.val b.val:=by cases a<;>cases b<;>rfl
@[simp] theorem map2B_val (f:Int→Int→Bool) (a b:SI):(map2B f a b).val=f a.val b.val:=by cases a<;>cases b<;>rfl
def bl (k:IntKind) (x y:Int):Int:=k.wrap (BitVec.ofInt k.bits x&&& BitVec.ofInt k.bits y).toNat
def bf(k:IntKind)(x y:Int):Int:=k.wrap (BitVec.ofInt k.bits x|||BitVec.ofInt k.bits y).toNat
def bt(k:IntKind)(x y:Int):Int:=k.wrap (BitVec.ofInt k.bits x ^^^ BitVec.ofInt k.bits y).toNat
def dR(k:IntKind)(x y:Int):Int:=k.wrap (BitVec.ofInt k.bits x&&& ~~~BitVec.ofInt k.bits y).toNat
def shl(k:IntKind)(x y:Int):Int:=k.wrap (x*2 ^ (min y.toNat k.bits))
def shr(k:IntKind)(x y:Int):Int:=x.fdiv (2 ^ (min y.toNat k.bits))
def GH(op:BinOp)(k:IntKind)(a:SI)(b:SI):Option (Option Prop×SV):=
 match op with
 | .add=>some (none,.int k (map2 (fun x y=>k.wrap (x+y)) a b))
 | .sub=>some (none,.int k (map2 (fun x y=>k.wrap (x-y)) a b))
 | .mul=>some (none,.int k (map2 (fun x y=>k.wrap (x*y)) a b))
 | .quo=>match b with
  | .lit y=>if y=0 then none else some (none,.int k (map2 (fun x y=>k.wrap (x.tdiv y)) a b))
  | .sym y=>some (some (y≠0),.int k (map2 (fun x y=>k.wrap (x.tdiv y)) a b))
 | .rem=>match b with
  | .lit y=>if y=0 then none else some (none,.int k (map2 (fun x y=>x.tmod y) a b))
  | .sym y=>some (some (y≠0),.int k (map2 (fun x y=>x.tmod y) a b))
 | .and=>some (none,.int k (map2 (bl k) a b))
 | .or=>some (none,.int k (map2 (bf k) a b))
 | .xor=>some (none,.int k (map2 (bt k) a b))
 | .andNot=>some (none,.int k (map2 (dR k) a b))
 | .eql=>some (none,.bool (map2B (fun x y=>x==y) a b))
 | .neq=>some (none,.bool (map2B (fun x y=>x !=y) a b))
 | .lss=>some (none,.bool (map2B (fun x y=>decide (x<y)) a b))
 | .leq=>some (none,.bool (map2B (fun x y=>decide (x≤y)) a b))
 | .gtr=>some (none,.bool (map2B (fun x y=>decide (x>y)) a b))
 | .geq=>some (none,.bool (map2B (fun x y=>decide (x≥y)) a b))
 |_=>none
def lU(f:Int→Int→Int)(k:IntKind)(a b:SI):Option (Option Prop×SV):=
 match b with
 | .lit y=>if y<0 then none else some (none,.int k (map2 f a b))
 | .sym y=>some (some (0≤y),.int k (map2 f a b))
def GI(P:Program)(op:BinOp)(t:TypeId):SV→SV→Option (Option Prop×SV)
 | .int k a,.int k' b=>
  match op with
  | .shl=>lU (shl k) k a b
  | .shr=>lU (shr k) k a b
  |_=>if k=k' then GH op k a b else none
 | .bool a,.bool b=>
  match op,P.underlying t with
  | .eql,some .bool=>some (none,.bool (match a,b with| .lit x,.lit y=>.lit (x==y)|a,b=>.sym (a.val==b.val)))
  | .neq,some .bool=>some (none,.bool (match a,b with| .lit x,.lit y=>.lit (!(x==y))|a,b=>.sym (!(a.val==b.val))))
  |_,_=>none
 | .ptr _ _,.cQ (.pointer none)=>
  match op,P.underlying t with
  | .eql,some (.pointer _)=>some (none,.bool (.lit false))
  | .neq,some (.pointer _)=>some (none,.bool (.lit true))
  |_,_=>none
 | .cQ (.pointer none),.cQ (.pointer none)=>
  match op,P.underlying t with
  | .eql,some (.pointer _)=>some (none,.bool (.lit true))
  | .neq,some (.pointer _)=>some (none,.bool (.lit false))
  |_,_=>none
 | .slice _ _ _ _,.cQ (.slice none _ _)=>
  match op,P.underlying t with
  | .eql,some (.slice _)=>some (none,.bool (.lit false))
  | .neq,some (.slice _)=>some (none,.bool (.lit true))
  |_,_=>none
 | .cQ (.slice none _ _),.cQ (.slice none _ _)=>
  match op,P.underlying t with
  | .eql,some (.slice _)=>some (none,.bool (.lit true))
  | .neq,some (.slice _)=>some (none,.bool (.lit false))
  |_,_=>none
 |_,_=>none
def c7:Option Prop→Prop
 |none=>True
 |some p=>p
theorem bK{P:Program}{w:World}{op:BinOp}{t:TypeId}{x y:Operand}{a b:Value}
  (ha:∀c,a≠ .agg c) (hi:a≠ .nilIface):(eqGuard op t x y a b).run P w= .ok () w:=by
 unfold eqGuard
 cases op<;>first
  |rfl
  |(cases a<;>first
    |(exact absurd rfl (ha _))
    |(exact absurd rfl hi)
    |(cases b<;>rfl))
theorem ee{P:Program}{w:World}{t:TypeId}{x y:Value}{b:Bool}(h:∀d,(Op.equalIn (d+1) t x y).run P w= .ok b w):(Op.equal t x y).run P w= .ok b w:=h 9999
noncomputable section
variable {P:Program} {w:World} {t:TypeId}
theorem B9{a b:Bool}(hu:P.underlying t=some .bool):(Op.equal t (.bool a) (.bool b)).run P w= .ok (a==b) w:=
 ee fun d=>by simp[Op.equalIn,run_underlying hu]
theorem pQ{e:TypeId}{p:Addr}(hu:P.underlying t=some (.pointer e)):(Op.equal t (.pointer (some p)) (.pointer none)).run P w= .ok false w:=
 ee fun d=>by simp[Op.equalIn,run_underlying hu]
theorem pR{e:TypeId}(hu:P.underlying t=some (.pointer e)):(Op.equal t (.pointer none) (.pointer none)).run P w= .ok true w:=
 ee fun d=>by simp[Op.equalIn,run_underlying hu]
theorem fC{e:TypeId}{p:Addr}{l c l' c':Nat}(hu:P.underlying t=some (.slice e)):(Op.equal t (.slice (some p) l c) (.slice none l' c')).run P w= .ok false w:=
 ee fun d=>by simp[Op.equalIn,run_underlying hu]
theorem Ca{e:TypeId}{l c l' c':Nat}(hu:P.underlying t=some (.slice e)):(Op.equal t (.slice none l c) (.slice none l' c')).run P w= .ok true w:=
 ee fun d=>by simp[Op.equalIn,run_underlying hu]
theorem ko{x y:Value}{b:Bool}(hx:binOp .eql t x y=(do pure (.bool (← Op.equal t x y))))(h:(Op.equal t x y).run P w= .ok b w):(binOp .eql t x y).run P w= .ok (.bool b) w:=by
 rw[hx,Sem.run_bind,h];rfl
theorem kp{x y:Value}{b:Bool}(hx:binOp .neq t x y=(do pure (.bool (!(← Op.equal t x y)))))(h:(Op.equal t x y).run P w= .ok b w):(binOp .neq t x y).run P w= .ok (.bool (!b)) w:=by
 rw[hx,Sem.run_bind,h];rfl
end
theorem SS{P:Program}{w:World}{op:BinOp}{t:TypeId}{k:IntKind}{a b:SI}{β:Env}{L:Nat→Option Kd}{q:Option Prop}{s:SV}
  (h:GH op k a b=some (q,s)) (hq:c7 q):
  ∃v,(binOp op t (.int k a.val) (.int k b.val)).run P w= .ok v w∧s.den β L v:=by
 cases op<;>simp only[GH]at h<;>try (simp at h;done)
 case quo=>
  cases b with
  |lit y=>simp only at h;split at h
          · simp at h
          · rename_i hy;simp at h;obtain⟨_,rfl⟩:=h;exact⟨_,by simp[binOp,Op.intDiv,SI.val,hy];rfl,by simp only[SV.den,map2_val];rfl⟩
  |sym y=>simp at h;obtain⟨rfl,rfl⟩:=h
          have hy:¬y=0:=hq;exact⟨_,by simp[binOp,Op.intDiv,SI.val,hy];rfl,by simp only[SV.den,map2_val];rfl⟩
 case rem=>
  cases b with
  |lit y=>simp only at h;split at h
          · simp at h
          · rename_i hy;simp at h;obtain⟨_,rfl⟩:=h;exact⟨_,by simp[binOp,Op.intDiv,SI.val,hy];rfl,by simp only[SV.den,map2_val];rfl⟩
  |sym y=>simp at h;obtain⟨rfl,rfl⟩:=h
          have hy:¬y=0:=hq;exact⟨_,by simp[binOp,Op.intDiv,SI.val,hy];rfl,by simp only[SV.den,map2_val];rfl⟩
 all_goals
  simp at h;obtain⟨_,rfl⟩:=h;exact⟨_,by simp[binOp,Op.intArith,Op.intBits,Op.intCmp];rfl,by simp[SV.den,bl,bf,bt,dR]⟩
theorem wD{P:Program}{w:World}{op:BinOp}{t:TypeId}{k k':IntKind}{a b:SI}{β:Env}{L:Nat→Option Kd}{q:Option Prop}{s:SV}{f:Int→Int→Int}
  (hop:(op= .shl∧f=shl k)∨(op= .shr∧f=shr k)) (h:lU f k a b=some (q,s)) (hq:c7 q):
  ∃v,(binOp op t (.int k a.val) (.int k' b.val)).run P w= .ok v w∧s.den β L v:=by
 have key:0≤b.val→∃v,(binOp op t (.int k a.val) (.int k' b.val)).run P w= .ok v w∧(SV.int k (map2 f a b)).den β L v:=by
  intro hb;have fx:¬b.val<0:=by omega
  rcases hop with⟨rfl,rfl⟩|⟨rfl,rfl⟩
  ·exact⟨_,by simp[binOp,Op.shift,fx];rfl,by simp[SV.den,shl]⟩
  ·exact⟨_,by simp[binOp,Op.shift,fx];rfl,by simp[SV.den,shr]⟩
 cases b with
 |lit y=>
  simp only[lU]at h
  split at h
  ·simp at h
  ·simp at h;obtain⟨_,rfl⟩:=h;exact key (by simp only[SI.val];omega)
 |sym y=>
  simp only[lU]at h;simp at h;obtain⟨rfl,rfl⟩:=h;exact key hq
theorem SU{P:Program}{w:World}{op:BinOp}{t:TypeId}{ox oy:Operand}{x y:SV}{xv yv:Value}{β:Env}{L:Nat→Option Kd}{q:Option Prop}{s:SV}
  (h:GI P op t x y=some (q,s)) (hq:c7 q) (hx:x.den β L xv) (hy:y.den β L yv):
  ∃v,(do eqGuard op t ox oy xv yv;binOp op t xv yv:Sem Value).run P w= .ok v w∧s.den β L v:=by
 unfold GI at h
 split at h
 ·
  rename_i k a k' b;simp only[SV.den]at hx hy;subst hx hy;simp only[Sem.run_bind,bK (P:=P) (w:=w) (op:=op) (t:=t) (x:=ox) (y:=oy) (a:=.int k a.val) (b:=.int k' b.val) (by simp) (by simp),Result.andThen_ok]
  split at h
  ·exact wD (.inl ⟨rfl,rfl⟩) h hq
  ·exact wD (.inr ⟨rfl,rfl⟩) h hq
  ·split at h
   ·rename_i hk;subst hk;exact SS h hq
   ·simp at h
 ·rename_i a b;simp only[SV.den]at hx hy;subst hx hy;simp only[Sem.run_bind,bK (P:=P) (w:=w) (op:=op) (t:=t) (x:=ox) (y:=oy) (a:=.bool a.val) (b:=.bool b.val) (by simp) (by simp),Result.andThen_ok]
  split at h
  ·rename_i hu;simp at h;obtain⟨_,rfl⟩:=h;exact⟨.bool (a.val==b.val),ko rfl (B9 hu),by cases a<;>cases b<;>rfl⟩
  ·rename_i hu;simp at h;obtain⟨_,rfl⟩:=h;exact⟨.bool (!(a.val==b.val)),kp rfl (B9 hu),by cases a<;>cases b<;>rfl⟩
  ·simp at h
 ·rename_i b o;simp only[SV.den]at hx hy;obtain⟨_,rfl⟩:=hx;obtain⟨_,rfl⟩:=hy;simp only[Sem.run_bind,bK (P:=P) (w:=w) (op:=op) (t:=t) (x:=ox) (y:=oy) (a:=.pointer (some ⟨β b,o,none⟩)) (b:=.pointer none) (by simp) (by simp),Result.andThen_ok]
  split at h
  ·rename_i hu;simp at h;obtain⟨_,rfl⟩:=h;exact⟨.bool false,ko rfl (pQ hu),rfl⟩
  ·rename_i hu;simp at h;obtain⟨_,rfl⟩:=h;exact⟨.bool true,kp rfl (pQ hu),rfl⟩
  ·simp at h
 ·simp only[SV.den]at hx hy;obtain⟨_,rfl⟩:=hx;obtain⟨_,rfl⟩:=hy;simp only[Sem.run_bind,bK (P:=P) (w:=w) (op:=op) (t:=t) (x:=ox) (y:=oy) (a:=.pointer none) (b:=.pointer none) (by simp) (by simp),Result.andThen_ok]
  split at h
  ·rename_i hu;simp at h;obtain⟨_,rfl⟩:=h;exact⟨.bool true,ko rfl (pR hu),rfl⟩
  ·rename_i hu;simp at h;obtain⟨_,rfl⟩:=h;exact⟨.bool false,kp rfl (pR hu),rfl⟩
  ·simp at h
 ·rename_i b o l c l' c';simp only[SV.den]at hx hy;obtain⟨_,rfl⟩:=hx;obtain⟨_,rfl⟩:=hy;simp only[Sem.run_bind,bK (P:=P) (w:=w) (op:=op) (t:=t) (x:=ox) (y:=oy) (a:=.slice (some ⟨β b,o,none⟩) l c) (b:=.slice none l' c') (by simp) (by simp),Result.andThen_ok]
  split at h
  ·rename_i hu;simp at h;obtain⟨_,rfl⟩:=h;exact⟨.bool false,ko rfl (fC hu),rfl⟩
  ·rename_i hu;simp at h;obtain⟨_,rfl⟩:=h;exact⟨.bool true,kp rfl (fC hu),rfl⟩
  ·simp at h
 ·rename_i l c l' c';simp only[SV.den]at hx hy;obtain⟨_,rfl⟩:=hx;obtain⟨_,rfl⟩:=hy;simp only[Sem.run_bind,bK (P:=P) (w:=w) (op:=op) (t:=t) (x:=ox) (y:=oy) (a:=.slice none l c) (b:=.slice none l' c') (by simp) (by simp),Result.andThen_ok]
  split at h
  ·rename_i hu;simp at h;obtain⟨_,rfl⟩:=h;exact⟨.bool true,ko rfl (Ca hu),rfl⟩
  ·rename_i hu;simp at h;obtain⟨_,rfl⟩:=h;exact⟨.bool false,kp rfl (Ca hu),rfl⟩
  ·simp at h
 ·simp at h
def dm(l m:List Int):Bool:=(strOf l).toList==(strOf m).toList
def jE:SV→Option (List Int)
 | .str l=>some l
 | .cQ (.string s)=>some (gB s)
 |_=>none
theorem eJ{β:Env}{L:Nat→Option Kd}{s:SV}{l:List Int}{v:Value}(h:jE s=some l)(hd:s.den β L v):v= .string (strOf l):=by
 unfold jE at h;split at h
 ·simp at h;subst h;exact hd
 ·simp at h;subst h;obtain⟨_,rfl⟩:=hd;rw[da]
 ·cases h
def Q1(op:BinOp)(l m:List Int):Option SV:=
 match op with
 | .eql=>some (.bool (.sym (dm l m)))
 | .neq=>some (.bool (.sym (!dm l m)))
 |_=>none
structure JC where
 aZ:Nat→Bool
 own:Nat→Option (Nat×Nat×Nat)
 nl:Nat→Bool
 nr:Nat→Bool
def lV(b:Bool)(J:JC):SV→SV→Option SV
 | .arr t n l,.arr t' n' l'=>if h:t'=t then(if n=n' then some (.arr t n (bif b then l else h▸l'))else none)else none
 |_,_=>none
def si(b:Bool)(J:JC):SV→SV→SV
 | .int k x,.int k' y=>if k=k' then
   match x,y with
   | .lit x,.lit y=>if x=y then .int k (.lit x)else .int k (.sym (bif b then x else y))
   |x,y=>.int k (.sym (bif b then x.val else y.val))
  else .br
 | .bool x,.bool y=>match x,y with
  | .lit x,.lit y=>if x=y then .bool (.lit x)else .bool (.sym (bif b then x else y))
  |x,y=>.bool (.sym (bif b then x.val else y.val))
 | .jd x,.jd y=>.jd (bif b then x else y)
 | .str x,.str y=>.str (bif b then x else y)
 | .str x,.cQ (.string y)=>.str (bif b then x else gB y)
 | .cQ (.string x),.str y=>.str (bif b then gB x else y)
 | .cQ (.string x),.cQ (.string y)=>if x.data=y.data then .cQ (.string x)else .str (bif b then gB x else gB y)
 | .ptr i o,.ptr i' o'=>if i=i'∧o=o'∧J.aZ i=true then .ptr i o else .br
 | .slice i o l c,.slice i' o' l' c'=>if i=i'∧o=o'∧l=l'∧c=c'∧J.aZ i=true then .slice i o l c else .br
 | .cQ (.pointer none),.cQ (.pointer none)=>.cQ (.pointer none)
 | .cQ (.slice none l c),.cQ (.slice none l' c')=>if l=l'∧c=c' then .cQ (.slice none l c)else .br
 | .cQ .nilIface,.cQ .nilIface=>.cQ .nilIface
 | .cQ .nilFunc,.cQ .nilFunc=>.cQ .nilFunc
 | .rd pm nn t l,.rd gu nn' t' l'=>if h:t'=t then .rd (pm&&gu) (nn&&nn') t (bif b then l else h▸l')else .br
 | .rd pm _ t l,.cQ (.slice none 0 0)=>.rd pm false t (bif b then l else [])
 | .cQ (.slice none 0 0),.rd pm _ t l=>.rd pm false t (bif b then []else l)
 | .sl i v,.sl i' v'=>if i=i' then match J.own i with
   |some (vx,vy,vz)=>if v=vx∧v'=vy then .sl i vz else .br
   |none=>.br
  else .br
 | .cQ (.slice none 0 0),.sl i v=>match J.own i with
   |some (_,vy,vz)=>if J.nl i=true∧v=vy then .sl i vz else .br
   |none=>.br
 | .sl i v,.cQ (.slice none 0 0)=>match J.own i with
   |some (vx,_,vz)=>if J.nr i=true∧v=vx then .sl i vz else .br
   |none=>.br
 | .vw i v w z n,.vw i' v' w' z' n'=>if i=i'∧w=w' then match J.own i with
   |some (vx,vy,vz)=>if v=vx∧v'=vy then .vw i vz w (bif b then z else z') (bif b then n else n')else .br
   |none=>.br
  else .br
 | .vb i o t m z n,.vb i' o' t' m' z' n'=>if i=i'∧o=o'∧t=t'∧m=m'∧J.aZ i=true then .vb i o t m (bif b then z else z') (bif b then n else n')else .br
 |_,_=>.br
def hY(b:Bool)(J:JC):List SV→List SV→Option (List SV)
 | [],[]=>some []
 |x::l,y::r=>match x,y with
  | .arr t n a,y=>match lV b J (.arr t n a) y with
   |some z=>(hY b J l r).map (z:: ·)
   |none=>none
  |_,.arr _ _ _=>none
  |x,y=>(hY b J l r).map (si b J x y:: ·)
 |_,_=>none
def sj(b:Bool)(J:JC):VV→VV→Option VV
 | .sc x,.sc y=>some (.sc (si b J x y))
 | .agg l,.agg r=>(hY b J l r).map .agg
 |_,_=>none
def jg(b:Bool)(J:JC):List VV→List VV→Option (List VV)
 | [],[]=>some []
 |x::l,y::r=>match sj b J x y,jg b J l r with
  |some z,some m=>some (z::m)
  |_,_=>none
 |_,_=>none
def wE(b:Bool)(J:JC):LV→LV→LV
 | .one x,.one y=>match sj b J x y with
  |some z=>.one z
  |none=>.br
 | .bV l,.bV r=>match jg b J l r with
  |some z=>.bV z
  |none=>.br
 |_,_=>.br
structure wF (J:JC) (β:Env) (L₁ L:Nat→Option Kd):Prop where
 aZ:∀i,J.aZ i=true→L₁ i=some .aZ→L i=some .aZ
 own:∀i x y z,J.own i=some (x,y,z)→L₁ i=some (.own x)∧L i=some (.own z)
 nil:∀i,J.nl i=true→β.h i= .slice none 0 0
structure pS (J:JC) (β:Env) (L₁ L:Nat→Option Kd):Prop where
 aZ:∀i,J.aZ i=true→L₁ i=some .aZ→L i=some .aZ
 own:∀i x y z,J.own i=some (x,y,z)→L₁ i=some (.own y)∧L i=some (.own z)
 nil:∀i,J.nr i=true→β.h i= .slice none 0 0
theorem pT{J:JC}{β:Env}{L₁ L:Nat→Option Kd}(hJ:wF J β L₁ L){x y:SV}{v:Value}(h:x.den β L₁ v):(si true J x y).den β L v:=by
 have h1:=SV.aT h;unfold si
 split
 ·split
  ·rename_i hk;subst hk
   split
   ·split<;>exact h
   ·exact h
  ·exact h1
 ·split
  ·split<;>exact h
  ·exact h
 ·exact h
 ·exact h
 ·exact h
 ·obtain⟨_,rfl⟩:=h;simp only[SV.den,cond_true,da]
 ·obtain⟨_,rfl⟩:=h
  split
  ·exact⟨rfl,rfl⟩
  ·simp only[SV.den,cond_true,da]
 ·split
  ·rename_i e;exact⟨hJ.aZ _ e.2.2 h.1,h.2⟩
  ·exact h1
 ·split
  ·rename_i e;exact⟨hJ.aZ _ e.2.2.2.2 h.1,h.2⟩
  ·exact h1
 ·exact h
 ·split
  ·exact h
  ·exact h1
 ·exact h
 ·exact h
 ·split
  ·rename_i e;subst e;obtain⟨k1,k2,k3⟩:=h;refine⟨k1,fun hn=>k2 (by simp at hn;exact hn.1),?_⟩;rcases k3 with k|⟨rfl,k⟩|k
   ·exact .inl k
   ·exact .inr (.inl ⟨rfl,k⟩)
   ·exact .inr (.inr k)
  ·exact h1
 ·obtain⟨k1,k2,k3⟩:=h;exact⟨k1,fun hn=>(by cases hn),k3⟩
 ·obtain⟨_,rfl⟩:=h;exact⟨rfl,fun hn=>(by cases hn),.inr (.inr ⟨rfl,rfl⟩)⟩
 ·split
  ·rename_i e;subst e
   split
   ·rename_i vx vy vz ho
    split
    ·rename_i e;obtain⟨rfl,rfl⟩:=e;obtain⟨k1,c,k2,k3,k4⟩:=h;obtain⟨m1,m2⟩:=hJ.own _ _ _ _ ho;rw[m1]at k2;simp at k2;exact⟨k1,vz,m2,Nat.le_refl _,fun _=>k4 k2⟩
    ·exact h1
   ·exact h1
  ·exact h1
 ·split
  ·rename_i vx vy vz ho
   split
   ·rename_i e;obtain⟨m1,m2⟩:=hJ.own _ _ _ _ ho;obtain⟨_,rfl⟩:=h;exact⟨rfl,vz,m2,Nat.le_refl _,fun _=>(hJ.nil _ e.1).symm⟩
   ·exact h1
  ·exact h1
 ·split
  ·rename_i vx vy vz ho
   split
   ·rename_i e;obtain⟨_,rfl⟩:=e;obtain⟨k1,c,k2,k3,k4⟩:=h;obtain⟨m1,m2⟩:=hJ.own _ _ _ _ ho;rw[m1]at k2;simp at k2;exact⟨k1,vz,m2,Nat.le_refl _,fun _=>k4 k2⟩
   ·exact h1
  ·exact h1
 ·split
  ·rename_i e;obtain⟨rfl,rfl⟩:=e
   split
   ·rename_i vx vy vz ho
    split
    ·rename_i e;obtain⟨rfl,rfl⟩:=e;obtain⟨k1,c,k2,k3,k4⟩:=h;obtain⟨m1,m2⟩:=hJ.own _ _ _ _ ho;rw[m1]at k2;simp at k2;exact⟨k1,vz,m2,Nat.le_refl _,fun _=>k4 k2⟩
    ·exact h1
   ·exact h1
  ·exact h1
 ·split
  ·rename_i e;obtain⟨k1,k2⟩:=h;exact⟨hJ.aZ _ e.2.2.2.2 k1,k2⟩
  ·exact h1
 ·exact h1
theorem ow{J:JC}{β:Env}{L₁ L:Nat→Option Kd}(hJ:pS J β L₁ L){x y:SV}{v:Value}(h:y.den β L₁ v):(si false J x y).den β L v:=by
 have h1:=SV.aT h;unfold si
 split
 ·split
  ·rename_i hk;subst hk
   split
   ·split
    ·rename_i e;subst e;exact h
    ·exact h
   ·exact h
  ·exact h1
 ·split
  ·split
   ·rename_i e;subst e;exact h
   ·exact h
  ·exact h
 ·exact h
 ·exact h
 ·obtain⟨_,rfl⟩:=h;simp only[SV.den,cond_false,da]
 ·exact h
 ·obtain⟨_,rfl⟩:=h
  split
  ·rename_i e;exact⟨rfl,by congr 1;exact congrArg ByteArray.mk e.symm⟩
  ·simp only[SV.den,cond_false,da]
 ·split
  ·rename_i e;obtain⟨rfl,rfl,e⟩:=e;exact⟨hJ.aZ _ e h.1,h.2⟩
  ·exact h1
 ·split
  ·rename_i e;obtain⟨rfl,rfl,rfl,rfl,e⟩:=e;exact⟨hJ.aZ _ e h.1,h.2⟩
  ·exact h1
 ·exact h
 ·split
  ·rename_i e;obtain⟨rfl,rfl⟩:=e;exact h
  ·exact h1
 ·exact h
 ·exact h
 ·split
  ·rename_i e;subst e;obtain⟨k1,k2,k3⟩:=h;refine⟨k1,fun hn=>k2 (by simp at hn;exact hn.2),?_⟩;rcases k3 with k|⟨rfl,k⟩|k
   ·exact .inl k
   ·exact .inr (.inl ⟨by simp,k⟩)
   ·exact .inr (.inr k)
  ·exact h1
 ·obtain⟨_,rfl⟩:=h;exact⟨rfl,fun hn=>(by cases hn),.inr (.inr ⟨rfl,rfl⟩)⟩
 ·obtain⟨k1,k2,k3⟩:=h;exact⟨k1,fun hn=>(by cases hn),k3⟩
 ·split
  ·rename_i e;subst e
   split
   ·rename_i vx vy vz ho
    split
    ·rename_i e;obtain⟨rfl,rfl⟩:=e;obtain⟨k1,c,k2,k3,k4⟩:=h;obtain⟨m1,m2⟩:=hJ.own _ _ _ _ ho;rw[m1]at k2;simp at k2;exact⟨k1,vz,m2,Nat.le_refl _,fun _=>k4 k2⟩
    ·exact h1
   ·exact h1
  ·exact h1
 ·split
  ·rename_i vx vy vz ho
   split
   ·rename_i e;obtain⟨_,rfl⟩:=e;obtain⟨k1,c,k2,k3,k4⟩:=h;obtain⟨m1,m2⟩:=hJ.own _ _ _ _ ho;rw[m1]at k2;simp at k2;exact⟨k1,vz,m2,Nat.le_refl _,fun _=>k4 k2⟩
   ·exact h1
  ·exact h1
 ·split
  ·rename_i vx vy vz ho
   split
   ·rename_i e;obtain⟨m1,m2⟩:=hJ.own _ _ _ _ ho;obtain⟨_,rfl⟩:=h;exact⟨rfl,vz,m2,Nat.le_refl _,fun _=>(hJ.nil _ e.1).symm⟩
   ·exact h1
  ·exact h1
 ·split
  ·rename_i e;obtain⟨rfl,rfl⟩:=e
   split
   ·rename_i vx vy vz ho
    split
    ·rename_i e;obtain⟨rfl,rfl⟩:=e;obtain⟨k1,c,k2,k3,k4⟩:=h;obtain⟨m1,m2⟩:=hJ.own _ _ _ _ ho;rw[m1]at k2;simp at k2;exact⟨k1,vz,m2,Nat.le_refl _,fun _=>k4 k2⟩
    ·exact h1
   ·exact h1
  ·exact h1
 ·split
  ·rename_i e;obtain⟨rfl,rfl,rfl,rfl,e⟩:=e;obtain⟨k1,k2⟩:=h;exact⟨hJ.aZ _ e k1,k2⟩
  ·exact h1
 ·exact h1
theorem tl{J:JC}{β:Env}{L₁ L:Nat→Option Kd}{x y z:SV}{vs:List Value}(hz:lV true J x y=some z)(h:x.eW β L₁ vs):z.eW β L vs:=by
 unfold lV at hz;split at hz
 ·split at hz
  ·split at hz
   ·simp at hz;subst hz;exact h
   ·cases hz
  ·cases hz
 ·cases hz
theorem rL{J:JC}{β:Env}{L₁ L:Nat→Option Kd}{x y z:SV}{vs:List Value}(hz:lV false J x y=some z)(h:y.eW β L₁ vs):z.eW β L vs:=by
 unfold lV at hz;split at hz
 ·split at hz
  ·rename_i e;subst e
   split at hz
   ·rename_i e;subst e;simp at hz;subst hz;exact h
   ·cases hz
  ·cases hz
 ·cases hz
theorem ld{J:JC}{β:Env}{L₁ L:Nat→Option Kd}(hJ:wF J β L₁ L):∀ {l r z:List SV} {cs:List Value},hY true J l r=some z→aP β L₁ l cs→aP β L z cs
 | [],[],z,cs,h,hd=>by simp[hY]at h;subst h;cases hd;exact .nil
 |x::l,y::r,z,cs,h,hd=>by
  simp only[hY]at h
  cases hd with
  |cons h1 h2=>
   split at h
   ·split at h
    ·rename_i z' hz;obtain⟨z'',zF,rfl⟩:=Option.map_eq_some_iff.1 h;exact .cons (tl hz h1) (ld hJ zF h2)
    ·cases h
   ·cases h
   ·rename_i hx hy;obtain⟨z'',zF,rfl⟩:=Option.map_eq_some_iff.1 h;obtain⟨v,rfl,h3⟩:=SV.eG h1 (fun t n l e=>hx t n l e);exact aP.dX (pT hJ h3) (ld hJ zF h2)
 | [],_::_,_,_,h,_=>by simp[hY]at h
 |_::_,[],_,_,h,_=>by simp[hY]at h
theorem jF{J:JC}{β:Env}{L₁ L:Nat→Option Kd}(hJ:pS J β L₁ L):∀ {l r z:List SV} {cs:List Value},hY false J l r=some z→aP β L₁ r cs→aP β L z cs
 | [],[],z,cs,h,hd=>by simp[hY]at h;subst h;cases hd;exact .nil
 |x::l,y::r,z,cs,h,hd=>by
  simp only[hY]at h
  cases hd with
  |cons h1 h2=>
   split at h
   ·split at h
    ·rename_i z' hz;obtain⟨z'',zF,rfl⟩:=Option.map_eq_some_iff.1 h;exact .cons (rL hz h1) (jF hJ zF h2)
    ·cases h
   ·cases h
   ·rename_i hx hy;obtain⟨z'',zF,rfl⟩:=Option.map_eq_some_iff.1 h;obtain⟨v,rfl,h3⟩:=SV.eG h1 (fun t n l e=>hy t n l e);exact aP.dX (ow hJ h3) (jF hJ zF h2)
 | [],_::_,_,_,h,_=>by simp[hY]at h
 |_::_,[],_,_,h,_=>by simp[hY]at h
theorem pU{J:JC}{β:Env}{L₁ L:Nat→Option Kd}(hJ:wF J β L₁ L){x y z:VV}{v:Value}(hz:sj true J x y=some z)(h:x.den β L₁ v):z.den β L v:=by
 unfold sj at hz
 split at hz
 ·simp at hz;subst hz;exact pT (L₁:=L₁) hJ h
 ·obtain⟨z',zF,rfl⟩:=Option.map_eq_some_iff.1 hz;obtain⟨cs,rfl,hd⟩:=h;exact⟨cs,rfl,ld hJ zF hd⟩
 ·simp at hz
theorem pV{J:JC}{β:Env}{L₁ L:Nat→Option Kd}(hJ:wF J β L₁ L):∀ {l r z:List VV} {cs:List Value},jg true J l r=some z→bd (VV.den β L₁) l cs→bd (VV.den β L) z cs
 | [],[],z,cs,h,hd=>by simp[jg]at h;subst h;cases hd;exact .nil
 |x::l,y::r,z,cs,h,hd=>by
  simp only[jg]at h
  split at h
  ·rename_i z' m h1 h2;simp at h;subst h
   cases hd with
   |cons h3 h4=>exact .cons (pU hJ h1 h3) (pV hJ h2 h4)
  ·simp at h
 | [],_::_,_,_,h,_=>by simp[jg]at h
 |_::_,[],_,_,h,_=>by simp[jg]at h
theorem zG{J:JC}{β:Env}{L₁ L:Nat→Option Kd}(hJ:wF J β L₁ L){x y:LV}{v:Value}(h:x.den β L₁ v):(wE true J x y).den β L v:=by
 unfold wE
 split
 ·split
  ·rename_i z hz;exact pU hJ hz h
  ·trivial
 ·split
  ·rename_i z hz;obtain⟨cs,rfl,hd⟩:=h;exact⟨cs,rfl,pV hJ hz hd⟩
  ·trivial
 ·trivial
theorem oz{J:JC}{β:Env}{L₁ L:Nat→Option Kd}(hJ:pS J β L₁ L){x y z:VV}{v:Value}(hz:sj false J x y=some z)(h:y.den β L₁ v):z.den β L v:=by
 unfold sj at hz
 split at hz
 ·simp at hz;subst hz;exact ow (L₁:=L₁) hJ h
 ·obtain⟨z',zF,rfl⟩:=Option.map_eq_some_iff.1 hz;obtain⟨cs,rfl,hd⟩:=h;exact⟨cs,rfl,jF hJ zF hd⟩
 ·simp at hz
theorem oA{J:JC}{β:Env}{L₁ L:Nat→Option Kd}(hJ:pS J β L₁ L):∀ {l r z:List VV} {cs:List Value},jg false J l r=some z→bd (VV.den β L₁) r cs→bd (VV.den β L) z cs
 | [],[],z,cs,h,hd=>by simp[jg]at h;subst h;cases hd;exact .nil
 |x::l,y::r,z,cs,h,hd=>by
  simp only[jg]at h
  split at h
  ·rename_i z' m h1 h2;simp at h;subst h
   cases hd with
   |cons h3 h4=>exact .cons (oz hJ h1 h3) (oA hJ h2 h4)
  ·simp at h
 | [],_::_,_,_,h,_=>by simp[jg]at h
 |_::_,[],_,_,h,_=>by simp[jg]at h
theorem wG{J:JC}{β:Env}{L₁ L:Nat→Option Kd}(hJ:pS J β L₁ L){x y:LV}{v:Value}(h:y.den β L₁ v):(wE false J x y).den β L v:=by
 unfold wE
 split
 ·split
  ·rename_i z hz;exact oz hJ hz h
  ·trivial
 ·split
  ·rename_i z hz;obtain⟨cs,rfl,hd⟩:=h;exact⟨cs,rfl,oA hJ hz hd⟩
  ·trivial
 ·trivial
end Go.Ev
end
