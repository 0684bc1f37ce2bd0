/- What the laws lean on, part 1: a reader of code, plain facts, and what each function gives; no conditions. -/
import Derived.Tactics
import Derived.Laws.World
import Derived.Laws.Rows
import Derived.Laws.Cells
import Derived.Laws.Small
import Derived.Laws.StructEq
import Derived.ChangeKeysEq
set_option linter.unusedVariables false
set_option linter.unusedSimpArgs false
noncomputable section
namespace Go.Ev
open Go
open Go.IntKind (i64 signed u16 u64 wrap)
inductive bM {α β:Type} (R:α→β→Prop):List α→List β→Prop where
 |nil:bM R [] []
 |cons {a b l m} (h:R a b) (t:bM R l m):bM R (a::l) (b::m)
noncomputable section
variable {α β:Type} {R S:α→β→Prop}
theorem bM.length{l:List α}{m:List β}(h:bM R l m):l.length=m.length:=by
 induction h with
 |nil=>rfl
 |cons _ _ ih=>simp[ih]
theorem bM.imp{l:List α}{m:List β}(h:bM R l m)(f:∀a b,R a b→S a b):bM S l m:=by
 induction h with
 |nil=>exact .nil
 |cons h _ ih=>exact .cons (f _ _ h) ih
theorem bM.get{l:List α}{m:List β}(h:bM R l m):∀ {i:Nat} {a:α},l[i]? =some a→∃b,m[i]? =some b∧R a b:=by
 induction h with
 |nil=>intro i a h;simp at h
 |cons h _ ih=>
  intro i a hi
  cases i with
  |zero=>simp at hi;subst hi;exact⟨_,by simp,h⟩
  |succ i=>simp at hi;obtain⟨b,hb,hr⟩:=ih hi;exact⟨b,by simpa using hb,hr⟩
theorem bM.set{l:List α}{m:List β}(h:bM R l m):∀ (i:Nat) {a:α} {b:β},R a b→bM R (l.set i a) (m.set i b):=by
 induction h with
 |nil=>intro i a b _;exact .nil
 |cons h t ih=>
  intro i a b hr
  cases i with
  |zero=>exact .cons hr t
  |succ i=>exact .cons h (ih i hr)
theorem bM.append{l l':List α}{m m':List β}(h:bM R l m)(h':bM R l' m'):bM R (l++l') (m++m'):=by
 induction h with
 |nil=>exact h'
 |cons h _ ih=>exact .cons h ih
theorem bM.of_map{γ:Type}(f:γ→α)(g:γ→β)(l:List γ)(h:∀x∈l,R (f x) (g x)):bM R (l.map f) (l.map g):=by
 induction l with
 |nil=>exact .nil
 |cons x l ih=>exact .cons (h x (by simp)) (ih fun y hy=>h y (by simp[hy]))
theorem bM.AK{γ:Type}{T:γ→β→Prop}{f:α→γ}{l:List α}{m:List β}(h:bM R l m)(hf:∀a b,R a b→T (f a) b):bM T (l.map f) m:=by
 induction h with
 |nil=>exact .nil
 |cons h _ ih=>exact .cons (hf _ _ h) ih
end
inductive aU {α:Type} (R:α→List Value→Prop):List α→List Value→Prop where
 |nil:aU R [] []
 |cons {x l vs ws} (h:R x vs) (t:aU R l ws):aU R (x::l) (vs++ws)
noncomputable section
variable {α:Type} {R S:α→List Value→Prop}
theorem aU.imp_mem{l:List α}{vs:List Value}(h:aU R l vs)(f:∀x vs,x∈l→R x vs→S x vs):aU S l vs:=by
 induction h with
 |nil=>exact .nil
 |cons h _ ih=>exact .cons (f _ _ (by simp) h) (ih fun x vs hx=>f x vs (by simp[hx]))
theorem aU.imp{l:List α}{vs:List Value}(h:aU R l vs)(f:∀x vs,R x vs→S x vs):aU S l vs:=h.imp_mem fun x vs _=>f x vs
theorem aU.append{l m:List α}{vs ws:List Value}(h:aU R l vs)(h':aU R m ws):aU R (l++m) (vs++ws):=by
 induction h with
 |nil=>exact h'
 |cons h _ ih=>rw[List.cons_append,List.append_assoc];exact .cons h ih
theorem aU.one{x:α}{vs:List Value}(h:R x vs):aU R [x] vs:=by have:=aU.cons h .nil;simpa using this
theorem aU.kD{x:α}{vs:List Value}(h:aU R [x] vs):R x vs:=by
 cases h with
 |cons h t=>cases t;simpa using h
theorem aU.split:∀ {l m:List α} {vs:List Value},aU R (l++m) vs→∃v1 v2,vs=v1++v2∧aU R l v1∧aU R m v2
 | [],m,vs,h=>⟨[],vs,rfl,.nil,h⟩
 |x::l,m,_,.cons (vs:=vs) h t=>by
  obtain⟨v1,v2,rfl,h1,h2⟩:=aU.split t;exact⟨vs++v1,v2,by simp,.cons h h1,h2⟩
theorem aU.length{k:Nat}(hk:∀x vs,R x vs→vs.length=k){l:List α}{vs:List Value}(h:aU R l vs):vs.length=l.length*k:=by
 induction h with
 |nil=>simp
 |cons h _ ih=>rw[List.length_append,hk _ _ h,ih,List.length_cons,Nat.succ_mul];omega
theorem aU.get{l:List α}{vs:List Value}(h:aU R l vs){i:Nat}{x:α}(hi:l[i]? =some x):
  ∃a u b,vs=a++(u++b)∧R x u∧aU R (l.take i) a∧aU R (l.drop (i+1)) b:=by
 have hl:i<l.length:=(List.getElem?_eq_some_iff.1 hi).1;have hx:l[i]=x:=(List.getElem?_eq_some_iff.1 hi).2;have e:l=l.take i++(x::l.drop (i+1)):=by rw[← hx,List.getElem_cons_drop,List.take_append_drop]
 rw[e]at h;obtain⟨v1,v2,rfl,h1,h2⟩:=aU.split h
 cases h2 with
 |cons h3 h4=>exact⟨v1,_,_,rfl,h3,h1,h4⟩
theorem aU.PK{l:List α}{i:Nat}{x:α}(hi:i<l.length){a u b:List Value}(h:R x u)(ha:aU R (l.take i) a)(hb:aU R (l.drop (i+1)) b):aU R (l.set i x) (a++(u++b)):=by
 rw[List.set_eq_take_append_cons_drop,if_pos hi];exact ha.append (.cons h hb)
end
inductive Ty where
 |int (k:IntKind)
 |bool
 |xb
 |str
 |sl (t:Ty)
 |pair (a b:Ty)
 |arr (t:Ty) (n:Nat)
 deriving DecidableEq
@[reducible] def Ty.D:Ty→Type
 | .int _=>Int
 | .bool=>Bool
 | .xb=>Nat
 | .str=>List Int
 | .sl t=>List t.D
 | .pair a b=>a.D×b.D
 | .arr t _=>List t.D
def Ty.z:(t:Ty)→t.D
 | .int _=>(0:Int)
 | .bool=>false
 | .xb=>(0:Nat)
 | .str=>([]:List Int)
 | .sl _=> []
 | .pair a b=>(a.z,b.z)
 | .arr t n=>List.replicate n t.z
def Ty.w:Ty→Nat
 | .int _| .bool| .xb| .str| .sl _=>1
 | .pair a b=>a.w+b.w
 | .arr t n=>n*t.w
def strOf(l:List Int):ByteArray:=⟨(l.map fun n=>UInt8.ofNat n.toNat).toArray⟩
structure Env where
 b:Nat→Nat
 h:Nat→Value
 rd:Bool→Value→(t:Ty)→List t.D→Prop
instance:CoeFun Env (fun _=>Nat→Nat):=⟨Env.b⟩
def zf(β:Env)(pm:Bool)(v:Value)(t:Ty)(l:List t.D):Prop:=β.rd true v t l∨(pm=false∧β.rd false v t l)∨(v= .slice none 0 0∧l= [])
def Ty.has(β:Env)(pm:Bool):(t:Ty)→t.D→List Value→Prop
 | .int k,n,vs=>vs= [.int k n]
 | .bool,b,vs=>vs= [.bool b]
 | .xb,n,vs=>vs= [.float .f64 n]
 | .str,l,vs=>vs= [.string (strOf l)]
 | .sl t,l,vs=>∃v,vs= [v]∧v.oneCell'=true∧zf β pm v t l
 | .pair a b,x,vs=>∃u w,vs=u++w∧a.has β pm x.1 u∧b.has β pm x.2 w
 | .arr t n,l,vs=>l.length=n∧aU (t.has β pm) l vs
theorem Ty.fw{β:Env}{pm:Bool}:∀ (t:Ty) {x:t.D} {vs:List Value},t.has β pm x vs→vs.length=t.w
 | .int _,_,_,h=>by simp only[Ty.has]at h;subst h;rfl
 | .bool,_,_,h=>by simp only[Ty.has]at h;subst h;rfl
 | .xb,_,_,h=>by simp only[Ty.has]at h;subst h;rfl
 | .str,_,_,h=>by simp only[Ty.has]at h;subst h;rfl
 | .sl _,_,_,h=>by simp only[Ty.has]at h;obtain⟨v,rfl,_⟩:=h;rfl
 | .pair a b,_,_,h=>by
  simp only[Ty.has]at h;obtain⟨u,w,rfl,h1,h2⟩:=h;simp[Ty.w,a.fw h1,b.fw h2]
 | .arr t n,_,_,h=>by
  simp only[Ty.has]at h;obtain⟨h1,h2⟩:=h;rw[h2.length fun _ _=>t.fw,h1];rfl
theorem Ty.tQ{β:Env}{pm:Bool}:∀ (t:Ty) {x:t.D} {vs:List Value},t.has β pm x vs→∀v∈vs,v.oneCell'=true
 | .int _,_,_,h=>by simp only[Ty.has]at h;subst h;simp[Value.oneCell']
 | .bool,_,_,h=>by simp only[Ty.has]at h;subst h;simp[Value.oneCell']
 | .xb,_,_,h=>by simp only[Ty.has]at h;subst h;simp[Value.oneCell']
 | .str,_,_,h=>by simp only[Ty.has]at h;subst h;simp[Value.oneCell']
 | .sl _,_,_,h=>by simp only[Ty.has]at h;obtain⟨v,rfl,h,_⟩:=h;simpa using h
 | .pair a b,_,_,h=>by
  simp only[Ty.has]at h;obtain⟨u,w,rfl,h1,h2⟩:=h;intro v hv;rcases List.mem_append.1 hv with hv|hv
  ·exact a.tQ h1 v hv
  ·exact b.tQ h2 v hv
 | .arr t n,_,vs,h=>by
  simp only[Ty.has]at h;obtain⟨_,h2⟩:=h
  have key:∀ {l:List t.D} {vs:List Value},aU (t.has β pm) l vs→∀v∈vs,v.oneCell'=true:=by
   intro l vs h
   induction h with
   |nil=>simp
   |cons h _ ih=>
    intro v hv;rcases List.mem_append.1 hv with hv|hv
    ·exact t.tQ h v hv
    ·exact ih v hv
  exact key h2
theorem lE{β:Env}{pm:Bool}{t:Ty}{l:List t.D}{vs:List Value}(h:aU (t.has β pm) l vs):∀v∈vs,v.oneCell'=true:=by
 induction h with
 |nil=>simp
 |cons h _ ih=>
  intro v hv;rcases List.mem_append.1 hv with hv|hv
  ·exact t.tQ h v hv
  ·exact ih v hv
theorem bm{β:Env}{pm:Bool}{t:Ty}{l:List t.D}{vs:List Value}(h:aU (t.has β pm) l vs):vs.length=l.length*t.w:=h.length fun _ _=>t.fw
inductive SI where
 |lit (n:Int)
 |sym (n:Int)
def SI.val:SI→Int
 | .lit n=>n
 | .sym n=>n
inductive SB where
 |lit (b:Bool)
 |sym (b:Bool)
def SB.val:SB→Bool
 | .lit b=>b
 | .sym b=>b
inductive SV where
 |int (k:IntKind) (n:SI)
 |bool (b:SB)
 |xb (n:Nat)
 |str (l:List Int)
 |ptr (b off:Nat)
 |xc (b base mI n:Nat) (z:Int)
 |slice (b off len cap:Nat)
 |iM (v:Value)
 |bd
 |arr (t:Ty) (n:Nat) (l:List t.D)
 |rd (pm nn:Bool) (t:Ty) (l:List t.D)
 |sl (i ver:Nat)
 |vw (i ver w:Nat) (z n:Int)
 |vb (b o:Nat) (t:Ty) (m:Nat) (z n:Int)
 |ep (s:SV) (w:Nat) (z:Int) (f:Nat)
inductive VV where
 |sc (s:SV)
 |agg (l:List SV)
inductive LV where
 |one (x:VV)
 |cj (l:List VV)
 |bd
inductive Kd where
 |aW
 |own (c:Nat)
 deriving DecidableEq
def yF(h:Value)(w:Nat)(z n:Int)(v:Value):Prop:=
 ∃a m c a' c',h= .slice a m c∧0≤z∧0≤n∧z+n≤m∧v= .slice a' n.toNat c'∧n.toNat≤c'∧(a'=none→c'=0)∧(0<n→∃a0,a=some a0∧a'=some (a0.add (z.toNat*w)))
def notNil:Value→Prop
 | .slice a _ _=>a≠none
 |_=>False
def SV.den(β:Env)(L:Nat→Option Kd):SV→Value→Prop
 | .int k i,v=>v= .int k i.val
 | .bool b,v=>v= .bool b.val
 | .xb n,v=>v= .float .f64 n
 | .str l,v=>v= .string (strOf l)
 | .ptr b o,v=>L b=some .aW∧v= .pointer (some ⟨β.b b,o,none⟩)
 | .xc b base mI n z,v=>L b=some .aW∧z.toNat<n∧v= .pointer (some ⟨β.b b,base+z.toNat*mI,none⟩)
 | .slice b o l c,v=>L b=some .aW∧v= .slice (some ⟨β.b b,o,none⟩) l c
 | .iM c,v=>c.oneCell'=true∧v=c
 | .bd,v=>v.oneCell'=true
 | .arr _ _ _,_=>False
 | .rd pm nn t l,v=>v.oneCell'=true∧(nn=true→notNil v)∧zf β pm v t l
 | .sl i ver,v=>v.oneCell'=true∧∃c,L i=some (.own c)∧ver≤c∧(ver=c→v=β.h i)
 | .vw i ver w z n,v=>v.oneCell'=true∧∃c,L i=some (.own c)∧ver≤c∧(ver=c→yF (β.h i) w z n v)
 | .vb b o t m z n,v=>L b=some .aW∧0≤z∧0≤n∧z+n≤m∧∃a' c',v= .slice a' n.toNat c'∧n.toNat≤c'∧(a'=none→c'=0)∧(0<n→a'=some ((⟨β.b b,o,none⟩:Addr).add (z.toNat*t.w)))
 | .ep s w z f,v=>∃a n c,s.den β L (.slice (some a) n c)∧0≤z∧z<n∧v= .pointer (some (a.add (z.toNat*w+f)))
def SV.j6(β:Env)(L:Nat→Option Kd):SV→List Value→Prop
 | .arr t n l,vs=>l.length=n∧aU (t.has β true) l vs
 |s,vs=>∃v,vs= [v]∧s.den β L v
def SV.w:SV→Nat
 | .arr t n _=>n*t.w
 |_=>1
abbrev bf(β:Env)(L:Nat→Option Kd):List SV→List Value→Prop:=aU (SV.j6 β L)
def VV.den(β:Env)(L:Nat→Option Kd):VV→Value→Prop
 | .sc s,v=>s.den β L v
 | .agg l,v=>∃cs:List Value,v= .agg cs.toArray∧bf β L l cs
def LV.den(β:Env)(L:Nat→Option Kd):LV→Value→Prop
 | .one x,v=>x.den β L v
 | .cj l,v=>∃vs:List Value,v= .tuple vs.toArray∧bM (VV.den β L) l vs
 | .bd,_=>True
structure bO (β β':Env) (L L':Nat→Option Kd):Prop where
 aW:∀i,L i=some .aW→L' i=some .aW∧β'.b i=β.b i
 own:∀i c,L i=some (.own c)→∃c',L' i=some (.own c')∧c≤c'∧(c=c'→β'.h i=β.h i)
 rd:∀pm v t l,β.rd pm v t l→β'.rd pm v t l
theorem bO.refl(β:Env)(L:Nat→Option Kd):bO β β L L:=⟨fun _ h=>⟨h,rfl⟩,fun _ c h=>⟨c,h,Nat.le_refl _,fun _=>rfl⟩,fun _ _ _ _ h=>h⟩
theorem bO.trans{β β' azv:Env}{L L' L'':Nat→Option Kd}(h:bO β β' L L')(h':bO β' azv L' L''):bO β azv L L'':=by
 refine⟨fun i hi=>⟨(h'.aW i (h.aW i hi).1).1,(h'.aW i (h.aW i hi).1).2.trans (h.aW i hi).2⟩,fun i c hi=>?_,fun pm v t l hr=>h'.rd pm v t l (h.rd pm v t l hr)⟩;obtain⟨c1,h1,h2,h3⟩:=h.own i c hi;obtain⟨c2,h4,h5,h6⟩:=h'.own i c1 h1;exact⟨c2,h4,by omega,fun e=>(h6 (by omega)).trans (h3 (by omega))⟩
theorem zf.mono{β β':Env}(hr:∀pm v t l,β.rd pm v t l→β'.rd pm v t l){pm:Bool}{v:Value}{t:Ty}{l:List t.D}(h:zf β pm v t l):zf β' pm v t l:=
 h.imp (hr _ _ _ _) (Or.imp (fun⟨a,b⟩=>⟨a,hr _ _ _ _ b⟩) id)
theorem Ty.na{β β':Env}(hr:∀pm v t l,β.rd pm v t l→β'.rd pm v t l){pm:Bool}:∀ (t:Ty) {x:t.D} {vs:List Value},t.has β pm x vs→t.has β' pm x vs
 | .int _,_,_,h=>h
 | .bool,_,_,h=>h
 | .xb,_,_,h=>h
 | .str,_,_,h=>h
 | .sl _,_,_,⟨v,h1,h2,h3⟩=>⟨v,h1,h2,h3.mono hr⟩
 | .pair a b,_,_,⟨u,w,h,h1,h2⟩=>⟨u,w,h,a.na hr h1,b.na hr h2⟩
 | .arr t _,_,_,⟨h1,h2⟩=>⟨h1,h2.imp fun _ _=>t.na hr⟩
theorem SV.bw{β:Env}{L:Nat→Option Kd}{s:SV}{v:Value}(h:s.den β L v):v.oneCell'=true:=by
 cases s<;>simp only[SV.den]at h
 ·subst h;rfl
 ·subst h;rfl
 ·subst h;rfl
 ·subst h;rfl
 ·obtain⟨_,rfl⟩:=h;rfl
 ·obtain⟨_,_,rfl⟩:=h;rfl
 ·obtain⟨_,rfl⟩:=h;rfl
 ·obtain⟨h,rfl⟩:=h;exact h
 ·exact h
 ·exact h.1
 ·exact h.1
 ·exact h.1
 ·obtain⟨_,_,_,_,_,_,rfl,_⟩:=h;rfl
 ·obtain⟨_,_,_,_,_,_,rfl⟩:=h;rfl
theorem SV.eZ{β β':Env}{L L':Nat→Option Kd}(ha:bO β β' L L'):∀ {s:SV} {v:Value},s.den β L v→s.den β' L' v
 | .int _ _,_,h=>h
 | .bool _,_,h=>h
 | .xb _,_,h=>h
 | .str _,_,h=>h
 | .ptr _ _,_,⟨h1,h2⟩=>⟨(ha.aW _ h1).1,by rw[(ha.aW _ h1).2];exact h2⟩
 | .xc _ _ _ _ _,_,⟨h1,h2,h3⟩=>⟨(ha.aW _ h1).1,h2,by rw[(ha.aW _ h1).2];exact h3⟩
 | .slice _ _ _ _,_,⟨h1,h2⟩=>⟨(ha.aW _ h1).1,by rw[(ha.aW _ h1).2];exact h2⟩
 | .iM _,_,h=>h
 | .bd,_,h=>h
 | .rd _ _ _ _,_,⟨h1,h2,h3⟩=>⟨h1,h2,h3.mono ha.rd⟩
 | .sl i ver,_,⟨h1,c,h2,h3,h4⟩=>by
  obtain⟨c',k1,k2,k3⟩:=ha.own i c h2;exact⟨h1,c',k1,by omega,fun e=>(h4 (by omega)).trans (k3 (by omega)).symm⟩
 | .vw i ver w z n,_,⟨h1,c,h2,h3,h4⟩=>by
  obtain⟨c',k1,k2,k3⟩:=ha.own i c h2;exact⟨h1,c',k1,by omega,fun e=>by rw[k3 (by omega)];exact h4 (by omega)⟩
 | .vb _ _ _ _ _ _,_,⟨h1,h2,h3,EM,a',c',h4,h5,h6⟩=>⟨(ha.aW _ h1).1,h2,h3,EM,a',c',h4,h5,by rw[(ha.aW _ h1).2];exact h6⟩
 | .ep _ _ _ _,_,⟨a,n,c,h1,h2⟩=>⟨a,n,c,SV.eZ ha h1,h2⟩
theorem SV.Y8{β β':Env}{L L':Nat→Option Kd}(ha:bO β β' L L'){s:SV}{vs:List Value}(h:s.j6 β L vs):s.j6 β' L' vs:=by
 cases s with
 |arr t n l=>exact⟨h.1,h.2.imp fun _ _=>t.na ha.rd⟩
 |_=>exact let ⟨v,h1,h2⟩:=h;⟨v,h1,SV.eZ ha h2⟩
theorem bf.mono{β β':Env}{L L':Nat→Option Kd}(ha:bO β β' L L'){l:List SV}{vs:List Value}(h:bf β L l vs):bf β' L' l vs:=h.imp fun _ _=>SV.Y8 ha
theorem SV.iw{β:Env}{L:Nat→Option Kd}{s:SV}{vs:List Value}(h:s.j6 β L vs):vs.length=s.w:=by
 cases s with
 |arr t n l=>rw[bm h.2,h.1];rfl
 |_=>obtain⟨v,rfl,_⟩:=h;rfl
theorem SV.adW{β:Env}{L:Nat→Option Kd}{s:SV}{vs:List Value}(h:s.j6 β L vs):∀v∈vs,v.oneCell'=true:=by
 cases s with
 |arr t n l=>exact lE h.2
 |_=>obtain⟨v,rfl,h⟩:=h;intro u hu;simp at hu;subst hu;exact SV.bw h
theorem SV.tR{β:Env}{L:Nat→Option Kd}{s:SV}{v:Value}(h:s.den β L v):s.j6 β L [v]:=by
 cases s with
 |arr t n l=>exact h.elim
 |_=>exact⟨v,rfl,h⟩
theorem SV.jy{β:Env}{L:Nat→Option Kd}{s:SV}{vs:List Value}(h:s.j6 β L vs)(hs:∀t n l,s≠ .arr t n l):∃v,vs= [v]∧s.den β L v:=by
 cases s with
 |arr t n l=>exact absurd rfl (hs t n l)
 |_=>exact h
theorem bf.AL{β:Env}{L:Nat→Option Kd}{l:List SV}{vs:List Value}(h:bf β L l vs):∀v∈vs,v.oneCell'=true:=by
 induction h with
 |nil=>simp
 |cons h _ ih=>
  intro v hv;rcases List.mem_append.1 hv with hv|hv
  ·exact SV.adW h v hv
  ·exact ih v hv
def wL:List SV→Nat
 | []=>0
 |s::l=>s.w+wL l
theorem bf.length{β:Env}{L:Nat→Option Kd}{l:List SV}{vs:List Value}(h:bf β L l vs):vs.length=wL l:=by
 induction h with
 |nil=>rfl
 |cons h _ ih=>simp[wL,SV.iw h,ih]
theorem bf.nil{β:Env}{L:Nat→Option Kd}:bf β L [] []:=aU.nil
theorem bf.nb{β:Env}{L:Nat→Option Kd}{s:SV}{v:Value}{l:List SV}{vs:List Value}(h:s.den β L v)(t:bf β L l vs):bf β L (s::l) (v::vs):=aU.cons (SV.tR h) t
theorem VV.eZ{β β':Env}{L L':Nat→Option Kd}(ha:bO β β' L L'){s:VV}{v:Value}(h:s.den β L v):s.den β' L' v:=by
 cases s with
 |sc s=>exact SV.eZ ha h
 |agg l=>obtain⟨cs,rfl,h⟩:=h;exact⟨cs,rfl,h.mono ha⟩
theorem LV.eZ{β β':Env}{L L':Nat→Option Kd}(ha:bO β β' L L'){s:LV}{v:Value}(h:s.den β L v):s.den β' L' v:=by
 cases s with
 |one x=>exact VV.eZ ha h
 |cj l=>obtain⟨cs,rfl,h⟩:=h;exact⟨cs,rfl,h.imp fun _ _=>VV.eZ ha⟩
 |bd=>trivial
def SV.o7:Value→Option SV
 | .int k n=>some (.int k (.lit n))
 | .bool b=>some (.bool (.lit b))
 | .agg _| .tuple _=>none
 |x=>some (.iM x)
def c7{α β:Type}(f:α→Option β):List α→Option (List β)
 | []=>some []
 |x::l=>match f x,c7 f l with
  |some y,some m=>some (y::m)
  |_,_=>none
def LV.o7:Value→LV
 | .agg cs=>match c7 SV.o7 cs.toList with
  |some l=>.one (.agg l)
  |none=>.bd
 | .tuple cs=>if cs.isEmpty then .cj []else .bd
 |x=>match SV.o7 x with
  |some s=>.one (.sc s)
  |none=>.bd
theorem SV.q9{β:Env}{L:Nat→Option Kd}{v:Value}{s:SV}(h:SV.o7 v=some s):s.den β L v:=by
 cases v<;>simp[SV.o7]at h<;>subst h<;>simp[SV.den,SI.val,SB.val,Value.oneCell']
theorem yG{α β:Type}{f:α→Option β}{R:β→α→Prop}(hf:∀x y,f x=some y→R y x):∀ {l:List α} {m:List β},c7 f l=some m→bM R m l
 | [],m,h=>by simp[c7]at h;subst h;exact .nil
 |x::l,m,h=>by
  simp only[c7]at h
  split at h
  ·rename_i y m' h1 h2;simp at h;subst h;exact .cons (hf _ _ h1) (yG hf h2)
  ·simp at h
theorem tS{β:Env}{L:Nat→Option Kd}{l:List SV}{vs:List Value}(h:bM (SV.den β L) l vs):bf β L l vs:=by
 induction h with
 |nil=>exact .nil
 |cons h _ ih=>exact bf.nb h ih
theorem LV.q9{β:Env}{L:Nat→Option Kd}(v:Value):(LV.o7 v).den β L v:=by
 cases v with
 |agg cs=>
  simp only[LV.o7]
  split
  ·rename_i l h;exact⟨cs.toList,by simp,tS (yG (fun _ _=>SV.q9) h)⟩
  ·trivial
 |tuple cs=>
  simp only[LV.o7]
  split
  ·rename_i h;have:cs= #[]:=(by simpa using h);subst this;exact⟨[],rfl,.nil⟩
  ·trivial
 |_=>simp[LV.o7,SV.o7,LV.den,VV.den,SV.den,SI.val,SB.val,Value.oneCell']
inductive Item where
 |aW (cells:List SV) (elem:TypeId)
 |own (ver:Nat) (t:Ty) (l:List t.D)
 |gone (ver:Nat)
def Item.kd:Item→Kd
 | .aW _ _=>.aW
 | .own v _ _| .gone v=>.own v
abbrev Hp:=List (Option Item)
def kd(hp:Hp)(i:Nat):Option Kd:=
 match hp[i]? with
 |some (some x)=>some x.kd
 |_=>none
structure St where
 fr:List LV
 hp:Hp
theorem l8{hp:Hp}{i:Nat}{k:Kd}(h:kd hp i=some k):∃x,hp[i]? =some (some x)∧x.kd=k:=by
 unfold kd at h;split at h
 ·rename_i x hx;simp at h;exact⟨x,hx,h⟩
 ·cases h
theorem dD{hp:Hp}{i:Nat}{x:Item}(h:hp[i]? =some (some x)):kd hp i=some x.kd:=by unfold kd;rw[h]
def cd(β:Env)(x:Item)(i b:Nat):Prop:=
 match x with
 | .aW _ _=>b=β.b i
 | .own _ _ _=>∃a n c,β.h i= .slice (some a) n c∧0<c∧a.block=b
 | .gone _=>False
def gb(hp:Hp)(β:Env)(b:Nat):Prop:=∃i x,hp[i]? =some (some x)∧cd β x i b
def c8(w:World)(a:Addr)(vs:List Value):Prop:=∀i u,vs[i]? =some u→w.cell? (a.add i)=some u
def AM(fz:Nat×Nat)(n:Nat):Prop:=fz.1=fz.2∨n≤fz.1
theorem AM.not{fz:Nat×Nat}{n off:Nat}(h:AM fz n)(ho:off<n):¬ (fz.1≤off∧off<fz.2):=by unfold AM at h;omega
def dE(β:Env)(w:World)(h:Value)(t:Ty)(l:List t.D):Prop:=
 ∃a n c,h= .slice a n c∧n=l.length∧n≤c∧(a=none→c=0)∧
  (0<c→∃ (a0:Addr) (pre eD rest:List Value) (elem:TypeId) (fz:Nat×Nat),a=some a0∧a0.spot=none∧w.heap[a0.block]? =some (.cells (pre++(eD++rest)).toArray elem fz)∧
   pre.length=a0.off∧aU (t.has β true) l eD∧(c-n)*t.w≤rest.length∧AM fz (pre++(eD++rest)).length)
def fx(β:Env)(L:Nat→Option Kd)(w:World)(i:Nat):Item→Prop
 | .aW cells elem=>∃ (c:List Value) (fz:Nat×Nat),w.heap[β.b i]? =some (.cells c.toArray elem fz)∧AM fz c.length∧bf β L cells c
 | .own _ t l=>dE β w (β.h i) t l
 | .gone _=>True
def bN(β:Env)(pm:Bool)(w:World)(v:Value)(t:Ty)(l:List t.D):Prop:=
 ∃a n c,v= .slice a n c∧n=l.length∧n≤c∧(a=none→c=0)∧(0<n→∃ (a0:Addr) (eD:List Value),a=some a0∧a0.spot=none∧aU (t.has β pm) l eD∧c8 w a0 eD)
def inBlock:Value→Nat→Prop
 | .slice (some a) n _,b=>0<n∧a.block=b
 |_,_=>False
theorem dU(a:Addr)(n:Nat):(a.add n).block=a.block:=by unfold Addr.add;split<;>rfl
theorem c8.of{w w':World}{a:Addr}{vs:List Value}(h:c8 w a vs)(hs:vs≠ []→w'.heap[a.block]? =w.heap[a.block]?):c8 w' a vs:=by
 intro i u hu;have h1:=h i u hu;have gJ:vs≠ []:=fun e=>by subst e;simp at hu
 unfold World.cell? at h1 ⊢;rw[dU]at h1 ⊢;rw[hs gJ];exact h1
theorem c8.lt{w:World}{a:Addr}{vs:List Value}(h:c8 w a vs)(gJ:vs≠ []):a.block<w.heap.size:=by
 cases vs with
 |nil=>exact absurd rfl gJ
 |cons v vs=>
  have:=h 0 v (by simp);unfold World.cell? at this;rw[dU]at this
  split at this
  ·rename_i h1;exact(Array.getElem?_eq_some_iff.1 h1).1
  ·cases this
theorem bN.of{β:Env}{pm:Bool}{w w':World}{v:Value}{t:Ty}{l:List t.D}(h:bN β pm w v t l)(hs:∀b,inBlock v b→b<w.heap.size→w'.heap[b]? =w.heap[b]?):bN β pm w' v t l:=by
 obtain⟨a,n,c,rfl,hn,hc,hz,hr⟩:=h;refine⟨a,n,c,rfl,hn,hc,hz,fun h0=>?_⟩;obtain⟨a0,eD,rfl,h1,h2,h3⟩:=hr h0;exact⟨a0,eD,rfl,h1,h2,h3.of fun gJ=>hs _ ⟨h0,rfl⟩ (h3.lt gJ)⟩
theorem bN.mono{β β':Env}(hm:∀pm v t l,β.rd pm v t l→β'.rd pm v t l){pm:Bool}{w:World}{v:Value}{t:Ty}{l:List t.D}(h:bN β pm w v t l):bN β' pm w v t l:=by
 obtain⟨a,n,c,rfl,hn,hc,hz,hr⟩:=h;refine⟨a,n,c,rfl,hn,hc,hz,fun h0=>?_⟩;obtain⟨a0,eD,rfl,h1,h2,h3⟩:=hr h0;exact⟨a0,eD,rfl,h1,h2.imp fun _ _=>t.na hm,h3⟩
structure bb (W:World) (ak:Hp) (β₀ β:Env) (hp:Hp) (w:World):Prop where
 items:∀i x,hp[i]? =some (some x)→fx β (kd hp) w i x
 inj:∀i j x y b,hp[i]? =some (some x)→hp[j]? =some (some y)→cd β x i b→cd β y j b→i=j
 first:bO β₀ β (kd ak) (kd hp)
 own:∀i x b,hp[i]? =some (some x)→cd β x i b→W.heap.size≤b∨∃y,ak[i]? =some (some y)∧cd β₀ y i b
 os:w.os=W.os
 output:w.output=W.output
 size:W.heap.size≤w.heap.size
 al:∀b,b<W.heap.size→¬gb ak β₀ b→w.heap[b]? =W.heap[b]?
 reads:∀pm v t l,β.rd pm v t l→bN β pm w v t l∧∀b,inBlock v b→b<w.heap.size∧¬gb hp β b
 from_:∀pm v t l b,β.rd pm v t l→inBlock v b→W.heap.size≤b∨∃lW v' t' l',(pm=true→lW=true)∧β₀.rd lW v' t' l'∧inBlock v' b
structure Rel (W:World) (ak:Hp) (β₀ β:Env) (st:St) (a:Act) (w:World):Prop where
 defers:a.defers= []
 fr:bM (LV.den β (kd st.hp)) st.fr a.tmps.toList
 heap:bb W ak β₀ β st.hp w
def setAt:Hp→Nat→Item→Hp
 | [],0,b=> [some b]
 | [],n+1,b=>none::setAt [] n b
 |_::l,0,b=>some b::l
 |x::l,n+1,b=>x::setAt l n b
theorem dF:∀ (hp:Hp) (i:Nat) (b:Item),(setAt hp i b)[i]? =some (some b)
 | [],0,_=>rfl
 | [],n+1,b=>by simp[setAt,dF [] n b]
 |_::_,0,_=>rfl
 |_::l,n+1,b=>by simp[setAt,dF l n b]
theorem EN:∀ (i:Nat) (b:Item) (j:Nat) (x:Item),j≠i→(setAt [] i b)[j]? ≠some (some x)
 |0,b,0,_,h=>absurd rfl h
 |0,b,j+1,_,_=>by simp[setAt]
 |n+1,b,0,_,_=>by simp[setAt]
 |n+1,b,j+1,x,h=>by
  have:=EN n b j x (by omega);simpa [setAt]using this
theorem cm:∀ (hp:Hp) (i:Nat) (b:Item) (j:Nat) (x:Item),j≠i→((setAt hp i b)[j]? =some (some x)↔hp[j]? =some (some x))
 | [],i,b,j,x,h=>⟨fun hh=>absurd hh (EN i b j x h),fun hh=>by simp at hh⟩
 |_::_,0,_,0,_,h=>absurd rfl h
 |_::_,0,_,j+1,_,_=>by simp[setAt]
 |_::_,n+1,_,0,_,_=>by simp[setAt]
 |_::l,n+1,b,j+1,x,h=>by
  have:=cm l n b j x (by omega);simpa [setAt]using this
theorem dq(hp:Hp)(i:Nat)(x:Item)(j:Nat):kd (setAt hp i x) j=if j=i then some x.kd else kd hp j:=by
 split
 ·rename_i h;subst h;exact dD (dF hp j x)
 ·rename_i h;unfold kd
  split
  ·rename_i y hy;rw[(cm hp i x j y h).1 hy]
  ·rename_i hn
   split
   ·rename_i y hy;exact absurd ((cm hp i x j y h).2 hy) (hn y)
   ·rfl
noncomputable section
variable {W:World} {ak:Hp} {β₀ β:Env} {hp:Hp} {w:World}
theorem cd.congr{β β':Env}{x:Item}{i b:Nat}(hb:β'.b i=β.b i)(hh:β'.h i=β.h i):cd β' x i b↔cd β x i b:=by
 cases x<;>simp only[cd,hb,hh]
theorem dE.of{β β':Env}{w w':World}{h:Value}{t:Ty}{l:List t.D}(hm:∀pm v t l,β.rd pm v t l→β'.rd pm v t l)(hk:dE β w h t l)(hw:∀a n c,h= .slice (some a) n c→0<c→w'.heap[a.block]? =w.heap[a.block]?):dE β' w' h t l:=by
 obtain⟨a,n,c,rfl,h1,h2,h3,h4⟩:=hk;refine⟨a,n,c,rfl,h1,h2,h3,fun h0=>?_⟩;obtain⟨a0,pre,eD,rest,elem,fz,rfl,k1,k2,k3,k4,k5⟩:=h4 h0;exact⟨a0,pre,eD,rest,elem,fz,rfl,k1,by rw[hw _ _ _ rfl h0];exact k2,k3,k4.imp fun _ _=>t.na hm,k5⟩
theorem fx.of{β β':Env}{L L':Nat→Option Kd}{w w':World}{i:Nat}{x:Item}(ha:bO β β' L L')(hb:β'.b i=β.b i)(hh:β'.h i=β.h i)(h:fx β L w i x)(hw:∀b,cd β x i b→w'.heap[b]? =w.heap[b]?):fx β' L' w' i x:=by
 cases x with
 |aW cells elem=>
  obtain⟨c,fz,h1,h2,h3⟩:=h;exact⟨c,fz,by rw[hb,hw _ rfl];exact h1,h2,h3.mono ha⟩
 |own v t l=>
  show dE β' w' (β'.h i) t l;rw[hh];exact dE.of ha.rd h fun a n c e h0=>hw _ ⟨a,n,c,e,h0,rfl⟩
 |gone v=>trivial
theorem dE.lt{β:Env}{w:World}{h:Value}{t:Ty}{l:List t.D}(hk:dE β w h t l){a:Addr}{n c:Nat}(e:h= .slice (some a) n c)(h0:0<c):a.block<w.heap.size:=by
 obtain⟨a',n',c',rfl,_,_,_,h4⟩:=hk;simp at e;obtain⟨rfl,rfl,rfl⟩:=e;obtain⟨a0,_,_,_,_,_,e,_,k,_⟩:=h4 h0;simp at e;subst e;exact(Array.getElem?_eq_some_iff.1 k).1
theorem fx.lt{β:Env}{L:Nat→Option Kd}{w:World}{i:Nat}{x:Item}(h:fx β L w i x){b:Nat}(ho:cd β x i b):b<w.heap.size:=by
 cases x with
 |aW cells elem=>
  obtain⟨c,fz,h1,_⟩:=h;have ho':b=β.b i:=ho;subst ho';exact(Array.getElem?_eq_some_iff.1 h1).1
 |own v t l=>
  obtain⟨a,n,c,e,h0,rfl⟩:=ho;exact dE.lt h e h0
 |gone v=>exact ho.elim
theorem bb.add(h:bb W ak β₀ β hp w){id:Nat}(pA:kd hp id=none){x:Item}{β':Env}{w':World}
  (hb:∀j,j≠id→β'.b j=β.b j) (hh:∀j,j≠id→β'.h j=β.h j) (pJ:β'.rd=β.rd) (hs:w.heap.size≤w'.heap.size) (hos:w'.os=w.os) (Gt:w'.output=w.output)
  (hold:∀b,b<w.heap.size→w'.heap[b]? =w.heap[b]?) (iO:∀b,cd β' x id b→w.heap.size≤b) (hit:bO β β' (kd hp) (kd (setAt hp id x))→fx β' (kd (setAt hp id x)) w' id x):
  bb W ak β₀ β' (setAt hp id x) w'∧bO β β' (kd hp) (kd (setAt hp id x)):=by
 have gJ:∀ {i k},kd hp i=some k→i≠id:=fun hi e=>by subst e;rw[pA]at hi;cases hi
 have aIO:∀ {i y},hp[i]? =some (some y)→i≠id:=fun hi=>gJ (dD hi)
 have sj:bO β β' (kd hp) (kd (setAt hp id x)):=by
  refine⟨fun i hi=>⟨by rw[dq,if_neg (gJ hi)];exact hi,hb i (gJ hi)⟩,fun i c hi=>⟨c,by rw[dq,if_neg (gJ hi)];exact hi,Nat.le_refl _,fun _=>hh i (gJ hi)⟩,fun pm v t l hr=>by rw[pJ];exact hr⟩
 have nd:∀ {i y},(setAt hp id x)[i]? =some (some y)→(i=id∧y=x)∨(i≠id∧hp[i]? =some (some y)):=by
  intro i y hi
  by_cases e:i=id
  ·subst e;rw[dF]at hi;simp at hi;exact .inl ⟨rfl,hi.symm⟩
  ·exact .inr ⟨e,(cm hp id x i y e).1 hi⟩
 have mJ:∀ {b},gb (setAt hp id x) β' b→w.heap.size≤b∨gb hp β b:=by
  rintro b ⟨i,y,hi,ho⟩
  rcases nd hi with⟨rfl,rfl⟩|⟨e,zq⟩
  ·exact .inl (iO b ho)
  ·exact .inr ⟨i,y,zq,(cd.congr (hb i e) (hh i e)).1 ho⟩
 refine⟨⟨?_,?_,h.first.trans sj,?_,hos.trans h.os,Gt.trans h.output,Nat.le_trans h.size hs,?_,?_,?_⟩,sj⟩
 ·intro i y hi;rcases nd hi with⟨rfl,rfl⟩|⟨e,zq⟩
  ·exact hit sj
  ·exact(h.items i y zq).of sj (hb i e) (hh i e) fun b ho=>hold b ((h.items i y zq).lt ho)
 ·intro i j y z b hi hj h1 h2;rcases nd hi with⟨rfl,rfl⟩|⟨ei,zq⟩<;>rcases nd hj with⟨e,rfl⟩|⟨ej,EO⟩
  ·exact e.symm
  ·have k1:=iO b h1;have k2:=(h.items j z EO).lt ((cd.congr (hb j ej) (hh j ej)).1 h2);omega
  ·subst e;have k1:=iO b h2;have k2:=(h.items i y zq).lt ((cd.congr (hb i ei) (hh i ei)).1 h1);omega
  ·exact h.inj i j y z b zq EO ((cd.congr (hb i ei) (hh i ei)).1 h1) ((cd.congr (hb j ej) (hh j ej)).1 h2)
 ·intro i y b hi ho;rcases nd hi with⟨rfl,rfl⟩|⟨e,zq⟩
  ·exact .inl (Nat.le_trans h.size (iO b ho))
  ·exact h.own i y b zq ((cd.congr (hb i e) (hh i e)).1 ho)
 ·intro b gV gJ;rw[hold b (by have:=h.size;omega)];exact h.al b gV gJ
 ·intro pm v t l hr;rw[pJ]at hr;obtain⟨h1,h2⟩:=h.reads pm v t l hr;refine⟨(h1.of fun b gV hl=>hold b hl).mono fun pm v t l hr=>by rw[pJ];exact hr,fun b gV=>⟨Nat.lt_of_lt_of_le (h2 b gV).1 hs,fun ho=>?_⟩⟩;rcases mJ ho with k|k
  ·have:=(h2 b gV).1;omega
  ·exact(h2 b gV).2 k
 ·intro pm v t l b hr gV;rw[pJ]at hr;exact h.from_ pm v t l b hr gV
theorem bb.oa(h:bb W ak β₀ β hp w){i:Nat}{x x':Item}(hi:hp[i]? =some (some x)){β':Env}{w':World}
  (hb:β'.b=β.b) (hh:∀j,j≠i→β'.h j=β.h j) (pJ:β'.rd=β.rd)
  (hkd:(x.kd= .aW∧x'.kd= .aW)∨∃c c',x.kd= .own c∧x'.kd= .own c'∧c≤c'∧(c=c'→β'.h i=β.h i))
  (hs:w.heap.size≤w'.heap.size) (hos:w'.os=w.os) (Gt:w'.output=w.output)
  (hold:∀b,b<w.heap.size→¬cd β x i b→w'.heap[b]? =w.heap[b]?) (iO:∀b,cd β' x' i b→cd β x i b∨w.heap.size≤b)
  (hit:bO β β' (kd hp) (kd (hp.set i (some x')))→fx β' (kd (hp.set i (some x'))) w' i x'):
  bb W ak β₀ β' (hp.set i (some x')) w'∧bO β β' (kd hp) (kd (hp.set i (some x'))):=by
 have hil:i<hp.length:=(List.getElem?_eq_some_iff.1 hi).1;have KH:(hp.set i (some x'))[i]? =some (some x'):=List.getElem?_set_self hil;have adX:∀j,j≠i→(hp.set i (some x'))[j]? =hp[j]? :=fun j hj=>List.getElem?_set_ne (Ne.symm hj);have azw:kd (hp.set i (some x')) i=some x'.kd:=dD KH;have azx:∀j,j≠i→kd (hp.set i (some x')) j=kd hp j:=fun j hj=>by unfold kd;rw[adX j hj]
 have sj:bO β β' (kd hp) (kd (hp.set i (some x'))):=by
  refine⟨fun j hj=>?_,fun j c hj=>?_,fun pm v t l hr=>by rw[pJ];exact hr⟩
  ·by_cases e:j=i
   ·subst e;rw[dD hi]at hj;simp at hj;rcases hkd with⟨_,k⟩|⟨c,c',k,_⟩
    ·exact⟨by rw[azw,k],by rw[hb]⟩
    ·rw[hj]at k;cases k
   ·exact⟨by rw[azx j e];exact hj,by rw[hb]⟩
  ·by_cases e:j=i
   ·subst e;rw[dD hi]at hj;simp at hj;rcases hkd with⟨k,_⟩|⟨c1,c',k,k1,k2,k3⟩
    ·rw[hj]at k;cases k
    ·rw[hj]at k;simp at k;subst k;exact⟨c',by rw[azw,k1],k2,k3⟩
   ·exact⟨c,by rw[azx j e];exact hj,Nat.le_refl _,fun _=>hh j e⟩
 have nd:∀ {j y},(hp.set i (some x'))[j]? =some (some y)→(j=i∧y=x')∨(j≠i∧hp[j]? =some (some y)):=by
  intro j y hj
  by_cases e:j=i
  ·subst e;rw[KH]at hj;simp at hj;exact .inl ⟨rfl,hj.symm⟩
  ·exact .inr ⟨e,by rw[adX j e]at hj;exact hj⟩
 have pK:∀ {j y b},j≠i→(cd β' y j b↔cd β y j b):=fun e=>cd.congr (by rw[hb]) (hh _ e);have hx:=h.items i x hi;have au1:∀ {j y b},j≠i→hp[j]? =some (some y)→cd β y j b→¬cd β x i b:=fun e hj h1 h2=>e (h.inj _ _ _ _ _ hj hi h1 h2)
 have mJ:∀ {b},gb (hp.set i (some x')) β' b→w.heap.size≤b∨gb hp β b:=by
  rintro b ⟨j,y,hj,ho⟩
  rcases nd hj with⟨rfl,rfl⟩|⟨e,EO⟩
  ·rcases iO b ho with k|k
   ·exact .inr ⟨_,x,hi,k⟩
   ·exact .inl k
  ·exact .inr ⟨j,y,EO,(pK e).1 ho⟩
 refine⟨⟨?_,?_,h.first.trans sj,?_,hos.trans h.os,Gt.trans h.output,Nat.le_trans h.size hs,?_,?_,?_⟩,sj⟩
 ·intro j y hj;rcases nd hj with⟨rfl,rfl⟩|⟨e,EO⟩
  ·exact hit sj
  ·exact(h.items j y EO).of sj (by rw[hb]) (hh j e) fun b ho=>hold b ((h.items j y EO).lt ho) (au1 e EO ho)
 ·intro j k y z b hj hk h1 h2;rcases nd hj with⟨ej,rfl⟩|⟨ej,EO⟩<;>rcases nd hk with⟨ek,rfl⟩|⟨ek,jz⟩
  ·rw[ej,ek]
  ·subst ej;have k2:=(pK ek).1 h2;rcases iO b h1 with k|k
   ·exact absurd k (au1 ek jz k2)
   ·have:=(h.items _ z jz).lt k2;omega
  ·subst ek;have k1:=(pK ej).1 h1;rcases iO b h2 with k|k
   ·exact absurd k (au1 ej EO k1)
   ·have:=(h.items _ y EO).lt k1;omega
  ·exact h.inj j k y z b EO jz ((pK ej).1 h1) ((pK ek).1 h2)
 ·intro j y b hj ho;rcases nd hj with⟨rfl,rfl⟩|⟨e,EO⟩
  ·rcases iO b ho with k|k
   ·exact h.own _ x b hi k
   ·exact .inl (Nat.le_trans h.size k)
  ·exact h.own j y b EO ((pK e).1 ho)
 ·intro b gV gJ;rw[hold b (by have:=h.size;omega) fun ho=>?_]
  ·exact h.al b gV gJ
  ·rcases h.own i x b hi ho with k|⟨y,k⟩
   ·omega
   ·exact gJ ⟨i,y,k⟩
 ·intro pm v t l hr;rw[pJ]at hr;obtain⟨h1,h2⟩:=h.reads pm v t l hr;refine⟨(h1.of fun b gV hl=>hold b hl fun ho=>(h2 b gV).2 ⟨i,x,hi,ho⟩).mono fun pm v t l hr=>by rw[pJ];exact hr,fun b gV=>⟨Nat.lt_of_lt_of_le (h2 b gV).1 hs,fun ho=>?_⟩⟩;rcases mJ ho with k|k
  ·have:=(h2 b gV).1;omega
  ·exact(h2 b gV).2 k
 ·intro pm v t l b hr gV;rw[pJ]at hr;exact h.from_ pm v t l b hr gV
theorem bb.drew(h:bb W ak β₀ β hp w)(n:Nat)(tp:Tape):bb W ak β₀ β hp {w with drawn:=n,tape:=tp}:=
 ⟨h.items,h.inj,h.first,h.own,h.os,h.output,h.size,h.al,h.reads,h.from_⟩
def Env.o8(β:Env)(pm:Bool)(v:Value)(t:Ty)(l:List t.D):Env:=⟨β.b,β.h,fun lW v' t' l'=>β.rd lW v' t' l'∨(lW=pm∧v'=v∧∃e:t=t',e▸l=l')⟩
theorem bb.o8(h:bb W ak β₀ β hp w){pm:Bool}{v:Value}{t:Ty}{l:List t.D}(hr:bN β pm w v t l)
  (hb:∀b,inBlock v b→b<w.heap.size∧¬gb hp β b∧(W.heap.size≤b∨∃lW v' t' l',(pm=true→lW=true)∧β₀.rd lW v' t' l'∧inBlock v' b)):
  bb W ak β₀ (β.o8 pm v t l) hp w∧bO β (β.o8 pm v t l) (kd hp) (kd hp)∧(β.o8 pm v t l).rd pm v t l:=by
 have hm:∀lW v' t' l',β.rd lW v' t' l'→(β.o8 pm v t l).rd lW v' t' l':=fun _ _ _ _ h=>.inl h;have sj:bO β (β.o8 pm v t l) (kd hp) (kd hp):=⟨fun i hi=>⟨hi,rfl⟩,fun i c hi=>⟨c,hi,Nat.le_refl _,fun _=>rfl⟩,hm⟩;have hoc:∀ {x i b},cd (β.o8 pm v t l) x i b↔cd β x i b:=cd.congr rfl rfl;have hod:∀ {b},gb hp (β.o8 pm v t l) b↔gb hp β b:=⟨fun⟨i,x,h1,h2⟩=>⟨i,x,h1,hoc.1 h2⟩,fun⟨i,x,h1,h2⟩=>⟨i,x,h1,hoc.2 h2⟩⟩;refine⟨⟨fun i x hi=>(h.items i x hi).of sj rfl rfl fun _ _=>rfl,fun i j x y b hi hj h1 h2=>h.inj i j x y b hi hj (hoc.1 h1) (hoc.1 h2),h.first.trans sj,fun i x b hi ho=>h.own i x b hi (hoc.1 ho),h.os,h.output,h.size,h.al,?_,?_⟩,sj,.inr ⟨rfl,rfl,rfl,rfl⟩⟩
 ·rintro lW v' t' l' (hv|⟨rfl,rfl,rfl,rfl⟩)
  ·obtain⟨h1,h2⟩:=h.reads lW v' t' l' hv;exact⟨h1.mono hm,fun b gV=>⟨(h2 b gV).1,fun ho=>(h2 b gV).2 (hod.1 ho)⟩⟩
  ·exact⟨hr.mono hm,fun b gV=>⟨(hb b gV).1,fun ho=>(hb b gV).2.1 (hod.1 ho)⟩⟩
 ·rintro lW v' t' l' b (hv|⟨rfl,rfl,rfl,rfl⟩) hbl
  ·exact h.from_ lW v' t' l' b hv hbl
  ·exact(hb b hbl).2.2
end
inductive Ask (α:Type) where
 |ret (a:α)
 |get (i:Nat) (k:Option Item→Ask α)
def bo(hp:Hp)(i:Nat):Option Item:=match hp[i]? with|some (some x)=>some x|_=>none
def Ask.val{α:Type}(hp:Hp):Ask α→α
 | .ret a=>a
 | .get i k=>(k (bo hp i)).val hp
def Ask.log{α:Type}(hp:Hp):Ask α→List Nat
 | .ret _=> []
 | .get i k=>i::(k (bo hp i)).log hp
def Ask.bind{α β:Type}:Ask α→(α→Ask β)→Ask β
 | .ret a,f=>f a
 | .get i k,f=>.get i fun x=>(k x).bind f
def Ask.map{α β:Type}(f:α→β)(a:Ask α):Ask β:=a.bind fun x=>.ret (f x)
theorem Ask.eF{α β:Type}(hp:Hp):∀ (a:Ask α) (f:α→Ask β),(a.bind f).val hp=(f (a.val hp)).val hp
 | .ret _,_=>rfl
 | .get i k,f=>Ask.eF hp (k (bo hp i)) f
theorem Ask.cU{α β:Type}(hp:Hp)(a:Ask α)(f:α→β):(a.map f).val hp=f (a.val hp):=Ask.eF hp a _
theorem Ask.Gu{α:Type}{hp hp2:Hp}:∀ (a:Ask α),(∀i∈a.log hp,bo hp2 i=bo hp i)→a.val hp2=a.val hp∧a.log hp2=a.log hp
 | .ret _,_=>⟨rfl,rfl⟩
 | .get i k,h=>by
  have h0:bo hp2 i=bo hp i:=h i (by simp[Ask.log]);have:=Ask.Gu (hp:=hp) (hp2:=hp2) (k (bo hp i)) fun j hj=>h j (by simp[Ask.log,hj]);simp only[Ask.val,Ask.log,h0];exact⟨this.1,by rw[this.2]⟩
theorem aB{hp:Hp}{i:Nat}{x:Item}(h:bo hp i=some x):hp[i]? =some (some x):=by
 unfold bo at h;split at h
 ·rename_i y hy;simp at h;subst h;exact hy
 ·cases h
theorem ra{hp:Hp}{i:Nat}{x:Item}(h:hp[i]? =some (some x)):bo hp i=some x:=by unfold bo;rw[h]
def Ty.flat:Ty→Bool
 | .int _| .bool| .xb| .str=>true
 | .sl _=>false
 | .pair a b=>a.flat&&b.flat
 | .arr t _=>t.flat
theorem Ty.sM{β:Env}{pm lW:Bool}:∀ (t:Ty) {x:t.D} {vs:List Value},t.flat=true→t.has β pm x vs→t.has β lW x vs
 | .int _,_,_,_,h=>h
 | .bool,_,_,_,h=>h
 | .xb,_,_,_,h=>h
 | .str,_,_,_,h=>h
 | .sl _,_,_,hf,_=>by cases hf
 | .pair a b,_,_,hf,h=>by
  simp only[Ty.flat,Bool.and_eq_true]at hf;obtain⟨u,w,h,h1,h2⟩:=h;exact⟨u,w,h,a.sM hf.1 h1,b.sM hf.2 h2⟩
 | .arr t _,_,_,hf,⟨h1,h2⟩=>⟨h1,h2.imp fun _ _=>t.sM hf⟩
theorem zf.adY{β:Env}{pm:Bool}{v:Value}{t:Ty}{l:List t.D}(h:zf β true v t l):zf β pm v t l:=by
 rcases h with h|⟨h,_⟩|h
 ·exact .inl h
 ·cases h
 ·exact .inr (.inr h)
theorem Ty.pM{β:Env}{pm:Bool}:∀ (t:Ty) {x:t.D} {vs:List Value},t.has β true x vs→t.has β pm x vs
 | .int _,_,_,h=>h
 | .bool,_,_,h=>h
 | .xb,_,_,h=>h
 | .str,_,_,h=>h
 | .sl _,_,_,⟨v,h1,h2,h3⟩=>⟨v,h1,h2,h3.adY⟩
 | .pair a b,_,_,⟨u,w,h,h1,h2⟩=>⟨u,w,h,a.pM h1,b.pM h2⟩
 | .arr t _,_,_,⟨h1,h2⟩=>⟨h1,h2.imp fun _ _=>t.pM⟩
def Ty.EP(pm:Bool):(t:Ty)→t.D→List SV
 | .int k,n=> [.int k (.sym n)]
 | .bool,b=> [.bool (.sym b)]
 | .xb,n=> [.xb n]
 | .str,l=> [.str l]
 | .sl t,l=> [.rd pm false t l]
 | .pair a b,x=>a.EP pm x.1++b.EP pm x.2
 | .arr t n,l=>if pm||t.flat then [.arr t n l]else List.replicate (n*t.w) .bd
theorem ER{β:Env}{L:Nat→Option Kd}:∀ {vs:List Value} {n:Nat},vs.length=n→(∀v∈vs,v.oneCell'=true)→bf β L (List.replicate n .bd) vs
 | [],_,h,_=>by simp at h;subst h;exact .nil
 |v::vs,n,h,h1=>by
  cases n with
  |zero=>simp at h
  |succ n=>
   rw[List.replicate_succ];exact bf.nb (h1 v (by simp)) (ER (by simpa using h) fun u hu=>h1 u (by simp[hu]))
theorem Ty.mK{β:Env}{L:Nat→Option Kd}{pm:Bool}:∀ (t:Ty) {x:t.D} {vs:List Value},t.has β pm x vs→bf β L (t.EP pm x) vs
 | .int _,_,_,h=>by simp only[Ty.has]at h;subst h;exact bf.nb rfl .nil
 | .bool,_,_,h=>by simp only[Ty.has]at h;subst h;exact bf.nb rfl .nil
 | .xb,_,_,h=>by simp only[Ty.has]at h;subst h;exact bf.nb rfl .nil
 | .str,_,_,h=>by simp only[Ty.has]at h;subst h;exact bf.nb rfl .nil
 | .sl _,_,_,h=>by
  simp only[Ty.has]at h;obtain⟨v,rfl,h1,h2⟩:=h;exact bf.nb ⟨h1,fun h=>by(cases h),h2⟩ .nil
 | .pair a b,_,_,h=>by
  simp only[Ty.has]at h;obtain⟨u,w,rfl,h1,h2⟩:=h;exact(a.mK h1).append (b.mK h2)
 | .arr t n,x,vs,h=>by
  have Gv:=h;simp only[Ty.has]at h;obtain⟨h1,h2⟩:=h;simp only[Ty.EP]
  split
  ·rename_i hp;refine aU.one (R:=SV.j6 β L) ⟨h1,?_⟩
   cases pm with
   |true=>exact h2
   |false=>exact h2.imp fun _ _=>t.sM (by simpa using hp)
  ·exact ER (Ty.fw _ Gv) (Ty.tQ _ Gv)
def xd:List SV→Nat→Option (List SV×List SV)
 |l,0=>some ([],l)
 | [],_+1=>none
 | .arr t n x::r,k+1=>
  if n*t.w≤k+1 then(xd r (k+1-n*t.w)).map fun p=>(.arr t n x::p.1,p.2)
  else if t.w≠0∧(k+1)%t.w=0 then some ([.arr t ((k+1)/t.w) (x.take ((k+1)/t.w))],.arr t (n-(k+1)/t.w) (x.drop ((k+1)/t.w))::r)
  else none
 |s::r,k+1=>(xd r k).map fun p=>(s::p.1,p.2)
theorem iA{β:Env}{t:Ty}{pm:Bool}{l:List t.D}{vs:List Value}(h:aU (t.has β pm) l vs)(j:Nat):∃v1 v2,vs=v1++v2∧aU (t.has β pm) (l.take j) v1∧aU (t.has β pm) (l.drop j) v2:=by
 rw[← List.take_append_drop j l]at h;exact h.split
theorem l9{β:Env}{L:Nat→Option Kd}:∀ (l:List SV) (k:Nat) {a b:List SV} {vs:List Value},xd l k=some (a,b)→bf β L l vs→
  ∃va vb,vs=va++vb∧va.length=k∧bf β L a va∧bf β L b vb
 |l,0,a,b,vs,h,hd=>by
  have:xd l 0=some ([],l):=by cases l<;>rfl
  rw[this]at h;simp at h;obtain⟨rfl,rfl⟩:=h;exact⟨[],vs,rfl,rfl,.nil,hd⟩
 | [],k+1,a,b,vs,h,_=>by simp[xd]at h
 |s::r,k+1,a,b,vs,h,hd=>by
  have plain:(∀t n l,s≠ .arr t n l)→∃va vb,vs=va++vb∧va.length=k+1∧bf β L a va∧bf β L b vb:=by
   intro hs
   have h':(xd r k).map (fun p=>(s::p.1,p.2))=some (a,b):=by
    cases s with
    |arr t n l=>exact absurd rfl (hs t n l)
    |_=>exact h
   obtain⟨⟨a',b'⟩,h1,h2⟩:=Option.map_eq_some_iff.1 h';simp at h2;obtain⟨rfl,rfl⟩:=h2
   cases hd with
   |cons h3 h4=>
    obtain⟨v,rfl,h5⟩:=SV.jy h3 hs;obtain⟨va,vb,rfl,e,h6,h7⟩:=l9 r k h1 h4;exact⟨v::va,vb,rfl,by simp[e],bf.nb h5 h6,h7⟩
  cases s with
  |arr t n x=>
   simp only[xd]at h
   cases hd with
   |cons h3 h4=>
    rename_i us ws;have Ei:=SV.iw h3;simp only[SV.w]at Ei
    split at h
    ·rename_i hle;obtain⟨⟨a',b'⟩,h1,h2⟩:=Option.map_eq_some_iff.1 h;simp at h2;obtain⟨rfl,rfl⟩:=h2;obtain⟨va,vb,rfl,e,h6,h7⟩:=l9 r (k+1-n*t.w) h1 h4;exact⟨us++va,vb,by simp,by simp[Ei,e];omega,.cons h3 h6,h7⟩
    ·rename_i dL
     split at h
     ·rename_i hw;simp at h;obtain⟨rfl,rfl⟩:=h;obtain⟨h5,h6⟩:=h3;obtain⟨v1,v2,rfl,h7,h8⟩:=iA h6 ((k+1)/t.w);have hdiv:(k+1)/t.w*t.w=k+1:=Nat.div_mul_cancel (Nat.dvd_of_mod_eq_zero hw.2)
      have aIP:(k+1)/t.w<n:=Nat.lt_of_not_le fun hle=>dL (by
       have:=Nat.mul_le_mul_right t.w hle;omega)
      have hl1:(x.take ((k+1)/t.w)).length=(k+1)/t.w:=(by simp;omega);refine⟨v1,v2++ws,by simp,by rw[bm h7,hl1,hdiv],aU.one (R:=SV.j6 β L) ⟨hl1,h7⟩,.cons (R:=SV.j6 β L) ⟨by simp;omega,h8⟩ h4⟩
     ·simp at h
  |_=>exact plain (by intros;simp)
def Y9(l:List SV)(off m:Nat):Option (List SV):=
 match xd l off with
 |some (_,b)=>(xd b m).map (·.1)
 |none=>none
theorem rb{β:Env}{L:Nat→Option Kd}{l:List SV}{off m:Nat}{s:List SV}{vs:List Value}(h:Y9 l off m=some s)(hd:bf β L l vs):
  ∃pre mid post,vs=pre++(mid++post)∧pre.length=off∧mid.length=m∧bf β L s mid:=by
 unfold Y9 at h;split at h
 ·rename_i a b hc;obtain⟨⟨x,y⟩,h1,rfl⟩:=Option.map_eq_some_iff.1 h;obtain⟨va,vb,rfl,e1,h2,h3⟩:=l9 _ _ hc hd;obtain⟨vc,ve,rfl,e2,h4,h5⟩:=l9 _ _ h1 h3;exact⟨va,vc,ve,rfl,e1,e2,h4⟩
 ·cases h
def yH:List SV→Nat→Option SV
 | [],_=>none
 | .arr t n x::r,off=>
  if off<n*t.w then
   (if t.w=1 then match t.EP true (x.getD off t.z)with| [.arr _ _ _]=>none| [s]=>some s|_=>none
    else if(t.EP true (x.getD (off/t.w) t.z)).all (fun s=>match s with| .arr _ _ _=>false|_=>true)then(t.EP true (x.getD (off/t.w) t.z))[off%t.w]? else none)
  else yH r (off-n*t.w)
 |s::_,0=>some s
 |_::r,off+1=>yH r off
theorem jA{β:Env}{t:Ty}{pm:Bool}{l:List t.D}{vs:List Value}(h:aU (t.has β pm) l vs){j:Nat}(hj:j<l.length):
  ∃a u b,vs=a++(u++b)∧a.length=j*t.w∧t.has β pm (l.getD j t.z) u∧aU (t.has β pm) (l.take j) a∧aU (t.has β pm) (l.drop (j+1)) b:=by
 have e:l[j]? =some (l.getD j t.z):=by simp[List.getD,hj]
 obtain⟨a,u,b,rfl,h1,h2,h3⟩:=h.get e;exact⟨a,u,b,rfl,by rw[bm h2,List.length_take,Nat.min_eq_left (Nat.le_of_lt hj)],h1,h2,h3⟩
theorem pN{β:Env}{L:Nat→Option Kd}:∀ {l:List SV} {vs:List Value} {i:Nat} {s:SV},l.all (fun s=>match s with| .arr _ _ _=>false|_=>true)=true→bf β L l vs→l[i]? =some s→∃v,vs[i]? =some v∧s.den β L v
 | [],_,_,_,_,_,h=>by simp at h
 |x::l,_,i,s,ha,.cons h1 h2,h=>by
  simp only[List.all_cons,Bool.and_eq_true]at ha;obtain⟨v,rfl,hv⟩:=SV.jy h1 (fun t n l e=>by subst e;simp at ha)
  cases i with
  |zero=>simp at h;subst h;exact⟨v,by simp,hv⟩
  |succ i=>
   simp at h;obtain⟨u,h3,h4⟩:=pN ha.2 h2 h;exact⟨u,by simpa using h3,h4⟩
theorem pO{β:Env}{L:Nat→Option Kd}:∀ (l:List SV) (off:Nat) {s:SV} {vs:List Value},yH l off=some s→bf β L l vs→∃v,vs[off]? =some v∧s.den β L v
 | [],_,_,_,h,_=>by simp[yH]at h
 |x::r,off,s,vs,h,hd=>by
  have plain:(∀t n l,x≠ .arr t n l)→∃v,vs[off]? =some v∧s.den β L v:=by
   intro hs
   cases hd with
   |cons h1 h2=>
    obtain⟨v,rfl,h3⟩:=SV.jy h1 hs
    cases off with
    |zero=>
     have:s=x:=by
      cases x with
      |arr t n l=>exact absurd rfl (hs t n l)
      |_=>simp[yH]at h;exact h.symm
     subst this;exact⟨v,rfl,h3⟩
    |succ off=>
     have:yH r off=some s:=by
      cases x with
      |arr t n l=>exact absurd rfl (hs t n l)
      |_=>exact h
     obtain⟨u,h4,h5⟩:=pO r off this h2;exact⟨u,by simpa using h4,h5⟩
  cases x with
  |arr t n x=>
   have h':(if off<n*t.w then
   (if t.w=1 then match t.EP true (x.getD off t.z)with| [.arr _ _ _]=>none| [s]=>some s|_=>none
    else if(t.EP true (x.getD (off/t.w) t.z)).all (fun s=>match s with| .arr _ _ _=>false|_=>true)then(t.EP true (x.getD (off/t.w) t.z))[off%t.w]? else none)
  else yH r (off-n*t.w))=some s:=by
    cases off<;>exact h
   clear h
   cases hd with
   |cons h1 h2=>
    rename_i us ws;have Ei:=SV.iw h1;simp only[SV.w]at Ei;obtain⟨h3,h4⟩:=h1
    split at h'
    ·rename_i dL
     split at h'
     ·rename_i hw;have hj:off<x.length:=(by rw[h3];rw[hw]at dL;omega);obtain⟨a,u,b,rfl,e1,h5,_⟩:=jA h4 hj;have h6:=t.mK (L:=L) h5;rw[hw,Nat.mul_one]at e1
      split at h'
      ·cases h'
      ·rename_i s' _ hse;simp at h';subst h';rw[hse]at h6;obtain⟨v,rfl,h7⟩:=SV.jy (aU.kD h6) (by assumption);exact⟨v,by rw[← e1];simp,h7⟩
      ·cases h'
     ·split at h'
      ·rename_i hw Gv
       have jB:0<t.w:=by rcases Nat.eq_zero_or_pos t.w with e|e
                         · rw[e]at dL;omega
                         · exact e
       have hj:off/t.w<x.length:=(by rw[h3];exact(Nat.div_lt_iff_lt_mul jB).2 dL);obtain⟨a,u,b,rfl,e1,h5,_⟩:=jA h4 hj;obtain⟨v,h7,h8⟩:=pN Gv (t.mK (L:=L) h5) h';refine⟨v,?_,h8⟩;have hm:off=a.length+off%t.w:=(by rw[e1,Nat.mul_comm];exact(Nat.div_add_mod off t.w).symm);have aD7:=(List.getElem?_eq_some_iff.1 h7).1;rw[hm,List.append_assoc,List.getElem?_append_right (by omega),Nat.add_sub_cancel_left,List.append_assoc,List.getElem?_append_left aD7];exact h7
      ·cases h'
    ·rename_i hge;obtain⟨v,h5,h6⟩:=pO r (off-n*t.w) h' h2;exact⟨v,by rw[List.getElem?_append_right (by omega),Ei];exact h5,h6⟩
  |_=>exact plain (by intros;simp)
def dT{α:Type}(f:List SV→Option α)(w:Nat):Nat→List SV→Option (List α)
 |0,[]=>some []
 |0,_::_=>none
 |n+1,l=>match xd l w with
  |some (a,b)=>match f a,dT f w n b with
   |some x,some m=>some (x::m)
   |_,_=>none
  |none=>none
theorem gW{β:Env}{L:Nat→Option Kd}{α:Type}{R:α→List Value→Prop}{f:List SV→Option α}{w:Nat}(hf:∀a x vs,f a=some x→bf β L a vs→R x vs):
  ∀ (n:Nat) {l:List SV} {m:List α} {vs:List Value},dT f w n l=some m→bf β L l vs→aU R m vs∧m.length=n
 |0,[],m,vs,h,hd=>by simp[dT]at h;subst h;cases hd;exact⟨.nil,rfl⟩
 |0,_::_,_,_,h,_=>by simp[dT]at h
 |n+1,l,m,vs,h,hd=>by
  simp only[dT]at h
  split at h
  ·rename_i a b hc
   split at h
   ·rename_i x m' h1 h2;simp at h;subst h;obtain⟨va,vb,rfl,_,h3,h4⟩:=l9 _ _ hc hd;obtain⟨h5,h6⟩:=gW hf n h2 h4;exact⟨.cons (hf _ _ _ h1 h3) h5,by simp[h6]⟩
   ·cases h
  ·cases h
def ma(s:ByteArray):List Int:=s.data.toList.map fun x=>(x.toNat:Int)
theorem fX(s:ByteArray):strOf (ma s)=s:=by
 unfold strOf ma;rw[List.map_map]
 have:((fun n:Int=>UInt8.ofNat n.toNat)∘fun x:UInt8=>(x.toNat:Int))=id:=by
  funext x;simp
 rw[this];simp
theorem sN(l:List Int):(strOf l).size=l.length:=by unfold strOf;show Array.size _=_;simp
def Ty.read(pm:Bool):(t:Ty)→List SV→Option t.D
 | .int k,l=>match l with
  | [.int k' n]=>if k'=k then some n.val else none
  |_=>none
 | .bool,l=>match l with
  | [.bool b]=>some b.val
  |_=>none
 | .xb,l=>match l with
  | [.xb n]=>some n
  |_=>none
 | .str,l=>match l with
  | [.str s]=>some s
  | [.iM (.string s)]=>some (ma s)
  |_=>none
 | .sl t,l=>match l with
  | [.rd lW _ t' m]=>if h:t'=t then(if lW|| !pm then some (h▸m)else none)else none
  | [.iM (.slice none 0 0)]=>some []
  |_=>none
 | .pair a b,l=>match xd l a.w with
  |some (x,y)=>match a.read pm x,b.read pm y with
   |some u,some v=>some (u,v)
   |_,_=>none
  |none=>none
 | .arr t n,l=>match l with
  | [.arr t' n' m]=>if h:t'=t then(if n'=n then some (h▸m)else none)else none
  |l=>dT (t.read pm) t.w n l
theorem Ty.gD{β:Env}{L:Nat→Option Kd}{pm:Bool}:∀ (t:Ty) {l:List SV} {x:t.D} {vs:List Value},t.read pm l=some x→bf β L l vs→t.has β pm x vs
 | .int k,l,x,vs,h,hd=>by
  simp only[Ty.read]at h
  split at h
  ·split at h
   ·rename_i hk;simp at h;subst h hk;obtain⟨v,rfl,rfl⟩:=aU.kD hd;rfl
   ·cases h
  ·cases h
 | .bool,l,x,vs,h,hd=>by
  simp only[Ty.read]at h
  split at h
  ·simp at h;subst h;obtain⟨v,rfl,rfl⟩:=aU.kD hd;rfl
  ·cases h
 | .xb,l,x,vs,h,hd=>by
  simp only[Ty.read]at h
  split at h
  ·simp at h;subst h;obtain⟨v,rfl,rfl⟩:=aU.kD hd;rfl
  ·cases h
 | .str,l,x,vs,h,hd=>by
  simp only[Ty.read]at h
  split at h
  ·simp at h;subst h;obtain⟨v,rfl,rfl⟩:=aU.kD hd;rfl
  ·simp at h;subst h;obtain⟨v,rfl,_,rfl⟩:=aU.kD hd;simp only[Ty.has];rw[fX]
  ·cases h
 | .sl t,l,x,vs,h,hd=>by
  simp only[Ty.read]at h
  split at h
  ·rename_i lW nn t' m
   split at h
   ·rename_i ht;subst ht
    split at h
    ·rename_i hp;simp at h;subst h;obtain⟨v,rfl,h1,_,h2⟩:=aU.kD hd;refine⟨v,rfl,h1,?_⟩
     cases lW
     ·simp at hp;subst hp;exact h2
     ·exact h2.adY
    ·cases h
   ·cases h
  ·simp at h;subst h;obtain⟨v,rfl,h1,rfl⟩:=aU.kD hd;exact⟨_,rfl,h1,.inr (.inr ⟨rfl,rfl⟩)⟩
  ·cases h
 | .pair a b,l,x,vs,h,hd=>by
  simp only[Ty.read]at h
  split at h
  ·rename_i u w hc
   split at h
   ·rename_i x1 x2 h1 h2;simp at h;subst h;obtain⟨va,vb,rfl,_,h3,h4⟩:=l9 _ _ hc hd;exact⟨va,vb,rfl,a.gD h1 h3,b.gD h2 h4⟩
   ·cases h
  ·cases h
 | .arr t n,l,x,vs,h,hd=>by
  simp only[Ty.read]at h
  split at h
  ·rename_i t' n' m
   split at h
   ·rename_i ht;subst ht
    split at h
    ·rename_i hn;simp at h;subst h hn;obtain⟨h1,h2⟩:=aU.kD hd;exact⟨h1,h2.imp fun _ _=>t'.pM⟩
    ·cases h
   ·cases h
  ·obtain⟨h1,h2⟩:=gW (R:=t.has β pm) (fun a x vs h hd=>t.gD h hd) n h hd;exact⟨h2,h1⟩
def sO(l:List SV)(off:Nat)(new:List SV):Option (List SV):=
 match xd l off with
 |some (a,b)=>(xd b (wL new)).map fun p=>a++new++p.2
 |none=>none
def KI:List SV→Nat→List SV→Option (List SV)
 | [],off,new=>sO [] off new
 | .arr t n x::r,off,new=>
  if n*t.w≤off then(KI r (off-n*t.w) new).map (.arr t n x:: ·)
  else match(if t.w≠0∧off%t.w=0∧wL new=t.w then t.read true new else none)with
   |some y=>some (.arr t n (x.set (off/t.w) y)::r)
   |none=>sO (.arr t n x::r) off new
 |s::r,0,new=>sO (s::r) 0 new
 |s::r,off+1,new=>(KI r off new).map (s:: ·)
def Vr(β:Env)(L:Nat→Option Kd)(l l':List SV)(off:Nat)(new:List SV):Prop:=
 ∀vs ws,bf β L l vs→bf β L new ws→∃pre old post,vs=pre++(old++post)∧pre.length=off∧old.length=ws.length∧bf β L l' (pre++(ws++post))
theorem rf{β:Env}{L:Nat→Option Kd}{l l':List SV}{off:Nat}{new:List SV}(h:sO l off new=some l'):Vr β L l l' off new:=by
 intro vs ws hd hn;unfold sO at h;split at h
 ·rename_i a b hc;obtain⟨⟨x,y⟩,h1,rfl⟩:=Option.map_eq_some_iff.1 h;obtain⟨va,vb,rfl,e1,h2,h3⟩:=l9 _ _ hc hd;obtain⟨vc,ve,rfl,e2,h4,h5⟩:=l9 _ _ h1 h3;refine⟨va,vc,ve,rfl,e1,by rw[e2,hn.length],?_⟩;rw[List.append_assoc];exact h2.append (hn.append h5)
 ·cases h
theorem tT{β:Env}{L:Nat→Option Kd}:∀ (l:List SV) (off:Nat) {new l':List SV},KI l off new=some l'→Vr β L l l' off new
 | [],off,new,l',h=>rf h
 |s::r,off,new,l',h=>by
  have plain:(∀t n l,s≠ .arr t n l)→Vr β L (s::r) l' off new:=by
   intro hs
   cases off with
   |zero=>
    refine rf ?_
    cases s with
    |arr t n l=>exact absurd rfl (hs t n l)
    |_=>exact h
   |succ off=>
    have h':(KI r off new).map (s:: ·)=some l':=by
     cases s with
     |arr t n l=>exact absurd rfl (hs t n l)
     |_=>exact h
    obtain⟨r',h1,rfl⟩:=Option.map_eq_some_iff.1 h';intro vs ws hd hn
    cases hd with
    |cons h2 h3=>
     obtain⟨v,rfl,h4⟩:=SV.jy h2 hs;obtain⟨pre,old,post,rfl,e1,e2,h5⟩:=tT r off h1 _ _ h3 hn;exact⟨v::pre,old,post,rfl,by simp[e1],e2,bf.nb h4 h5⟩
  cases s with
  |arr t n x=>
   have h':(if n*t.w≤off then(KI r (off-n*t.w) new).map (.arr t n x:: ·)
    else match(if t.w≠0∧off%t.w=0∧wL new=t.w then t.read true new else none)with
     |some y=>some (.arr t n (x.set (off/t.w) y)::r)
     |none=>sO (.arr t n x::r) off new)=some l':=by
    cases off<;>exact h
   clear h
   split at h'
   ·rename_i hle;obtain⟨r',h1,rfl⟩:=Option.map_eq_some_iff.1 h';intro vs ws hd hn
    cases hd with
    |cons h2 h3=>
     rename_i us vs;have Ei:=SV.iw h2;simp only[SV.w]at Ei;obtain⟨pre,old,post,rfl,e1,e2,h5⟩:=tT r _ h1 _ _ h3 hn;refine⟨us++pre,old,post,by simp,by simp[Ei,e1];omega,e2,?_⟩;rw[List.append_assoc];exact .cons h2 h5
   ·rename_i dL
    split at h'
    ·rename_i y hy
     split at hy
     ·rename_i hw;simp at h';subst h';intro vs ws hd hn
      cases hd with
      |cons h2 h3=>
       rename_i us vs;obtain⟨h4,h5⟩:=h2
       have hj:off/t.w<x.length:=by
        rw[h4];exact(Nat.div_lt_iff_lt_mul (by omega)).2 (by omega)
       obtain⟨a,u,b,rfl,e1,h6,h7,h8⟩:=jA h5 hj;have KJ:=t.gD hy hn;refine⟨a,u,b++vs,by simp,?_,by rw[t.fw h6,t.fw KJ],?_⟩
       ·rw[e1];exact Nat.div_mul_cancel (Nat.dvd_of_mod_eq_zero hw.2.1)
       ·have h9:aU (t.has β true) (x.set (off/t.w) y) (a++(ws++b)):=aU.PK hj KJ h7 h8;have h10:=aU.cons (R:=SV.j6 β L) (x:=.arr t n (x.set (off/t.w) y)) ⟨by simpa using h4,h9⟩ h3;simpa using h10
     ·cases hy
    ·exact rf h'
  |_=>exact plain (by intros;simp)
theorem bT(b off k:Nat):(⟨b,off,none⟩:Addr).add k=⟨b,off+k,none⟩:=by
 unfold Addr.add;split
 ·rename_i e;subst e;simp
 ·rfl
theorem add_add{a:Addr}(h:a.spot=none)(i j:Nat):(a.add i).add j=a.add (i+j):=by
 obtain⟨b,o,s⟩:=a;simp at h;subst h;rw[bT,bT,bT,Nat.add_assoc]
theorem nf{a:Addr}(h:a.spot=none)(i:Nat):(a.add i).spot=none:=by
 obtain⟨b,o,s⟩:=a;simp at h;subst h;rw[bT]
theorem c8.mid{w:World}{a:Addr}(hs:a.spot=none){pre mid post:List Value}(h:c8 w a (pre++(mid++post))):c8 w (a.add pre.length) mid:=by
 intro i u hu;rw[add_add hs];refine h _ u ?_;rw[List.getElem?_append_right (by omega),Nat.add_sub_cancel_left,List.getElem?_append_left (List.getElem?_eq_some_iff.1 hu).1];exact hu
theorem eQ{w:World}{b:Nat}{pre mid post:List Value}{elem:TypeId}{fz:Nat×Nat}(h:w.heap[b]? =some (.cells (pre++(mid++post)).toArray elem fz)):c8 w ⟨b,pre.length,none⟩ mid:=by
 intro i u hu;rw[bT];simp only[World.cell?,h];have dL:=(List.getElem?_eq_some_iff.1 hu).1;simp only[Option.isSome_none,Bool.false_eq_true,if_false,List.getElem?_toArray];rw[List.getElem?_append_right (by omega),Nat.add_sub_cancel_left,List.getElem?_append_left dL];exact hu
theorem mb{P:Program}{w:World}{a:Addr}{vs:List Value}(h:c8 w a vs):(loadCells a vs.length).run P w= .ok vs.toArray w:=
 run_loadCells_list w a vs h
theorem dM{P:Program}{a:Addr}(hs:a.spot=none){elem:TypeId}{fz:Nat×Nat}:∀ (ws:List Value) (k:Nat) (pre old post:List Value) (w:World),w.heap[a.block]? =some (.cells (pre++(old++post)).toArray elem fz)→pre.length=a.off+k→old.length=ws.length→
  (∀v∈ws,v.oneCell'=true)→(∀off,pre.length≤off→off<pre.length+ws.length→¬ (fz.1≤off∧off<fz.2))→
  ∃w',(storeCells a ws k).run P w= .ok () w'∧w'.heap[a.block]? =some (.cells (pre++(ws++post)).toArray elem fz)∧(∀b,b≠a.block→w'.heap[b]? =w.heap[b]?)∧w'.heap.size=w.heap.size∧w'.os=w.os∧w'.output=w.output
 | [],k,pre,old,post,w,h,_,hl,_,_=>by
  have:old= []:=List.eq_nil_of_length_eq_zero (by simpa using hl);subst this;exact⟨w,rfl,h,fun _ _=>rfl,rfl,rfl,rfl⟩
 |v::ws,k,pre,old,post,w,h,hp,hl,h1,hf=>by
  cases old with
  |nil=>simp at hl
  |cons o old=>
   obtain⟨b,of,s⟩:=a;simp at hs;subst hs;simp only at h hp hl ⊢;have aD8:(⟨b,of,none⟩:Addr).add k=⟨b,pre.length,none⟩:=by rw[bT];congr 1;exact hp.symm
   have hc:w.cell? ⟨b,pre.length,none⟩=some o:=by
    simp only[World.cell?,h];simp
   have hfz:w.frozen? ⟨b,pre.length,none⟩=false:=by
    simp only[World.frozen?,h];have:=hf pre.length (Nat.le_refl _) (by simp);simpa using this
   have sP:(w.setCell ⟨b,pre.length,none⟩ v).heap[b]? =some (.cells ((pre++ [v])++(old++post)).toArray elem fz):=by
    simp only[World.setCell,Array.getElem?_modify,h];simp
   obtain⟨w',e1,e2,e3,e4,e5,e6⟩:=dM (P:=P) (a:=⟨b,of,none⟩) rfl (elem:=elem) (fz:=fz) ws (k+1) (pre++ [v]) old post (w.setCell ⟨b,pre.length,none⟩ v) sP (by simp;omega) (by simpa using hl) (fun u hu=>h1 u (by simp[hu]))
    (fun off k1 k2=>hf off (by simp at k1;omega) (by simp at k2 ⊢;omega))
   refine⟨w',?_,by simpa using e2,fun c sQ=>?_,?_,?_,?_⟩
   ·simp only[storeCells,Sem.run_bind,aD8,run_store P w _ v _ (h1 v (by simp)),hc,hfz];simpa using e1
   ·rw[e3 c sQ];exact heap_setCell_other w _ c v sQ
   ·rw[e4];simp
   ·rw[e5];rfl
   ·rw[e6];rfl
def map2(f:Int→Int→Int):SI→SI→SI
 | .lit a,.lit b=>.lit (f a b)
 |a,b=>.sym (f a.val b.val)
def map2B(f:Int→Int→Bool):SI→SI→SB
 | .lit a,.lit b=>.lit (f a b)
 |a,b=>.sym (f a.val b.val)
@[simp] theorem map2_val(f:Int→Int→Int)(a b:SI):(map2 f a b).val=f a.val b.val:=by cases a<;>cases b<;>rfl
@[simp] theorem map2B_val (f:Int→Int→Bool) (a b:SI):(map2B f a b).val=f a.val b.val:=by cases a<;>cases b<;>rfl
def aI (k:IntKind) (x y:Int):Int:=k.wrap (BitVec.ofInt k.bits x&&& BitVec.ofInt k.bits y).toNat
def bn(k:IntKind)(x y:Int):Int:=k.wrap (BitVec.ofInt k.bits x|||BitVec.ofInt k.bits y).toNat
def cx(k:IntKind)(x y:Int):Int:=k.wrap (BitVec.ofInt k.bits x ^^^ BitVec.ofInt k.bits y).toNat
def c5(k:IntKind)(x y:Int):Int:=k.wrap (BitVec.ofInt k.bits x&&& ~~~BitVec.ofInt k.bits y).toNat
def shl(k:IntKind)(x y:Int):Int:=k.wrap (x*2 ^ (min y.toNat k.bits))
def shr(k:IntKind)(x y:Int):Int:=x.fdiv (2 ^ (min y.toNat k.bits))
def adZ(op:BinOp)(k:IntKind)(a:SI)(b:SI):Option (Option Prop×SV):=
 match op with
 | .add=>some (none,.int k (map2 (fun x y=>k.wrap (x+y)) a b))
 | .sub=>some (none,.int k (map2 (fun x y=>k.wrap (x-y)) a b))
 | .mul=>some (none,.int k (map2 (fun x y=>k.wrap (x*y)) a b))
 | .quo=>match b with
  | .lit y=>if y=0 then none else some (none,.int k (map2 (fun x y=>k.wrap (x.tdiv y)) a b))
  | .sym y=>some (some (y≠0),.int k (map2 (fun x y=>k.wrap (x.tdiv y)) a b))
 | .rem=>match b with
  | .lit y=>if y=0 then none else some (none,.int k (map2 (fun x y=>x.tmod y) a b))
  | .sym y=>some (some (y≠0),.int k (map2 (fun x y=>x.tmod y) a b))
 | .and=>some (none,.int k (map2 (aI k) a b))
 | .or=>some (none,.int k (map2 (bn k) a b))
 | .xor=>some (none,.int k (map2 (cx k) a b))
 | .andNot=>some (none,.int k (map2 (c5 k) a b))
 | .eql=>some (none,.bool (map2B (fun x y=>x==y) a b))
 | .neq=>some (none,.bool (map2B (fun x y=>x !=y) a b))
 | .lss=>some (none,.bool (map2B (fun x y=>decide (x<y)) a b))
 | .leq=>some (none,.bool (map2B (fun x y=>decide (x≤y)) a b))
 | .gtr=>some (none,.bool (map2B (fun x y=>decide (x>y)) a b))
 | .geq=>some (none,.bool (map2B (fun x y=>decide (x≥y)) a b))
 |_=>none
def tU(f:Int→Int→Int)(k:IntKind)(a b:SI):Option (Option Prop×SV):=
 match b with
 | .lit y=>if y<0 then none else some (none,.int k (map2 f a b))
 | .sym y=>some (some (0≤y),.int k (map2 f a b))
def ad0(P:Program)(op:BinOp)(t:TypeId):SV→SV→Option (Option Prop×SV)
 | .int k a,.int k' b=>
  match op with
  | .shl=>tU (shl k) k a b
  | .shr=>tU (shr k) k a b
  |_=>if k=k' then adZ op k a b else none
 | .bool a,.bool b=>
  match op,P.underlying t with
  | .eql,some .bool=>some (none,.bool (match a,b with| .lit x,.lit y=>.lit (x==y)|a,b=>.sym (a.val==b.val)))
  | .neq,some .bool=>some (none,.bool (match a,b with| .lit x,.lit y=>.lit (!(x==y))|a,b=>.sym (!(a.val==b.val))))
  |_,_=>none
 | .ptr _ _,.iM (.pointer none)=>
  match op,P.underlying t with
  | .eql,some (.pointer _)=>some (none,.bool (.lit false))
  | .neq,some (.pointer _)=>some (none,.bool (.lit true))
  |_,_=>none
 | .iM (.pointer none),.iM (.pointer none)=>
  match op,P.underlying t with
  | .eql,some (.pointer _)=>some (none,.bool (.lit true))
  | .neq,some (.pointer _)=>some (none,.bool (.lit false))
  |_,_=>none
 | .slice _ _ _ _,.iM (.slice none _ _)=>
  match op,P.underlying t with
  | .eql,some (.slice _)=>some (none,.bool (.lit false))
  | .neq,some (.slice _)=>some (none,.bool (.lit true))
  |_,_=>none
 | .iM (.slice none _ _),.iM (.slice none _ _)=>
  match op,P.underlying t with
  | .eql,some (.slice _)=>some (none,.bool (.lit true))
  | .neq,some (.slice _)=>some (none,.bool (.lit false))
  |_,_=>none
 |_,_=>none
def fo:Option Prop→Prop
 |none=>True
 |some p=>p
theorem dn{P:Program}{w:World}{op:BinOp}{t:TypeId}{x y:Operand}{a b:Value}
  (ha:∀c,a≠ .agg c) (hi:a≠ .nilIface):(eqGuard op t x y a b).run P w= .ok () w:=by
 unfold eqGuard
 cases op<;>first
  |rfl
  |(cases a<;>first
    |(exact absurd rfl (ha _))
    |(exact absurd rfl hi)
    |(cases b<;>rfl))
theorem iP{P:Program}{w:World}{t:TypeId}{x y:Value}{b:Bool}(h:∀d,(Op.equalIn (d+1) t x y).run P w= .ok b w):(Op.equal t x y).run P w= .ok b w:=h 9999
noncomputable section
variable {P:Program} {w:World} {t:TypeId}
theorem Vs{a b:Bool}(hu:P.underlying t=some .bool):(Op.equal t (.bool a) (.bool b)).run P w= .ok (a==b) w:=
 iP fun d=>by simp[Op.equalIn,run_underlying hu]
theorem AN{e:TypeId}{p:Addr}(hu:P.underlying t=some (.pointer e)):(Op.equal t (.pointer (some p)) (.pointer none)).run P w= .ok false w:=
 iP fun d=>by simp[Op.equalIn,run_underlying hu]
theorem AO{e:TypeId}(hu:P.underlying t=some (.pointer e)):(Op.equal t (.pointer none) (.pointer none)).run P w= .ok true w:=
 iP fun d=>by simp[Op.equalIn,run_underlying hu]
theorem kU{e:TypeId}{p:Addr}{l c l' c':Nat}(hu:P.underlying t=some (.slice e)):(Op.equal t (.slice (some p) l c) (.slice none l' c')).run P w= .ok false w:=
 iP fun d=>by simp[Op.equalIn,run_underlying hu]
theorem Vt{e:TypeId}{l c l' c':Nat}(hu:P.underlying t=some (.slice e)):(Op.equal t (.slice none l c) (.slice none l' c')).run P w= .ok true w:=
 iP fun d=>by simp[Op.equalIn,run_underlying hu]
theorem rh{x y:Value}{b:Bool}(hx:binOp .eql t x y=(do pure (.bool (← Op.equal t x y))))(h:(Op.equal t x y).run P w= .ok b w):(binOp .eql t x y).run P w= .ok (.bool b) w:=by
 rw[hx,Sem.run_bind,h];rfl
theorem rk{x y:Value}{b:Bool}(hx:binOp .neq t x y=(do pure (.bool (!(← Op.equal t x y)))))(h:(Op.equal t x y).run P w= .ok b w):(binOp .neq t x y).run P w= .ok (.bool (!b)) w:=by
 rw[hx,Sem.run_bind,h];rfl
end
theorem au3{P:Program}{w:World}{op:BinOp}{t:TypeId}{k:IntKind}{a b:SI}{β:Env}{L:Nat→Option Kd}{q:Option Prop}{s:SV}
  (h:adZ op k a b=some (q,s)) (hq:fo q):
  ∃v,(binOp op t (.int k a.val) (.int k b.val)).run P w= .ok v w∧s.den β L v:=by
 cases op<;>simp only[adZ]at h<;>try (simp at h;done)
 case quo=>
  cases b with
  |lit y=>simp only at h;split at h
          · simp at h
          · rename_i hy;simp at h;obtain⟨_,rfl⟩:=h;exact⟨_,by simp[binOp,Op.intDiv,SI.val,hy];rfl,by simp only[SV.den,map2_val];rfl⟩
  |sym y=>simp at h;obtain⟨rfl,rfl⟩:=h
          have hy:¬y=0:=hq;exact⟨_,by simp[binOp,Op.intDiv,SI.val,hy];rfl,by simp only[SV.den,map2_val];rfl⟩
 case rem=>
  cases b with
  |lit y=>simp only at h;split at h
          · simp at h
          · rename_i hy;simp at h;obtain⟨_,rfl⟩:=h;exact⟨_,by simp[binOp,Op.intDiv,SI.val,hy];rfl,by simp only[SV.den,map2_val];rfl⟩
  |sym y=>simp at h;obtain⟨rfl,rfl⟩:=h
          have hy:¬y=0:=hq;exact⟨_,by simp[binOp,Op.intDiv,SI.val,hy];rfl,by simp only[SV.den,map2_val];rfl⟩
 all_goals
  simp at h;obtain⟨_,rfl⟩:=h;exact⟨_,by simp[binOp,Op.intArith,Op.intBits,Op.intCmp];rfl,by simp[SV.den,aI,bn,cx,c5]⟩
theorem KK{P:Program}{w:World}{op:BinOp}{t:TypeId}{k k':IntKind}{a b:SI}{β:Env}{L:Nat→Option Kd}{q:Option Prop}{s:SV}{f:Int→Int→Int}
  (hop:(op= .shl∧f=shl k)∨(op= .shr∧f=shr k)) (h:tU f k a b=some (q,s)) (hq:fo q):
  ∃v,(binOp op t (.int k a.val) (.int k' b.val)).run P w= .ok v w∧s.den β L v:=by
 have key:0≤b.val→∃v,(binOp op t (.int k a.val) (.int k' b.val)).run P w= .ok v w∧(SV.int k (map2 f a b)).den β L v:=by
  intro hb;have gV:¬b.val<0:=by omega
  rcases hop with⟨rfl,rfl⟩|⟨rfl,rfl⟩
  ·exact⟨_,by simp[binOp,Op.shift,gV];rfl,by simp[SV.den,shl]⟩
  ·exact⟨_,by simp[binOp,Op.shift,gV];rfl,by simp[SV.den,shr]⟩
 cases b with
 |lit y=>
  simp only[tU]at h
  split at h
  ·simp at h
  ·simp at h;obtain⟨_,rfl⟩:=h;exact key (by simp only[SI.val];omega)
 |sym y=>
  simp only[tU]at h;simp at h;obtain⟨rfl,rfl⟩:=h;exact key hq
theorem au4{P:Program}{w:World}{op:BinOp}{t:TypeId}{ox oy:Operand}{x y:SV}{xv yv:Value}{β:Env}{L:Nat→Option Kd}{q:Option Prop}{s:SV}
  (h:ad0 P op t x y=some (q,s)) (hq:fo q) (hx:x.den β L xv) (hy:y.den β L yv):
  ∃v,(do eqGuard op t ox oy xv yv;binOp op t xv yv:Sem Value).run P w= .ok v w∧s.den β L v:=by
 unfold ad0 at h
 split at h
 ·
  rename_i k a k' b;simp only[SV.den]at hx hy;subst hx hy;simp only[Sem.run_bind,dn (P:=P) (w:=w) (op:=op) (t:=t) (x:=ox) (y:=oy) (a:=.int k a.val) (b:=.int k' b.val) (by simp) (by simp),Result.andThen_ok]
  split at h
  ·exact KK (.inl ⟨rfl,rfl⟩) h hq
  ·exact KK (.inr ⟨rfl,rfl⟩) h hq
  ·split at h
   ·rename_i hk;subst hk;exact au3 h hq
   ·simp at h
 ·rename_i a b;simp only[SV.den]at hx hy;subst hx hy;simp only[Sem.run_bind,dn (P:=P) (w:=w) (op:=op) (t:=t) (x:=ox) (y:=oy) (a:=.bool a.val) (b:=.bool b.val) (by simp) (by simp),Result.andThen_ok]
  split at h
  ·rename_i hu;simp at h;obtain⟨_,rfl⟩:=h;exact⟨.bool (a.val==b.val),rh rfl (Vs hu),by cases a<;>cases b<;>rfl⟩
  ·rename_i hu;simp at h;obtain⟨_,rfl⟩:=h;exact⟨.bool (!(a.val==b.val)),rk rfl (Vs hu),by cases a<;>cases b<;>rfl⟩
  ·simp at h
 ·rename_i b o;simp only[SV.den]at hx hy;obtain⟨_,rfl⟩:=hx;obtain⟨_,rfl⟩:=hy;simp only[Sem.run_bind,dn (P:=P) (w:=w) (op:=op) (t:=t) (x:=ox) (y:=oy) (a:=.pointer (some ⟨β b,o,none⟩)) (b:=.pointer none) (by simp) (by simp),Result.andThen_ok]
  split at h
  ·rename_i hu;simp at h;obtain⟨_,rfl⟩:=h;exact⟨.bool false,rh rfl (AN hu),rfl⟩
  ·rename_i hu;simp at h;obtain⟨_,rfl⟩:=h;exact⟨.bool true,rk rfl (AN hu),rfl⟩
  ·simp at h
 ·simp only[SV.den]at hx hy;obtain⟨_,rfl⟩:=hx;obtain⟨_,rfl⟩:=hy;simp only[Sem.run_bind,dn (P:=P) (w:=w) (op:=op) (t:=t) (x:=ox) (y:=oy) (a:=.pointer none) (b:=.pointer none) (by simp) (by simp),Result.andThen_ok]
  split at h
  ·rename_i hu;simp at h;obtain⟨_,rfl⟩:=h;exact⟨.bool true,rh rfl (AO hu),rfl⟩
  ·rename_i hu;simp at h;obtain⟨_,rfl⟩:=h;exact⟨.bool false,rk rfl (AO hu),rfl⟩
  ·simp at h
 ·rename_i b o l c l' c';simp only[SV.den]at hx hy;obtain⟨_,rfl⟩:=hx;obtain⟨_,rfl⟩:=hy;simp only[Sem.run_bind,dn (P:=P) (w:=w) (op:=op) (t:=t) (x:=ox) (y:=oy) (a:=.slice (some ⟨β b,o,none⟩) l c) (b:=.slice none l' c') (by simp) (by simp),Result.andThen_ok]
  split at h
  ·rename_i hu;simp at h;obtain⟨_,rfl⟩:=h;exact⟨.bool false,rh rfl (kU hu),rfl⟩
  ·rename_i hu;simp at h;obtain⟨_,rfl⟩:=h;exact⟨.bool true,rk rfl (kU hu),rfl⟩
  ·simp at h
 ·rename_i l c l' c';simp only[SV.den]at hx hy;obtain⟨_,rfl⟩:=hx;obtain⟨_,rfl⟩:=hy;simp only[Sem.run_bind,dn (P:=P) (w:=w) (op:=op) (t:=t) (x:=ox) (y:=oy) (a:=.slice none l c) (b:=.slice none l' c') (by simp) (by simp),Result.andThen_ok]
  split at h
  ·rename_i hu;simp at h;obtain⟨_,rfl⟩:=h;exact⟨.bool true,rh rfl (Vt hu),rfl⟩
  ·rename_i hu;simp at h;obtain⟨_,rfl⟩:=h;exact⟨.bool false,rk rfl (Vt hu),rfl⟩
  ·simp at h
 ·simp at h
def cV(l m:List Int):Bool:=(strOf l).toList==(strOf m).toList
def pP:SV→Option (List Int)
 | .str l=>some l
 | .iM (.string s)=>some (ma s)
 |_=>none
theorem jC{β:Env}{L:Nat→Option Kd}{s:SV}{l:List Int}{v:Value}(h:pP s=some l)(hd:s.den β L v):v= .string (strOf l):=by
 unfold pP at h;split at h
 ·simp at h;subst h;exact hd
 ·simp at h;subst h;obtain⟨_,rfl⟩:=hd;rw[fX]
 ·cases h
def asg(op:BinOp)(l m:List Int):Option SV:=
 match op with
 | .eql=>some (.bool (.sym (cV l m)))
 | .neq=>some (.bool (.sym (!cV l m)))
 |_=>none
structure JC where
 aW:Nat→Bool
 own:Nat→Option (Nat×Nat×Nat)
 nl:Nat→Bool
 nr:Nat→Bool
def tV(b:Bool)(J:JC):SV→SV→Option SV
 | .arr t n l,.arr t' n' l'=>if h:t'=t then(if n=n' then some (.arr t n (bif b then l else h▸l'))else none)else none
 |_,_=>none
def ES(b:Bool)(J:JC):SV→SV→SV
 | .int k x,.int k' y=>if k=k' then
   match x,y with
   | .lit x,.lit y=>if x=y then .int k (.lit x)else .int k (.sym (bif b then x else y))
   |x,y=>.int k (.sym (bif b then x.val else y.val))
  else .bd
 | .bool x,.bool y=>match x,y with
  | .lit x,.lit y=>if x=y then .bool (.lit x)else .bool (.sym (bif b then x else y))
  |x,y=>.bool (.sym (bif b then x.val else y.val))
 | .xb x,.xb y=>.xb (bif b then x else y)
 | .str x,.str y=>.str (bif b then x else y)
 | .str x,.iM (.string y)=>.str (bif b then x else ma y)
 | .iM (.string x),.str y=>.str (bif b then ma x else y)
 | .iM (.string x),.iM (.string y)=>if x.data=y.data then .iM (.string x)else .str (bif b then ma x else ma y)
 | .ptr i o,.ptr i' o'=>if i=i'∧o=o'∧J.aW i=true then .ptr i o else .bd
 | .slice i o l c,.slice i' o' l' c'=>if i=i'∧o=o'∧l=l'∧c=c'∧J.aW i=true then .slice i o l c else .bd
 | .iM (.pointer none),.iM (.pointer none)=>.iM (.pointer none)
 | .iM (.slice none l c),.iM (.slice none l' c')=>if l=l'∧c=c' then .iM (.slice none l c)else .bd
 | .iM .nilIface,.iM .nilIface=>.iM .nilIface
 | .iM .nilFunc,.iM .nilFunc=>.iM .nilFunc
 | .rd pm nn t l,.rd lW nn' t' l'=>if h:t'=t then .rd (pm&&lW) (nn&&nn') t (bif b then l else h▸l')else .bd
 | .rd pm _ t l,.iM (.slice none 0 0)=>.rd pm false t (bif b then l else [])
 | .iM (.slice none 0 0),.rd pm _ t l=>.rd pm false t (bif b then []else l)
 | .sl i v,.sl i' v'=>if i=i' then match J.own i with
   |some (vx,vy,vz)=>if v=vx∧v'=vy then .sl i vz else .bd
   |none=>.bd
  else .bd
 | .iM (.slice none 0 0),.sl i v=>match J.own i with
   |some (_,vy,vz)=>if J.nl i=true∧v=vy then .sl i vz else .bd
   |none=>.bd
 | .sl i v,.iM (.slice none 0 0)=>match J.own i with
   |some (vx,_,vz)=>if J.nr i=true∧v=vx then .sl i vz else .bd
   |none=>.bd
 | .vw i v w z n,.vw i' v' w' z' n'=>if i=i'∧w=w' then match J.own i with
   |some (vx,vy,vz)=>if v=vx∧v'=vy then .vw i vz w (bif b then z else z') (bif b then n else n')else .bd
   |none=>.bd
  else .bd
 | .vb i o t m z n,.vb i' o' t' m' z' n'=>if i=i'∧o=o'∧t=t'∧m=m'∧J.aW i=true then .vb i o t m (bif b then z else z') (bif b then n else n')else .bd
 |_,_=>.bd
def fq(b:Bool)(J:JC):List SV→List SV→Option (List SV)
 | [],[]=>some []
 |x::l,y::r=>match x,y with
  | .arr t n a,y=>match tV b J (.arr t n a) y with
   |some z=>(fq b J l r).map (z:: ·)
   |none=>none
  |_,.arr _ _ _=>none
  |x,y=>(fq b J l r).map (ES b J x y:: ·)
 |_,_=>none
def ET(b:Bool)(J:JC):VV→VV→Option VV
 | .sc x,.sc y=>some (.sc (ES b J x y))
 | .agg l,.agg r=>(fq b J l r).map .agg
 |_,_=>none
def o9(b:Bool)(J:JC):List VV→List VV→Option (List VV)
 | [],[]=>some []
 |x::l,y::r=>match ET b J x y,o9 b J l r with
  |some z,some m=>some (z::m)
  |_,_=>none
 |_,_=>none
def KL(b:Bool)(J:JC):LV→LV→LV
 | .one x,.one y=>match ET b J x y with
  |some z=>.one z
  |none=>.bd
 | .cj l,.cj r=>match o9 b J l r with
  |some z=>.cj z
  |none=>.bd
 |_,_=>.bd
structure KM (J:JC) (β:Env) (L₁ L:Nat→Option Kd):Prop where
 aW:∀i,J.aW i=true→L₁ i=some .aW→L i=some .aW
 own:∀i x y z,J.own i=some (x,y,z)→L₁ i=some (.own x)∧L i=some (.own z)
 nil:∀i,J.nl i=true→β.h i= .slice none 0 0
structure AP (J:JC) (β:Env) (L₁ L:Nat→Option Kd):Prop where
 aW:∀i,J.aW i=true→L₁ i=some .aW→L i=some .aW
 own:∀i x y z,J.own i=some (x,y,z)→L₁ i=some (.own y)∧L i=some (.own z)
 nil:∀i,J.nr i=true→β.h i= .slice none 0 0
theorem AQ{J:JC}{β:Env}{L₁ L:Nat→Option Kd}(hJ:KM J β L₁ L){x y:SV}{v:Value}(h:x.den β L₁ v):(ES true J x y).den β L v:=by
 have h1:=SV.bw h;unfold ES
 split
 ·split
  ·rename_i hk;subst hk
   split
   ·split<;>exact h
   ·exact h
  ·exact h1
 ·split
  ·split<;>exact h
  ·exact h
 ·exact h
 ·exact h
 ·exact h
 ·obtain⟨_,rfl⟩:=h;simp only[SV.den,cond_true,fX]
 ·obtain⟨_,rfl⟩:=h
  split
  ·exact⟨rfl,rfl⟩
  ·simp only[SV.den,cond_true,fX]
 ·split
  ·rename_i e;exact⟨hJ.aW _ e.2.2 h.1,h.2⟩
  ·exact h1
 ·split
  ·rename_i e;exact⟨hJ.aW _ e.2.2.2.2 h.1,h.2⟩
  ·exact h1
 ·exact h
 ·split
  ·exact h
  ·exact h1
 ·exact h
 ·exact h
 ·split
  ·rename_i e;subst e;obtain⟨k1,k2,k3⟩:=h;refine⟨k1,fun hn=>k2 (by simp at hn;exact hn.1),?_⟩;rcases k3 with k|⟨rfl,k⟩|k
   ·exact .inl k
   ·exact .inr (.inl ⟨rfl,k⟩)
   ·exact .inr (.inr k)
  ·exact h1
 ·obtain⟨k1,k2,k3⟩:=h;exact⟨k1,fun hn=>(by cases hn),k3⟩
 ·obtain⟨_,rfl⟩:=h;exact⟨rfl,fun hn=>(by cases hn),.inr (.inr ⟨rfl,rfl⟩)⟩
 ·split
  ·rename_i e;subst e
   split
   ·rename_i vx vy vz ho
    split
    ·rename_i e;obtain⟨rfl,rfl⟩:=e;obtain⟨k1,c,k2,k3,k4⟩:=h;obtain⟨m1,m2⟩:=hJ.own _ _ _ _ ho;rw[m1]at k2;simp at k2;exact⟨k1,vz,m2,Nat.le_refl _,fun _=>k4 k2⟩
    ·exact h1
   ·exact h1
  ·exact h1
 ·split
  ·rename_i vx vy vz ho
   split
   ·rename_i e;obtain⟨m1,m2⟩:=hJ.own _ _ _ _ ho;obtain⟨_,rfl⟩:=h;exact⟨rfl,vz,m2,Nat.le_refl _,fun _=>(hJ.nil _ e.1).symm⟩
   ·exact h1
  ·exact h1
 ·split
  ·rename_i vx vy vz ho
   split
   ·rename_i e;obtain⟨_,rfl⟩:=e;obtain⟨k1,c,k2,k3,k4⟩:=h;obtain⟨m1,m2⟩:=hJ.own _ _ _ _ ho;rw[m1]at k2;simp at k2;exact⟨k1,vz,m2,Nat.le_refl _,fun _=>k4 k2⟩
   ·exact h1
  ·exact h1
 ·split
  ·rename_i e;obtain⟨rfl,rfl⟩:=e
   split
   ·rename_i vx vy vz ho
    split
    ·rename_i e;obtain⟨rfl,rfl⟩:=e;obtain⟨k1,c,k2,k3,k4⟩:=h;obtain⟨m1,m2⟩:=hJ.own _ _ _ _ ho;rw[m1]at k2;simp at k2;exact⟨k1,vz,m2,Nat.le_refl _,fun _=>k4 k2⟩
    ·exact h1
   ·exact h1
  ·exact h1
 ·split
  ·rename_i e;obtain⟨k1,k2⟩:=h;exact⟨hJ.aW _ e.2.2.2.2 k1,k2⟩
  ·exact h1
 ·exact h1
theorem yI{J:JC}{β:Env}{L₁ L:Nat→Option Kd}(hJ:AP J β L₁ L){x y:SV}{v:Value}(h:y.den β L₁ v):(ES false J x y).den β L v:=by
 have h1:=SV.bw h;unfold ES
 split
 ·split
  ·rename_i hk;subst hk
   split
   ·split
    ·rename_i e;subst e;exact h
    ·exact h
   ·exact h
  ·exact h1
 ·split
  ·split
   ·rename_i e;subst e;exact h
   ·exact h
  ·exact h
 ·exact h
 ·exact h
 ·obtain⟨_,rfl⟩:=h;simp only[SV.den,cond_false,fX]
 ·exact h
 ·obtain⟨_,rfl⟩:=h
  split
  ·rename_i e;exact⟨rfl,by congr 1;exact congrArg ByteArray.mk e.symm⟩
  ·simp only[SV.den,cond_false,fX]
 ·split
  ·rename_i e;obtain⟨rfl,rfl,e⟩:=e;exact⟨hJ.aW _ e h.1,h.2⟩
  ·exact h1
 ·split
  ·rename_i e;obtain⟨rfl,rfl,rfl,rfl,e⟩:=e;exact⟨hJ.aW _ e h.1,h.2⟩
  ·exact h1
 ·exact h
 ·split
  ·rename_i e;obtain⟨rfl,rfl⟩:=e;exact h
  ·exact h1
 ·exact h
 ·exact h
 ·split
  ·rename_i e;subst e;obtain⟨k1,k2,k3⟩:=h;refine⟨k1,fun hn=>k2 (by simp at hn;exact hn.2),?_⟩;rcases k3 with k|⟨rfl,k⟩|k
   ·exact .inl k
   ·exact .inr (.inl ⟨by simp,k⟩)
   ·exact .inr (.inr k)
  ·exact h1
 ·obtain⟨_,rfl⟩:=h;exact⟨rfl,fun hn=>(by cases hn),.inr (.inr ⟨rfl,rfl⟩)⟩
 ·obtain⟨k1,k2,k3⟩:=h;exact⟨k1,fun hn=>(by cases hn),k3⟩
 ·split
  ·rename_i e;subst e
   split
   ·rename_i vx vy vz ho
    split
    ·rename_i e;obtain⟨rfl,rfl⟩:=e;obtain⟨k1,c,k2,k3,k4⟩:=h;obtain⟨m1,m2⟩:=hJ.own _ _ _ _ ho;rw[m1]at k2;simp at k2;exact⟨k1,vz,m2,Nat.le_refl _,fun _=>k4 k2⟩
    ·exact h1
   ·exact h1
  ·exact h1
 ·split
  ·rename_i vx vy vz ho
   split
   ·rename_i e;obtain⟨_,rfl⟩:=e;obtain⟨k1,c,k2,k3,k4⟩:=h;obtain⟨m1,m2⟩:=hJ.own _ _ _ _ ho;rw[m1]at k2;simp at k2;exact⟨k1,vz,m2,Nat.le_refl _,fun _=>k4 k2⟩
   ·exact h1
  ·exact h1
 ·split
  ·rename_i vx vy vz ho
   split
   ·rename_i e;obtain⟨m1,m2⟩:=hJ.own _ _ _ _ ho;obtain⟨_,rfl⟩:=h;exact⟨rfl,vz,m2,Nat.le_refl _,fun _=>(hJ.nil _ e.1).symm⟩
   ·exact h1
  ·exact h1
 ·split
  ·rename_i e;obtain⟨rfl,rfl⟩:=e
   split
   ·rename_i vx vy vz ho
    split
    ·rename_i e;obtain⟨rfl,rfl⟩:=e;obtain⟨k1,c,k2,k3,k4⟩:=h;obtain⟨m1,m2⟩:=hJ.own _ _ _ _ ho;rw[m1]at k2;simp at k2;exact⟨k1,vz,m2,Nat.le_refl _,fun _=>k4 k2⟩
    ·exact h1
   ·exact h1
  ·exact h1
 ·split
  ·rename_i e;obtain⟨rfl,rfl,rfl,rfl,e⟩:=e;obtain⟨k1,k2⟩:=h;exact⟨hJ.aW _ e k1,k2⟩
  ·exact h1
 ·exact h1
theorem Gw{J:JC}{β:Env}{L₁ L:Nat→Option Kd}{x y z:SV}{vs:List Value}(hz:tV true J x y=some z)(h:x.j6 β L₁ vs):z.j6 β L vs:=by
 unfold tV at hz;split at hz
 ·split at hz
  ·split at hz
   ·simp at hz;subst hz;exact h
   ·cases hz
  ·cases hz
 ·cases hz
theorem Ej{J:JC}{β:Env}{L₁ L:Nat→Option Kd}{x y z:SV}{vs:List Value}(hz:tV false J x y=some z)(h:y.j6 β L₁ vs):z.j6 β L vs:=by
 unfold tV at hz;split at hz
 ·split at hz
  ·rename_i e;subst e
   split at hz
   ·rename_i e;subst e;simp at hz;subst hz;exact h
   ·cases hz
  ·cases hz
 ·cases hz
theorem sR{J:JC}{β:Env}{L₁ L:Nat→Option Kd}(hJ:KM J β L₁ L):∀ {l r z:List SV} {cs:List Value},fq true J l r=some z→bf β L₁ l cs→bf β L z cs
 | [],[],z,cs,h,hd=>by simp[fq]at h;subst h;cases hd;exact .nil
 |x::l,y::r,z,cs,h,hd=>by
  simp only[fq]at h
  cases hd with
  |cons h1 h2=>
   split at h
   ·split at h
    ·rename_i z' hz;obtain⟨z'',PL,rfl⟩:=Option.map_eq_some_iff.1 h;exact .cons (Gw hz h1) (sR hJ PL h2)
    ·cases h
   ·cases h
   ·rename_i hx hy;obtain⟨z'',PL,rfl⟩:=Option.map_eq_some_iff.1 h;obtain⟨v,rfl,h3⟩:=SV.jy h1 (fun t n l e=>hx t n l e);exact bf.nb (AQ hJ h3) (sR hJ PL h2)
 | [],_::_,_,_,h,_=>by simp[fq]at h
 |_::_,[],_,_,h,_=>by simp[fq]at h
theorem pQ{J:JC}{β:Env}{L₁ L:Nat→Option Kd}(hJ:AP J β L₁ L):∀ {l r z:List SV} {cs:List Value},fq false J l r=some z→bf β L₁ r cs→bf β L z cs
 | [],[],z,cs,h,hd=>by simp[fq]at h;subst h;cases hd;exact .nil
 |x::l,y::r,z,cs,h,hd=>by
  simp only[fq]at h
  cases hd with
  |cons h1 h2=>
   split at h
   ·split at h
    ·rename_i z' hz;obtain⟨z'',PL,rfl⟩:=Option.map_eq_some_iff.1 h;exact .cons (Ej hz h1) (pQ hJ PL h2)
    ·cases h
   ·cases h
   ·rename_i hx hy;obtain⟨z'',PL,rfl⟩:=Option.map_eq_some_iff.1 h;obtain⟨v,rfl,h3⟩:=SV.jy h1 (fun t n l e=>hy t n l e);exact bf.nb (yI hJ h3) (pQ hJ PL h2)
 | [],_::_,_,_,h,_=>by simp[fq]at h
 |_::_,[],_,_,h,_=>by simp[fq]at h
theorem AR{J:JC}{β:Env}{L₁ L:Nat→Option Kd}(hJ:KM J β L₁ L){x y z:VV}{v:Value}(hz:ET true J x y=some z)(h:x.den β L₁ v):z.den β L v:=by
 unfold ET at hz
 split at hz
 ·simp at hz;subst hz;exact AQ (L₁:=L₁) hJ h
 ·obtain⟨z',PL,rfl⟩:=Option.map_eq_some_iff.1 hz;obtain⟨cs,rfl,hd⟩:=h;exact⟨cs,rfl,sR hJ PL hd⟩
 ·simp at hz
theorem AS{J:JC}{β:Env}{L₁ L:Nat→Option Kd}(hJ:KM J β L₁ L):∀ {l r z:List VV} {cs:List Value},o9 true J l r=some z→bM (VV.den β L₁) l cs→bM (VV.den β L) z cs
 | [],[],z,cs,h,hd=>by simp[o9]at h;subst h;cases hd;exact .nil
 |x::l,y::r,z,cs,h,hd=>by
  simp only[o9]at h
  split at h
  ·rename_i z' m h1 h2;simp at h;subst h
   cases hd with
   |cons h3 h4=>exact .cons (AR hJ h1 h3) (AS hJ h2 h4)
  ·simp at h
 | [],_::_,_,_,h,_=>by simp[o9]at h
 |_::_,[],_,_,h,_=>by simp[o9]at h
theorem PM{J:JC}{β:Env}{L₁ L:Nat→Option Kd}(hJ:KM J β L₁ L){x y:LV}{v:Value}(h:x.den β L₁ v):(KL true J x y).den β L v:=by
 unfold KL
 split
 ·split
  ·rename_i z hz;exact AR hJ hz h
  ·trivial
 ·split
  ·rename_i z hz;obtain⟨cs,rfl,hd⟩:=h;exact⟨cs,rfl,AS hJ hz hd⟩
  ·trivial
 ·trivial
theorem yJ{J:JC}{β:Env}{L₁ L:Nat→Option Kd}(hJ:AP J β L₁ L){x y z:VV}{v:Value}(hz:ET false J x y=some z)(h:y.den β L₁ v):z.den β L v:=by
 unfold ET at hz
 split at hz
 ·simp at hz;subst hz;exact yI (L₁:=L₁) hJ h
 ·obtain⟨z',PL,rfl⟩:=Option.map_eq_some_iff.1 hz;obtain⟨cs,rfl,hd⟩:=h;exact⟨cs,rfl,pQ hJ PL hd⟩
 ·simp at hz
theorem yK{J:JC}{β:Env}{L₁ L:Nat→Option Kd}(hJ:AP J β L₁ L):∀ {l r z:List VV} {cs:List Value},o9 false J l r=some z→bM (VV.den β L₁) r cs→bM (VV.den β L) z cs
 | [],[],z,cs,h,hd=>by simp[o9]at h;subst h;cases hd;exact .nil
 |x::l,y::r,z,cs,h,hd=>by
  simp only[o9]at h
  split at h
  ·rename_i z' m h1 h2;simp at h;subst h
   cases hd with
   |cons h3 h4=>exact .cons (yJ hJ h1 h3) (yK hJ h2 h4)
  ·simp at h
 | [],_::_,_,_,h,_=>by simp[o9]at h
 |_::_,[],_,_,h,_=>by simp[o9]at h
theorem KN{J:JC}{β:Env}{L₁ L:Nat→Option Kd}(hJ:AP J β L₁ L){x y:LV}{v:Value}(h:y.den β L₁ v):(KL false J x y).den β L v:=by
 unfold KL
 split
 ·split
  ·rename_i z hz;exact yJ hJ hz h
  ·trivial
 ·split
  ·rename_i z hz;obtain⟨cs,rfl,hd⟩:=h;exact⟨cs,rfl,yK hJ hz hd⟩
  ·trivial
 ·trivial
end Go.Ev
end
