/- What the laws lean on, part 1: a reader of code, plain facts, and what each function gives; no conditions. -/
import Derived.Tactics
import Derived.Laws.World
import Derived.Laws.Rows
import Derived.Laws.Cells
import Derived.Laws.Small
import Derived.Laws.StructEq
import Derived.ChangeKeysEq
section
set_option linter.unusedVariables false
set_option linter.unusedSimpArgs false
namespace Go.Ev
open Go
inductive bB {α β:Type} (R:α→β→Prop):List α→List β→Prop where
 |nil:bB R [] []
 |cons {a b l m} (h:R a b) (t:bB R l m):bB R (a::l) (b::m)
section
variable {α β:Type} {R S:α→β→Prop}
theorem bB.length {l:List α} {m:List β} (h:bB R l m):l.length=m.length:=by
 induction h with
 |nil=>rfl
 |cons _ _ ih=>simp[ih]
theorem bB.imp {l:List α} {m:List β} (h:bB R l m) (f: ∀ a b,R a b→S a b):bB S l m:=by
 induction h with
 |nil=>exact .nil
 |cons h _ ih=>exact .cons (f _ _ h) ih
theorem bB.imp_mem {l:List α} {m:List β} (h:bB R l m) (f: ∀ a b,a∈l→R a b→S a b):bB S l m:=by
 induction h with
 |nil=>exact .nil
 |cons h _ ih=>exact .cons (f _ _ (by simp) h) (ih fun a b ha=>f a b (by simp[ha]))
theorem bB.get {l:List α} {m:List β} (h:bB R l m): ∀ {i:Nat} {a:α},l[i]? =some a→ ∃ b,m[i]? =some b∧R a b:=by
 induction h with
 |nil=>intro i a h;simp at h
 |cons h _ ih=>
  intro i a hi
  cases i with
  |zero=>simp at hi;subst hi;exact ⟨_,by simp,h⟩
  |succ i=>simp at hi;obtain ⟨b,hb,hr⟩:=ih hi;exact ⟨b,by simpa using hb,hr⟩
theorem bB.set {l:List α} {m:List β} (h:bB R l m): ∀ (i:Nat) {a:α} {b:β},R a b→bB R (l.set i a) (m.set i b):=by
 induction h with
 |nil=>intro i a b _;exact .nil
 |cons h t ih=>
  intro i a b hr
  cases i with
  |zero=>exact .cons hr t
  |succ i=>exact .cons h (ih i hr)
theorem bB.append {l l':List α} {m m':List β} (h:bB R l m) (h':bB R l' m'):bB R (l++l') (m++m'):=by
 induction h with
 |nil=>exact h'
 |cons h _ ih=>exact .cons h ih
theorem bB.of_map {γ:Type} (f:γ→α) (g:γ→β) (l:List γ) (h: ∀ x∈l,R (f x) (g x)):bB R (l.map f) (l.map g):=by
 induction l with
 |nil=>exact .nil
 |cons x l ih=>exact .cons (h x (by simp)) (ih fun y hy=>h y (by simp[hy]))
theorem bB.xW {γ:Type} {T:γ→β→Prop} {f:α→γ} {l:List α} {m:List β} (h:bB R l m) (hf: ∀ a b,R a b→T (f a) b):bB T (l.map f) m:=by
 induction h with
 |nil=>exact .nil
 |cons h _ ih=>exact .cons (hf _ _ h) ih
end
inductive aO {α:Type} (R:α→List Value→Prop):List α→List Value→Prop where
 |nil:aO R [] []
 |cons {x l vs ws} (h:R x vs) (t:aO R l ws):aO R (x::l) (vs++ws)
section
variable {α:Type} {R S:α→List Value→Prop}
theorem aO.imp_mem {l:List α} {vs:List Value} (h:aO R l vs) (f: ∀ x vs,x∈l→R x vs→S x vs):aO S l vs:=by
 induction h with
 |nil=>exact .nil
 |cons h _ ih=>exact .cons (f _ _ (by simp) h) (ih fun x vs hx=>f x vs (by simp[hx]))
theorem aO.imp {l:List α} {vs:List Value} (h:aO R l vs) (f: ∀ x vs,R x vs→S x vs):aO S l vs:=h.imp_mem fun x vs _=>f x vs
theorem aO.append {l m:List α} {vs ws:List Value} (h:aO R l vs) (h':aO R m ws):aO R (l++m) (vs++ws):=by
 induction h with
 |nil=>exact h'
 |cons h _ ih=>rw[List.cons_append,List.append_assoc];exact .cons h ih
theorem aO.one {x:α} {vs:List Value} (h:R x vs):aO R [x] vs:=by have:=aO.cons h .nil;simpa using this
theorem aO.jc {x:α} {vs:List Value} (h:aO R [x] vs):R x vs:=by
 cases h with
 |cons h t=>cases t;simpa using h
theorem aO.split: ∀ {l m:List α} {vs:List Value},aO R (l++m) vs→ ∃ v1 v2,vs=v1++v2∧aO R l v1∧aO R m v2
 | [],m,vs,h=>⟨[],vs,rfl,.nil,h⟩
 |x::l,m,_,.cons (vs:=vs) h t=>by
  obtain ⟨v1,v2,rfl,h1,h2⟩:=aO.split t
  exact ⟨vs++v1,v2,by simp,.cons h h1,h2⟩
theorem aO.length {k:Nat} (hk: ∀ x vs,R x vs→vs.length=k) {l:List α} {vs:List Value} (h:aO R l vs):vs.length=l.length*k:=by
 induction h with
 |nil=>simp
 |cons h _ ih=>rw[List.length_append,hk _ _ h,ih,List.length_cons,Nat.succ_mul];omega
theorem aO.get {l:List α} {vs:List Value} (h:aO R l vs) {i:Nat} {x:α} (hi:l[i]? =some x):
  ∃ a u b,vs=a++(u++b)∧R x u∧aO R (l.take i) a∧aO R (l.drop (i+1)) b:=by
 have hl:i<l.length:=(List.getElem?_eq_some_iff.1 hi).1
 have hx:l[i]=x:=(List.getElem?_eq_some_iff.1 hi).2
 have e:l=l.take i++(x::l.drop (i+1)):=by rw[← hx,List.getElem_cons_drop,List.take_append_drop]
 rw[e] at h
 obtain ⟨v1,v2,rfl,h1,h2⟩:=aO.split h
 cases h2 with
 |cons h3 h4=>exact ⟨v1,_,_,rfl,h3,h1,h4⟩
theorem aO.J0 {l:List α} {i:Nat} {x:α} (hi:i<l.length) {a u b:List Value} (h:R x u) (ha:aO R (l.take i) a) (hb:aO R (l.drop (i+1)) b):aO R (l.set i x) (a++(u++b)):=by
 rw[List.set_eq_take_append_cons_drop,if_pos hi]
 exact ha.append (.cons h hb)
end
inductive Ty where
 |int (k:IntKind)
 |bool
 |uK
 |str
 |sl (t:Ty)
 |pair (a b:Ty)
 |arr (t:Ty) (n:Nat)
 deriving DecidableEq
@[reducible] def Ty.D:Ty→Type
 | .int _=>Int
 | .bool=>Bool
 | .uK=>Nat
 | .str=>List Int
 | .sl t=>List t.D
 | .pair a b=>a.D×b.D
 | .arr t _=>List t.D
def Ty.z:(t:Ty)→t.D
 | .int _=>(0:Int)
 | .bool=>false
 | .uK=>(0:Nat)
 | .str=>([]:List Int)
 | .sl _=> []
 | .pair a b=>(a.z,b.z)
 | .arr t n=>List.replicate n t.z
def Ty.w:Ty→Nat
 | .int _| .bool| .uK| .str| .sl _=>1
 | .pair a b=>a.w+b.w
 | .arr t n=>n*t.w
def strOf (l:List Int):ByteArray:=⟨(l.map fun n=>UInt8.ofNat n.toNat).toArray⟩
structure Env where
 b:Nat→Nat
 h:Nat→Value
 rd:Bool→Value→(t:Ty)→List t.D→Prop
instance:CoeFun Env (fun _=>Nat→Nat):=⟨Env.b⟩
def wU (β:Env) (pm:Bool) (v:Value) (t:Ty) (l:List t.D):Prop:=β.rd true v t l∨(pm=false∧β.rd false v t l)∨(v= .slice none 0 0∧l= [])
def Ty.has (β:Env) (pm:Bool):(t:Ty)→t.D→List Value→Prop
 | .int k,n,vs=>vs= [.int k n]
 | .bool,b,vs=>vs= [.bool b]
 | .uK,n,vs=>vs= [.float .f64 n]
 | .str,l,vs=>vs= [.string (strOf l)]
 | .sl t,l,vs=> ∃ v,vs= [v]∧v.oneCell'=true∧wU β pm v t l
 | .pair a b,x,vs=> ∃ u w,vs=u++w∧a.has β pm x.1 u∧b.has β pm x.2 w
 | .arr t n,l,vs=>l.length=n∧aO (t.has β pm) l vs
theorem Ty.ez {β:Env} {pm:Bool}: ∀ (t:Ty) {x:t.D} {vs:List Value},t.has β pm x vs→vs.length=t.w
 | .int _,_,_,h=>by simp only[Ty.has] at h;subst h;rfl
 | .bool,_,_,h=>by simp only[Ty.has] at h;subst h;rfl
 | .uK,_,_,h=>by simp only[Ty.has] at h;subst h;rfl
 | .str,_,_,h=>by simp only[Ty.has] at h;subst h;rfl
 | .sl _,_,_,h=>by simp only[Ty.has] at h;obtain ⟨v,rfl,_⟩:=h;rfl
 | .pair a b,_,_,h=>by
  simp only[Ty.has] at h;obtain ⟨u,w,rfl,h1,h2⟩:=h
  simp[Ty.w,a.ez h1,b.ez h2]
 | .arr t n,_,_,h=>by
  simp only[Ty.has] at h;obtain ⟨h1,h2⟩:=h
  rw[h2.length fun _ _=>t.ez,h1];rfl
theorem Ty.rq {β:Env} {pm:Bool}: ∀ (t:Ty) {x:t.D} {vs:List Value},t.has β pm x vs→ ∀ v∈vs,v.oneCell'=true
 | .int _,_,_,h=>by simp only[Ty.has] at h;subst h;simp[Value.oneCell']
 | .bool,_,_,h=>by simp only[Ty.has] at h;subst h;simp[Value.oneCell']
 | .uK,_,_,h=>by simp only[Ty.has] at h;subst h;simp[Value.oneCell']
 | .str,_,_,h=>by simp only[Ty.has] at h;subst h;simp[Value.oneCell']
 | .sl _,_,_,h=>by simp only[Ty.has] at h;obtain ⟨v,rfl,h,_⟩:=h;simpa using h
 | .pair a b,_,_,h=>by
  simp only[Ty.has] at h;obtain ⟨u,w,rfl,h1,h2⟩:=h
  intro v hv
  rcases List.mem_append.1 hv with hv|hv
  ·exact a.rq h1 v hv
  ·exact b.rq h2 v hv
 | .arr t n,_,vs,h=>by
  simp only[Ty.has] at h;obtain ⟨_,h2⟩:=h
  have key: ∀ {l:List t.D} {vs:List Value},aO (t.has β pm) l vs→ ∀ v∈vs,v.oneCell'=true:=by
   intro l vs h
   induction h with
   |nil=>simp
   |cons h _ ih=>
    intro v hv
    rcases List.mem_append.1 hv with hv|hv
    ·exact t.rq h v hv
    ·exact ih v hv
  exact key h2
theorem jB {β:Env} {pm:Bool} {t:Ty} {l:List t.D} {vs:List Value} (h:aO (t.has β pm) l vs): ∀ v∈vs,v.oneCell'=true:=by
 induction h with
 |nil=>simp
 |cons h _ ih=>
  intro v hv
  rcases List.mem_append.1 hv with hv|hv
  ·exact t.rq h v hv
  ·exact ih v hv
theorem a8 {β:Env} {pm:Bool} {t:Ty} {l:List t.D} {vs:List Value} (h:aO (t.has β pm) l vs):vs.length=l.length*t.w:=h.length fun _ _=>t.ez
inductive SI where
 |lit (n:Int)
 |sym (n:Int)
def SI.val:SI→Int
 | .lit n=>n
 | .sym n=>n
inductive SB where
 |lit (b:Bool)
 |sym (b:Bool)
def SB.val:SB→Bool
 | .lit b=>b
 | .sym b=>b
inductive SV where
 |int (k:IntKind) (n:SI)
 |bool (b:SB)
 |uK (n:Nat)
 |str (l:List Int)
 |ptr (b off:Nat)
 |uL (b base kF n:Nat) (z:Int)
 |slice (b off len cap:Nat)
 |gH (v:Value)
 |bQ
 |arr (t:Ty) (n:Nat) (l:List t.D)
 |rd (pm nn:Bool) (t:Ty) (l:List t.D)
 |sl (i ver:Nat)
 |vw (i ver w:Nat) (z n:Int)
 |vb (b o:Nat) (t:Ty) (m:Nat) (z n:Int)
 |ep (s:SV) (w:Nat) (z:Int) (f:Nat)
inductive VV where
 |sc (s:SV)
 |agg (l:List SV)
inductive LV where
 |one (x:VV)
 |cD (l:List VV)
 |bQ
inductive Kd where
 |aZ
 |own (c:Nat)
 deriving DecidableEq
def wi (h:Value) (w:Nat) (z n:Int) (v:Value):Prop:=
 ∃ a m c a' c',h= .slice a m c∧0≤z∧0≤n∧z+n≤m∧v= .slice a' n.toNat c'∧n.toNat≤c'∧(a'=none→c'=0)∧(0<n→ ∃ a0,a=some a0∧a'=some (a0.add (z.toNat*w)))
def notNil:Value→Prop
 | .slice a _ _=>a≠none
 |_=>False
def SV.den (β:Env) (L:Nat→Option Kd):SV→Value→Prop
 | .int k i,v=>v= .int k i.val
 | .bool b,v=>v= .bool b.val
 | .uK n,v=>v= .float .f64 n
 | .str l,v=>v= .string (strOf l)
 | .ptr b o,v=>L b=some .aZ∧v= .pointer (some ⟨β.b b,o,none⟩)
 | .uL b base kF n z,v=>L b=some .aZ∧z.toNat<n∧v= .pointer (some ⟨β.b b,base+z.toNat*kF,none⟩)
 | .slice b o l c,v=>L b=some .aZ∧v= .slice (some ⟨β.b b,o,none⟩) l c
 | .gH c,v=>c.oneCell'=true∧v=c
 | .bQ,v=>v.oneCell'=true
 | .arr _ _ _,_=>False
 | .rd pm nn t l,v=>v.oneCell'=true∧(nn=true→notNil v)∧wU β pm v t l
 | .sl i ver,v=>v.oneCell'=true∧ ∃ c,L i=some (.own c)∧ver≤c∧(ver=c→v=β.h i)
 | .vw i ver w z n,v=>v.oneCell'=true∧ ∃ c,L i=some (.own c)∧ver≤c∧(ver=c→wi (β.h i) w z n v)
 | .vb b o t m z n,v=>L b=some .aZ∧0≤z∧0≤n∧z+n≤m∧ ∃ a' c',v= .slice a' n.toNat c'∧n.toNat≤c'∧(a'=none→c'=0)∧(0<n→a'=some ((⟨β.b b,o,none⟩:Addr).add (z.toNat*t.w)))
 | .ep s w z f,v=> ∃ a n c,s.den β L (.slice (some a) n c)∧0≤z∧z<n∧v= .pointer (some (a.add (z.toNat*w+f)))
def SV.gW (β:Env) (L:Nat→Option Kd):SV→List Value→Prop
 | .arr t n l,vs=>l.length=n∧aO (t.has β true) l vs
 |s,vs=> ∃ v,vs= [v]∧s.den β L v
def SV.w:SV→Nat
 | .arr t n _=>n*t.w
 |_=>1
abbrev aX (β:Env) (L:Nat→Option Kd):List SV→List Value→Prop:=aO (SV.gW β L)
def VV.den (β:Env) (L:Nat→Option Kd):VV→Value→Prop
 | .sc s,v=>s.den β L v
 | .agg l,v=> ∃ cs:List Value,v= .agg cs.toArray∧aX β L l cs
def LV.den (β:Env) (L:Nat→Option Kd):LV→Value→Prop
 | .one x,v=>x.den β L v
 | .cD l,v=> ∃ vs:List Value,v= .tuple vs.toArray∧bB (VV.den β L) l vs
 | .bQ,_=>True
structure bD (β β':Env) (L L':Nat→Option Kd):Prop where
 aZ: ∀ i,L i=some .aZ→L' i=some .aZ∧β'.b i=β.b i
 own: ∀ i c,L i=some (.own c)→ ∃ c',L' i=some (.own c')∧c≤c'∧(c=c'→β'.h i=β.h i)
 rd: ∀ pm v t l,β.rd pm v t l→β'.rd pm v t l
theorem bD.refl (β:Env) (L:Nat→Option Kd):bD β β L L:=⟨fun _ h=>⟨h,rfl⟩,fun _ c h=>⟨c,h,Nat.le_refl _,fun _=>rfl⟩,fun _ _ _ _ h=>h⟩
theorem bD.trans {β β' aiP:Env} {L L' L'':Nat→Option Kd} (h:bD β β' L L') (h':bD β' aiP L' L''):bD β aiP L L'':=by
 refine ⟨fun i hi=>⟨(h'.aZ i (h.aZ i hi).1).1,(h'.aZ i (h.aZ i hi).1).2.trans (h.aZ i hi).2⟩,fun i c hi=>?_,fun pm v t l hr=>h'.rd pm v t l (h.rd pm v t l hr)⟩
 obtain ⟨c1,h1,h2,h3⟩:=h.own i c hi
 obtain ⟨c2,h4,h5,h6⟩:=h'.own i c1 h1
 exact ⟨c2,h4,by omega,fun e=>(h6 (by omega)).trans (h3 (by omega))⟩
theorem bD.of {β:Env} {L L':Nat→Option Kd} (h: ∀ i k,L i=some k→L' i=some k):bD β β L L':=
 ⟨fun i hi=>⟨h i _ hi,rfl⟩,fun i c hi=>⟨c,h i _ hi,Nat.le_refl _,fun _=>rfl⟩,fun _ _ _ _ h=>h⟩
theorem wU.mono {β β':Env} (hr: ∀ pm v t l,β.rd pm v t l→β'.rd pm v t l) {pm:Bool} {v:Value} {t:Ty} {l:List t.D} (h:wU β pm v t l):wU β' pm v t l:=
 h.imp (hr _ _ _ _) (Or.imp (fun ⟨a,b⟩=>⟨a,hr _ _ _ _ b⟩) id)
theorem Ty.k9 {β β':Env} (hr: ∀ pm v t l,β.rd pm v t l→β'.rd pm v t l) {pm:Bool}: ∀ (t:Ty) {x:t.D} {vs:List Value},t.has β pm x vs→t.has β' pm x vs
 | .int _,_,_,h=>h
 | .bool,_,_,h=>h
 | .uK,_,_,h=>h
 | .str,_,_,h=>h
 | .sl _,_,_,⟨v,h1,h2,h3⟩=>⟨v,h1,h2,h3.mono hr⟩
 | .pair a b,_,_,⟨u,w,h,h1,h2⟩=>⟨u,w,h,a.k9 hr h1,b.k9 hr h2⟩
 | .arr t _,_,_,⟨h1,h2⟩=>⟨h1,h2.imp fun _ _=>t.k9 hr⟩
theorem SV.bl {β:Env} {L:Nat→Option Kd} {s:SV} {v:Value} (h:s.den β L v):v.oneCell'=true:=by
 cases s<;>simp only[SV.den] at h
 ·subst h;rfl
 ·subst h;rfl
 ·subst h;rfl
 ·subst h;rfl
 ·obtain ⟨_,rfl⟩:=h;rfl
 ·obtain ⟨_,_,rfl⟩:=h;rfl
 ·obtain ⟨_,rfl⟩:=h;rfl
 ·obtain ⟨h,rfl⟩:=h;exact h
 ·exact h
 ·exact h.1
 ·exact h.1
 ·exact h.1
 ·obtain ⟨_,_,_,_,_,_,rfl,_⟩:=h;rfl
 ·obtain ⟨_,_,_,_,_,_,rfl⟩:=h;rfl
theorem SV.dQ {β β':Env} {L L':Nat→Option Kd} (ha:bD β β' L L'): ∀ {s:SV} {v:Value},s.den β L v→s.den β' L' v
 | .int _ _,_,h=>h
 | .bool _,_,h=>h
 | .uK _,_,h=>h
 | .str _,_,h=>h
 | .ptr _ _,_,⟨h1,h2⟩=>⟨(ha.aZ _ h1).1,by rw[(ha.aZ _ h1).2];exact h2⟩
 | .uL _ _ _ _ _,_,⟨h1,h2,h3⟩=>⟨(ha.aZ _ h1).1,h2,by rw[(ha.aZ _ h1).2];exact h3⟩
 | .slice _ _ _ _,_,⟨h1,h2⟩=>⟨(ha.aZ _ h1).1,by rw[(ha.aZ _ h1).2];exact h2⟩
 | .gH _,_,h=>h
 | .bQ,_,h=>h
 | .rd _ _ _ _,_,⟨h1,h2,h3⟩=>⟨h1,h2,h3.mono ha.rd⟩
 | .sl i ver,_,⟨h1,c,h2,h3,h4⟩=>by
  obtain ⟨c',k1,k2,k3⟩:=ha.own i c h2
  exact ⟨h1,c',k1,by omega,fun e=>(h4 (by omega)).trans (k3 (by omega)).symm⟩
 | .vw i ver w z n,_,⟨h1,c,h2,h3,h4⟩=>by
  obtain ⟨c',k1,k2,k3⟩:=ha.own i c h2
  exact ⟨h1,c',k1,by omega,fun e=>by rw[k3 (by omega)];exact h4 (by omega)⟩
 | .vb _ _ _ _ _ _,_,⟨h1,h2,h3,h3',a',c',h4,h5,h6⟩=>⟨(ha.aZ _ h1).1,h2,h3,h3',a',c',h4,h5,by rw[(ha.aZ _ h1).2];exact h6⟩
 | .ep _ _ _ _,_,⟨a,n,c,h1,h2⟩=>⟨a,n,c,SV.dQ ha h1,h2⟩
theorem SV.Qq {β β':Env} {L L':Nat→Option Kd} (ha:bD β β' L L') {s:SV} {vs:List Value} (h:s.gW β L vs):s.gW β' L' vs:=by
 cases s with
 |arr t n l=>exact ⟨h.1,h.2.imp fun _ _=>t.k9 ha.rd⟩
 |_=>exact let ⟨v,h1,h2⟩:=h;⟨v,h1,SV.dQ ha h2⟩
theorem aX.mono {β β':Env} {L L':Nat→Option Kd} (ha:bD β β' L L') {l:List SV} {vs:List Value} (h:aX β L l vs):aX β' L' l vs:=h.imp fun _ _=>SV.Qq ha
theorem SV.gz {β:Env} {L:Nat→Option Kd} {s:SV} {vs:List Value} (h:s.gW β L vs):vs.length=s.w:=by
 cases s with
 |arr t n l=>rw[a8 h.2,h.1];rfl
 |_=>obtain ⟨v,rfl,_⟩:=h;rfl
theorem SV.TT {β:Env} {L:Nat→Option Kd} {s:SV} {vs:List Value} (h:s.gW β L vs): ∀ v∈vs,v.oneCell'=true:=by
 cases s with
 |arr t n l=>exact jB h.2
 |_=>obtain ⟨v,rfl,h⟩:=h;intro u hu;simp at hu;subst hu;exact SV.bl h
theorem SV.xb {β:Env} {L:Nat→Option Kd} {s:SV} {v:Value} (h:s.den β L v):s.gW β L [v]:=by
 cases s with
 |arr t n l=>exact h.elim
 |_=>exact ⟨v,rfl,h⟩
theorem SV.jd {β:Env} {L:Nat→Option Kd} {s:SV} {vs:List Value} (h:s.gW β L vs) (hs: ∀ t n l,s≠ .arr t n l): ∃ v,vs= [v]∧s.den β L v:=by
 cases s with
 |arr t n l=>exact absurd rfl (hs t n l)
 |_=>exact h
theorem aX.xX {β:Env} {L:Nat→Option Kd} {l:List SV} {vs:List Value} (h:aX β L l vs): ∀ v∈vs,v.oneCell'=true:=by
 induction h with
 |nil=>simp
 |cons h _ ih=>
  intro v hv
  rcases List.mem_append.1 hv with hv|hv
  ·exact SV.TT h v hv
  ·exact ih v hv
def wL:List SV→Nat
 | []=>0
 |s::l=>s.w+wL l
theorem aX.length {β:Env} {L:Nat→Option Kd} {l:List SV} {vs:List Value} (h:aX β L l vs):vs.length=wL l:=by
 induction h with
 |nil=>rfl
 |cons h _ ih=>simp[wL,SV.gz h,ih]
theorem aX.nil {β:Env} {L:Nat→Option Kd}:aX β L [] []:=aO.nil
theorem aX.iI {β:Env} {L:Nat→Option Kd} {s:SV} {v:Value} {l:List SV} {vs:List Value} (h:s.den β L v) (t:aX β L l vs):aX β L (s::l) (v::vs):=aO.cons (SV.xb h) t
theorem VV.dQ {β β':Env} {L L':Nat→Option Kd} (ha:bD β β' L L') {s:VV} {v:Value} (h:s.den β L v):s.den β' L' v:=by
 cases s with
 |sc s=>exact SV.dQ ha h
 |agg l=>obtain ⟨cs,rfl,h⟩:=h;exact ⟨cs,rfl,h.mono ha⟩
theorem LV.dQ {β β':Env} {L L':Nat→Option Kd} (ha:bD β β' L L') {s:LV} {v:Value} (h:s.den β L v):s.den β' L' v:=by
 cases s with
 |one x=>exact VV.dQ ha h
 |cD l=>obtain ⟨cs,rfl,h⟩:=h;exact ⟨cs,rfl,h.imp fun _ _=>VV.dQ ha⟩
 |bQ=>trivial
def SV.m9:Value→Option SV
 | .int k n=>some (.int k (.lit n))
 | .bool b=>some (.bool (.lit b))
 | .agg _| .tuple _=>none
 |x=>some (.gH x)
def cE {α β:Type} (f:α→Option β):List α→Option (List β)
 | []=>some []
 |x::l=>match f x,cE f l with
  |some y,some m=>some (y::m)
  |_,_=>none
def LV.m9:Value→LV
 | .agg cs=>match cE SV.m9 cs.toList with
  |some l=> .one (.agg l)
  |none=> .bQ
 | .tuple cs=>if cs.isEmpty then .cD [] else .bQ
 |x=>match SV.m9 x with
  |some s=> .one (.sc s)
  |none=> .bQ
theorem SV.oT {β:Env} {L:Nat→Option Kd} {v:Value} {s:SV} (h:SV.m9 v=some s):s.den β L v:=by
 cases v<;>simp[SV.m9] at h<;>subst h<;>simp[SV.den,SI.val,SB.val,Value.oneCell']
theorem wj {α β:Type} {f:α→Option β} {R:β→α→Prop} (hf: ∀ x y,f x=some y→R y x): ∀ {l:List α} {m:List β},cE f l=some m→bB R m l
 | [],m,h=>by simp[cE] at h;subst h;exact .nil
 |x::l,m,h=>by
  simp only[cE] at h
  split at h
  ·rename_i y m' h1 h2
   simp at h;subst h
   exact .cons (hf _ _ h1) (wj hf h2)
  ·simp at h
theorem l8 {β:Env} {L:Nat→Option Kd} {l:List SV} {vs:List Value} (h:bB (SV.den β L) l vs):aX β L l vs:=by
 induction h with
 |nil=>exact .nil
 |cons h _ ih=>exact aX.iI h ih
theorem LV.oT {β:Env} {L:Nat→Option Kd} (v:Value):(LV.m9 v).den β L v:=by
 cases v with
 |agg cs=>
  simp only[LV.m9]
  split
  ·rename_i l h
   exact ⟨cs.toList,by simp,l8 (wj (fun _ _=>SV.oT) h)⟩
  ·trivial
 |tuple cs=>
  simp only[LV.m9]
  split
  ·rename_i h
   have:cs= #[]:=by simpa using h
   subst this
   exact ⟨[],rfl,.nil⟩
  ·trivial
 |_=>simp[LV.m9,SV.m9,LV.den,VV.den,SV.den,SI.val,SB.val,Value.oneCell']
inductive Item where
 |aZ (cells:List SV) (elem:TypeId)
 |own (ver:Nat) (t:Ty) (l:List t.D)
 |gone (ver:Nat)
def Item.kd:Item→Kd
 | .aZ _ _=> .aZ
 | .own v _ _| .gone v=> .own v
abbrev Hp:=List (Option Item)
def kd (hp:Hp) (i:Nat):Option Kd:=
 match hp[i]? with
 |some (some x)=>some x.kd
 |_=>none
structure St where
 fr:List LV
 hp:Hp
theorem ke {hp:Hp} {i:Nat} {k:Kd} (h:kd hp i=some k): ∃ x,hp[i]? =some (some x)∧x.kd=k:=by
 unfold kd at h;split at h
 ·rename_i x hx;simp at h;exact ⟨x,hx,h⟩
 ·cases h
theorem cT {hp:Hp} {i:Nat} {x:Item} (h:hp[i]? =some (some x)):kd hp i=some x.kd:=by unfold kd;rw[h]
def bU (β:Env) (x:Item) (i b:Nat):Prop:=
 match x with
 | .aZ _ _=>b=β.b i
 | .own _ _ _=> ∃ a n c,β.h i= .slice (some a) n c∧0<c∧a.block=b
 | .gone _=>False
def eP (hp:Hp) (β:Env) (b:Nat):Prop:= ∃ i x,hp[i]? =some (some x)∧bU β x i b
def cK (w:World) (a:Addr) (vs:List Value):Prop:= ∀ i u,vs[i]? =some u→w.cell? (a.add i)=some u
def xY (fz:Nat×Nat) (n:Nat):Prop:=fz.1=fz.2∨n≤fz.1
theorem xY.not {fz:Nat×Nat} {n off:Nat} (h:xY fz n) (ho:off<n): ¬ (fz.1≤off∧off<fz.2):=by unfold xY at h;omega
def cU (β:Env) (w:World) (h:Value) (t:Ty) (l:List t.D):Prop:=
 ∃ a n c,h= .slice a n c∧n=l.length∧n≤c∧(a=none→c=0)∧
  (0<c→ ∃ (a0:Addr) (pre eQ rest:List Value) (elem:TypeId) (fz:Nat×Nat),a=some a0∧a0.spot=none∧w.heap[a0.block]? =some (.cells (pre++(eQ++rest)).toArray elem fz)∧
   pre.length=a0.off∧aO (t.has β true) l eQ∧(c-n)*t.w≤rest.length∧xY fz (pre++(eQ++rest)).length)
def eA (β:Env) (L:Nat→Option Kd) (w:World) (i:Nat):Item→Prop
 | .aZ cells elem=> ∃ (c:List Value) (fz:Nat×Nat),w.heap[β.b i]? =some (.cells c.toArray elem fz)∧xY fz c.length∧aX β L cells c
 | .own _ t l=>cU β w (β.h i) t l
 | .gone _=>True
def bF (β:Env) (pm:Bool) (w:World) (v:Value) (t:Ty) (l:List t.D):Prop:=
 ∃ a n c,v= .slice a n c∧n=l.length∧n≤c∧(a=none→c=0)∧(0<n→ ∃ (a0:Addr) (eQ:List Value),a=some a0∧a0.spot=none∧aO (t.has β pm) l eQ∧cK w a0 eQ)
def inBlock:Value→Nat→Prop
 | .slice (some a) n _,b=>0<n∧a.block=b
 |_,_=>False
theorem df (a:Addr) (n:Nat):(a.add n).block=a.block:=by unfold Addr.add;split<;>rfl
theorem cK.of {w w':World} {a:Addr} {vs:List Value} (h:cK w a vs) (hs:vs≠ []→w'.heap[a.block]? =w.heap[a.block]?):cK w' a vs:=by
 intro i u hu
 have h1:=h i u hu
 have fR:vs≠ []:=fun e=>by subst e;simp at hu
 unfold World.cell? at h1 ⊢
 rw[df] at h1 ⊢
 rw[hs fR];exact h1
theorem cK.lt {w:World} {a:Addr} {vs:List Value} (h:cK w a vs) (fR:vs≠ []):a.block<w.heap.size:=by
 cases vs with
 |nil=>exact absurd rfl fR
 |cons v vs=>
  have:=h 0 v (by simp)
  unfold World.cell? at this
  rw[df] at this
  split at this
  ·rename_i h1;exact (Array.getElem?_eq_some_iff.1 h1).1
  ·cases this
theorem bF.of {β:Env} {pm:Bool} {w w':World} {v:Value} {t:Ty} {l:List t.D} (h:bF β pm w v t l) (hs: ∀ b,inBlock v b→b<w.heap.size→w'.heap[b]? =w.heap[b]?):bF β pm w' v t l:=by
 obtain ⟨a,n,c,rfl,hn,hc,hz,hr⟩:=h
 refine ⟨a,n,c,rfl,hn,hc,hz,fun h0=>?_⟩
 obtain ⟨a0,eQ,rfl,h1,h2,h3⟩:=hr h0
 exact ⟨a0,eQ,rfl,h1,h2,h3.of fun fR=>hs _ ⟨h0,rfl⟩ (h3.lt fR)⟩
theorem bF.mono {β β':Env} (hm: ∀ pm v t l,β.rd pm v t l→β'.rd pm v t l) {pm:Bool} {w:World} {v:Value} {t:Ty} {l:List t.D} (h:bF β pm w v t l):bF β' pm w v t l:=by
 obtain ⟨a,n,c,rfl,hn,hc,hz,hr⟩:=h
 refine ⟨a,n,c,rfl,hn,hc,hz,fun h0=>?_⟩
 obtain ⟨a0,eQ,rfl,h1,h2,h3⟩:=hr h0
 exact ⟨a0,eQ,rfl,h1,h2.imp fun _ _=>t.k9 hm,h3⟩
structure aV (W:World) (ah:Hp) (β₀ β:Env) (hp:Hp) (w:World):Prop where
 items: ∀ i x,hp[i]? =some (some x)→eA β (kd hp) w i x
 inj: ∀ i j x y b,hp[i]? =some (some x)→hp[j]? =some (some y)→bU β x i b→bU β y j b→i=j
 first:bD β₀ β (kd ah) (kd hp)
 own: ∀ i x b,hp[i]? =some (some x)→bU β x i b→W.heap.size≤b∨ ∃ y,ah[i]? =some (some y)∧bU β₀ y i b
 os:w.os=W.os
 output:w.output=W.output
 size:W.heap.size≤w.heap.size
 aq: ∀ b,b<W.heap.size→ ¬ eP ah β₀ b→w.heap[b]? =W.heap[b]?
 reads: ∀ pm v t l,β.rd pm v t l→bF β pm w v t l∧ ∀ b,inBlock v b→b<w.heap.size∧ ¬ eP hp β b
 from_: ∀ pm v t l b,β.rd pm v t l→inBlock v b→W.heap.size≤b∨ ∃ j7 v' t' l',(pm=true→j7=true)∧β₀.rd j7 v' t' l'∧inBlock v' b
structure Rel (W:World) (ah:Hp) (β₀ β:Env) (st:St) (a:Act) (w:World):Prop where
 defers:a.defers= []
 fr:bB (LV.den β (kd st.hp)) st.fr a.tmps.toList
 heap:aV W ah β₀ β st.hp w
def setAt:Hp→Nat→Item→Hp
 | [],0,b=> [some b]
 | [],n+1,b=>none::setAt [] n b
 |_::l,0,b=>some b::l
 |x::l,n+1,b=>x::setAt l n b
theorem cZ: ∀ (hp:Hp) (i:Nat) (b:Item),(setAt hp i b)[i]? =some (some b)
 | [],0,_=>rfl
 | [],n+1,b=>by simp[setAt,cZ [] n b]
 |_::_,0,_=>rfl
 |_::l,n+1,b=>by simp[setAt,cZ l n b]
theorem BD: ∀ (i:Nat) (b:Item) (j:Nat) (x:Item),j≠i→(setAt [] i b)[j]? ≠some (some x)
 |0,b,0,_,h=>absurd rfl h
 |0,b,j+1,_,_=>by simp[setAt]
 |n+1,b,0,_,_=>by simp[setAt]
 |n+1,b,j+1,x,h=>by
  have:=BD n b j x (by omega)
  simpa [setAt] using this
theorem bY: ∀ (hp:Hp) (i:Nat) (b:Item) (j:Nat) (x:Item),j≠i→((setAt hp i b)[j]? =some (some x)↔hp[j]? =some (some x))
 | [],i,b,j,x,h=>⟨fun hh=>absurd hh (BD i b j x h),fun hh=>by simp at hh⟩
 |_::_,0,_,0,_,h=>absurd rfl h
 |_::_,0,_,j+1,_,_=>by simp[setAt]
 |_::_,n+1,_,0,_,_=>by simp[setAt]
 |_::l,n+1,b,j+1,x,h=>by
  have:=bY l n b j x (by omega)
  simpa [setAt] using this
theorem cN (hp:Hp) (i:Nat) (x:Item) (j:Nat):kd (setAt hp i x) j=if j=i then some x.kd else kd hp j:=by
 split
 ·rename_i h;subst h;exact cT (cZ hp j x)
 ·rename_i h
  unfold kd
  split
  ·rename_i y hy
   rw[(bY hp i x j y h).1 hy]
  ·rename_i hn
   split
   ·rename_i y hy;exact absurd ((bY hp i x j y h).2 hy) (hn y)
   ·rfl
section
variable {W:World} {ah:Hp} {β₀ β:Env} {hp:Hp} {w:World}
theorem bU.congr {β β':Env} {x:Item} {i b:Nat} (hb:β'.b i=β.b i) (hh:β'.h i=β.h i):bU β' x i b↔bU β x i b:=by
 cases x<;>simp only[bU,hb,hh]
theorem cU.of {β β':Env} {w w':World} {h:Value} {t:Ty} {l:List t.D} (hm: ∀ pm v t l,β.rd pm v t l→β'.rd pm v t l) (hk:cU β w h t l) (hw: ∀ a n c,h= .slice (some a) n c→0<c→w'.heap[a.block]? =w.heap[a.block]?):cU β' w' h t l:=by
 obtain ⟨a,n,c,rfl,h1,h2,h3,h4⟩:=hk
 refine ⟨a,n,c,rfl,h1,h2,h3,fun h0=>?_⟩
 obtain ⟨a0,pre,eQ,rest,elem,fz,rfl,k1,k2,k3,k4,k5⟩:=h4 h0
 exact ⟨a0,pre,eQ,rest,elem,fz,rfl,k1,by rw[hw _ _ _ rfl h0];exact k2,k3,k4.imp fun _ _=>t.k9 hm,k5⟩
theorem eA.of {β β':Env} {L L':Nat→Option Kd} {w w':World} {i:Nat} {x:Item} (ha:bD β β' L L') (hb:β'.b i=β.b i) (hh:β'.h i=β.h i) (h:eA β L w i x) (hw: ∀ b,bU β x i b→w'.heap[b]? =w.heap[b]?):eA β' L' w' i x:=by
 cases x with
 |aZ cells elem=>
  obtain ⟨c,fz,h1,h2,h3⟩:=h
  exact ⟨c,fz,by rw[hb,hw _ rfl];exact h1,h2,h3.mono ha⟩
 |own v t l=>
  show cU β' w' (β'.h i) t l
  rw[hh]
  exact cU.of ha.rd h fun a n c e h0=>hw _ ⟨a,n,c,e,h0,rfl⟩
 |gone v=>trivial
theorem cU.lt {β:Env} {w:World} {h:Value} {t:Ty} {l:List t.D} (hk:cU β w h t l) {a:Addr} {n c:Nat} (e:h= .slice (some a) n c) (h0:0<c):a.block<w.heap.size:=by
 obtain ⟨a',n',c',rfl,_,_,_,h4⟩:=hk
 simp at e;obtain ⟨rfl,rfl,rfl⟩:=e
 obtain ⟨a0,_,_,_,_,_,e,_,k,_⟩:=h4 h0
 simp at e;subst e
 exact (Array.getElem?_eq_some_iff.1 k).1
theorem eA.lt {β:Env} {L:Nat→Option Kd} {w:World} {i:Nat} {x:Item} (h:eA β L w i x) {b:Nat} (ho:bU β x i b):b<w.heap.size:=by
 cases x with
 |aZ cells elem=>
  obtain ⟨c,fz,h1,_⟩:=h
  have ho':b=β.b i:=ho
  subst ho'
  exact (Array.getElem?_eq_some_iff.1 h1).1
 |own v t l=>
  obtain ⟨a,n,c,e,h0,rfl⟩:=ho
  exact cU.lt h e h0
 |gone v=>exact ho.elim
theorem aV.lt (h:aV W ah β₀ β hp w) {b:Nat} (ho:eP hp β b):b<w.heap.size:=by
 obtain ⟨i,x,hi,ho⟩:=ho
 exact (h.items i x hi).lt ho
theorem aV.add (h:aV W ah β₀ β hp w) {id:Nat} (nq:kd hp id=none) {x:Item} {β':Env} {w':World}
  (hb: ∀ j,j≠id→β'.b j=β.b j) (hh: ∀ j,j≠id→β'.h j=β.h j) (ny:β'.rd=β.rd) (hs:w.heap.size≤w'.heap.size) (hos:w'.os=w.os) (CU:w'.output=w.output)
  (hold: ∀ b,b<w.heap.size→w'.heap[b]? =w.heap[b]?) (gI: ∀ b,bU β' x id b→w.heap.size≤b) (TL:bD β β' (kd hp) (kd (setAt hp id x))→eA β' (kd (setAt hp id x)) w' id x):
  aV W ah β₀ β' (setAt hp id x) w'∧bD β β' (kd hp) (kd (setAt hp id x)):=by
 have fR: ∀ {i k},kd hp i=some k→i≠id:=fun hi e=>by subst e;rw[nq] at hi;cases hi
 have aqY: ∀ {i y},hp[i]? =some (some y)→i≠id:=fun hi=>fR (cT hi)
 have qb:bD β β' (kd hp) (kd (setAt hp id x)):=by
  refine ⟨fun i hi=>⟨by rw[cN,if_neg (fR hi)];exact hi,hb i (fR hi)⟩,fun i c hi=>⟨c,by rw[cN,if_neg (fR hi)];exact hi,Nat.le_refl _,fun _=>hh i (fR hi)⟩,fun pm v t l hr=>by rw[ny];exact hr⟩
 have ld: ∀ {i y},(setAt hp id x)[i]? =some (some y)→(i=id∧y=x)∨(i≠id∧hp[i]? =some (some y)):=by
  intro i y hi
  by_cases e:i=id
  ·subst e;rw[cZ] at hi;simp at hi;exact .inl ⟨rfl,hi.symm⟩
  ·exact .inr ⟨e,(bY hp id x i y e).1 hi⟩
 have kG: ∀ {b},eP (setAt hp id x) β' b→w.heap.size≤b∨eP hp β b:=by
  rintro b ⟨i,y,hi,ho⟩
  rcases ld hi with ⟨rfl,rfl⟩|⟨e,A8⟩
  ·exact .inl (gI b ho)
  ·exact .inr ⟨i,y,A8,(bU.congr (hb i e) (hh i e)).1 ho⟩
 refine ⟨⟨?_,?_,h.first.trans qb,?_,hos.trans h.os,CU.trans h.output,Nat.le_trans h.size hs,?_,?_,?_⟩,qb⟩
 ·intro i y hi
  rcases ld hi with ⟨rfl,rfl⟩|⟨e,A8⟩
  ·exact TL qb
  ·exact (h.items i y A8).of qb (hb i e) (hh i e) fun b ho=>hold b ((h.items i y A8).lt ho)
 ·intro i j y z b hi hj h1 h2
  rcases ld hi with ⟨rfl,rfl⟩|⟨ei,A8⟩<;>rcases ld hj with ⟨e,rfl⟩|⟨ej,BE⟩
  ·exact e.symm
  ·have k1:=gI b h1
   have k2:=(h.items j z BE).lt ((bU.congr (hb j ej) (hh j ej)).1 h2)
   omega
  ·subst e
   have k1:=gI b h2
   have k2:=(h.items i y A8).lt ((bU.congr (hb i ei) (hh i ei)).1 h1)
   omega
  ·exact h.inj i j y z b A8 BE ((bU.congr (hb i ei) (hh i ei)).1 h1) ((bU.congr (hb j ej) (hh j ej)).1 h2)
 ·intro i y b hi ho
  rcases ld hi with ⟨rfl,rfl⟩|⟨e,A8⟩
  ·exact .inl (Nat.le_trans h.size (gI b ho))
  ·exact h.own i y b A8 ((bU.congr (hb i e) (hh i e)).1 ho)
 ·intro b j8 fR
  rw[hold b (by have:=h.size;omega)]
  exact h.aq b j8 fR
 ·intro pm v t l hr
  rw[ny] at hr
  obtain ⟨h1,h2⟩:=h.reads pm v t l hr
  refine ⟨(h1.of fun b j8 hl=>hold b hl).mono fun pm v t l hr=>by rw[ny];exact hr,fun b j8=>⟨Nat.lt_of_lt_of_le (h2 b j8).1 hs,fun ho=>?_⟩⟩
  rcases kG ho with k|k
  ·have:=(h2 b j8).1;omega
  ·exact (h2 b j8).2 k
 ·intro pm v t l b hr j8
  rw[ny] at hr
  exact h.from_ pm v t l b hr j8
theorem aV.xc (h:aV W ah β₀ β hp w) {i:Nat} {x x':Item} (hi:hp[i]? =some (some x)) {β':Env} {w':World}
  (hb:β'.b=β.b) (hh: ∀ j,j≠i→β'.h j=β.h j) (ny:β'.rd=β.rd)
  (hkd:(x.kd= .aZ∧x'.kd= .aZ)∨ ∃ c c',x.kd= .own c∧x'.kd= .own c'∧c≤c'∧(c=c'→β'.h i=β.h i))
  (hs:w.heap.size≤w'.heap.size) (hos:w'.os=w.os) (CU:w'.output=w.output)
  (hold: ∀ b,b<w.heap.size→ ¬ bU β x i b→w'.heap[b]? =w.heap[b]?) (gI: ∀ b,bU β' x' i b→bU β x i b∨w.heap.size≤b)
  (TL:bD β β' (kd hp) (kd (hp.set i (some x')))→eA β' (kd (hp.set i (some x'))) w' i x'):
  aV W ah β₀ β' (hp.set i (some x')) w'∧bD β β' (kd hp) (kd (hp.set i (some x'))):=by
 have hil:i<hp.length:=(List.getElem?_eq_some_iff.1 hi).1
 have Gu:(hp.set i (some x'))[i]? =some (some x'):=List.getElem?_set_self hil
 have TU: ∀ j,j≠i→(hp.set i (some x'))[j]? =hp[j]? :=fun j hj=>List.getElem?_set_ne (Ne.symm hj)
 have aiQ:kd (hp.set i (some x')) i=some x'.kd:=cT Gu
 have aiR: ∀ j,j≠i→kd (hp.set i (some x')) j=kd hp j:=fun j hj=>by unfold kd;rw[TU j hj]
 have qb:bD β β' (kd hp) (kd (hp.set i (some x'))):=by
  refine ⟨fun j hj=>?_,fun j c hj=>?_,fun pm v t l hr=>by rw[ny];exact hr⟩
  ·by_cases e:j=i
   ·subst e
    rw[cT hi] at hj;simp at hj
    rcases hkd with ⟨_,k⟩|⟨c,c',k,_⟩
    ·exact ⟨by rw[aiQ,k],by rw[hb]⟩
    ·rw[hj] at k;cases k
   ·exact ⟨by rw[aiR j e];exact hj,by rw[hb]⟩
  ·by_cases e:j=i
   ·subst e
    rw[cT hi] at hj;simp at hj
    rcases hkd with ⟨k,_⟩|⟨c1,c',k,k1,k2,k3⟩
    ·rw[hj] at k;cases k
    ·rw[hj] at k;simp at k;subst k
     exact ⟨c',by rw[aiQ,k1],k2,k3⟩
   ·exact ⟨c,by rw[aiR j e];exact hj,Nat.le_refl _,fun _=>hh j e⟩
 have ld: ∀ {j y},(hp.set i (some x'))[j]? =some (some y)→(j=i∧y=x')∨(j≠i∧hp[j]? =some (some y)):=by
  intro j y hj
  by_cases e:j=i
  ·subst e;rw[Gu] at hj;simp at hj;exact .inl ⟨rfl,hj.symm⟩
  ·exact .inr ⟨e,by rw[TU j e] at hj;exact hj⟩
 have nz: ∀ {j y b},j≠i→(bU β' y j b↔bU β y j b):=fun e=>bU.congr (by rw[hb]) (hh _ e)
 have hx:=h.items i x hi
 have afE: ∀ {j y b},j≠i→hp[j]? =some (some y)→bU β y j b→ ¬ bU β x i b:=fun e hj h1 h2=>e (h.inj _ _ _ _ _ hj hi h1 h2)
 have kG: ∀ {b},eP (hp.set i (some x')) β' b→w.heap.size≤b∨eP hp β b:=by
  rintro b ⟨j,y,hj,ho⟩
  rcases ld hj with ⟨rfl,rfl⟩|⟨e,BE⟩
  ·rcases gI b ho with k|k
   ·exact .inr ⟨_,x,hi,k⟩
   ·exact .inl k
  ·exact .inr ⟨j,y,BE,(nz e).1 ho⟩
 refine ⟨⟨?_,?_,h.first.trans qb,?_,hos.trans h.os,CU.trans h.output,Nat.le_trans h.size hs,?_,?_,?_⟩,qb⟩
 ·intro j y hj
  rcases ld hj with ⟨rfl,rfl⟩|⟨e,BE⟩
  ·exact TL qb
  ·exact (h.items j y BE).of qb (by rw[hb]) (hh j e) fun b ho=>hold b ((h.items j y BE).lt ho) (afE e BE ho)
 ·intro j k y z b hj hk h1 h2
  rcases ld hj with ⟨ej,rfl⟩|⟨ej,BE⟩<;>rcases ld hk with ⟨ek,rfl⟩|⟨ek,na⟩
  ·rw[ej,ek]
  ·subst ej
   have k2:=(nz ek).1 h2
   rcases gI b h1 with k|k
   ·exact absurd k (afE ek na k2)
   ·have:=(h.items _ z na).lt k2;omega
  ·subst ek
   have k1:=(nz ej).1 h1
   rcases gI b h2 with k|k
   ·exact absurd k (afE ej BE k1)
   ·have:=(h.items _ y BE).lt k1;omega
  ·exact h.inj j k y z b BE na ((nz ej).1 h1) ((nz ek).1 h2)
 ·intro j y b hj ho
  rcases ld hj with ⟨rfl,rfl⟩|⟨e,BE⟩
  ·rcases gI b ho with k|k
   ·exact h.own _ x b hi k
   ·exact .inl (Nat.le_trans h.size k)
  ·exact h.own j y b BE ((nz e).1 ho)
 ·intro b j8 fR
  rw[hold b (by have:=h.size;omega) fun ho=>?_]
  ·exact h.aq b j8 fR
  ·rcases h.own i x b hi ho with k|⟨y,k⟩
   ·omega
   ·exact fR ⟨i,y,k⟩
 ·intro pm v t l hr
  rw[ny] at hr
  obtain ⟨h1,h2⟩:=h.reads pm v t l hr
  refine ⟨(h1.of fun b j8 hl=>hold b hl fun ho=>(h2 b j8).2 ⟨i,x,hi,ho⟩).mono fun pm v t l hr=>by rw[ny];exact hr,fun b j8=>⟨Nat.lt_of_lt_of_le (h2 b j8).1 hs,fun ho=>?_⟩⟩
  rcases kG ho with k|k
  ·have:=(h2 b j8).1;omega
  ·exact (h2 b j8).2 k
 ·intro pm v t l b hr j8
  rw[ny] at hr
  exact h.from_ pm v t l b hr j8
theorem aV.drew (h:aV W ah β₀ β hp w) (n:Nat) (tp:Tape):aV W ah β₀ β hp {w with drawn:=n,tape:=tp}:=
 ⟨h.items,h.inj,h.first,h.own,h.os,h.output,h.size,h.aq,h.reads,h.from_⟩
def Env.nb (β:Env) (pm:Bool) (v:Value) (t:Ty) (l:List t.D):Env:=⟨β.b,β.h,fun j7 v' t' l'=>β.rd j7 v' t' l'∨(j7=pm∧v'=v∧ ∃ e:t=t',e▸l=l')⟩
theorem aV.nb (h:aV W ah β₀ β hp w) {pm:Bool} {v:Value} {t:Ty} {l:List t.D} (hr:bF β pm w v t l)
  (hb: ∀ b,inBlock v b→b<w.heap.size∧ ¬ eP hp β b∧(W.heap.size≤b∨ ∃ j7 v' t' l',(pm=true→j7=true)∧β₀.rd j7 v' t' l'∧inBlock v' b)):
  aV W ah β₀ (β.nb pm v t l) hp w∧bD β (β.nb pm v t l) (kd hp) (kd hp)∧(β.nb pm v t l).rd pm v t l:=by
 have hm: ∀ j7 v' t' l',β.rd j7 v' t' l'→(β.nb pm v t l).rd j7 v' t' l':=fun _ _ _ _ h=> .inl h
 have qb:bD β (β.nb pm v t l) (kd hp) (kd hp):=⟨fun i hi=>⟨hi,rfl⟩,fun i c hi=>⟨c,hi,Nat.le_refl _,fun _=>rfl⟩,hm⟩
 have hoc: ∀ {x i b},bU (β.nb pm v t l) x i b↔bU β x i b:=bU.congr rfl rfl
 have hod: ∀ {b},eP hp (β.nb pm v t l) b↔eP hp β b:=⟨fun ⟨i,x,h1,h2⟩=>⟨i,x,h1,hoc.1 h2⟩,fun ⟨i,x,h1,h2⟩=>⟨i,x,h1,hoc.2 h2⟩⟩
 refine ⟨⟨fun i x hi=>(h.items i x hi).of qb rfl rfl fun _ _=>rfl,fun i j x y b hi hj h1 h2=>h.inj i j x y b hi hj (hoc.1 h1) (hoc.1 h2),h.first.trans qb,fun i x b hi ho=>h.own i x b hi (hoc.1 ho),h.os,h.output,h.size,h.aq,?_,?_⟩,qb,.inr ⟨rfl,rfl,rfl,rfl⟩⟩
 ·rintro j7 v' t' l' (hv|⟨rfl,rfl,rfl,rfl⟩)
  ·obtain ⟨h1,h2⟩:=h.reads j7 v' t' l' hv
   exact ⟨h1.mono hm,fun b j8=>⟨(h2 b j8).1,fun ho=>(h2 b j8).2 (hod.1 ho)⟩⟩
  ·exact ⟨hr.mono hm,fun b j8=>⟨(hb b j8).1,fun ho=>(hb b j8).2.1 (hod.1 ho)⟩⟩
 ·rintro j7 v' t' l' b (hv|⟨rfl,rfl,rfl,rfl⟩) hbl
  ·exact h.from_ j7 v' t' l' b hv hbl
  ·exact (hb b hbl).2.2
end
end Go.Ev
end
section
set_option linter.unusedVariables false
set_option linter.unusedSimpArgs false
namespace Go.Ev
open Go
inductive Ask (α:Type) where
 |ret (a:α)
 |get (i:Nat) (k:Option Item→Ask α)
def bd (hp:Hp) (i:Nat):Option Item:=match hp[i]? with|some (some x)=>some x|_=>none
def Ask.val {α:Type} (hp:Hp):Ask α→α
 | .ret a=>a
 | .get i k=>(k (bd hp i)).val hp
def Ask.log {α:Type} (hp:Hp):Ask α→List Nat
 | .ret _=> []
 | .get i k=>i::(k (bd hp i)).log hp
def Ask.bind {α β:Type}:Ask α→(α→Ask β)→Ask β
 | .ret a,f=>f a
 | .get i k,f=> .get i fun x=>(k x).bind f
def Ask.map {α β:Type} (f:α→β) (a:Ask α):Ask β:=a.bind fun x=> .ret (f x)
theorem Ask.dB {α β:Type} (hp:Hp): ∀ (a:Ask α) (f:α→Ask β),(a.bind f).val hp=(f (a.val hp)).val hp
 | .ret _,_=>rfl
 | .get i k,f=>Ask.dB hp (k (bd hp i)) f
theorem Ask.cy {α β:Type} (hp:Hp) (a:Ask α) (f:α→β):(a.map f).val hp=f (a.val hp):=Ask.dB hp a _
theorem Ask.CV {α:Type} {hp hp2:Hp}: ∀ (a:Ask α),(∀ i∈a.log hp,bd hp2 i=bd hp i)→a.val hp2=a.val hp∧a.log hp2=a.log hp
 | .ret _,_=>⟨rfl,rfl⟩
 | .get i k,h=>by
  have h0:bd hp2 i=bd hp i:=h i (by simp[Ask.log])
  have:=Ask.CV (hp:=hp) (hp2:=hp2) (k (bd hp i)) fun j hj=>h j (by simp[Ask.log,hj])
  simp only[Ask.val,Ask.log,h0]
  exact ⟨this.1,by rw[this.2]⟩
theorem aw {hp:Hp} {i:Nat} {x:Item} (h:bd hp i=some x):hp[i]? =some (some x):=by
 unfold bd at h;split at h
 ·rename_i y hy;simp at h;subst h;exact hy
 ·cases h
theorem oU {hp:Hp} {i:Nat} {x:Item} (h:hp[i]? =some (some x)):bd hp i=some x:=by unfold bd;rw[h]
def Ty.flat:Ty→Bool
 | .int _| .bool| .uK| .str=>true
 | .sl _=>false
 | .pair a b=>a.flat&&b.flat
 | .arr t _=>t.flat
theorem Ty.qA {β:Env} {pm j7:Bool}: ∀ (t:Ty) {x:t.D} {vs:List Value},t.flat=true→t.has β pm x vs→t.has β j7 x vs
 | .int _,_,_,_,h=>h
 | .bool,_,_,_,h=>h
 | .uK,_,_,_,h=>h
 | .str,_,_,_,h=>h
 | .sl _,_,_,hf,_=>by cases hf
 | .pair a b,_,_,hf,h=>by
  simp only[Ty.flat,Bool.and_eq_true] at hf
  obtain ⟨u,w,h,h1,h2⟩:=h
  exact ⟨u,w,h,a.qA hf.1 h1,b.qA hf.2 h2⟩
 | .arr t _,_,_,hf,⟨h1,h2⟩=>⟨h1,h2.imp fun _ _=>t.qA hf⟩
theorem wU.Qr {β:Env} {pm:Bool} {v:Value} {t:Ty} {l:List t.D} (h:wU β true v t l):wU β pm v t l:=by
 rcases h with h|⟨h,_⟩|h
 ·exact .inl h
 ·cases h
 ·exact .inr (.inr h)
theorem Ty.nA {β:Env} {pm:Bool}: ∀ (t:Ty) {x:t.D} {vs:List Value},t.has β true x vs→t.has β pm x vs
 | .int _,_,_,h=>h
 | .bool,_,_,h=>h
 | .uK,_,_,h=>h
 | .str,_,_,h=>h
 | .sl _,_,_,⟨v,h1,h2,h3⟩=>⟨v,h1,h2,h3.Qr⟩
 | .pair a b,_,_,⟨u,w,h,h1,h2⟩=>⟨u,w,h,a.nA h1,b.nA h2⟩
 | .arr t _,_,_,⟨h1,h2⟩=>⟨h1,h2.imp fun _ _=>t.nA⟩
def Ty.BF (pm:Bool):(t:Ty)→t.D→List SV
 | .int k,n=> [.int k (.sym n)]
 | .bool,b=> [.bool (.sym b)]
 | .uK,n=> [.uK n]
 | .str,l=> [.str l]
 | .sl t,l=> [.rd pm false t l]
 | .pair a b,x=>a.BF pm x.1++b.BF pm x.2
 | .arr t n,l=>if pm||t.flat then [.arr t n l] else List.replicate (n*t.w) .bQ
theorem BG {β:Env} {L:Nat→Option Kd}: ∀ {vs:List Value} {n:Nat},vs.length=n→(∀ v∈vs,v.oneCell'=true)→aX β L (List.replicate n .bQ) vs
 | [],_,h,_=>by simp at h;subst h;exact .nil
 |v::vs,n,h,h1=>by
  cases n with
  |zero=>simp at h
  |succ n=>
   rw[List.replicate_succ]
   exact aX.iI (h1 v (by simp)) (BG (by simpa using h) fun u hu=>h1 u (by simp[hu]))
theorem Ty.kH {β:Env} {L:Nat→Option Kd} {pm:Bool}: ∀ (t:Ty) {x:t.D} {vs:List Value},t.has β pm x vs→aX β L (t.BF pm x) vs
 | .int _,_,_,h=>by simp only[Ty.has] at h;subst h;exact aX.iI rfl .nil
 | .bool,_,_,h=>by simp only[Ty.has] at h;subst h;exact aX.iI rfl .nil
 | .uK,_,_,h=>by simp only[Ty.has] at h;subst h;exact aX.iI rfl .nil
 | .str,_,_,h=>by simp only[Ty.has] at h;subst h;exact aX.iI rfl .nil
 | .sl _,_,_,h=>by
  simp only[Ty.has] at h;obtain ⟨v,rfl,h1,h2⟩:=h
  exact aX.iI ⟨h1,fun h=>by (cases h),h2⟩ .nil
 | .pair a b,_,_,h=>by
  simp only[Ty.has] at h;obtain ⟨u,w,rfl,h1,h2⟩:=h
  exact (a.kH h1).append (b.kH h2)
 | .arr t n,x,vs,h=>by
  have rr:=h
  simp only[Ty.has] at h;obtain ⟨h1,h2⟩:=h
  simp only[Ty.BF]
  split
  ·rename_i hp
   refine aO.one (R:=SV.gW β L) ⟨h1,?_⟩
   cases pm with
   |true=>exact h2
   |false=>exact h2.imp fun _ _=>t.qA (by simpa using hp)
  ·exact BG (Ty.ez _ rr) (Ty.rq _ rr)
def uM:List SV→Nat→Option (List SV×List SV)
 |l,0=>some ([],l)
 | [],_+1=>none
 | .arr t n x::r,k+1=>
  if n*t.w≤k+1 then (uM r (k+1-n*t.w)).map fun p=>(.arr t n x::p.1,p.2)
  else if t.w≠0∧(k+1)%t.w=0 then some ([.arr t ((k+1)/t.w) (x.take ((k+1)/t.w))],.arr t (n-(k+1)/t.w) (x.drop ((k+1)/t.w))::r)
  else none
 |s::r,k+1=>(uM r k).map fun p=>(s::p.1,p.2)
theorem gA {β:Env} {t:Ty} {pm:Bool} {l:List t.D} {vs:List Value} (h:aO (t.has β pm) l vs) (j:Nat): ∃ v1 v2,vs=v1++v2∧aO (t.has β pm) (l.take j) v1∧aO (t.has β pm) (l.drop j) v2:=by
 rw[← List.take_append_drop j l] at h
 exact h.split
theorem kf {β:Env} {L:Nat→Option Kd}: ∀ (l:List SV) (k:Nat) {a b:List SV} {vs:List Value},uM l k=some (a,b)→aX β L l vs→
  ∃ va vb,vs=va++vb∧va.length=k∧aX β L a va∧aX β L b vb
 |l,0,a,b,vs,h,hd=>by
  have:uM l 0=some ([],l):=by cases l<;>rfl
  rw[this] at h;simp at h;obtain ⟨rfl,rfl⟩:=h
  exact ⟨[],vs,rfl,rfl,.nil,hd⟩
 | [],k+1,a,b,vs,h,_=>by simp[uM] at h
 |s::r,k+1,a,b,vs,h,hd=>by
  have plain:(∀ t n l,s≠ .arr t n l)→ ∃ va vb,vs=va++vb∧va.length=k+1∧aX β L a va∧aX β L b vb:=by
   intro hs
   have h':(uM r k).map (fun p=>(s::p.1,p.2))=some (a,b):=by
    cases s with
    |arr t n l=>exact absurd rfl (hs t n l)
    |_=>exact h
   obtain ⟨⟨a',b'⟩,h1,h2⟩:=Option.map_eq_some_iff.1 h'
   simp at h2;obtain ⟨rfl,rfl⟩:=h2
   cases hd with
   |cons h3 h4=>
    obtain ⟨v,rfl,h5⟩:=SV.jd h3 hs
    obtain ⟨va,vb,rfl,e,h6,h7⟩:=kf r k h1 h4
    exact ⟨v::va,vb,rfl,by simp[e],aX.iI h5 h6,h7⟩
  cases s with
  |arr t n x=>
   simp only[uM] at h
   cases hd with
   |cons h3 h4=>
    rename_i us ws
    have Bb:=SV.gz h3
    simp only[SV.w] at Bb
    split at h
    ·rename_i hle
     obtain ⟨⟨a',b'⟩,h1,h2⟩:=Option.map_eq_some_iff.1 h
     simp at h2;obtain ⟨rfl,rfl⟩:=h2
     obtain ⟨va,vb,rfl,e,h6,h7⟩:=kf r (k+1-n*t.w) h1 h4
     exact ⟨us++va,vb,by simp,by simp[Bb,e];omega,.cons h3 h6,h7⟩
    ·rename_i fD
     split at h
     ·rename_i hw
      simp at h;obtain ⟨rfl,rfl⟩:=h
      obtain ⟨h5,h6⟩:=h3
      obtain ⟨v1,v2,rfl,h7,h8⟩:=gA h6 ((k+1)/t.w)
      have hdiv:(k+1)/t.w*t.w=k+1:=Nat.div_mul_cancel (Nat.dvd_of_mod_eq_zero hw.2)
      have aqZ:(k+1)/t.w<n:=Nat.lt_of_not_le fun hle=>fD (by
       have:=Nat.mul_le_mul_right t.w hle
       omega)
      have hl1:(x.take ((k+1)/t.w)).length=(k+1)/t.w:=by simp;omega
      refine ⟨v1,v2++ws,by simp,by rw[a8 h7,hl1,hdiv],aO.one (R:=SV.gW β L) ⟨hl1,h7⟩,.cons (R:=SV.gW β L) ⟨by simp;omega,h8⟩ h4⟩
     ·simp at h
  |_=>exact plain (by intros;simp)
def Qs (l:List SV) (off m:Nat):Option (List SV):=
 match uM l off with
 |some (_,b)=>(uM b m).map (·.1)
 |none=>none
theorem oV {β:Env} {L:Nat→Option Kd} {l:List SV} {off m:Nat} {s:List SV} {vs:List Value} (h:Qs l off m=some s) (hd:aX β L l vs):
  ∃ pre mid post,vs=pre++(mid++post)∧pre.length=off∧mid.length=m∧aX β L s mid:=by
 unfold Qs at h;split at h
 ·rename_i a b hc
  obtain ⟨⟨x,y⟩,h1,rfl⟩:=Option.map_eq_some_iff.1 h
  obtain ⟨va,vb,rfl,e1,h2,h3⟩:=kf _ _ hc hd
  obtain ⟨vc,ve,rfl,e2,h4,h5⟩:=kf _ _ h1 h3
  exact ⟨va,vc,ve,rfl,e1,e2,h4⟩
 ·cases h
def wm:List SV→Nat→Option SV
 | [],_=>none
 | .arr t n x::r,off=>
  if off<n*t.w then
   (if t.w=1 then match t.BF true (x.getD off t.z) with| [.arr _ _ _]=>none| [s]=>some s|_=>none
    else if (t.BF true (x.getD (off/t.w) t.z)).all (fun s=>match s with| .arr _ _ _=>false|_=>true) then (t.BF true (x.getD (off/t.w) t.z))[off%t.w]? else none)
  else wm r (off-n*t.w)
 |s::_,0=>some s
 |_::r,off+1=>wm r off
theorem ia {β:Env} {t:Ty} {pm:Bool} {l:List t.D} {vs:List Value} (h:aO (t.has β pm) l vs) {j:Nat} (hj:j<l.length):
  ∃ a u b,vs=a++(u++b)∧a.length=j*t.w∧t.has β pm (l.getD j t.z) u∧aO (t.has β pm) (l.take j) a∧aO (t.has β pm) (l.drop (j+1)) b:=by
 have e:l[j]? =some (l.getD j t.z):=by simp[List.getD,hj]
 obtain ⟨a,u,b,rfl,h1,h2,h3⟩:=h.get e
 exact ⟨a,u,b,rfl,by rw[a8 h2,List.length_take,Nat.min_eq_left (Nat.le_of_lt hj)],h1,h2,h3⟩
theorem nC {β:Env} {L:Nat→Option Kd}: ∀ {l:List SV} {vs:List Value} {i:Nat} {s:SV},l.all (fun s=>match s with| .arr _ _ _=>false|_=>true)=true→aX β L l vs→l[i]? =some s→ ∃ v,vs[i]? =some v∧s.den β L v
 | [],_,_,_,_,_,h=>by simp at h
 |x::l,_,i,s,ha,.cons h1 h2,h=>by
  simp only[List.all_cons,Bool.and_eq_true] at ha
  obtain ⟨v,rfl,hv⟩:=SV.jd h1 (fun t n l e=>by subst e;simp at ha)
  cases i with
  |zero=>simp at h;subst h;exact ⟨v,by simp,hv⟩
  |succ i=>
   simp at h
   obtain ⟨u,h3,h4⟩:=nC ha.2 h2 h
   exact ⟨u,by simpa using h3,h4⟩
theorem nD {β:Env} {L:Nat→Option Kd}: ∀ (l:List SV) (off:Nat) {s:SV} {vs:List Value},wm l off=some s→aX β L l vs→ ∃ v,vs[off]? =some v∧s.den β L v
 | [],_,_,_,h,_=>by simp[wm] at h
 |x::r,off,s,vs,h,hd=>by
  have plain:(∀ t n l,x≠ .arr t n l)→ ∃ v,vs[off]? =some v∧s.den β L v:=by
   intro hs
   cases hd with
   |cons h1 h2=>
    obtain ⟨v,rfl,h3⟩:=SV.jd h1 hs
    cases off with
    |zero=>
     have:s=x:=by
      cases x with
      |arr t n l=>exact absurd rfl (hs t n l)
      |_=>simp[wm] at h;exact h.symm
     subst this
     exact ⟨v,rfl,h3⟩
    |succ off=>
     have:wm r off=some s:=by
      cases x with
      |arr t n l=>exact absurd rfl (hs t n l)
      |_=>exact h
     obtain ⟨u,h4,h5⟩:=nD r off this h2
     exact ⟨u,by simpa using h4,h5⟩
  cases x with
  |arr t n x=>
   have h':(if off<n*t.w then
   (if t.w=1 then match t.BF true (x.getD off t.z) with| [.arr _ _ _]=>none| [s]=>some s|_=>none
    else if (t.BF true (x.getD (off/t.w) t.z)).all (fun s=>match s with| .arr _ _ _=>false|_=>true) then (t.BF true (x.getD (off/t.w) t.z))[off%t.w]? else none)
  else wm r (off-n*t.w))=some s:=by
    cases off<;>exact h
   clear h
   cases hd with
   |cons h1 h2=>
    rename_i us ws
    have Bb:=SV.gz h1
    simp only[SV.w] at Bb
    obtain ⟨h3,h4⟩:=h1
    split at h'
    ·rename_i fD
     split at h'
     ·rename_i hw
      have hj:off<x.length:=by rw[h3];rw[hw] at fD;omega
      obtain ⟨a,u,b,rfl,e1,h5,_⟩:=ia h4 hj
      have h6:=t.kH (L:=L) h5
      rw[hw,Nat.mul_one] at e1
      split at h'
      ·cases h'
      ·rename_i s' _ hse
       simp at h';subst h'
       rw[hse] at h6
       obtain ⟨v,rfl,h7⟩:=SV.jd (aO.jc h6) (by assumption)
       exact ⟨v,by rw[← e1];simp,h7⟩
      ·cases h'
     ·split at h'
      ·rename_i hw rr
       have ib:0<t.w:=by rcases Nat.eq_zero_or_pos t.w with e|e
                         · rw[e] at fD;omega
                         · exact e
       have hj:off/t.w<x.length:=by rw[h3];exact (Nat.div_lt_iff_lt_mul ib).2 fD
       obtain ⟨a,u,b,rfl,e1,h5,_⟩:=ia h4 hj
       obtain ⟨v,h7,h8⟩:=nC rr (t.kH (L:=L) h5) h'
       refine ⟨v,?_,h8⟩
       have hm:off=a.length+off%t.w:=by rw[e1,Nat.mul_comm];exact (Nat.div_add_mod off t.w).symm
       have amU:=(List.getElem?_eq_some_iff.1 h7).1
       rw[hm,List.append_assoc,List.getElem?_append_right (by omega),Nat.add_sub_cancel_left,List.append_assoc,List.getElem?_append_left amU]
       exact h7
      ·cases h'
    ·rename_i hge
     obtain ⟨v,h5,h6⟩:=nD r (off-n*t.w) h' h2
     exact ⟨v,by rw[List.getElem?_append_right (by omega),Bb];exact h5,h6⟩
  |_=>exact plain (by intros;simp)
def cV {α:Type} (f:List SV→Option α) (w:Nat):Nat→List SV→Option (List α)
 |0,[]=>some []
 |0,_::_=>none
 |n+1,l=>match uM l w with
  |some (a,b)=>match f a,cV f w n b with
   |some x,some m=>some (x::m)
   |_,_=>none
  |none=>none
theorem fE {β:Env} {L:Nat→Option Kd} {α:Type} {R:α→List Value→Prop} {f:List SV→Option α} {w:Nat} (hf: ∀ a x vs,f a=some x→aX β L a vs→R x vs):
  ∀ (n:Nat) {l:List SV} {m:List α} {vs:List Value},cV f w n l=some m→aX β L l vs→aO R m vs∧m.length=n
 |0,[],m,vs,h,hd=>by simp[cV] at h;subst h;cases hd;exact ⟨.nil,rfl⟩
 |0,_::_,_,_,h,_=>by simp[cV] at h
 |n+1,l,m,vs,h,hd=>by
  simp only[cV] at h
  split at h
  ·rename_i a b hc
   split at h
   ·rename_i x m' h1 h2
    simp at h;subst h
    obtain ⟨va,vb,rfl,_,h3,h4⟩:=kf _ _ hc hd
    obtain ⟨h5,h6⟩:=fE hf n h2 h4
    exact ⟨.cons (hf _ _ _ h1 h3) h5,by simp[h6]⟩
   ·cases h
  ·cases h
def kg (s:ByteArray):List Int:=s.data.toList.map fun x=>(x.toNat:Int)
theorem e9 (s:ByteArray):strOf (kg s)=s:=by
 unfold strOf kg
 rw[List.map_map]
 have:((fun n:Int=>UInt8.ofNat n.toNat)∘fun x:UInt8=>(x.toNat:Int))=id:=by
  funext x;simp
 rw[this]
 simp
theorem qB (l:List Int):(strOf l).size=l.length:=by unfold strOf;show Array.size _=_;simp
def Ty.read (pm:Bool):(t:Ty)→List SV→Option t.D
 | .int k,l=>match l with
  | [.int k' n]=>if k'=k then some n.val else none
  |_=>none
 | .bool,l=>match l with
  | [.bool b]=>some b.val
  |_=>none
 | .uK,l=>match l with
  | [.uK n]=>some n
  |_=>none
 | .str,l=>match l with
  | [.str s]=>some s
  | [.gH (.string s)]=>some (kg s)
  |_=>none
 | .sl t,l=>match l with
  | [.rd j7 _ t' m]=>if h:t'=t then (if j7|| !pm then some (h▸m) else none) else none
  | [.gH (.slice none 0 0)]=>some []
  |_=>none
 | .pair a b,l=>match uM l a.w with
  |some (x,y)=>match a.read pm x,b.read pm y with
   |some u,some v=>some (u,v)
   |_,_=>none
  |none=>none
 | .arr t n,l=>match l with
  | [.arr t' n' m]=>if h:t'=t then (if n'=n then some (h▸m) else none) else none
  |l=>cV (t.read pm) t.w n l
theorem Ty.fx {β:Env} {L:Nat→Option Kd} {pm:Bool}: ∀ (t:Ty) {l:List SV} {x:t.D} {vs:List Value},t.read pm l=some x→aX β L l vs→t.has β pm x vs
 | .int k,l,x,vs,h,hd=>by
  simp only[Ty.read] at h
  split at h
  ·split at h
   ·rename_i hk;simp at h;subst h hk
    obtain ⟨v,rfl,rfl⟩:=aO.jc hd;rfl
   ·cases h
  ·cases h
 | .bool,l,x,vs,h,hd=>by
  simp only[Ty.read] at h
  split at h
  ·simp at h;subst h
   obtain ⟨v,rfl,rfl⟩:=aO.jc hd;rfl
  ·cases h
 | .uK,l,x,vs,h,hd=>by
  simp only[Ty.read] at h
  split at h
  ·simp at h;subst h
   obtain ⟨v,rfl,rfl⟩:=aO.jc hd;rfl
  ·cases h
 | .str,l,x,vs,h,hd=>by
  simp only[Ty.read] at h
  split at h
  ·simp at h;subst h
   obtain ⟨v,rfl,rfl⟩:=aO.jc hd;rfl
  ·simp at h;subst h
   obtain ⟨v,rfl,_,rfl⟩:=aO.jc hd
   simp only[Ty.has];rw[e9]
  ·cases h
 | .sl t,l,x,vs,h,hd=>by
  simp only[Ty.read] at h
  split at h
  ·rename_i j7 nn t' m
   split at h
   ·rename_i ht;subst ht
    split at h
    ·rename_i hp;simp at h;subst h
     obtain ⟨v,rfl,h1,_,h2⟩:=aO.jc hd
     refine ⟨v,rfl,h1,?_⟩
     cases j7
     ·simp at hp;subst hp;exact h2
     ·exact h2.Qr
    ·cases h
   ·cases h
  ·simp at h;subst h
   obtain ⟨v,rfl,h1,rfl⟩:=aO.jc hd
   exact ⟨_,rfl,h1,.inr (.inr ⟨rfl,rfl⟩)⟩
  ·cases h
 | .pair a b,l,x,vs,h,hd=>by
  simp only[Ty.read] at h
  split at h
  ·rename_i u w hc
   split at h
   ·rename_i x1 x2 h1 h2
    simp at h;subst h
    obtain ⟨va,vb,rfl,_,h3,h4⟩:=kf _ _ hc hd
    exact ⟨va,vb,rfl,a.fx h1 h3,b.fx h2 h4⟩
   ·cases h
  ·cases h
 | .arr t n,l,x,vs,h,hd=>by
  simp only[Ty.read] at h
  split at h
  ·rename_i t' n' m
   split at h
   ·rename_i ht;subst ht
    split at h
    ·rename_i hn;simp at h;subst h hn
     obtain ⟨h1,h2⟩:=aO.jc hd
     exact ⟨h1,h2.imp fun _ _=>t'.nA⟩
    ·cases h
   ·cases h
  ·obtain ⟨h1,h2⟩:=fE (R:=t.has β pm) (fun a x vs h hd=>t.fx h hd) n h hd
   exact ⟨h2,h1⟩
def qC (l:List SV) (off:Nat) (new:List SV):Option (List SV):=
 match uM l off with
 |some (a,b)=>(uM b (wL new)).map fun p=>a++new++p.2
 |none=>none
def Gv:List SV→Nat→List SV→Option (List SV)
 | [],off,new=>qC [] off new
 | .arr t n x::r,off,new=>
  if n*t.w≤off then (Gv r (off-n*t.w) new).map (.arr t n x:: ·)
  else match (if t.w≠0∧off%t.w=0∧wL new=t.w then t.read true new else none) with
   |some y=>some (.arr t n (x.set (off/t.w) y)::r)
   |none=>qC (.arr t n x::r) off new
 |s::r,0,new=>qC (s::r) 0 new
 |s::r,off+1,new=>(Gv r off new).map (s:: ·)
def N7 (β:Env) (L:Nat→Option Kd) (l l':List SV) (off:Nat) (new:List SV):Prop:=
 ∀ vs ws,aX β L l vs→aX β L new ws→ ∃ pre old post,vs=pre++(old++post)∧pre.length=off∧old.length=ws.length∧aX β L l' (pre++(ws++post))
theorem oW {β:Env} {L:Nat→Option Kd} {l l':List SV} {off:Nat} {new:List SV} (h:qC l off new=some l'):N7 β L l l' off new:=by
 intro vs ws hd hn
 unfold qC at h;split at h
 ·rename_i a b hc
  obtain ⟨⟨x,y⟩,h1,rfl⟩:=Option.map_eq_some_iff.1 h
  obtain ⟨va,vb,rfl,e1,h2,h3⟩:=kf _ _ hc hd
  obtain ⟨vc,ve,rfl,e2,h4,h5⟩:=kf _ _ h1 h3
  refine ⟨va,vc,ve,rfl,e1,by rw[e2,hn.length],?_⟩
  rw[List.append_assoc]
  exact h2.append (hn.append h5)
 ·cases h
theorem ru {β:Env} {L:Nat→Option Kd}: ∀ (l:List SV) (off:Nat) {new l':List SV},Gv l off new=some l'→N7 β L l l' off new
 | [],off,new,l',h=>oW h
 |s::r,off,new,l',h=>by
  have plain:(∀ t n l,s≠ .arr t n l)→N7 β L (s::r) l' off new:=by
   intro hs
   cases off with
   |zero=>
    refine oW ?_
    cases s with
    |arr t n l=>exact absurd rfl (hs t n l)
    |_=>exact h
   |succ off=>
    have h':(Gv r off new).map (s:: ·)=some l':=by
     cases s with
     |arr t n l=>exact absurd rfl (hs t n l)
     |_=>exact h
    obtain ⟨r',h1,rfl⟩:=Option.map_eq_some_iff.1 h'
    intro vs ws hd hn
    cases hd with
    |cons h2 h3=>
     obtain ⟨v,rfl,h4⟩:=SV.jd h2 hs
     obtain ⟨pre,old,post,rfl,e1,e2,h5⟩:=ru r off h1 _ _ h3 hn
     exact ⟨v::pre,old,post,rfl,by simp[e1],e2,aX.iI h4 h5⟩
  cases s with
  |arr t n x=>
   have h':(if n*t.w≤off then (Gv r (off-n*t.w) new).map (.arr t n x:: ·)
    else match (if t.w≠0∧off%t.w=0∧wL new=t.w then t.read true new else none) with
     |some y=>some (.arr t n (x.set (off/t.w) y)::r)
     |none=>qC (.arr t n x::r) off new)=some l':=by
    cases off<;>exact h
   clear h
   split at h'
   ·rename_i hle
    obtain ⟨r',h1,rfl⟩:=Option.map_eq_some_iff.1 h'
    intro vs ws hd hn
    cases hd with
    |cons h2 h3=>
     rename_i us vs
     have Bb:=SV.gz h2
     simp only[SV.w] at Bb
     obtain ⟨pre,old,post,rfl,e1,e2,h5⟩:=ru r _ h1 _ _ h3 hn
     refine ⟨us++pre,old,post,by simp,by simp[Bb,e1];omega,e2,?_⟩
     rw[List.append_assoc]
     exact .cons h2 h5
   ·rename_i fD
    split at h'
    ·rename_i y hy
     split at hy
     ·rename_i hw
      simp at h';subst h'
      intro vs ws hd hn
      cases hd with
      |cons h2 h3=>
       rename_i us vs
       obtain ⟨h4,h5⟩:=h2
       have hj:off/t.w<x.length:=by
        rw[h4]
        exact (Nat.div_lt_iff_lt_mul (by omega)).2 (by omega)
       obtain ⟨a,u,b,rfl,e1,h6,h7,h8⟩:=ia h5 hj
       have Gw:=t.fx hy hn
       refine ⟨a,u,b++vs,by simp,?_,by rw[t.ez h6,t.ez Gw],?_⟩
       ·rw[e1];exact Nat.div_mul_cancel (Nat.dvd_of_mod_eq_zero hw.2.1)
       ·have h9:aO (t.has β true) (x.set (off/t.w) y) (a++(ws++b)):=aO.J0 hj Gw h7 h8
        have Gp:=aO.cons (R:=SV.gW β L) (x:= .arr t n (x.set (off/t.w) y)) ⟨by simpa using h4,h9⟩ h3
        simpa using Gp
     ·cases hy
    ·exact oW h'
  |_=>exact plain (by intros;simp)
theorem bH (b off k:Nat):(⟨b,off,none⟩:Addr).add k=⟨b,off+k,none⟩:=by
 unfold Addr.add;split
 ·rename_i e;subst e;simp
 ·rfl
theorem add_add {a:Addr} (h:a.spot=none) (i j:Nat):(a.add i).add j=a.add (i+j):=by
 obtain ⟨b,o,s⟩:=a
 simp at h;subst h
 rw[bH,bH,bH,Nat.add_assoc]
theorem lf {a:Addr} (h:a.spot=none) (i:Nat):(a.add i).spot=none:=by
 obtain ⟨b,o,s⟩:=a
 simp at h;subst h
 rw[bH]
theorem cK.mid {w:World} {a:Addr} (hs:a.spot=none) {pre mid post:List Value} (h:cK w a (pre++(mid++post))):cK w (a.add pre.length) mid:=by
 intro i u hu
 rw[add_add hs]
 refine h _ u ?_
 rw[List.getElem?_append_right (by omega),Nat.add_sub_cancel_left,List.getElem?_append_left (List.getElem?_eq_some_iff.1 hu).1]
 exact hu
theorem dJ {w:World} {b:Nat} {pre mid post:List Value} {elem:TypeId} {fz:Nat×Nat} (h:w.heap[b]? =some (.cells (pre++(mid++post)).toArray elem fz)):cK w ⟨b,pre.length,none⟩ mid:=by
 intro i u hu
 rw[bH]
 simp only[World.cell?,h]
 have fD:=(List.getElem?_eq_some_iff.1 hu).1
 simp only[Option.isSome_none,Bool.false_eq_true,if_false,List.getElem?_toArray]
 rw[List.getElem?_append_right (by omega),Nat.add_sub_cancel_left,List.getElem?_append_left fD]
 exact hu
theorem kh {P:Program} {w:World} {a:Addr} {vs:List Value} (h:cK w a vs):(loadCells a vs.length).run P w= .ok vs.toArray w:=
 run_loadCells_list w a vs h
theorem c8 {P:Program} {a:Addr} (hs:a.spot=none) {elem:TypeId} {fz:Nat×Nat}: ∀ (ws:List Value) (k:Nat) (pre old post:List Value) (w:World),w.heap[a.block]? =some (.cells (pre++(old++post)).toArray elem fz)→pre.length=a.off+k→old.length=ws.length→
  (∀ v∈ws,v.oneCell'=true)→(∀ off,pre.length≤off→off<pre.length+ws.length→ ¬ (fz.1≤off∧off<fz.2))→
  ∃ w',(storeCells a ws k).run P w= .ok () w'∧w'.heap[a.block]? =some (.cells (pre++(ws++post)).toArray elem fz)∧(∀ b,b≠a.block→w'.heap[b]? =w.heap[b]?)∧w'.heap.size=w.heap.size∧w'.os=w.os∧w'.output=w.output
 | [],k,pre,old,post,w,h,_,hl,_,_=>by
  have:old= []:=List.eq_nil_of_length_eq_zero (by simpa using hl)
  subst this
  exact ⟨w,rfl,h,fun _ _=>rfl,rfl,rfl,rfl⟩
 |v::ws,k,pre,old,post,w,h,hp,hl,h1,hf=>by
  cases old with
  |nil=>simp at hl
  |cons o old=>
   obtain ⟨b,of,s⟩:=a
   simp at hs;subst hs
   simp only at h hp hl ⊢
   have amV:(⟨b,of,none⟩:Addr).add k=⟨b,pre.length,none⟩:=by rw[bH];congr 1;exact hp.symm
   have hc:w.cell? ⟨b,pre.length,none⟩=some o:=by
    simp only[World.cell?,h]
    simp
   have hfz:w.frozen? ⟨b,pre.length,none⟩=false:=by
    simp only[World.frozen?,h]
    have:=hf pre.length (Nat.le_refl _) (by simp)
    simpa using this
   have ns:(w.setCell ⟨b,pre.length,none⟩ v).heap[b]? =some (.cells ((pre++ [v])++(old++post)).toArray elem fz):=by
    simp only[World.setCell,Array.getElem?_modify,h]
    simp
   obtain ⟨w',e1,e2,e3,e4,e5,e6⟩:=c8 (P:=P) (a:=⟨b,of,none⟩) rfl (elem:=elem) (fz:=fz) ws (k+1) (pre++ [v]) old post (w.setCell ⟨b,pre.length,none⟩ v) ns (by simp;omega) (by simpa using hl) (fun u hu=>h1 u (by simp[hu]))
    (fun off k1 k2=>hf off (by simp at k1;omega) (by simp at k2 ⊢;omega))
   refine ⟨w',?_,by simpa using e2,fun c qD=>?_,?_,?_,?_⟩
   ·simp only[storeCells,Sem.run_bind,amV,run_store P w _ v _ (h1 v (by simp)),hc,hfz]
    simpa using e1
   ·rw[e3 c qD];exact heap_setCell_other w _ c v qD
   ·rw[e4];simp
   ·rw[e5];rfl
   ·rw[e6];rfl
end Go.Ev
end
section
set_option linter.unusedVariables false
set_option linter.unusedSimpArgs false
namespace Go.Ev
open Go
def map2 (f:Int→Int→Int):SI→SI→SI
 | .lit a,.lit b=> .lit (f a b)
 |a,b=> .sym (f a.val b.val)
def map2B (f:Int→Int→Bool):SI→SI→SB
 | .lit a,.lit b=> .lit (f a b)
 |a,b=> .sym (f a.val b.val)
@[simp] theorem map2_val (f:Int→Int→Int) (a b:SI):(map2 f a b).val=f a.val b.val:=by cases a<;>cases b<;>rfl
@[simp] theorem map2B_val (f:Int→Int→Bool) (a b:SI):(map2B f a b).val=f a.val b.val:=by cases a<;>cases b<;>rfl
def bp (k:IntKind) (x y:Int):Int:=k.wrap (BitVec.ofInt k.bits x&&& BitVec.ofInt k.bits y).toNat
def bm (k:IntKind) (x y:Int):Int:=k.wrap (BitVec.ofInt k.bits x|||BitVec.ofInt k.bits y).toNat
def c9 (k:IntKind) (x y:Int):Int:=k.wrap (BitVec.ofInt k.bits x ^^^ BitVec.ofInt k.bits y).toNat
def fa (k:IntKind) (x y:Int):Int:=k.wrap (BitVec.ofInt k.bits x&&& ~~~BitVec.ofInt k.bits y).toNat
def shl (k:IntKind) (x y:Int):Int:=k.wrap (x*2 ^ (min y.toNat k.bits))
def shr (k:IntKind) (x y:Int):Int:=x.fdiv (2 ^ (min y.toNat k.bits))
def TV (op:BinOp) (k:IntKind) (a:SI) (b:SI):Option (Option Prop×SV):=
 match op with
 | .add=>some (none,.int k (map2 (fun x y=>k.wrap (x+y)) a b))
 | .sub=>some (none,.int k (map2 (fun x y=>k.wrap (x-y)) a b))
 | .mul=>some (none,.int k (map2 (fun x y=>k.wrap (x*y)) a b))
 | .quo=>match b with
  | .lit y=>if y=0 then none else some (none,.int k (map2 (fun x y=>k.wrap (x.tdiv y)) a b))
  | .sym y=>some (some (y≠0),.int k (map2 (fun x y=>k.wrap (x.tdiv y)) a b))
 | .rem=>match b with
  | .lit y=>if y=0 then none else some (none,.int k (map2 (fun x y=>x.tmod y) a b))
  | .sym y=>some (some (y≠0),.int k (map2 (fun x y=>x.tmod y) a b))
 | .and=>some (none,.int k (map2 (bp k) a b))
 | .or=>some (none,.int k (map2 (bm k) a b))
 | .xor=>some (none,.int k (map2 (c9 k) a b))
 | .andNot=>some (none,.int k (map2 (fa k) a b))
 | .eql=>some (none,.bool (map2B (fun x y=>x==y) a b))
 | .neq=>some (none,.bool (map2B (fun x y=>x !=y) a b))
 | .lss=>some (none,.bool (map2B (fun x y=>decide (x<y)) a b))
 | .leq=>some (none,.bool (map2B (fun x y=>decide (x≤y)) a b))
 | .gtr=>some (none,.bool (map2B (fun x y=>decide (x>y)) a b))
 | .geq=>some (none,.bool (map2B (fun x y=>decide (x≥y)) a b))
 |_=>none
def rv (f:Int→Int→Int) (k:IntKind) (a b:SI):Option (Option Prop×SV):=
 match b with
 | .lit y=>if y<0 then none else some (none,.int k (map2 f a b))
 | .sym y=>some (some (0≤y),.int k (map2 f a b))
def TW (P:Program) (op:BinOp) (t:TypeId):SV→SV→Option (Option Prop×SV)
 | .int k a,.int k' b=>
  match op with
  | .shl=>rv (shl k) k a b
  | .shr=>rv (shr k) k a b
  |_=>if k=k' then TV op k a b else none
 | .bool a,.bool b=>
  match op,P.underlying t with
  | .eql,some .bool=>some (none,.bool (match a,b with| .lit x,.lit y=> .lit (x==y)|a,b=> .sym (a.val==b.val)))
  | .neq,some .bool=>some (none,.bool (match a,b with| .lit x,.lit y=> .lit (!(x==y))|a,b=> .sym (!(a.val==b.val))))
  |_,_=>none
 | .ptr _ _,.gH (.pointer none)=>
  match op,P.underlying t with
  | .eql,some (.pointer _)=>some (none,.bool (.lit false))
  | .neq,some (.pointer _)=>some (none,.bool (.lit true))
  |_,_=>none
 | .gH (.pointer none),.gH (.pointer none)=>
  match op,P.underlying t with
  | .eql,some (.pointer _)=>some (none,.bool (.lit true))
  | .neq,some (.pointer _)=>some (none,.bool (.lit false))
  |_,_=>none
 | .slice _ _ _ _,.gH (.slice none _ _)=>
  match op,P.underlying t with
  | .eql,some (.slice _)=>some (none,.bool (.lit false))
  | .neq,some (.slice _)=>some (none,.bool (.lit true))
  |_,_=>none
 | .gH (.slice none _ _),.gH (.slice none _ _)=>
  match op,P.underlying t with
  | .eql,some (.slice _)=>some (none,.bool (.lit true))
  | .neq,some (.slice _)=>some (none,.bool (.lit false))
  |_,_=>none
 |_,_=>none
def ef:Option Prop→Prop
 |none=>True
 |some p=>p
theorem cL {P:Program} {w:World} {op:BinOp} {t:TypeId} {x y:Operand} {a b:Value}
  (ha: ∀ c,a≠ .agg c) (hi:a≠ .nilIface):(eqGuard op t x y a b).run P w= .ok () w:=by
 unfold eqGuard
 cases op<;>first
  |rfl
  |(cases a<;>first
    |(exact absurd rfl (ha _))
    |(exact absurd rfl hi)
    |(cases b<;>rfl))
theorem gJ {P:Program} {w:World} {t:TypeId} {x y:Value} {b:Bool} (h: ∀ d,(Op.equalIn (d+1) t x y).run P w= .ok b w):(Op.equal t x y).run P w= .ok b w:=h 9999
section
variable {P:Program} {w:World} {t:TypeId}
theorem N8 {a b:Bool} (hu:P.underlying t=some .bool):(Op.equal t (.bool a) (.bool b)).run P w= .ok (a==b) w:=
 gJ fun d=>by simp[Op.equalIn,run_underlying hu]
theorem xZ {e:TypeId} {p:Addr} (hu:P.underlying t=some (.pointer e)):(Op.equal t (.pointer (some p)) (.pointer none)).run P w= .ok false w:=
 gJ fun d=>by simp[Op.equalIn,run_underlying hu]
theorem x6 {e:TypeId} (hu:P.underlying t=some (.pointer e)):(Op.equal t (.pointer none) (.pointer none)).run P w= .ok true w:=
 gJ fun d=>by simp[Op.equalIn,run_underlying hu]
theorem jo {e:TypeId} {p:Addr} {l c l' c':Nat} (hu:P.underlying t=some (.slice e)):(Op.equal t (.slice (some p) l c) (.slice none l' c')).run P w= .ok false w:=
 gJ fun d=>by simp[Op.equalIn,run_underlying hu]
theorem N9 {e:TypeId} {l c l' c':Nat} (hu:P.underlying t=some (.slice e)):(Op.equal t (.slice none l c) (.slice none l' c')).run P w= .ok true w:=
 gJ fun d=>by simp[Op.equalIn,run_underlying hu]
theorem oX {x y:Value} {b:Bool} (hx:binOp .eql t x y=(do pure (.bool (← Op.equal t x y)))) (h:(Op.equal t x y).run P w= .ok b w):(binOp .eql t x y).run P w= .ok (.bool b) w:=by
 rw[hx,Sem.run_bind,h];rfl
theorem oY {x y:Value} {b:Bool} (hx:binOp .neq t x y=(do pure (.bool (!(← Op.equal t x y))))) (h:(Op.equal t x y).run P w= .ok b w):(binOp .neq t x y).run P w= .ok (.bool (!b)) w:=by
 rw[hx,Sem.run_bind,h];rfl
end
theorem afG {P:Program} {w:World} {op:BinOp} {t:TypeId} {k:IntKind} {a b:SI} {β:Env} {L:Nat→Option Kd} {q:Option Prop} {s:SV}
  (h:TV op k a b=some (q,s)) (hq:ef q):
  ∃ v,(binOp op t (.int k a.val) (.int k b.val)).run P w= .ok v w∧s.den β L v:=by
 cases op<;>simp only[TV] at h<;>try (simp at h;done)
 case quo=>
  cases b with
  |lit y=>simp only at h;split at h
          · simp at h
          · rename_i hy;simp at h;obtain ⟨_,rfl⟩:=h
            exact ⟨_,by simp[binOp,Op.intDiv,SI.val,hy];rfl,by simp only[SV.den,map2_val];rfl⟩
  |sym y=>simp at h;obtain ⟨rfl,rfl⟩:=h
          have hy: ¬ y=0:=hq
          exact ⟨_,by simp[binOp,Op.intDiv,SI.val,hy];rfl,by simp only[SV.den,map2_val];rfl⟩
 case rem=>
  cases b with
  |lit y=>simp only at h;split at h
          · simp at h
          · rename_i hy;simp at h;obtain ⟨_,rfl⟩:=h
            exact ⟨_,by simp[binOp,Op.intDiv,SI.val,hy];rfl,by simp only[SV.den,map2_val];rfl⟩
  |sym y=>simp at h;obtain ⟨rfl,rfl⟩:=h
          have hy: ¬ y=0:=hq
          exact ⟨_,by simp[binOp,Op.intDiv,SI.val,hy];rfl,by simp only[SV.den,map2_val];rfl⟩
 all_goals
  simp at h;obtain ⟨_,rfl⟩:=h
  exact ⟨_,by simp[binOp,Op.intArith,Op.intBits,Op.intCmp];rfl,by simp[SV.den,bp,bm,c9,fa]⟩
theorem Gx {P:Program} {w:World} {op:BinOp} {t:TypeId} {k k':IntKind} {a b:SI} {β:Env} {L:Nat→Option Kd} {q:Option Prop} {s:SV} {f:Int→Int→Int}
  (hop:(op= .shl∧f=shl k)∨(op= .shr∧f=shr k)) (h:rv f k a b=some (q,s)) (hq:ef q):
  ∃ v,(binOp op t (.int k a.val) (.int k' b.val)).run P w= .ok v w∧s.den β L v:=by
 have key:0≤b.val→ ∃ v,(binOp op t (.int k a.val) (.int k' b.val)).run P w= .ok v w∧(SV.int k (map2 f a b)).den β L v:=by
  intro hb
  have j8: ¬ b.val<0:=by omega
  rcases hop with ⟨rfl,rfl⟩|⟨rfl,rfl⟩
  ·exact ⟨_,by simp[binOp,Op.shift,j8];rfl,by simp[SV.den,shl]⟩
  ·exact ⟨_,by simp[binOp,Op.shift,j8];rfl,by simp[SV.den,shr]⟩
 cases b with
 |lit y=>
  simp only[rv] at h
  split at h
  ·simp at h
  ·simp at h;obtain ⟨_,rfl⟩:=h;exact key (by simp only[SI.val];omega)
 |sym y=>
  simp only[rv] at h
  simp at h;obtain ⟨rfl,rfl⟩:=h
  exact key hq
theorem afH {P:Program} {w:World} {op:BinOp} {t:TypeId} {ox oy:Operand} {x y:SV} {xv yv:Value} {β:Env} {L:Nat→Option Kd} {q:Option Prop} {s:SV}
  (h:TW P op t x y=some (q,s)) (hq:ef q) (hx:x.den β L xv) (hy:y.den β L yv):
  ∃ v,(do eqGuard op t ox oy xv yv;binOp op t xv yv:Sem Value).run P w= .ok v w∧s.den β L v:=by
 unfold TW at h
 split at h
 ·
  rename_i k a k' b
  simp only[SV.den] at hx hy
  subst hx hy
  simp only[Sem.run_bind,cL (P:=P) (w:=w) (op:=op) (t:=t) (x:=ox) (y:=oy) (a:= .int k a.val) (b:= .int k' b.val) (by simp) (by simp),Result.andThen_ok]
  split at h
  ·exact Gx (.inl ⟨rfl,rfl⟩) h hq
  ·exact Gx (.inr ⟨rfl,rfl⟩) h hq
  ·split at h
   ·rename_i hk;subst hk;exact afG h hq
   ·simp at h
 ·rename_i a b
  simp only[SV.den] at hx hy
  subst hx hy
  simp only[Sem.run_bind,cL (P:=P) (w:=w) (op:=op) (t:=t) (x:=ox) (y:=oy) (a:= .bool a.val) (b:= .bool b.val) (by simp) (by simp),Result.andThen_ok]
  split at h
  ·rename_i hu
   simp at h;obtain ⟨_,rfl⟩:=h
   exact ⟨.bool (a.val==b.val),oX rfl (N8 hu),by cases a<;>cases b<;>rfl⟩
  ·rename_i hu
   simp at h;obtain ⟨_,rfl⟩:=h
   exact ⟨.bool (!(a.val==b.val)),oY rfl (N8 hu),by cases a<;>cases b<;>rfl⟩
  ·simp at h
 ·rename_i b o
  simp only[SV.den] at hx hy
  obtain ⟨_,rfl⟩:=hx
  obtain ⟨_,rfl⟩:=hy
  simp only[Sem.run_bind,cL (P:=P) (w:=w) (op:=op) (t:=t) (x:=ox) (y:=oy) (a:= .pointer (some ⟨β b,o,none⟩)) (b:= .pointer none) (by simp) (by simp),Result.andThen_ok]
  split at h
  ·rename_i hu
   simp at h;obtain ⟨_,rfl⟩:=h
   exact ⟨.bool false,oX rfl (xZ hu),rfl⟩
  ·rename_i hu
   simp at h;obtain ⟨_,rfl⟩:=h
   exact ⟨.bool true,oY rfl (xZ hu),rfl⟩
  ·simp at h
 ·simp only[SV.den] at hx hy
  obtain ⟨_,rfl⟩:=hx
  obtain ⟨_,rfl⟩:=hy
  simp only[Sem.run_bind,cL (P:=P) (w:=w) (op:=op) (t:=t) (x:=ox) (y:=oy) (a:= .pointer none) (b:= .pointer none) (by simp) (by simp),Result.andThen_ok]
  split at h
  ·rename_i hu
   simp at h;obtain ⟨_,rfl⟩:=h
   exact ⟨.bool true,oX rfl (x6 hu),rfl⟩
  ·rename_i hu
   simp at h;obtain ⟨_,rfl⟩:=h
   exact ⟨.bool false,oY rfl (x6 hu),rfl⟩
  ·simp at h
 ·rename_i b o l c l' c'
  simp only[SV.den] at hx hy
  obtain ⟨_,rfl⟩:=hx
  obtain ⟨_,rfl⟩:=hy
  simp only[Sem.run_bind,cL (P:=P) (w:=w) (op:=op) (t:=t) (x:=ox) (y:=oy) (a:= .slice (some ⟨β b,o,none⟩) l c) (b:= .slice none l' c') (by simp) (by simp),Result.andThen_ok]
  split at h
  ·rename_i hu
   simp at h;obtain ⟨_,rfl⟩:=h
   exact ⟨.bool false,oX rfl (jo hu),rfl⟩
  ·rename_i hu
   simp at h;obtain ⟨_,rfl⟩:=h
   exact ⟨.bool true,oY rfl (jo hu),rfl⟩
  ·simp at h
 ·rename_i l c l' c'
  simp only[SV.den] at hx hy
  obtain ⟨_,rfl⟩:=hx
  obtain ⟨_,rfl⟩:=hy
  simp only[Sem.run_bind,cL (P:=P) (w:=w) (op:=op) (t:=t) (x:=ox) (y:=oy) (a:= .slice none l c) (b:= .slice none l' c') (by simp) (by simp),Result.andThen_ok]
  split at h
  ·rename_i hu
   simp at h;obtain ⟨_,rfl⟩:=h
   exact ⟨.bool true,oX rfl (N9 hu),rfl⟩
  ·rename_i hu
   simp at h;obtain ⟨_,rfl⟩:=h
   exact ⟨.bool false,oY rfl (N9 hu),rfl⟩
  ·simp at h
 ·simp at h
def cX (l m:List Int):Bool:=(strOf l).toList==(strOf m).toList
def nE:SV→Option (List Int)
 | .str l=>some l
 | .gH (.string s)=>some (kg s)
 |_=>none
theorem ic {β:Env} {L:Nat→Option Kd} {s:SV} {l:List Int} {v:Value} (h:nE s=some l) (hd:s.den β L v):v= .string (strOf l):=by
 unfold nE at h;split at h
 ·simp at h;subst h;exact hd
 ·simp at h;subst h
  obtain ⟨_,rfl⟩:=hd
  rw[e9]
 ·cases h
def aet (op:BinOp) (l m:List Int):Option SV:=
 match op with
 | .eql=>some (.bool (.sym (cX l m)))
 | .neq=>some (.bool (.sym (!cX l m)))
 |_=>none
structure JC where
 aZ:Nat→Bool
 own:Nat→Option (Nat×Nat×Nat)
 nl:Nat→Bool
 nr:Nat→Bool
def ry (b:Bool) (J:JC):SV→SV→Option SV
 | .arr t n l,.arr t' n' l'=>if h:t'=t then (if n=n' then some (.arr t n (bif b then l else h▸l')) else none) else none
 |_,_=>none
def BH (b:Bool) (J:JC):SV→SV→SV
 | .int k x,.int k' y=>if k=k' then
   match x,y with
   | .lit x,.lit y=>if x=y then .int k (.lit x) else .int k (.sym (bif b then x else y))
   |x,y=> .int k (.sym (bif b then x.val else y.val))
  else .bQ
 | .bool x,.bool y=>match x,y with
  | .lit x,.lit y=>if x=y then .bool (.lit x) else .bool (.sym (bif b then x else y))
  |x,y=> .bool (.sym (bif b then x.val else y.val))
 | .uK x,.uK y=> .uK (bif b then x else y)
 | .str x,.str y=> .str (bif b then x else y)
 | .str x,.gH (.string y)=> .str (bif b then x else kg y)
 | .gH (.string x),.str y=> .str (bif b then kg x else y)
 | .gH (.string x),.gH (.string y)=>if x.data=y.data then .gH (.string x) else .str (bif b then kg x else kg y)
 | .ptr i o,.ptr i' o'=>if i=i'∧o=o'∧J.aZ i=true then .ptr i o else .bQ
 | .slice i o l c,.slice i' o' l' c'=>if i=i'∧o=o'∧l=l'∧c=c'∧J.aZ i=true then .slice i o l c else .bQ
 | .gH (.pointer none),.gH (.pointer none)=> .gH (.pointer none)
 | .gH (.slice none l c),.gH (.slice none l' c')=>if l=l'∧c=c' then .gH (.slice none l c) else .bQ
 | .gH .nilIface,.gH .nilIface=> .gH .nilIface
 | .gH .nilFunc,.gH .nilFunc=> .gH .nilFunc
 | .rd pm nn t l,.rd j7 nn' t' l'=>if h:t'=t then .rd (pm&&j7) (nn&&nn') t (bif b then l else h▸l') else .bQ
 | .rd pm _ t l,.gH (.slice none 0 0)=> .rd pm false t (bif b then l else [])
 | .gH (.slice none 0 0),.rd pm _ t l=> .rd pm false t (bif b then [] else l)
 | .sl i v,.sl i' v'=>if i=i' then match J.own i with
   |some (vx,vy,vz)=>if v=vx∧v'=vy then .sl i vz else .bQ
   |none=> .bQ
  else .bQ
 | .gH (.slice none 0 0),.sl i v=>match J.own i with
   |some (_,vy,vz)=>if J.nl i=true∧v=vy then .sl i vz else .bQ
   |none=> .bQ
 | .sl i v,.gH (.slice none 0 0)=>match J.own i with
   |some (vx,_,vz)=>if J.nr i=true∧v=vx then .sl i vz else .bQ
   |none=> .bQ
 | .vw i v w z n,.vw i' v' w' z' n'=>if i=i'∧w=w' then match J.own i with
   |some (vx,vy,vz)=>if v=vx∧v'=vy then .vw i vz w (bif b then z else z') (bif b then n else n') else .bQ
   |none=> .bQ
  else .bQ
 | .vb i o t m z n,.vb i' o' t' m' z' n'=>if i=i'∧o=o'∧t=t'∧m=m'∧J.aZ i=true then .vb i o t m (bif b then z else z') (bif b then n else n') else .bQ
 |_,_=> .bQ
def ki (b:Bool) (J:JC):List SV→List SV→Option (List SV)
 | [],[]=>some []
 |x::l,y::r=>match x,y with
  | .arr t n a,y=>match ry b J (.arr t n a) y with
   |some z=>(ki b J l r).map (z:: ·)
   |none=>none
  |_,.arr _ _ _=>none
  |x,y=>(ki b J l r).map (BH b J x y:: ·)
 |_,_=>none
def BI (b:Bool) (J:JC):VV→VV→Option VV
 | .sc x,.sc y=>some (.sc (BH b J x y))
 | .agg l,.agg r=>(ki b J l r).map .agg
 |_,_=>none
def nc (b:Bool) (J:JC):List VV→List VV→Option (List VV)
 | [],[]=>some []
 |x::l,y::r=>match BI b J x y,nc b J l r with
  |some z,some m=>some (z::m)
  |_,_=>none
 |_,_=>none
def Gy (b:Bool) (J:JC):LV→LV→LV
 | .one x,.one y=>match BI b J x y with
  |some z=> .one z
  |none=> .bQ
 | .cD l,.cD r=>match nc b J l r with
  |some z=> .cD z
  |none=> .bQ
 |_,_=> .bQ
structure Gz (J:JC) (β:Env) (L₁ L:Nat→Option Kd):Prop where
 aZ: ∀ i,J.aZ i=true→L₁ i=some .aZ→L i=some .aZ
 own: ∀ i x y z,J.own i=some (x,y,z)→L₁ i=some (.own x)∧L i=some (.own z)
 nil: ∀ i,J.nl i=true→β.h i= .slice none 0 0
structure x7 (J:JC) (β:Env) (L₁ L:Nat→Option Kd):Prop where
 aZ: ∀ i,J.aZ i=true→L₁ i=some .aZ→L i=some .aZ
 own: ∀ i x y z,J.own i=some (x,y,z)→L₁ i=some (.own y)∧L i=some (.own z)
 nil: ∀ i,J.nr i=true→β.h i= .slice none 0 0
theorem x8 {J:JC} {β:Env} {L₁ L:Nat→Option Kd} (hJ:Gz J β L₁ L) {x y:SV} {v:Value} (h:x.den β L₁ v):(BH true J x y).den β L v:=by
 have h1:=SV.bl h
 unfold BH
 split
 ·split
  ·rename_i hk;subst hk
   split
   ·split<;>exact h
   ·exact h
  ·exact h1
 ·split
  ·split<;>exact h
  ·exact h
 ·exact h
 ·exact h
 ·exact h
 ·obtain ⟨_,rfl⟩:=h
  simp only[SV.den,cond_true,e9]
 ·obtain ⟨_,rfl⟩:=h
  split
  ·exact ⟨rfl,rfl⟩
  ·simp only[SV.den,cond_true,e9]
 ·split
  ·rename_i e;exact ⟨hJ.aZ _ e.2.2 h.1,h.2⟩
  ·exact h1
 ·split
  ·rename_i e;exact ⟨hJ.aZ _ e.2.2.2.2 h.1,h.2⟩
  ·exact h1
 ·exact h
 ·split
  ·exact h
  ·exact h1
 ·exact h
 ·exact h
 ·split
  ·rename_i e
   subst e
   obtain ⟨k1,k2,k3⟩:=h
   refine ⟨k1,fun hn=>k2 (by simp at hn;exact hn.1),?_⟩
   rcases k3 with k|⟨rfl,k⟩|k
   ·exact .inl k
   ·exact .inr (.inl ⟨rfl,k⟩)
   ·exact .inr (.inr k)
  ·exact h1
 ·obtain ⟨k1,k2,k3⟩:=h
  exact ⟨k1,fun hn=>(by cases hn),k3⟩
 ·obtain ⟨_,rfl⟩:=h
  exact ⟨rfl,fun hn=>(by cases hn),.inr (.inr ⟨rfl,rfl⟩)⟩
 ·split
  ·rename_i e;subst e
   split
   ·rename_i vx vy vz ho
    split
    ·rename_i e;obtain ⟨rfl,rfl⟩:=e
     obtain ⟨k1,c,k2,k3,k4⟩:=h
     obtain ⟨m1,m2⟩:=hJ.own _ _ _ _ ho
     rw[m1] at k2;simp at k2
     exact ⟨k1,vz,m2,Nat.le_refl _,fun _=>k4 k2⟩
    ·exact h1
   ·exact h1
  ·exact h1
 ·split
  ·rename_i vx vy vz ho
   split
   ·rename_i e
    obtain ⟨m1,m2⟩:=hJ.own _ _ _ _ ho
    obtain ⟨_,rfl⟩:=h
    exact ⟨rfl,vz,m2,Nat.le_refl _,fun _=>(hJ.nil _ e.1).symm⟩
   ·exact h1
  ·exact h1
 ·split
  ·rename_i vx vy vz ho
   split
   ·rename_i e;obtain ⟨_,rfl⟩:=e
    obtain ⟨k1,c,k2,k3,k4⟩:=h
    obtain ⟨m1,m2⟩:=hJ.own _ _ _ _ ho
    rw[m1] at k2;simp at k2
    exact ⟨k1,vz,m2,Nat.le_refl _,fun _=>k4 k2⟩
   ·exact h1
  ·exact h1
 ·split
  ·rename_i e;obtain ⟨rfl,rfl⟩:=e
   split
   ·rename_i vx vy vz ho
    split
    ·rename_i e;obtain ⟨rfl,rfl⟩:=e
     obtain ⟨k1,c,k2,k3,k4⟩:=h
     obtain ⟨m1,m2⟩:=hJ.own _ _ _ _ ho
     rw[m1] at k2;simp at k2
     exact ⟨k1,vz,m2,Nat.le_refl _,fun _=>k4 k2⟩
    ·exact h1
   ·exact h1
  ·exact h1
 ·split
  ·rename_i e
   obtain ⟨k1,k2⟩:=h
   exact ⟨hJ.aZ _ e.2.2.2.2 k1,k2⟩
  ·exact h1
 ·exact h1
theorem wo {J:JC} {β:Env} {L₁ L:Nat→Option Kd} (hJ:x7 J β L₁ L) {x y:SV} {v:Value} (h:y.den β L₁ v):(BH false J x y).den β L v:=by
 have h1:=SV.bl h
 unfold BH
 split
 ·split
  ·rename_i hk;subst hk
   split
   ·split
    ·rename_i e;subst e;exact h
    ·exact h
   ·exact h
  ·exact h1
 ·split
  ·split
   ·rename_i e;subst e;exact h
   ·exact h
  ·exact h
 ·exact h
 ·exact h
 ·obtain ⟨_,rfl⟩:=h
  simp only[SV.den,cond_false,e9]
 ·exact h
 ·obtain ⟨_,rfl⟩:=h
  split
  ·rename_i e;exact ⟨rfl,by congr 1;exact congrArg ByteArray.mk e.symm⟩
  ·simp only[SV.den,cond_false,e9]
 ·split
  ·rename_i e;obtain ⟨rfl,rfl,e⟩:=e;exact ⟨hJ.aZ _ e h.1,h.2⟩
  ·exact h1
 ·split
  ·rename_i e;obtain ⟨rfl,rfl,rfl,rfl,e⟩:=e;exact ⟨hJ.aZ _ e h.1,h.2⟩
  ·exact h1
 ·exact h
 ·split
  ·rename_i e;obtain ⟨rfl,rfl⟩:=e;exact h
  ·exact h1
 ·exact h
 ·exact h
 ·split
  ·rename_i e
   subst e
   obtain ⟨k1,k2,k3⟩:=h
   refine ⟨k1,fun hn=>k2 (by simp at hn;exact hn.2),?_⟩
   rcases k3 with k|⟨rfl,k⟩|k
   ·exact .inl k
   ·exact .inr (.inl ⟨by simp,k⟩)
   ·exact .inr (.inr k)
  ·exact h1
 ·obtain ⟨_,rfl⟩:=h
  exact ⟨rfl,fun hn=>(by cases hn),.inr (.inr ⟨rfl,rfl⟩)⟩
 ·obtain ⟨k1,k2,k3⟩:=h
  exact ⟨k1,fun hn=>(by cases hn),k3⟩
 ·split
  ·rename_i e;subst e
   split
   ·rename_i vx vy vz ho
    split
    ·rename_i e;obtain ⟨rfl,rfl⟩:=e
     obtain ⟨k1,c,k2,k3,k4⟩:=h
     obtain ⟨m1,m2⟩:=hJ.own _ _ _ _ ho
     rw[m1] at k2;simp at k2
     exact ⟨k1,vz,m2,Nat.le_refl _,fun _=>k4 k2⟩
    ·exact h1
   ·exact h1
  ·exact h1
 ·split
  ·rename_i vx vy vz ho
   split
   ·rename_i e;obtain ⟨_,rfl⟩:=e
    obtain ⟨k1,c,k2,k3,k4⟩:=h
    obtain ⟨m1,m2⟩:=hJ.own _ _ _ _ ho
    rw[m1] at k2;simp at k2
    exact ⟨k1,vz,m2,Nat.le_refl _,fun _=>k4 k2⟩
   ·exact h1
  ·exact h1
 ·split
  ·rename_i vx vy vz ho
   split
   ·rename_i e
    obtain ⟨m1,m2⟩:=hJ.own _ _ _ _ ho
    obtain ⟨_,rfl⟩:=h
    exact ⟨rfl,vz,m2,Nat.le_refl _,fun _=>(hJ.nil _ e.1).symm⟩
   ·exact h1
  ·exact h1
 ·split
  ·rename_i e;obtain ⟨rfl,rfl⟩:=e
   split
   ·rename_i vx vy vz ho
    split
    ·rename_i e;obtain ⟨rfl,rfl⟩:=e
     obtain ⟨k1,c,k2,k3,k4⟩:=h
     obtain ⟨m1,m2⟩:=hJ.own _ _ _ _ ho
     rw[m1] at k2;simp at k2
     exact ⟨k1,vz,m2,Nat.le_refl _,fun _=>k4 k2⟩
    ·exact h1
   ·exact h1
  ·exact h1
 ·split
  ·rename_i e;obtain ⟨rfl,rfl,rfl,rfl,e⟩:=e
   obtain ⟨k1,k2⟩:=h
   exact ⟨hJ.aZ _ e k1,k2⟩
  ·exact h1
 ·exact h1
theorem CW {J:JC} {β:Env} {L₁ L:Nat→Option Kd} {x y z:SV} {vs:List Value} (hz:ry true J x y=some z) (h:x.gW β L₁ vs):z.gW β L vs:=by
 unfold ry at hz;split at hz
 ·split at hz
  ·split at hz
   ·simp at hz;subst hz;exact h
   ·cases hz
  ·cases hz
 ·cases hz
theorem Bc {J:JC} {β:Env} {L₁ L:Nat→Option Kd} {x y z:SV} {vs:List Value} (hz:ry false J x y=some z) (h:y.gW β L₁ vs):z.gW β L vs:=by
 unfold ry at hz;split at hz
 ·split at hz
  ·rename_i e;subst e
   split at hz
   ·rename_i e;subst e;simp at hz;subst hz;exact h
   ·cases hz
  ·cases hz
 ·cases hz
theorem qE {J:JC} {β:Env} {L₁ L:Nat→Option Kd} (hJ:Gz J β L₁ L): ∀ {l r z:List SV} {cs:List Value},ki true J l r=some z→aX β L₁ l cs→aX β L z cs
 | [],[],z,cs,h,hd=>by simp[ki] at h;subst h;cases hd;exact .nil
 |x::l,y::r,z,cs,h,hd=>by
  simp only[ki] at h
  cases hd with
  |cons h1 h2=>
   split at h
   ·split at h
    ·rename_i z' hz
     obtain ⟨z'',J1,rfl⟩:=Option.map_eq_some_iff.1 h
     exact .cons (CW hz h1) (qE hJ J1 h2)
    ·cases h
   ·cases h
   ·rename_i hx hy
    obtain ⟨z'',J1,rfl⟩:=Option.map_eq_some_iff.1 h
    obtain ⟨v,rfl,h3⟩:=SV.jd h1 (fun t n l e=>hx t n l e)
    exact aX.iI (x8 hJ h3) (qE hJ J1 h2)
 | [],_::_,_,_,h,_=>by simp[ki] at h
 |_::_,[],_,_,h,_=>by simp[ki] at h
theorem nF {J:JC} {β:Env} {L₁ L:Nat→Option Kd} (hJ:x7 J β L₁ L): ∀ {l r z:List SV} {cs:List Value},ki false J l r=some z→aX β L₁ r cs→aX β L z cs
 | [],[],z,cs,h,hd=>by simp[ki] at h;subst h;cases hd;exact .nil
 |x::l,y::r,z,cs,h,hd=>by
  simp only[ki] at h
  cases hd with
  |cons h1 h2=>
   split at h
   ·split at h
    ·rename_i z' hz
     obtain ⟨z'',J1,rfl⟩:=Option.map_eq_some_iff.1 h
     exact .cons (Bc hz h1) (nF hJ J1 h2)
    ·cases h
   ·cases h
   ·rename_i hx hy
    obtain ⟨z'',J1,rfl⟩:=Option.map_eq_some_iff.1 h
    obtain ⟨v,rfl,h3⟩:=SV.jd h1 (fun t n l e=>hy t n l e)
    exact aX.iI (wo hJ h3) (nF hJ J1 h2)
 | [],_::_,_,_,h,_=>by simp[ki] at h
 |_::_,[],_,_,h,_=>by simp[ki] at h
theorem x9 {J:JC} {β:Env} {L₁ L:Nat→Option Kd} (hJ:Gz J β L₁ L) {x y z:VV} {v:Value} (hz:BI true J x y=some z) (h:x.den β L₁ v):z.den β L v:=by
 unfold BI at hz
 split at hz
 ·simp at hz;subst hz
  exact x8 (L₁:=L₁) hJ h
 ·obtain ⟨z',J1,rfl⟩:=Option.map_eq_some_iff.1 hz
  obtain ⟨cs,rfl,hd⟩:=h
  exact ⟨cs,rfl,qE hJ J1 hd⟩
 ·simp at hz
theorem ya {J:JC} {β:Env} {L₁ L:Nat→Option Kd} (hJ:Gz J β L₁ L): ∀ {l r z:List VV} {cs:List Value},nc true J l r=some z→bB (VV.den β L₁) l cs→bB (VV.den β L) z cs
 | [],[],z,cs,h,hd=>by simp[nc] at h;subst h;cases hd;exact .nil
 |x::l,y::r,z,cs,h,hd=>by
  simp only[nc] at h
  split at h
  ·rename_i z' m h1 h2
   simp at h;subst h
   cases hd with
   |cons h3 h4=>exact .cons (x9 hJ h1 h3) (ya hJ h2 h4)
  ·simp at h
 | [],_::_,_,_,h,_=>by simp[nc] at h
 |_::_,[],_,_,h,_=>by simp[nc] at h
theorem J2 {J:JC} {β:Env} {L₁ L:Nat→Option Kd} (hJ:Gz J β L₁ L) {x y:LV} {v:Value} (h:x.den β L₁ v):(Gy true J x y).den β L v:=by
 unfold Gy
 split
 ·split
  ·rename_i z hz;exact x9 hJ hz h
  ·trivial
 ·split
  ·rename_i z hz
   obtain ⟨cs,rfl,hd⟩:=h
   exact ⟨cs,rfl,ya hJ hz hd⟩
  ·trivial
 ·trivial
theorem wq {J:JC} {β:Env} {L₁ L:Nat→Option Kd} (hJ:x7 J β L₁ L) {x y z:VV} {v:Value} (hz:BI false J x y=some z) (h:y.den β L₁ v):z.den β L v:=by
 unfold BI at hz
 split at hz
 ·simp at hz;subst hz
  exact wo (L₁:=L₁) hJ h
 ·obtain ⟨z',J1,rfl⟩:=Option.map_eq_some_iff.1 hz
  obtain ⟨cs,rfl,hd⟩:=h
  exact ⟨cs,rfl,nF hJ J1 hd⟩
 ·simp at hz
theorem wu {J:JC} {β:Env} {L₁ L:Nat→Option Kd} (hJ:x7 J β L₁ L): ∀ {l r z:List VV} {cs:List Value},nc false J l r=some z→bB (VV.den β L₁) r cs→bB (VV.den β L) z cs
 | [],[],z,cs,h,hd=>by simp[nc] at h;subst h;cases hd;exact .nil
 |x::l,y::r,z,cs,h,hd=>by
  simp only[nc] at h
  split at h
  ·rename_i z' m h1 h2
   simp at h;subst h
   cases hd with
   |cons h3 h4=>exact .cons (wq hJ h1 h3) (wu hJ h2 h4)
  ·simp at h
 | [],_::_,_,_,h,_=>by simp[nc] at h
 |_::_,[],_,_,h,_=>by simp[nc] at h
theorem GA {J:JC} {β:Env} {L₁ L:Nat→Option Kd} (hJ:x7 J β L₁ L) {x y:LV} {v:Value} (h:y.den β L₁ v):(Gy false J x y).den β L v:=by
 unfold Gy
 split
 ·split
  ·rename_i z hz;exact wq hJ hz h
  ·trivial
 ·split
  ·rename_i z hz
   obtain ⟨cs,rfl,hd⟩:=h
   exact ⟨cs,rfl,wu hJ hz hd⟩
  ·trivial
 ·trivial
end Go.Ev
end
