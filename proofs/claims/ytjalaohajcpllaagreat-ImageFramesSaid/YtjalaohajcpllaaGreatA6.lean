/- What the laws lean on, part 6: a reader of code, plain facts, and what each function gives; no conditions. -/
import Derived.KernelRfl
import Derived.Test.YtjalaohajcpllaaGreatProg
import Derived.Eval
import Derived.Test.YtjalaohajcpllaaGreatRows
import Derived.WalkKit
import Derived.ProofKit
import Derived.OpenShut
import Derived.JoinedCond
import Derived.JoinedOf
import Derived.Handed
import Derived.ReadAgain
import Derived.ChangeStays
import Derived.Test.YtjalaohajcpllaaGreatA5
section
set_option linter.unusedVariables false
set_option linter.unusedSimpArgs false
namespace Go.Ev
open Go
structure VN (W:World) (al:Hp) (β₀ β:Env) (fr:List LV) (hp:Hp) (vals:List Value) (w:World):Prop where
 fr:b8 (LV.den β (kd hp)) fr vals
 heap:bd W al β₀ β hp w
section
variable {W:World} {al:Hp} {β₀ β:Env} {hp:Hp} {w:World}
theorem bd.A7 (h:bd W al β₀ β hp w) {β':Env} {ft:Hp} (g:Nat→Nat) (oE:β'.rd=β.rd) (Ns:bU β₀ β' (kd al) (kd ft))
  (src: ∀ (j:Nat) (y:Item),ft[j]? =some (some y)→ ∃ x,hp[g j]? =some (some x)∧(∀ b,cx β' y j b→cx β x (g j) b)∧eQ β' (kd ft) w j y∧(g j=j∨kd al (g j)=none))
  (hg: ∀ (j k:Nat) (y z:Item),ft[j]? =some (some y)→ft[k]? =some (some z)→g j=g k→j=k):bd W al β₀ β' ft w:=by
 have lK: ∀ b,fk ft β' b→fk hp β b:=fun b ⟨j,y,hj,ho⟩=>by
  obtain ⟨x,h1,h2,_⟩:=src j y hj
  exact ⟨g j,x,h1,h2 b ho⟩
 refine ⟨fun j y hj=>?_,fun j k y z b hj hk h1 h2=>?_,Ns,fun j y b hj ho=>?_,h.os,h.output,h.size,h.an,fun pm v t l hr=>?_,fun pm v t l b hr hb=>?_⟩
 ·obtain ⟨x,_,_,h3,_⟩:=src j y hj
  exact h3
 ·obtain ⟨x,a1,a2,_⟩:=src j y hj
  obtain ⟨x',b1,b2,_⟩:=src k z hk
  exact hg j k y z hj hk (h.inj _ _ _ _ b a1 b1 (a2 b h1) (b2 b h2))
 ·obtain ⟨x,a1,a2,_,a4⟩:=src j y hj
  rcases h.own _ _ b a1 (a2 b ho) with k|⟨z,k1,k2⟩
  ·exact .inl k
  ·rcases a4 with e|e
   ·rw[e] at k1 k2;exact .inr ⟨z,k1,k2⟩
   ·rw[dq k1] at e;cases e
 ·rw[oE] at hr
  obtain ⟨h1,h2⟩:=h.reads pm v t l hr
  exact ⟨h1.mono fun _ _ _ _ h=>by rw[oE];exact h,fun b hb=>⟨(h2 b hb).1,fun k=>(h2 b hb).2 (lK b k)⟩⟩
 ·rw[oE] at hr
  exact h.from_ pm v t l b hr hb
theorem bd.anD (h:bd W al β₀ β hp w) {ft:Hp} (hk:kd ft=kd hp)
  (src: ∀ (j:Nat) (y:Item),ft[j]? =some (some y)→ ∃ x,hp[j]? =some (some x)∧(y=x∨ ∃ cells cells' e,x= .a8 cells e∧y= .a8 cells' e∧ ∀ c,bo β (kd hp) cells c→bo β (kd hp) cells' c)):bd W al β₀ β ft w:=by
 refine h.A7 (fun j=>j) rfl (by rw[hk];exact h.first) (fun j y hj=>?_) fun _ _ _ _ _ _ e=>e
 obtain ⟨x,h1,h2⟩:=src j y hj
 have hx:=h.items j x h1
 rw[hk]
 rcases h2 with rfl|⟨cells,cells',e,rfl,rfl,h3⟩
 ·exact ⟨y,h1,fun _ h=>h,hx,.inl rfl⟩
 ·obtain ⟨c,fz,k1,k2,k3⟩:=hx
  exact ⟨_,h1,fun _ h=>h,⟨c,fz,k1,k2,h3 c k3⟩,.inl rfl⟩
def Item.db (f:SV→SV):Item→Item
 | .a8 cells e=> .a8 (cells.map f) e
 |x=>x
def VV.db (f:SV→SV):VV→VV
 | .sc s=> .sc (f s)
 | .agg l=> .agg (l.map f)
def LV.db (f:SV→SV):LV→LV
 | .one x=> .one (x.db f)
 | .cV l=> .cV (l.map (VV.db f))
 | .bl=> .bl
structure jX (β β':Env) (L L':Nat→Option Kd) (f:SV→SV):Prop where
 den: ∀ {s:SV} {v:Value},s.den β L v→(f s).den β' L' v
 arr: ∀ t n l,f (.arr t n l)= .arr t n l
 rd: ∀ v t l,β.rd true v t l→β'.rd true v t l
theorem jX.ji {β β':Env} {L L':Nat→Option Kd} {f:SV→SV} (h:jX β β' L L' f) {s:SV} {vs:List Value} (hd:s.ji β L vs):(f s).ji β' L' vs:=by
 cases s with
 |arr t n l=>rw[h.arr];exact ⟨hd.1,hd.2.imp fun _ _=>t.jn h.rd⟩
 |_=>
  obtain ⟨v,rfl,h3⟩:=hd
  exact SV.zj (h.den h3)
theorem jX.arn {β β':Env} {L L':Nat→Option Kd} {f:SV→SV} (h:jX β β' L L' f) {l:List SV} {vs:List Value} (hd:bo β L l vs):bo β' L' (l.map f) vs:=by
 induction hd with
 |nil=>exact aZ.nil
 |cons h1 _ ih=>exact aZ.cons (h.ji h1) ih
theorem jX.vv {β β':Env} {L L':Nat→Option Kd} {f:SV→SV} (h:jX β β' L L' f) {s:VV} {v:Value} (hd:s.den β L v):(s.db f).den β' L' v:=by
 cases s with
 |sc s=>exact h.den hd
 |agg l=>obtain ⟨cs,rfl,hd⟩:=hd;exact ⟨cs,rfl,h.arn hd⟩
theorem jX.lv {β β':Env} {L L':Nat→Option Kd} {f:SV→SV} (h:jX β β' L L' f) {s:LV} {v:Value} (hd:s.den β L v):(s.db f).den β' L' v:=by
 cases s with
 |one x=>exact h.vv hd
 |cV l=>
  obtain ⟨vs,rfl,hd⟩:=hd
  refine ⟨vs,rfl,?_⟩
  induction hd with
  |nil=>exact .nil
  |cons h1 _ ih=>exact .cons (h.vv h1) ih
 |bl=>trivial
theorem jX.fr {β β':Env} {L L':Nat→Option Kd} {f:SV→SV} (h:jX β β' L L' f) {l:List LV} {vs:List Value} (hd:b8 (LV.den β L) l vs):b8 (LV.den β' L') (l.map (LV.db f)) vs:=by
 induction hd with
 |nil=>exact .nil
 |cons h1 _ ih=>exact .cons (h.lv h1) ih
theorem jX.item {β β':Env} {L L':Nat→Option Kd} {f:SV→SV} (h:jX β β' L L' f) {w:World} {i:Nat} {x:Item} (hb:β'.b i=β.b i) (hh:β'.h i=β.h i) (hd:eQ β L w i x):eQ β' L' w i (x.db f):=by
 cases x with
 |a8 cells e=>
  obtain ⟨c,fz,h1,h2,h3⟩:=hd
  exact ⟨c,fz,by rw[hb];exact h1,h2,h.arn h3⟩
 |own ver t l=>
  show dt β' w (β'.h i) t l
  rw[hh]
  obtain ⟨a,n,c,e,h1,h2,h3,h4⟩:=(hd:dt β w (β.h i) t l)
  refine ⟨a,n,c,e,h1,h2,h3,fun h0=>?_⟩
  obtain ⟨a0,pre,fo,rest,elem,fz,k0,k1,k2,k3,k4,k5⟩:=h4 h0
  exact ⟨a0,pre,fo,rest,elem,fz,k0,k1,k2,k3,k4.imp fun _ _=>t.jn h.rd,k5⟩
 |gone v=>trivial
theorem Item.S9 (f:SV→SV) (x:Item):(x.db f).kd=x.kd:=by cases x<;>rfl
theorem cx.db {f:SV→SV} {β β':Env} {x:Item} {i b:Nat} (hb:β'.b i=β.b i) (hh:β'.h i=β.h i):cx β' (x.db f) i b↔cx β x i b:=by
 cases x<;>simp only[Item.db,cx,hb,hh]
end
inductive FM where
 |drop
 |an
 |sym
 |rd (pm:Bool) (t:Ty)
def SV.rdm (pm:Bool) (t:Ty):SV→SV
 | .gz (.slice none 0 0)=> .rd pm false t []
 | .rd false _ t l=> .rd false false t l
 | .rd true _ t l=> .rd pm false t l
 |s=>s
def SV.symm:SV→SV
 | .int k n=> .int k (.sym n.val)
 | .bool b=> .bool (.sym b.val)
 |s=>s
def SV.aro:SV→SV
 | .arr t n l=> .arr t n l
 |_=> .bl
def SV.fm:FM→SV→SV
 | .an,s=>s
 | .drop,s=>s.aro
 | .sym,s=>s.symm
 | .rd pm t,s=>s.rdm pm t
theorem SV.Ny {β:Env} {L:Nat→Option Kd} (k:FM) {s:SV} {v:Value} (h:s.den β L v):(s.fm k).den β L v:=by
 cases k with
 |an=>exact h
 |drop=>cases s<;>first|exact h.elim|exact SV.bC h
 |sym=>cases s<;>exact h
 |rd pm t=>
  simp only[SV.fm]
  unfold SV.rdm
  split
  ·obtain ⟨_,rfl⟩:=h
   exact ⟨rfl,(fun e=>by cases e),.inr (.inr ⟨rfl,rfl⟩)⟩
  ·exact ⟨h.1,(fun e=>by cases e),h.2.2⟩
  ·refine ⟨h.1,(fun e=>by cases e),?_⟩
   rcases h.2.2 with h1|⟨h1,_⟩|h1
   ·exact .inl h1
   ·cases h1
   ·exact .inr (.inr h1)
  ·exact h
theorem tK {β:Env} {L:Nat→Option Kd} (k:FM):jX β β L L (SV.fm k):=⟨SV.Ny k,fun t n l=>by cases k<;>rfl,fun _ _ _ h=>h⟩
def LV.fm:FM→LV→LV
 | .drop,_=> .bl
 | .an,x=>x
 |k,x=>x.db (SV.fm k)
theorem LV.Ny {β:Env} {L:Nat→Option Kd} (k:FM) {s:LV} {v:Value} (h:s.den β L v):(s.fm k).den β L v:=by
 cases k with
 |drop=>trivial
 |an=>exact h
 |sym=>exact (tK .sym).lv h
 |rd pm t=>exact (tK (.rd pm t)).lv h
def anE:List FM→List LV→List LV
 |k::ks,x::xs=>x.fm k::anE ks xs
 |_,xs=>xs
theorem JP {β:Env} {L:Nat→Option Kd}: ∀ (ks:List FM) {xs:List LV} {vs:List Value},b8 (LV.den β L) xs vs→b8 (LV.den β L) (anE ks xs) vs
 | [],_,_,h=>h
 |k::ks,_,_,h=>by
  cases h with
  |nil=>exact .nil
  |cons h t=>exact .cons (LV.Ny k h) (JP ks t)
def anF:List FM→List SV→List SV
 |k::ks,x::xs=>x.fm k::anF ks xs
 |_,xs=>xs
theorem JQ {β:Env} {L:Nat→Option Kd}: ∀ (ks:List FM) {xs:List SV} {vs:List Value},bo β L xs vs→bo β L (anF ks xs) vs
 | [],_,_,h=>h
 |k::ks,[],_,h=>h
 |k::ks,x::xs,_,h=>by
  cases h with
  |cons h t=>exact .cons ((tK k).ji h) (JQ ks t)
def SV.re (i c n:Nat):SV→SV
 | .sl j v=>if j=i then (if v=c then .sl j n else .bl) else .sl j v
 | .vw j v w z m=>if j=i then (if v=c then .vw j n w z m else .bl) else .vw j v w z m
 | .ep s w z f=> .ep (s.re i c n) w z f
 |s=>s
def SV.mv (i k c:Nat):SV→SV
 | .sl j v=>if j=k then (if v=c then .sl i 1 else .bl) else if j=i then .bl else .sl j v
 | .vw j v w z m=>if j=k then (if v=c then .vw i 1 w z m else .bl) else if j=i then .bl else .vw j v w z m
 | .ep s w z f=> .ep (s.mv i k c) w z f
 |s=>s
def SV.xc (i c:Nat) (t:Ty) (l:List t.D):SV→SV
 | .sl j v=>if j=i then (if v=c then .rd true false t l else .bl) else .sl j v
 | .ep s w z f=> .ep (s.xc i c t l) w z f
 |s=>s
section
variable {W:World} {al:Hp} {β₀ β:Env} {hp:Hp} {w:World}
theorem ah8 {i c n:Nat} {L L':Nat→Option Kd} (hi:L i=some (.own c)) (DY:L' i=some (.own n)) (ho: ∀ j,j≠i→L' j=L j):jX β β L L' (SV.re i c n):=by
 have mj: ∀ {b},L b=some .a8→L' b=some .a8:=fun {b} hb=>by
  rw[ho b fun e=>by subst e;rw[hi] at hb;cases hb];exact hb
 refine ⟨fun {s}=>?_,fun _ _ _=>rfl,fun _ _ _ h=>h⟩
 induction s with
 |sl j ver=>
  intro v h
  have h1:=SV.bC h
  simp only[SV.re]
  split
  ·rename_i e;subst e
   split
   ·rename_i e;subst e
    obtain ⟨k1,c',k2,k3,k4⟩:=h
    rw[hi] at k2;cases k2
    exact ⟨k1,n,DY,Nat.le_refl _,fun _=>k4 rfl⟩
   ·exact h1
  ·rename_i e
   obtain ⟨k1,c',k2,k3,k4⟩:=h
   exact ⟨k1,c',by rw[ho j e];exact k2,k3,k4⟩
 |vw j ver w z m=>
  intro v h
  have h1:=SV.bC h
  simp only[SV.re]
  split
  ·rename_i e;subst e
   split
   ·rename_i e;subst e
    obtain ⟨k1,c',k2,k3,k4⟩:=h
    rw[hi] at k2;cases k2
    exact ⟨k1,n,DY,Nat.le_refl _,fun _=>k4 rfl⟩
   ·exact h1
  ·rename_i e
   obtain ⟨k1,c',k2,k3,k4⟩:=h
   exact ⟨k1,c',by rw[ho j e];exact k2,k3,k4⟩
 |ep s w z f ih=>
  rintro v ⟨a,n,c',h1,h2⟩
  exact ⟨a,n,c',ih h1,h2⟩
 |ptr b o=>intro v h;exact ⟨mj h.1,h.2⟩
 |xh b base st n z=>intro v h;exact ⟨mj h.1,h.2⟩
 |slice b o l c=>intro v h;exact ⟨mj h.1,h.2⟩
 |vb b o t m z n=>intro v h;exact ⟨mj h.1,h.2⟩
 |_=>intro v h;exact h
theorem ah9 {β':Env} {i k c:Nat} {L L':Nat→Option Kd} (hk:L k=some (.own c)) (Zf:L i≠some .a8) (DY:L' i=some (.own 1)) (ho: ∀ j,j≠i→j≠k→L' j=L j) (hb:β'.b=β.b) (hh: ∀ j,j≠i→β'.h j=β.h j) (Zc:β'.h i=β.h k) (oE:β'.rd=β.rd):
  jX β β' L L' (SV.mv i k c):=by
 have mj: ∀ {b},L b=some .a8→L' b=some .a8∧β'.b b=β.b b:=fun {b} h=>by
  refine ⟨?_,by rw[hb]⟩
  rw[ho b (fun e=>by subst e;exact Zf h) fun e=>by subst e;rw[hk] at h;cases h];exact h
 have rK: ∀ pm v t l,β.rd pm v t l→β'.rd pm v t l:=fun _ _ _ _ h=>by rw[oE];exact h
 refine ⟨fun {s}=>?_,fun _ _ _=>rfl,fun _ _ _ h=>rK _ _ _ _ h⟩
 induction s with
 |sl j ver=>
  intro v h
  have h1:=SV.bC h
  simp only[SV.mv]
  split
  ·rename_i e;subst e
   split
   ·rename_i e;subst e
    obtain ⟨k1,c',k2,k3,k4⟩:=h
    rw[hk] at k2;cases k2
    exact ⟨k1,1,DY,Nat.le_refl _,fun _=>by rw[Zc];exact k4 rfl⟩
   ·exact h1
  ·rename_i e
   split
   ·exact h1
   ·rename_i e2
    obtain ⟨k1,c',k2,k3,k4⟩:=h
    exact ⟨k1,c',by rw[ho j e2 e];exact k2,k3,fun e3=>by rw[hh j e2];exact k4 e3⟩
 |vw j ver w z m=>
  intro v h
  have h1:=SV.bC h
  simp only[SV.mv]
  split
  ·rename_i e;subst e
   split
   ·rename_i e;subst e
    obtain ⟨k1,c',k2,k3,k4⟩:=h
    rw[hk] at k2;cases k2
    exact ⟨k1,1,DY,Nat.le_refl _,fun _=>by rw[Zc];exact k4 rfl⟩
   ·exact h1
  ·rename_i e
   split
   ·exact h1
   ·rename_i e2
    obtain ⟨k1,c',k2,k3,k4⟩:=h
    exact ⟨k1,c',by rw[ho j e2 e];exact k2,k3,fun e3=>by rw[hh j e2];exact k4 e3⟩
 |ep s w z f ih=>
  rintro v ⟨a,n,c',h1,h2⟩
  exact ⟨a,n,c',ih h1,h2⟩
 |ptr b o=>intro v h;obtain ⟨k1,k2⟩:=mj h.1;exact ⟨k1,by rw[k2];exact h.2⟩
 |xh b base st n z=>intro v h;obtain ⟨k1,k2⟩:=mj h.1;exact ⟨k1,h.2.1,by rw[k2];exact h.2.2⟩
 |slice b o l c=>intro v h;obtain ⟨k1,k2⟩:=mj h.1;exact ⟨k1,by rw[k2];exact h.2⟩
 |vb b o t m z n=>rintro v ⟨h1,h2⟩;obtain ⟨k1,k2⟩:=mj h1;exact ⟨k1,by rw[k2];exact h2⟩
 |rd pm nn t l=>rintro v ⟨h1,h2,h3⟩;exact ⟨h1,h2,h3.mono rK⟩
 |_=>intro v h;exact h
theorem JR {β':Env} {i c:Nat} {t:Ty} {l:List t.D} {L:Nat→Option Kd} (hi:L i=some (.own c)) (hb:β'.b=β.b) (hh:β'.h=β.h) (oE: ∀ pm v t l,β.rd pm v t l→β'.rd pm v t l) (hr:β'.rd true (β.h i) t l):jX β β' L L (SV.xc i c t l):=by
 have rK:bU β β' L L:=⟨fun i h=>⟨h,by rw[hb]⟩,fun i c h=>⟨c,h,Nat.le_refl _,fun _=>by rw[hh]⟩,oE⟩
 refine ⟨fun {s}=>?_,fun _ _ _=>rfl,fun _ _ _ h=>oE _ _ _ _ h⟩
 induction s with
 |sl j ver=>
  intro v h
  have h1:=SV.bC h
  simp only[SV.xc]
  split
  ·rename_i e;subst e
   split
   ·rename_i e;subst e
    obtain ⟨k1,c',k2,k3,k4⟩:=h
    rw[hi] at k2;cases k2
    have e:=k4 rfl
    subst e
    exact ⟨k1,(fun e=>by cases e),.inl hr⟩
   ·exact h1
  ·exact SV.eA rK h
 |ep s w z f ih=>
  rintro v ⟨a,n,c',h1,h2⟩
  exact ⟨a,n,c',ih h1,h2⟩
 |_=>intro v h;exact SV.eA rK h
theorem A8 {f:SV→SV} {j:Nat} {y:Item} (hj:(hp.map (Option.map (Item.db f)))[j]? =some (some y)): ∃ x,hp[j]? =some (some x)∧y=x.db f:=by
 rw[List.getElem?_map] at hj
 obtain ⟨o,h1,h2⟩:=map_some hj
 cases o with
 |none=>cases h2
 |some x=>exact ⟨x,h1,by simpa using h2.symm⟩
theorem xy {f:SV→SV} (hp:Hp):kd (hp.map (Option.map (Item.db f)))=kd hp:=by
 funext j
 unfold kd
 rw[List.getElem?_map]
 cases hp[j]? with
 |none=>rfl
 |some o=>cases o with
  |none=>rfl
  |some x=>simp[Item.S9]
theorem b8.aia {α β:Type} {R:α→β→Prop} {a:α}: ∀ {l:List α} {m:List β} {k:Nat},b8 R l m→(∀ b,m[k]? =some b→R a b)→b8 R (l.set k a) m
 |_,_,_,.nil,_=> .nil
 |_,_,0,.cons h t,hb=> .cons (hb _ rfl) t
 |_,_,k+1,.cons h t,hb=> .cons h (t.aia fun b hk=>hb b (by simpa using hk))
def Ta (k:IntKind):List SV→Option (List Int)
 | []=>some []
 | .int k' n::l=>if k'=k then (Ta k l).map (n.val:: ·) else none
 |_::_=>none
theorem JS {β:Env} {L:Nat→Option Kd} {k:IntKind}: ∀ {l:List SV} {m:List Int} {vs:List Value},Ta k l=some m→bo β L l vs→aZ ((Ty.int k).has β true) m vs
 | [],m,vs,h,hd=>by cases h;cases hd;exact .nil
 |s::l,m,vs,h,hd=>by
  unfold Ta at h
  split at h
  ·rename_i e;cases e
  ·rename_i e;injection e with e1 e2;subst e1 e2
   split at h
   ·rename_i e;subst e
    obtain ⟨m',h1,rfl⟩:=map_some h
    cases hd with
    |cons h2 h3=>
     obtain ⟨v,rfl,hv⟩:=h2
     exact aZ.cons (x:=_) (vs:= [v]) (by rw[show v=_ from hv];rfl) (JS h1 h3)
   ·cases h
  ·cases h
def DN (off n:Nat) (k:IntKind) (l:List SV):List SV:=match Ta k ((l.drop off).take n) with
 |some m=>if m.length=n then l.take off++ .arr (.int k) n m::(l.drop off).drop n else l
 |none=>l
theorem km {β:Env} {L:Nat→Option Kd} {off n:Nat} {k:IntKind} {l:List SV} {vs:List Value} (h:bo β L l vs):bo β L (DN off n k l) vs:=by
 unfold DN
 split
 ·rename_i m hm
  split
  ·rename_i hn
   have e:l=l.take off++((l.drop off).take n++(l.drop off).drop n):=by rw[List.take_append_drop,List.take_append_drop]
   rw[e] at h
   obtain ⟨v1,v2,rfl,h1,h2⟩:=aZ.split h
   obtain ⟨v3,v4,rfl,h3,h4⟩:=aZ.split h2
   exact h1.append (aZ.cons (x:= .arr (.int k) n m) ⟨hn,JS hm h3⟩ h4)
  ·exact h
 ·exact h
def SV.cellsIn:SV→List SV
 | .arr (.int k) n m=>if n≤32 then (List.range n).map fun i=> .int k (.sym (m.getD i 0)) else [.arr (.int k) n m]
 |s=> [s]
theorem A9: ∀ (m:List Int) (k:IntKind),(List.range m.length).map (fun i=>SV.int k (.sym (m.getD i 0)))=m.map fun n=>SV.int k (.sym n):=by
 intro m k
 apply List.ext_getElem?
 intro i
 simp only[List.getElem?_map]
 rcases Nat.lt_or_ge i m.length with h1|h1
 ·rw[List.getElem?_range h1]
  simp[List.getD_eq_getElem?_getD,List.getElem?_eq_getElem h1]
 ·rw[List.getElem?_eq_none h1,List.getElem?_eq_none (by simpa using h1)]
  rfl
theorem JT {β:Env} {L:Nat→Option Kd} {k:IntKind}: ∀ {m:List Int} {vs:List Value},aZ ((Ty.int k).has β true) m vs→bo β L (m.map fun n=>SV.int k (.sym n)) vs
 | [],_,h=>by cases h;exact .nil
 |n::m,_,h=>by
  cases h with
  |cons h1 h2=>
   have h1':_= [Value.int k n]:=h1
   subst h1'
   exact aZ.cons (x:=SV.int k (.sym n)) ⟨_,rfl,rfl⟩ (JT h2)
theorem JU {β:Env} {L:Nat→Option Kd} {s:SV} {vs:List Value} (h:s.ji β L vs):bo β L s.cellsIn vs:=by
 unfold SV.cellsIn
 split
 ·rename_i k n m
  split
  ·obtain ⟨rfl,h2⟩:=(h:_∧_)
   rw[A9]
   exact JT h2
  ·exact aZ.one h
 ·exact aZ.one h
def aaf (l:List SV):List SV:=l.flatMap SV.cellsIn
theorem Ec {β:Env} {L:Nat→Option Kd} {l:List SV} {vs:List Value} (h:bo β L l vs):bo β L (aaf l) vs:=by
 induction h with
 |nil=>exact .nil
 |cons h _ ih=>exact (JU h).append ih
def VV.onL (f:List SV→List SV):VV→VV
 | .agg l=> .agg (f l)
 |x=>x
theorem VV.tL {β:Env} {L:Nat→Option Kd} {f:List SV→List SV} (hf: ∀ l vs,bo β L l vs→bo β L (f l) vs) {x:VV} {v:Value} (h:x.den β L v):(x.onL f).den β L v:=by
 cases x with
 |sc s=>exact h
 |agg l=>obtain ⟨cs,e,hd⟩:=h;exact ⟨cs,e,hf _ _ hd⟩
def LV.onL (f:List SV→List SV):LV→LV
 | .one x=> .one (x.onL f)
 | .cV l=> .cV (l.map (VV.onL f))
 |x=>x
theorem LV.tL {β:Env} {L:Nat→Option Kd} {f:List SV→List SV} (hf: ∀ l vs,bo β L l vs→bo β L (f l) vs) {x:LV} {v:Value} (h:x.den β L v):(x.onL f).den β L v:=by
 cases x with
 |one x=>exact VV.tL hf h
 |cV l=>obtain ⟨vs,e,hd⟩:=h;exact ⟨vs,e,hd.Ay fun _ _=>VV.tL hf⟩
 |bl=>exact h
def FV (f:List SV→List SV) (i:Nat) (fr:List LV):List LV:=match fr[i]? with
 |some x=>fr.set i (x.onL f)
 |none=>fr
theorem Ba {β:Env} {L:Nat→Option Kd} {f:List SV→List SV} (hf: ∀ l vs,bo β L l vs→bo β L (f l) vs) {i:Nat} {fr:List LV} {vs:List Value} (h:b8 (LV.den β L) fr vs):b8 (LV.den β L) (FV f i fr) vs:=by
 unfold FV
 split
 ·rename_i x hx
  refine h.aia fun b hb=>?_
  obtain ⟨b',h1,h2⟩:=h.get hx
  rw[hb] at h1;cases h1
  exact LV.tL hf h2
 ·exact h
inductive Wk where
 |fr (l:List FM)
 |a8 (i:Nat) (l:List FM)
 |ct (k:Nat) (t:Ty)
 |fV (i j:Nat) (t:Ty)
 |xc (i:Nat)
 |ver (i:Nat)
 |one (i:Nat)
 |move (i j:Nat)
 |slot (b off i:Nat) (t:Ty)
 |cut (ids:List Nat)
 |Nz (k:Nat) (t:Ty)
 |anG (i j:Nat) (t:Ty)
 |auto
 |ax
 |syms
 |aag
 |gC (i off n:Nat) (k:IntKind)
 |lN (i off n:Nat) (k:IntKind)
 |Tb (i:Nat)
 |alR (i:Nat)
def JV:SV→Bool
 | .gz (.slice none 0 0)=>true
 |_=>false
def arp:LV→Bool
 | .one (.sc s)=>JV s
 |_=>false
def FW:List Nat→Bool
 | []=>true
 |x::l=> !l.any (fun y=>decide (y=x))&&FW l
def aic (m:Nat) (ids:List Nat) (i:Nat):Option Nat:=if i<m then some i else (iU ids i).map (· +m)
def DO (m:Nat) (ids:List Nat):tJ:=⟨aic m ids,fun _ v=>some v⟩
structure xd where
 n:Nat
 v:Nat→Bool
def xd.of (hp:Hp):xd:=⟨hp.length,fun i=>match br hp i with|some (.own 0 _ _)=>true|_=>false⟩
structure xd.Ok (m:xd) (al:Hp):Prop where
 n:m.n=al.length
 v: ∀ i,m.v i=true→kd al i=some (.own 0)
theorem xd.bE (hp:Hp):(xd.of hp).Ok hp:=⟨rfl,fun i h=>by
 simp only[xd.of] at h
 split at h
 ·rename_i hi;rw[dq (aB hi)];rfl
 ·cases h⟩
theorem xd.arq (hp:Hp):(xd.mk hp.length fun _=>false).Ok hp:=⟨rfl,fun _ h=>by cases h⟩
def Zg (m:xd):Wk→St→Option St
 | .fr l,st=>some ⟨anE l st.fr,st.hp⟩
 | .a8 i l,st=>match br st.hp i with
  |some (.a8 cells e)=>some ⟨st.fr,st.hp.set i (some (.a8 (anF l cells) e))⟩
  |_=>some st
 | .ct k t,st=>if arp (st.fr.getD k .bl) then some ⟨st.fr.set k (.one (.sc (.sl st.hp.length 0))),setAt st.hp st.hp.length (.own 0 t [])⟩ else some st
 | .fV i j t,st=>match br st.hp i with
  |some (.a8 cells e)=>if JV (cells.getD j .bl)&&SP cells then some ⟨st.fr,(setAt st.hp st.hp.length (.own 0 t [])).set i (some (.a8 (cells.set j (.sl st.hp.length 0)) e))⟩ else some st
  |_=>none
 | .xc i,st=>if m.n≤i then match br st.hp i with
  |some (.own c t l)=>some ⟨st.fr.map (LV.db (SV.xc i c t l)),(st.hp.set i (some (.gone c))).map (Option.map (Item.db (SV.xc i c t l)))⟩
  |_=>none else none
 | .ver i,st=>if m.n≤i then match br st.hp i with
  |some (.own c t l)=>some ⟨st.fr.map (LV.db (SV.re i c 0)),(st.hp.set i (some (.own 0 t l))).map (Option.map (Item.db (SV.re i c 0)))⟩
  |_=>none else none
 | .one i,st=>if m.v i then match br st.hp i with
  |some (.own c t l)=>some ⟨st.fr.map (LV.db (SV.re i c 1)),(st.hp.set i (some (.own 1 t l))).map (Option.map (Item.db (SV.re i c 1)))⟩
  |_=>none else none
 | .move i j,st=>if m.v i&&decide (m.n≤j) then match br st.hp j,br st.hp i with
  |some (.own c t l),some (.own _ _ _)=>some ⟨st.fr.map (LV.db (SV.mv i j c)),((st.hp.set i (some (.own 1 t l))).set j none).map (Option.map (Item.db (SV.mv i j c)))⟩
  |_,_=>none else none
 | .cut ids,st=>if m.n≤st.hp.length&&ids.all (fun i=>decide (m.n≤i))&&FW ids then
   some ⟨st.fr.map (LV.cf (DO m.n ids)),(st.hp.take m.n++ids.map (fun i=>br st.hp i)).map (Option.map (Item.cf (DO m.n ids) fun v=>v))⟩ else none
 | .gC i off n k,st=>match br st.hp i with
  |some (.a8 cells e)=>some ⟨st.fr,st.hp.set i (some (.a8 (DN off n k cells) e))⟩
  |_=>some st
 | .lN i off n k,st=>some ⟨FV (DN off n k) i st.fr,st.hp⟩
 | .Tb i,st=>match br st.hp i with
  |some (.a8 cells e)=>some ⟨st.fr,st.hp.set i (some (.a8 (aaf cells) e))⟩
  |_=>some st
 | .alR i,st=>some ⟨FV aaf i st.fr,st.hp⟩
 | .syms,st=>some ⟨st.fr.map (LV.db (SV.fm .sym)),st.hp.map (Option.map (Item.db (SV.fm .sym)))⟩
 | .Nz _ _,_| .anG _ _ _,_| .auto,_| .ax,_| .aag,_| .slot _ _ _ _,_=>none
def wkB (m:xd):List Wk→St→Option St
 | [],st=>some st
 |k::ks,st=>match Zg m k st with
  |some qC=>wkB m ks qC
  |none=>none
def alS:Option Item→Bool
 |some (.own _ _ _)=>true
 |_=>false
def aid (m:Nat) (st:St):List Nat:=
 match (sn 1000 (st.fr.flatMap LV.refs++(List.range m).filter fun i=>(br st.hp i).isSome) [] []).val st.hp with
 |some (ids,_)=>ids.filter fun i=>decide (m≤i)
 |none=> []
def wkX (m:xd):Wk→St→List Wk
 | .Nz k t,st=>match st.fr.getD k .bl with
  | .one (.sc (.sl i _))=> [.xc i]
  |_=> [.fr (List.replicate k .an++ [.rd true t])]
 | .anG i j t,st=>match br st.hp i with
  |some (.a8 cells _)=>match cells.getD j .bl with
   | .sl k _=> [.xc k]
   |_=> [.a8 i (List.replicate j .an++ [.rd true t])]
  |_=> []
 | .auto,st=> [.cut (aid m.n st)]
 | .ax,st=>(List.range st.hp.length).filterMap fun i=>if decide (m.n≤i)&&alS (br st.hp i) then some (.ver i) else none
 | .aag,st=>(List.range st.hp.length).filterMap fun i=>if decide (m.n≤i)&&alS (br st.hp i) then some (.xc i) else none
 | .slot b j i t,st=>match br st.hp b with
  |some (.a8 cells _)=>match cells.getD j .bl with
   | .sl k _=>if k=i then [.one i] else [.move i k]
   |_=> [.fV b j t,.move i st.hp.length]
  |_=> []
 |k,_=> [k]
def rR (m:xd):List Wk→St→Option St
 | [],st=>some st
 |k::ks,st=>match wkB m (wkX m k st) st with
  |some qC=>rR m ks qC
  |none=>none
theorem Ed {β:Env} {L:Nat→Option Kd} {s:SV} {v:Value} (h:JV s=true) (hd:s.den β L v):v= .slice none 0 0:=by
 unfold JV at h
 split at h
 ·exact hd.2
 ·cases h
theorem Ee: ∀ {l:List Nat},FW l=true→l.Nodup
 | [],_=>List.nodup_nil
 |x::l,h=>by
  simp only[FW,Bool.and_eq_true,Bool.not_eq_true',List.any_eq_false,decide_eq_true_eq] at h
  exact List.nodup_cons.2 ⟨fun hm=>h.1 x hm rfl,Ee h.2⟩
theorem bd.relabel (h:bd W al β₀ β hp w) {f:SV→SV} (hl:jX β β (kd hp) (kd hp) f):bd W al β₀ β (hp.map (Option.map (Item.db f))) w:=by
 refine h.A7 (fun j=>j) rfl (by rw[xy];exact h.first) (fun j y hj=>?_) fun _ _ _ _ _ _ e=>e
 obtain ⟨x,h1,rfl⟩:=A8 hj
 exact ⟨x,h1,fun b=>(cx.db rfl rfl).1,by rw[xy];exact hl.item rfl rfl (h.items j x h1),.inl rfl⟩
theorem bd.NA (h:bd W al β₀ β hp w) (t:Ty): ∃ β',bd W al β₀ β' (setAt hp hp.length (.own 0 t [])) w∧bU β β' (kd hp) (kd (setAt hp hp.length (.own 0 t [])))∧(SV.sl hp.length 0).den β' (kd (setAt hp hp.length (.own 0 t []))) (.slice none 0 0):=by
 obtain ⟨β',h1,h2,h3⟩:=h.sj (id:=hp.length) (gn (Nat.le_refl _)) (v:= .slice none 0 0) (ver:=0) (t:=t) (l:= []) (w':=w) (Nat.le_refl _) rfl rfl (fun _ _=>rfl)
  ⟨none,0,0,rfl,rfl,Nat.le_refl _,fun _=>rfl,fun h=>absurd h (by omega)⟩ (fun a n c e=>by simp at e)
 exact ⟨β',h1,h2,rfl,0,by rw[dn,if_pos rfl];rfl,Nat.le_refl _,fun _=>h3.symm⟩
theorem NB {i:Nat} {x y:Item} (hi:hp[i]? =some (some x)) (j:Nat):kd (hp.set i (some y)) j=if j=i then some y.kd else kd hp j:=by
 rw[← tn hi,dn]
theorem FY {i j:Nat} {x y z:Item} (hi:hp[i]? =some (some x)) (hj:(hp.set i (some y))[j]? =some (some z)):(j=i∧z=y)∨(j≠i∧hp[j]? =some (some z)):=by
 by_cases e:j=i
 ·subst e
  rw[List.getElem?_set_self (List.getElem?_eq_some_iff.1 hi).1] at hj
  exact .inl ⟨rfl,by simpa using hj.symm⟩
 ·rw[List.getElem?_set_ne (Ne.symm e)] at hj
  exact .inr ⟨e,hj⟩
theorem bd.Bb (h:bd W al β₀ β hp w) {i:Nat} {cells cells':List SV} {e:TypeId} (hi:hp[i]? =some (some (.a8 cells e))) (hc: ∀ c,bo β (kd hp) cells c→bo β (kd hp) cells' c):
  bd W al β₀ β (hp.set i (some (.a8 cells' e))) w∧kd (hp.set i (some (.a8 cells' e)))=kd hp:=by
 have hk:kd (hp.set i (some (.a8 cells' e)))=kd hp:=by
  funext j
  rw[NB hi]
  split
  ·rename_i e1;rw[e1,dq hi];rfl
  ·rfl
 refine ⟨h.anD hk fun j y hj=>?_,hk⟩
 rcases FY hi hj with ⟨rfl,rfl⟩|⟨_,DZ⟩
 ·exact ⟨_,hi,.inr ⟨cells,cells',e,rfl,rfl,hc⟩⟩
 ·exact ⟨y,DZ,.inl rfl⟩
theorem aah {i:Nat} (h:al.length≤i) {y:Item}:al[i]? ≠some (some y):=by rw[List.getElem?_eq_none h];simp
theorem anH (h:bd W al β₀ β hp w) {i c:Nat} {t:Ty} {l:List t.D} (hm:al.length≤i) (hi:hp[i]? =some (some (.own c t l))):
  ∃ β',bd W al β₀ β' ((hp.set i (some (.gone c))).map (Option.map (Item.db (SV.xc i c t l)))) w∧jX β β' (kd hp) (kd ((hp.set i (some (.gone c))).map (Option.map (Item.db (SV.xc i c t l))))) (SV.xc i c t l):=by
 obtain ⟨h1,rK⟩:=h.zk hi (x':= .gone c) (β':=β) (w':=w) rfl (fun _ _=>rfl) rfl (.inr ⟨c,c,rfl,rfl,Nat.le_refl _,fun _=>rfl⟩) (Nat.le_refl _) rfl rfl (fun _ _ _=>rfl) (fun b ho=>ho.elim) (fun _=>trivial)
 have hk:kd (hp.set i (some (.gone c)))=kd hp:=by
  funext j
  rw[NB hi]
  split
  ·rename_i e1;rw[e1,dq hi];rfl
  ·rfl
 have oK:dt β w (β.h i) t l:=h.items i _ hi
 obtain ⟨h2,avx,h3⟩:=h1.ot (pm:=true) (v:=β.h i) (t:=t) (l:=l) oK.reads fun b hb=>by
  have ho:cx β (.own c t l) i b:=FN oK hb
  refine ⟨(h.items i _ hi).lt ho,fun ⟨j,y,hj,ho2⟩=>?_,.inl ?_⟩
  ·rcases FY hi hj with ⟨rfl,rfl⟩|⟨gk,DZ⟩
   ·exact ho2.elim
   ·exact gk (h.inj j i y _ b DZ hi ho2 ho)
  ·rcases h.own i _ b hi ho with k|⟨y,k,_⟩
   ·exact k
   ·exact absurd k (aah hm)
 have Zf:kd (hp.set i (some (.gone c))) i=some (.own c):=by rw[hk,dq hi];rfl
 have hl:jX (β.ot true (β.h i) t l) (β.ot true (β.h i) t l) (kd (hp.set i (some (.gone c)))) (kd (hp.set i (some (.gone c)))) (SV.xc i c t l):=JR Zf rfl rfl (fun _ _ _ _ h=>h) h3
 refine ⟨_,h2.relabel hl,?_⟩
 rw[xy,hk]
 rw[hk] at Zf
 exact JR Zf rfl rfl avx.rd h3
theorem alT (h:bd W al β₀ β hp w) {i c n:Nat} {t:Ty} {l:List t.D} (hm:kd al i=none∨(kd al i=some (.own 0)∧n=1)) (hi:hp[i]? =some (some (.own c t l))):
  bd W al β₀ β ((hp.set i (some (.own n t l))).map (Option.map (Item.db (SV.re i c n)))) w∧jX β β (kd hp) (kd ((hp.set i (some (.own n t l))).map (Option.map (Item.db (SV.re i c n))))) (SV.re i c n):=by
 have hk: ∀ j,kd ((hp.set i (some (.own n t l))).map (Option.map (Item.db (SV.re i c n)))) j=if j=i then some (.own n) else kd hp j:=by
  intro j;rw[xy,NB hi];rfl
 have hl:jX β β (kd hp) (kd ((hp.set i (some (.own n t l))).map (Option.map (Item.db (SV.re i c n))))) (SV.re i c n):=ah8 (by rw[dq hi];rfl) (by rw[hk,if_pos rfl]) fun j hj=>by rw[hk,if_neg hj]
 refine ⟨h.A7 (fun j=>j) rfl ?_ (fun j y hj=>?_) fun _ _ _ _ _ _ e=>e,hl⟩
 ·refine ⟨fun j hj=>?_,fun j k hj=>?_,h.first.rd⟩
  ·have gk:j≠i:=fun e=>by subst e;rcases hm with hm|⟨hm,_⟩<;>(rw[hm] at hj;cases hj)
   exact ⟨by rw[hk,if_neg gk];exact (h.first.a8 j hj).1,(h.first.a8 j hj).2⟩
  ·by_cases e:j=i
   ·subst e
    rcases hm with hm|⟨hm,rfl⟩<;>(rw[hm] at hj;cases hj)
    exact ⟨1,by rw[hk,if_pos rfl],by omega,fun e=>by omega⟩
   ·rw[hk,if_neg e];exact h.first.own j k hj
 ·obtain ⟨x,h1,rfl⟩:=A8 hj
  rcases FY hi h1 with ⟨rfl,rfl⟩|⟨_,h1'⟩
  ·exact ⟨_,hi,fun b ho=>ho,h.items j _ hi,.inl rfl⟩
  ·exact ⟨x,h1',fun b=>(cx.db rfl rfl).1,hl.item rfl rfl (h.items j x h1'),.inl rfl⟩
theorem aie (h:bd W al β₀ β hp w) {i k c c':Nat} {t t':Ty} {l:List t.D} {l':List t'.D} (hm:kd al i=some (.own 0)) (hn:al.length≤k) (hk:hp[k]? =some (some (.own c t l))) (hi:hp[i]? =some (some (.own c' t' l'))):
  ∃ β',bd W al β₀ β' (((hp.set i (some (.own 1 t l))).set k none).map (Option.map (Item.db (SV.mv i k c)))) w∧jX β β' (kd hp) (kd (((hp.set i (some (.own 1 t l))).set k none).map (Option.map (Item.db (SV.mv i k c))))) (SV.mv i k c):=by
 have gk:i≠k:=fun e=>by subst e;rw[gn hn] at hm;cases hm
 have hil:=(List.getElem?_eq_some_iff.1 hi).1
 have hkl:=(List.getElem?_eq_some_iff.1 hk).1
 generalize VO:((hp.set i (some (.own 1 t l))).set k none).map (Option.map (Item.db (SV.mv i k c)))=ft
 have hgi:ft[i]? =some (some (.own 1 t l)):=by
  rw[← VO,List.getElem?_map,List.getElem?_set_ne (Ne.symm gk),List.getElem?_set_self hil];rfl
 have hgk:ft[k]? =some none:=by
  rw[← VO,List.getElem?_map,List.getElem?_set_self (by simpa using hkl)];rfl
 have hgo: ∀ j,j≠i→j≠k→ft[j]? =(hp[j]?).map (Option.map (Item.db (SV.mv i k c))):=by
  intro j h1 h2
  rw[← VO,List.getElem?_map,List.getElem?_set_ne (Ne.symm h2),List.getElem?_set_ne (Ne.symm h1)]
 have hko: ∀ j,j≠i→j≠k→kd ft j=kd hp j:=by
  intro j h1 h2
  unfold kd
  rw[hgo j h1 h2]
  cases hp[j]? with
  |none=>rfl
  |some o=>cases o with
   |none=>rfl
   |some x=>simp[Item.S9]
 have Zf:kd ft i=some (.own 1):=by rw[dq hgi];rfl
 let β':Env:=⟨β.b,fun j=>if j=i then β.h k else β.h j,β.rd⟩
 have hl:jX β β' (kd hp) (kd ft) (SV.mv i k c):=ah9 (by rw[dq hk];rfl) (by rw[dq hi];intro e;cases e) Zf hko rfl (fun j hj=>if_neg hj) (if_pos rfl) rfl
 let g:Nat→Nat:=fun j=>if j=i then k else j
 refine ⟨β',h.A7 g rfl ⟨fun j hj=>?_,fun j n hj=>?_,h.first.rd⟩ (fun j y hj=>?_) (fun j j' y z hj DZ e=>?_),hl⟩
 ·have h1:j≠i:=fun e=>by subst e;rw[hm] at hj;cases hj
  have h2:j≠k:=fun e=>by subst e;rw[gn hn] at hj;cases hj
  rw[hko j h1 h2];exact h.first.a8 j hj
 ·have h2:j≠k:=fun e=>by subst e;rw[gn hn] at hj;cases hj
  by_cases h1:j=i
  ·subst h1
   rw[hm] at hj;cases hj
   exact ⟨1,Zf,by omega,fun e=>by omega⟩
  ·obtain ⟨n',k1,k2,k3⟩:=h.first.own j n hj
   exact ⟨n',by rw[hko j h1 h2];exact k1,k2,fun e=>by show (if j=i then _ else _)=_;rw[if_neg h1];exact k3 e⟩
 ·by_cases h1:j=i
  ·subst h1
   rw[hgi] at hj;cases hj
   refine ⟨_,by show hp[if j=j then k else j]? =_;rw[if_pos rfl];exact hk,fun b ho=>?_,?_,.inr ?_⟩
   ·obtain ⟨a,n,m,h3,h4,h5⟩:=ho
    have h3':(if j=j then β.h k else β.h j)=_:=h3
    rw[if_pos rfl] at h3'
    exact ⟨a,n,m,by show β.h (if j=j then k else j)=_;rw[if_pos rfl];exact h3',h4,h5⟩
   ·show dt β' w (if j=j then β.h k else β.h j) t l
    rw[if_pos rfl]
    have oK:dt β w (β.h k) t l:=h.items k _ hk
    exact dt.of (β:=β) (β':=β') (w:=w) (w':=w) (fun _ _ _ _ h=>h) oK fun _ _ _ _ _=>rfl
   ·show kd al (if j=j then k else j)=none
    rw[if_pos rfl];exact gn hn
  ·by_cases h2:j=k
   ·subst h2;rw[hgk] at hj;cases hj
   ·rw[hgo j h1 h2] at hj
    obtain ⟨o,h3,h4⟩:=map_some hj
    cases o with
    |none=>cases h4
    |some x=>
     have h4':y=x.db (SV.mv i k c):=by simpa using h4.symm
     subst h4'
     have hg:g j=j:=if_neg h1
     have hhj:β'.h j=β.h j:=if_neg h1
     rw[hg]
     exact ⟨x,h3,fun b=>(cx.db (β:=β) (β':=β') rfl hhj).1,hl.item rfl hhj (h.items j x h3),.inl rfl⟩
 ·have hnk: ∀ {j y},ft[j]? =some (some y)→j≠k:=fun hj e=>by subst e;rw[hgk] at hj;cases hj
  have h1:=hnk hj
  have h2:=hnk DZ
  have e':(if j=i then k else j)=(if j'=i then k else j'):=e
  split at e'<;>split at e'
  ·rename_i a b;rw[a,b]
  ·exact absurd e'.symm h2
  ·exact absurd e' h1
  ·exact e'
theorem anI (h:bd W al β₀ β hp w) {ids:List Nat} (hlen:al.length≤hp.length) (hm: ∀ i∈ids,al.length≤i) (hn:ids.Nodup):
  ∃ β',bd W al β₀ β' ((hp.take al.length++ids.map (fun i=>br hp i)).map (Option.map (Item.cf (DO al.length ids) fun v=>v))) w∧
   xt (DO al.length ids) β β' (kd hp) (kd ((hp.take al.length++ids.map (fun i=>br hp i)).map (Option.map (Item.cf (DO al.length ids) fun v=>v)))) false:=by
 generalize hme:al.length=m at*
 generalize VO:(hp.take m++ids.map (fun i=>br hp i)).map (Option.map (Item.cf (DO m ids) fun v=>v))=ft
 let g:Nat→Nat:=fun j=>if j<m then j else ids.getD (j-m) 0
 have aif: ∀ {j},j<m→g j=j:=fun hj=>if_pos hj
 have ars: ∀ {j i:Nat},m≤j→ids[j-m]? =some i→g j=i:=fun hj hi=>by
  show (if _ then _ else _)=_
  rw[if_neg (by omega),gp hi]
 have htl:(hp.take m).length=m:=by simp;omega
 have me: ∀ {j y},ft[j]? =some (some y)→ ∃ x,hp[g j]? =some (some x)∧y=x.cf (DO m ids) (fun v=>v)∧((j<m∧g j=j)∨(m≤j∧ids[j-m]? =some (g j))):=by
  intro j y hj
  rw[← VO,List.getElem?_map] at hj
  obtain ⟨o,h1,h2⟩:=map_some hj
  cases o with
  |none=>cases h2
  |some x=>
   have h2':y=x.cf (DO m ids) fun v=>v:=by simpa using h2.symm
   by_cases VK:j<m
   ·rw[List.getElem?_append_left (by omega),List.getElem?_take,if_pos VK] at h1
    exact ⟨x,by rw[aif VK];exact h1,h2',.inl ⟨VK,aif VK⟩⟩
   ·rw[List.getElem?_append_right (by omega),htl,List.getElem?_map] at h1
    obtain ⟨i,h3,h4⟩:=map_some h1
    have e:=ars (by omega) h3
    exact ⟨x,by rw[e];exact aB h4,h2',.inr ⟨by omega,by rw[e];exact h3⟩⟩
 have hto: ∀ {i j x},aic m ids i=some j→hp[i]? =some (some x)→ft[j]? =some (some (x.cf (DO m ids) (fun v=>v)))∧g j=i:=by
  intro i j x hf hi
  unfold aic at hf
  split at hf
  ·rename_i him
   cases hf
   refine ⟨?_,aif him⟩
   rw[← VO,List.getElem?_map,List.getElem?_append_left (by omega),List.getElem?_take,if_pos him,hi];rfl
  ·obtain ⟨k,hk,rfl⟩:=map_some hf
   have h3:=gB hk
   refine ⟨?_,ars (by omega) (by rw[show k+m-m=k from by omega];exact h3)⟩
   rw[← VO,List.getElem?_map,List.getElem?_append_right (by omega),htl,show k+m-m=k from by omega,List.getElem?_map,h3]
   show some (Option.map _ (br hp i))=_
   rw[qo hi];rfl
 let β':Env:=⟨fun j=>β.b (g j),fun j=>β.h (g j),β.rd⟩
 have yT:xt (DO m ids) β β' (kd hp) (kd ft) false:=by
  refine ⟨fun b j hj hb=>?_,fun i j c hj hi=>?_,fun _ _ _ h=>h,fun _ _ _ _ h=>h⟩
  ·obtain ⟨x,h1,h2⟩:=k8 hb
   obtain ⟨h3,h4⟩:=hto hj h1
   exact ⟨by rw[dq h3,Item.jW,h2];rfl,congrArg β.b h4⟩
  ·obtain ⟨x,h1,h2⟩:=k8 hi
   obtain ⟨h3,h4⟩:=hto hj h1
   exact ⟨c,by rw[dq h3,Item.jW,h2];rfl,congrArg β.h h4,fun v v' hv e=>by cases e;exact ⟨hv,fun e=>e⟩⟩
 have fq: ∀ {i k},kd al i=some k→i<m:=fun {i k} hi=>by
  rcases Nat.lt_or_ge i m with h1|h1
  ·exact h1
  ·rw[gn (by omega)] at hi;cases hi
 have Jg: ∀ {i},i<m→aic m ids i=some i:=fun hi=>if_pos hi
 refine ⟨β',h.A7 g rfl ⟨fun i hi=>?_,fun i c hi=>?_,h.first.rd⟩ (fun j y hj=>?_) (fun j k y z hj hk e=>?_),yT⟩
 ·obtain ⟨k1,k2⟩:=h.first.a8 i hi
  obtain ⟨k3,k4⟩:=yT.a8 i i (Jg (fq hi)) k1
  exact ⟨k3,k4.trans k2⟩
 ·obtain ⟨c',k1,k2,k3⟩:=h.first.own i c hi
  have DY:i<m:=fq hi
  obtain ⟨x,h1,h2⟩:=k8 k1
  obtain ⟨h3,h4⟩:=hto (Jg DY) h1
  exact ⟨c',by rw[dq h3,Item.jW,h2];rfl,k2,fun e=>(congrArg β.h (aif DY)).trans (k3 e)⟩
 ·obtain ⟨x,h1,rfl,h2⟩:=me hj
  refine ⟨x,h1,fun b=>(cx.cf (β:=β) (β':=β') rfl rfl).1,eQ.FL yT (by simp) (fun _=>rfl) (fun _ _=>rfl) (h.items _ x h1),?_⟩
  rcases h2 with ⟨_,h2⟩|⟨_,h2⟩
  ·exact .inl h2
  ·exact .inr (gn (by rw[hme];exact hm _ (List.mem_of_getElem? h2)))
 ·obtain ⟨_,_,_,h1⟩:=me hj
  obtain ⟨_,_,_,h2⟩:=me hk
  rcases h1 with ⟨a1,a2⟩|⟨a1,a2⟩<;>rcases h2 with ⟨b1,b2⟩|⟨b1,b2⟩
  ·omega
  ·have:=hm _ (List.mem_of_getElem? b2);omega
  ·have:=hm _ (List.mem_of_getElem? a2);omega
  ·rw[e] at a2
   have e1:=jV hn a2
   have e2:=jV hn b2
   rw[e1] at e2
   have:=Option.some.inj e2
   omega
theorem anJ {m:xd} (JW:m.Ok al) {k:Wk} {st qC:St} (h:Zg m k st=some qC) {vals:List Value} (hr:VN W al β₀ β st.fr st.hp vals w): ∃ β',VN W al β₀ β' qC.fr qC.hp vals w:=by
 obtain ⟨fr,hp⟩:=st
 cases k with
 |fr l=>cases h;exact ⟨β,JP l hr.fr,hr.heap⟩
 |a8 i l=>
  simp only[Zg] at h
  split at h
  ·rename_i cells e hi
   cases h
   obtain ⟨h1,h2⟩:=hr.heap.Bb (aB hi) fun c=>JQ l
   exact ⟨β,by show b8 (LV.den β (kd _)) fr vals;rw[h2];exact hr.fr,h1⟩
  ·cases h;exact ⟨β,hr⟩
 |ct k t=>
  simp only[Zg] at h
  split at h
  ·rename_i tx
   cases h
   obtain ⟨β',h1,h2,h3⟩:=hr.heap.NA t
   refine ⟨β',(hr.fr.imp fun _ _=>LV.eA h2).aia fun b hb=>?_,h1⟩
   have kU: ∃ x,fr[k]? =some x:=by
    have:fr.length=vals.length:=hr.fr.length
    have hk:=(List.getElem?_eq_some_iff.1 hb).1
    exact ⟨_,List.getElem?_eq_getElem (show k<fr.length by omega)⟩
   obtain ⟨x,hx⟩:=kU
   obtain ⟨b',xb,hd⟩:=hr.fr.get hx
   rw[hb] at xb;cases xb
   simp only[List.getD_eq_getElem?_getD,hx,Option.getD_some] at tx
   cases x with
   |one x=>cases x with
    |sc s=>
     have:=Ed tx hd
     subst this;exact h3
    |agg l=>cases tx
   |cV l=>cases tx
   |bl=>cases tx
  ·cases h;exact ⟨β,hr⟩
 |fV i j t=>
  simp only[Zg] at h
  split at h
  ·rename_i cells e hi
   split at h
   ·rename_i tx
    simp only[Bool.and_eq_true] at tx
    cases h
    obtain ⟨β',h1,h2,h3⟩:=hr.heap.NA t
    have DY:(setAt hp hp.length (.own 0 t []))[i]? =some (some (.a8 cells e)):=by
     refine (cG hp _ _ _ _ ?_).2 (aB hi)
     have:=(List.getElem?_eq_some_iff.1 (aB hi)).1
     omega
    obtain ⟨h4,h5⟩:=h1.Bb (cells':=cells.set j (.sl hp.length 0)) DY fun c hc=>by
     refine nc ((nh tx.2 hc).aia fun b hb=>?_)
     have zb:=nh tx.2 hc
     have hj:=(List.getElem?_eq_some_iff.1 hb).1
     obtain ⟨x,hx⟩: ∃ x,cells[j]? =some x:=⟨_,List.getElem?_eq_getElem (show j<cells.length by rw[zb.length];exact hj)⟩
     obtain ⟨b',xb,hd⟩:=zb.get hx
     rw[hb] at xb;cases xb
     have hns:JV x=true:=by
      have:=tx.1
      rw[List.getD_eq_getElem?_getD,hx] at this
      exact this
     have:=Ed hns hd
     subst this;exact h3
    exact ⟨β',by show b8 (LV.den β' (kd _)) fr vals;rw[h5];exact hr.fr.imp fun _ _=>LV.eA h2,h4⟩
   ·cases h;exact ⟨β,hr⟩
  ·cases h
 |xc i=>
  simp only[Zg] at h
  split at h
  ·rename_i hm
   split at h
   ·rename_i c t l hi
    cases h
    obtain ⟨β',h1,h2⟩:=anH hr.heap (JW.n▸hm) (aB hi)
    exact ⟨β',h2.fr hr.fr,h1⟩
   ·cases h
  ·cases h
 |ver i=>
  simp only[Zg] at h
  split at h
  ·rename_i hm
   split at h
   ·rename_i c t l hi
    cases h
    obtain ⟨h1,h2⟩:=alT (n:=0) hr.heap (.inl (gn (JW.n▸hm))) (aB hi)
    exact ⟨β,h2.fr hr.fr,h1⟩
   ·cases h
  ·cases h
 |one i=>
  simp only[Zg] at h
  split at h
  ·rename_i hm
   split at h
   ·rename_i c t l hi
    cases h
    obtain ⟨h1,h2⟩:=alT (n:=1) hr.heap (.inr ⟨JW.v i hm,rfl⟩) (aB hi)
    exact ⟨β,h2.fr hr.fr,h1⟩
   ·cases h
  ·cases h
 |move i j=>
  simp only[Zg] at h
  split at h
  ·rename_i hm
   simp only[Bool.and_eq_true,decide_eq_true_eq] at hm
   split at h
   ·rename_i c t l c' t' l' hj hi
    cases h
    obtain ⟨β',h1,h2⟩:=aie hr.heap (JW.v i hm.1) (JW.n▸hm.2) (aB hj) (aB hi)
    exact ⟨β',h2.fr hr.fr,h1⟩
   ·cases h
  ·cases h
 |cut ids=>
  simp only[Zg] at h
  split at h
  ·rename_i hc
   simp only[Bool.and_eq_true,decide_eq_true_eq,List.all_eq_true] at hc
   cases h
   rw[JW.n] at hc ⊢
   obtain ⟨β',h1,h2⟩:=anI hr.heap hc.1.1 hc.1.2 (Ee hc.2)
   refine ⟨β',?_,h1⟩
   have hfr:=hr.fr
   show b8 (LV.den β' _) (fr.map _) vals
   exact hfr.Ay fun a b=>LV.fU h2 (by simp)
  ·cases h
 |gC i off n k=>
  simp only[Zg] at h
  split at h
  ·rename_i cells e hi
   cases h
   obtain ⟨h1,h2⟩:=hr.heap.Bb (aB hi) fun c=>km (off:=off) (n:=n) (k:=k)
   exact ⟨β,by show b8 (LV.den β (kd _)) fr vals;rw[h2];exact hr.fr,h1⟩
  ·cases h;exact ⟨β,hr⟩
 |lN i off n k=>cases h;exact ⟨β,Ba (fun _ _=>km) hr.fr,hr.heap⟩
 |Tb i=>
  simp only[Zg] at h
  split at h
  ·rename_i cells e hi
   cases h
   obtain ⟨h1,h2⟩:=hr.heap.Bb (aB hi) fun c=>Ec
   exact ⟨β,by show b8 (LV.den β (kd _)) fr vals;rw[h2];exact hr.fr,h1⟩
  ·cases h;exact ⟨β,hr⟩
 |alR i=>cases h;exact ⟨β,Ba (fun _ _=>Ec) hr.fr,hr.heap⟩
 |syms=>
  cases h
  refine ⟨β,?_,hr.heap.relabel (tK .sym)⟩
  show b8 (LV.den β (kd (hp.map _))) (fr.map _) vals
  rw[xy]
  exact (tK .sym).fr hr.fr
 |Nz k t=>cases h
 |anG i j t=>cases h
 |auto=>cases h
 |ax=>cases h
 |aag=>cases h
 |slot b o i t=>cases h
theorem aai {m:xd} (JW:m.Ok al): ∀ (ks:List Wk) {st qC:St} {β:Env},wkB m ks st=some qC→ ∀ {vals:List Value},VN W al β₀ β st.fr st.hp vals w→ ∃ β',VN W al β₀ β' qC.fr qC.hp vals w
 | [],_,_,_,h,_,hr=>by cases h;exact ⟨_,hr⟩
 |k::ks,st,_,_,h,_,hr=>by
  simp only[wkB] at h
  split at h
  ·rename_i st1 h1
   obtain ⟨β1,MY⟩:=anJ JW h1 hr
   exact aai JW ks h MY
  ·cases h
theorem aaj {m:xd} (JW:m.Ok al): ∀ (ks:List Wk) {st qC:St} {β:Env},rR m ks st=some qC→ ∀ {vals:List Value},VN W al β₀ β st.fr st.hp vals w→ ∃ β',VN W al β₀ β' qC.fr qC.hp vals w
 | [],_,_,_,h,_,hr=>by cases h;exact ⟨_,hr⟩
 |k::ks,st,_,_,h,_,hr=>by
  simp only[rR] at h
  split at h
  ·rename_i st1 h1
   obtain ⟨β1,MY⟩:=aai JW _ h1 hr
   exact aaj JW ks h MY
  ·cases h
end
def a6.wk (m:xd) (ws:Exit→List Wk):a6→a6
 | .leaf e st=>match rR m (ws e) st with
  |some qC=> .leaf e qC
  |none=> .fail
 | .ite b x y=> .ite b (x.wk m ws) (y.wk m ws)
 | .need p x=> .need p (x.wk m ws)
 | .fail=> .fail
theorem nt {m:xd} {ws:Exit→List Wk} {R:Exit→St→Prop}: ∀ {r:a6},(r.wk m ws).sat R→r.sat fun e st=> ∃ qC,rR m (ws e) st=some qC∧R e qC
 | .leaf e st,h=>by
  simp only[a6.wk] at h
  split at h
  ·rename_i qC h1;exact ⟨qC,h1,h⟩
  ·exact h.elim
 | .ite b x y,h=>⟨fun e=>nt (h.1 e),fun e=>nt (h.2 e)⟩
 | .need p x,h=>⟨h.1,nt h.2⟩
 | .fail,h=>h
theorem Rel.wk {W:World} {al:Hp} {β₀ β:Env} {st qC:St} {a:Act} {w:World} (hr:Rel W al β₀ β st a w) {m:xd} (JW:m.Ok al) {ks:List Wk} (h:rR m ks st=some qC): ∃ β',Rel W al β₀ β' qC a w:=by
 obtain ⟨β',h1⟩:=aaj JW ks h ⟨hr.fr,hr.heap⟩
 exact ⟨β',hr.defers,h1.fr,h1.heap⟩
theorem Ex.wk {P:Program} {al:Hp} {c:Code} {st:St} {r:a6} (ws:Exit→List Wk) (h:Ex P al c st r):Ex P al c st (r.wk (.of al) ws):=by
 intro W β₀ R Q hs hq β a w hr
 refine h W β₀ _ Q (nt hs) ?_ β a w hr
 rintro e a w ⟨st1,β1,⟨st2,h1,h2⟩,h3⟩
 obtain ⟨β2,h4⟩:=h3.wk (xd.bE al) h1
 exact hq _ _ _ ⟨st2,β2,h2,h4⟩
theorem Ex.pre {P:Program} {al:Hp} {c:Code} {st qC:St} {r:a6} {m:xd} (JW:m.Ok al) (ks:List Wk) (hk:rR m ks st=some qC) (h:Ex P al c qC r):Ex P al c st r:=by
 intro W β₀ R Q hs hq β a w hr
 obtain ⟨β2,h4⟩:=hr.wk JW hk
 exact h W β₀ R Q hs hq β2 a w h4
def End.wk (m:xd) (ks:List Wk):End→End
 | .leaf v hp=>match rR m ks ⟨[v],hp⟩ with
  |some ⟨[v'],ft⟩=> .leaf v' ft
  |_=> .fail
 | .ite b x y=> .ite b (x.wk m ks) (y.wk m ks)
 | .need p x=> .need p (x.wk m ks)
 | .fail=> .fail
theorem nu {m:xd} {ks:List Wk} {R:LV→Hp→Prop}: ∀ {r:End},(r.wk m ks).sat R→r.sat fun v hp=> ∃ v' ft,rR m ks ⟨[v],hp⟩=some ⟨[v'],ft⟩∧R v' ft
 | .leaf v hp,h=>by
  simp only[End.wk] at h
  split at h
  ·rename_i v' ft h1;exact ⟨v',ft,h1,h⟩
  ·exact h.elim
 | .ite b x y,h=>⟨fun e=>nu (h.1 e),fun e=>nu (h.2 e)⟩
 | .need p x,h=>⟨h.1,nu h.2⟩
 | .fail,h=>h
theorem nq.wk {P:Program} {f:FuncId} {args:List LV} {hp:Hp} {t:End} (ks:List Wk) (h:nq P f args hp t):nq P f args hp (t.wk (.of hp) ks):=by
 intro R hs β w vals hh dG
 refine (h _ (nu hs) β w vals hh dG).mono ?_
 rintro e w' ⟨val,β',r,ft,rfl,⟨v',hp2,h1,h2⟩,hd,hr⟩
 obtain ⟨β2,h3⟩:=aaj (xd.bE hp) ks h1 (vals:= [val]) ⟨.cons hd .nil,hr⟩
 obtain ⟨h4,h5⟩:=h3
 cases h4 with
 |cons h6 _=>exact ⟨val,β2,v',hp2,rfl,h2,h6,h5⟩
end Go.Ev
end
section
set_option linter.unusedVariables false
set_option linter.unusedSimpArgs false
namespace Go.Ev
open Go
theorem Ex.fw {P:Program} {m:Hp} {c:Code} {X:Type} (μ:X→Nat) (S:X→St) (I:X→Prop) (rnd F:X→a6) (h: ∀ x,I x→Ex P m c (S x) (rnd x))
  (hr: ∀ x R,I x→(F x).sat R→(rnd x).sat fun e s=>(e= .normal∧ ∃ y,s=S y∧I y∧μ y<μ x∧(F y).sat R)∨(e≠ .normal∧R e s)) {x:X} (hx:I x):Ex P m (.loop c) (S x) (F x):=by
 intro W β₀ R Q hs hq β a w Z4
 have key: ∀ (n:Nat) (y:X),I y→μ y<n→(F y).sat R→ ∀ β a w,Rel W m β₀ β (S y) a w→Code.rounds P c Q n a w:=by
  intro n
  induction n with
  |zero=>intro y _ h0;omega
  |succ n ih=>
   intro y hy hn hF β a w qB
   rw[rounds_succ]
   refine h y hy W β₀ _ _ (hr y R hy hF) ?_ β a w qB
   rintro e a w ⟨t,β',h1,h2⟩
   rcases h1 with ⟨rfl,z,rfl,hz,fq,hF'⟩|⟨gk,h1⟩
   ·exact ih z hz (by omega) hF' β' a w h2
   ·cases e with
    |normal=>exact absurd rfl gk
    |exit _=>exact hq _ _ _ ⟨t,β',h1,h2⟩
    |goto _=>exact hq _ _ _ ⟨t,β',h1,h2⟩
    |ret=>exact hq _ _ _ ⟨t,β',h1,h2⟩
    |panic _=>exact hq _ _ _ ⟨t,β',h1,h2⟩
    |outgrown=>exact hq _ _ _ ⟨t,β',h1,h2⟩
 exact wp_loop_rounds (μ x+1) (key _ x hx (Nat.lt_succ_self _) hs β a w Z4)
theorem Ex.need {P:Program} {m:Hp} {c:Code} {st:St} {p:Prop} {r:a6} (h:p→Ex P m c st r):Ex P m c st (.need p r):=
 fun W β₀ R Q hs hq β a w hr=>h hs.1 W β₀ R Q hs.2 hq β a w hr
def aH (fn:Func):Code:=fn.body.getD .skip
def fT (c:Code) (id:Nat):List Code:=(DM c).filterMap fun p=>if p.1=id then some p.2 else none
def aU (fn:Func) (id:Nat):Code:=match fT (aH fn) id with
 | [.loop b]=>b
 |_=> .ret
def lO:List Code→Bool
 | [.loop _]=>true
 |_=>false
theorem xz {fn:Func} {id:Nat} (h:lO (fT (aH fn) id)=true):fT (aH fn) id= [.loop (aU fn id)]:=by
 unfold aU
 generalize fT (aH fn) id=l at*
 unfold lO at h
 split at h
 ·rfl
 ·cases h
theorem Ef {LT:eW} {id:Nat} {f:St→a6} (h:D8 LT id=some f):(id,f)∈LT:=by
 induction LT with
 |nil=>cases h
 |cons p l ih=>
  obtain ⟨i,g⟩:=p
  simp only[D8] at h
  split at h
  ·rename_i e;subst e;cases h;simp
  ·exact List.mem_cons_of_mem _ (ih h)
theorem aP.cy {P:Program} {m:Hp} {LT:eW} {fn:Func} (h: ∀ p∈LT,lO (fT (aH fn) p.1)=true∧ ∀ st,Ex P m (.loop (aU fn p.1)) st (p.2 st)):aP P m LT (aH fn):=by
 refine aP.of fun id f c' hf hm st=>?_
 obtain ⟨h1,h2⟩:=h _ (Ef hf)
 have:c'∈fT (aH fn) id:=List.mem_filterMap.2 ⟨(id,c'),hm,by simp⟩
 rw[xz h1] at this
 simp at this;subst this
 exact h2 st
theorem aak {c c':Code} {id:Nat} (h:(id,c')∈DM c): ∀ p∈DM c',p∈DM c:=by
 induction c with
 |seq a b ZZ Z0=>
  rcases List.mem_append.1 h with h|h
  ·exact fun p hp=>List.mem_append_left _ (ZZ h p hp)
  ·exact fun p hp=>List.mem_append_right _ (Z0 h p hp)
 |cond _ a b ZZ Z0=>
  rcases List.mem_append.1 h with h|h
  ·exact fun p hp=>List.mem_append_left _ (ZZ h p hp)
  ·exact fun p hp=>List.mem_append_right _ (Z0 h p hp)
 |block i c ih=>
  rcases List.mem_cons.1 h with h|h
  ·cases h;exact fun p hp=>List.mem_cons_of_mem _ hp
  ·exact fun p hp=>List.mem_cons_of_mem _ (ih h p hp)
 |loop c ih=>exact fun p hp=>ih h p hp
 |scope c ih=>exact fun p hp=>ih h p hp
 |_=>cases h
theorem aP.inner {P:Program} {m:Hp} {LT:eW} {fn:Func} {i:Nat} (hi:lO (fT (aH fn) i)=true) (h: ∀ p∈LT,lO (fT (aH fn) p.1)=true∧ ∀ st,Ex P m (.loop (aU fn p.1)) st (p.2 st)):aP P m LT (aU fn i):=by
 refine aP.of fun id f c' hf hm st=>?_
 obtain ⟨h1,h2⟩:=h _ (Ef hf)
 have h3:Code.loop (aU fn i)∈fT (aH fn) i:=by rw[xz hi];simp
 obtain ⟨⟨j,c2⟩,h4,h5⟩:=List.mem_filterMap.1 h3
 simp only at h5
 split at h5
 ·cases h5
  have:c'∈fT (aH fn) id:=List.mem_filterMap.2 ⟨(id,c'),aak h4 _ hm,by simp⟩
  rw[xz h1] at this
  simp at this;subst this
  exact h2 st
 ·cases h5
def c8 (P:Program) (tab:List (FuncId×au)) (LT:eW) (fn:Func) (id:Nat) (hp:Hp) (ws:Exit→List Wk) (st:St):a6:=(exec P (S7 tab) fork hp LT (aU fn id) st).wk (.of hp) ws
theorem Tc {P:Program} (kV:P.follows .mixedOrders=true) {tab:List (FuncId×au)} (rL: ∀ p∈tab,p.2.Ok P p.1) {LT:eW} {fn:Func} {id:Nat} {hp:Hp} {ws:Exit→List Wk} {st:St} (hL:aP P hp LT (aU fn id)):
  Ex P hp (aU fn id) st (c8 P tab LT fn id hp ws st):=(Ex.S2 (aae rL) kV hL rfl).wk ws
def aY (P:Program) (tab:List (FuncId×au)) (LT:eW) (fn:Func) (args:List LV) (hp:Hp) (ks:List Wk):End:=((exec P (S7 tab) fork hp LT (aH fn) (entry fn args hp)).ends P fn).wk (.of hp) ks
theorem aG {P:Program} (kV:P.follows .mixedOrders=true) {tab:List (FuncId×au)} (rL: ∀ p∈tab,p.2.Ok P p.1) {f:FuncId} {fn:Func} (hf:P.funcs[f]? =some fn) (hb:fn.body.isSome=true) {LT:eW} {args:List LV} {hp:Hp} {ks:List Wk} (hL:aP P hp LT (aH fn)):
  nq P f args hp (aY P tab LT fn args hp ks):=by
 have kU:fn.body=some (aH fn):=by
  unfold aH
  cases h:fn.body with
  |none=>rw[h] at hb;cases hb
  |some c=>rfl
 exact (Nv hf kU (Ex.S2 (A:=fork) (aae rL) kV hL rfl)).wk ks
theorem nq.use {P:Program} {f:FuncId} {args:List LV} {hp:Hp} {t:End} (h:nq P f args hp t) {V:LV} {D:List (Nat×Item)} (hs:t.sat fun v ft=>v=V∧ft=aK D hp) {Q:LV→List (Nat×Item)→Prop} (hQ:Q V D):
  hX P f args hp fun v ft=> ∃ d,Q v d∧ft=aK d hp:=by
 refine h _ ?_
 have key: ∀ {t:End},(t.sat fun v ft=>v=V∧ft=aK D hp)→t.sat fun v ft=> ∃ d,Q v d∧ft=aK d hp:=by
  intro t
  induction t with
  |leaf v ft=>rintro ⟨rfl,rfl⟩;exact ⟨D,hQ,rfl⟩
  |ite b x y ihx ihy=>exact fun h=>⟨fun e=>ihx (h.1 e),fun e=>ihy (h.2 e)⟩
  |need p x ih=>exact fun h=>⟨h.1,ih h.2⟩
  |fail=>exact fun h=>h
 exact key hs
def Bc (l:List SV):List SV:=
 if l.length=32 then DN 0 32 .u8 l else if l.length=8 then DN 0 8 .u64 (DN 0 8 .u8 l) else if l.length=16 then DN 0 16 .u64 l else l
theorem NC {β:Env} {L:Nat→Option Kd} {l:List SV} {vs:List Value} (h:bo β L l vs):bo β L (Bc l) vs:=by
 unfold Bc
 split
 ·exact km h
 ·split
  ·exact km (km h)
  ·split
   ·exact km h
   ·exact h
def au.sym (e:au):au:=⟨e.tys,fun args hp=>e.run (args.map fun a=>(a.db SV.symm).onL Bc) (hp.map (Option.map (Item.db SV.symm)))⟩
theorem aal {β:Env} {L:Nat→Option Kd} {s:SV} {v:Value}:(s.symm).den β L v↔s.den β L v:=by cases s<;>exact Iff.rfl
theorem VP {β:Env} {L:Nat→Option Kd} {s:SV} {vs:List Value}:(s.symm).ji β L vs↔s.ji β L vs:=by cases s<;>exact Iff.rfl
theorem Eg {β:Env} {L:Nat→Option Kd}:jX β β L L SV.symm:=⟨aal.2,fun _ _ _=>rfl,fun _ _ _ h=>h⟩
theorem Eh {β:Env} {L:Nat→Option Kd}: ∀ {l:List SV} {vs:List Value},bo β L (l.map SV.symm) vs→bo β L l vs
 | [],_,h=>h
 |s::l,_,h=>by
  cases h with
  |cons h1 h2=>exact .cons (VP.1 h1) (Eh h2)
theorem VQ {β:Env} {L:Nat→Option Kd} {w:World} {i:Nat} {x:Item} (h:eQ β L w i (x.db SV.symm)):eQ β L w i x:=by
 cases x with
 |a8 cells e=>obtain ⟨c,fz,h1,h2,h3⟩:=h;exact ⟨c,fz,h1,h2,Eh h3⟩
 |_=>exact h
theorem iV: ∀ (d:List (Nat×Item)) {hp hp2:Hp} {j:Nat} {x:Item},(∀ (j:Nat) (x:Item),hp[j]? =some (some x)→ ∃ y,hp2[j]? =some (some y)∧(y=x∨y=x.db SV.symm))→(aK d hp)[j]? =some (some x)→ ∃ y,(aK d hp2)[j]? =some (some y)∧(y=x∨y=x.db SV.symm)
 | [],_,_,j,x,h,hj=>h j x hj
 |(i,z)::d,hp,hp2,j,x,h,hj=>by
  refine iV d (hp:=setAt hp i z) (hp2:=setAt hp2 i z) (fun k y hk=>?_) hj
  by_cases e:k=i
  ·subst e
   rw[du] at hk;cases hk
   exact ⟨z,du _ _ _,.inl rfl⟩
  ·obtain ⟨y',h1,h2⟩:=h k y ((cG hp i z k y e).1 hk)
   exact ⟨y',(cG hp2 i z k y' e).2 h1,h2⟩
theorem oz: ∀ (d:List (Nat×Item)) {hp hp2:Hp},kd hp=kd hp2→kd (aK d hp)=kd (aK d hp2)
 | [],_,_,h=>h
 |(i,z)::d,hp,hp2,h=>oz d (hp:=setAt hp i z) (hp2:=setAt hp2 i z) (by funext j;rw[dn,dn,h])
theorem au.Ok.sym {P:Program} {f:FuncId} {e:au} (he:e.Ok P f):e.sym.Ok P f:=by
 refine ⟨fun args hp Q h β w vals hh dG=>?_⟩
 generalize VO:hp.map (Option.map (Item.db SV.symm))=hp2
 have hk:kd hp2=kd hp:=by rw[← VO];exact xy hp
 have hh2:bd w hp2 β β hp2 w:=VO▸(hh.relabel Eg).self
 have anK:b8 (LV.den β (kd hp2)) (args.map fun a=>(a.db SV.symm).onL Bc) vals:=by
  rw[hk]
  exact dG.Ay fun a b h=>LV.tL (fun _ _=>NC) (Eg.lv h)
 have hto: ∀ (j:Nat) (x:Item),hp[j]? =some (some x)→ ∃ y,hp2[j]? =some (some y)∧(y=x∨y=x.db SV.symm):=by
  intro j x hj
  refine ⟨x.db SV.symm,?_,.inr rfl⟩
  rw[← VO,List.getElem?_map,hj];rfl
 have hof: ∀ (j:Nat) (y:Item),hp2[j]? =some (some y)→ ∃ x,hp[j]? =some (some x)∧y=x.db SV.symm:=by
  intro j y hj
  rw[← VO] at hj
  exact A8 hj
 have dY:(e.run (args.map fun a=>(a.db SV.symm).onL Bc) hp2).holds Q:=VO▸h
 refine (he.calls _ _ Q dY β w vals hh2 anK).mono ?_
 rintro en w' ⟨val,β',r,ft,rfl,⟨d,hq,rfl⟩,hd,h'⟩
 have hk2:kd (aK d hp2)=kd (aK d hp):=oz d hk
 refine ⟨val,β',r,aK d hp,rfl,⟨d,hq,rfl⟩,by rw[← hk2];exact hd,?_⟩
 have g8: ∀ {x y:Item} {i b:Nat},(y=x∨y=x.db SV.symm)→(cx β' y i b↔cx β' x i b):=by
  rintro x y i b (rfl|rfl)
  ·exact Iff.rfl
  ·exact cx.db rfl rfl
 refine ⟨fun j x hj=>?_,fun i j x y b hi hj h1 h2=>?_,?_,fun i x b hi ho=>?_,h'.os,h'.output,h'.size,fun b hb rO=>?_,fun pm v t l hr=>?_,h'.from_⟩
 ·obtain ⟨y,h1,h2⟩:=iV d hto hj
  rw[← hk2]
  have:=h'.items j y h1
  rcases h2 with rfl|rfl
  ·exact this
  ·exact VQ this
 ·obtain ⟨x',a1,a2⟩:=iV d hto hi
  obtain ⟨y',b1,b2⟩:=iV d hto hj
  exact h'.inj i j x' y' b a1 b1 ((g8 a2).2 h1) ((g8 b2).2 h2)
 ·rw[← hk,← hk2];exact h'.first
 ·obtain ⟨x',a1,a2⟩:=iV d hto hi
  rcases h'.own i x' b a1 ((g8 a2).2 ho) with k|⟨y,k1,k2⟩
  ·exact .inl k
  ·obtain ⟨x0,k3,rfl⟩:=hof i y k1
   exact .inr ⟨x0,k3,(cx.db rfl rfl).1 k2⟩
 ·refine h'.an b hb fun ⟨j,y,h1,h2⟩=>rO ?_
  obtain ⟨x0,k3,rfl⟩:=hof j y h1
  exact ⟨j,x0,k3,(cx.db rfl rfl).1 h2⟩
 ·obtain ⟨h1,h2⟩:=h'.reads pm v t l hr
  refine ⟨h1,fun b hb=>⟨(h2 b hb).1,fun ⟨j,x,hj,ho⟩=>(h2 b hb).2 ?_⟩⟩
  obtain ⟨y,k1,k2⟩:=iV d hto hj
  exact ⟨j,y,k1,(g8 k2).2 ho⟩
end Go.Ev
end
section
set_option linter.unusedVariables false
set_option linter.unusedSimpArgs false
namespace Go.Ev
open Go
structure a9 (T X:Type) where
 rd:T→Option X
 wr:X→T
 ok: ∀ {t x},rd t=some x→t=wr x
def a9.jQ {T X Y:Type} (c:a9 T X) (f:X→Y) (g:Y→X) (h: ∀ x,g (f x)=x):a9 T Y where
 rd t:=(c.rd t).map f
 wr y:=c.wr (g y)
 ok:=by
  intro t y hy
  obtain ⟨x,hx,rfl⟩:=map_some hy
  rw[h];exact c.ok hx
def ay (k:IntKind):a9 SV Int where
 rd s:=match s with
  | .int k' (.sym n)=>if k'=k then some n else none
  |_=>none
 wr n:= .int k (.sym n)
 ok:=by
  intro s x h
  split at h
  ·split at h
   ·rename_i e;subst e;cases h;rfl
   ·cases h
  ·cases h
def Td:a9 SV Bool where
 rd s:=match s with
  | .bool (.sym b)=>some b
  |_=>none
 wr b:= .bool (.sym b)
 ok:=by
  intro s x h
  split at h
  ·cases h;rfl
  ·cases h
def dB (pm nn:Bool) (t:Ty):a9 SV (List t.D) where
 rd s:=match s with
  | .rd kT nn' t' l=>if h:t'=t then (if kT=pm∧nn'=nn then some (h▸l) else none) else none
  |_=>none
 wr l:= .rd pm nn t l
 ok:=by
  intro s x h
  split at h
  ·split at h
   ·rename_i e;subst e
    split at h
    ·rename_i e;obtain ⟨rfl,rfl⟩:=e;cases h;rfl
    ·cases h
   ·cases h
  ·cases h
def aJ (b o:Nat):a9 SV Unit where
 rd s:=match s with
  | .ptr b' o'=>if b'=b∧o'=o then some () else none
  |_=>none
 wr _:= .ptr b o
 ok:=by
  intro s x h
  split at h
  ·split at h
   ·rename_i e;obtain ⟨rfl,rfl⟩:=e;rfl
   ·cases h
  ·cases h
def jY (i v:Nat):a9 SV Unit where
 rd s:=match s with
  | .sl b' o'=>if b'=i∧o'=v then some () else none
  |_=>none
 wr _:= .sl i v
 ok:=by
  intro s x h
  split at h
  ·split at h
   ·rename_i e;obtain ⟨rfl,rfl⟩:=e;rfl
   ·cases h
  ·cases h
def tM (t:Ty) (n:Nat):a9 SV (List t.D) where
 rd s:=match s with
  | .arr t' n' l=>if h:t'=t then (if n'=n then some (h▸l) else none) else none
  |_=>none
 wr l:= .arr t n l
 ok:=by
  intro s x h
  split at h
  ·split at h
   ·rename_i e;subst e
    split at h
    ·rename_i e;subst e;cases h;rfl
    ·cases h
   ·cases h
  ·cases h
section
variable {T X Y Z:Type}
def ag:a9 (List T) Unit where
 rd l:=match l with
  | []=>some ()
  |_::_=>none
 wr _:= []
 ok:=by
  intro s x h
  split at h
  ·rfl
  ·cases h
def ae (a:a9 T X) (r:a9 (List T) Y):a9 (List T) (X×Y) where
 rd l:=match l with
  | []=>none
  |x::l=>match a.rd x,r.rd l with
   |some x,some y=>some (x,y)
   |_,_=>none
 wr p:=a.wr p.1::r.wr p.2
 ok:=by
  intro s x h
  split at h
  ·cases h
  ·split at h
   ·rename_i h1 h2;cases h;rw[a.ok h1,r.ok h2]
   ·cases h
def ak (a:a9 T Unit) (r:a9 (List T) Y):a9 (List T) Y where
 rd l:=match l with
  | []=>none
  |x::l=>match a.rd x,r.rd l with
   |some _,some y=>some y
   |_,_=>none
 wr p:=a.wr ()::r.wr p
 ok:=by
  intro s x h
  split at h
  ·cases h
  ·split at h
   ·rename_i h1 h2;cases h;rw[a.ok h1,r.ok h2]
   ·cases h
def aam (a:a9 T Unit) (r:a9 (List T) Y):Nat→a9 (List T) Y
 |0=>r
 |n+1=>ak a (aam a r n)
end
def Te (k:IntKind):List SV→Option (List Int)
 | []=>some []
 | .int k' (.sym n)::l=>if k'=k then (Te k l).map (n:: ·) else none
 |_::_=>none
theorem JX {k:IntKind}: ∀ {l:List SV} {m:List Int},Te k l=some m→l=m.map fun n=> .int k (.sym n)
 | [],m,h=>by cases h;rfl
 |s::l,m,h=>by
  unfold Te at h
  split at h
  ·rename_i e;cases e
  ·rename_i e;injection e with e1 e2;subst e1 e2
   split at h
   ·rename_i e;subst e
    obtain ⟨m',h1,rfl⟩:=map_some h
    rw[JX h1];rfl
   ·cases h
  ·cases h
def art (k:IntKind) (n:Nat):a9 (List SV) (List Int) where
 rd l:=match Te k l with
  |some m=>if l.length=n then some m else none
  |none=>none
 wr l:=(List.range n).map fun i=> .int k (.sym (l.getD i 0))
 ok:=by
  intro s x h
  split at h
  ·rename_i m hm
   split at h
   ·rename_i hn
    cases h
    have:=JX hm
    subst this
    simp only[List.length_map] at hn
    subst hn
    apply List.ext_getElem?
    intro i
    simp only[List.getElem?_map]
    rcases Nat.lt_or_ge i x.length with h1|h1
    ·rw[List.getElem?_range h1]
     simp[List.getD_eq_getElem?_getD,List.getElem?_eq_getElem h1]
    ·rw[List.getElem?_eq_none h1,List.getElem?_eq_none (by simpa using h1)]
     rfl
   ·cases h
  ·cases h
section
variable {X Y:Type}
def ah (s:a9 SV X):a9 LV X where
 rd x:=match x with
  | .one (.sc x)=>s.rd x
  |_=>none
 wr x:= .one (.sc (s.wr x))
 ok:=by
  intro x v h
  split at h
  ·rw[s.ok h]
  ·cases h
def FZ (r:a9 (List SV) X):a9 LV X where
 rd x:=match x with
  | .one (.agg x)=>r.rd x
  |_=>none
 wr x:= .one (.agg (r.wr x))
 ok:=by
  intro x v h
  split at h
  ·rw[r.ok h]
  ·cases h
def aru:a9 LV Unit where
 rd x:=match x with
  | .bl=>some ()
  |_=>none
 wr _:= .bl
 ok:=by
  intro x v h
  split at h
  ·rfl
  ·cases h
def dN (e:TypeId) (r:a9 (List SV) X):a9 (Option Item) X where
 rd x:=match x with
  |some (.a8 cells e')=>if e'=e then r.rd cells else none
  |_=>none
 wr x:=some (.a8 (r.wr x) e)
 ok:=by
  intro x v h
  split at h
  ·split at h
   ·rename_i e;subst e;rw[r.ok h]
   ·cases h
  ·cases h
def cg (ver:Nat) (t:Ty):a9 (Option Item) (List t.D) where
 rd x:=match x with
  |some (.own ver' t' l)=>if h:t'=t then (if ver'=ver then some (h▸l) else none) else none
  |_=>none
 wr l:=some (.own ver t l)
 ok:=by
  intro x v h
  split at h
  ·split at h
   ·rename_i e;subst e
    split at h
    ·rename_i e;subst e;cases h;rfl
    ·cases h
   ·cases h
  ·cases h
def bH (a:a9 (List LV) X) (b:a9 Hp Y):a9 St (X×Y) where
 rd s:=match a.rd s.fr,b.rd s.hp with
  |some x,some y=>some (x,y)
  |_,_=>none
 wr p:=⟨a.wr p.1,b.wr p.2⟩
 ok:=by
  intro s x h
  split at h
  ·rename_i h1 h2
   cases h
   obtain ⟨fr,hp⟩:=s
   have e1:=a.ok h1
   have e2:=b.ok h2
   simp only at e1 e2
   subst e1 e2
   rfl
  ·cases h
end
abbrev jk (n:Nat) {Y:Type} (r:a9 (List LV) Y):a9 (List LV) Y:=aam aru r n
theorem b8.mid {α β:Type} {R:α→β→Prop}: ∀ {x:List α} {a:α} {y:List α} {vs:List β},b8 R (x++a::y) vs→ ∃ u v w,vs=u++v::w∧b8 R x u∧R a v∧b8 R y w
 | [],a,y,_,h=>by
  cases h with
  |cons h t=>exact ⟨[],_,_,rfl,.nil,h,t⟩
 |b::x,a,y,_,h=>by
  cases h with
  |cons h t=>
   obtain ⟨u,v,w,rfl,h1,h2,h3⟩:=b8.mid t
   exact ⟨_::u,v,w,rfl,.cons h h1,h2,h3⟩
theorem hX.aij {P:Program} {f:FuncId} {x y:List LV} {pm:Bool} {t:Ty} {l:List t.D} {hp:Hp} {R:LV→Hp→Prop} (h1:l= []→hX P f (x++ .one (.sc (.gz (.slice none 0 0)))::y) hp R)
  (h2:hX P f (x++ .one (.sc (.rd pm true t l))::y) hp R):hX P f (x++ .one (.sc (.rd pm false t l))::y) hp R:=by
 intro β w vals hh dG
 obtain ⟨u,v,w',rfl,a1,a2,a3⟩:=dG.mid
 obtain ⟨b1,_,b3⟩:=(a2:SV.den β (kd hp) (.rd pm false t l) v)
 obtain ⟨a,n,c,rfl,hn,hc,hz,_⟩:=(hh.am6 b3).1
 cases a with
 |none=>
  have hc0:=hz rfl
  subst hc0
  have DF:n=0:=by omega
  subst DF
  exact h1 (List.eq_nil_of_length_eq_zero hn.symm) β w _ hh (a1.append (.cons ⟨b1,rfl⟩ a3))
 |some a=>exact h2 β w _ hh (a1.append (.cons ⟨b1,fun _=>by simp[notNil],b3⟩ a3))
def Tf {X:Type} (C:a9 St X) (m:xd) (ks:List Wk) (F:X→a6) (st:St):a6:=match rR m ks st with
 |some qC=>match C.rd qC with
  |some x=>F x
  |none=> .fail
 |none=> .fail
theorem JY {P:Program} {hp:Hp} {c:Code} {X:Type} {C:a9 St X} {m:xd} (hm:m.Ok hp) {ks:List Wk} {F:X→a6} (h: ∀ x,Ex P hp c (C.wr x) (F x)): ∀ st,Ex P hp c st (Tf C m ks F st):=by
 intro st
 unfold Tf
 split
 ·rename_i qC hk
  split
  ·rename_i x hx
   exact Ex.pre hm ks hk (by rw[C.ok hx];exact h x)
  ·exact fun _ _ _ _ hs=>hs.elim
 ·exact fun _ _ _ _ hs=>hs.elim
abbrev fw {X:Type} (C:a9 St X) (m:Nat) (ks:List Wk) (F:X→a6) (st:St):a6:=Tf C ⟨m,fun _=>false⟩ ks F st
theorem c5 {P:Program} {hp:Hp} {c:Code} {X:Type} {C:a9 St X} {ks:List Wk} {F:X→a6} (h: ∀ x,Ex P hp c (C.wr x) (F x)): ∀ st,Ex P hp c st (fw C hp.length ks F st):=JY (xd.arq hp) h
abbrev aX {X:Type} (C:a9 St X) (hp:Hp) (ks:List Wk) (F:X→a6) (st:St):a6:=Tf C (.of hp) ks F st
theorem bz {P:Program} {hp:Hp} {c:Code} {X:Type} {C:a9 St X} {ks:List Wk} {F:X→a6} (h: ∀ x,Ex P hp c (C.wr x) (F x)): ∀ st,Ex P hp c st (aX C hp ks F st):=JY (xd.bE hp) h
theorem Ei {P:Program} (kV:P.follows .mixedOrders=true) {tab:List (FuncId×au)} (rL: ∀ p∈tab,p.2.Ok P p.1) {LT:eW} {fn:Func} {id:Nat} {hp:Hp} {ws:Exit→List Wk} (hL:aP P hp LT (aU fn id))
  {X:Type} (μ:X→Nat) (S:X→St) (I:X→Prop) (F:X→a6) {T:X→a6} (hT: ∀ x,I x→c8 P tab LT fn id hp ws (S x)=T x)
  (hr: ∀ x R,I x→(F x).sat R→(T x).sat fun e s=>(e= .normal∧ ∃ y,s=S y∧I y∧μ y<μ x∧(F y).sat R)∨(e≠ .normal∧R e s)) (x:X) (hx:I x):Ex P hp (.loop (aU fn id)) (S x) (F x):=
 Ex.fw μ S I T F (fun x hx=>hT x hx▸Tc kV rL hL) hr hx
theorem aD {P:Program}: ∀ p∈([]:List (FuncId×au)),p.2.Ok P p.1:=fun _ h=>by cases h
theorem ao {P:Program} {f:FuncId} {e:au} {l:List (FuncId×au)} (h:e.Ok P f) (hl: ∀ p∈l,p.2.Ok P p.1): ∀ p∈(f,e)::l,p.2.Ok P p.1:=fun p hp=>by
 rcases List.mem_cons.1 hp with rfl|hp
 ·exact h
 ·exact hl p hp
theorem jH {P:Program} {hp:Hp} {fn:Func}: ∀ p∈([]:eW),lO (fT (aH fn) p.1)=true∧ ∀ st,Ex P hp (.loop (aU fn p.1)) st (p.2 st):=fun _ h=>by cases h
theorem jr {P:Program} {hp:Hp} {fn:Func} {i:Nat} {f:St→a6} {l:eW} (h1:lO (fT (aH fn) i)=true) (h2: ∀ st,Ex P hp (.loop (aU fn i)) st (f st))
  (hl: ∀ p∈l,lO (fT (aH fn) p.1)=true∧ ∀ st,Ex P hp (.loop (aU fn p.1)) st (p.2 st)): ∀ p∈(i,f)::l,lO (fT (aH fn) p.1)=true∧ ∀ st,Ex P hp (.loop (aU fn p.1)) st (p.2 st):=fun p hp=>by
 rcases List.mem_cons.1 hp with rfl|hp
 ·exact ⟨h1,h2⟩
 ·exact hl p hp
def au.of {X Y:Type} (tys:List (Option Ty)) (A:a9 (List LV) X) (H:a9 Hp Y) (out:X→Y→Out):au:=⟨tys,fun args hp=>match A.rd args,H.rd hp with
 |some x,some y=>out x y
 |_,_=> .fail⟩
theorem au.bE {P:Program} {f:FuncId} (he:xr P f) {X Y:Type} {tys:List (Option Ty)} {A:a9 (List LV) X} {H:a9 Hp Y} {out:X→Y→Out}
  (h: ∀ x y Q,(out x y).holds Q→hX P f (A.wr x) (H.wr y) fun v ft=> ∃ d,Q v d∧ft=aK d (H.wr y)):(au.of tys A H out).Ok P f:=by
 refine ⟨fun args hp Q hq=>?_⟩
 simp only[au.of] at hq
 split at hq
 ·rename_i x y hx hy
  rw[A.ok hx,H.ok hy]
  exact (h x y Q hq).done he
 ·exact hq.elim
def au.or (e e':au):au:=⟨e.tys,fun args hp=>match e.run args hp with
 | .fail=>e'.run args hp
 |o=>o⟩
theorem au.Ok.or {P:Program} {f:FuncId} {e e':au} (h:e.Ok P f) (h':e'.Ok P f):(e.or e').Ok P f:=by
 refine ⟨fun args hp Q hq=>?_⟩
 simp only[au.or] at hq
 split at hq
 ·exact h'.calls args hp Q hq
 ·exact h.calls args hp Q hq
abbrev au.bV {X Y:Type} (tys:List (Option Ty)) (A:a9 (List LV) X) (H:a9 Hp Y) (out:X→Y→Out):au:=(au.of tys A H out).sym
end Go.Ev
end
section
set_option linter.unusedVariables false
set_option linter.unusedSimpArgs false
namespace Go.Ev
open Go
theorem qF {l:List Int} {j:Nat} (h:j<l.length):l.drop j=l.getD j 0::l.drop (j+1):=by
 rw[List.drop_eq_getElem_cons h,List.getD_eq_getElem?_getD,List.getElem?_eq_getElem h];rfl
def By (z:Int):Prop:=0≤z∧z<256
def aC (l:List Int):Prop:= ∀ z∈l,By z
theorem aC.take {l:List Int} (h:aC l) (n:Nat):aC (l.take n):=fun z hz=>h z (List.mem_of_mem_take hz)
theorem aC.drop {l:List Int} (h:aC l) (n:Nat):aC (l.drop n):=fun z hz=>h z (List.mem_of_mem_drop hz)
theorem aC.append {l m:List Int} (h:aC l) (h':aC m):aC (l++m):=fun z hz=>by
 rcases List.mem_append.1 hz with k|k
 ·exact h z k
 ·exact h' z k
def upto {σ:Type} (f:Nat→σ→σ):Nat→Nat→σ→σ
 |_,0,s=>s
 |k,m+1,s=>upto f (k+1) m (f k s)
theorem Ej {σ:Type} (f:Nat→σ→σ): ∀ (m k:Nat) (s:σ),upto f k (m+1) s=f (k+m) (upto f k m s)
 |0,k,s=>rfl
 |m+1,k,s=>by
  show upto f (k+1) (m+1) (f k s)=_
  rw[Ej f m (k+1)]
  show f (k+1+m) (upto f (k+1) m (f k s))=f (k+(m+1)) (upto f (k+1) m (f k s))
  rw[show k+1+m=k+(m+1) from by omega]
theorem mA {σ:Type} {f:Nat→σ→σ} (I:Nat→σ→Prop) {n:Nat} (hI: ∀ k s,k<n→I k s→I (k+1) (f k s)): ∀ (m k:Nat) (s:σ),k+m≤n→I k s→I (k+m) (upto f k m s)
 |0,_,_,_,h=>h
 |m+1,k,s,hn,h=>by
  have:=mA I hI m (k+1) (f k s) (by omega) (hI k s (by omega) h)
  rw[show k+1+m=k+(m+1) from by omega] at this
  exact this
theorem Ek (g:Nat→Int): ∀ (m k:Nat) (o:List Int),o.length=k+m→upto (fun k o=>o.set k (g k)) k m o=o.take k++(List.range m).map fun i=>g (k+i)
 |0,k,o,h=>by simp[upto,List.take_of_length_le (show o.length≤k by omega)]
 |m+1,k,o,h=>by
  show upto (fun k o=>o.set k (g k)) (k+1) m (o.set k (g k))=_
  rw[Ek g m (k+1) _ (by simp;omega),List.range_succ_eq_map,List.map_cons,List.map_map]
  have e:(o.set k (g k)).take (k+1)=o.take k++ [g k]:=by
   rw[List.take_add_one,List.take_set_of_le (Nat.le_refl _)]
   simp[show k<o.length by omega]
  rw[e,List.append_assoc]
  congr 1
  simp only[List.singleton_append,Nat.add_zero]
  congr 1
  apply List.map_congr_left
  intro i _
  show g (k+1+i)=g (k+(i+1))
  congr 1;omega
theorem VR (g:Nat→Int) {n:Nat} {o:List Int} (h:o.length=n):upto (fun k o=>o.set k (g k)) 0 n o=(List.range n).map g:=by
 rw[Ek g n 0 o (by omega)]
 simp
theorem aan {l:List Int} {n:Nat} (h:l.length=n):(List.range n).map (fun i=>l.getD i 0)=l:=by
 subst h
 apply List.ext_getElem?
 intro i
 simp only[List.getElem?_map]
 rcases Nat.lt_or_ge i l.length with h1|h1
 ·rw[List.getElem?_range h1]
  simp[List.getD_eq_getElem?_getD,List.getElem?_eq_getElem h1]
 ·rw[List.getElem?_eq_none h1,List.getElem?_eq_none (by simpa using h1)]
  rfl
theorem hZ {P:Program} (kV:P.follows .mixedOrders=true) {tab:List (FuncId×au)} (rL: ∀ p∈tab,p.2.Ok P p.1) {LT:eW} {fn:Func} {id j:Nat} {hp:Hp} {ws:Exit→List Wk} (hL:aP P hp LT (aU fn id))
  {σ:Type} (n:Nat) (S:Nat→σ→St) (X:σ→St) (f:Nat→σ→σ) (I:Nat→σ→Prop)
  (hT: ∀ k s R,k≤n→I k s→(k<n→R .normal (S (k+1) (f k s)))→(k=n→R (.exit j) (X s))→(c8 P tab LT fn id hp ws (S k s)).sat R)
  (hI: ∀ k s,k<n→I k s→I (k+1) (f k s)) (k:Nat) (s:σ) (hk:k≤n) (h:I k s):Ex P hp (.loop (aU fn id)) (S k s) (.leaf (.exit j) (X (upto f k (n-k) s))):=by
 refine Ei (ws:=ws) (T:=fun x=>c8 P tab LT fn id hp ws (S x.1 x.2)) kV rL hL (fun x:Nat×σ=>n-x.1) (fun x=>S x.1 x.2) (fun x=>x.1≤n∧I x.1 x.2) (fun x=> .leaf (.exit j) (X (upto f x.1 (n-x.1) x.2))) (fun x _=>rfl) (fun x R hx hs=>?_) (k,s) ⟨hk,h⟩
 obtain ⟨k,s⟩:=x
 obtain ⟨hk,hi⟩:=hx
 simp only at hk hi hs ⊢
 refine hT k s _ hk hi (fun fq=> .inl ⟨rfl,(k+1,f k s),rfl,⟨fq,hI k s fq hi⟩,by simp only;omega,?_⟩) (fun e=> .inr ⟨by simp,?_⟩)
 ·have e:n-k=(n-(k+1))+1:=by omega
  rw[e] at hs
  exact hs
 ·subst e
  rw[Nat.sub_self] at hs
  exact hs
abbrev ND (k:IntKind) (n:Nat):a9 LV (List Int):=(FZ (ae (tM (.int k) n) ag)).jQ (fun x=>x.1) (fun l=>(l,())) (fun _=>rfl)
abbrev rM (e:TypeId) (k:IntKind) (n:Nat):a9 (Option Item) (List Int):=(dN e (ae (tM (.int k) n) ag)).jQ (fun x=>x.1) (fun l=>(l,())) (fun _=>rfl)
abbrev aao (e:TypeId) (k:IntKind) (n:Nat):a9 (Option Item) (List Int):=dN e (art k n)
end Go.Ev
end
section
set_option linter.unusedVariables false
set_option linter.unusedSimpArgs false
namespace Go.Proofs.YtjalaohajcpllaaGreat
open Go Go.Ev
set_option maxRecDepth 100000
theorem mixed:Tryz.prog.follows .mixedOrders=true:=by kernel_rfl
noncomputable abbrev prog:Program:=Tryz.prog
abbrev u8:Ty:= .int .u8
abbrev nI (n:Int):LV:= .one (.sc (.int .i64 (.sym n)))
abbrev nU (n:Int):LV:= .one (.sc (.int .u64 (.sym n)))
abbrev nB (b:Bool):LV:= .one (.sc (.bool (.sym b)))
abbrev bA:a9 (List LV) (List Int×Unit):=ae (ah (dB false false u8)) ag
abbrev jI (k:IntKind) (n:Nat) (l:List Int):LV:= .one (.agg [.arr (.int k) n l])
abbrev p0:a9 LV Unit:=ah (aJ 0 0)
def cK (n:Nat) (l:List (Nat×FM)):List FM:=(List.range n).map fun i=>match l.find? (fun p=>p.1==i) with
 |some p=>p.2
 |none=> .drop
def wsE (n:List Wk) (id:Nat) (x:List Wk):Exit→List Wk
 | .normal=>n
 | .exit i=>if i=id then x else []
 |_=> []
end Go.Proofs.YtjalaohajcpllaaGreat
end
section
set_option linter.unusedVariables false
set_option linter.unusedSimpArgs false
namespace Go.Ev
open Go
theorem wrap_u64 {n:Int} (h0:0≤n) (h1:n<18446744073709551616):IntKind.u64.wrap n=n:=by
 simp only[IntKind.wrap,IntKind.bits,IntKind.signed]
 simp;omega
theorem mB (n:Int):IntKind.u64.wrap n=n%18446744073709551616:=by
 simp only[IntKind.wrap,IntKind.bits,IntKind.signed]
 simp
theorem wrap_u8 (n:Int):IntKind.u8.wrap n=n%256:=by
 simp only[IntKind.wrap,IntKind.bits,IntKind.signed]
 simp
theorem wrap_i64 {n:Int} (h0: -9223372036854775808≤n) (h1:n<9223372036854775808):IntKind.i64.wrap n=n:=by
 simp only[IntKind.wrap,IntKind.bits,IntKind.signed]
 simp
 split<;>omega
theorem toNat_ofInt (n:Nat) (x:Int):(BitVec.ofInt n x).toNat=(x%(2 ^ n:Nat)).toNat:=by simp[BitVec.toNat_ofInt]
theorem Bd {n m:Nat} (hm:m≤n) (x:Int):(BitVec.ofInt n x&&& BitVec.ofInt n (2 ^ m-1)).toNat=(x%(2 ^ m:Nat)).toNat:=by
 rw[BitVec.toNat_and,toNat_ofInt,toNat_ofInt]
 have hp:(2:Nat) ^ m≤2 ^ n:=Nat.pow_le_pow_right (by omega) hm
 have iO:0<(2:Nat) ^ m:=Nat.two_pow_pos m
 have e:(((2:Int) ^ m-1)%((2 ^ n:Nat):Int)).toNat=2 ^ m-1:=by
  have:((2:Int) ^ m-1)=((2 ^ m-1:Nat):Int):=by
   rw[Int.natCast_sub (by omega)];simp
  rw[this,← Int.natCast_emod,Int.toNat_natCast,Nat.mod_eq_of_lt (by omega)]
 rw[e,Nat.and_two_pow_sub_one_eq_mod]
 have h1:((x%((2 ^ n:Nat):Int)).toNat%2 ^ m:Nat)=(x%((2 ^ m:Nat):Int)).toNat:=by
  have DF:0≤x%((2 ^ n:Nat):Int):=Int.emod_nonneg _ (by have:=Nat.two_pow_pos n;omega)
  have Jd:0≤x%((2 ^ m:Nat):Int):=Int.emod_nonneg _ (by omega)
  apply Int.ofNat_inj.1
  rw[Int.natCast_emod,Int.toNat_of_nonneg DF,Int.toNat_of_nonneg Jd]
  refine Int.emod_emod_of_dvd _ ?_
  exact Int.natCast_dvd_natCast.2 (Nat.pow_dvd_pow 2 hm)
 exact h1
theorem tN {m:Nat} (hm:m<64) (x y:Int) (hy:y=2 ^ m-1):bg .u64 x y=x%(2 ^ m:Nat):=by
 subst hy
 unfold bg
 have:=Bd (n:=64) (m:=m) (by omega) x
 show IntKind.u64.wrap ((BitVec.ofInt 64 x&&& BitVec.ofInt 64 (2 ^ m-1)).toNat:Int)=_
 rw[this]
 have Jd:0≤x%((2 ^ m:Nat):Int):=Int.emod_nonneg _ (by have:=Nat.two_pow_pos m;omega)
 rw[Int.toNat_of_nonneg Jd]
 have fq:x%((2 ^ m:Nat):Int)<((2 ^ m:Nat):Int):=Int.emod_lt_of_pos _ (by have:=Nat.two_pow_pos m;omega)
 have hp:(2:Nat) ^ m≤2 ^ 63:=Nat.pow_le_pow_right (by omega) (by omega)
 exact wrap_u64 Jd (by have:(2:Nat) ^ 63=9223372036854775808:=by decide
                       omega)
theorem aik {m:Nat} (hm:m<63) (x y:Int) (hy:y=2 ^ m-1):bg .i64 x y=x%(2 ^ m:Nat):=by
 subst hy
 unfold bg
 have:=Bd (n:=64) (m:=m) (by omega) x
 show IntKind.i64.wrap ((BitVec.ofInt 64 x&&& BitVec.ofInt 64 (2 ^ m-1)).toNat:Int)=_
 rw[this]
 have Jd:0≤x%((2 ^ m:Nat):Int):=Int.emod_nonneg _ (by have:=Nat.two_pow_pos m;omega)
 rw[Int.toNat_of_nonneg Jd]
 have fq:x%((2 ^ m:Nat):Int)<((2 ^ m:Nat):Int):=Int.emod_lt_of_pos _ (by have:=Nat.two_pow_pos m;omega)
 have hp:(2:Nat) ^ m≤2 ^ 62:=Nat.pow_le_pow_right (by omega) (by omega)
 exact wrap_i64 (by omega) (by have:(2:Nat) ^ 62=4611686018427387904:=by decide
                               omega)
theorem NF {m:Nat} (hm:m<8) (x y:Int) (hy:y=2 ^ m-1):bg .u8 x y=x%(2 ^ m:Nat):=by
 subst hy
 unfold bg
 have:=Bd (n:=8) (m:=m) (by omega) x
 show IntKind.u8.wrap ((BitVec.ofInt 8 x&&& BitVec.ofInt 8 (2 ^ m-1)).toNat:Int)=_
 rw[this]
 have Jd:0≤x%((2 ^ m:Nat):Int):=Int.emod_nonneg _ (by have:=Nat.two_pow_pos m;omega)
 rw[Int.toNat_of_nonneg Jd]
 have fq:x%((2 ^ m:Nat):Int)<((2 ^ m:Nat):Int):=Int.emod_lt_of_pos _ (by have:=Nat.two_pow_pos m;omega)
 have hp:(2:Nat) ^ m≤2 ^ 7:=Nat.pow_le_pow_right (by omega) (by omega)
 rw[wrap_u8]
 exact Int.emod_eq_of_lt Jd (by omega)
theorem eX (k:IntKind) (x:Int) (n:Nat) (hn:n≤k.bits):shr k x n=x/(2 ^ n:Nat):=by
 unfold shr
 rw[Int.toNat_natCast,Nat.min_eq_left hn,Int.fdiv_eq_ediv_of_nonneg]
 ·simp
 ·exact Int.le_of_lt (Int.pow_pos (by omega))
theorem ia (k:IntKind) (x:Int) (n:Nat) (hn:n≤k.bits):shl k x n=k.wrap (x*(2 ^ n:Nat)):=by
 unfold shl
 rw[Int.toNat_natCast,Nat.min_eq_left hn]
 simp
theorem NG {n:Nat} {m:Nat} {x y:Int} (xa:0≤x) (hxn:x<(2 ^ n:Nat)) (hx:x%(2 ^ m:Nat)=0) (AL:0≤y) (hy:y<(2 ^ m:Nat)) (hyn:y<(2 ^ n:Nat)):
  ((BitVec.ofInt n x|||BitVec.ofInt n y).toNat:Int)=x+y:=by
 rw[BitVec.toNat_or,toNat_ofInt,toNat_ofInt,Int.emod_eq_of_lt xa hxn,Int.emod_eq_of_lt AL hyn]
 obtain ⟨a,rfl⟩:=Int.eq_ofNat_of_zero_le xa
 obtain ⟨b,rfl⟩:=Int.eq_ofNat_of_zero_le AL
 simp only[Int.toNat_natCast]
 have hd:a%2 ^ m=0:=by
  have:=hx;rw[← Int.natCast_emod] at this;omega
 have hb:b<2 ^ m:=by omega
 have e:a=2 ^ m*(a/2 ^ m):=(Nat.mul_div_cancel' (Nat.dvd_of_mod_eq_zero hd)).symm
 have:=Nat.two_pow_add_eq_or_of_lt hb (a/2 ^ m)
 rw[← e] at this
 rw[← this];simp
theorem pc {m:Nat} {x y:Int} (xa:0≤x) (hx:x%(2 ^ m:Nat)=0) (AL:0≤y) (hy:y<(2 ^ m:Nat)) (h64:x+y<18446744073709551616):bD .u64 x y=x+y:=by
 unfold bD
 have e:(2 ^ 64:Nat)=18446744073709551616:=by decide
 have h:=NG (n:=64) xa (by omega) hx AL hy (by omega)
 show IntKind.u64.wrap ((BitVec.ofInt 64 x|||BitVec.ofInt 64 y).toNat:Int)=_
 rw[h];exact wrap_u64 (by omega) h64
theorem alU {m:Nat} {x y:Int} (xa:0≤x) (hx:x%(2 ^ m:Nat)=0) (AL:0≤y) (hy:y<(2 ^ m:Nat)) (h8:x+y<256):bD .u8 x y=x+y:=by
 unfold bD
 have h:=NG (n:=8) xa (by omega) hx AL hy (by omega)
 show IntKind.u8.wrap ((BitVec.ofInt 8 x|||BitVec.ofInt 8 y).toNat:Int)=_
 rw[h,wrap_u8];omega
theorem js (k:IntKind) (x y:Int):bD k x y=bD k y x:=by
 unfold bD;rw[BitVec.or_comm]
theorem aq {n:Int} (h1: -9223372036854775808≤n) (h2:n≤9223372036854775807):IntKind.i64.wrap n=n:=by
 rw[IntKind.wrap_i64];omega
theorem cn {l:List Int} {n:Nat} (h:l.length=n):List.take n (List.drop 0 l)=l:=by rw[List.drop_zero,List.take_of_length_le (by omega)]
theorem ko (k m:Nat) (hk:k<4611686018427387904):IntKind.i64.wrap ((k:Int).tdiv (m:Int))=((k/m:Nat):Int):=by
 rw[Int.tdiv_eq_ediv_of_nonneg (by omega),← Int.natCast_ediv]
 have:k/m≤k:=Nat.div_le_self _ _
 generalize k/m=q at*
 exact aq (by omega) (by omega)
theorem tO (k j:Nat) (h:j≤k) (hk:k<4611686018427387904):IntKind.i64.wrap ((k:Int)-(j:Int))=((k-j:Nat):Int):=by rw[aq (by omega) (by omega)];omega
theorem eB (k:Nat) (hk:k<4611686018427387904):IntKind.i64.wrap ((k:Int)+1)=((k+1:Nat):Int):=by rw[aq (by omega) (by omega)];rfl
end Go.Ev
end
section
set_option linter.unusedVariables false
set_option linter.unusedSimpArgs false
namespace Go.Proofs.YtjalaohajcpllaaGreat
open Go Go.Ev Go.ChangeShapes Go.WideShapes Go.ChangeAt Go.RowKit
set_option maxRecDepth 100000
theorem JZ:ownKnob Tryz.prog.godebug=none:=by kernel_rfl
theorem aap:laidOutB Tryz.prog=true:=by kernel_rfl
theorem NH:mapsRowed Tryz.prog=true:=by kernel_rfl
theorem J0: ∀ t e,t<Tryz.prog.types.size→Tryz.prog.underlying t=some (.slice e)→0<Tryz.prog.cellsOf e:=slices_full_of Tryz.prog (by kernel_rfl)
structure Kept (W W':World):Prop where
 os:W'.os=W.os
 output:W'.output=W.output
 size:W.heap.size≤W'.heap.size
 block: ∀ b,b<W.heap.size→W'.heap[b]? =W.heap[b]?
theorem Kept.same {W W':World} (h:Kept W W') {p:MemPlace} (hp:p.block<W.heap.size):W.sameAt W' p:=by
 cases p with
 |cell b o=>exact World.cell?_of_block (w:=W) (h.block b hp)
 |map b=>exact h.block b hp
theorem Kept.but {W W':World} (h:Kept W W') (may:MemPlace→Prop):W.keptBut W' may:=by
 refine ⟨h.os,h.output,fun i hi=>?_⟩
 rw[h.block i hi]
 split<;>simp_all
theorem tP {H:Type} {enc:TypeId×Value→H} {W W':World} (hk:Kept W W'): ∀ {ts:List TypeId} {vs:List Value} {ds:List (DataW H)} {ps:List MemPlace},(∀ t∈ts,t<Tryz.prog.types.size)→
  DataW.TrodAll enc Tryz.prog W 0 (fun _=>true) true ts vs ds ps→(∀ p∈ps,p.block<W.heap.size)→DataW.TrodAll enc Tryz.prog W' 0 (fun b=>decide (b<W.heap.size)) true ts vs ds ps
 | [],[],[],_,_,h,_=>h
 |t::_,_::_,_::_,_,hT,⟨p,q,⟨n,h1⟩,h2,e⟩,hs=>by
  have hp: ∀ x∈p,x.block<W.heap.size:=fun x hx=>hs x (by rw[e];exact List.mem_append_left _ hx)
  have hz: ∀ {t e:TypeId},t<Tryz.prog.types.size→Tryz.prog.underlying t=some (.slice e)→0<Tryz.prog.cellsOf e:=fun {t e} a b=>J0 t e a b
  refine ⟨p,q,⟨n,?_⟩,tP hk (fun t ht=>hT t (List.mem_cons.2 (Or.inr ht))) h2 (fun x hx=>hs x (by rw[e];exact List.mem_append_right _ hx)),e⟩
  exact DataW.trod_stays (T:=fun t=>t<Tryz.prog.types.size) (kids_rows aap NH) hz (fun h=>by cases h) (hT t (List.mem_cons.2 (Or.inl rfl))) h1 (fun x hx=>hk.same (hp x hx)) (fun x hx=>by simpa using hp x hx)
 | [],_::_,_,_,_,h,_=>h.elim
 | [],[],_::_,_,_,h,_=>h.elim
 |_::_,[],_,_,_,h,_=>h.elim
 |_::_,_::_,[],_,_,h,_=>h.elim
theorem J1 {H:Type} {enc:TypeId×Value→H} {fn:Func} {s:ChangeSpec} {W W':World} {args:Array Value} {ds gs:List (DataW H)} {before:List MemPlace} {tb:TypeId} {apart:Bool}
  (hr:fn.resultTypes= #[tb]) (hb:Tryz.prog.underlying tb=some .bool) (hT: ∀ t∈fn.params.toList,t<Tryz.prog.types.size)
  (hW:DataW.Whole enc Tryz.prog fn.params.toList s.vars apart W args.toList ds gs before) (hv:s.vars= []) (hs:s.fn H ds= {results:= [.lit (.bool true)],args:=ds})
  (hk:Kept W W'):s.post enc Tryz.prog fn apart true false false W args (.bool true) W':=by
 have fq:=hW.lt
 have hW':=hW
 obtain ⟨p,q,h1,h2,h3,h4,h5⟩:=hW
 rw[hv] at h2
 obtain ⟨rfl,rfl⟩:=trodVars_none h2
 rw[List.append_nil] at h3
 subst h3
 have e:s.fn H (ds++ [])= {results:= [.lit (.bool true)],args:=ds}:=by rw[List.append_nil];exact hs
 refine ⟨ds,[],before,[],before,[],hW',?_,?_,?_,hk.but _,fun h=>by cases h⟩
 ·rw[e,hr]
  exact trodAll_cons_mk (shut_bool hb true) trodAll_mk0
 ·rw[e]
  exact tP hk hT h1 fq
 ·rw[hv,e];rfl
def arw:Env:=⟨fun _=>0,fun _=> .nilIface,fun _ _ _ _=>False⟩
def VS (W:World):Env:=⟨fun _=>0,fun _=> .nilIface,fun pm v t l=>pm=false∧0<t.w∧bW arw false W v t l⟩
theorem aaq (W:World):bd W [] (VS W) (VS W) [] W:=by
 refine ⟨fun i x h=>by simp at h,fun i j x y b h=>by simp at h,bU.refl _ _,fun i x b h=>by simp at h,rfl,rfl,Nat.le_refl _,fun _ _ _=>rfl,fun pm v t l h=>?_,fun pm v t l b h1 h2=> .inr ⟨pm,v,t,l,id,h1,h2⟩⟩
 obtain ⟨rfl,hw,h⟩:=h
 refine ⟨h.mono (β':=VS W) (fun _ _ _ _ (h:False)=>h.elim),fun b hb=>⟨?_,fun ⟨i,x,hi,_⟩=>by simp at hi⟩⟩
 obtain ⟨a,n,c,rfl,hn,hc,_,hr⟩:=h
 cases a with
 |none=>exact hb.elim
 |some a=>
  obtain ⟨h0,rfl⟩:=hb
  obtain ⟨a0,fo,e,h1,h2,h3⟩:=hr h0
  cases e
  refine h3.lt fun e=>?_
  have h4:=bp h2
  rw[e,← hn] at h4
  have:=Nat.mul_pos h0 hw
  simp at h4
  omega
theorem tQ {f:FuncId} {e:au} (avA:xr Tryz.prog f) (he:e.Ok Tryz.prog f) {args:List LV} {q:Option Prop} (dY:e.run args []= .leaf q (nB true) []) (hq:eH q) (W:World) {vals:Array Value} (hd:b8 (LV.den (VS W) (kd [])) args vals.toList):
  Calls Tryz.prog f vals W fun e W'=>e= .returned (.bool true)∧Kept W W':=by
 have key:=he.calls args [] (fun v d=>v=nB true∧d= []) (by rw[dY];exact ⟨hq,rfl,rfl⟩) (VS W) W vals.toList (aaq W) hd
 rw[show vals.toList.toArray=vals from by simp] at key
 have key:=key.resolve_left (by rintro ⟨val,h1,_⟩;rw[avA] at h1;cases h1) |>.2
 refine key.mono ?_
 rintro e W' ⟨val,β',r,ft,rfl,⟨d,⟨rfl,rfl⟩,rfl⟩,h3,h4⟩
 have:val= .bool true:=h3
 subst this
 exact ⟨rfl,h4.os,h4.output,h4.size,fun b hb=>h4.an b hb fun ⟨i,x,hi,_⟩=>by simp at hi⟩
theorem El {fn:Func} (h:(fn.params.toList.all fun t=>decide (t<Tryz.prog.types.size))=true): ∀ t∈fn.params.toList,t<Tryz.prog.types.size:=fun t ht=>by
 simpa using List.all_eq_true.1 h t ht
inductive Bt where
 |int (k:IntKind)
 |bool
def Bt.fits:Bt→Value→Prop
 | .int k,v=> ∃ z,v= .int k z∧(Lit.int k z).wf=true
 | .bool,v=> ∃ b,v= .bool b
section
variable {H:Type} {enc:TypeId×Value→H} {P:Program} {w:World} {base:Nat} {spare:Nat→Bool} {held:Bool}
end
theorem wf_u8 {z:Int} (h:(Lit.int .u8 z).wf=true):By z:=by
 have:=bounds_u8 h
 unfold By;omega
theorem aar:Tryz.prog.cellsOf 5=1:=by kernel_rfl
theorem sx {H:Type} {enc:TypeId×Value→H} {W:World} {base:Nat} {v:Value} {d:DataW H} {p:List MemPlace}
  (nk:Value.okWide Tryz.prog W .any base 27 v) (h:DataW.Trod enc Tryz.prog W 0 (fun _=>true) true 27 v d p):
  ∃ l:List Int,aC l∧(LV.one (.sc (.rd false false u8 l))).den (VS W) (kd []) v:=by
 obtain ⟨fuel,h⟩:=h
 have avB:v.cells.toList= [v]:=by
  unfold Value.okWide at nk
  rw[Tryz.underlying27] at nk
  cases v<;>first|rfl|(exfalso;simp[Cell.okWide,Cell.ok,Tryz.underlying27] at nk)
 rw[avB] at h
 rcases open_ints Tryz.underlying27 Tryz.underlying5 aar h with ⟨e,_⟩|⟨a,len,cap,zs,e,_,hlc,_,hzl,_,alV,hwf⟩
 ·obtain rfl:v= .slice none 0 0:=by simpa using e
  exact ⟨[],fun z hz=>(by simp at hz),rfl,(fun e=>by cases e),.inr (.inr ⟨rfl,rfl⟩)⟩
 ·obtain rfl:v= .slice (some a) len cap:=by simpa using e
  simp only[if_true] at hzl
  refine ⟨zs.take len,fun z hz=>wf_u8 (hwf z (List.mem_of_mem_take hz)),rfl,(fun e=>by cases e),.inr (.inl ⟨rfl,rfl,by decide,?_⟩)⟩
  refine ⟨some a,len,cap,rfl,by simp;omega,hlc,(fun e=>by cases e),fun h0=>?_⟩
  have Zd:=alV 0 (by omega)
  have hsp:a.spot=none:=by
   have:a.add 0=a:=by cases a;simp[Addr.add]
   rw[this] at Zd
   exact World.cell?_spot Zd
  refine ⟨a,(zs.take len).map (.int .u8),rfl,hsp,?_,fun i u hu=>?_⟩
  ·generalize zs.take len=l
   induction l with
   |nil=>exact .nil
   |cons x l ih=>exact aZ.cons (vs:= [.int .u8 x]) rfl ih
  ·rw[List.getElem?_map] at hu
   obtain ⟨z,hz,rfl⟩:=map_some hu
   have hil:i<len∧i<zs.length:=by
    have:=(List.getElem?_eq_some_iff.1 hz).1
    simp at this;omega
   rw[alV i hil.2]
   rw[List.getElem?_take,if_pos hil.1] at hz
   rw[List.getD_eq_getElem?_getD,hz];rfl
end Go.Proofs.YtjalaohajcpllaaGreat
end
