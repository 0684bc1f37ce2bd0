/- What the laws lean on, part 6: a reader of code, plain facts, and what each function gives; no conditions. -/
import Derived.KernelRfl
import Derived.Test.YtjalaohajcpllaaGreatProg
import Derived.Eval
import Derived.Test.YtjalaohajcpllaaGreatRows
import Derived.WalkKit
import Derived.ProofKit
import Derived.OpenShut
import Derived.JoinedCond
import Derived.JoinedOf
import Derived.Handed
import Derived.ReadAgain
import Derived.ChangeStays
import Derived.Test.YtjalaohajcpllaaGreatA5
section
set_option linter.unusedVariables false
set_option linter.unusedSimpArgs false
namespace Go.Ev
open Go
structure QL (W:World) (ah:Hp) (β₀ β:Env) (fr:List LV) (hp:Hp) (vals:List Value) (w:World):Prop where
 fr:bB (LV.den β (kd hp)) fr vals
 heap:aV W ah β₀ β hp w
section
variable {W:World} {ah:Hp} {β₀ β:Env} {hp:Hp} {w:World}
theorem aV.yE (h:aV W ah β₀ β hp w) {β':Env} {dX:Hp} (g:Nat→Nat) (ny:β'.rd=β.rd) (Kq:bD β₀ β' (kd ah) (kd dX))
  (src: ∀ (j:Nat) (y:Item),dX[j]? =some (some y)→ ∃ x,hp[g j]? =some (some x)∧(∀ b,bU β' y j b→bU β x (g j) b)∧eA β' (kd dX) w j y∧(g j=j∨kd ah (g j)=none))
  (hg: ∀ (j k:Nat) (y z:Item),dX[j]? =some (some y)→dX[k]? =some (some z)→g j=g k→j=k):aV W ah β₀ β' dX w:=by
 have kG: ∀ b,eP dX β' b→eP hp β b:=fun b ⟨j,y,hj,ho⟩=>by
  obtain ⟨x,h1,h2,_⟩:=src j y hj
  exact ⟨g j,x,h1,h2 b ho⟩
 refine ⟨fun j y hj=>?_,fun j k y z b hj hk h1 h2=>?_,Kq,fun j y b hj ho=>?_,h.os,h.output,h.size,h.aq,fun pm v t l hr=>?_,fun pm v t l b hr hb=>?_⟩
 ·obtain ⟨x,_,_,h3,_⟩:=src j y hj
  exact h3
 ·obtain ⟨x,a1,a2,_⟩:=src j y hj
  obtain ⟨x',b1,b2,_⟩:=src k z hk
  exact hg j k y z hj hk (h.inj _ _ _ _ b a1 b1 (a2 b h1) (b2 b h2))
 ·obtain ⟨x,a1,a2,_,a4⟩:=src j y hj
  rcases h.own _ _ b a1 (a2 b ho) with k|⟨z,k1,k2⟩
  ·exact .inl k
  ·rcases a4 with e|e
   ·rw[e] at k1 k2;exact .inr ⟨z,k1,k2⟩
   ·rw[cT k1] at e;cases e
 ·rw[ny] at hr
  obtain ⟨h1,h2⟩:=h.reads pm v t l hr
  exact ⟨h1.mono fun _ _ _ _ h=>by rw[ny];exact h,fun b hb=>⟨(h2 b hb).1,fun k=>(h2 b hb).2 (kG b k)⟩⟩
 ·rw[ny] at hr
  exact h.from_ pm v t l b hr hb
theorem aV.agd (h:aV W ah β₀ β hp w) {dX:Hp} (hk:kd dX=kd hp)
  (src: ∀ (j:Nat) (y:Item),dX[j]? =some (some y)→ ∃ x,hp[j]? =some (some x)∧(y=x∨ ∃ cells cells' e,x= .aZ cells e∧y= .aZ cells' e∧ ∀ c,aX β (kd hp) cells c→aX β (kd hp) cells' c)):aV W ah β₀ β dX w:=by
 refine h.yE (fun j=>j) rfl (by rw[hk];exact h.first) (fun j y hj=>?_) fun _ _ _ _ _ _ e=>e
 obtain ⟨x,h1,h2⟩:=src j y hj
 have hx:=h.items j x h1
 rw[hk]
 rcases h2 with rfl|⟨cells,cells',e,rfl,rfl,h3⟩
 ·exact ⟨y,h1,fun _ h=>h,hx,.inl rfl⟩
 ·obtain ⟨c,fz,k1,k2,k3⟩:=hx
  exact ⟨_,h1,fun _ h=>h,⟨c,fz,k1,k2,h3 c k3⟩,.inl rfl⟩
def Item.cH (f:SV→SV):Item→Item
 | .aZ cells e=> .aZ (cells.map f) e
 |x=>x
def VV.cH (f:SV→SV):VV→VV
 | .sc s=> .sc (f s)
 | .agg l=> .agg (l.map f)
def LV.cH (f:SV→SV):LV→LV
 | .one x=> .one (x.cH f)
 | .cD l=> .cD (l.map (VV.cH f))
 | .bQ=> .bQ
structure jt (β β':Env) (L L':Nat→Option Kd) (f:SV→SV):Prop where
 den: ∀ {s:SV} {v:Value},s.den β L v→(f s).den β' L' v
 arr: ∀ t n l,f (.arr t n l)= .arr t n l
 rd: ∀ v t l,β.rd true v t l→β'.rd true v t l
theorem jt.gW {β β':Env} {L L':Nat→Option Kd} {f:SV→SV} (h:jt β β' L L' f) {s:SV} {vs:List Value} (hd:s.gW β L vs):(f s).gW β' L' vs:=by
 cases s with
 |arr t n l=>rw[h.arr];exact ⟨hd.1,hd.2.imp fun _ _=>t.iM h.rd⟩
 |_=>
  obtain ⟨v,rfl,h3⟩:=hd
  exact SV.xb (h.den h3)
theorem jt.ajC {β β':Env} {L L':Nat→Option Kd} {f:SV→SV} (h:jt β β' L L' f) {l:List SV} {vs:List Value} (hd:aX β L l vs):aX β' L' (l.map f) vs:=by
 induction hd with
 |nil=>exact aO.nil
 |cons h1 _ ih=>exact aO.cons (h.gW h1) ih
theorem jt.vv {β β':Env} {L L':Nat→Option Kd} {f:SV→SV} (h:jt β β' L L' f) {s:VV} {v:Value} (hd:s.den β L v):(s.cH f).den β' L' v:=by
 cases s with
 |sc s=>exact h.den hd
 |agg l=>obtain ⟨cs,rfl,hd⟩:=hd;exact ⟨cs,rfl,h.ajC hd⟩
theorem jt.lv {β β':Env} {L L':Nat→Option Kd} {f:SV→SV} (h:jt β β' L L' f) {s:LV} {v:Value} (hd:s.den β L v):(s.cH f).den β' L' v:=by
 cases s with
 |one x=>exact h.vv hd
 |cD l=>
  obtain ⟨vs,rfl,hd⟩:=hd
  refine ⟨vs,rfl,?_⟩
  induction hd with
  |nil=>exact .nil
  |cons h1 _ ih=>exact .cons (h.vv h1) ih
 |bQ=>trivial
theorem jt.fr {β β':Env} {L L':Nat→Option Kd} {f:SV→SV} (h:jt β β' L L' f) {l:List LV} {vs:List Value} (hd:bB (LV.den β L) l vs):bB (LV.den β' L') (l.map (LV.cH f)) vs:=by
 induction hd with
 |nil=>exact .nil
 |cons h1 _ ih=>exact .cons (h.lv h1) ih
theorem jt.item {β β':Env} {L L':Nat→Option Kd} {f:SV→SV} (h:jt β β' L L' f) {w:World} {i:Nat} {x:Item} (hb:β'.b i=β.b i) (hh:β'.h i=β.h i) (hd:eA β L w i x):eA β' L' w i (x.cH f):=by
 cases x with
 |aZ cells e=>
  obtain ⟨c,fz,h1,h2,h3⟩:=hd
  exact ⟨c,fz,by rw[hb];exact h1,h2,h.ajC h3⟩
 |own ver t l=>
  show cU β' w (β'.h i) t l
  rw[hh]
  obtain ⟨a,n,c,e,h1,h2,h3,h4⟩:=(hd:cU β w (β.h i) t l)
  refine ⟨a,n,c,e,h1,h2,h3,fun h0=>?_⟩
  obtain ⟨a0,pre,eQ,rest,elem,fz,k0,k1,k2,k3,k4,k5⟩:=h4 h0
  exact ⟨a0,pre,eQ,rest,elem,fz,k0,k1,k2,k3,k4.imp fun _ _=>t.iM h.rd,k5⟩
 |gone v=>trivial
theorem Item.OC (f:SV→SV) (x:Item):(x.cH f).kd=x.kd:=by cases x<;>rfl
theorem bU.cH {f:SV→SV} {β β':Env} {x:Item} {i b:Nat} (hb:β'.b i=β.b i) (hh:β'.h i=β.h i):bU β' (x.cH f) i b↔bU β x i b:=by
 cases x<;>simp only[Item.cH,bU,hb,hh]
end
inductive FM where
 |drop
 |aq
 |sym
 |rd (pm:Bool) (t:Ty)
def SV.rdm (pm:Bool) (t:Ty):SV→SV
 | .gH (.slice none 0 0)=> .rd pm false t []
 | .rd false _ t l=> .rd false false t l
 | .rd true _ t l=> .rd pm false t l
 |s=>s
def SV.symm:SV→SV
 | .int k n=> .int k (.sym n.val)
 | .bool b=> .bool (.sym b.val)
 |s=>s
def SV.ajD:SV→SV
 | .arr t n l=> .arr t n l
 |_=> .bQ
def SV.fm:FM→SV→SV
 | .aq,s=>s
 | .drop,s=>s.ajD
 | .sym,s=>s.symm
 | .rd pm t,s=>s.rdm pm t
theorem SV.Kx {β:Env} {L:Nat→Option Kd} (k:FM) {s:SV} {v:Value} (h:s.den β L v):(s.fm k).den β L v:=by
 cases k with
 |aq=>exact h
 |drop=>cases s<;>first|exact h.elim|exact SV.bl h
 |sym=>cases s<;>exact h
 |rd pm t=>
  simp only[SV.fm]
  unfold SV.rdm
  split
  ·obtain ⟨_,rfl⟩:=h
   exact ⟨rfl,(fun e=>by cases e),.inr (.inr ⟨rfl,rfl⟩)⟩
  ·exact ⟨h.1,(fun e=>by cases e),h.2.2⟩
  ·refine ⟨h.1,(fun e=>by cases e),?_⟩
   rcases h.2.2 with h1|⟨h1,_⟩|h1
   ·exact .inl h1
   ·cases h1
   ·exact .inr (.inr h1)
  ·exact h
theorem rT {β:Env} {L:Nat→Option Kd} (k:FM):jt β β L L (SV.fm k):=⟨SV.Kx k,fun t n l=>by cases k<;>rfl,fun _ _ _ h=>h⟩
def LV.fm:FM→LV→LV
 | .drop,_=> .bQ
 | .aq,x=>x
 |k,x=>x.cH (SV.fm k)
theorem LV.Kx {β:Env} {L:Nat→Option Kd} (k:FM) {s:LV} {v:Value} (h:s.den β L v):(s.fm k).den β L v:=by
 cases k with
 |drop=>trivial
 |aq=>exact h
 |sym=>exact (rT .sym).lv h
 |rd pm t=>exact (rT (.rd pm t)).lv h
def age:List FM→List LV→List LV
 |k::ks,x::xs=>x.fm k::age ks xs
 |_,xs=>xs
theorem G5 {β:Env} {L:Nat→Option Kd}: ∀ (ks:List FM) {xs:List LV} {vs:List Value},bB (LV.den β L) xs vs→bB (LV.den β L) (age ks xs) vs
 | [],_,_,h=>h
 |k::ks,_,_,h=>by
  cases h with
  |nil=>exact .nil
  |cons h t=>exact .cons (LV.Kx k h) (G5 ks t)
def agf:List FM→List SV→List SV
 |k::ks,x::xs=>x.fm k::agf ks xs
 |_,xs=>xs
theorem G6 {β:Env} {L:Nat→Option Kd}: ∀ (ks:List FM) {xs:List SV} {vs:List Value},aX β L xs vs→aX β L (agf ks xs) vs
 | [],_,_,h=>h
 |k::ks,[],_,h=>h
 |k::ks,x::xs,_,h=>by
  cases h with
  |cons h t=>exact .cons ((rT k).gW h) (G6 ks t)
def SV.re (i c n:Nat):SV→SV
 | .sl j v=>if j=i then (if v=c then .sl j n else .bQ) else .sl j v
 | .vw j v w z m=>if j=i then (if v=c then .vw j n w z m else .bQ) else .vw j v w z m
 | .ep s w z f=> .ep (s.re i c n) w z f
 |s=>s
def SV.mv (i k c:Nat):SV→SV
 | .sl j v=>if j=k then (if v=c then .sl i 1 else .bQ) else if j=i then .bQ else .sl j v
 | .vw j v w z m=>if j=k then (if v=c then .vw i 1 w z m else .bQ) else if j=i then .bQ else .vw j v w z m
 | .ep s w z f=> .ep (s.mv i k c) w z f
 |s=>s
def SV.uG (i c:Nat) (t:Ty) (l:List t.D):SV→SV
 | .sl j v=>if j=i then (if v=c then .rd true false t l else .bQ) else .sl j v
 | .ep s w z f=> .ep (s.uG i c t l) w z f
 |s=>s
section
variable {W:World} {ah:Hp} {β₀ β:Env} {hp:Hp} {w:World}
theorem abe {i c n:Nat} {L L':Nat→Option Kd} (hi:L i=some (.own c)) (A8:L' i=some (.own n)) (ho: ∀ j,j≠i→L' j=L j):jt β β L L' (SV.re i c n):=by
 have jE: ∀ {b},L b=some .aZ→L' b=some .aZ:=fun {b} hb=>by
  rw[ho b fun e=>by subst e;rw[hi] at hb;cases hb];exact hb
 refine ⟨fun {s}=>?_,fun _ _ _=>rfl,fun _ _ _ h=>h⟩
 induction s with
 |sl j ver=>
  intro v h
  have h1:=SV.bl h
  simp only[SV.re]
  split
  ·rename_i e;subst e
   split
   ·rename_i e;subst e
    obtain ⟨k1,c',k2,k3,k4⟩:=h
    rw[hi] at k2;cases k2
    exact ⟨k1,n,A8,Nat.le_refl _,fun _=>k4 rfl⟩
   ·exact h1
  ·rename_i e
   obtain ⟨k1,c',k2,k3,k4⟩:=h
   exact ⟨k1,c',by rw[ho j e];exact k2,k3,k4⟩
 |vw j ver w z m=>
  intro v h
  have h1:=SV.bl h
  simp only[SV.re]
  split
  ·rename_i e;subst e
   split
   ·rename_i e;subst e
    obtain ⟨k1,c',k2,k3,k4⟩:=h
    rw[hi] at k2;cases k2
    exact ⟨k1,n,A8,Nat.le_refl _,fun _=>k4 rfl⟩
   ·exact h1
  ·rename_i e
   obtain ⟨k1,c',k2,k3,k4⟩:=h
   exact ⟨k1,c',by rw[ho j e];exact k2,k3,k4⟩
 |ep s w z f ih=>
  rintro v ⟨a,n,c',h1,h2⟩
  exact ⟨a,n,c',ih h1,h2⟩
 |ptr b o=>intro v h;exact ⟨jE h.1,h.2⟩
 |uL b base st n z=>intro v h;exact ⟨jE h.1,h.2⟩
 |slice b o l c=>intro v h;exact ⟨jE h.1,h.2⟩
 |vb b o t m z n=>intro v h;exact ⟨jE h.1,h.2⟩
 |_=>intro v h;exact h
theorem abf {β':Env} {i k c:Nat} {L L':Nat→Option Kd} (hk:L k=some (.own c)) (TO:L i≠some .aZ) (A8:L' i=some (.own 1)) (ho: ∀ j,j≠i→j≠k→L' j=L j) (hb:β'.b=β.b) (hh: ∀ j,j≠i→β'.h j=β.h j) (TM:β'.h i=β.h k) (ny:β'.rd=β.rd):
  jt β β' L L' (SV.mv i k c):=by
 have jE: ∀ {b},L b=some .aZ→L' b=some .aZ∧β'.b b=β.b b:=fun {b} h=>by
  refine ⟨?_,by rw[hb]⟩
  rw[ho b (fun e=>by subst e;exact TO h) fun e=>by subst e;rw[hk] at h;cases h];exact h
 have qb: ∀ pm v t l,β.rd pm v t l→β'.rd pm v t l:=fun _ _ _ _ h=>by rw[ny];exact h
 refine ⟨fun {s}=>?_,fun _ _ _=>rfl,fun _ _ _ h=>qb _ _ _ _ h⟩
 induction s with
 |sl j ver=>
  intro v h
  have h1:=SV.bl h
  simp only[SV.mv]
  split
  ·rename_i e;subst e
   split
   ·rename_i e;subst e
    obtain ⟨k1,c',k2,k3,k4⟩:=h
    rw[hk] at k2;cases k2
    exact ⟨k1,1,A8,Nat.le_refl _,fun _=>by rw[TM];exact k4 rfl⟩
   ·exact h1
  ·rename_i e
   split
   ·exact h1
   ·rename_i e2
    obtain ⟨k1,c',k2,k3,k4⟩:=h
    exact ⟨k1,c',by rw[ho j e2 e];exact k2,k3,fun e3=>by rw[hh j e2];exact k4 e3⟩
 |vw j ver w z m=>
  intro v h
  have h1:=SV.bl h
  simp only[SV.mv]
  split
  ·rename_i e;subst e
   split
   ·rename_i e;subst e
    obtain ⟨k1,c',k2,k3,k4⟩:=h
    rw[hk] at k2;cases k2
    exact ⟨k1,1,A8,Nat.le_refl _,fun _=>by rw[TM];exact k4 rfl⟩
   ·exact h1
  ·rename_i e
   split
   ·exact h1
   ·rename_i e2
    obtain ⟨k1,c',k2,k3,k4⟩:=h
    exact ⟨k1,c',by rw[ho j e2 e];exact k2,k3,fun e3=>by rw[hh j e2];exact k4 e3⟩
 |ep s w z f ih=>
  rintro v ⟨a,n,c',h1,h2⟩
  exact ⟨a,n,c',ih h1,h2⟩
 |ptr b o=>intro v h;obtain ⟨k1,k2⟩:=jE h.1;exact ⟨k1,by rw[k2];exact h.2⟩
 |uL b base st n z=>intro v h;obtain ⟨k1,k2⟩:=jE h.1;exact ⟨k1,h.2.1,by rw[k2];exact h.2.2⟩
 |slice b o l c=>intro v h;obtain ⟨k1,k2⟩:=jE h.1;exact ⟨k1,by rw[k2];exact h.2⟩
 |vb b o t m z n=>rintro v ⟨h1,h2⟩;obtain ⟨k1,k2⟩:=jE h1;exact ⟨k1,by rw[k2];exact h2⟩
 |rd pm nn t l=>rintro v ⟨h1,h2,h3⟩;exact ⟨h1,h2,h3.mono qb⟩
 |_=>intro v h;exact h
theorem G7 {β':Env} {i c:Nat} {t:Ty} {l:List t.D} {L:Nat→Option Kd} (hi:L i=some (.own c)) (hb:β'.b=β.b) (hh:β'.h=β.h) (ny: ∀ pm v t l,β.rd pm v t l→β'.rd pm v t l) (hr:β'.rd true (β.h i) t l):jt β β' L L (SV.uG i c t l):=by
 have qb:bD β β' L L:=⟨fun i h=>⟨h,by rw[hb]⟩,fun i c h=>⟨c,h,Nat.le_refl _,fun _=>by rw[hh]⟩,ny⟩
 refine ⟨fun {s}=>?_,fun _ _ _=>rfl,fun _ _ _ h=>ny _ _ _ _ h⟩
 induction s with
 |sl j ver=>
  intro v h
  have h1:=SV.bl h
  simp only[SV.uG]
  split
  ·rename_i e;subst e
   split
   ·rename_i e;subst e
    obtain ⟨k1,c',k2,k3,k4⟩:=h
    rw[hi] at k2;cases k2
    have e:=k4 rfl
    subst e
    exact ⟨k1,(fun e=>by cases e),.inl hr⟩
   ·exact h1
  ·exact SV.dQ qb h
 |ep s w z f ih=>
  rintro v ⟨a,n,c',h1,h2⟩
  exact ⟨a,n,c',ih h1,h2⟩
 |_=>intro v h;exact SV.dQ qb h
theorem yF {f:SV→SV} {j:Nat} {y:Item} (hj:(hp.map (Option.map (Item.cH f)))[j]? =some (some y)): ∃ x,hp[j]? =some (some x)∧y=x.cH f:=by
 rw[List.getElem?_map] at hj
 obtain ⟨o,h1,h2⟩:=map_some hj
 cases o with
 |none=>cases h2
 |some x=>exact ⟨x,h1,by simpa using h2.symm⟩
theorem u0 {f:SV→SV} (hp:Hp):kd (hp.map (Option.map (Item.cH f)))=kd hp:=by
 funext j
 unfold kd
 rw[List.getElem?_map]
 cases hp[j]? with
 |none=>rfl
 |some o=>cases o with
  |none=>rfl
  |some x=>simp[Item.OC]
theorem bB.abg {α β:Type} {R:α→β→Prop} {a:α}: ∀ {l:List α} {m:List β} {k:Nat},bB R l m→(∀ b,m[k]? =some b→R a b)→bB R (l.set k a) m
 |_,_,_,.nil,_=> .nil
 |_,_,0,.cons h t,hb=> .cons (hb _ rfl) t
 |_,_,k+1,.cons h t,hb=> .cons h (t.abg fun b hk=>hb b (by simpa using hk))
def OD (k:IntKind):List SV→Option (List Int)
 | []=>some []
 | .int k' n::l=>if k'=k then (OD k l).map (n.val:: ·) else none
 |_::_=>none
theorem G8 {β:Env} {L:Nat→Option Kd} {k:IntKind}: ∀ {l:List SV} {m:List Int} {vs:List Value},OD k l=some m→aX β L l vs→aO ((Ty.int k).has β true) m vs
 | [],m,vs,h,hd=>by cases h;cases hd;exact .nil
 |s::l,m,vs,h,hd=>by
  unfold OD at h
  split at h
  ·rename_i e;cases e
  ·rename_i e;injection e with e1 e2;subst e1 e2
   split at h
   ·rename_i e;subst e
    obtain ⟨m',h1,rfl⟩:=map_some h
    cases hd with
    |cons h2 h3=>
     obtain ⟨v,rfl,hv⟩:=h2
     exact aO.cons (x:=_) (vs:= [v]) (by rw[show v=_ from hv];rfl) (G8 h1 h3)
   ·cases h
  ·cases h
def G9 (off n:Nat) (k:IntKind) (l:List SV):List SV:=match OD k ((l.drop off).take n) with
 |some m=>if m.length=n then l.take off++ .arr (.int k) n m::(l.drop off).drop n else l
 |none=>l
theorem ly {β:Env} {L:Nat→Option Kd} {off n:Nat} {k:IntKind} {l:List SV} {vs:List Value} (h:aX β L l vs):aX β L (G9 off n k l) vs:=by
 unfold G9
 split
 ·rename_i m hm
  split
  ·rename_i hn
   have e:l=l.take off++((l.drop off).take n++(l.drop off).drop n):=by rw[List.take_append_drop,List.take_append_drop]
   rw[e] at h
   obtain ⟨v1,v2,rfl,h1,h2⟩:=aO.split h
   obtain ⟨v3,v4,rfl,h3,h4⟩:=aO.split h2
   exact h1.append (aO.cons (x:= .arr (.int k) n m) ⟨hn,G8 hm h3⟩ h4)
  ·exact h
 ·exact h
def SV.cellsIn:SV→List SV
 | .arr (.int k) n m=>if n≤32 then (List.range n).map fun i=> .int k (.sym (m.getD i 0)) else [.arr (.int k) n m]
 |s=> [s]
theorem yG: ∀ (m:List Int) (k:IntKind),(List.range m.length).map (fun i=>SV.int k (.sym (m.getD i 0)))=m.map fun n=>SV.int k (.sym n):=by
 intro m k
 apply List.ext_getElem?
 intro i
 simp only[List.getElem?_map]
 rcases Nat.lt_or_ge i m.length with h1|h1
 ·rw[List.getElem?_range h1]
  simp[List.getD_eq_getElem?_getD,List.getElem?_eq_getElem h1]
 ·rw[List.getElem?_eq_none h1,List.getElem?_eq_none (by simpa using h1)]
  rfl
theorem rU {β:Env} {L:Nat→Option Kd} {k:IntKind}: ∀ {m:List Int} {vs:List Value},aO ((Ty.int k).has β true) m vs→aX β L (m.map fun n=>SV.int k (.sym n)) vs
 | [],_,h=>by cases h;exact .nil
 |n::m,_,h=>by
  cases h with
  |cons h1 h2=>
   have h1':_= [Value.int k n]:=h1
   subst h1'
   exact aO.cons (x:=SV.int k (.sym n)) ⟨_,rfl,rfl⟩ (rU h2)
theorem Ha {β:Env} {L:Nat→Option Kd} {s:SV} {vs:List Value} (h:s.gW β L vs):aX β L s.cellsIn vs:=by
 unfold SV.cellsIn
 split
 ·rename_i k n m
  split
  ·obtain ⟨rfl,h2⟩:=(h:_∧_)
   rw[yG]
   exact rU h2
  ·exact aO.one h
 ·exact aO.one h
def UJ (l:List SV):List SV:=l.flatMap SV.cellsIn
theorem BS {β:Env} {L:Nat→Option Kd} {l:List SV} {vs:List Value} (h:aX β L l vs):aX β L (UJ l) vs:=by
 induction h with
 |nil=>exact .nil
 |cons h _ ih=>exact (Ha h).append ih
def VV.onL (f:List SV→List SV):VV→VV
 | .agg l=> .agg (f l)
 |x=>x
theorem VV.rV {β:Env} {L:Nat→Option Kd} {f:List SV→List SV} (hf: ∀ l vs,aX β L l vs→aX β L (f l) vs) {x:VV} {v:Value} (h:x.den β L v):(x.onL f).den β L v:=by
 cases x with
 |sc s=>exact h
 |agg l=>obtain ⟨cs,e,hd⟩:=h;exact ⟨cs,e,hf _ _ hd⟩
def LV.onL (f:List SV→List SV):LV→LV
 | .one x=> .one (x.onL f)
 | .cD l=> .cD (l.map (VV.onL f))
 |x=>x
theorem LV.rV {β:Env} {L:Nat→Option Kd} {f:List SV→List SV} (hf: ∀ l vs,aX β L l vs→aX β L (f l) vs) {x:LV} {v:Value} (h:x.den β L v):(x.onL f).den β L v:=by
 cases x with
 |one x=>exact VV.rV hf h
 |cD l=>obtain ⟨vs,e,hd⟩:=h;exact ⟨vs,e,hd.xW fun _ _=>VV.rV hf⟩
 |bQ=>exact h
def Dq (f:List SV→List SV) (i:Nat) (fr:List LV):List LV:=match fr[i]? with
 |some x=>fr.set i (x.onL f)
 |none=>fr
theorem yH {β:Env} {L:Nat→Option Kd} {f:List SV→List SV} (hf: ∀ l vs,aX β L l vs→aX β L (f l) vs) {i:Nat} {fr:List LV} {vs:List Value} (h:bB (LV.den β L) fr vs):bB (LV.den β L) (Dq f i fr) vs:=by
 unfold Dq
 split
 ·rename_i x hx
  refine h.abg fun b hb=>?_
  obtain ⟨b',h1,h2⟩:=h.get hx
  rw[hb] at h1;cases h1
  exact LV.rV hf h2
 ·exact h
inductive Wk where
 |fr (l:List FM)
 |aZ (i:Nat) (l:List FM)
 |cC (k:Nat) (t:Ty)
 |fH (i j:Nat) (t:Ty)
 |uG (i:Nat)
 |ver (i:Nat)
 |one (i:Nat)
 |move (i j:Nat)
 |slot (b off i:Nat) (t:Ty)
 |cut (ids:List Nat)
 |Ky (k:Nat) (t:Ty)
 |agh (i j:Nat) (t:Ty)
 |auto
 |aD
 |syms
 |yI
 |iP (i off n:Nat) (k:IntKind)
 |kJ (i off n:Nat) (k:IntKind)
 |OE (i:Nat)
 |aeF (i:Nat)
def Hb:SV→Bool
 | .gH (.slice none 0 0)=>true
 |_=>false
def ajE:LV→Bool
 | .one (.sc s)=>Hb s
 |_=>false
def Dr:List Nat→Bool
 | []=>true
 |x::l=> !l.any (fun y=>decide (y=x))&&Dr l
def abi (m:Nat) (ids:List Nat) (i:Nat):Option Nat:=if i<m then some i else (il ids i).map (· +m)
def Bp (m:Nat) (ids:List Nat):rS:=⟨abi m ids,fun _ v=>some v⟩
structure uH where
 n:Nat
 v:Nat→Bool
def uH.of (hp:Hp):uH:=⟨hp.length,fun i=>match bd hp i with|some (.own 0 _ _)=>true|_=>false⟩
structure uH.Ok (m:uH) (ah:Hp):Prop where
 n:m.n=ah.length
 v: ∀ i,m.v i=true→kd ah i=some (.own 0)
theorem uH.bf (hp:Hp):(uH.of hp).Ok hp:=⟨rfl,fun i h=>by
 simp only[uH.of] at h
 split at h
 ·rename_i hi;rw[cT (aw hi)];rfl
 ·cases h⟩
theorem uH.ajF (hp:Hp):(uH.mk hp.length fun _=>false).Ok hp:=⟨rfl,fun _ h=>by cases h⟩
def TP (m:uH):Wk→St→Option St
 | .fr l,st=>some ⟨age l st.fr,st.hp⟩
 | .aZ i l,st=>match bd st.hp i with
  |some (.aZ cells e)=>some ⟨st.fr,st.hp.set i (some (.aZ (agf l cells) e))⟩
  |_=>some st
 | .cC k t,st=>if ajE (st.fr.getD k .bQ) then some ⟨st.fr.set k (.one (.sc (.sl st.hp.length 0))),setAt st.hp st.hp.length (.own 0 t [])⟩ else some st
 | .fH i j t,st=>match bd st.hp i with
  |some (.aZ cells e)=>if Hb (cells.getD j .bQ)&&Oe cells then some ⟨st.fr,(setAt st.hp st.hp.length (.own 0 t [])).set i (some (.aZ (cells.set j (.sl st.hp.length 0)) e))⟩ else some st
  |_=>none
 | .uG i,st=>if m.n≤i then match bd st.hp i with
  |some (.own c t l)=>some ⟨st.fr.map (LV.cH (SV.uG i c t l)),(st.hp.set i (some (.gone c))).map (Option.map (Item.cH (SV.uG i c t l)))⟩
  |_=>none else none
 | .ver i,st=>if m.n≤i then match bd st.hp i with
  |some (.own c t l)=>some ⟨st.fr.map (LV.cH (SV.re i c 0)),(st.hp.set i (some (.own 0 t l))).map (Option.map (Item.cH (SV.re i c 0)))⟩
  |_=>none else none
 | .one i,st=>if m.v i then match bd st.hp i with
  |some (.own c t l)=>some ⟨st.fr.map (LV.cH (SV.re i c 1)),(st.hp.set i (some (.own 1 t l))).map (Option.map (Item.cH (SV.re i c 1)))⟩
  |_=>none else none
 | .move i j,st=>if m.v i&&decide (m.n≤j) then match bd st.hp j,bd st.hp i with
  |some (.own c t l),some (.own _ _ _)=>some ⟨st.fr.map (LV.cH (SV.mv i j c)),((st.hp.set i (some (.own 1 t l))).set j none).map (Option.map (Item.cH (SV.mv i j c)))⟩
  |_,_=>none else none
 | .cut ids,st=>if m.n≤st.hp.length&&ids.all (fun i=>decide (m.n≤i))&&Dr ids then
   some ⟨st.fr.map (LV.bJ (Bp m.n ids)),(st.hp.take m.n++ids.map (fun i=>bd st.hp i)).map (Option.map (Item.bJ (Bp m.n ids) fun v=>v))⟩ else none
 | .iP i off n k,st=>match bd st.hp i with
  |some (.aZ cells e)=>some ⟨st.fr,st.hp.set i (some (.aZ (G9 off n k cells) e))⟩
  |_=>some st
 | .kJ i off n k,st=>some ⟨Dq (G9 off n k) i st.fr,st.hp⟩
 | .OE i,st=>match bd st.hp i with
  |some (.aZ cells e)=>some ⟨st.fr,st.hp.set i (some (.aZ (UJ cells) e))⟩
  |_=>some st
 | .aeF i,st=>some ⟨Dq UJ i st.fr,st.hp⟩
 | .syms,st=>some ⟨st.fr.map (LV.cH (SV.fm .sym)),st.hp.map (Option.map (Item.cH (SV.fm .sym)))⟩
 | .Ky _ _,_| .agh _ _ _,_| .auto,_| .aD,_| .yI,_| .slot _ _ _ _,_=>none
def wkB (m:uH):List Wk→St→Option St
 | [],st=>some st
 |k::ks,st=>match TP m k st with
  |some o7=>wkB m ks o7
  |none=>none
def aeG:Option Item→Bool
 |some (.own _ _ _)=>true
 |_=>false
def abj (m:Nat) (st:St):List Nat:=
 match (qH 1000 (st.fr.flatMap LV.refs++(List.range m).filter fun i=>(bd st.hp i).isSome) [] []).val st.hp with
 |some (ids,_)=>ids.filter fun i=>decide (m≤i)
 |none=> []
def wkX (m:uH):Wk→St→List Wk
 | .Ky k t,st=>match st.fr.getD k .bQ with
  | .one (.sc (.sl i _))=> [.uG i]
  |_=> [.fr (List.replicate k .aq++ [.rd true t])]
 | .agh i j t,st=>match bd st.hp i with
  |some (.aZ cells _)=>match cells.getD j .bQ with
   | .sl k _=> [.uG k]
   |_=> [.aZ i (List.replicate j .aq++ [.rd true t])]
  |_=> []
 | .auto,st=> [.cut (abj m.n st)]
 | .aD,st=>(List.range st.hp.length).filterMap fun i=>if decide (m.n≤i)&&aeG (bd st.hp i) then some (.ver i) else none
 | .yI,st=>(List.range st.hp.length).filterMap fun i=>if decide (m.n≤i)&&aeG (bd st.hp i) then some (.uG i) else none
 | .slot b j i t,st=>match bd st.hp b with
  |some (.aZ cells _)=>match cells.getD j .bQ with
   | .sl k _=>if k=i then [.one i] else [.move i k]
   |_=> [.fH b j t,.move i st.hp.length]
  |_=> []
 |k,_=> [k]
def qh (m:uH):List Wk→St→Option St
 | [],st=>some st
 |k::ks,st=>match wkB m (wkX m k st) st with
  |some o7=>qh m ks o7
  |none=>none
theorem BT {β:Env} {L:Nat→Option Kd} {s:SV} {v:Value} (h:Hb s=true) (hd:s.den β L v):v= .slice none 0 0:=by
 unfold Hb at h
 split at h
 ·exact hd.2
 ·cases h
theorem BU: ∀ {l:List Nat},Dr l=true→l.Nodup
 | [],_=>List.nodup_nil
 |x::l,h=>by
  simp only[Dr,Bool.and_eq_true,Bool.not_eq_true',List.any_eq_false,decide_eq_true_eq] at h
  exact List.nodup_cons.2 ⟨fun hm=>h.1 x hm rfl,BU h.2⟩
theorem aV.relabel (h:aV W ah β₀ β hp w) {f:SV→SV} (hl:jt β β (kd hp) (kd hp) f):aV W ah β₀ β (hp.map (Option.map (Item.cH f))) w:=by
 refine h.yE (fun j=>j) rfl (by rw[u0];exact h.first) (fun j y hj=>?_) fun _ _ _ _ _ _ e=>e
 obtain ⟨x,h1,rfl⟩:=yF hj
 exact ⟨x,h1,fun b=>(bU.cH rfl rfl).1,by rw[u0];exact hl.item rfl rfl (h.items j x h1),.inl rfl⟩
theorem aV.Kz (h:aV W ah β₀ β hp w) (t:Ty): ∃ β',aV W ah β₀ β' (setAt hp hp.length (.own 0 t [])) w∧bD β β' (kd hp) (kd (setAt hp hp.length (.own 0 t [])))∧(SV.sl hp.length 0).den β' (kd (setAt hp hp.length (.own 0 t []))) (.slice none 0 0):=by
 obtain ⟨β',h1,h2,h3⟩:=h.qF (id:=hp.length) (fT (Nat.le_refl _)) (v:= .slice none 0 0) (ver:=0) (t:=t) (l:= []) (w':=w) (Nat.le_refl _) rfl rfl (fun _ _=>rfl)
  ⟨none,0,0,rfl,rfl,Nat.le_refl _,fun _=>rfl,fun h=>absurd h (by omega)⟩ (fun a n c e=>by simp at e)
 exact ⟨β',h1,h2,rfl,0,by rw[cN,if_pos rfl];rfl,Nat.le_refl _,fun _=>h3.symm⟩
theorem KA {i:Nat} {x y:Item} (hi:hp[i]? =some (some x)) (j:Nat):kd (hp.set i (some y)) j=if j=i then some y.kd else kd hp j:=by
 rw[← ye hi,cN]
theorem Ds {i j:Nat} {x y z:Item} (hi:hp[i]? =some (some x)) (hj:(hp.set i (some y))[j]? =some (some z)):(j=i∧z=y)∨(j≠i∧hp[j]? =some (some z)):=by
 by_cases e:j=i
 ·subst e
  rw[List.getElem?_set_self (List.getElem?_eq_some_iff.1 hi).1] at hj
  exact .inl ⟨rfl,by simpa using hj.symm⟩
 ·rw[List.getElem?_set_ne (Ne.symm e)] at hj
  exact .inr ⟨e,hj⟩
theorem aV.Dt (h:aV W ah β₀ β hp w) {i:Nat} {cells cells':List SV} {e:TypeId} (hi:hp[i]? =some (some (.aZ cells e))) (hc: ∀ c,aX β (kd hp) cells c→aX β (kd hp) cells' c):
  aV W ah β₀ β (hp.set i (some (.aZ cells' e))) w∧kd (hp.set i (some (.aZ cells' e)))=kd hp:=by
 have hk:kd (hp.set i (some (.aZ cells' e)))=kd hp:=by
  funext j
  rw[KA hi]
  split
  ·rename_i e1;rw[e1,cT hi];rfl
  ·rfl
 refine ⟨h.agd hk fun j y hj=>?_,hk⟩
 rcases Ds hi hj with ⟨rfl,rfl⟩|⟨_,BE⟩
 ·exact ⟨_,hi,.inr ⟨cells,cells',e,rfl,rfl,hc⟩⟩
 ·exact ⟨y,BE,.inl rfl⟩
theorem UK {i:Nat} (h:ah.length≤i) {y:Item}:ah[i]? ≠some (some y):=by rw[List.getElem?_eq_none h];simp
theorem agi (h:aV W ah β₀ β hp w) {i c:Nat} {t:Ty} {l:List t.D} (hm:ah.length≤i) (hi:hp[i]? =some (some (.own c t l))):
  ∃ β',aV W ah β₀ β' ((hp.set i (some (.gone c))).map (Option.map (Item.cH (SV.uG i c t l)))) w∧jt β β' (kd hp) (kd ((hp.set i (some (.gone c))).map (Option.map (Item.cH (SV.uG i c t l))))) (SV.uG i c t l):=by
 obtain ⟨h1,qb⟩:=h.xc hi (x':= .gone c) (β':=β) (w':=w) rfl (fun _ _=>rfl) rfl (.inr ⟨c,c,rfl,rfl,Nat.le_refl _,fun _=>rfl⟩) (Nat.le_refl _) rfl rfl (fun _ _ _=>rfl) (fun b ho=>ho.elim) (fun _=>trivial)
 have hk:kd (hp.set i (some (.gone c)))=kd hp:=by
  funext j
  rw[KA hi]
  split
  ·rename_i e1;rw[e1,cT hi];rfl
  ·rfl
 have kZ:cU β w (β.h i) t l:=h.items i _ hi
 obtain ⟨h2,anI,h3⟩:=h1.nb (pm:=true) (v:=β.h i) (t:=t) (l:=l) kZ.reads fun b hb=>by
  have ho:bU β (.own c t l) i b:=Dj kZ hb
  refine ⟨(h.items i _ hi).lt ho,fun ⟨j,y,hj,ho2⟩=>?_,.inl ?_⟩
  ·rcases Ds hi hj with ⟨rfl,rfl⟩|⟨fR,BE⟩
   ·exact ho2.elim
   ·exact fR (h.inj j i y _ b BE hi ho2 ho)
  ·rcases h.own i _ b hi ho with k|⟨y,k,_⟩
   ·exact k
   ·exact absurd k (UK hm)
 have TO:kd (hp.set i (some (.gone c))) i=some (.own c):=by rw[hk,cT hi];rfl
 have hl:jt (β.nb true (β.h i) t l) (β.nb true (β.h i) t l) (kd (hp.set i (some (.gone c)))) (kd (hp.set i (some (.gone c)))) (SV.uG i c t l):=G7 TO rfl rfl (fun _ _ _ _ h=>h) h3
 refine ⟨_,h2.relabel hl,?_⟩
 rw[u0,hk]
 rw[hk] at TO
 exact G7 TO rfl rfl anI.rd h3
theorem aeH (h:aV W ah β₀ β hp w) {i c n:Nat} {t:Ty} {l:List t.D} (hm:kd ah i=none∨(kd ah i=some (.own 0)∧n=1)) (hi:hp[i]? =some (some (.own c t l))):
  aV W ah β₀ β ((hp.set i (some (.own n t l))).map (Option.map (Item.cH (SV.re i c n)))) w∧jt β β (kd hp) (kd ((hp.set i (some (.own n t l))).map (Option.map (Item.cH (SV.re i c n))))) (SV.re i c n):=by
 have hk: ∀ j,kd ((hp.set i (some (.own n t l))).map (Option.map (Item.cH (SV.re i c n)))) j=if j=i then some (.own n) else kd hp j:=by
  intro j;rw[u0,KA hi];rfl
 have hl:jt β β (kd hp) (kd ((hp.set i (some (.own n t l))).map (Option.map (Item.cH (SV.re i c n))))) (SV.re i c n):=abe (by rw[cT hi];rfl) (by rw[hk,if_pos rfl]) fun j hj=>by rw[hk,if_neg hj]
 refine ⟨h.yE (fun j=>j) rfl ?_ (fun j y hj=>?_) fun _ _ _ _ _ _ e=>e,hl⟩
 ·refine ⟨fun j hj=>?_,fun j k hj=>?_,h.first.rd⟩
  ·have fR:j≠i:=fun e=>by subst e;rcases hm with hm|⟨hm,_⟩<;>(rw[hm] at hj;cases hj)
   exact ⟨by rw[hk,if_neg fR];exact (h.first.aZ j hj).1,(h.first.aZ j hj).2⟩
  ·by_cases e:j=i
   ·subst e
    rcases hm with hm|⟨hm,rfl⟩<;>(rw[hm] at hj;cases hj)
    exact ⟨1,by rw[hk,if_pos rfl],by omega,fun e=>by omega⟩
   ·rw[hk,if_neg e];exact h.first.own j k hj
 ·obtain ⟨x,h1,rfl⟩:=yF hj
  rcases Ds hi h1 with ⟨rfl,rfl⟩|⟨_,h1'⟩
  ·exact ⟨_,hi,fun b ho=>ho,h.items j _ hi,.inl rfl⟩
  ·exact ⟨x,h1',fun b=>(bU.cH rfl rfl).1,hl.item rfl rfl (h.items j x h1'),.inl rfl⟩
theorem abk (h:aV W ah β₀ β hp w) {i k c c':Nat} {t t':Ty} {l:List t.D} {l':List t'.D} (hm:kd ah i=some (.own 0)) (hn:ah.length≤k) (hk:hp[k]? =some (some (.own c t l))) (hi:hp[i]? =some (some (.own c' t' l'))):
  ∃ β',aV W ah β₀ β' (((hp.set i (some (.own 1 t l))).set k none).map (Option.map (Item.cH (SV.mv i k c)))) w∧jt β β' (kd hp) (kd (((hp.set i (some (.own 1 t l))).set k none).map (Option.map (Item.cH (SV.mv i k c))))) (SV.mv i k c):=by
 have fR:i≠k:=fun e=>by subst e;rw[fT hn] at hm;cases hm
 have hil:=(List.getElem?_eq_some_iff.1 hi).1
 have hkl:=(List.getElem?_eq_some_iff.1 hk).1
 generalize QM:((hp.set i (some (.own 1 t l))).set k none).map (Option.map (Item.cH (SV.mv i k c)))=dX
 have hgi:dX[i]? =some (some (.own 1 t l)):=by
  rw[← QM,List.getElem?_map,List.getElem?_set_ne (Ne.symm fR),List.getElem?_set_self hil];rfl
 have hgk:dX[k]? =some none:=by
  rw[← QM,List.getElem?_map,List.getElem?_set_self (by simpa using hkl)];rfl
 have hgo: ∀ j,j≠i→j≠k→dX[j]? =(hp[j]?).map (Option.map (Item.cH (SV.mv i k c))):=by
  intro j h1 h2
  rw[← QM,List.getElem?_map,List.getElem?_set_ne (Ne.symm h2),List.getElem?_set_ne (Ne.symm h1)]
 have hko: ∀ j,j≠i→j≠k→kd dX j=kd hp j:=by
  intro j h1 h2
  unfold kd
  rw[hgo j h1 h2]
  cases hp[j]? with
  |none=>rfl
  |some o=>cases o with
   |none=>rfl
   |some x=>simp[Item.OC]
 have TO:kd dX i=some (.own 1):=by rw[cT hgi];rfl
 let β':Env:=⟨β.b,fun j=>if j=i then β.h k else β.h j,β.rd⟩
 have hl:jt β β' (kd hp) (kd dX) (SV.mv i k c):=abf (by rw[cT hk];rfl) (by rw[cT hi];intro e;cases e) TO hko rfl (fun j hj=>if_neg hj) (if_pos rfl) rfl
 let g:Nat→Nat:=fun j=>if j=i then k else j
 refine ⟨β',h.yE g rfl ⟨fun j hj=>?_,fun j n hj=>?_,h.first.rd⟩ (fun j y hj=>?_) (fun j j' y z hj BE e=>?_),hl⟩
 ·have h1:j≠i:=fun e=>by subst e;rw[hm] at hj;cases hj
  have h2:j≠k:=fun e=>by subst e;rw[fT hn] at hj;cases hj
  rw[hko j h1 h2];exact h.first.aZ j hj
 ·have h2:j≠k:=fun e=>by subst e;rw[fT hn] at hj;cases hj
  by_cases h1:j=i
  ·subst h1
   rw[hm] at hj;cases hj
   exact ⟨1,TO,by omega,fun e=>by omega⟩
  ·obtain ⟨n',k1,k2,k3⟩:=h.first.own j n hj
   exact ⟨n',by rw[hko j h1 h2];exact k1,k2,fun e=>by show (if j=i then _ else _)=_;rw[if_neg h1];exact k3 e⟩
 ·by_cases h1:j=i
  ·subst h1
   rw[hgi] at hj;cases hj
   refine ⟨_,by show hp[if j=j then k else j]? =_;rw[if_pos rfl];exact hk,fun b ho=>?_,?_,.inr ?_⟩
   ·obtain ⟨a,n,m,h3,h4,h5⟩:=ho
    have h3':(if j=j then β.h k else β.h j)=_:=h3
    rw[if_pos rfl] at h3'
    exact ⟨a,n,m,by show β.h (if j=j then k else j)=_;rw[if_pos rfl];exact h3',h4,h5⟩
   ·show cU β' w (if j=j then β.h k else β.h j) t l
    rw[if_pos rfl]
    have kZ:cU β w (β.h k) t l:=h.items k _ hk
    exact cU.of (β:=β) (β':=β') (w:=w) (w':=w) (fun _ _ _ _ h=>h) kZ fun _ _ _ _ _=>rfl
   ·show kd ah (if j=j then k else j)=none
    rw[if_pos rfl];exact fT hn
  ·by_cases h2:j=k
   ·subst h2;rw[hgk] at hj;cases hj
   ·rw[hgo j h1 h2] at hj
    obtain ⟨o,h3,h4⟩:=map_some hj
    cases o with
    |none=>cases h4
    |some x=>
     have h4':y=x.cH (SV.mv i k c):=by simpa using h4.symm
     subst h4'
     have hg:g j=j:=if_neg h1
     have hhj:β'.h j=β.h j:=if_neg h1
     rw[hg]
     exact ⟨x,h3,fun b=>(bU.cH (β:=β) (β':=β') rfl hhj).1,hl.item rfl hhj (h.items j x h3),.inl rfl⟩
 ·have hnk: ∀ {j y},dX[j]? =some (some y)→j≠k:=fun hj e=>by subst e;rw[hgk] at hj;cases hj
  have h1:=hnk hj
  have h2:=hnk BE
  have e':(if j=i then k else j)=(if j'=i then k else j'):=e
  split at e'<;>split at e'
  ·rename_i a b;rw[a,b]
  ·exact absurd e'.symm h2
  ·exact absurd e' h1
  ·exact e'
theorem agj (h:aV W ah β₀ β hp w) {ids:List Nat} (hlen:ah.length≤hp.length) (hm: ∀ i∈ids,ah.length≤i) (hn:ids.Nodup):
  ∃ β',aV W ah β₀ β' ((hp.take ah.length++ids.map (fun i=>bd hp i)).map (Option.map (Item.bJ (Bp ah.length ids) fun v=>v))) w∧
   uW (Bp ah.length ids) β β' (kd hp) (kd ((hp.take ah.length++ids.map (fun i=>bd hp i)).map (Option.map (Item.bJ (Bp ah.length ids) fun v=>v)))) false:=by
 generalize hme:ah.length=m at*
 generalize QM:(hp.take m++ids.map (fun i=>bd hp i)).map (Option.map (Item.bJ (Bp m ids) fun v=>v))=dX
 let g:Nat→Nat:=fun j=>if j<m then j else ids.getD (j-m) 0
 have abl: ∀ {j},j<m→g j=j:=fun hj=>if_pos hj
 have ajG: ∀ {j i:Nat},m≤j→ids[j-m]? =some i→g j=i:=fun hj hi=>by
  show (if _ then _ else _)=_
  rw[if_neg (by omega),fU hi]
 have htl:(hp.take m).length=m:=by simp;omega
 have ld: ∀ {j y},dX[j]? =some (some y)→ ∃ x,hp[g j]? =some (some x)∧y=x.bJ (Bp m ids) (fun v=>v)∧((j<m∧g j=j)∨(m≤j∧ids[j-m]? =some (g j))):=by
  intro j y hj
  rw[← QM,List.getElem?_map] at hj
  obtain ⟨o,h1,h2⟩:=map_some hj
  cases o with
  |none=>cases h2
  |some x=>
   have h2':y=x.bJ (Bp m ids) fun v=>v:=by simpa using h2.symm
   by_cases QI:j<m
   ·rw[List.getElem?_append_left (by omega),List.getElem?_take,if_pos QI] at h1
    exact ⟨x,by rw[abl QI];exact h1,h2',.inl ⟨QI,abl QI⟩⟩
   ·rw[List.getElem?_append_right (by omega),htl,List.getElem?_map] at h1
    obtain ⟨i,h3,h4⟩:=map_some h1
    have e:=ajG (by omega) h3
    exact ⟨x,by rw[e];exact aw h4,h2',.inr ⟨by omega,by rw[e];exact h3⟩⟩
 have hto: ∀ {i j x},abi m ids i=some j→hp[i]? =some (some x)→dX[j]? =some (some (x.bJ (Bp m ids) (fun v=>v)))∧g j=i:=by
  intro i j x hf hi
  unfold abi at hf
  split at hf
  ·rename_i him
   cases hf
   refine ⟨?_,abl him⟩
   rw[← QM,List.getElem?_map,List.getElem?_append_left (by omega),List.getElem?_take,if_pos him,hi];rfl
  ·obtain ⟨k,hk,rfl⟩:=map_some hf
   have h3:=gg hk
   refine ⟨?_,ajG (by omega) (by rw[show k+m-m=k from by omega];exact h3)⟩
   rw[← QM,List.getElem?_map,List.getElem?_append_right (by omega),htl,show k+m-m=k from by omega,List.getElem?_map,h3]
   show some (Option.map _ (bd hp i))=_
   rw[oU hi];rfl
 let β':Env:=⟨fun j=>β.b (g j),fun j=>β.h (g j),β.rd⟩
 have wH:uW (Bp m ids) β β' (kd hp) (kd dX) false:=by
  refine ⟨fun b j hj hb=>?_,fun i j c hj hi=>?_,fun _ _ _ h=>h,fun _ _ _ _ h=>h⟩
  ·obtain ⟨x,h1,h2⟩:=ke hb
   obtain ⟨h3,h4⟩:=hto hj h1
   exact ⟨by rw[cT h3,Item.js,h2];rfl,congrArg β.b h4⟩
  ·obtain ⟨x,h1,h2⟩:=ke hi
   obtain ⟨h3,h4⟩:=hto hj h1
   exact ⟨c,by rw[cT h3,Item.js,h2];rfl,congrArg β.h h4,fun v v' hv e=>by cases e;exact ⟨hv,fun e=>e⟩⟩
 have fD: ∀ {i k},kd ah i=some k→i<m:=fun {i k} hi=>by
  rcases Nat.lt_or_ge i m with h1|h1
  ·exact h1
  ·rw[fT (by omega)] at hi;cases hi
 have Gu: ∀ {i},i<m→abi m ids i=some i:=fun hi=>if_pos hi
 refine ⟨β',h.yE g rfl ⟨fun i hi=>?_,fun i c hi=>?_,h.first.rd⟩ (fun j y hj=>?_) (fun j k y z hj hk e=>?_),wH⟩
 ·obtain ⟨k1,k2⟩:=h.first.aZ i hi
  obtain ⟨k3,k4⟩:=wH.aZ i i (Gu (fD hi)) k1
  exact ⟨k3,k4.trans k2⟩
 ·obtain ⟨c',k1,k2,k3⟩:=h.first.own i c hi
  have A8:i<m:=fD hi
  obtain ⟨x,h1,h2⟩:=ke k1
  obtain ⟨h3,h4⟩:=hto (Gu A8) h1
  exact ⟨c',by rw[cT h3,Item.js,h2];rfl,k2,fun e=>(congrArg β.h (abl A8)).trans (k3 e)⟩
 ·obtain ⟨x,h1,rfl,h2⟩:=ld hj
  refine ⟨x,h1,fun b=>(bU.bJ (β:=β) (β':=β') rfl rfl).1,eA.Di wH (by simp) (fun _=>rfl) (fun _ _=>rfl) (h.items _ x h1),?_⟩
  rcases h2 with ⟨_,h2⟩|⟨_,h2⟩
  ·exact .inl h2
  ·exact .inr (fT (by rw[hme];exact hm _ (List.mem_of_getElem? h2)))
 ·obtain ⟨_,_,_,h1⟩:=ld hj
  obtain ⟨_,_,_,h2⟩:=ld hk
  rcases h1 with ⟨a1,a2⟩|⟨a1,a2⟩<;>rcases h2 with ⟨b1,b2⟩|⟨b1,b2⟩
  ·omega
  ·have:=hm _ (List.mem_of_getElem? b2);omega
  ·have:=hm _ (List.mem_of_getElem? a2);omega
  ·rw[e] at a2
   have e1:=jr hn a2
   have e2:=jr hn b2
   rw[e1] at e2
   have:=Option.some.inj e2
   omega
theorem agk {m:uH} (Hc:m.Ok ah) {k:Wk} {st o7:St} (h:TP m k st=some o7) {vals:List Value} (hr:QL W ah β₀ β st.fr st.hp vals w): ∃ β',QL W ah β₀ β' o7.fr o7.hp vals w:=by
 obtain ⟨fr,hp⟩:=st
 cases k with
 |fr l=>cases h;exact ⟨β,G5 l hr.fr,hr.heap⟩
 |aZ i l=>
  simp only[TP] at h
  split at h
  ·rename_i cells e hi
   cases h
   obtain ⟨h1,h2⟩:=hr.heap.Dt (aw hi) fun c=>G6 l
   exact ⟨β,by show bB (LV.den β (kd _)) fr vals;rw[h2];exact hr.fr,h1⟩
  ·cases h;exact ⟨β,hr⟩
 |cC k t=>
  simp only[TP] at h
  split at h
  ·rename_i rH
   cases h
   obtain ⟨β',h1,h2,h3⟩:=hr.heap.Kz t
   refine ⟨β',(hr.fr.imp fun _ _=>LV.dQ h2).abg fun b hb=>?_,h1⟩
   have j8: ∃ x,fr[k]? =some x:=by
    have:fr.length=vals.length:=hr.fr.length
    have hk:=(List.getElem?_eq_some_iff.1 hb).1
    exact ⟨_,List.getElem?_eq_getElem (show k<fr.length by omega)⟩
   obtain ⟨x,hx⟩:=j8
   obtain ⟨b',uF,hd⟩:=hr.fr.get hx
   rw[hb] at uF;cases uF
   simp only[List.getD_eq_getElem?_getD,hx,Option.getD_some] at rH
   cases x with
   |one x=>cases x with
    |sc s=>
     have:=BT rH hd
     subst this;exact h3
    |agg l=>cases rH
   |cD l=>cases rH
   |bQ=>cases rH
  ·cases h;exact ⟨β,hr⟩
 |fH i j t=>
  simp only[TP] at h
  split at h
  ·rename_i cells e hi
   split at h
   ·rename_i rH
    simp only[Bool.and_eq_true] at rH
    cases h
    obtain ⟨β',h1,h2,h3⟩:=hr.heap.Kz t
    have A8:(setAt hp hp.length (.own 0 t []))[i]? =some (some (.aZ cells e)):=by
     refine (bY hp _ _ _ _ ?_).2 (aw hi)
     have:=(List.getElem?_eq_some_iff.1 (aw hi)).1
     omega
    obtain ⟨h4,h5⟩:=h1.Dt (cells':=cells.set j (.sl hp.length 0)) A8 fun c hc=>by
     refine l8 ((me rH.2 hc).abg fun b hb=>?_)
     have rr:=me rH.2 hc
     have hj:=(List.getElem?_eq_some_iff.1 hb).1
     obtain ⟨x,hx⟩: ∃ x,cells[j]? =some x:=⟨_,List.getElem?_eq_getElem (show j<cells.length by rw[rr.length];exact hj)⟩
     obtain ⟨b',uF,hd⟩:=rr.get hx
     rw[hb] at uF;cases uF
     have hns:Hb x=true:=by
      have:=rH.1
      rw[List.getD_eq_getElem?_getD,hx] at this
      exact this
     have:=BT hns hd
     subst this;exact h3
    exact ⟨β',by show bB (LV.den β' (kd _)) fr vals;rw[h5];exact hr.fr.imp fun _ _=>LV.dQ h2,h4⟩
   ·cases h;exact ⟨β,hr⟩
  ·cases h
 |uG i=>
  simp only[TP] at h
  split at h
  ·rename_i hm
   split at h
   ·rename_i c t l hi
    cases h
    obtain ⟨β',h1,h2⟩:=agi hr.heap (Hc.n▸hm) (aw hi)
    exact ⟨β',h2.fr hr.fr,h1⟩
   ·cases h
  ·cases h
 |ver i=>
  simp only[TP] at h
  split at h
  ·rename_i hm
   split at h
   ·rename_i c t l hi
    cases h
    obtain ⟨h1,h2⟩:=aeH (n:=0) hr.heap (.inl (fT (Hc.n▸hm))) (aw hi)
    exact ⟨β,h2.fr hr.fr,h1⟩
   ·cases h
  ·cases h
 |one i=>
  simp only[TP] at h
  split at h
  ·rename_i hm
   split at h
   ·rename_i c t l hi
    cases h
    obtain ⟨h1,h2⟩:=aeH (n:=1) hr.heap (.inr ⟨Hc.v i hm,rfl⟩) (aw hi)
    exact ⟨β,h2.fr hr.fr,h1⟩
   ·cases h
  ·cases h
 |move i j=>
  simp only[TP] at h
  split at h
  ·rename_i hm
   simp only[Bool.and_eq_true,decide_eq_true_eq] at hm
   split at h
   ·rename_i c t l c' t' l' hj hi
    cases h
    obtain ⟨β',h1,h2⟩:=abk hr.heap (Hc.v i hm.1) (Hc.n▸hm.2) (aw hj) (aw hi)
    exact ⟨β',h2.fr hr.fr,h1⟩
   ·cases h
  ·cases h
 |cut ids=>
  simp only[TP] at h
  split at h
  ·rename_i hc
   simp only[Bool.and_eq_true,decide_eq_true_eq,List.all_eq_true] at hc
   cases h
   rw[Hc.n] at hc ⊢
   obtain ⟨β',h1,h2⟩:=agj hr.heap hc.1.1 hc.1.2 (BU hc.2)
   refine ⟨β',?_,h1⟩
   have hfr:=hr.fr
   show bB (LV.den β' _) (fr.map _) vals
   exact hfr.xW fun a b=>LV.fG h2 (by simp)
  ·cases h
 |iP i off n k=>
  simp only[TP] at h
  split at h
  ·rename_i cells e hi
   cases h
   obtain ⟨h1,h2⟩:=hr.heap.Dt (aw hi) fun c=>ly (off:=off) (n:=n) (k:=k)
   exact ⟨β,by show bB (LV.den β (kd _)) fr vals;rw[h2];exact hr.fr,h1⟩
  ·cases h;exact ⟨β,hr⟩
 |kJ i off n k=>cases h;exact ⟨β,yH (fun _ _=>ly) hr.fr,hr.heap⟩
 |OE i=>
  simp only[TP] at h
  split at h
  ·rename_i cells e hi
   cases h
   obtain ⟨h1,h2⟩:=hr.heap.Dt (aw hi) fun c=>BS
   exact ⟨β,by show bB (LV.den β (kd _)) fr vals;rw[h2];exact hr.fr,h1⟩
  ·cases h;exact ⟨β,hr⟩
 |aeF i=>cases h;exact ⟨β,yH (fun _ _=>BS) hr.fr,hr.heap⟩
 |syms=>
  cases h
  refine ⟨β,?_,hr.heap.relabel (rT .sym)⟩
  show bB (LV.den β (kd (hp.map _))) (fr.map _) vals
  rw[u0]
  exact (rT .sym).fr hr.fr
 |Ky k t=>cases h
 |agh i j t=>cases h
 |auto=>cases h
 |aD=>cases h
 |yI=>cases h
 |slot b o i t=>cases h
theorem UL {m:uH} (Hc:m.Ok ah): ∀ (ks:List Wk) {st o7:St} {β:Env},wkB m ks st=some o7→ ∀ {vals:List Value},QL W ah β₀ β st.fr st.hp vals w→ ∃ β',QL W ah β₀ β' o7.fr o7.hp vals w
 | [],_,_,_,h,_,hr=>by cases h;exact ⟨_,hr⟩
 |k::ks,st,_,_,h,_,hr=>by
  simp only[wkB] at h
  split at h
  ·rename_i st1 h1
   obtain ⟨β1,JX⟩:=agk Hc h1 hr
   exact UL Hc ks h JX
  ·cases h
theorem UM {m:uH} (Hc:m.Ok ah): ∀ (ks:List Wk) {st o7:St} {β:Env},qh m ks st=some o7→ ∀ {vals:List Value},QL W ah β₀ β st.fr st.hp vals w→ ∃ β',QL W ah β₀ β' o7.fr o7.hp vals w
 | [],_,_,_,h,_,hr=>by cases h;exact ⟨_,hr⟩
 |k::ks,st,_,_,h,_,hr=>by
  simp only[qh] at h
  split at h
  ·rename_i st1 h1
   obtain ⟨β1,JX⟩:=UL Hc _ h1 hr
   exact UM Hc ks h JX
  ·cases h
end
def aU.wk (m:uH) (ws:Exit→List Wk):aU→aU
 | .leaf e st=>match qh m (ws e) st with
  |some o7=> .leaf e o7
  |none=> .fail
 | .ite b x y=> .ite b (x.wk m ws) (y.wk m ws)
 | .need p x=> .need p (x.wk m ws)
 | .fail=> .fail
theorem mi {m:uH} {ws:Exit→List Wk} {R:Exit→St→Prop}: ∀ {r:aU},(r.wk m ws).sat R→r.sat fun e st=> ∃ o7,qh m (ws e) st=some o7∧R e o7
 | .leaf e st,h=>by
  simp only[aU.wk] at h
  split at h
  ·rename_i o7 h1;exact ⟨o7,h1,h⟩
  ·exact h.elim
 | .ite b x y,h=>⟨fun e=>mi (h.1 e),fun e=>mi (h.2 e)⟩
 | .need p x,h=>⟨h.1,mi h.2⟩
 | .fail,h=>h
theorem Rel.wk {W:World} {ah:Hp} {β₀ β:Env} {st o7:St} {a:Act} {w:World} (hr:Rel W ah β₀ β st a w) {m:uH} (Hc:m.Ok ah) {ks:List Wk} (h:qh m ks st=some o7): ∃ β',Rel W ah β₀ β' o7 a w:=by
 obtain ⟨β',h1⟩:=UM Hc ks h ⟨hr.fr,hr.heap⟩
 exact ⟨β',hr.defers,h1.fr,h1.heap⟩
theorem Ex.wk {P:Program} {ah:Hp} {c:Code} {st:St} {r:aU} (ws:Exit→List Wk) (h:Ex P ah c st r):Ex P ah c st (r.wk (.of ah) ws):=by
 intro W β₀ R Q hs hq β a w hr
 refine h W β₀ _ Q (mi hs) ?_ β a w hr
 rintro e a w ⟨st1,β1,⟨st2,h1,h2⟩,h3⟩
 obtain ⟨β2,h4⟩:=h3.wk (uH.bf ah) h1
 exact hq _ _ _ ⟨st2,β2,h2,h4⟩
theorem Ex.pre {P:Program} {ah:Hp} {c:Code} {st o7:St} {r:aU} {m:uH} (Hc:m.Ok ah) (ks:List Wk) (hk:qh m ks st=some o7) (h:Ex P ah c o7 r):Ex P ah c st r:=by
 intro W β₀ R Q hs hq β a w hr
 obtain ⟨β2,h4⟩:=hr.wk Hc hk
 exact h W β₀ R Q hs hq β2 a w h4
def End.wk (m:uH) (ks:List Wk):End→End
 | .leaf v hp=>match qh m ks ⟨[v],hp⟩ with
  |some ⟨[v'],dX⟩=> .leaf v' dX
  |_=> .fail
 | .ite b x y=> .ite b (x.wk m ks) (y.wk m ks)
 | .need p x=> .need p (x.wk m ks)
 | .fail=> .fail
theorem mj {m:uH} {ks:List Wk} {R:LV→Hp→Prop}: ∀ {r:End},(r.wk m ks).sat R→r.sat fun v hp=> ∃ v' dX,qh m ks ⟨[v],hp⟩=some ⟨[v'],dX⟩∧R v' dX
 | .leaf v hp,h=>by
  simp only[End.wk] at h
  split at h
  ·rename_i v' dX h1;exact ⟨v',dX,h1,h⟩
  ·exact h.elim
 | .ite b x y,h=>⟨fun e=>mj (h.1 e),fun e=>mj (h.2 e)⟩
 | .need p x,h=>⟨h.1,mj h.2⟩
 | .fail,h=>h
theorem jJ.wk {P:Program} {f:FuncId} {args:List LV} {hp:Hp} {t:End} (ks:List Wk) (h:jJ P f args hp t):jJ P f args hp (t.wk (.of hp) ks):=by
 intro R hs β w vals hh dc
 refine (h _ (mj hs) β w vals hh dc).mono ?_
 rintro e w' ⟨val,β',r,dX,rfl,⟨v',hp2,h1,h2⟩,hd,hr⟩
 obtain ⟨β2,h3⟩:=UM (uH.bf hp) ks h1 (vals:= [val]) ⟨.cons hd .nil,hr⟩
 obtain ⟨h4,h5⟩:=h3
 cases h4 with
 |cons h6 _=>exact ⟨val,β2,v',hp2,rfl,h2,h6,h5⟩
end Go.Ev
end
section
set_option linter.unusedVariables false
set_option linter.unusedSimpArgs false
namespace Go.Ev
open Go
theorem Ex.fI {P:Program} {m:Hp} {c:Code} {X:Type} (μ:X→Nat) (S:X→St) (I:X→Prop) (rnd F:X→aU) (h: ∀ x,I x→Ex P m c (S x) (rnd x))
  (hr: ∀ x R,I x→(F x).sat R→(rnd x).sat fun e s=>(e= .normal∧ ∃ y,s=S y∧I y∧μ y<μ x∧(F y).sat R)∨(e≠ .normal∧R e s)) {x:X} (hx:I x):Ex P m (.loop c) (S x) (F x):=by
 intro W β₀ R Q hs hq β a w Uy
 have key: ∀ (n:Nat) (y:X),I y→μ y<n→(F y).sat R→ ∀ β a w,Rel W m β₀ β (S y) a w→Code.rounds P c Q n a w:=by
  intro n
  induction n with
  |zero=>intro y _ h0;omega
  |succ n ih=>
   intro y hy hn hF β a w o6
   rw[rounds_succ]
   refine h y hy W β₀ _ _ (hr y R hy hF) ?_ β a w o6
   rintro e a w ⟨t,β',h1,h2⟩
   rcases h1 with ⟨rfl,z,rfl,hz,fD,hF'⟩|⟨fR,h1⟩
   ·exact ih z hz (by omega) hF' β' a w h2
   ·cases e with
    |normal=>exact absurd rfl fR
    |exit _=>exact hq _ _ _ ⟨t,β',h1,h2⟩
    |goto _=>exact hq _ _ _ ⟨t,β',h1,h2⟩
    |ret=>exact hq _ _ _ ⟨t,β',h1,h2⟩
    |panic _=>exact hq _ _ _ ⟨t,β',h1,h2⟩
    |outgrown=>exact hq _ _ _ ⟨t,β',h1,h2⟩
 exact wp_loop_rounds (μ x+1) (key _ x hx (Nat.lt_succ_self _) hs β a w Uy)
theorem Ex.need {P:Program} {m:Hp} {c:Code} {st:St} {p:Prop} {r:aU} (h:p→Ex P m c st r):Ex P m c st (.need p r):=
 fun W β₀ R Q hs hq β a w hr=>h hs.1 W β₀ R Q hs.2 hq β a w hr
def aJ (fn:Func):Code:=fn.body.getD .skip
def fF (c:Code) (id:Nat):List Code:=(Bo c).filterMap fun p=>if p.1=id then some p.2 else none
def aW (fn:Func) (id:Nat):Code:=match fF (aJ fn) id with
 | [.loop b]=>b
 |_=> .ret
def kL:List Code→Bool
 | [.loop _]=>true
 |_=>false
theorem u7 {fn:Func} {id:Nat} (h:kL (fF (aJ fn) id)=true):fF (aJ fn) id= [.loop (aW fn id)]:=by
 unfold aW
 generalize fF (aJ fn) id=l at*
 unfold kL at h
 split at h
 ·rfl
 ·cases h
theorem BV {LT:fk} {id:Nat} {f:St→aU} (h:BO LT id=some f):(id,f)∈LT:=by
 induction LT with
 |nil=>cases h
 |cons p l ih=>
  obtain ⟨i,g⟩:=p
  simp only[BO] at h
  split at h
  ·rename_i e;subst e;cases h;simp
  ·exact List.mem_cons_of_mem _ (ih h)
theorem aQ.cO {P:Program} {m:Hp} {LT:fk} {fn:Func} (h: ∀ p∈LT,kL (fF (aJ fn) p.1)=true∧ ∀ st,Ex P m (.loop (aW fn p.1)) st (p.2 st)):aQ P m LT (aJ fn):=by
 refine aQ.of fun id f c' hf hm st=>?_
 obtain ⟨h1,h2⟩:=h _ (BV hf)
 have:c'∈fF (aJ fn) id:=List.mem_filterMap.2 ⟨(id,c'),hm,by simp⟩
 rw[u7 h1] at this
 simp at this;subst this
 exact h2 st
theorem UN {c c':Code} {id:Nat} (h:(id,c')∈Bo c): ∀ p∈Bo c',p∈Bo c:=by
 induction c with
 |seq a b Uv Uw=>
  rcases List.mem_append.1 h with h|h
  ·exact fun p hp=>List.mem_append_left _ (Uv h p hp)
  ·exact fun p hp=>List.mem_append_right _ (Uw h p hp)
 |cond _ a b Uv Uw=>
  rcases List.mem_append.1 h with h|h
  ·exact fun p hp=>List.mem_append_left _ (Uv h p hp)
  ·exact fun p hp=>List.mem_append_right _ (Uw h p hp)
 |block i c ih=>
  rcases List.mem_cons.1 h with h|h
  ·cases h;exact fun p hp=>List.mem_cons_of_mem _ hp
  ·exact fun p hp=>List.mem_cons_of_mem _ (ih h p hp)
 |loop c ih=>exact fun p hp=>ih h p hp
 |scope c ih=>exact fun p hp=>ih h p hp
 |_=>cases h
theorem aQ.inner {P:Program} {m:Hp} {LT:fk} {fn:Func} {i:Nat} (hi:kL (fF (aJ fn) i)=true) (h: ∀ p∈LT,kL (fF (aJ fn) p.1)=true∧ ∀ st,Ex P m (.loop (aW fn p.1)) st (p.2 st)):aQ P m LT (aW fn i):=by
 refine aQ.of fun id f c' hf hm st=>?_
 obtain ⟨h1,h2⟩:=h _ (BV hf)
 have h3:Code.loop (aW fn i)∈fF (aJ fn) i:=by rw[u7 hi];simp
 obtain ⟨⟨j,c2⟩,h4,h5⟩:=List.mem_filterMap.1 h3
 simp only at h5
 split at h5
 ·cases h5
  have:c'∈fF (aJ fn) id:=List.mem_filterMap.2 ⟨(id,c'),UN h4 _ hm,by simp⟩
  rw[u7 h1] at this
  simp at this;subst this
  exact h2 st
 ·cases h5
def dR (P:Program) (tab:List (FuncId×ao)) (LT:fk) (fn:Func) (id:Nat) (hp:Hp) (ws:Exit→List Wk) (st:St):aU:=(exec P (OA tab) fork hp LT (aW fn id) st).wk (.of hp) ws
theorem OF {P:Program} (j9:P.follows .mixedOrders=true) {tab:List (FuncId×ao)} (qc: ∀ p∈tab,p.2.Ok P p.1) {LT:fk} {fn:Func} {id:Nat} {hp:Hp} {ws:Exit→List Wk} {st:St} (hL:aQ P hp LT (aW fn id)):
  Ex P hp (aW fn id) st (dR P tab LT fn id hp ws st):=(Ex.Ov (UI qc) j9 hL rfl).wk ws
def aS (P:Program) (tab:List (FuncId×ao)) (LT:fk) (fn:Func) (args:List LV) (hp:Hp) (ks:List Wk):End:=((exec P (OA tab) fork hp LT (aJ fn) (entry fn args hp)).ends P fn).wk (.of hp) ks
theorem ay {P:Program} (j9:P.follows .mixedOrders=true) {tab:List (FuncId×ao)} (qc: ∀ p∈tab,p.2.Ok P p.1) {f:FuncId} {fn:Func} (hf:P.funcs[f]? =some fn) (hb:fn.body.isSome=true) {LT:fk} {args:List LV} {hp:Hp} {ks:List Wk} (hL:aQ P hp LT (aJ fn)):
  jJ P f args hp (aS P tab LT fn args hp ks):=by
 have j8:fn.body=some (aJ fn):=by
  unfold aJ
  cases h:fn.body with
  |none=>rw[h] at hb;cases hb
  |some c=>rfl
 exact (Ku hf j8 (Ex.Ov (A:=fork) (UI qc) j9 hL rfl)).wk ks
theorem jJ.use {P:Program} {f:FuncId} {args:List LV} {hp:Hp} {t:End} (h:jJ P f args hp t) {V:LV} {D:List (Nat×Item)} (hs:t.sat fun v dX=>v=V∧dX=aE D hp) {Q:LV→List (Nat×Item)→Prop} (hQ:Q V D):
  gq P f args hp fun v dX=> ∃ d,Q v d∧dX=aE d hp:=by
 refine h _ ?_
 have key: ∀ {t:End},(t.sat fun v dX=>v=V∧dX=aE D hp)→t.sat fun v dX=> ∃ d,Q v d∧dX=aE d hp:=by
  intro t
  induction t with
  |leaf v dX=>rintro ⟨rfl,rfl⟩;exact ⟨D,hQ,rfl⟩
  |ite b x y ihx ihy=>exact fun h=>⟨fun e=>ihx (h.1 e),fun e=>ihy (h.2 e)⟩
  |need p x ih=>exact fun h=>⟨h.1,ih h.2⟩
  |fail=>exact fun h=>h
 exact key hs
theorem jJ.anK {P:Program} {f:FuncId} {args:List LV} {hp:Hp} {t:End} (h:jJ P f args hp t) {V:LV} {D:List (Nat×Item)} (hs:t.sat fun v dX=>(∀ β L val,v.den β L val→V.den β L val)∧dX=aE D hp) {Q:LV→List (Nat×Item)→Prop} (hQ:Q V D):
  gq P f args hp fun v dX=> ∃ d,Q v d∧dX=aE d hp:=by
 intro β w vals hh dc
 refine (h _ hs β w vals hh dc).mono ?_
 rintro e w' ⟨val,β',r,dX,rfl,⟨h1,rfl⟩,hd,hr⟩
 exact ⟨val,β',V,_,rfl,⟨D,hQ,rfl⟩,h1 _ _ _ hd,hr⟩
def yJ (l:List SV):List SV:=
 if l.length=32 then G9 0 32 .u8 l else if l.length=8 then G9 0 8 .u64 (G9 0 8 .u8 l) else if l.length=16 then G9 0 16 .u64 l else l
theorem KB {β:Env} {L:Nat→Option Kd} {l:List SV} {vs:List Value} (h:aX β L l vs):aX β L (yJ l) vs:=by
 unfold yJ
 split
 ·exact ly h
 ·split
  ·exact ly (ly h)
  ·split
   ·exact ly h
   ·exact h
def ao.sym (e:ao):ao:=⟨e.tys,fun args hp=>e.run (args.map fun a=>(a.cH SV.symm).onL yJ) (hp.map (Option.map (Item.cH SV.symm)))⟩
theorem UO {β:Env} {L:Nat→Option Kd} {s:SV} {v:Value}:(s.symm).den β L v↔s.den β L v:=by cases s<;>exact Iff.rfl
theorem QN {β:Env} {L:Nat→Option Kd} {s:SV} {vs:List Value}:(s.symm).gW β L vs↔s.gW β L vs:=by cases s<;>exact Iff.rfl
theorem BW {β:Env} {L:Nat→Option Kd}:jt β β L L SV.symm:=⟨UO.2,fun _ _ _=>rfl,fun _ _ _ h=>h⟩
theorem BX {β:Env} {L:Nat→Option Kd}: ∀ {l:List SV} {vs:List Value},aX β L (l.map SV.symm) vs→aX β L l vs
 | [],_,h=>h
 |s::l,_,h=>by
  cases h with
  |cons h1 h2=>exact .cons (QN.1 h1) (BX h2)
theorem QO {β:Env} {L:Nat→Option Kd} {w:World} {i:Nat} {x:Item} (h:eA β L w i (x.cH SV.symm)):eA β L w i x:=by
 cases x with
 |aZ cells e=>obtain ⟨c,fz,h1,h2,h3⟩:=h;exact ⟨c,fz,h1,h2,BX h3⟩
 |_=>exact h
theorem im: ∀ (d:List (Nat×Item)) {hp hp2:Hp} {j:Nat} {x:Item},(∀ (j:Nat) (x:Item),hp[j]? =some (some x)→ ∃ y,hp2[j]? =some (some y)∧(y=x∨y=x.cH SV.symm))→(aE d hp)[j]? =some (some x)→ ∃ y,(aE d hp2)[j]? =some (some y)∧(y=x∨y=x.cH SV.symm)
 | [],_,_,j,x,h,hj=>h j x hj
 |(i,z)::d,hp,hp2,j,x,h,hj=>by
  refine im d (hp:=setAt hp i z) (hp2:=setAt hp2 i z) (fun k y hk=>?_) hj
  by_cases e:k=i
  ·subst e
   rw[cZ] at hk;cases hk
   exact ⟨z,cZ _ _ _,.inl rfl⟩
  ·obtain ⟨y',h1,h2⟩:=h k y ((bY hp i z k y e).1 hk)
   exact ⟨y',(bY hp2 i z k y' e).2 h1,h2⟩
theorem nh: ∀ (d:List (Nat×Item)) {hp hp2:Hp},kd hp=kd hp2→kd (aE d hp)=kd (aE d hp2)
 | [],_,_,h=>h
 |(i,z)::d,hp,hp2,h=>nh d (hp:=setAt hp i z) (hp2:=setAt hp2 i z) (by funext j;rw[cN,cN,h])
theorem ao.Ok.sym {P:Program} {f:FuncId} {e:ao} (he:e.Ok P f):e.sym.Ok P f:=by
 refine ⟨fun args hp Q h β w vals hh dc=>?_⟩
 generalize QM:hp.map (Option.map (Item.cH SV.symm))=hp2
 have hk:kd hp2=kd hp:=by rw[← QM];exact u0 hp
 have hh2:aV w hp2 β β hp2 w:=QM▸(hh.relabel BW).self
 have agl:bB (LV.den β (kd hp2)) (args.map fun a=>(a.cH SV.symm).onL yJ) vals:=by
  rw[hk]
  exact dc.xW fun a b h=>LV.rV (fun _ _=>KB) (BW.lv h)
 have hto: ∀ (j:Nat) (x:Item),hp[j]? =some (some x)→ ∃ y,hp2[j]? =some (some y)∧(y=x∨y=x.cH SV.symm):=by
  intro j x hj
  refine ⟨x.cH SV.symm,?_,.inr rfl⟩
  rw[← QM,List.getElem?_map,hj];rfl
 have hof: ∀ (j:Nat) (y:Item),hp2[j]? =some (some y)→ ∃ x,hp[j]? =some (some x)∧y=x.cH SV.symm:=by
  intro j y hj
  rw[← QM] at hj
  exact yF hj
 have dK:(e.run (args.map fun a=>(a.cH SV.symm).onL yJ) hp2).holds Q:=QM▸h
 refine (he.calls _ _ Q dK β w vals hh2 agl).mono ?_
 rintro en w' ⟨val,β',r,dX,rfl,⟨d,hq,rfl⟩,hd,h'⟩
 have hk2:kd (aE d hp2)=kd (aE d hp):=nh d hk
 refine ⟨val,β',r,aE d hp,rfl,⟨d,hq,rfl⟩,by rw[← hk2];exact hd,?_⟩
 have gI: ∀ {x y:Item} {i b:Nat},(y=x∨y=x.cH SV.symm)→(bU β' y i b↔bU β' x i b):=by
  rintro x y i b (rfl|rfl)
  ·exact Iff.rfl
  ·exact bU.cH rfl rfl
 refine ⟨fun j x hj=>?_,fun i j x y b hi hj h1 h2=>?_,?_,fun i x b hi ho=>?_,h'.os,h'.output,h'.size,fun b hb rD=>?_,fun pm v t l hr=>?_,h'.from_⟩
 ·obtain ⟨y,h1,h2⟩:=im d hto hj
  rw[← hk2]
  have:=h'.items j y h1
  rcases h2 with rfl|rfl
  ·exact this
  ·exact QO this
 ·obtain ⟨x',a1,a2⟩:=im d hto hi
  obtain ⟨y',b1,b2⟩:=im d hto hj
  exact h'.inj i j x' y' b a1 b1 ((gI a2).2 h1) ((gI b2).2 h2)
 ·rw[← hk,← hk2];exact h'.first
 ·obtain ⟨x',a1,a2⟩:=im d hto hi
  rcases h'.own i x' b a1 ((gI a2).2 ho) with k|⟨y,k1,k2⟩
  ·exact .inl k
  ·obtain ⟨x0,k3,rfl⟩:=hof i y k1
   exact .inr ⟨x0,k3,(bU.cH rfl rfl).1 k2⟩
 ·refine h'.aq b hb fun ⟨j,y,h1,h2⟩=>rD ?_
  obtain ⟨x0,k3,rfl⟩:=hof j y h1
  exact ⟨j,x0,k3,(bU.cH rfl rfl).1 h2⟩
 ·obtain ⟨h1,h2⟩:=h'.reads pm v t l hr
  refine ⟨h1,fun b hb=>⟨(h2 b hb).1,fun ⟨j,x,hj,ho⟩=>(h2 b hb).2 ?_⟩⟩
  obtain ⟨y,k1,k2⟩:=im d hto hj
  exact ⟨j,y,k1,(gI k2).2 ho⟩
end Go.Ev
end
section
set_option linter.unusedVariables false
set_option linter.unusedSimpArgs false
namespace Go.Ev
open Go
structure ba (T X:Type) where
 rd:T→Option X
 wr:X→T
 ok: ∀ {t x},rd t=some x→t=wr x
def ba.qk {T X Y:Type} (c:ba T X) (f:X→Y) (g:Y→X) (h: ∀ x,g (f x)=x):ba T Y where
 rd t:=(c.rd t).map f
 wr y:=c.wr (g y)
 ok:=by
  intro t y hy
  obtain ⟨x,hx,rfl⟩:=map_some hy
  rw[h];exact c.ok hx
def ax (k:IntKind):ba SV Int where
 rd s:=match s with
  | .int k' (.sym n)=>if k'=k then some n else none
  |_=>none
 wr n:= .int k (.sym n)
 ok:=by
  intro s x h
  split at h
  ·split at h
   ·rename_i e;subst e;cases h;rfl
   ·cases h
  ·cases h
def OG:ba SV Bool where
 rd s:=match s with
  | .bool (.sym b)=>some b
  |_=>none
 wr b:= .bool (.sym b)
 ok:=by
  intro s x h
  split at h
  ·cases h;rfl
  ·cases h
def eS (pm nn:Bool) (t:Ty):ba SV (List t.D) where
 rd s:=match s with
  | .rd j7 nn' t' l=>if h:t'=t then (if j7=pm∧nn'=nn then some (h▸l) else none) else none
  |_=>none
 wr l:= .rd pm nn t l
 ok:=by
  intro s x h
  split at h
  ·split at h
   ·rename_i e;subst e
    split at h
    ·rename_i e;obtain ⟨rfl,rfl⟩:=e;cases h;rfl
    ·cases h
   ·cases h
  ·cases h
def aP (b o:Nat):ba SV Unit where
 rd s:=match s with
  | .ptr b' o'=>if b'=b∧o'=o then some () else none
  |_=>none
 wr _:= .ptr b o
 ok:=by
  intro s x h
  split at h
  ·split at h
   ·rename_i e;obtain ⟨rfl,rfl⟩:=e;rfl
   ·cases h
  ·cases h
def wX (i v:Nat):ba SV Unit where
 rd s:=match s with
  | .sl b' o'=>if b'=i∧o'=v then some () else none
  |_=>none
 wr _:= .sl i v
 ok:=by
  intro s x h
  split at h
  ·split at h
   ·rename_i e;obtain ⟨rfl,rfl⟩:=e;rfl
   ·cases h
  ·cases h
def wY (t:Ty) (n:Nat):ba SV (List t.D) where
 rd s:=match s with
  | .arr t' n' l=>if h:t'=t then (if n'=n then some (h▸l) else none) else none
  |_=>none
 wr l:= .arr t n l
 ok:=by
  intro s x h
  split at h
  ·split at h
   ·rename_i e;subst e
    split at h
    ·rename_i e;subst e;cases h;rfl
    ·cases h
   ·cases h
  ·cases h
section
variable {T X Y Z:Type}
def ag:ba (List T) Unit where
 rd l:=match l with
  | []=>some ()
  |_::_=>none
 wr _:= []
 ok:=by
  intro s x h
  split at h
  ·rfl
  ·cases h
def ae (a:ba T X) (r:ba (List T) Y):ba (List T) (X×Y) where
 rd l:=match l with
  | []=>none
  |x::l=>match a.rd x,r.rd l with
   |some x,some y=>some (x,y)
   |_,_=>none
 wr p:=a.wr p.1::r.wr p.2
 ok:=by
  intro s x h
  split at h
  ·cases h
  ·split at h
   ·rename_i h1 h2;cases h;rw[a.ok h1,r.ok h2]
   ·cases h
def aj (a:ba T Unit) (r:ba (List T) Y):ba (List T) Y where
 rd l:=match l with
  | []=>none
  |x::l=>match a.rd x,r.rd l with
   |some _,some y=>some y
   |_,_=>none
 wr p:=a.wr ()::r.wr p
 ok:=by
  intro s x h
  split at h
  ·cases h
  ·split at h
   ·rename_i h1 h2;cases h;rw[a.ok h1,r.ok h2]
   ·cases h
def UP (a:ba T Unit) (r:ba (List T) Y):Nat→ba (List T) Y
 |0=>r
 |n+1=>aj a (UP a r n)
end
def OH (k:IntKind):List SV→Option (List Int)
 | []=>some []
 | .int k' (.sym n)::l=>if k'=k then (OH k l).map (n:: ·) else none
 |_::_=>none
theorem Hd {k:IntKind}: ∀ {l:List SV} {m:List Int},OH k l=some m→l=m.map fun n=> .int k (.sym n)
 | [],m,h=>by cases h;rfl
 |s::l,m,h=>by
  unfold OH at h
  split at h
  ·rename_i e;cases e
  ·rename_i e;injection e with e1 e2;subst e1 e2
   split at h
   ·rename_i e;subst e
    obtain ⟨m',h1,rfl⟩:=map_some h
    rw[Hd h1];rfl
   ·cases h
  ·cases h
def ajH (k:IntKind) (n:Nat):ba (List SV) (List Int) where
 rd l:=match OH k l with
  |some m=>if l.length=n then some m else none
  |none=>none
 wr l:=(List.range n).map fun i=> .int k (.sym (l.getD i 0))
 ok:=by
  intro s x h
  split at h
  ·rename_i m hm
   split at h
   ·rename_i hn
    cases h
    have:=Hd hm
    subst this
    simp only[List.length_map] at hn
    subst hn
    apply List.ext_getElem?
    intro i
    simp only[List.getElem?_map]
    rcases Nat.lt_or_ge i x.length with h1|h1
    ·rw[List.getElem?_range h1]
     simp[List.getD_eq_getElem?_getD,List.getElem?_eq_getElem h1]
    ·rw[List.getElem?_eq_none h1,List.getElem?_eq_none (by simpa using h1)]
     rfl
   ·cases h
  ·cases h
section
variable {X Y:Type}
def ai (s:ba SV X):ba LV X where
 rd x:=match x with
  | .one (.sc x)=>s.rd x
  |_=>none
 wr x:= .one (.sc (s.wr x))
 ok:=by
  intro x v h
  split at h
  ·rw[s.ok h]
  ·cases h
def Du (r:ba (List SV) X):ba LV X where
 rd x:=match x with
  | .one (.agg x)=>r.rd x
  |_=>none
 wr x:= .one (.agg (r.wr x))
 ok:=by
  intro x v h
  split at h
  ·rw[r.ok h]
  ·cases h
def ajI:ba LV Unit where
 rd x:=match x with
  | .bQ=>some ()
  |_=>none
 wr _:= .bQ
 ok:=by
  intro x v h
  split at h
  ·rfl
  ·cases h
def gX (e:TypeId) (r:ba (List SV) X):ba (Option Item) X where
 rd x:=match x with
  |some (.aZ cells e')=>if e'=e then r.rd cells else none
  |_=>none
 wr x:=some (.aZ (r.wr x) e)
 ok:=by
  intro x v h
  split at h
  ·split at h
   ·rename_i e;subst e;rw[r.ok h]
   ·cases h
  ·cases h
def eE (ver:Nat) (t:Ty):ba (Option Item) (List t.D) where
 rd x:=match x with
  |some (.own ver' t' l)=>if h:t'=t then (if ver'=ver then some (h▸l) else none) else none
  |_=>none
 wr l:=some (.own ver t l)
 ok:=by
  intro x v h
  split at h
  ·split at h
   ·rename_i e;subst e
    split at h
    ·rename_i e;subst e;cases h;rfl
    ·cases h
   ·cases h
  ·cases h
def bG (a:ba (List LV) X) (b:ba Hp Y):ba St (X×Y) where
 rd s:=match a.rd s.fr,b.rd s.hp with
  |some x,some y=>some (x,y)
  |_,_=>none
 wr p:=⟨a.wr p.1,b.wr p.2⟩
 ok:=by
  intro s x h
  split at h
  ·rename_i h1 h2
   cases h
   obtain ⟨fr,hp⟩:=s
   have e1:=a.ok h1
   have e2:=b.ok h2
   simp only at e1 e2
   subst e1 e2
   rfl
  ·cases h
end
abbrev jk (n:Nat) {Y:Type} (r:ba (List LV) Y):ba (List LV) Y:=UP ajI r n
theorem bB.mid {α β:Type} {R:α→β→Prop}: ∀ {x:List α} {a:α} {y:List α} {vs:List β},bB R (x++a::y) vs→ ∃ u v w,vs=u++v::w∧bB R x u∧R a v∧bB R y w
 | [],a,y,_,h=>by
  cases h with
  |cons h t=>exact ⟨[],_,_,rfl,.nil,h,t⟩
 |b::x,a,y,_,h=>by
  cases h with
  |cons h t=>
   obtain ⟨u,v,w,rfl,h1,h2,h3⟩:=bB.mid t
   exact ⟨_::u,v,w,rfl,.cons h h1,h2,h3⟩
theorem gq.abn {P:Program} {f:FuncId} {x y:List LV} {pm:Bool} {t:Ty} {l:List t.D} {hp:Hp} {R:LV→Hp→Prop} (h1:l= []→gq P f (x++ .one (.sc (.gH (.slice none 0 0)))::y) hp R)
  (h2:gq P f (x++ .one (.sc (.rd pm true t l))::y) hp R):gq P f (x++ .one (.sc (.rd pm false t l))::y) hp R:=by
 intro β w vals hh dc
 obtain ⟨u,v,w',rfl,a1,a2,a3⟩:=dc.mid
 obtain ⟨b1,_,b3⟩:=(a2:SV.den β (kd hp) (.rd pm false t l) v)
 obtain ⟨a,n,c,rfl,hn,hc,hz,_⟩:=(hh.afJ b3).1
 cases a with
 |none=>
  have hc0:=hz rfl
  subst hc0
  have Bi:n=0:=by omega
  subst Bi
  exact h1 (List.eq_nil_of_length_eq_zero hn.symm) β w _ hh (a1.append (.cons ⟨b1,rfl⟩ a3))
 |some a=>exact h2 β w _ hh (a1.append (.cons ⟨b1,fun _=>by simp[notNil],b3⟩ a3))
def OI {X:Type} (C:ba St X) (m:uH) (ks:List Wk) (F:X→aU) (st:St):aU:=match qh m ks st with
 |some o7=>match C.rd o7 with
  |some x=>F x
  |none=> .fail
 |none=> .fail
theorem He {P:Program} {hp:Hp} {c:Code} {X:Type} {C:ba St X} {m:uH} (hm:m.Ok hp) {ks:List Wk} {F:X→aU} (h: ∀ x,Ex P hp c (C.wr x) (F x)): ∀ st,Ex P hp c st (OI C m ks F st):=by
 intro st
 unfold OI
 split
 ·rename_i o7 hk
  split
  ·rename_i x hx
   exact Ex.pre hm ks hk (by rw[C.ok hx];exact h x)
  ·exact fun _ _ _ _ hs=>hs.elim
 ·exact fun _ _ _ _ hs=>hs.elim
abbrev fI {X:Type} (C:ba St X) (m:Nat) (ks:List Wk) (F:X→aU) (st:St):aU:=OI C ⟨m,fun _=>false⟩ ks F st
theorem cP {P:Program} {hp:Hp} {c:Code} {X:Type} {C:ba St X} {ks:List Wk} {F:X→aU} (h: ∀ x,Ex P hp c (C.wr x) (F x)): ∀ st,Ex P hp c st (fI C hp.length ks F st):=He (uH.ajF hp) h
abbrev bM {X:Type} (C:ba St X) (hp:Hp) (ks:List Wk) (F:X→aU) (st:St):aU:=OI C (.of hp) ks F st
theorem cz {P:Program} {hp:Hp} {c:Code} {X:Type} {C:ba St X} {ks:List Wk} {F:X→aU} (h: ∀ x,Ex P hp c (C.wr x) (F x)): ∀ st,Ex P hp c st (bM C hp ks F st):=He (uH.bf hp) h
theorem OJ {P:Program} (j9:P.follows .mixedOrders=true) {tab:List (FuncId×ao)} (qc: ∀ p∈tab,p.2.Ok P p.1) {LT:fk} {fn:Func} {id:Nat} {hp:Hp} {ws:Exit→List Wk} (hL:aQ P hp LT (aW fn id))
  {X:Type} (μ:X→Nat) (S:X→St) (I:X→Prop) (F:X→aU) {T:X→aU} (hT: ∀ x,I x→dR P tab LT fn id hp ws (S x)=T x)
  (hr: ∀ x R,I x→(F x).sat R→(T x).sat fun e s=>(e= .normal∧ ∃ y,s=S y∧I y∧μ y<μ x∧(F y).sat R)∨(e≠ .normal∧R e s)) (x:X) (hx:I x):Ex P hp (.loop (aW fn id)) (S x) (F x):=
 Ex.fI μ S I T F (fun x hx=>hT x hx▸OF j9 qc hL) hr hx
theorem aF {P:Program}: ∀ p∈([]:List (FuncId×ao)),p.2.Ok P p.1:=fun _ h=>by cases h
theorem ak {P:Program} {f:FuncId} {e:ao} {l:List (FuncId×ao)} (h:e.Ok P f) (hl: ∀ p∈l,p.2.Ok P p.1): ∀ p∈(f,e)::l,p.2.Ok P p.1:=fun p hp=>by
 rcases List.mem_cons.1 hp with rfl|hp
 ·exact h
 ·exact hl p hp
theorem pc {P:Program} {hp:Hp} {fn:Func}: ∀ p∈([]:fk),kL (fF (aJ fn) p.1)=true∧ ∀ st,Ex P hp (.loop (aW fn p.1)) st (p.2 st):=fun _ h=>by cases h
theorem nx {P:Program} {hp:Hp} {fn:Func} {i:Nat} {f:St→aU} {l:fk} (h1:kL (fF (aJ fn) i)=true) (h2: ∀ st,Ex P hp (.loop (aW fn i)) st (f st))
  (hl: ∀ p∈l,kL (fF (aJ fn) p.1)=true∧ ∀ st,Ex P hp (.loop (aW fn p.1)) st (p.2 st)): ∀ p∈(i,f)::l,kL (fF (aJ fn) p.1)=true∧ ∀ st,Ex P hp (.loop (aW fn p.1)) st (p.2 st):=fun p hp=>by
 rcases List.mem_cons.1 hp with rfl|hp
 ·exact ⟨h1,h2⟩
 ·exact hl p hp
def ao.of {X Y:Type} (tys:List (Option Ty)) (A:ba (List LV) X) (H:ba Hp Y) (out:X→Y→Out):ao:=⟨tys,fun args hp=>match A.rd args,H.rd hp with
 |some x,some y=>out x y
 |_,_=> .fail⟩
theorem ao.bf {P:Program} {f:FuncId} (he:uV P f) {X Y:Type} {tys:List (Option Ty)} {A:ba (List LV) X} {H:ba Hp Y} {out:X→Y→Out}
  (h: ∀ x y Q,(out x y).holds Q→gq P f (A.wr x) (H.wr y) fun v dX=> ∃ d,Q v d∧dX=aE d (H.wr y)):(ao.of tys A H out).Ok P f:=by
 refine ⟨fun args hp Q hq=>?_⟩
 simp only[ao.of] at hq
 split at hq
 ·rename_i x y hx hy
  rw[A.ok hx,H.ok hy]
  exact (h x y Q hq).done he
 ·exact hq.elim
def ao.or (e e':ao):ao:=⟨e.tys,fun args hp=>match e.run args hp with
 | .fail=>e'.run args hp
 |o=>o⟩
theorem ao.Ok.or {P:Program} {f:FuncId} {e e':ao} (h:e.Ok P f) (h':e'.Ok P f):(e.or e').Ok P f:=by
 refine ⟨fun args hp Q hq=>?_⟩
 simp only[ao.or] at hq
 split at hq
 ·exact h'.calls args hp Q hq
 ·exact h.calls args hp Q hq
abbrev ao.bS {X Y:Type} (tys:List (Option Ty)) (A:ba (List LV) X) (H:ba Hp Y) (out:X→Y→Out):ao:=(ao.of tys A H out).sym
end Go.Ev
end
section
set_option linter.unusedVariables false
set_option linter.unusedSimpArgs false
namespace Go.Ev
open Go
theorem QP {l:List Int} {j:Nat} (h:j<l.length):l.drop j=l.getD j 0::l.drop (j+1):=by
 rw[List.drop_eq_getElem_cons h,List.getD_eq_getElem?_getD,List.getElem?_eq_getElem h];rfl
def By (z:Int):Prop:=0≤z∧z<256
def aB (l:List Int):Prop:= ∀ z∈l,By z
theorem aB.take {l:List Int} (h:aB l) (n:Nat):aB (l.take n):=fun z hz=>h z (List.mem_of_mem_take hz)
theorem aB.drop {l:List Int} (h:aB l) (n:Nat):aB (l.drop n):=fun z hz=>h z (List.mem_of_mem_drop hz)
theorem aB.append {l m:List Int} (h:aB l) (h':aB m):aB (l++m):=fun z hz=>by
 rcases List.mem_append.1 hz with k|k
 ·exact h z k
 ·exact h' z k
def upto {σ:Type} (f:Nat→σ→σ):Nat→Nat→σ→σ
 |_,0,s=>s
 |k,m+1,s=>upto f (k+1) m (f k s)
theorem BY {σ:Type} (f:Nat→σ→σ): ∀ (m k:Nat) (s:σ),upto f k (m+1) s=f (k+m) (upto f k m s)
 |0,k,s=>rfl
 |m+1,k,s=>by
  show upto f (k+1) (m+1) (f k s)=_
  rw[BY f m (k+1)]
  show f (k+1+m) (upto f (k+1) m (f k s))=f (k+(m+1)) (upto f (k+1) m (f k s))
  rw[show k+1+m=k+(m+1) from by omega]
theorem lz {σ:Type} {f:Nat→σ→σ} (I:Nat→σ→Prop) {n:Nat} (hI: ∀ k s,k<n→I k s→I (k+1) (f k s)): ∀ (m k:Nat) (s:σ),k+m≤n→I k s→I (k+m) (upto f k m s)
 |0,_,_,_,h=>h
 |m+1,k,s,hn,h=>by
  have:=lz I hI m (k+1) (f k s) (by omega) (hI k s (by omega) h)
  rw[show k+1+m=k+(m+1) from by omega] at this
  exact this
theorem BZ (g:Nat→Int): ∀ (m k:Nat) (o:List Int),o.length=k+m→upto (fun k o=>o.set k (g k)) k m o=o.take k++(List.range m).map fun i=>g (k+i)
 |0,k,o,h=>by simp[upto,List.take_of_length_le (show o.length≤k by omega)]
 |m+1,k,o,h=>by
  show upto (fun k o=>o.set k (g k)) (k+1) m (o.set k (g k))=_
  rw[BZ g m (k+1) _ (by simp;omega),List.range_succ_eq_map,List.map_cons,List.map_map]
  have e:(o.set k (g k)).take (k+1)=o.take k++ [g k]:=by
   rw[List.take_add_one,List.take_set_of_le (Nat.le_refl _)]
   simp[show k<o.length by omega]
  rw[e,List.append_assoc]
  congr 1
  simp only[List.singleton_append,Nat.add_zero]
  congr 1
  apply List.map_congr_left
  intro i _
  show g (k+1+i)=g (k+(i+1))
  congr 1;omega
theorem QQ (g:Nat→Int) {n:Nat} {o:List Int} (h:o.length=n):upto (fun k o=>o.set k (g k)) 0 n o=(List.range n).map g:=by
 rw[BZ g n 0 o (by omega)]
 simp
theorem UQ {l:List Int} {n:Nat} (h:l.length=n):(List.range n).map (fun i=>l.getD i 0)=l:=by
 subst h
 apply List.ext_getElem?
 intro i
 simp only[List.getElem?_map]
 rcases Nat.lt_or_ge i l.length with h1|h1
 ·rw[List.getElem?_range h1]
  simp[List.getD_eq_getElem?_getD,List.getElem?_eq_getElem h1]
 ·rw[List.getElem?_eq_none h1,List.getElem?_eq_none (by simpa using h1)]
  rfl
theorem gL {P:Program} (j9:P.follows .mixedOrders=true) {tab:List (FuncId×ao)} (qc: ∀ p∈tab,p.2.Ok P p.1) {LT:fk} {fn:Func} {id j:Nat} {hp:Hp} {ws:Exit→List Wk} (hL:aQ P hp LT (aW fn id))
  {σ:Type} (n:Nat) (S:Nat→σ→St) (X:σ→St) (f:Nat→σ→σ) (I:Nat→σ→Prop)
  (hT: ∀ k s R,k≤n→I k s→(k<n→R .normal (S (k+1) (f k s)))→(k=n→R (.exit j) (X s))→(dR P tab LT fn id hp ws (S k s)).sat R)
  (hI: ∀ k s,k<n→I k s→I (k+1) (f k s)) (k:Nat) (s:σ) (hk:k≤n) (h:I k s):Ex P hp (.loop (aW fn id)) (S k s) (.leaf (.exit j) (X (upto f k (n-k) s))):=by
 refine OJ (ws:=ws) (T:=fun x=>dR P tab LT fn id hp ws (S x.1 x.2)) j9 qc hL (fun x:Nat×σ=>n-x.1) (fun x=>S x.1 x.2) (fun x=>x.1≤n∧I x.1 x.2) (fun x=> .leaf (.exit j) (X (upto f x.1 (n-x.1) x.2))) (fun x _=>rfl) (fun x R hx hs=>?_) (k,s) ⟨hk,h⟩
 obtain ⟨k,s⟩:=x
 obtain ⟨hk,hi⟩:=hx
 simp only at hk hi hs ⊢
 refine hT k s _ hk hi (fun fD=> .inl ⟨rfl,(k+1,f k s),rfl,⟨fD,hI k s fD hi⟩,by simp only;omega,?_⟩) (fun e=> .inr ⟨by simp,?_⟩)
 ·have e:n-k=(n-(k+1))+1:=by omega
  rw[e] at hs
  exact hs
 ·subst e
  rw[Nat.sub_self] at hs
  exact hs
abbrev KC (k:IntKind) (n:Nat):ba LV (List Int):=(Du (ae (wY (.int k) n) ag)).qk (fun x=>x.1) (fun l=>(l,())) (fun _=>rfl)
abbrev qd (e:TypeId) (k:IntKind) (n:Nat):ba (Option Item) (List Int):=(gX e (ae (wY (.int k) n) ag)).qk (fun x=>x.1) (fun l=>(l,())) (fun _=>rfl)
abbrev UR (e:TypeId) (k:IntKind) (n:Nat):ba (Option Item) (List Int):=gX e (ajH k n)
end Go.Ev
end
section
set_option linter.unusedVariables false
set_option linter.unusedSimpArgs false
namespace Go.Proofs.YtjalaohajcpllaaGreat
open Go Go.Ev
set_option maxRecDepth 100000
theorem mixed:Tryz.prog.follows .mixedOrders=true:=by kernel_rfl
noncomputable abbrev prog:Program:=Tryz.prog
abbrev u8:Ty:= .int .u8
abbrev nI (n:Int):LV:= .one (.sc (.int .i64 (.sym n)))
abbrev nU (n:Int):LV:= .one (.sc (.int .u64 (.sym n)))
abbrev nB (b:Bool):LV:= .one (.sc (.bool (.sym b)))
abbrev bA:ba (List LV) (List Int×Unit):=ae (ai (eS false false u8)) ag
abbrev iq (k:IntKind) (n:Nat) (l:List Int):LV:= .one (.agg [.arr (.int k) n l])
abbrev p0:ba LV Unit:=ai (aP 0 0)
def dA (n:Nat) (l:List (Nat×FM)):List FM:=(List.range n).map fun i=>match l.find? (fun p=>p.1==i) with
 |some p=>p.2
 |none=> .drop
def wsE (n:List Wk) (id:Nat) (x:List Wk):Exit→List Wk
 | .normal=>n
 | .exit i=>if i=id then x else []
 |_=> []
end Go.Proofs.YtjalaohajcpllaaGreat
end
section
set_option linter.unusedVariables false
set_option linter.unusedSimpArgs false
namespace Go.Ev
open Go
theorem wrap_u64 {n:Int} (h0:0≤n) (h1:n<18446744073709551616):IntKind.u64.wrap n=n:=by
 simp only[IntKind.wrap,IntKind.bits,IntKind.signed]
 simp;omega
theorem lA (n:Int):IntKind.u64.wrap n=n%18446744073709551616:=by
 simp only[IntKind.wrap,IntKind.bits,IntKind.signed]
 simp
theorem wrap_u8 (n:Int):IntKind.u8.wrap n=n%256:=by
 simp only[IntKind.wrap,IntKind.bits,IntKind.signed]
 simp
theorem wrap_i64 {n:Int} (h0: -9223372036854775808≤n) (h1:n<9223372036854775808):IntKind.i64.wrap n=n:=by
 simp only[IntKind.wrap,IntKind.bits,IntKind.signed]
 simp
 split<;>omega
theorem toNat_ofInt (n:Nat) (x:Int):(BitVec.ofInt n x).toNat=(x%(2 ^ n:Nat)).toNat:=by simp[BitVec.toNat_ofInt]
theorem yK {n m:Nat} (hm:m≤n) (x:Int):(BitVec.ofInt n x&&& BitVec.ofInt n (2 ^ m-1)).toNat=(x%(2 ^ m:Nat)).toNat:=by
 rw[BitVec.toNat_and,toNat_ofInt,toNat_ofInt]
 have hp:(2:Nat) ^ m≤2 ^ n:=Nat.pow_le_pow_right (by omega) hm
 have ib:0<(2:Nat) ^ m:=Nat.two_pow_pos m
 have e:(((2:Int) ^ m-1)%((2 ^ n:Nat):Int)).toNat=2 ^ m-1:=by
  have:((2:Int) ^ m-1)=((2 ^ m-1:Nat):Int):=by
   rw[Int.natCast_sub (by omega)];simp
  rw[this,← Int.natCast_emod,Int.toNat_natCast,Nat.mod_eq_of_lt (by omega)]
 rw[e,Nat.and_two_pow_sub_one_eq_mod]
 have h1:((x%((2 ^ n:Nat):Int)).toNat%2 ^ m:Nat)=(x%((2 ^ m:Nat):Int)).toNat:=by
  have Bi:0≤x%((2 ^ n:Nat):Int):=Int.emod_nonneg _ (by have:=Nat.two_pow_pos n;omega)
  have Gr:0≤x%((2 ^ m:Nat):Int):=Int.emod_nonneg _ (by omega)
  apply Int.ofNat_inj.1
  rw[Int.natCast_emod,Int.toNat_of_nonneg Bi,Int.toNat_of_nonneg Gr]
  refine Int.emod_emod_of_dvd _ ?_
  exact Int.natCast_dvd_natCast.2 (Nat.pow_dvd_pow 2 hm)
 exact h1
theorem rW {m:Nat} (hm:m<64) (x y:Int) (hy:y=2 ^ m-1):bp .u64 x y=x%(2 ^ m:Nat):=by
 subst hy
 unfold bp
 have:=yK (n:=64) (m:=m) (by omega) x
 show IntKind.u64.wrap ((BitVec.ofInt 64 x&&& BitVec.ofInt 64 (2 ^ m-1)).toNat:Int)=_
 rw[this]
 have Gr:0≤x%((2 ^ m:Nat):Int):=Int.emod_nonneg _ (by have:=Nat.two_pow_pos m;omega)
 rw[Int.toNat_of_nonneg Gr]
 have fD:x%((2 ^ m:Nat):Int)<((2 ^ m:Nat):Int):=Int.emod_lt_of_pos _ (by have:=Nat.two_pow_pos m;omega)
 have hp:(2:Nat) ^ m≤2 ^ 63:=Nat.pow_le_pow_right (by omega) (by omega)
 exact wrap_u64 Gr (by have:(2:Nat) ^ 63=9223372036854775808:=by decide
                       omega)
theorem abo {m:Nat} (hm:m<63) (x y:Int) (hy:y=2 ^ m-1):bp .i64 x y=x%(2 ^ m:Nat):=by
 subst hy
 unfold bp
 have:=yK (n:=64) (m:=m) (by omega) x
 show IntKind.i64.wrap ((BitVec.ofInt 64 x&&& BitVec.ofInt 64 (2 ^ m-1)).toNat:Int)=_
 rw[this]
 have Gr:0≤x%((2 ^ m:Nat):Int):=Int.emod_nonneg _ (by have:=Nat.two_pow_pos m;omega)
 rw[Int.toNat_of_nonneg Gr]
 have fD:x%((2 ^ m:Nat):Int)<((2 ^ m:Nat):Int):=Int.emod_lt_of_pos _ (by have:=Nat.two_pow_pos m;omega)
 have hp:(2:Nat) ^ m≤2 ^ 62:=Nat.pow_le_pow_right (by omega) (by omega)
 exact wrap_i64 (by omega) (by have:(2:Nat) ^ 62=4611686018427387904:=by decide
                               omega)
theorem KD {m:Nat} (hm:m<8) (x y:Int) (hy:y=2 ^ m-1):bp .u8 x y=x%(2 ^ m:Nat):=by
 subst hy
 unfold bp
 have:=yK (n:=8) (m:=m) (by omega) x
 show IntKind.u8.wrap ((BitVec.ofInt 8 x&&& BitVec.ofInt 8 (2 ^ m-1)).toNat:Int)=_
 rw[this]
 have Gr:0≤x%((2 ^ m:Nat):Int):=Int.emod_nonneg _ (by have:=Nat.two_pow_pos m;omega)
 rw[Int.toNat_of_nonneg Gr]
 have fD:x%((2 ^ m:Nat):Int)<((2 ^ m:Nat):Int):=Int.emod_lt_of_pos _ (by have:=Nat.two_pow_pos m;omega)
 have hp:(2:Nat) ^ m≤2 ^ 7:=Nat.pow_le_pow_right (by omega) (by omega)
 rw[wrap_u8]
 exact Int.emod_eq_of_lt Gr (by omega)
theorem eG (k:IntKind) (x:Int) (n:Nat) (hn:n≤k.bits):shr k x n=x/(2 ^ n:Nat):=by
 unfold shr
 rw[Int.toNat_natCast,Nat.min_eq_left hn,Int.fdiv_eq_ediv_of_nonneg]
 ·simp
 ·exact Int.le_of_lt (Int.pow_pos (by omega))
theorem gM (k:IntKind) (x:Int) (n:Nat) (hn:n≤k.bits):shl k x n=k.wrap (x*(2 ^ n:Nat)):=by
 unfold shl
 rw[Int.toNat_natCast,Nat.min_eq_left hn]
 simp
theorem KE {n:Nat} {m:Nat} {x y:Int} (uE:0≤x) (hxn:x<(2 ^ n:Nat)) (hx:x%(2 ^ m:Nat)=0) (yf:0≤y) (hy:y<(2 ^ m:Nat)) (hyn:y<(2 ^ n:Nat)):
  ((BitVec.ofInt n x|||BitVec.ofInt n y).toNat:Int)=x+y:=by
 rw[BitVec.toNat_or,toNat_ofInt,toNat_ofInt,Int.emod_eq_of_lt uE hxn,Int.emod_eq_of_lt yf hyn]
 obtain ⟨a,rfl⟩:=Int.eq_ofNat_of_zero_le uE
 obtain ⟨b,rfl⟩:=Int.eq_ofNat_of_zero_le yf
 simp only[Int.toNat_natCast]
 have hd:a%2 ^ m=0:=by
  have:=hx;rw[← Int.natCast_emod] at this;omega
 have hb:b<2 ^ m:=by omega
 have e:a=2 ^ m*(a/2 ^ m):=(Nat.mul_div_cancel' (Nat.dvd_of_mod_eq_zero hd)).symm
 have:=Nat.two_pow_add_eq_or_of_lt hb (a/2 ^ m)
 rw[← e] at this
 rw[← this];simp
theorem nV {m:Nat} {x y:Int} (uE:0≤x) (hx:x%(2 ^ m:Nat)=0) (yf:0≤y) (hy:y<(2 ^ m:Nat)) (h64:x+y<18446744073709551616):bm .u64 x y=x+y:=by
 unfold bm
 have e:(2 ^ 64:Nat)=18446744073709551616:=by decide
 have h:=KE (n:=64) uE (by omega) hx yf hy (by omega)
 show IntKind.u64.wrap ((BitVec.ofInt 64 x|||BitVec.ofInt 64 y).toNat:Int)=_
 rw[h];exact wrap_u64 (by omega) h64
theorem aeJ {m:Nat} {x y:Int} (uE:0≤x) (hx:x%(2 ^ m:Nat)=0) (yf:0≤y) (hy:y<(2 ^ m:Nat)) (h8:x+y<256):bm .u8 x y=x+y:=by
 unfold bm
 have h:=KE (n:=8) uE (by omega) hx yf hy (by omega)
 show IntKind.u8.wrap ((BitVec.ofInt 8 x|||BitVec.ofInt 8 y).toNat:Int)=_
 rw[h,wrap_u8];omega
theorem iQ (k:IntKind) (x y:Int):bm k x y=bm k y x:=by
 unfold bm;rw[BitVec.or_comm]
theorem ar {n:Int} (h1: -9223372036854775808≤n) (h2:n≤9223372036854775807):IntKind.i64.wrap n=n:=by
 rw[IntKind.wrap_i64];omega
theorem bN {l:List Int} {n:Nat} (h:l.length=n):List.take n (List.drop 0 l)=l:=by rw[List.drop_zero,List.take_of_length_le (by omega)]
theorem jK (k m:Nat) (hk:k<4611686018427387904):IntKind.i64.wrap ((k:Int).tdiv (m:Int))=((k/m:Nat):Int):=by
 rw[Int.tdiv_eq_ediv_of_nonneg (by omega),← Int.natCast_ediv]
 have:k/m≤k:=Nat.div_le_self _ _
 generalize k/m=q at*
 exact ar (by omega) (by omega)
theorem rX (k j:Nat) (h:j≤k) (hk:k<4611686018427387904):IntKind.i64.wrap ((k:Int)-(j:Int))=((k-j:Nat):Int):=by rw[ar (by omega) (by omega)];omega
theorem dS (k:Nat) (hk:k<4611686018427387904):IntKind.i64.wrap ((k:Int)+1)=((k+1:Nat):Int):=by rw[ar (by omega) (by omega)];rfl
end Go.Ev
end
section
set_option linter.unusedVariables false
set_option linter.unusedSimpArgs false
namespace Go.Proofs.YtjalaohajcpllaaGreat
open Go Go.Ev Go.ChangeShapes Go.WideShapes Go.ChangeAt Go.RowKit
set_option maxRecDepth 100000
theorem yL:ownKnob Tryz.prog.godebug=none:=by kernel_rfl
theorem US:laidOutB Tryz.prog=true:=by kernel_rfl
theorem KF:mapsRowed Tryz.prog=true:=by kernel_rfl
theorem Hf: ∀ t e,t<Tryz.prog.types.size→Tryz.prog.underlying t=some (.slice e)→0<Tryz.prog.cellsOf e:=slices_full_of Tryz.prog (by kernel_rfl)
structure Kept (W W':World):Prop where
 os:W'.os=W.os
 output:W'.output=W.output
 size:W.heap.size≤W'.heap.size
 block: ∀ b,b<W.heap.size→W'.heap[b]? =W.heap[b]?
theorem Kept.same {W W':World} (h:Kept W W') {p:MemPlace} (hp:p.block<W.heap.size):W.sameAt W' p:=by
 cases p with
 |cell b o=>exact World.cell?_of_block (w:=W) (h.block b hp)
 |map b=>exact h.block b hp
theorem Kept.but {W W':World} (h:Kept W W') (may:MemPlace→Prop):W.keptBut W' may:=by
 refine ⟨h.os,h.output,fun i hi=>?_⟩
 rw[h.block i hi]
 split<;>simp_all
theorem rY {H:Type} {enc:TypeId×Value→H} {W W':World} (hk:Kept W W'): ∀ {ts:List TypeId} {vs:List Value} {ds:List (DataW H)} {ps:List MemPlace},(∀ t∈ts,t<Tryz.prog.types.size)→
  DataW.TrodAll enc Tryz.prog W 0 (fun _=>true) true ts vs ds ps→(∀ p∈ps,p.block<W.heap.size)→DataW.TrodAll enc Tryz.prog W' 0 (fun b=>decide (b<W.heap.size)) true ts vs ds ps
 | [],[],[],_,_,h,_=>h
 |t::_,_::_,_::_,_,hT,⟨p,q,⟨n,h1⟩,h2,e⟩,hs=>by
  have hp: ∀ x∈p,x.block<W.heap.size:=fun x hx=>hs x (by rw[e];exact List.mem_append_left _ hx)
  have hz: ∀ {t e:TypeId},t<Tryz.prog.types.size→Tryz.prog.underlying t=some (.slice e)→0<Tryz.prog.cellsOf e:=fun {t e} a b=>Hf t e a b
  refine ⟨p,q,⟨n,?_⟩,rY hk (fun t ht=>hT t (List.mem_cons.2 (Or.inr ht))) h2 (fun x hx=>hs x (by rw[e];exact List.mem_append_right _ hx)),e⟩
  exact DataW.trod_stays (T:=fun t=>t<Tryz.prog.types.size) (kids_rows US KF) hz (fun h=>by cases h) (hT t (List.mem_cons.2 (Or.inl rfl))) h1 (fun x hx=>hk.same (hp x hx)) (fun x hx=>by simpa using hp x hx)
 | [],_::_,_,_,_,h,_=>h.elim
 | [],[],_::_,_,_,h,_=>h.elim
 |_::_,[],_,_,_,h,_=>h.elim
 |_::_,_::_,[],_,_,h,_=>h.elim
theorem yM {H:Type} {enc:TypeId×Value→H} {fn:Func} {s:ChangeSpec} {W W':World} {args:Array Value} {ds gs:List (DataW H)} {before:List MemPlace} {tb:TypeId} {apart:Bool}
  (hr:fn.resultTypes= #[tb]) (hb:Tryz.prog.underlying tb=some .bool) (hT: ∀ t∈fn.params.toList,t<Tryz.prog.types.size)
  (hW:DataW.Whole enc Tryz.prog fn.params.toList s.vars apart W args.toList ds gs before) (hv:s.vars= []) (hs:s.fn H ds= {results:= [.lit (.bool true)],args:=ds})
  (hk:Kept W W'):s.post enc Tryz.prog fn apart true false false W args (.bool true) W':=by
 have fD:=hW.lt
 have hW':=hW
 obtain ⟨p,q,h1,h2,h3,h4,h5⟩:=hW
 rw[hv] at h2
 obtain ⟨rfl,rfl⟩:=trodVars_none h2
 rw[List.append_nil] at h3
 subst h3
 have e:s.fn H (ds++ [])= {results:= [.lit (.bool true)],args:=ds}:=by rw[List.append_nil];exact hs
 refine ⟨ds,[],before,[],before,[],hW',?_,?_,?_,hk.but _,fun h=>by cases h⟩
 ·rw[e,hr]
  exact trodAll_cons_mk (shut_bool hb true) trodAll_mk0
 ·rw[e]
  exact rY hk hT h1 fD
 ·rw[hv,e];rfl
def ajJ:Env:=⟨fun _=>0,fun _=> .nilIface,fun _ _ _ _=>False⟩
def u9 (W:World):Env:=⟨fun _=>0,fun _=> .nilIface,fun pm v t l=>pm=false∧0<t.w∧bF ajJ false W v t l⟩
theorem UT (W:World):aV W [] (u9 W) (u9 W) [] W:=by
 refine ⟨fun i x h=>by simp at h,fun i j x y b h=>by simp at h,bD.refl _ _,fun i x b h=>by simp at h,rfl,rfl,Nat.le_refl _,fun _ _ _=>rfl,fun pm v t l h=>?_,fun pm v t l b h1 h2=> .inr ⟨pm,v,t,l,id,h1,h2⟩⟩
 obtain ⟨rfl,hw,h⟩:=h
 refine ⟨h.mono (β':=u9 W) (fun _ _ _ _ (h:False)=>h.elim),fun b hb=>⟨?_,fun ⟨i,x,hi,_⟩=>by simp at hi⟩⟩
 obtain ⟨a,n,c,rfl,hn,hc,_,hr⟩:=h
 cases a with
 |none=>exact hb.elim
 |some a=>
  obtain ⟨h0,rfl⟩:=hb
  obtain ⟨a0,eQ,e,h1,h2,h3⟩:=hr h0
  cases e
  refine h3.lt fun e=>?_
  have h4:=a8 h2
  rw[e,← hn] at h4
  have:=Nat.mul_pos h0 hw
  simp at h4
  omega
theorem mm {f:FuncId} {e:ao} (anM:uV Tryz.prog f) (he:e.Ok Tryz.prog f) {args:List LV} {q:Option Prop} (dK:e.run args []= .leaf q (nB true) []) (hq:ef q) (W:World) {vals:Array Value} (hd:bB (LV.den (u9 W) (kd [])) args vals.toList):
  Calls Tryz.prog f vals W fun e W'=>e= .returned (.bool true)∧Kept W W':=by
 have key:=he.calls args [] (fun v d=>v=nB true∧d= []) (by rw[dK];exact ⟨hq,rfl,rfl⟩) (u9 W) W vals.toList (UT W) hd
 rw[show vals.toList.toArray=vals from by simp] at key
 have key:=key.resolve_left (by rintro ⟨val,h1,_⟩;rw[anM] at h1;cases h1) |>.2
 refine key.mono ?_
 rintro e W' ⟨val,β',r,dX,rfl,⟨d,⟨rfl,rfl⟩,rfl⟩,h3,h4⟩
 have:val= .bool true:=h3
 subst this
 exact ⟨rfl,h4.os,h4.output,h4.size,fun b hb=>h4.aq b hb fun ⟨i,x,hi,_⟩=>by simp at hi⟩
theorem vf {fn:Func} (h:(fn.params.toList.all fun t=>decide (t<Tryz.prog.types.size))=true): ∀ t∈fn.params.toList,t<Tryz.prog.types.size:=fun t ht=>by
 simpa using List.all_eq_true.1 h t ht
inductive Bt where
 |int (k:IntKind)
 |bool
def Bt.fits:Bt→Value→Prop
 | .int k,v=> ∃ z,v= .int k z∧(Lit.int k z).wf=true
 | .bool,v=> ∃ b,v= .bool b
def rZ (P:Program):Nat→TypeId→Option (List Bt)
 |0,_=>none
 |n+1,t=>match P.underlying t with
  |some .bool=>some [.bool]
  |some (.int k)=>some [.int k]
  |some (.struct fs)=>(fs.toList.foldl (fun acc f=>match acc with
    |some l=>if f.offset=l.length then match rZ P n f.type with
      |some m=>if m.length=P.cellsOf f.type then some (l++m) else none
      |none=>none
     else none
    |none=>none) (some [])).bind fun l=>if l.length=P.cellsOf t then some l else none
  |some (.array k e)=>match rZ P n e with
    |some m=>if m.length=P.cellsOf e∧P.cellsOf t=k*m.length then some ((List.replicate k m).flatten) else none
    |none=>none
  |_=>none
section
variable {H:Type} {enc:TypeId×Value→H} {P:Program} {w:World} {base:Nat} {spare:Nat→Bool} {held:Bool}
theorem pd: ∀ (n:Nat) {t:TypeId} {ks:List Bt},rZ P n t=some ks→ ∀ {fuel:Nat} {cs:List Value} {x:DataW H×List MemPlace},DataW.trod enc P w base spare held fuel t cs=some x→bB Bt.fits ks cs
 |0,_,_,h,_,_,_,_=>by cases h
 |n+1,t,ks,h,fuel,cs,x,hx=>by
  simp only[rZ] at h
  cases hu:P.underlying t with
  |none=>rw[hu] at h;cases h
  |some d=>
   rw[hu] at h
   cases d with
   |bool=>
    cases h
    cases fuel with
    |zero=>simp[DataW.trod] at hx
    |succ m=>
     unfold DataW.trod at hx
     rw[hu] at hx
     split at hx<;>simp_all
     exact .cons ⟨_,rfl⟩ .nil
   |int k=>
    cases h
    cases fuel with
    |zero=>simp[DataW.trod] at hx
    |succ m=>
     unfold DataW.trod at hx
     rw[hu] at hx
     split at hx<;>simp_all
     obtain ⟨⟨rfl,hz⟩,_⟩:=hx
     exact .cons ⟨_,rfl,hz⟩ .nil
   |struct fs=>
    obtain ⟨xs,m,_,_,hl,hlen,hf⟩:=DataW.trod_struct hu hx
    obtain ⟨l,hl1,hl2⟩:=Option.bind_eq_some_iff.1 h
    split at hl2
    ·rename_i hle
     cases hl2
     have hfs: ∀ f∈fs.toList,∃ y,DataW.trod enc P w base spare held m f.type ((cs.drop f.offset).take (P.cellsOf f.type))=some y:=by
      intro f hfm
      obtain ⟨i,hi,rfl⟩:=List.getElem_of_mem hfm
      have A8:i<fs.size:=by simpa using hi
      have:=hf i fs[i] (by simp[A8])
      rw[List.getElem?_eq_getElem (by omega)] at this
      exact ⟨_,this⟩
     have key: ∀ (fl:List Field) (acc l:List Bt),(∀ f∈fl,∃ y,DataW.trod enc P w base spare held m f.type ((cs.drop f.offset).take (P.cellsOf f.type))=some y)→
       fl.foldl (fun acc f=>match acc with
        |some l=>if f.offset=l.length then match rZ P n f.type with
          |some m=>if m.length=P.cellsOf f.type then some (l++m) else none
          |none=>none
         else none
        |none=>none) (some acc)=some l→bB Bt.fits acc (cs.take acc.length)→bB Bt.fits l (cs.take l.length):=by
      intro fl
      induction fl with
      |nil=>intro acc l _ h1 h2;simp at h1;subst h1;exact h2
      |cons f fl ih=>
       intro acc l hfs h1 h2
       simp only[List.foldl_cons] at h1
       have jG: ∀ fl:List Field,fl.foldl (fun acc f=>match acc with
        |some l=>if f.offset=l.length then match rZ P n f.type with
          |some m=>if m.length=P.cellsOf f.type then some (l++m) else none
          |none=>none
         else none
        |none=>none) (none:Option (List Bt))=none:=by
        intro fl
        induction fl with
        |nil=>rfl
        |cons f fl ih=>exact ih
       split at h1
       ·rename_i ho
        split at h1
        ·rename_i mk hmk
         split at h1
         ·rename_i hmc
          obtain ⟨y,hy⟩:=hfs f (by simp)
          have hft:=pd n hmk hy
          rw[ho,← hmc] at hft
          refine ih (acc++mk) l (fun f hf=>hfs f (by simp[hf])) h1 ?_
          rw[List.length_append,List.take_add]
          exact h2.append hft
         ·rw[jG] at h1;cases h1
        ·rw[jG] at h1;cases h1
       ·rw[jG] at h1;cases h1
     have:=key fs.toList [] ks hfs hl1 .nil
     rwa [List.take_of_length_le (by omega)] at this
    ·cases hl2
   |array k e=>
    simp only at h
    split at h
    ·rename_i mk hmk
     split at h
     ·rename_i hc
      cases h
      obtain ⟨xs,m,_,_,hl,hlen,hf⟩:=DataW.trod_array hu hx
      have Qv: ∀ i,i<k→bB Bt.fits mk ((cs.drop (i*mk.length)).take mk.length):=by
       intro i hi
       have:=hf i hi
       rw[List.getElem?_eq_getElem (by omega)] at this
       have h2:=pd n hmk this
       rwa [← hc.1] at h2
      have key: ∀ (j:Nat),j≤k→bB Bt.fits (List.replicate j mk).flatten (cs.take (j*mk.length)):=by
       intro j
       induction j with
       |zero=>intro _;simp;exact .nil
       |succ j ih=>
        intro hj
        rw[List.replicate_succ',List.flatten_append,Nat.succ_mul,List.take_add]
        have:=Qv j (by omega)
        exact (ih (by omega)).append (by simpa using this)
      have:=key k (Nat.le_refl _)
      rwa [List.take_of_length_le (by omega)] at this
     ·cases h
    ·cases h
   |_=>cases h
end
theorem Hg {k:IntKind} {β:Env} {pm:Bool}: ∀ (n:Nat) {ks:List Bt} {cs:List Value},bB Bt.fits (List.replicate n (.int k)++ks) cs→
  ∃ (l:List Int) (us rest:List Value),cs=us++rest∧l.length=n∧us=l.map (.int k)∧aO ((Ty.int k).has β pm) l us∧(∀ z∈l,(Lit.int k z).wf=true)∧bB Bt.fits ks rest
 |0,_,cs,h=>⟨[],[],cs,rfl,rfl,rfl,.nil,(fun _ h=>by cases h),h⟩
 |n+1,ks,cs,h=>by
  rw[List.replicate_succ,List.cons_append] at h
  cases h with
  |cons h1 h2=>
   obtain ⟨z,rfl,hz⟩:=h1
   obtain ⟨l,us,rest,rfl,h3,h4,h5,h6,h7⟩:=Hg n h2
   exact ⟨z::l,.int k z::us,rest,rfl,by simp[h3],by rw[h4];rfl,aO.cons (vs:= [.int k z]) rfl h5,(fun y hy=>by
    rcases List.mem_cons.1 hy with rfl|hy
    ·exact hz
    ·exact h6 y hy),h7⟩
theorem wf_u8 {z:Int} (h:(Lit.int .u8 z).wf=true):By z:=by
 have:=bounds_u8 h
 unfold By;omega
theorem UU:Tryz.prog.cellsOf 5=1:=by kernel_rfl
theorem qM {H:Type} {enc:TypeId×Value→H} {W:World} {base:Nat} {v:Value} {d:DataW H} {p:List MemPlace}
  (dY:Value.okWide Tryz.prog W .any base 27 v) (h:DataW.Trod enc Tryz.prog W 0 (fun _=>true) true 27 v d p):
  ∃ l:List Int,aB l∧(LV.one (.sc (.rd false false u8 l))).den (u9 W) (kd []) v:=by
 obtain ⟨fuel,h⟩:=h
 have anO:v.cells.toList= [v]:=by
  unfold Value.okWide at dY
  rw[Tryz.underlying27] at dY
  cases v<;>first|rfl|(exfalso;simp[Cell.okWide,Cell.ok,Tryz.underlying27] at dY)
 rw[anO] at h
 rcases open_ints Tryz.underlying27 Tryz.underlying5 UU h with ⟨e,_⟩|⟨a,len,cap,zs,e,_,hlc,_,hzl,_,Hh,hwf⟩
 ·obtain rfl:v= .slice none 0 0:=by simpa using e
  exact ⟨[],fun z hz=>(by simp at hz),rfl,(fun e=>by cases e),.inr (.inr ⟨rfl,rfl⟩)⟩
 ·obtain rfl:v= .slice (some a) len cap:=by simpa using e
  simp only[if_true] at hzl
  refine ⟨zs.take len,fun z hz=>wf_u8 (hwf z (List.mem_of_mem_take hz)),rfl,(fun e=>by cases e),.inr (.inl ⟨rfl,rfl,by decide,?_⟩)⟩
  refine ⟨some a,len,cap,rfl,by simp;omega,hlc,(fun e=>by cases e),fun h0=>?_⟩
  have Kh:=Hh 0 (by omega)
  have hsp:a.spot=none:=by
   have:a.add 0=a:=by cases a;simp[Addr.add]
   rw[this] at Kh
   exact World.cell?_spot Kh
  refine ⟨a,(zs.take len).map (.int .u8),rfl,hsp,?_,fun i u hu=>?_⟩
  ·generalize zs.take len=l
   induction l with
   |nil=>exact .nil
   |cons x l ih=>exact aO.cons (vs:= [.int .u8 x]) rfl ih
  ·rw[List.getElem?_map] at hu
   obtain ⟨z,hz,rfl⟩:=map_some hu
   have hil:i<len∧i<zs.length:=by
    have:=(List.getElem?_eq_some_iff.1 hz).1
    simp at this;omega
   rw[Hh i hil.2]
   rw[List.getElem?_take,if_pos hil.1] at hz
   rw[List.getD_eq_getElem?_getD,hz];rfl
end Go.Proofs.YtjalaohajcpllaaGreat
end
