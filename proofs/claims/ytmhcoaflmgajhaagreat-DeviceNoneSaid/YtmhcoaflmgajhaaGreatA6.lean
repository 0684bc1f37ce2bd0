/- What the laws lean on, part 6: a reader of code, plain facts, and what each function gives; no conditions. -/
import Derived.KernelRfl
import Derived.Test.YtmhcoaflmgajhaaGreatProg
import Derived.Eval
import Derived.Test.YtmhcoaflmgajhaaGreatRows
import Derived.WalkKit
import Derived.ProofKit
import Derived.OpenShut
import Derived.JoinedCond
import Derived.JoinedOf
import Derived.Handed
import Derived.ReadAgain
import Derived.ChangeStays
import Derived.Deep.Slices
import Derived.Test.YtmhcoaflmgajhaaGreatA5
set_option linter.unusedVariables false
set_option linter.unusedSimpArgs false
noncomputable section
namespace Go.Ev
open Go
open Go.IntKind (i64 signed u32 u64 wrap wrap_u32)
structure EM (W:World) (ag:Hp) (β₀ β:Env) (fr:List LV) (hp:Hp) (vals:List Value) (w:World):Prop where
 fr:bd (LV.den β (kd hp)) fr vals
 heap:aQ W ag β₀ β hp w
noncomputable section
variable {W:World} {ag:Hp} {β₀ β:Env} {hp:Hp} {w:World}
theorem aQ.qt(h:aQ W ag β₀ β hp w){β':Env}{cS:Hp}(g:Nat→Nat)(kG:β'.rd=β.rd)(zZ:bh β₀ β' (kd ag) (kd cS))
  (src:∀ (j:Nat) (y:Item),cS[j]? =some (some y)→∃x,hp[g j]? =some (some x)∧(∀b,bx β' y j b→bx β x (g j) b)∧cV β' (kd cS) w j y∧(g j=j∨kd ag (g j)=none))
  (hg:∀ (j k:Nat) (y z:Item),cS[j]? =some (some y)→cS[k]? =some (some z)→g j=g k→j=k):aQ W ag β₀ β' cS w:=by
 have gR:∀b,dh cS β' b→dh hp β b:=fun b ⟨j,y,hj,ho⟩=>by
  obtain⟨x,h1,h2,_⟩:=src j y hj;exact⟨g j,x,h1,h2 b ho⟩
 refine⟨fun j y hj=>?_,fun j k y z b hj hk h1 h2=>?_,zZ,fun j y b hj ho=>?_,h.os,h.output,h.size,h.ao,fun pm v t l hr=>?_,fun pm v t l b hr hb=>?_⟩
 ·obtain⟨x,_,_,h3,_⟩:=src j y hj;exact h3
 ·obtain⟨x,a1,a2,_⟩:=src j y hj;obtain⟨x',b1,b2,_⟩:=src k z hk;exact hg j k y z hj hk (h.inj _ _ _ _ b a1 b1 (a2 b h1) (b2 b h2))
 ·obtain⟨x,a1,a2,_,a4⟩:=src j y hj;rcases h.own _ _ b a1 (a2 b ho)with k|⟨z,k1,k2⟩
  ·exact .inl k
  ·rcases a4 with e|e
   ·rw[e]at k1 k2;exact .inr ⟨z,k1,k2⟩
   ·rw[bX k1]at e;cases e
 ·rw[kG]at hr;obtain⟨h1,h2⟩:=h.reads pm v t l hr;exact⟨h1.mono fun _ _ _ _ h=>by rw[kG];exact h,fun b hb=>⟨(h2 b hb).1,fun k=>(h2 b hb).2 (gR b k)⟩⟩
 ·rw[kG]at hr;exact h.from_ pm v t l b hr hb
theorem aQ.Tu(h:aQ W ag β₀ β hp w){cS:Hp}(hk:kd cS=kd hp)
  (src:∀ (j:Nat) (y:Item),cS[j]? =some (some y)→∃x,hp[j]? =some (some x)∧(y=x∨∃cells cells' e,x= .aZ cells e∧y= .aZ cells' e∧∀c,aP β (kd hp) cells c→aP β (kd hp) cells' c)):aQ W ag β₀ β cS w:=by
 refine h.qt (fun j=>j) rfl (by rw[hk];exact h.first) (fun j y hj=>?_) fun _ _ _ _ _ _ e=>e;obtain⟨x,h1,h2⟩:=src j y hj;have hx:=h.items j x h1;rw[hk];rcases h2 with rfl|⟨cells,cells',e,rfl,rfl,h3⟩
 ·exact⟨y,h1,fun _ h=>h,hx,.inl rfl⟩
 ·obtain⟨c,fz,k1,k2,k3⟩:=hx;exact⟨_,h1,fun _ h=>h,⟨c,fz,k1,k2,h3 c k3⟩,.inl rfl⟩
def Item.bS(f:SV→SV):Item→Item
 | .aZ cells e=>.aZ (cells.map f) e
 |x=>x
def VV.bS(f:SV→SV):VV→VV
 | .sc s=>.sc (f s)
 | .agg l=>.agg (l.map f)
def LV.bS(f:SV→SV):LV→LV
 | .one x=>.one (x.bS f)
 | .bV l=>.bV (l.map (VV.bS f))
 | .br=>.br
structure fG (β β':Env) (L L':Nat→Option Kd) (f:SV→SV):Prop where
 den:∀ {s:SV} {v:Value},s.den β L v→(f s).den β' L' v
 arr:∀t n l,f (.arr t n l)= .arr t n l
 rd:∀v t l,β.rd true v t l→β'.rd true v t l
theorem fG.eW{β β':Env}{L L':Nat→Option Kd}{f:SV→SV}(h:fG β β' L L' f){s:SV}{vs:List Value}(hd:s.eW β L vs):(f s).eW β' L' vs:=by
 cases s with
 |arr t n l=>rw[h.arr];exact⟨hd.1,hd.2.imp fun _ _=>t.fc h.rd⟩
 |_=>
  obtain⟨v,rfl,h3⟩:=hd;exact SV.lQ (h.den h3)
theorem fG.Yu{β β':Env}{L L':Nat→Option Kd}{f:SV→SV}(h:fG β β' L L' f){l:List SV}{vs:List Value}(hd:aP β L l vs):aP β' L' (l.map f) vs:=by
 induction hd with
 |nil=>exact aF.nil
 |cons h1 _ ih=>exact aF.cons (h.eW h1) ih
theorem fG.vv{β β':Env}{L L':Nat→Option Kd}{f:SV→SV}(h:fG β β' L L' f){s:VV}{v:Value}(hd:s.den β L v):(s.bS f).den β' L' v:=by
 cases s with
 |sc s=>exact h.den hd
 |agg l=>obtain⟨cs,rfl,hd⟩:=hd;exact⟨cs,rfl,h.Yu hd⟩
theorem fG.lv{β β':Env}{L L':Nat→Option Kd}{f:SV→SV}(h:fG β β' L L' f){s:LV}{v:Value}(hd:s.den β L v):(s.bS f).den β' L' v:=by
 cases s with
 |one x=>exact h.vv hd
 |bV l=>
  obtain⟨vs,rfl,hd⟩:=hd;refine⟨vs,rfl,?_⟩
  induction hd with
  |nil=>exact .nil
  |cons h1 _ ih=>exact .cons (h.vv h1) ih
 |br=>trivial
theorem fG.fr{β β':Env}{L L':Nat→Option Kd}{f:SV→SV}(h:fG β β' L L' f){l:List LV}{vs:List Value}(hd:bd (LV.den β L) l vs):bd (LV.den β' L') (l.map (LV.bS f)) vs:=by
 induction hd with
 |nil=>exact .nil
 |cons h1 _ ih=>exact .cons (h.lv h1) ih
theorem fG.item{β β':Env}{L L':Nat→Option Kd}{f:SV→SV}(h:fG β β' L L' f){w:World}{i:Nat}{x:Item}(hb:β'.b i=β.b i)(hh:β'.h i=β.h i)(hd:cV β L w i x):cV β' L' w i (x.bS f):=by
 cases x with
 |aZ cells e=>
  obtain⟨c,fz,h1,h2,h3⟩:=hd;exact⟨c,fz,by rw[hb];exact h1,h2,h.Yu h3⟩
 |own ver t l=>
  show bI β' w (β'.h i) t l;rw[hh];obtain⟨a,n,c,e,h1,h2,h3,h4⟩:=(hd:bI β w (β.h i) t l);refine⟨a,n,c,e,h1,h2,h3,fun h0=>?_⟩;obtain⟨a0,pre,cz,rest,elem,fz,k0,k1,k2,k3,k4,k5⟩:=h4 h0;exact⟨a0,pre,cz,rest,elem,fz,k0,k1,k2,k3,k4.imp fun _ _=>t.fc h.rd,k5⟩
 |gone v=>trivial
theorem Item.CA(f:SV→SV)(x:Item):(x.bS f).kd=x.kd:=by cases x<;>rfl
theorem bx.bS{f:SV→SV}{β β':Env}{x:Item}{i b:Nat}(hb:β'.b i=β.b i)(hh:β'.h i=β.h i):bx β' (x.bS f) i b↔bx β x i b:=by
 cases x<;>simp only[Item.bS,bx,hb,hh]
end
inductive FM where
 |drop
 |ao
 |sym
 |rd (pm:Bool) (t:Ty)
def SV.rdm(pm:Bool)(t:Ty):SV→SV
 | .cQ (.slice none 0 0)=>.rd pm false t []
 | .rd false _ t l=>.rd false false t l
 | .rd true _ t l=>.rd pm false t l
 |s=>s
def SV.symm:SV→SV
 | .int k n=>.int k (.sym n.val)
 | .bool b=>.bool (.sym b.val)
 |s=>s
def SV.Yv:SV→SV
 | .arr t n l=>.arr t n l
 |_=>.br
def SV.fm:FM→SV→SV
 | .ao,s=>s
 | .drop,s=>s.Yv
 | .sym,s=>s.symm
 | .rd pm t,s=>s.rdm pm t
theorem SV.z9{β:Env}{L:Nat→Option Kd}(k:FM){s:SV}{v:Value}(h:s.den β L v):(s.fm k).den β L v:=by
 cases k with
 |ao=>exact h
 |drop=>cases s<;>first|exact h.elim|exact SV.aT h
 |sym=>cases s<;>exact h
 |rd pm t=>
  simp only[SV.fm];unfold SV.rdm
  split
  ·obtain⟨_,rfl⟩:=h;exact⟨rfl,(fun e=>by cases e),.inr (.inr ⟨rfl,rfl⟩)⟩
  ·exact⟨h.1,(fun e=>by cases e),h.2.2⟩
  ·refine⟨h.1,(fun e=>by cases e),?_⟩;rcases h.2.2 with h1|⟨h1,_⟩|h1
   ·exact .inl h1
   ·cases h1
   ·exact .inr (.inr h1)
  ·exact h
theorem mm{β:Env}{L:Nat→Option Kd}(k:FM):fG β β L L (SV.fm k):=⟨SV.z9 k,fun t n l=>by cases k<;>rfl,fun _ _ _ h=>h⟩
def LV.fm:FM→LV→LV
 | .drop,_=>.br
 | .ao,x=>x
 |k,x=>x.bS (SV.fm k)
theorem LV.z9{β:Env}{L:Nat→Option Kd}(k:FM){s:LV}{v:Value}(h:s.den β L v):(s.fm k).den β L v:=by
 cases k with
 |drop=>trivial
 |ao=>exact h
 |sym=>exact(mm .sym).lv h
 |rd pm t=>exact(mm (.rd pm t)).lv h
def Tv:List FM→List LV→List LV
 |k::ks,x::xs=>x.fm k::Tv ks xs
 |_,xs=>xs
theorem xb{β:Env}{L:Nat→Option Kd}:∀ (ks:List FM) {xs:List LV} {vs:List Value},bd (LV.den β L) xs vs→bd (LV.den β L) (Tv ks xs) vs
 | [],_,_,h=>h
 |k::ks,_,_,h=>by
  cases h with
  |nil=>exact .nil
  |cons h t=>exact .cons (LV.z9 k h) (xb ks t)
def Tw:List FM→List SV→List SV
 |k::ks,x::xs=>x.fm k::Tw ks xs
 |_,xs=>xs
theorem xc{β:Env}{L:Nat→Option Kd}:∀ (ks:List FM) {xs:List SV} {vs:List Value},aP β L xs vs→aP β L (Tw ks xs) vs
 | [],_,_,h=>h
 |k::ks,[],_,h=>h
 |k::ks,x::xs,_,h=>by
  cases h with
  |cons h t=>exact .cons ((mm k).eW h) (xc ks t)
def SV.re(i c n:Nat):SV→SV
 | .sl j v=>if j=i then(if v=c then .sl j n else .br)else .sl j v
 | .vw j v w z m=>if j=i then(if v=c then .vw j n w z m else .br)else .vw j v w z m
 | .ep s w z f=>.ep (s.re i c n) w z f
 |s=>s
def SV.mv(i k c:Nat):SV→SV
 | .sl j v=>if j=k then(if v=c then .sl i 1 else .br)else if j=i then .br else .sl j v
 | .vw j v w z m=>if j=k then(if v=c then .vw i 1 w z m else .br)else if j=i then .br else .vw j v w z m
 | .ep s w z f=>.ep (s.mv i k c) w z f
 |s=>s
def SV.Aa(i c:Nat)(t:Ty)(l:List t.D):SV→SV
 | .sl j v=>if j=i then(if v=c then .rd true false t l else .br)else .sl j v
 | .ep s w z f=>.ep (s.Aa i c t l) w z f
 |s=>s
noncomputable section
variable {W:World} {ag:Hp} {β₀ β:Env} {hp:Hp} {w:World}
theorem Ns{i c n:Nat}{L L':Nat→Option Kd}(hi:L i=some (.own c))(oZ:L' i=some (.own n))(ho:∀j,j≠i→L' j=L j):fG β β L L' (SV.re i c n):=by
 have gv:∀ {b},L b=some .aZ→L' b=some .aZ:=fun {b} hb=>by
  rw[ho b fun e=>by subst e;rw[hi]at hb;cases hb];exact hb
 refine⟨fun {s}=>?_,fun _ _ _=>rfl,fun _ _ _ h=>h⟩
 induction s with
 |sl j ver=>
  intro v h;have h1:=SV.aT h;simp only[SV.re]
  split
  ·rename_i e;subst e
   split
   ·rename_i e;subst e;obtain⟨k1,c',k2,k3,k4⟩:=h;rw[hi]at k2;cases k2;exact⟨k1,n,oZ,Nat.le_refl _,fun _=>k4 rfl⟩
   ·exact h1
  ·rename_i e;obtain⟨k1,c',k2,k3,k4⟩:=h;exact⟨k1,c',by rw[ho j e];exact k2,k3,k4⟩
 |vw j ver w z m=>
  intro v h;have h1:=SV.aT h;simp only[SV.re]
  split
  ·rename_i e;subst e
   split
   ·rename_i e;subst e;obtain⟨k1,c',k2,k3,k4⟩:=h;rw[hi]at k2;cases k2;exact⟨k1,n,oZ,Nat.le_refl _,fun _=>k4 rfl⟩
   ·exact h1
  ·rename_i e;obtain⟨k1,c',k2,k3,k4⟩:=h;exact⟨k1,c',by rw[ho j e];exact k2,k3,k4⟩
 |ep s w z f ih=>
  rintro v ⟨a,n,c',h1,h2⟩
  exact⟨a,n,c',ih h1,h2⟩
 |ptr b o=>intro v h;exact⟨gv h.1,h.2⟩
 |Gv g b o=>intro v h;exact⟨gv h.1,h.2⟩
 |nx b base st n z=>intro v h;exact⟨gv h.1,h.2⟩
 |slice b o l c=>intro v h;exact⟨gv h.1,h.2⟩
 |vb b o t m z n=>intro v h;exact⟨gv h.1,h.2⟩
 |_=>intro v h;exact h
theorem Nt{β':Env}{i k c:Nat}{L L':Nat→Option Kd}(hk:L k=some (.own c))(GB:L i≠some .aZ)(oZ:L' i=some (.own 1))(ho:∀j,j≠i→j≠k→L' j=L j)(hb:β'.b=β.b)(hh:∀j,j≠i→β'.h j=β.h j)(Gy:β'.h i=β.h k)(kG:β'.rd=β.rd):
  fG β β' L L' (SV.mv i k c):=by
 have gv:∀ {b},L b=some .aZ→L' b=some .aZ∧β'.b b=β.b b:=fun {b} h=>by
  refine⟨?_,by rw[hb]⟩;rw[ho b (fun e=>by subst e;exact GB h) fun e=>by subst e;rw[hk]at h;cases h];exact h
 have kH:∀pm v t l,β.rd pm v t l→β'.rd pm v t l:=fun _ _ _ _ h=>by rw[kG];exact h
 refine⟨fun {s}=>?_,fun _ _ _=>rfl,fun _ _ _ h=>kH _ _ _ _ h⟩
 induction s with
 |sl j ver=>
  intro v h;have h1:=SV.aT h;simp only[SV.mv]
  split
  ·rename_i e;subst e
   split
   ·rename_i e;subst e;obtain⟨k1,c',k2,k3,k4⟩:=h;rw[hk]at k2;cases k2;exact⟨k1,1,oZ,Nat.le_refl _,fun _=>by rw[Gy];exact k4 rfl⟩
   ·exact h1
  ·rename_i e
   split
   ·exact h1
   ·rename_i e2;obtain⟨k1,c',k2,k3,k4⟩:=h;exact⟨k1,c',by rw[ho j e2 e];exact k2,k3,fun e3=>by rw[hh j e2];exact k4 e3⟩
 |vw j ver w z m=>
  intro v h;have h1:=SV.aT h;simp only[SV.mv]
  split
  ·rename_i e;subst e
   split
   ·rename_i e;subst e;obtain⟨k1,c',k2,k3,k4⟩:=h;rw[hk]at k2;cases k2;exact⟨k1,1,oZ,Nat.le_refl _,fun _=>by rw[Gy];exact k4 rfl⟩
   ·exact h1
  ·rename_i e
   split
   ·exact h1
   ·rename_i e2;obtain⟨k1,c',k2,k3,k4⟩:=h;exact⟨k1,c',by rw[ho j e2 e];exact k2,k3,fun e3=>by rw[hh j e2];exact k4 e3⟩
 |ep s w z f ih=>
  rintro v ⟨a,n,c',h1,h2⟩
  exact⟨a,n,c',ih h1,h2⟩
 |ptr b o=>intro v h;obtain⟨k1,k2⟩:=gv h.1;exact⟨k1,by rw[k2];exact h.2⟩
 |Gv g b o=>intro v h;obtain⟨k1,k2⟩:=gv h.1;exact⟨k1,by rw[k2];exact h.2⟩
 |nx b base st n z=>intro v h;obtain⟨k1,k2⟩:=gv h.1;exact⟨k1,h.2.1,by rw[k2];exact h.2.2⟩
 |slice b o l c=>intro v h;obtain⟨k1,k2⟩:=gv h.1;exact⟨k1,by rw[k2];exact h.2⟩
 |vb b o t m z n=>rintro v ⟨h1,h2⟩;obtain⟨k1,k2⟩:=gv h1;exact⟨k1,by rw[k2];exact h2⟩
 |rd pm nn t l=>rintro v ⟨h1,h2,h3⟩;exact⟨h1,h2,h3.mono kH⟩
 |_=>intro v h;exact h
theorem xd{β':Env}{i c:Nat}{t:Ty}{l:List t.D}{L:Nat→Option Kd}(hi:L i=some (.own c))(hb:β'.b=β.b)(hh:β'.h=β.h)(kG:∀pm v t l,β.rd pm v t l→β'.rd pm v t l)(hr:β'.rd true (β.h i) t l):fG β β' L L (SV.Aa i c t l):=by
 have kH:bh β β' L L:=⟨fun i h=>⟨h,by rw[hb]⟩,fun i c h=>⟨c,h,Nat.le_refl _,fun _=>by rw[hh]⟩,kG⟩;refine⟨fun {s}=>?_,fun _ _ _=>rfl,fun _ _ _ h=>kG _ _ _ _ h⟩
 induction s with
 |sl j ver=>
  intro v h;have h1:=SV.aT h;simp only[SV.Aa]
  split
  ·rename_i e;subst e
   split
   ·rename_i e;subst e;obtain⟨k1,c',k2,k3,k4⟩:=h;rw[hi]at k2;cases k2;have e:=k4 rfl;subst e;exact⟨k1,(fun e=>by cases e),.inl hr⟩
   ·exact h1
  ·exact SV.cM kH h
 |ep s w z f ih=>
  rintro v ⟨a,n,c',h1,h2⟩
  exact⟨a,n,c',ih h1,h2⟩
 |_=>intro v h;exact SV.cM kH h
theorem qu{f:SV→SV}{j:Nat}{y:Item}(hj:(hp.map (Option.map (Item.bS f)))[j]? =some (some y)):∃x,hp[j]? =some (some x)∧y=x.bS f:=by
 rw[List.getElem?_map]at hj;obtain⟨o,h1,h2⟩:=map_some hj
 cases o with
 |none=>cases h2
 |some x=>exact⟨x,h1,by simpa using h2.symm⟩
theorem nQ{f:SV→SV}(hp:Hp):kd (hp.map (Option.map (Item.bS f)))=kd hp:=by
 funext j
 unfold kd;rw[List.getElem?_map]
 cases hp[j]? with
 |none=>rfl
 |some o=>cases o with
  |none=>rfl
  |some x=>simp[Item.CA]
theorem bd.Tx{α β:Type}{R:α→β→Prop}{a:α}:∀ {l:List α} {m:List β} {k:Nat},bd R l m→(∀b,m[k]? =some b→R a b)→bd R (l.set k a) m
 |_,_,_,.nil,_=>.nil
 |_,_,0,.cons h t,hb=>.cons (hb _ rfl) t
 |_,_,k+1,.cons h t,hb=>.cons h (t.Tx fun b hk=>hb b (by simpa using hk))
def CB(k:IntKind):List SV→Option (List Int)
 | []=>some []
 | .int k' n::l=>if k'=k then(CB k l).map (n.val:: ·)else none
 |_::_=>none
theorem xe{β:Env}{L:Nat→Option Kd}{k:IntKind}:∀ {l:List SV} {m:List Int} {vs:List Value},CB k l=some m→aP β L l vs→aF ((Ty.int k).has β true) m vs
 | [],m,vs,h,hd=>by cases h;cases hd;exact .nil
 |s::l,m,vs,h,hd=>by
  unfold CB at h
  split at h
  ·rename_i e;cases e
  ·rename_i e;injection e with e1 e2;subst e1 e2
   split at h
   ·rename_i e;subst e;obtain⟨m',h1,rfl⟩:=map_some h
    cases hd with
    |cons h2 h3=>
     obtain⟨v,rfl,hv⟩:=h2;exact aF.cons (x:=_) (vs:= [v]) (by rw[show v=_ from hv];rfl) (xe h1 h3)
   ·cases h
  ·cases h
def xf(off n:Nat)(k:IntKind)(l:List SV):List SV:=match CB k ((l.drop off).take n)with
 |some m=>if m.length=n then l.take off++ .arr (.int k) n m::(l.drop off).drop n else l
 |none=>l
theorem ir{β:Env}{L:Nat→Option Kd}{off n:Nat}{k:IntKind}{l:List SV}{vs:List Value}(h:aP β L l vs):aP β L (xf off n k l) vs:=by
 unfold xf
 split
 ·rename_i m hm
  split
  ·rename_i hn;have e:l=l.take off++((l.drop off).take n++(l.drop off).drop n):=(by rw[List.take_append_drop,List.take_append_drop]);rw[e]at h;obtain⟨v1,v2,rfl,h1,h2⟩:=aF.split h;obtain⟨v3,v4,rfl,h3,h4⟩:=aF.split h2;exact h1.append (aF.cons (x:=.arr (.int k) n m) ⟨hn,xe hm h3⟩ h4)
  ·exact h
 ·exact h
def SV.cellsIn:SV→List SV
 | .arr (.int k) n m=>if n≤32 then(List.range n).map fun i=>.int k (.sym (m.getD i 0))else [.arr (.int k) n m]
 |s=> [s]
theorem qv:∀ (m:List Int) (k:IntKind),(List.range m.length).map (fun i=>SV.int k (.sym (m.getD i 0)))=m.map fun n=>SV.int k (.sym n):=by
 intro m k
 apply List.ext_getElem?
 intro i;simp only[List.getElem?_map];rcases Nat.lt_or_ge i m.length with h1|h1
 ·rw[List.getElem?_range h1];simp[List.getD_eq_getElem?_getD,List.getElem?_eq_getElem h1]
 ·rw[List.getElem?_eq_none h1,List.getElem?_eq_none (by simpa using h1)];rfl
theorem xg{β:Env}{L:Nat→Option Kd}{k:IntKind}:∀ {m:List Int} {vs:List Value},aF ((Ty.int k).has β true) m vs→aP β L (m.map fun n=>SV.int k (.sym n)) vs
 | [],_,h=>by cases h;exact .nil
 |n::m,_,h=>by
  cases h with
  |cons h1 h2=>
   have S7:_= [Value.int k n]:=h1;subst S7;exact aF.cons (x:=SV.int k (.sym n)) ⟨_,rfl,rfl⟩ (xg h2)
theorem xh{β:Env}{L:Nat→Option Kd}{s:SV}{vs:List Value}(h:s.eW β L vs):aP β L s.cellsIn vs:=by
 unfold SV.cellsIn
 split
 ·rename_i k n m
  split
  ·obtain⟨rfl,h2⟩:=(h:_∧_);rw[qv];exact xg h2
  ·exact aF.one h
 ·exact aF.one h
def Hv(l:List SV):List SV:=l.flatMap SV.cellsIn
theorem sC{β:Env}{L:Nat→Option Kd}{l:List SV}{vs:List Value}(h:aP β L l vs):aP β L (Hv l) vs:=by
 induction h with
 |nil=>exact .nil
 |cons h _ ih=>exact(xh h).append ih
def VV.Nu(f:List SV→List SV):VV→VV
 | .agg l=>.agg (f l)
 |x=>x
theorem VV.mn{β:Env}{L:Nat→Option Kd}{f:List SV→List SV}(hf:∀l vs,aP β L l vs→aP β L (f l) vs){x:VV}{v:Value}(h:x.den β L v):(x.Nu f).den β L v:=by
 cases x with
 |sc s=>exact h
 |agg l=>obtain⟨cs,e,hd⟩:=h;exact⟨cs,e,hf _ _ hd⟩
def LV.Nu(f:List SV→List SV):LV→LV
 | .one x=>.one (x.Nu f)
 | .bV l=>.bV (l.map (VV.Nu f))
 |x=>x
theorem LV.mn{β:Env}{L:Nat→Option Kd}{f:List SV→List SV}(hf:∀l vs,aP β L l vs→aP β L (f l) vs){x:LV}{v:Value}(h:x.den β L v):(x.Nu f).den β L v:=by
 cases x with
 |one x=>exact VV.mn hf h
 |bV l=>obtain⟨vs,e,hd⟩:=h;exact⟨vs,e,hd.pN fun _ _=>VV.mn hf⟩
 |br=>exact h
def tP(f:List SV→List SV)(i:Nat)(fr:List LV):List LV:=match fr[i]? with
 |some x=>fr.set i (x.Nu f)
 |none=>fr
theorem qw{β:Env}{L:Nat→Option Kd}{f:List SV→List SV}(hf:∀l vs,aP β L l vs→aP β L (f l) vs){i:Nat}{fr:List LV}{vs:List Value}(h:bd (LV.den β L) fr vs):bd (LV.den β L) (tP f i fr) vs:=by
 unfold tP
 split
 ·rename_i x hx;refine h.Tx fun b hb=>?_;obtain⟨b',h1,h2⟩:=h.get hx;rw[hb]at h1;cases h1;exact LV.mn hf h2
 ·exact h
inductive Wk where
 |fr (l:List FM)
 |aZ (i:Nat) (l:List FM)
 |mo (k:Nat) (t:Ty)
 |fg (i j:Nat) (t:Ty)
 |Aa (i:Nat)
 |ver (i:Nat)
 |one (i:Nat)
 |move (i j:Nat)
 |slot (b off i:Nat) (t:Ty)
 |cut (ids:List Nat)
 |qx (k:Nat) (t:Ty)
 |Tz (i j:Nat) (t:Ty)
 |auto
 |ba
 |syms
 |oU
 |dx (i off n:Nat) (k:IntKind)
 |gU (i off n:Nat) (k:IntKind)
 |CC (i:Nat)
 |Ra (i:Nat)
def sD:SV→Bool
 | .cQ (.slice none 0 0)=>true
 |_=>false
def Yw:LV→Bool
 | .one (.sc s)=>sD s
 |_=>false
def tQ:List Nat→Bool
 | []=>true
 |x::l=> !l.any (fun y=>decide (y=x))&&tQ l
def Nv(m:Nat)(ids:List Nat)(i:Nat):Option Nat:=if i<m then some i else(eO ids i).map (· +m)
def rV(m:Nat)(ids:List Nat):lk:=⟨Nv m ids,fun _ v=>some v⟩
structure nv where
 n:Nat
 v:Nat→Bool
def nv.of(hp:Hp):nv:=⟨hp.length,fun i=>match aW hp i with|some (.own 0 _ _)=>true|_=>false⟩
structure nv.Ok (m:nv) (ag:Hp):Prop where
 n:m.n=ag.length
 v:∀i,m.v i=true→kd ag i=some (.own 0)
theorem nv.bb(hp:Hp):(nv.of hp).Ok hp:=⟨rfl,fun i h=>by
 simp only[nv.of]at h
 split at h
 ·rename_i hi;rw[bX (an hi)];rfl
 ·cases h⟩
theorem nv.Yx(hp:Hp):(nv.mk hp.length fun _=>false).Ok hp:=⟨rfl,fun _ h=>by cases h⟩
def GC(m:nv):Wk→St→Option St
 | .fr l,st=>some ⟨Tv l st.fr,st.hp⟩
 | .aZ i l,st=>match aW st.hp i with
  |some (.aZ cells e)=>some ⟨st.fr,st.hp.set i (some (.aZ (Tw l cells) e))⟩
  |_=>some st
 | .mo k t,st=>if Yw (st.fr.getD k .br)then some ⟨st.fr.set k (.one (.sc (.sl st.hp.length 0))),setAt st.hp st.hp.length (.own 0 t [])⟩else some st
 | .fg i j t,st=>match aW st.hp i with
  |some (.aZ cells e)=>if sD (cells.getD j .br)then some ⟨st.fr,(setAt st.hp st.hp.length (.own 0 t [])).set i (some (.aZ (cells.set j (.sl st.hp.length 0)) e))⟩else some st
  |_=>some st
 | .Aa i,st=>if m.n≤i then match aW st.hp i with
  |some (.own c t l)=>some ⟨st.fr.map (LV.bS (SV.Aa i c t l)),(st.hp.set i (some (.gone c))).map (Option.map (Item.bS (SV.Aa i c t l)))⟩
  |_=>none else none
 | .ver i,st=>if m.n≤i then match aW st.hp i with
  |some (.own c t l)=>some ⟨st.fr.map (LV.bS (SV.re i c 0)),(st.hp.set i (some (.own 0 t l))).map (Option.map (Item.bS (SV.re i c 0)))⟩
  |_=>none else none
 | .one i,st=>if m.v i then match aW st.hp i with
  |some (.own c t l)=>some ⟨st.fr.map (LV.bS (SV.re i c 1)),(st.hp.set i (some (.own 1 t l))).map (Option.map (Item.bS (SV.re i c 1)))⟩
  |_=>none else none
 | .move i j,st=>if m.v i&&decide (m.n≤j)then match aW st.hp j,aW st.hp i with
  |some (.own c t l),some (.own _ _ _)=>some ⟨st.fr.map (LV.bS (SV.mv i j c)),((st.hp.set i (some (.own 1 t l))).set j none).map (Option.map (Item.bS (SV.mv i j c)))⟩
  |_,_=>none else none
 | .cut ids,st=>if m.n≤st.hp.length&&ids.all (fun i=>decide (m.n≤i))&&tQ ids then
   some ⟨st.fr.map (LV.bm (rV m.n ids)),(st.hp.take m.n++ids.map (fun i=>aW st.hp i)).map (Option.map (Item.bm (rV m.n ids) fun v=>v))⟩else none
 | .dx i off n k,st=>match aW st.hp i with
  |some (.aZ cells e)=>some ⟨st.fr,st.hp.set i (some (.aZ (xf off n k cells) e))⟩
  |_=>some st
 | .gU i off n k,st=>some ⟨tP (xf off n k) i st.fr,st.hp⟩
 | .CC i,st=>match aW st.hp i with
  |some (.aZ cells e)=>some ⟨st.fr,st.hp.set i (some (.aZ (Hv cells) e))⟩
  |_=>some st
 | .Ra i,st=>some ⟨tP Hv i st.fr,st.hp⟩
 | .syms,st=>some ⟨st.fr.map (LV.bS (SV.fm .sym)),st.hp.map (Option.map (Item.bS (SV.fm .sym)))⟩
 | .qx _ _,_| .Tz _ _ _,_| .auto,_| .ba,_| .oU,_| .slot _ _ _ _,_=>none
def wkB(m:nv):List Wk→St→Option St
 | [],st=>some st
 |k::ks,st=>match GC m k st with
  |some ku=>wkB m ks ku
  |none=>none
def Rb:Option Item→Bool
 |some (.own _ _ _)=>true
 |_=>false
def Nw(m:Nat)(st:St):List Nat:=
 match(ln 1000 (st.fr.flatMap LV.refs++(List.range m).filter fun i=>(aW st.hp i).isSome) [] []).val st.hp with
 |some (ids,_)=>ids.filter fun i=>decide (m≤i)
 |none=> []
def wkX(m:nv):Wk→St→List Wk
 | .qx k t,st=>match st.fr.getD k .br with
  | .one (.sc (.sl i _))=> [.Aa i]
  |_=> [.fr (List.replicate k .ao++ [.rd true t])]
 | .Tz i j t,st=>match aW st.hp i with
  |some (.aZ cells _)=>match cells.getD j .br with
   | .sl k _=> [.Aa k]
   |_=> [.aZ i (List.replicate j .ao++ [.rd true t])]
  |_=> []
 | .auto,st=> [.cut (Nw m.n st)]
 | .ba,st=>(List.range st.hp.length).filterMap fun i=>if decide (m.n≤i)&&Rb (aW st.hp i)then some (.ver i)else none
 | .oU,st=>(List.range st.hp.length).filterMap fun i=>if decide (m.n≤i)&&Rb (aW st.hp i)then some (.Aa i)else none
 | .slot b j i t,st=>match aW st.hp b with
  |some (.aZ cells _)=>match cells.getD j .br with
   | .sl k _=>if k=i then [.one i]else [.move i k]
   |_=> [.fg b j t,.move i st.hp.length]
  |_=> []
 |k,_=> [k]
def kP(m:nv):List Wk→St→Option St
 | [],st=>some st
 |k::ks,st=>match wkB m (wkX m k st) st with
  |some ku=>kP m ks ku
  |none=>none
theorem sE{β:Env}{L:Nat→Option Kd}{s:SV}{v:Value}(h:sD s=true)(hd:s.den β L v):v= .slice none 0 0:=by
 unfold sD at h
 split at h
 ·exact hd.2
 ·cases h
theorem sF:∀ {l:List Nat},tQ l=true→l.Nodup
 | [],_=>List.nodup_nil
 |x::l,h=>by
  simp only[tQ,Bool.and_eq_true,Bool.not_eq_true',List.any_eq_false,decide_eq_true_eq]at h;exact List.nodup_cons.2 ⟨fun hm=>h.1 x hm rfl,sF h.2⟩
theorem aQ.relabel(h:aQ W ag β₀ β hp w){f:SV→SV}(hl:fG β β (kd hp) (kd hp) f):aQ W ag β₀ β (hp.map (Option.map (Item.bS f))) w:=by
 refine h.qt (fun j=>j) rfl (by rw[nQ];exact h.first) (fun j y hj=>?_) fun _ _ _ _ _ _ e=>e;obtain⟨x,h1,rfl⟩:=qu hj;exact⟨x,h1,fun b=>(bx.bS rfl rfl).1,by rw[nQ];exact hl.item rfl rfl (h.items j x h1),.inl rfl⟩
theorem aQ.Ab(h:aQ W ag β₀ β hp w)(t:Ty):∃β',aQ W ag β₀ β' (setAt hp hp.length (.own 0 t [])) w∧bh β β' (kd hp) (kd (setAt hp hp.length (.own 0 t [])))∧(SV.sl hp.length 0).den β' (kd (setAt hp hp.length (.own 0 t []))) (.slice none 0 0):=by
 obtain⟨β',h1,h2,h3⟩:=h.jM (id:=hp.length) (du (Nat.le_refl _)) (v:=.slice none 0 0) (ver:=0) (t:=t) (l:= []) (w':=w) (Nat.le_refl _) rfl rfl (fun _ _=>rfl)
  ⟨none,0,0,rfl,rfl,Nat.le_refl _,fun _=>rfl,fun h=>absurd h (by omega)⟩ (fun a n c e=>by simp at e)
 exact⟨β',h1,h2,rfl,0,by rw[bR,if_pos rfl];rfl,Nat.le_refl _,fun _=>h3.symm⟩
theorem Ac{i:Nat}{x y:Item}(hi:hp[i]? =some (some x))(j:Nat):kd (hp.set i (some y)) j=if j=i then some y.kd else kd hp j:=by
 rw[← p4 hi,bR]
theorem tR{i j:Nat}{x y z:Item}(hi:hp[i]? =some (some x))(hj:(hp.set i (some y))[j]? =some (some z)):(j=i∧z=y)∨(j≠i∧hp[j]? =some (some z)):=by
 by_cases e:j=i
 ·subst e;rw[List.getElem?_set_self (List.getElem?_eq_some_iff.1 hi).1]at hj;exact .inl ⟨rfl,by simpa using hj.symm⟩
 ·rw[List.getElem?_set_ne (Ne.symm e)]at hj;exact .inr ⟨e,hj⟩
theorem aQ.tS(h:aQ W ag β₀ β hp w){i:Nat}{cells cells':List SV}{e:TypeId}(hi:hp[i]? =some (some (.aZ cells e)))(hc:∀c,aP β (kd hp) cells c→aP β (kd hp) cells' c):
  aQ W ag β₀ β (hp.set i (some (.aZ cells' e))) w∧kd (hp.set i (some (.aZ cells' e)))=kd hp:=by
 have hk:kd (hp.set i (some (.aZ cells' e)))=kd hp:=by
  funext j
  rw[Ac hi]
  split
  ·rename_i e1;rw[e1,bX hi];rfl
  ·rfl
 refine⟨h.Tu hk fun j y hj=>?_,hk⟩;rcases tR hi hj with⟨rfl,rfl⟩|⟨_,se⟩
 ·exact⟨_,hi,.inr ⟨cells,cells',e,rfl,rfl,hc⟩⟩
 ·exact⟨y,se,.inl rfl⟩
theorem Hw{i:Nat}(h:ag.length≤i){y:Item}:ag[i]? ≠some (some y):=by rw[List.getElem?_eq_none h];simp
theorem oM{β:Env}{L:Nat→Option Kd}{s':SV}:∀ {l:List SV} {cs:List Value} {j:Nat},aP β L l cs→sD (l.getD j .br)=true→s'.den β L (.slice none 0 0)→aP β L (l.set j s') cs
 | [],_,_,h,_,_=>h
 |x::l,_,0,.cons (vs:=vs) h t,hn,hs=>by
  have hn:sD x=true:=hn;have hna:∀t n l,x≠ .arr t n l:=fun _ _ _ e=>by subst e;cases hn
  obtain⟨v,rfl,hv⟩:=SV.eG h hna;have:=sE hn hv;subst this;exact .cons (vs:= [.slice none 0 0]) (SV.lQ hs) t
 |x::l,_,j+1,.cons h t,hn,hs=>.cons h (oM t (by simpa using hn) hs)
theorem TA(h:aQ W ag β₀ β hp w){i c:Nat}{t:Ty}{l:List t.D}(hm:ag.length≤i)(hi:hp[i]? =some (some (.own c t l))):
  ∃β',aQ W ag β₀ β' ((hp.set i (some (.gone c))).map (Option.map (Item.bS (SV.Aa i c t l)))) w∧fG β β' (kd hp) (kd ((hp.set i (some (.gone c))).map (Option.map (Item.bS (SV.Aa i c t l))))) (SV.Aa i c t l):=by
 obtain⟨h1,kH⟩:=h.zE hi (x':=.gone c) (β':=β) (w':=w) rfl (fun _ _=>rfl) rfl (.inr ⟨c,c,rfl,rfl,Nat.le_refl _,fun _=>rfl⟩) (Nat.le_refl _) rfl rfl (fun _ _ _=>rfl) (fun b ho=>ho.elim) (fun _=>trivial)
 have hk:kd (hp.set i (some (.gone c)))=kd hp:=by
  funext j
  rw[Ac hi]
  split
  ·rename_i e1;rw[e1,bX hi];rfl
  ·rfl
 have kI:bI β w (β.h i) t l:=h.items i _ hi
 obtain⟨h2,ael,h3⟩:=h1.jf (pm:=true) (v:=β.h i) (t:=t) (l:=l) kI.reads fun b hb=>by
  have ho:bx β (.own c t l) i b:=tJ kI hb;refine⟨(h.items i _ hi).lt ho,fun⟨j,y,hj,Xl⟩=>?_,.inl ?_⟩
  ·rcases tR hi hj with⟨rfl,rfl⟩|⟨eC,se⟩
   ·exact Xl.elim
   ·exact eC (h.inj j i y _ b se hi Xl ho)
  ·rcases h.own i _ b hi ho with k|⟨y,k,_⟩
   ·exact k
   ·exact absurd k (Hw hm)
 have GB:kd (hp.set i (some (.gone c))) i=some (.own c):=by rw[hk,bX hi];rfl
 have hl:fG (β.jf true (β.h i) t l) (β.jf true (β.h i) t l) (kd (hp.set i (some (.gone c)))) (kd (hp.set i (some (.gone c)))) (SV.Aa i c t l):=xd GB rfl rfl (fun _ _ _ _ h=>h) h3;refine⟨_,h2.relabel hl,?_⟩;rw[nQ,hk];rw[hk]at GB;exact xd GB rfl rfl ael.rd h3
theorem Rc(h:aQ W ag β₀ β hp w){i c n:Nat}{t:Ty}{l:List t.D}(hm:kd ag i=none∨(kd ag i=some (.own 0)∧n=1))(hi:hp[i]? =some (some (.own c t l))):
  aQ W ag β₀ β ((hp.set i (some (.own n t l))).map (Option.map (Item.bS (SV.re i c n)))) w∧fG β β (kd hp) (kd ((hp.set i (some (.own n t l))).map (Option.map (Item.bS (SV.re i c n))))) (SV.re i c n):=by
 have hk:∀j,kd ((hp.set i (some (.own n t l))).map (Option.map (Item.bS (SV.re i c n)))) j=if j=i then some (.own n)else kd hp j:=by
  intro j;rw[nQ,Ac hi];rfl
 have hl:fG β β (kd hp) (kd ((hp.set i (some (.own n t l))).map (Option.map (Item.bS (SV.re i c n))))) (SV.re i c n):=Ns (by rw[bX hi];rfl) (by rw[hk,if_pos rfl]) fun j hj=>by rw[hk,if_neg hj]
 refine⟨h.qt (fun j=>j) rfl ?_ (fun j y hj=>?_) fun _ _ _ _ _ _ e=>e,hl⟩
 ·refine⟨fun j hj=>?_,fun j k hj=>?_,h.first.rd⟩
  ·have eC:j≠i:=fun e=>(by subst e;rcases hm with hm|⟨hm,_⟩<;>(rw[hm]at hj;cases hj));exact⟨by rw[hk,if_neg eC];exact(h.first.aZ j hj).1,(h.first.aZ j hj).2⟩
  ·by_cases e:j=i
   ·subst e;rcases hm with hm|⟨hm,rfl⟩<;>(rw[hm]at hj;cases hj)
    exact⟨1,by rw[hk,if_pos rfl],by omega,fun e=>by omega⟩
   ·rw[hk,if_neg e];exact h.first.own j k hj
 ·obtain⟨x,h1,rfl⟩:=qu hj;rcases tR hi h1 with⟨rfl,rfl⟩|⟨_,S7⟩
  ·exact⟨_,hi,fun b ho=>ho,h.items j _ hi,.inl rfl⟩
  ·exact⟨x,S7,fun b=>(bx.bS rfl rfl).1,hl.item rfl rfl (h.items j x S7),.inl rfl⟩
theorem Nx(h:aQ W ag β₀ β hp w){i k c c':Nat}{t t':Ty}{l:List t.D}{l':List t'.D}(hm:kd ag i=some (.own 0))(hn:ag.length≤k)(hk:hp[k]? =some (some (.own c t l)))(hi:hp[i]? =some (some (.own c' t' l'))):
  ∃β',aQ W ag β₀ β' (((hp.set i (some (.own 1 t l))).set k none).map (Option.map (Item.bS (SV.mv i k c)))) w∧fG β β' (kd hp) (kd (((hp.set i (some (.own 1 t l))).set k none).map (Option.map (Item.bS (SV.mv i k c))))) (SV.mv i k c):=by
 have eC:i≠k:=fun e=>by subst e;rw[du hn]at hm;cases hm
 have Xg:=(List.getElem?_eq_some_iff.1 hi).1;have hkl:=(List.getElem?_eq_some_iff.1 hk).1;generalize EN:((hp.set i (some (.own 1 t l))).set k none).map (Option.map (Item.bS (SV.mv i k c)))=cS
 have hgi:cS[i]? =some (some (.own 1 t l)):=by
  rw[← EN,List.getElem?_map,List.getElem?_set_ne (Ne.symm eC),List.getElem?_set_self Xg];rfl
 have hgk:cS[k]? =some none:=by
  rw[← EN,List.getElem?_map,List.getElem?_set_self (by simpa using hkl)];rfl
 have Nr:∀j,j≠i→j≠k→cS[j]? =(hp[j]?).map (Option.map (Item.bS (SV.mv i k c))):=by
  intro j h1 h2;rw[← EN,List.getElem?_map,List.getElem?_set_ne (Ne.symm h2),List.getElem?_set_ne (Ne.symm h1)]
 have hko:∀j,j≠i→j≠k→kd cS j=kd hp j:=by
  intro j h1 h2;unfold kd;rw[Nr j h1 h2]
  cases hp[j]? with
  |none=>rfl
  |some o=>cases o with
   |none=>rfl
   |some x=>simp[Item.CA]
 have GB:kd cS i=some (.own 1):=by rw[bX hgi];rfl
 let β':Env:=⟨β.b,fun j=>if j=i then β.h k else β.h j,β.rd⟩
 have hl:fG β β' (kd hp) (kd cS) (SV.mv i k c):=Nt (by rw[bX hk];rfl) (by rw[bX hi];intro e;cases e) GB hko rfl (fun j hj=>if_neg hj) (if_pos rfl) rfl
 let g:Nat→Nat:=fun j=>if j=i then k else j
 refine⟨β',h.qt g rfl ⟨fun j hj=>?_,fun j n hj=>?_,h.first.rd⟩ (fun j y hj=>?_) (fun j j' y z hj se e=>?_),hl⟩
 ·have h1:j≠i:=fun e=>by subst e;rw[hm]at hj;cases hj
  have h2:j≠k:=fun e=>by subst e;rw[du hn]at hj;cases hj
  rw[hko j h1 h2];exact h.first.aZ j hj
 ·have h2:j≠k:=fun e=>by subst e;rw[du hn]at hj;cases hj
  by_cases h1:j=i
  ·subst h1;rw[hm]at hj;cases hj;exact⟨1,GB,by omega,fun e=>by omega⟩
  ·obtain⟨n',k1,k2,k3⟩:=h.first.own j n hj;exact⟨n',by rw[hko j h1 h2];exact k1,k2,fun e=>by show(if j=i then _ else _)=_;rw[if_neg h1];exact k3 e⟩
 ·by_cases h1:j=i
  ·subst h1;rw[hgi]at hj;cases hj;refine⟨_,by show hp[if j=j then k else j]? =_;rw[if_pos rfl];exact hk,fun b ho=>?_,?_,.inr ?_⟩
   ·obtain⟨a,n,m,h3,h4,h5⟩:=ho;have Gw:(if j=j then β.h k else β.h j)=_:=h3;rw[if_pos rfl]at Gw;exact⟨a,n,m,by show β.h (if j=j then k else j)=_;rw[if_pos rfl];exact Gw,h4,h5⟩
   ·show bI β' w (if j=j then β.h k else β.h j) t l;rw[if_pos rfl];have kI:bI β w (β.h k) t l:=h.items k _ hk;exact bI.of (β:=β) (β':=β') (w:=w) (w':=w) (fun _ _ _ _ h=>h) kI fun _ _ _ _ _=>rfl
   ·show kd ag (if j=j then k else j)=none;rw[if_pos rfl];exact du hn
  ·by_cases h2:j=k
   ·subst h2;rw[hgk]at hj;cases hj
   ·rw[Nr j h1 h2]at hj;obtain⟨o,h3,h4⟩:=map_some hj
    cases o with
    |none=>cases h4
    |some x=>
     have h4':y=x.bS (SV.mv i k c):=(by simpa using h4.symm);subst h4';have hg:g j=j:=if_neg h1;have hhj:β'.h j=β.h j:=if_neg h1;rw[hg];exact⟨x,h3,fun b=>(bx.bS (β:=β) (β':=β') rfl hhj).1,hl.item rfl hhj (h.items j x h3),.inl rfl⟩
 ·have hnk:∀ {j y},cS[j]? =some (some y)→j≠k:=fun hj e=>by subst e;rw[hgk]at hj;cases hj
  have h1:=hnk hj;have h2:=hnk se;have e':(if j=i then k else j)=(if j'=i then k else j'):=e
  split at e'<;>split at e'
  ·rename_i a b;rw[a,b]
  ·exact absurd e'.symm h2
  ·exact absurd e' h1
  ·exact e'
theorem TB(h:aQ W ag β₀ β hp w){ids:List Nat}(hlen:ag.length≤hp.length)(hm:∀i∈ids,ag.length≤i)(hn:ids.Nodup):
  ∃β',aQ W ag β₀ β' ((hp.take ag.length++ids.map (fun i=>aW hp i)).map (Option.map (Item.bm (rV ag.length ids) fun v=>v))) w∧
   nM (rV ag.length ids) β β' (kd hp) (kd ((hp.take ag.length++ids.map (fun i=>aW hp i)).map (Option.map (Item.bm (rV ag.length ids) fun v=>v)))) false:=by
 generalize hme:ag.length=m at*;generalize EN:(hp.take m++ids.map (fun i=>aW hp i)).map (Option.map (Item.bm (rV m ids) fun v=>v))=cS
 let g:Nat→Nat:=fun j=>if j<m then j else ids.getD (j-m) 0
 have Ny:∀ {j},j<m→g j=j:=fun hj=>if_pos hj
 have Yy:∀ {j i:Nat},m≤j→ids[j-m]? =some i→g j=i:=fun hj hi=>by
  show(if _ then _ else _)=_;rw[if_neg (by omega),dw hi]
 have htl:(hp.take m).length=m:=by simp;omega
 have jz:∀ {j y},cS[j]? =some (some y)→∃x,hp[g j]? =some (some x)∧y=x.bm (rV m ids) (fun v=>v)∧((j<m∧g j=j)∨(m≤j∧ids[j-m]? =some (g j))):=by
  intro j y hj;rw[← EN,List.getElem?_map]at hj;obtain⟨o,h1,h2⟩:=map_some hj
  cases o with
  |none=>cases h2
  |some x=>
   have TC:y=x.bm (rV m ids) fun v=>v:=by simpa using h2.symm
   by_cases EK:j<m
   ·rw[List.getElem?_append_left (by omega),List.getElem?_take,if_pos EK]at h1;exact⟨x,by rw[Ny EK];exact h1,TC,.inl ⟨EK,Ny EK⟩⟩
   ·rw[List.getElem?_append_right (by omega),htl,List.getElem?_map]at h1;obtain⟨i,h3,h4⟩:=map_some h1;have e:=Yy (by omega) h3;exact⟨x,by rw[e];exact an h4,TC,.inr ⟨by omega,by rw[e];exact h3⟩⟩
 have Nz:∀ {i j x},Nv m ids i=some j→hp[i]? =some (some x)→cS[j]? =some (some (x.bm (rV m ids) (fun v=>v)))∧g j=i:=by
  intro i j x hf hi;unfold Nv at hf
  split at hf
  ·rename_i him
   cases hf
   refine⟨?_,Ny him⟩;rw[← EN,List.getElem?_map,List.getElem?_append_left (by omega),List.getElem?_take,if_pos him,hi];rfl
  ·obtain⟨k,hk,rfl⟩:=map_some hf;have h3:=dG hk;refine⟨?_,Yy (by omega) (by rw[show k+m-m=k from by omega];exact h3)⟩;rw[← EN,List.getElem?_map,List.getElem?_append_right (by omega),htl,show k+m-m=k from by omega,List.getElem?_map,h3];show some (Option.map _ (aW hp i))=_;rw[kj hi];rfl
 let β':Env:=⟨fun j=>β.b (g j),fun j=>β.h (g j),β.rd⟩
 have oL:nM (rV m ids) β β' (kd hp) (kd cS) false:=by
  refine⟨fun b j hj hb=>?_,fun i j c hj hi=>?_,fun _ _ _ h=>h,fun _ _ _ _ h=>h⟩
  ·obtain⟨x,h1,h2⟩:=gz hb;obtain⟨h3,h4⟩:=Nz hj h1;exact⟨by rw[bX h3,Item.fF,h2];rfl,congrArg β.b h4⟩
  ·obtain⟨x,h1,h2⟩:=gz hi;obtain⟨h3,h4⟩:=Nz hj h1;exact⟨c,by rw[bX h3,Item.fF,h2];rfl,congrArg β.h h4,fun v v' hv e=>by cases e;exact⟨hv,fun e=>e⟩⟩
 have dE:∀ {i k},kd ag i=some k→i<m:=fun {i k} hi=>by
  rcases Nat.lt_or_ge i m with h1|h1
  ·exact h1
  ·rw[du (by omega)]at hi;cases hi
 have wB:∀ {i},i<m→Nv m ids i=some i:=fun hi=>if_pos hi;refine⟨β',h.qt g rfl ⟨fun i hi=>?_,fun i c hi=>?_,h.first.rd⟩ (fun j y hj=>?_) (fun j k y z hj hk e=>?_),oL⟩
 ·obtain⟨k1,k2⟩:=h.first.aZ i hi;obtain⟨k3,k4⟩:=oL.aZ i i (wB (dE hi)) k1;exact⟨k3,k4.trans k2⟩
 ·obtain⟨c',k1,k2,k3⟩:=h.first.own i c hi;have oZ:i<m:=dE hi;obtain⟨x,h1,h2⟩:=gz k1;obtain⟨h3,h4⟩:=Nz (wB oZ) h1;exact⟨c',by rw[bX h3,Item.fF,h2];rfl,k2,fun e=>(congrArg β.h (Ny oZ)).trans (k3 e)⟩
 ·obtain⟨x,h1,rfl,h2⟩:=jz hj;refine⟨x,h1,fun b=>(bx.bm (β:=β) (β':=β') rfl rfl).1,cV.tI oL (by simp) (fun _=>rfl) (fun _ _=>rfl) (h.items _ x h1),?_⟩;rcases h2 with⟨_,h2⟩|⟨_,h2⟩
  ·exact .inl h2
  ·exact .inr (du (by rw[hme];exact hm _ (List.mem_of_getElem? h2)))
 ·obtain⟨_,_,_,h1⟩:=jz hj;obtain⟨_,_,_,h2⟩:=jz hk;rcases h1 with⟨a1,a2⟩|⟨a1,a2⟩<;>rcases h2 with⟨b1,b2⟩|⟨b1,b2⟩
  ·omega
  ·have:=hm _ (List.mem_of_getElem? b2);omega
  ·have:=hm _ (List.mem_of_getElem? a2);omega
  ·rw[e]at a2;have e1:=fE hn a2;have e2:=fE hn b2;rw[e1]at e2;have:=Option.some.inj e2;omega
theorem TD{m:nv}(zx:m.Ok ag){k:Wk}{st ku:St}(h:GC m k st=some ku){vals:List Value}(hr:EM W ag β₀ β st.fr st.hp vals w):∃β',EM W ag β₀ β' ku.fr ku.hp vals w:=by
 obtain⟨fr,hp⟩:=st
 cases k with
 |fr l=>cases h;exact⟨β,xb l hr.fr,hr.heap⟩
 |aZ i l=>
  simp only[GC]at h
  split at h
  ·rename_i cells e hi
   cases h
   obtain⟨h1,h2⟩:=hr.heap.tS (an hi) fun c=>xc l;exact⟨β,by show bd (LV.den β (kd _)) fr vals;rw[h2];exact hr.fr,h1⟩
  ·cases h;exact⟨β,hr⟩
 |mo k t=>
  simp only[GC]at h
  split at h
  ·rename_i l8
   cases h
   obtain⟨β',h1,h2,h3⟩:=hr.heap.Ab t;refine⟨β',(hr.fr.imp fun _ _=>LV.cM h2).Tx fun b hb=>?_,h1⟩
   have fx:∃x,fr[k]? =some x:=by
    have:fr.length=vals.length:=hr.fr.length;have hk:=(List.getElem?_eq_some_iff.1 hb).1;exact⟨_,List.getElem?_eq_getElem (show k<fr.length by omega)⟩
   obtain⟨x,hx⟩:=fx;obtain⟨b',rQ,hd⟩:=hr.fr.get hx;rw[hb]at rQ;cases rQ;simp only[List.getD_eq_getElem?_getD,hx,Option.getD_some]at l8
   cases x with
   |one x=>cases x with
    |sc s=>
     have:=sE l8 hd;subst this;exact h3
    |agg l=>cases l8
   |bV l=>cases l8
   |br=>cases l8
  ·cases h;exact⟨β,hr⟩
 |fg i j t=>
  simp only[GC]at h
  split at h
  ·rename_i cells e hi
   split at h
   ·rename_i l8
    cases h
    obtain⟨β',h1,h2,h3⟩:=hr.heap.Ab t
    have oZ:(setAt hp hp.length (.own 0 t []))[i]? =some (some (.aZ cells e)):=by
     refine(bz hp _ _ _ _ ?_).2 (an hi);have:=(List.getElem?_eq_some_iff.1 (an hi)).1;omega
    obtain⟨h4,h5⟩:=h1.tS (cells':=cells.set j (.sl hp.length 0)) oZ fun c hc=>oM hc l8 h3;exact⟨β',by show bd (LV.den β' (kd _)) fr vals;rw[h5];exact hr.fr.imp fun _ _=>LV.cM h2,h4⟩
   ·cases h;exact⟨β,hr⟩
  ·cases h;exact⟨β,hr⟩
 |Aa i=>
  simp only[GC]at h
  split at h
  ·rename_i hm
   split at h
   ·rename_i c t l hi
    cases h
    obtain⟨β',h1,h2⟩:=TA hr.heap (zx.n▸hm) (an hi);exact⟨β',h2.fr hr.fr,h1⟩
   ·cases h
  ·cases h
 |ver i=>
  simp only[GC]at h
  split at h
  ·rename_i hm
   split at h
   ·rename_i c t l hi
    cases h
    obtain⟨h1,h2⟩:=Rc (n:=0) hr.heap (.inl (du (zx.n▸hm))) (an hi);exact⟨β,h2.fr hr.fr,h1⟩
   ·cases h
  ·cases h
 |one i=>
  simp only[GC]at h
  split at h
  ·rename_i hm
   split at h
   ·rename_i c t l hi
    cases h
    obtain⟨h1,h2⟩:=Rc (n:=1) hr.heap (.inr ⟨zx.v i hm,rfl⟩) (an hi);exact⟨β,h2.fr hr.fr,h1⟩
   ·cases h
  ·cases h
 |move i j=>
  simp only[GC]at h
  split at h
  ·rename_i hm;simp only[Bool.and_eq_true,decide_eq_true_eq]at hm
   split at h
   ·rename_i c t l c' t' l' hj hi
    cases h
    obtain⟨β',h1,h2⟩:=Nx hr.heap (zx.v i hm.1) (zx.n▸hm.2) (an hj) (an hi);exact⟨β',h2.fr hr.fr,h1⟩
   ·cases h
  ·cases h
 |cut ids=>
  simp only[GC]at h
  split at h
  ·rename_i hc;simp only[Bool.and_eq_true,decide_eq_true_eq,List.all_eq_true]at hc
   cases h
   rw[zx.n]at hc ⊢;obtain⟨β',h1,h2⟩:=TB hr.heap hc.1.1 hc.1.2 (sF hc.2);refine⟨β',?_,h1⟩;have hfr:=hr.fr;show bd (LV.den β' _) (fr.map _) vals;exact hfr.pN fun a b=>LV.dp h2 (by simp)
  ·cases h
 |dx i off n k=>
  simp only[GC]at h
  split at h
  ·rename_i cells e hi
   cases h
   obtain⟨h1,h2⟩:=hr.heap.tS (an hi) fun c=>ir (off:=off) (n:=n) (k:=k);exact⟨β,by show bd (LV.den β (kd _)) fr vals;rw[h2];exact hr.fr,h1⟩
  ·cases h;exact⟨β,hr⟩
 |gU i off n k=>cases h;exact⟨β,qw (fun _ _=>ir) hr.fr,hr.heap⟩
 |CC i=>
  simp only[GC]at h
  split at h
  ·rename_i cells e hi
   cases h
   obtain⟨h1,h2⟩:=hr.heap.tS (an hi) fun c=>sC;exact⟨β,by show bd (LV.den β (kd _)) fr vals;rw[h2];exact hr.fr,h1⟩
  ·cases h;exact⟨β,hr⟩
 |Ra i=>cases h;exact⟨β,qw (fun _ _=>sC) hr.fr,hr.heap⟩
 |syms=>
  cases h
  refine⟨β,?_,hr.heap.relabel (mm .sym)⟩;show bd (LV.den β (kd (hp.map _))) (fr.map _) vals;rw[nQ];exact(mm .sym).fr hr.fr
 |qx k t=>cases h
 |Tz i j t=>cases h
 |auto=>cases h
 |ba=>cases h
 |oU=>cases h
 |slot b o i t=>cases h
theorem Hx{m:nv}(zx:m.Ok ag):∀ (ks:List Wk) {st ku:St} {β:Env},wkB m ks st=some ku→∀ {vals:List Value},EM W ag β₀ β st.fr st.hp vals w→∃β',EM W ag β₀ β' ku.fr ku.hp vals w
 | [],_,_,_,h,_,hr=>by cases h;exact⟨_,hr⟩
 |k::ks,st,_,_,h,_,hr=>by
  simp only[wkB]at h
  split at h
  ·rename_i st1 h1;obtain⟨β1,zr⟩:=TD zx h1 hr;exact Hx zx ks h zr
  ·cases h
theorem Hy{m:nv}(zx:m.Ok ag):∀ (ks:List Wk) {st ku:St} {β:Env},kP m ks st=some ku→∀ {vals:List Value},EM W ag β₀ β st.fr st.hp vals w→∃β',EM W ag β₀ β' ku.fr ku.hp vals w
 | [],_,_,_,h,_,hr=>by cases h;exact⟨_,hr⟩
 |k::ks,st,_,_,h,_,hr=>by
  simp only[kP]at h
  split at h
  ·rename_i st1 h1;obtain⟨β1,zr⟩:=Hx zx _ h1 hr;exact Hy zx ks h zr
  ·cases h
end
def aV.wk(m:nv)(ws:Exit→List Wk):aV→aV
 | .leaf e st=>match kP m (ws e) st with
  |some ku=>.leaf e ku
  |none=>.fail
 | .ite b x y=>.ite b (x.wk m ws) (y.wk m ws)
 | .need p x=>.need p (x.wk m ws)
 | .fail=>.fail
theorem iL{m:nv}{ws:Exit→List Wk}{R:Exit→St→Prop}:∀ {r:aV},(r.wk m ws).sat R→r.sat fun e st=>∃ku,kP m (ws e) st=some ku∧R e ku
 | .leaf e st,h=>by
  simp only[aV.wk]at h
  split at h
  ·rename_i ku h1;exact⟨ku,h1,h⟩
  ·exact h.elim
 | .ite b x y,h=>⟨fun e=>iL (h.1 e),fun e=>iL (h.2 e)⟩
 | .need p x,h=>⟨h.1,iL h.2⟩
 | .fail,h=>h
theorem Rel.wk{W:World}{ag:Hp}{β₀ β:Env}{st ku:St}{a:Act}{w:World}(hr:Rel W ag β₀ β st a w){m:nv}(zx:m.Ok ag){ks:List Wk}(h:kP m ks st=some ku):∃β',Rel W ag β₀ β' ku a w:=by
 obtain⟨β',h1⟩:=Hy zx ks h ⟨hr.fr,hr.heap⟩;exact⟨β',hr.defers,h1.fr,h1.heap⟩
theorem Ex.wk{P:Program}{ag:Hp}{c:Code}{st:St}{r:aV}(ws:Exit→List Wk)(h:Ex P ag c st r):Ex P ag c st (r.wk (.of ag) ws):=by
 intro W β₀ R Q hs hq β a w hr;refine h W β₀ _ Q (iL hs) ?_ β a w hr
 rintro e a w ⟨st1,β1,⟨st2,h1,h2⟩,h3⟩
 obtain⟨β2,h4⟩:=h3.wk (nv.bb ag) h1;exact hq _ _ _ ⟨st2,β2,h2,h4⟩
theorem Ex.pre{P:Program}{ag:Hp}{c:Code}{st ku:St}{r:aV}{m:nv}(zx:m.Ok ag)(ks:List Wk)(hk:kP m ks st=some ku)(h:Ex P ag c ku r):Ex P ag c st r:=by
 intro W β₀ R Q hs hq β a w hr;obtain⟨β2,h4⟩:=hr.wk zx hk;exact h W β₀ R Q hs hq β2 a w h4
def End.wk(m:nv)(ks:List Wk):End→End
 | .leaf v hp=>match kP m ks ⟨[v],hp⟩with
  |some ⟨[v'],cS⟩=>.leaf v' cS
  |_=>.fail
 | .ite b x y=>.ite b (x.wk m ks) (y.wk m ks)
 | .need p x=>.need p (x.wk m ks)
 | .fail=>.fail
theorem iM{m:nv}{ks:List Wk}{R:LV→Hp→Prop}:∀ {r:End},(r.wk m ks).sat R→r.sat fun v hp=>∃v' cS,kP m ks ⟨[v],hp⟩=some ⟨[v'],cS⟩∧R v' cS
 | .leaf v hp,h=>by
  simp only[End.wk]at h
  split at h
  ·rename_i v' cS h1;exact⟨v',cS,h1,h⟩
  ·exact h.elim
 | .ite b x y,h=>⟨fun e=>iM (h.1 e),fun e=>iM (h.2 e)⟩
 | .need p x,h=>⟨h.1,iM h.2⟩
 | .fail,h=>h
theorem fW.wk{P:Program}{f:FuncId}{args:List LV}{hp:Hp}{t:End}(ks:List Wk)(h:fW P f args hp t):fW P f args hp (t.wk (.of hp) ks):=by
 intro R hs β w vals hh cq;refine(h _ (iM hs) β w vals hh cq).mono ?_
 rintro e w' ⟨val,β',r,cS,rfl,⟨v',hp2,h1,h2⟩,hd,hr⟩
 obtain⟨β2,h3⟩:=Hy (nv.bb hp) ks h1 (vals:= [val]) ⟨.cons hd .nil,hr⟩;obtain⟨h4,h5⟩:=h3
 cases h4 with
 |cons h6 _=>exact⟨val,β2,v',hp2,rfl,h2,h6,h5⟩
theorem Ex.dA{P:Program}{m:Hp}{c:Code}{X:Type}(μ:X→Nat)(S:X→St)(I:X→Prop)(rnd F:X→aV)(h:∀x,I x→Ex P m c (S x) (rnd x))
  (hr:∀x R,I x→(F x).sat R→(rnd x).sat fun e s=>(e= .normal∧∃y,s=S y∧I y∧μ y<μ x∧(F y).sat R)∨(e≠ .normal∧R e s)) {x:X} (hx:I x):Ex P m (.loop c) (S x) (F x):=by
 intro W β₀ R Q hs hq β a w Tm
 have key:∀ (n:Nat) (y:X),I y→μ y<n→(F y).sat R→∀β a w,Rel W m β₀ β (S y) a w→Code.rounds P c Q n a w:=by
  intro n
  induction n with
  |zero=>intro y _ h0;omega
  |succ n ih=>
   intro y hy hn hF β a w jw;rw[rounds_succ];refine h y hy W β₀ _ _ (hr y R hy hF) ?_ β a w jw
   rintro e a w ⟨t,β',h1,h2⟩
   rcases h1 with⟨rfl,z,rfl,hz,dE,hF'⟩|⟨eC,h1⟩
   ·exact ih z hz (by omega) hF' β' a w h2
   ·cases e with
    |normal=>exact absurd rfl eC
    |exit _=>exact hq _ _ _ ⟨t,β',h1,h2⟩
    |goto _=>exact hq _ _ _ ⟨t,β',h1,h2⟩
    |ret=>exact hq _ _ _ ⟨t,β',h1,h2⟩
    |panic _=>exact hq _ _ _ ⟨t,β',h1,h2⟩
    |outgrown=>exact hq _ _ _ ⟨t,β',h1,h2⟩
 exact wp_loop_rounds (μ x+1) (key _ x hx (Nat.lt_succ_self _) hs β a w Tm)
theorem Ex.need{P:Program}{m:Hp}{c:Code}{st:St}{p:Prop}{r:aV}(h:p→Ex P m c st r):Ex P m c st (.need p r):=
 fun W β₀ R Q hs hq β a w hr=>h hs.1 W β₀ R Q hs.2 hq β a w hr
def cE(fn:Func):Code:=fn.body.getD .skip
def eD(c:Code)(id:Nat):List Code:=(z3 c).filterMap fun p=>if p.1=id then some p.2 else none
def aY(fn:Func)(id:Nat):Code:=match eD (cE fn) id with
 | [.loop b]=>b
 |_=>.ret
def lu:List Code→Bool
 | [.loop _]=>true
 |_=>false
theorem EO{fn:Func}{id:Nat}(h:lu (eD (cE fn) id)=true):eD (cE fn) id= [.loop (aY fn id)]:=by
 unfold aY;generalize eD (cE fn) id=l at*;unfold lu at h
 split at h
 ·rfl
 ·cases h
theorem EP{LT:dd}{id:Nat}{f:St→aV}(h:sx LT id=some f):(id,f)∈LT:=by
 induction LT with
 |nil=>cases h
 |cons p l ih=>
  obtain⟨i,g⟩:=p;simp only[sx]at h
  split at h
  ·rename_i e;subst e;cases h;simp
  ·exact List.mem_cons_of_mem _ (ih h)
theorem aS.bW{P:Program}{m:Hp}{LT:dd}{fn:Func}(h:∀p∈LT,lu (eD (cE fn) p.1)=true∧∀st,Ex P m (.loop (aY fn p.1)) st (p.2 st)):aS P m LT (cE fn):=by
 refine aS.of fun id f c' hf hm st=>?_;obtain⟨h1,h2⟩:=h _ (EP hf);have:c'∈eD (cE fn) id:=List.mem_filterMap.2 ⟨(id,c'),hm,by simp⟩;rw[EO h1]at this;simp at this;subst this;exact h2 st
def gV(P:Program)(tab:List (FuncId×al))(LT:dd)(fn:Func)(id:Nat)(hp:Hp)(ws:Exit→List Wk)(st:St):aV:=(exec P (Cy tab) fork hp LT (aY fn id) st).wk (.of hp) ws
theorem CD{P:Program}(fb:P.follows .mixedOrders=true){tab:List (FuncId×al)}(iu:∀p∈tab,p.2.Ok P p.1){LT:dd}{fn:Func}{id:Nat}{hp:Hp}{ws:Exit→List Wk}{st:St}(hL:aS P hp LT (aY fn id)):
  Ex P hp (aY fn id) st (gV P tab LT fn id hp ws st):=(Ex.Ct (Hu iu) fb hL rfl).wk ws
def bc(P:Program)(tab:List (FuncId×al))(LT:dd)(fn:Func)(args:List LV)(hp:Hp)(ks:List Wk):End:=((exec P (Cy tab) fork hp LT (cE fn) (entry fn args hp)).ends P fn).wk (.of hp) ks
theorem au{P:Program}(fb:P.follows .mixedOrders=true){tab:List (FuncId×al)}(iu:∀p∈tab,p.2.Ok P p.1){f:FuncId}{fn:Func}(hf:P.funcs[f]? =some fn)(hb:fn.body.isSome=true){LT:dd}{args:List LV}{hp:Hp}{ks:List Wk}(hL:aS P hp LT (cE fn)):
  fW P f args hp (bc P tab LT fn args hp ks):=by
 have fx:fn.body=some (cE fn):=by
  unfold cE
  cases h:fn.body with
  |none=>rw[h]at hb;cases hb
  |some c=>rfl
 exact(z6 hf fx (Ex.Ct (A:=fork) (Hu iu) fb hL rfl)).wk ks
theorem fW.use{P:Program}{f:FuncId}{args:List LV}{hp:Hp}{t:End}(h:fW P f args hp t){V:LV}{D:List (Nat×Item)}(hs:t.sat fun v cS=>v=V∧cS=ax D hp){Q:LV→List (Nat×Item)→Prop}(hQ:Q V D):
  dM P f args hp fun v cS=>∃d,Q v d∧cS=ax d hp:=by
 refine h _ ?_
 have key:∀ {t:End},(t.sat fun v cS=>v=V∧cS=ax D hp)→t.sat fun v cS=>∃d,Q v d∧cS=ax d hp:=by
  intro t
  induction t with
  |leaf v cS=>rintro⟨rfl,rfl⟩;exact⟨D,hQ,rfl⟩
  |ite b x y Xt Xu=>exact fun h=>⟨fun e=>Xt (h.1 e),fun e=>Xu (h.2 e)⟩
  |need p x ih=>exact fun h=>⟨h.1,ih h.2⟩
  |fail=>exact fun h=>h
 exact key hs
def qy(l:List SV):List SV:=
 if l.length=32 then xf 0 32 .u8 l else if l.length=8 then xf 0 8 .u64 (xf 0 8 .u8 l)else if l.length=16 then xf 0 16 .u64 l else l
theorem Ad{β:Env}{L:Nat→Option Kd}{l:List SV}{vs:List Value}(h:aP β L l vs):aP β L (qy l) vs:=by
 unfold qy
 split
 ·exact ir h
 ·split
  ·exact ir (ir h)
  ·split
   ·exact ir h
   ·exact h
def al.sym(e:al):al:=⟨e.jx,fun args hp=>e.run (args.map fun a=>(a.bS SV.symm).Nu qy) (hp.map (Option.map (Item.bS SV.symm)))⟩
theorem Hz{β:Env}{L:Nat→Option Kd}{s:SV}{v:Value}:(s.symm).den β L v↔s.den β L v:=by cases s<;>exact Iff.rfl
theorem ER{β:Env}{L:Nat→Option Kd}{s:SV}{vs:List Value}:(s.symm).eW β L vs↔s.eW β L vs:=by cases s<;>exact Iff.rfl
theorem sG{β:Env}{L:Nat→Option Kd}:fG β β L L SV.symm:=⟨Hz.2,fun _ _ _=>rfl,fun _ _ _ h=>h⟩
theorem sH{β:Env}{L:Nat→Option Kd}:∀ {l:List SV} {vs:List Value},aP β L (l.map SV.symm) vs→aP β L l vs
 | [],_,h=>h
 |s::l,_,h=>by
  cases h with
  |cons h1 h2=>exact .cons (ER.1 h1) (sH h2)
theorem ES{β:Env}{L:Nat→Option Kd}{w:World}{i:Nat}{x:Item}(h:cV β L w i (x.bS SV.symm)):cV β L w i x:=by
 cases x with
 |aZ cells e=>obtain⟨c,fz,h1,h2,h3⟩:=h;exact⟨c,fz,h1,h2,sH h3⟩
 |_=>exact h
theorem eP:∀ (d:List (Nat×Item)) {hp hp2:Hp} {j:Nat} {x:Item},(∀ (j:Nat) (x:Item),hp[j]? =some (some x)→∃y,hp2[j]? =some (some y)∧(y=x∨y=x.bS SV.symm))→(ax d hp)[j]? =some (some x)→∃y,(ax d hp2)[j]? =some (some y)∧(y=x∨y=x.bS SV.symm)
 | [],_,_,j,x,h,hj=>h j x hj
 |(i,z)::d,hp,hp2,j,x,h,hj=>by
  refine eP d (hp:=setAt hp i z) (hp2:=setAt hp2 i z) (fun k y hk=>?_) hj
  by_cases e:k=i
  ·subst e;rw[bZ]at hk;cases hk;exact⟨z,bZ _ _ _,.inl rfl⟩
  ·obtain⟨y',h1,h2⟩:=h k y ((bz hp i z k y e).1 hk);exact⟨y',(bz hp2 i z k y' e).2 h1,h2⟩
theorem jj:∀ (d:List (Nat×Item)) {hp hp2:Hp},kd hp=kd hp2→kd (ax d hp)=kd (ax d hp2)
 | [],_,_,h=>h
 |(i,z)::d,hp,hp2,h=>jj d (hp:=setAt hp i z) (hp2:=setAt hp2 i z) (by funext j;rw[bR,bR,h])
theorem al.Ok.sym{P:Program}{f:FuncId}{e:al}(he:e.Ok P f):e.sym.Ok P f:=by
 refine⟨fun args hp Q h β w vals hh cq=>?_⟩;generalize EN:hp.map (Option.map (Item.bS SV.symm))=hp2;have hk:kd hp2=kd hp:=by rw[← EN];exact nQ hp
 have hh2:aQ w hp2 β β hp2 w:=EN▸(hh.relabel sG).self
 have TE:bd (LV.den β (kd hp2)) (args.map fun a=>(a.bS SV.symm).Nu qy) vals:=by
  rw[hk];exact cq.pN fun a b h=>LV.mn (fun _ _=>Ad) (sG.lv h)
 have Nz:∀ (j:Nat) (x:Item),hp[j]? =some (some x)→∃y,hp2[j]? =some (some y)∧(y=x∨y=x.bS SV.symm):=by
  intro j x hj;refine⟨x.bS SV.symm,?_,.inr rfl⟩;rw[← EN,List.getElem?_map,hj];rfl
 have hof:∀ (j:Nat) (y:Item),hp2[j]? =some (some y)→∃x,hp[j]? =some (some x)∧y=x.bS SV.symm:=by
  intro j y hj;rw[← EN]at hj;exact qu hj
 have ck:(e.run (args.map fun a=>(a.bS SV.symm).Nu qy) hp2).holds Q:=EN▸h;refine(he.calls _ _ Q ck β w vals hh2 TE).mono ?_
 rintro en w' ⟨val,β',r,cS,rfl,⟨d,hq,rfl⟩,hd,h'⟩
 have hk2:kd (ax d hp2)=kd (ax d hp):=jj d hk;refine⟨val,β',r,ax d hp,rfl,⟨d,hq,rfl⟩,by rw[← hk2];exact hd,?_⟩
 have dY:∀ {x y:Item} {i b:Nat},(y=x∨y=x.bS SV.symm)→(bx β' y i b↔bx β' x i b):=by
  rintro x y i b (rfl|rfl)
  ·exact Iff.rfl
  ·exact bx.bS rfl rfl
 refine⟨fun j x hj=>?_,fun i j x y b hi hj h1 h2=>?_,?_,fun i x b hi ho=>?_,h'.os,h'.output,h'.size,fun b hb nE=>?_,fun pm v t l hr=>?_,h'.from_⟩
 ·obtain⟨y,h1,h2⟩:=eP d Nz hj;rw[← hk2];have:=h'.items j y h1;rcases h2 with rfl|rfl
  ·exact this
  ·exact ES this
 ·obtain⟨x',a1,a2⟩:=eP d Nz hi;obtain⟨y',b1,b2⟩:=eP d Nz hj;exact h'.inj i j x' y' b a1 b1 ((dY a2).2 h1) ((dY b2).2 h2)
 ·rw[← hk,← hk2];exact h'.first
 ·obtain⟨x',a1,a2⟩:=eP d Nz hi;rcases h'.own i x' b a1 ((dY a2).2 ho)with k|⟨y,k1,k2⟩
  ·exact .inl k
  ·obtain⟨x0,k3,rfl⟩:=hof i y k1;exact .inr ⟨x0,k3,(bx.bS rfl rfl).1 k2⟩
 ·refine h'.ao b hb fun⟨j,y,h1,h2⟩=>nE ?_;obtain⟨x0,k3,rfl⟩:=hof j y h1;exact⟨j,x0,k3,(bx.bS rfl rfl).1 h2⟩
 ·obtain⟨h1,h2⟩:=h'.reads pm v t l hr;refine⟨h1,fun b hb=>⟨(h2 b hb).1,fun⟨j,x,hj,ho⟩=>(h2 b hb).2 ?_⟩⟩;obtain⟨y,k1,k2⟩:=eP d Nz hj;exact⟨j,y,k1,(dY k2).2 ho⟩
structure aH (T X:Type) where
 rd:T→Option X
 wr:X→T
 ok:∀ {t x},rd t=some x→t=wr x
def aH.jl{T X Y:Type}(c:aH T X)(f:X→Y)(g:Y→X)(h:∀x,g (f x)=x):aH T Y where
 rd t:=(c.rd t).map f
 wr y:=c.wr (g y)
 ok:=by
  intro t y hy;obtain⟨x,hx,rfl⟩:=map_some hy;rw[h];exact c.ok hx
def ay(k:IntKind):aH SV Int where
 rd s:=match s with
  | .int k' (.sym n)=>if k'=k then some n else none
  |_=>none
 wr n:=.int k (.sym n)
 ok:=by
  intro s x h
  split at h
  ·split at h
   ·rename_i e;subst e;cases h;rfl
   ·cases h
  ·cases h
def iv:aH SV Bool where
 rd s:=match s with
  | .bool (.sym b)=>some b
  |_=>none
 wr b:=.bool (.sym b)
 ok:=by
  intro s x h
  split at h
  ·cases h;rfl
  ·cases h
def g9(pm nn:Bool)(t:Ty):aH SV (List t.D) where
 rd s:=match s with
  | .rd gu nn' t' l=>if h:t'=t then(if gu=pm∧nn'=nn then some (h▸l)else none)else none
  |_=>none
 wr l:=.rd pm nn t l
 ok:=by
  intro s x h
  split at h
  ·split at h
   ·rename_i e;subst e
    split at h
    ·rename_i e;obtain⟨rfl,rfl⟩:=e;cases h;rfl
    ·cases h
   ·cases h
  ·cases h
def Yz:aH SV Unit where
 rd s:=match s with
  | .cQ (.slice none 0 0)=>some ()
  |_=>none
 wr _:=.cQ (.slice none 0 0)
 ok:=by
  intro s x h
  split at h
  ·rfl
  ·cases h
def xi:aH SV Unit where
 rd s:=match s with
  | .cQ (.pointer none)=>some ()
  |_=>none
 wr _:=.cQ (.pointer none)
 ok:=by
  intro s x h
  split at h
  ·rfl
  ·cases h
def a6(b o:Nat):aH SV Unit where
 rd s:=match s with
  | .ptr b' o'=>if b'=b∧o'=o then some ()else none
  |_=>none
 wr _:=.ptr b o
 ok:=by
  intro s x h
  split at h
  ·split at h
   ·rename_i e;obtain⟨rfl,rfl⟩:=e;rfl
   ·cases h
  ·cases h
def sI(i v:Nat):aH SV Unit where
 rd s:=match s with
  | .sl b' o'=>if b'=i∧o'=v then some ()else none
  |_=>none
 wr _:=.sl i v
 ok:=by
  intro s x h
  split at h
  ·split at h
   ·rename_i e;obtain⟨rfl,rfl⟩:=e;rfl
   ·cases h
  ·cases h
def mq(t:Ty)(n:Nat):aH SV (List t.D) where
 rd s:=match s with
  | .arr t' n' l=>if h:t'=t then(if n'=n then some (h▸l)else none)else none
  |_=>none
 wr l:=.arr t n l
 ok:=by
  intro s x h
  split at h
  ·split at h
   ·rename_i e;subst e
    split at h
    ·rename_i e;subst e;cases h;rfl
    ·cases h
   ·cases h
  ·cases h
noncomputable section
variable {T X Y Z:Type}
def ae:aH (List T) Unit where
 rd l:=match l with
  | []=>some ()
  |_::_=>none
 wr _:= []
 ok:=by
  intro s x h
  split at h
  ·rfl
  ·cases h
def ab(a:aH T X)(r:aH (List T) Y):aH (List T) (X×Y) where
 rd l:=match l with
  | []=>none
  |x::l=>match a.rd x,r.rd l with
   |some x,some y=>some (x,y)
   |_,_=>none
 wr p:=a.wr p.1::r.wr p.2
 ok:=by
  intro s x h
  split at h
  ·cases h
  ·split at h
   ·rename_i h1 h2;cases h;rw[a.ok h1,r.ok h2]
   ·cases h
def aq(a:aH T Unit)(r:aH (List T) Y):aH (List T) Y where
 rd l:=match l with
  | []=>none
  |x::l=>match a.rd x,r.rd l with
   |some _,some y=>some y
   |_,_=>none
 wr p:=a.wr ()::r.wr p
 ok:=by
  intro s x h
  split at h
  ·cases h
  ·split at h
   ·rename_i h1 h2;cases h;rw[a.ok h1,r.ok h2]
   ·cases h
def HA(a:aH T Unit)(r:aH (List T) Y):Nat→aH (List T) Y
 |0=>r
 |n+1=>aq a (HA a r n)
end
def CE(k:IntKind):List SV→Option (List Int)
 | []=>some []
 | .int k' (.sym n)::l=>if k'=k then(CE k l).map (n:: ·)else none
 |_::_=>none
theorem xj{k:IntKind}:∀ {l:List SV} {m:List Int},CE k l=some m→l=m.map fun n=>.int k (.sym n)
 | [],m,h=>by cases h;rfl
 |s::l,m,h=>by
  unfold CE at h
  split at h
  ·rename_i e;cases e
  ·rename_i e;injection e with e1 e2;subst e1 e2
   split at h
   ·rename_i e;subst e;obtain⟨m',h1,rfl⟩:=map_some h;rw[xj h1];rfl
   ·cases h
  ·cases h
def YA(k:IntKind)(n:Nat):aH (List SV) (List Int) where
 rd l:=match CE k l with
  |some m=>if l.length=n then some m else none
  |none=>none
 wr l:=(List.range n).map fun i=>.int k (.sym (l.getD i 0))
 ok:=by
  intro s x h
  split at h
  ·rename_i m hm
   split at h
   ·rename_i hn
    cases h
    have:=xj hm;subst this;simp only[List.length_map]at hn;subst hn
    apply List.ext_getElem?
    intro i;simp only[List.getElem?_map];rcases Nat.lt_or_ge i x.length with h1|h1
    ·rw[List.getElem?_range h1];simp[List.getD_eq_getElem?_getD,List.getElem?_eq_getElem h1]
    ·rw[List.getElem?_eq_none h1,List.getElem?_eq_none (by simpa using h1)];rfl
   ·cases h
  ·cases h
noncomputable section
variable {X Y:Type}
def ak(s:aH SV X):aH LV X where
 rd x:=match x with
  | .one (.sc x)=>s.rd x
  |_=>none
 wr x:=.one (.sc (s.wr x))
 ok:=by
  intro x v h
  split at h
  ·rw[s.ok h]
  ·cases h
def fy(r:aH (List SV) X):aH LV X where
 rd x:=match x with
  | .one (.agg x)=>r.rd x
  |_=>none
 wr x:=.one (.agg (r.wr x))
 ok:=by
  intro x v h
  split at h
  ·rw[r.ok h]
  ·cases h
def YB:aH LV Unit where
 rd x:=match x with
  | .br=>some ()
  |_=>none
 wr _:=.br
 ok:=by
  intro x v h
  split at h
  ·rfl
  ·cases h
def kJ(e:TypeId)(r:aH (List SV) X):aH (Option Item) X where
 rd x:=match x with
  |some (.aZ cells e')=>if e'=e then r.rd cells else none
  |_=>none
 wr x:=some (.aZ (r.wr x) e)
 ok:=by
  intro x v h
  split at h
  ·split at h
   ·rename_i e;subst e;rw[r.ok h]
   ·cases h
  ·cases h
def dq(ver:Nat)(t:Ty):aH (Option Item) (List t.D) where
 rd x:=match x with
  |some (.own ver' t' l)=>if h:t'=t then(if ver'=ver then some (h▸l)else none)else none
  |_=>none
 wr l:=some (.own ver t l)
 ok:=by
  intro x v h
  split at h
  ·split at h
   ·rename_i e;subst e
    split at h
    ·rename_i e;subst e;cases h;rfl
    ·cases h
   ·cases h
  ·cases h
def bq(a:aH (List LV) X)(b:aH Hp Y):aH St (X×Y) where
 rd s:=match a.rd s.fr,b.rd s.hp with
  |some x,some y=>some (x,y)
  |_,_=>none
 wr p:=⟨a.wr p.1,b.wr p.2⟩
 ok:=by
  intro s x h
  split at h
  ·rename_i h1 h2
   cases h
   obtain⟨fr,hp⟩:=s;have e1:=a.ok h1;have e2:=b.ok h2;simp only at e1 e2;subst e1 e2;rfl
  ·cases h
end
abbrev jk(n:Nat){Y:Type}(r:aH (List LV) Y):aH (List LV) Y:=HA YB r n
theorem bd.mid{α β:Type}{R:α→β→Prop}:∀ {x:List α} {a:α} {y:List α} {vs:List β},bd R (x++a::y) vs→∃u v w,vs=u++v::w∧bd R x u∧R a v∧bd R y w
 | [],a,y,_,h=>by
  cases h with
  |cons h t=>exact⟨[],_,_,rfl,.nil,h,t⟩
 |b::x,a,y,_,h=>by
  cases h with
  |cons h t=>
   obtain⟨u,v,w,rfl,h1,h2,h3⟩:=bd.mid t;exact⟨_::u,v,w,rfl,.cons h h1,h2,h3⟩
theorem dM.CF{P:Program}{f:FuncId}{x y:List LV}{pm:Bool}{t:Ty}{l:List t.D}{hp:Hp}{R:LV→Hp→Prop}(h1:l= []→dM P f (x++ .one (.sc (.cQ (.slice none 0 0)))::y) hp R)
  (h2:dM P f (x++ .one (.sc (.rd pm true t l))::y) hp R):dM P f (x++ .one (.sc (.rd pm false t l))::y) hp R:=by
 intro β w vals hh cq;obtain⟨u,v,w',rfl,a1,a2,a3⟩:=cq.mid;obtain⟨b1,_,b3⟩:=(a2:SV.den β (kd hp) (.rd pm false t l) v);obtain⟨a,n,c,rfl,hn,hc,hz,_⟩:=(hh.SZ b3).1
 cases a with
 |none=>
  have GZ:=hz rfl;subst GZ;have o6:n=0:=by omega
  subst o6;exact h1 (List.eq_nil_of_length_eq_zero hn.symm) β w _ hh (a1.append (.cons ⟨b1,rfl⟩ a3))
 |some a=>exact h2 β w _ hh (a1.append (.cons ⟨b1,fun _=>by simp[notNil],b3⟩ a3))
def CG{X:Type}(C:aH St X)(m:nv)(ks:List Wk)(F:X→aV)(st:St):aV:=match kP m ks st with
 |some ku=>match C.rd ku with
  |some x=>F x
  |none=>.fail
 |none=>.fail
theorem xk{P:Program}{hp:Hp}{c:Code}{X:Type}{C:aH St X}{m:nv}(hm:m.Ok hp){ks:List Wk}{F:X→aV}(h:∀x,Ex P hp c (C.wr x) (F x)):∀st,Ex P hp c st (CG C m ks F st):=by
 intro st;unfold CG
 split
 ·rename_i ku hk
  split
  ·rename_i x hx;exact Ex.pre hm ks hk (by rw[C.ok hx];exact h x)
  ·exact fun _ _ _ _ hs=>hs.elim
 ·exact fun _ _ _ _ hs=>hs.elim
abbrev dA{X:Type}(C:aH St X)(m:Nat)(ks:List Wk)(F:X→aV)(st:St):aV:=CG C ⟨m,fun _=>false⟩ ks F st
theorem b7{P:Program}{hp:Hp}{c:Code}{X:Type}{C:aH St X}{ks:List Wk}{F:X→aV}(h:∀x,Ex P hp c (C.wr x) (F x)):∀st,Ex P hp c st (dA C hp.length ks F st):=xk (nv.Yx hp) h
abbrev fh{X:Type}(C:aH St X)(hp:Hp)(ks:List Wk)(F:X→aV)(st:St):aV:=CG C (.of hp) ks F st
theorem b8{P:Program}{hp:Hp}{c:Code}{X:Type}{C:aH St X}{ks:List Wk}{F:X→aV}(h:∀x,Ex P hp c (C.wr x) (F x)):∀st,Ex P hp c st (fh C hp ks F st):=xk (nv.bb hp) h
theorem CH{P:Program}(fb:P.follows .mixedOrders=true){tab:List (FuncId×al)}(iu:∀p∈tab,p.2.Ok P p.1){LT:dd}{fn:Func}{id:Nat}{hp:Hp}{ws:Exit→List Wk}(hL:aS P hp LT (aY fn id))
  {X:Type} (μ:X→Nat) (S:X→St) (I:X→Prop) (F:X→aV) {T:X→aV} (hT:∀x,I x→gV P tab LT fn id hp ws (S x)=T x)
  (hr:∀x R,I x→(F x).sat R→(T x).sat fun e s=>(e= .normal∧∃y,s=S y∧I y∧μ y<μ x∧(F y).sat R)∨(e≠ .normal∧R e s)) (x:X) (hx:I x):Ex P hp (.loop (aY fn id)) (S x) (F x):=
 Ex.dA μ S I T F (fun x hx=>hT x hx▸CD fb iu hL) hr hx
theorem aw{P:Program}:∀p∈([]:List (FuncId×al)),p.2.Ok P p.1:=fun _ h=>by cases h
theorem aj{P:Program}{f:FuncId}{e:al}{l:List (FuncId×al)}(h:e.Ok P f)(hl:∀p∈l,p.2.Ok P p.1):∀p∈(f,e)::l,p.2.Ok P p.1:=fun p hp=>by
 rcases List.mem_cons.1 hp with rfl|hp
 ·exact h
 ·exact hl p hp
theorem ly{P:Program}{hp:Hp}{fn:Func}:∀p∈([]:dd),lu (eD (cE fn) p.1)=true∧∀st,Ex P hp (.loop (aY fn p.1)) st (p.2 st):=fun _ h=>by cases h
theorem kQ{P:Program}{hp:Hp}{fn:Func}{i:Nat}{f:St→aV}{l:dd}(h1:lu (eD (cE fn) i)=true)(h2:∀st,Ex P hp (.loop (aY fn i)) st (f st))
  (hl:∀p∈l,lu (eD (cE fn) p.1)=true∧∀st,Ex P hp (.loop (aY fn p.1)) st (p.2 st)):∀p∈(i,f)::l,lu (eD (cE fn) p.1)=true∧∀st,Ex P hp (.loop (aY fn p.1)) st (p.2 st):=fun p hp=>by
 rcases List.mem_cons.1 hp with rfl|hp
 ·exact⟨h1,h2⟩
 ·exact hl p hp
def al.of{X Y:Type}(jx:List (Option Ty))(A:aH (List LV) X)(H:aH Hp Y)(out:X→Y→Out):al:=⟨jx,fun args hp=>match A.rd args,H.rd hp with
 |some x,some y=>out x y
 |_,_=>.fail⟩
theorem al.bb{P:Program}{f:FuncId}(he:jU P f){X Y:Type}{jx:List (Option Ty)}{A:aH (List LV) X}{H:aH Hp Y}{out:X→Y→Out}
  (h:∀x y Q,(out x y).holds Q→dM P f (A.wr x) (H.wr y) fun v cS=>∃d,Q v d∧cS=ax d (H.wr y)):(al.of jx A H out).Ok P f:=by
 refine⟨fun args hp Q hq=>?_⟩;simp only[al.of]at hq
 split at hq
 ·rename_i x y hx hy;rw[A.ok hx,H.ok hy];exact(h x y Q hq).done he
 ·exact hq.elim
def al.or(e e':al):al:=⟨e.jx,fun args hp=>match e.run args hp with
 | .fail=>e'.run args hp
 |o=>o⟩
theorem al.Ok.or{P:Program}{f:FuncId}{e e':al}(h:e.Ok P f)(h':e'.Ok P f):(e.or e').Ok P f:=by
 refine⟨fun args hp Q hq=>?_⟩;simp only[al.or]at hq
 split at hq
 ·exact h'.calls args hp Q hq
 ·exact h.calls args hp Q hq
abbrev al.cl{X Y:Type}(jx:List (Option Ty))(A:aH (List LV) X)(H:aH Hp Y)(out:X→Y→Out):al:=(al.of jx A H out).sym
theorem ET{l:List Int}{j:Nat}(h:j<l.length):l.drop j=l.getD j 0::l.drop (j+1):=by
 rw[List.drop_eq_getElem_cons h,List.getD_eq_getElem?_getD,List.getElem?_eq_getElem h];rfl
def By(z:Int):Prop:=0≤z∧z<256
def aA(l:List Int):Prop:=∀z∈l,By z
theorem aA.take{l:List Int}(h:aA l)(n:Nat):aA (l.take n):=fun z hz=>h z (List.mem_of_mem_take hz)
theorem aA.drop{l:List Int}(h:aA l)(n:Nat):aA (l.drop n):=fun z hz=>h z (List.mem_of_mem_drop hz)
theorem aA.append{l m:List Int}(h:aA l)(h':aA m):aA (l++m):=fun z hz=>by
 rcases List.mem_append.1 hz with k|k
 ·exact h z k
 ·exact h' z k
def upto{σ:Type}(f:Nat→σ→σ):Nat→Nat→σ→σ
 |_,0,s=>s
 |k,m+1,s=>upto f (k+1) m (f k s)
theorem sJ{σ:Type}(f:Nat→σ→σ):∀ (m k:Nat) (s:σ),upto f k (m+1) s=f (k+m) (upto f k m s)
 |0,k,s=>rfl
 |m+1,k,s=>by
  show upto f (k+1) (m+1) (f k s)=_;rw[sJ f m (k+1)];show f (k+1+m) (upto f (k+1) m (f k s))=f (k+(m+1)) (upto f (k+1) m (f k s));rw[show k+1+m=k+(m+1)from by omega]
theorem mr{σ:Type}{f:Nat→σ→σ}(I:Nat→σ→Prop){n:Nat}(hI:∀k s,k<n→I k s→I (k+1) (f k s)):∀ (m k:Nat) (s:σ),k+m≤n→I k s→I (k+m) (upto f k m s)
 |0,_,_,_,h=>h
 |m+1,k,s,hn,h=>by
  have:=mr I hI m (k+1) (f k s) (by omega) (hI k s (by omega) h);rw[show k+1+m=k+(m+1)from by omega]at this;exact this
theorem sK(g:Nat→Int):∀ (m k:Nat) (o:List Int),o.length=k+m→upto (fun k o=>o.set k (g k)) k m o=o.take k++(List.range m).map fun i=>g (k+i)
 |0,k,o,h=>by simp[upto,List.take_of_length_le (show o.length≤k by omega)]
 |m+1,k,o,h=>by
  show upto (fun k o=>o.set k (g k)) (k+1) m (o.set k (g k))=_;rw[sK g m (k+1) _ (by simp;omega),List.range_succ_eq_map,List.map_cons,List.map_map]
  have e:(o.set k (g k)).take (k+1)=o.take k++ [g k]:=by
   rw[List.take_add_one,List.take_set_of_le (Nat.le_refl _)];simp[show k<o.length by omega]
  rw[e,List.append_assoc]
  congr 1
  simp only[List.singleton_append,Nat.add_zero]
  congr 1
  apply List.map_congr_left
  intro i _;show g (k+1+i)=g (k+(i+1))
  congr 1;omega
theorem EU(g:Nat→Int){n:Nat}{o:List Int}(h:o.length=n):upto (fun k o=>o.set k (g k)) 0 n o=(List.range n).map g:=by
 rw[sK g n 0 o (by omega)];simp
theorem HB{l:List Int}{n:Nat}(h:l.length=n):(List.range n).map (fun i=>l.getD i 0)=l:=by
 subst h
 apply List.ext_getElem?
 intro i;simp only[List.getElem?_map];rcases Nat.lt_or_ge i l.length with h1|h1
 ·rw[List.getElem?_range h1];simp[List.getD_eq_getElem?_getD,List.getElem?_eq_getElem h1]
 ·rw[List.getElem?_eq_none h1,List.getElem?_eq_none (by simpa using h1)];rfl
theorem eQ{P:Program}(fb:P.follows .mixedOrders=true){tab:List (FuncId×al)}(iu:∀p∈tab,p.2.Ok P p.1){LT:dd}{fn:Func}{id j:Nat}{hp:Hp}{ws:Exit→List Wk}(hL:aS P hp LT (aY fn id))
  {σ:Type} (n:Nat) (S:Nat→σ→St) (X:σ→St) (f:Nat→σ→σ) (I:Nat→σ→Prop)
  (hT:∀k s R,k≤n→I k s→(k<n→R .normal (S (k+1) (f k s)))→(k=n→R (.exit j) (X s))→(gV P tab LT fn id hp ws (S k s)).sat R)
  (hI:∀k s,k<n→I k s→I (k+1) (f k s)) (k:Nat) (s:σ) (hk:k≤n) (h:I k s):Ex P hp (.loop (aY fn id)) (S k s) (.leaf (.exit j) (X (upto f k (n-k) s))):=by
 refine CH (ws:=ws) (T:=fun x=>gV P tab LT fn id hp ws (S x.1 x.2)) fb iu hL (fun x:Nat×σ=>n-x.1) (fun x=>S x.1 x.2) (fun x=>x.1≤n∧I x.1 x.2) (fun x=>.leaf (.exit j) (X (upto f x.1 (n-x.1) x.2))) (fun x _=>rfl) (fun x R hx hs=>?_) (k,s) ⟨hk,h⟩;obtain⟨k,s⟩:=x;obtain⟨hk,hi⟩:=hx;simp only at hk hi hs ⊢;refine hT k s _ hk hi (fun dE=>.inl ⟨rfl,(k+1,f k s),rfl,⟨dE,hI k s dE hi⟩,by simp only;omega,?_⟩) (fun e=>.inr ⟨by simp,?_⟩)
 ·have e:n-k=(n-(k+1))+1:=by omega
  rw[e]at hs;exact hs
 ·subst e;rw[Nat.sub_self]at hs;exact hs
abbrev Ae(k:IntKind)(n:Nat):aH LV (List Int):=(fy (ab (mq (.int k) n) ae)).jl (fun x=>x.1) (fun l=>(l,())) (fun _=>rfl)
abbrev jV(e:TypeId)(k:IntKind)(n:Nat):aH (Option Item) (List Int):=(kJ e (ab (mq (.int k) n) ae)).jl (fun x=>x.1) (fun l=>(l,())) (fun _=>rfl)
abbrev HC(e:TypeId)(k:IntKind)(n:Nat):aH (Option Item) (List Int):=kJ e (YA k n)
end Go.Ev
end
noncomputable section
namespace Go.Proofs.YtmhcoaflmgajhaaGreat
open Go Go.Ev Go.Proofs.Tryz
open Go.IntKind (i64 signed u32 u64 wrap wrap_u32)
set_option maxRecDepth 100000
theorem mixed:Tryz.prog.follows .mixedOrders=true:=by kernel_rfl
abbrev prog:Program:=Tryz.prog
abbrev u8:Ty:=.int .u8
abbrev nI(n:Int):LV:=.one (.sc (.int .i64 (.sym n)))
abbrev nU(n:Int):LV:=.one (.sc (.int .u64 (.sym n)))
abbrev nB(b:Bool):LV:=.one (.sc (.bool (.sym b)))
abbrev bA:aH (List LV) (List Int×Unit):=ab (ak (g9 false false u8)) ae
abbrev fX(k:IntKind)(n:Nat)(l:List Int):LV:=.one (.agg [.arr (.int k) n l])
abbrev p0:aH LV Unit:=ak (a6 0 0)
def cR(n:Nat)(l:List (Nat×FM)):List FM:=(List.range n).map fun i=>match l.find? (fun p=>p.1==i)with
 |some p=>p.2
 |none=>.drop
def wsE(n:List Wk)(id:Nat)(x:List Wk):Exit→List Wk
 | .normal=>n
 | .exit i=>if i=id then x else []
 |_=> []
end Go.Proofs.YtmhcoaflmgajhaaGreat
end
noncomputable section
namespace Go.Ev
open Go
open Go.IntKind (i64 signed u32 u64 wrap wrap_u32)
theorem wrap_u64{n:Int}(h0:0≤n)(h1:n<18446744073709551616):u64.wrap n=n:=by
 simp only[wrap,IntKind.bits,signed];simp;omega
theorem ky(n:Int):u64.wrap n=n%18446744073709551616:=by
 simp only[wrap,IntKind.bits,signed];simp
theorem wrap_u8(n:Int):IntKind.u8.wrap n=n%256:=by
 simp only[wrap,IntKind.bits,signed];simp
theorem wrap_i64{n:Int}(h0: -9223372036854775808≤n)(h1:n<9223372036854775808):i64.wrap n=n:=by
 simp only[wrap,IntKind.bits,signed];simp
 split<;>omega
theorem toNat_ofInt(n:Nat)(x:Int):(BitVec.ofInt n x).toNat=(x%(2 ^ n:Nat)).toNat:=by simp[BitVec.toNat_ofInt]
theorem xl{n m:Nat}(hm:m≤n)(x:Int):(BitVec.ofInt n x&&& BitVec.ofInt n (2 ^ m-1)).toNat=(x%(2 ^ m:Nat)).toNat:=by
 rw[BitVec.toNat_and,toNat_ofInt,toNat_ofInt];have hp:(2:Nat) ^ m≤2 ^ n:=Nat.pow_le_pow_right (by omega) hm;have eI:0<(2:Nat) ^ m:=Nat.two_pow_pos m
 have e:(((2:Int) ^ m-1)%((2 ^ n:Nat):Int)).toNat=2 ^ m-1:=by
  have:((2:Int) ^ m-1)=((2 ^ m-1:Nat):Int):=by
   rw[Int.natCast_sub (by omega)];simp
  rw[this,← Int.natCast_emod,Int.toNat_natCast,Nat.mod_eq_of_lt (by omega)]
 rw[e,Nat.and_two_pow_sub_one_eq_mod]
 have h1:((x%((2 ^ n:Nat):Int)).toNat%2 ^ m:Nat)=(x%((2 ^ m:Nat):Int)).toNat:=by
  have o6:0≤x%((2 ^ n:Nat):Int):=Int.emod_nonneg _ (by have:=Nat.two_pow_pos n;omega);have Hb:0≤x%((2 ^ m:Nat):Int):=Int.emod_nonneg _ (by omega)
  apply Int.ofNat_inj.1
  rw[Int.natCast_emod,Int.toNat_of_nonneg o6,Int.toNat_of_nonneg Hb];refine Int.emod_emod_of_dvd _ ?_;exact Int.natCast_dvd_natCast.2 (Nat.pow_dvd_pow 2 hm)
 exact h1
theorem CI{m:Nat}(hm:m<64)(x y:Int)(hy:y=2 ^ m-1):bl .u64 x y=x%(2 ^ m:Nat):=by
 subst hy;unfold bl;have:=xl (n:=64) (m:=m) (by omega) x;show u64.wrap ((BitVec.ofInt 64 x&&& BitVec.ofInt 64 (2 ^ m-1)).toNat:Int)=_;rw[this];have Hb:0≤x%((2 ^ m:Nat):Int):=Int.emod_nonneg _ (by have:=Nat.two_pow_pos m;omega);rw[Int.toNat_of_nonneg Hb];have dE:x%((2 ^ m:Nat):Int)<((2 ^ m:Nat):Int):=Int.emod_lt_of_pos _ (by have:=Nat.two_pow_pos m;omega);have hp:(2:Nat) ^ m≤2 ^ 63:=Nat.pow_le_pow_right (by omega) (by omega)
 exact wrap_u64 Hb (by have:(2:Nat) ^ 63=9223372036854775808:=by decide
                       omega)
theorem TF{m:Nat}(hm:m<8)(x y:Int)(hy:y=2 ^ m-1):bl .u8 x y=x%(2 ^ m:Nat):=by
 subst hy;unfold bl;have:=xl (n:=8) (m:=m) (by omega) x;show IntKind.u8.wrap ((BitVec.ofInt 8 x&&& BitVec.ofInt 8 (2 ^ m-1)).toNat:Int)=_;rw[this];have Hb:0≤x%((2 ^ m:Nat):Int):=Int.emod_nonneg _ (by have:=Nat.two_pow_pos m;omega);rw[Int.toNat_of_nonneg Hb];have dE:x%((2 ^ m:Nat):Int)<((2 ^ m:Nat):Int):=Int.emod_lt_of_pos _ (by have:=Nat.two_pow_pos m;omega);have hp:(2:Nat) ^ m≤2 ^ 7:=Nat.pow_le_pow_right (by omega) (by omega);rw[wrap_u8];exact Int.emod_eq_of_lt Hb (by omega)
theorem o9(k:IntKind)(x:Int)(n:Nat)(hn:n≤k.bits):shr k x n=x/(2 ^ n:Nat):=by
 unfold shr;rw[Int.toNat_natCast,Nat.min_eq_left hn,Int.fdiv_eq_ediv_of_nonneg]
 ·simp
 ·exact Int.le_of_lt (Int.pow_pos (by omega))
theorem mu(k:IntKind)(x:Int)(n:Nat)(hn:n≤k.bits):shl k x n=k.wrap (x*(2 ^ n:Nat)):=by
 unfold shl;rw[Int.toNat_natCast,Nat.min_eq_left hn];simp
theorem HD{n:Nat}{m:Nat}{x y:Int}(Ch:0≤x)(hxn:x<(2 ^ n:Nat))(hx:x%(2 ^ m:Nat)=0)(MO:0≤y)(hy:y<(2 ^ m:Nat))(hyn:y<(2 ^ n:Nat)):
  ((BitVec.ofInt n x|||BitVec.ofInt n y).toNat:Int)=x+y:=by
 rw[BitVec.toNat_or,toNat_ofInt,toNat_ofInt,Int.emod_eq_of_lt Ch hxn,Int.emod_eq_of_lt MO hyn];obtain⟨a,rfl⟩:=Int.eq_ofNat_of_zero_le Ch;obtain⟨b,rfl⟩:=Int.eq_ofNat_of_zero_le MO;simp only[Int.toNat_natCast]
 have hd:a%2 ^ m=0:=by
  have:=hx;rw[← Int.natCast_emod]at this;omega
 have hb:b<2 ^ m:=by omega
 have e:a=2 ^ m*(a/2 ^ m):=(Nat.mul_div_cancel' (Nat.dvd_of_mod_eq_zero hd)).symm;have:=Nat.two_pow_add_eq_or_of_lt hb (a/2 ^ m);rw[← e]at this;rw[← this];simp
theorem tT{m:Nat}{x y:Int}(Ch:0≤x)(hx:x%(2 ^ m:Nat)=0)(MO:0≤y)(hy:y<(2 ^ m:Nat))(h64:x+y<18446744073709551616):bf .u64 x y=x+y:=by
 unfold bf;have e:(2 ^ 64:Nat)=18446744073709551616:=by decide
 have h:=HD (n:=64) Ch (by omega) hx MO hy (by omega);show u64.wrap ((BitVec.ofInt 64 x|||BitVec.ofInt 64 y).toNat:Int)=_;rw[h];exact wrap_u64 (by omega) h64
theorem fY(k:IntKind)(x y:Int):bf k x y=bf k y x:=by
 unfold bf;rw[BitVec.or_comm]
theorem ar{n:Int}(h1: -9223372036854775808≤n)(h2:n≤9223372036854775807):i64.wrap n=n:=by
 rw[IntKind.wrap_i64];omega
theorem bM{l:List Int}{n:Nat}(h:l.length=n):List.take n (List.drop 0 l)=l:=by rw[List.drop_zero,List.take_of_length_le (by omega)]
theorem fZ(k m:Nat)(hk:k<4611686018427387904):i64.wrap ((k:Int).tdiv (m:Int))=((k/m:Nat):Int):=by
 rw[Int.tdiv_eq_ediv_of_nonneg (by omega),← Int.natCast_ediv];have:k/m≤k:=Nat.div_le_self _ _;generalize k/m=q at*;exact ar (by omega) (by omega)
theorem mw(k j:Nat)(h:j≤k)(hk:k<4611686018427387904):i64.wrap ((k:Int)-(j:Int))=((k-j:Nat):Int):=by rw[ar (by omega) (by omega)];omega
theorem db(k:Nat)(hk:k<4611686018427387904):i64.wrap ((k:Int)+1)=((k+1:Nat):Int):=by rw[ar (by omega) (by omega)];rfl
end Go.Ev
end
noncomputable section
namespace Go.Proofs.YtmhcoaflmgajhaaGreat
open Go Go.Ev Go.ChangeShapes Go.WideShapes Go.ChangeAt Go.RowKit Go.Proofs.Tryz
open Go.IntKind (i64 signed u32 u64 wrap wrap_u32)
set_option maxRecDepth 100000
theorem HE:ownKnob Tryz.prog.godebug=none:=by kernel_rfl
theorem HF:laidOutB Tryz.prog=true:=by kernel_rfl
theorem Af:mapsRowed Tryz.prog=true:=by kernel_rfl
theorem xm:∀t e,t<Tryz.prog.types.size→Tryz.prog.underlying t=some (.slice e)→0<Tryz.prog.cellsOf e:=slices_full_of Tryz.prog (by kernel_rfl)
structure Kept (W W':World):Prop where
 os:W'.os=W.os
 output:W'.output=W.output
 size:W.heap.size≤W'.heap.size
 block:∀b,b<W.heap.size→W'.heap[b]? =W.heap[b]?
theorem Kept.same{W W':World}(h:Kept W W'){p:MemPlace}(hp:p.block<W.heap.size):W.sameAt W' p:=by
 cases p with
 |cell b o=>exact World.cell?_of_block (w:=W) (h.block b hp)
 |map b=>exact h.block b hp
theorem Kept.but{W W':World}(h:Kept W W')(may:MemPlace→Prop):W.keptBut W' may:=by
 refine⟨h.os,h.output,fun i hi=>?_⟩;rw[h.block i hi]
 split<;>simp_all
theorem my{H:Type}{enc:TypeId×Value→H}{W W':World}(hk:Kept W W'):∀ {ts:List TypeId} {vs:List Value} {ds:List (DataW H)} {ps:List MemPlace},(∀t∈ts,t<Tryz.prog.types.size)→
  DataW.TrodAll enc Tryz.prog W 0 (fun _=>true) true ts vs ds ps→(∀p∈ps,p.block<W.heap.size)→DataW.TrodAll enc Tryz.prog W' 0 (fun b=>decide (b<W.heap.size)) true ts vs ds ps
 | [],[],[],_,_,h,_=>h
 |t::_,_::_,_::_,_,hT,⟨p,q,⟨n,h1⟩,h2,e⟩,hs=>by
  have hp:∀x∈p,x.block<W.heap.size:=fun x hx=>hs x (by rw[e];exact List.mem_append_left _ hx);have hz:∀ {t e:TypeId},t<Tryz.prog.types.size→Tryz.prog.underlying t=some (.slice e)→0<Tryz.prog.cellsOf e:=fun {t e} a b=>xm t e a b;refine⟨p,q,⟨n,?_⟩,my hk (fun t ht=>hT t (List.mem_cons.2 (Or.inr ht))) h2 (fun x hx=>hs x (by rw[e];exact List.mem_append_right _ hx)),e⟩;exact DataW.trod_stays (T:=fun t=>t<Tryz.prog.types.size) (kids_rows HF Af) hz (fun h=>by cases h) (hT t (List.mem_cons.2 (Or.inl rfl))) h1 (fun x hx=>hk.same (hp x hx)) (fun x hx=>by simpa using hp x hx)
 | [],_::_,_,_,_,h,_=>h.elim
 | [],[],_::_,_,_,h,_=>h.elim
 |_::_,[],_,_,_,h,_=>h.elim
 |_::_,_::_,[],_,_,h,_=>h.elim
theorem HG{H:Type}{enc:TypeId×Value→H}{fn:Func}{s:ChangeSpec}{W W':World}{args:Array Value}{ds gs:List (DataW H)}{before:List MemPlace}{tb:TypeId}{apart:Bool}
  (hr:fn.resultTypes= #[tb]) (hb:Tryz.prog.underlying tb=some .bool) (hT:∀t∈fn.params.toList,t<Tryz.prog.types.size)
  (hW:DataW.Whole enc Tryz.prog fn.params.toList s.vars apart W args.toList ds gs before) (hv:s.vars= []) (hs:s.fn H ds= {results:= [.lit (.bool true)],args:=ds})
  (hk:Kept W W'):s.post enc Tryz.prog fn apart true false false W args (.bool true) W':=by
 have dE:=hW.lt;have hW':=hW;obtain⟨p,q,h1,h2,h3,h4,h5⟩:=hW;rw[hv]at h2;obtain⟨rfl,rfl⟩:=trodVars_none h2;rw[List.append_nil]at h3;subst h3;have e:s.fn H (ds++ [])= {results:= [.lit (.bool true)],args:=ds}:=by rw[List.append_nil];exact hs
 refine⟨ds,[],before,[],before,[],hW',?_,?_,?_,hk.but _,fun h=>by cases h⟩
 ·rw[e,hr];exact trodAll_cons_mk (shut_bool hb true) trodAll_mk0
 ·rw[e];exact my hk hT h1 dE
 ·rw[hv,e];rfl
def CJ:Env:=⟨fun _=>0,fun _=>.nilIface,fun _ _ _ _=>False⟩
def tU(W:World):Env:=⟨fun _=>0,fun _=>.nilIface,fun pm v t l=>pm=false∧0<t.w∧bg CJ false W v t l⟩
theorem HI(W:World):aQ W [] (tU W) (tU W) [] W:=by
 refine⟨fun i x h=>by simp at h,fun i j x y b h=>by simp at h,bh.refl _ _,fun i x b h=>by simp at h,rfl,rfl,Nat.le_refl _,fun _ _ _=>rfl,fun pm v t l h=>?_,fun pm v t l b h1 h2=>.inr ⟨pm,v,t,l,id,h1,h2⟩⟩;obtain⟨rfl,hw,h⟩:=h;refine⟨h.mono (β':=tU W) (fun _ _ _ _ (h:False)=>h.elim),fun b hb=>⟨?_,fun⟨i,x,hi,_⟩=>by simp at hi⟩⟩;obtain⟨a,n,c,rfl,hn,hc,_,hr⟩:=h
 cases a with
 |none=>exact hb.elim
 |some a=>
  obtain⟨h0,rfl⟩:=hb;obtain⟨a0,cz,e,h1,h2,h3⟩:=hr h0
  cases e
  refine h3.lt fun e=>?_;have h4:=aR h2;rw[e,← hn]at h4;have:=Nat.mul_pos h0 hw;simp at h4;omega
theorem tV{f:FuncId}{e:al}(aep:jU Tryz.prog f)(he:e.Ok Tryz.prog f){args:List LV}{q:Option Prop}(ck:e.run args []= .leaf q (nB true) [])(hq:c7 q)(W:World){vals:Array Value}(hd:bd (LV.den (tU W) (kd [])) args vals.toList):
  Calls Tryz.prog f vals W fun e W'=>e= .returned (.bool true)∧Kept W W':=by
 have key:=he.calls args [] (fun v d=>v=nB true∧d= []) (by rw[ck];exact⟨hq,rfl,rfl⟩) (tU W) W vals.toList (HI W) hd;rw[show vals.toList.toArray=vals from by simp]at key;have key:=key.resolve_left (by rintro⟨val,h1,_⟩;rw[aep]at h1;cases h1) |>.2;refine key.mono ?_
 rintro e W' ⟨val,β',r,cS,rfl,⟨d,⟨rfl,rfl⟩,rfl⟩,h3,h4⟩
 have:val= .bool true:=h3;subst this;exact⟨rfl,h4.os,h4.output,h4.size,fun b hb=>h4.ao b hb fun⟨i,x,hi,_⟩=>by simp at hi⟩
theorem EV{fn:Func}(h:(fn.params.toList.all fun t=>decide (t<Tryz.prog.types.size))=true):∀t∈fn.params.toList,t<Tryz.prog.types.size:=fun t ht=>by
 simpa using List.all_eq_true.1 h t ht
inductive Bt where
 |int (k:IntKind)
 |bool
def Bt.fits:Bt→Value→Prop
 | .int k,v=>∃z,v= .int k z∧(Lit.int k z).wf=true
 | .bool,v=>∃b,v= .bool b
def mz(P:Program):Nat→TypeId→Option (List Bt)
 |0,_=>none
 |n+1,t=>match P.underlying t with
  |some .bool=>some [.bool]
  |some (.int k)=>some [.int k]
  |some (.struct fs)=>(fs.toList.foldl (fun acc f=>match acc with
    |some l=>if f.offset=l.length then match mz P n f.type with
      |some m=>if m.length=P.cellsOf f.type then some (l++m)else none
      |none=>none
     else none
    |none=>none) (some [])).bind fun l=>if l.length=P.cellsOf t then some l else none
  |some (.array k e)=>match mz P n e with
    |some m=>if m.length=P.cellsOf e∧P.cellsOf t=k*m.length then some ((List.replicate k m).flatten)else none
    |none=>none
  |_=>none
noncomputable section
variable {H:Type} {enc:TypeId×Value→H} {P:Program} {w:World} {base:Nat} {spare:Nat→Bool} {held:Bool}
theorem iN:∀ (n:Nat) {t:TypeId} {ks:List Bt},mz P n t=some ks→∀ {fuel:Nat} {cs:List Value} {x:DataW H×List MemPlace},DataW.trod enc P w base spare held fuel t cs=some x→bd Bt.fits ks cs
 |0,_,_,h,_,_,_,_=>by cases h
 |n+1,t,ks,h,fuel,cs,x,hx=>by
  simp only[mz]at h
  cases hu:P.underlying t with
  |none=>rw[hu]at h;cases h
  |some d=>
   rw[hu]at h
   cases d with
   |bool=>
    cases h
    cases fuel with
    |zero=>simp[DataW.trod]at hx
    |succ m=>
     unfold DataW.trod at hx;rw[hu]at hx
     split at hx<;>simp_all
     exact .cons ⟨_,rfl⟩ .nil
   |int k=>
    cases h
    cases fuel with
    |zero=>simp[DataW.trod]at hx
    |succ m=>
     unfold DataW.trod at hx;rw[hu]at hx
     split at hx<;>simp_all
     obtain⟨⟨rfl,hz⟩,_⟩:=hx;exact .cons ⟨_,rfl,hz⟩ .nil
   |struct fs=>
    obtain⟨xs,m,_,_,hl,hlen,hf⟩:=DataW.trod_struct hu hx;obtain⟨l,SR,hl2⟩:=Option.bind_eq_some_iff.1 h
    split at hl2
    ·rename_i hle
     cases hl2
     have Q4:∀f∈fs.toList,∃y,DataW.trod enc P w base spare held m f.type ((cs.drop f.offset).take (P.cellsOf f.type))=some y:=by
      intro f hfm;obtain⟨i,hi,rfl⟩:=List.getElem_of_mem hfm;have oZ:i<fs.size:=(by simpa using hi);have:=hf i fs[i] (by simp[oZ]);rw[List.getElem?_eq_getElem (by omega)]at this;exact⟨_,this⟩
     have key:∀ (fl:List Field) (acc l:List Bt),(∀f∈fl,∃y,DataW.trod enc P w base spare held m f.type ((cs.drop f.offset).take (P.cellsOf f.type))=some y)→
       fl.foldl (fun acc f=>match acc with
        |some l=>if f.offset=l.length then match mz P n f.type with
          |some m=>if m.length=P.cellsOf f.type then some (l++m)else none
          |none=>none
         else none
        |none=>none) (some acc)=some l→bd Bt.fits acc (cs.take acc.length)→bd Bt.fits l (cs.take l.length):=by
      intro fl
      induction fl with
      |nil=>intro acc l _ h1 h2;simp at h1;subst h1;exact h2
      |cons f fl ih=>
       intro acc l Q4 h1 h2;simp only[List.foldl_cons]at h1
       have fU:∀fl:List Field,fl.foldl (fun acc f=>match acc with
        |some l=>if f.offset=l.length then match mz P n f.type with
          |some m=>if m.length=P.cellsOf f.type then some (l++m)else none
          |none=>none
         else none
        |none=>none) (none:Option (List Bt))=none:=by
        intro fl
        induction fl with
        |nil=>rfl
        |cons f fl ih=>exact ih
       split at h1
       ·rename_i ho
        split at h1
        ·rename_i mk Xr
         split at h1
         ·rename_i hmc;obtain⟨y,hy⟩:=Q4 f (by simp);have TG:=iN n Xr hy;rw[ho,← hmc]at TG;refine ih (acc++mk) l (fun f hf=>Q4 f (by simp[hf])) h1 ?_;rw[List.length_append,List.take_add];exact h2.append TG
         ·rw[fU]at h1;cases h1
        ·rw[fU]at h1;cases h1
       ·rw[fU]at h1;cases h1
     have:=key fs.toList [] ks Q4 SR .nil;rwa [List.take_of_length_le (by omega)]at this
    ·cases hl2
   |array k e=>
    simp only at h
    split at h
    ·rename_i mk Xr
     split at h
     ·rename_i hc
      cases h
      obtain⟨xs,m,_,_,hl,hlen,hf⟩:=DataW.trod_array hu hx
      have Ey:∀i,i<k→bd Bt.fits mk ((cs.drop (i*mk.length)).take mk.length):=by
       intro i hi;have:=hf i hi;rw[List.getElem?_eq_getElem (by omega)]at this;have h2:=iN n Xr this;rwa [← hc.1]at h2
      have key:∀ (j:Nat),j≤k→bd Bt.fits (List.replicate j mk).flatten (cs.take (j*mk.length)):=by
       intro j
       induction j with
       |zero=>intro _;simp;exact .nil
       |succ j ih=>
        intro hj;rw[List.replicate_succ',List.flatten_append,Nat.succ_mul,List.take_add];have:=Ey j (by omega);exact(ih (by omega)).append (by simpa using this)
      have:=key k (Nat.le_refl _);rwa [List.take_of_length_le (by omega)]at this
     ·cases h
    ·cases h
   |_=>cases h
end
theorem xn{k:IntKind}{β:Env}{pm:Bool}:∀ (n:Nat) {ks:List Bt} {cs:List Value},bd Bt.fits (List.replicate n (.int k)++ks) cs→
  ∃ (l:List Int) (us rest:List Value),cs=us++rest∧l.length=n∧us=l.map (.int k)∧aF ((Ty.int k).has β pm) l us∧(∀z∈l,(Lit.int k z).wf=true)∧bd Bt.fits ks rest
 |0,_,cs,h=>⟨[],[],cs,rfl,rfl,rfl,.nil,(fun _ h=>by cases h),h⟩
 |n+1,ks,cs,h=>by
  rw[List.replicate_succ,List.cons_append]at h
  cases h with
  |cons h1 h2=>
   obtain⟨z,rfl,hz⟩:=h1;obtain⟨l,us,rest,rfl,h3,h4,h5,h6,h7⟩:=xn n h2
   exact⟨z::l,.int k z::us,rest,rfl,by simp[h3],by rw[h4];rfl,aF.cons (vs:= [.int k z]) rfl h5,(fun y hy=>by
    rcases List.mem_cons.1 hy with rfl|hy
    ·exact hz
    ·exact h6 y hy),h7⟩
theorem wf_u8{z:Int}(h:(Lit.int .u8 z).wf=true):By z:=by
 have:=bounds_u8 h;unfold By;omega
theorem HJ:Tryz.prog.cellsOf 5=1:=by kernel_rfl
theorem TH:mz Tryz.prog 10 52=some (List.replicate 32 (.int .u8)):=by kernel_rfl
theorem NA:Tryz.prog.cellsOf 52=32:=by kernel_rfl
theorem sL{β:Env}{W:World}{a:Addr}:∀ (n:Nat) (f:Nat→List Int) (g:Nat→List Value),(∀i,i<n→(g i).length=32∧(Ty.arr u8 32).has β false (f i) (g i)∧∀j,j<32→W.cell? (a.add (i*32+j))=(g i)[j]?)→
  ∃cz:List Value,aF ((Ty.arr u8 32).has β false) ((List.range n).map f) cz∧cz.length=n*32∧bQ W a cz
 |0,_,_,_=>⟨[],.nil,rfl,fun i u h=>by simp at h⟩
 |n+1,f,g,h=>by
  obtain⟨cz,h1,h2,h3⟩:=sL n f g fun i hi=>h i (by omega);obtain⟨g1,g2,g3⟩:=h n (by omega);refine⟨cz++g n,?_,by rw[List.length_append,h2,g1];omega,fun i u hu=>?_⟩
  ·rw[List.range_succ,List.map_append]
   have aer:aF ((Ty.arr u8 32).has β false) [f n] (g n):=by
    have:=aF.cons (R:=(Ty.arr u8 32).has β false) g2 .nil;rwa [List.append_nil]at this
   exact h1.append aer
  ·by_cases hi:i<cz.length
   ·rw[List.getElem?_append_left hi]at hu;exact h3 i u hu
   ·rw[List.getElem?_append_right (by omega)]at hu;have dE:=(List.getElem?_eq_some_iff.1 hu).1;have:=g3 (i-cz.length) (by omega);rw[show n*32+(i-cz.length)=i from by omega,hu]at this;exact this
theorem HK{H:Type}{enc:TypeId×Value→H}{W:World}{fuel:Nat}{cs:List Value}{y:DataW H×List MemPlace}
  (h:DataW.trod enc Tryz.prog W 0 (fun _=>true) true fuel 22 cs=some y):
  ∃ (l:List (List Int)) (v:Value),cs= [v]∧(∀k:Nat,k<l.length→(l.getD k (List.replicate 32 0)).length=32∧aA (l.getD k (List.replicate 32 0)))∧(SV.rd false false (.arr u8 32) l).den (tU W) (kd []) v:=by
 rcases Go.Deep.open_slice underlying22 h with⟨e,_⟩|⟨a,len,cap,m,n,D,Pl,e,_,S0,_,hm,_,xo⟩
 ·exact⟨[],_,e,fun k hk=>(by simp at hk),rfl,(fun e=>by cases e),.inr (.inr ⟨rfl,rfl⟩)⟩
 ·simp only[if_true]at hm;subst hm;rw[NA]at xo
  have key:∀i,∃l:List Int,∃us:List Value,i<len→l.length=32∧aA l∧us.length=32∧(Ty.arr u8 32).has CJ false l us∧∀j,j<32→W.cell? (a.add (i*32+j))=us[j]? :=by
   intro i
   by_cases hi:i<len
   ·obtain⟨cs',h1,h2⟩:=xo i (by omega);have EB:=iN 10 TH h2;rw[← List.append_nil (List.replicate 32 (Bt.int .u8))]at EB;obtain⟨l,us,rest,e1,hl,hu,hd,hw,hr⟩:=xn (β:=CJ) (pm:=false) 32 EB
    cases hr
    rw[List.append_nil]at e1;obtain⟨_,c2,c3⟩:=World.cells?_some h1;refine⟨l,us,fun _=>⟨hl,fun z hz=>wf_u8 (hw z hz),by rw[← e1];exact c2,⟨hl,hd⟩,fun j hj=>?_⟩⟩;have:=c3 j hj;rw[Addr.add_add,e1]at this;exact this
   ·exact⟨[],[],fun h=>absurd h hi⟩
  have hf:=fun i=>Classical.choose_spec (key i)
  let f:Nat→List Int:=fun i=>Classical.choose (key i)
  have hg:=fun i=>Classical.choose_spec (hf i)
  let g:Nat→List Value:=fun i=>Classical.choose (hf i)
  refine⟨(List.range len).map f,_,e,fun k hk=>?_,rfl,(fun e=>by cases e),.inr (.inl ⟨rfl,rfl,by decide,?_⟩)⟩
  ·rw[List.length_map,List.length_range]at hk;have hq:=hg k hk;rw[List.getD_eq_getElem?_getD,List.getElem?_map,List.getElem?_range hk];exact⟨hq.1,hq.2.1⟩
  ·obtain⟨cz,v1,v2,v3⟩:=sL (β:=CJ) (W:=W) (a:=a) len f g fun i hi=>⟨(hg i hi).2.2.1,(hg i hi).2.2.2.1,(hg i hi).2.2.2.2⟩;refine⟨some a,len,_,rfl,by simp,S0,(fun e=>by cases e),fun h0=>⟨a,cz,rfl,?_,v1,v3⟩⟩;have eC:0<cz.length:=(by rw[v2];omega);have Cn:=v3 0 (cz[0]'eC) (List.getElem?_eq_getElem eC);have:a.add 0=a:=(by cases a;simp[Addr.add]);rw[this]at Cn;exact World.cell?_spot Cn
end Go.Proofs.YtmhcoaflmgajhaaGreat
end
