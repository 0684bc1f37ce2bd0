/- What the laws lean on, part 6: a reader of code, plain facts, and what each function gives; no conditions. -/
import Derived.KernelRfl
import Derived.Test.YtcbjpiangpjbgaaGreatProg
import Derived.Eval
import Derived.Test.YtcbjpiangpjbgaaGreatRows
import Derived.WalkKit
import Derived.ProofKit
import Derived.OpenShut
import Derived.JoinedCond
import Derived.JoinedOf
import Derived.Handed
import Derived.ReadAgain
import Derived.ChangeStays
import Derived.Test.YtcbjpiangpjbgaaGreatA5
set_option linter.unusedVariables false
set_option linter.unusedSimpArgs false
noncomputable section
namespace Go.Ev
open Go
open Go.IntKind (i64 signed u32 u64 wrap wrap_u32)
structure Vs (W:World) (an:Hp) (β₀ β:Env) (fr:List LV) (hp:Hp) (vals:List Value) (w:World):Prop where
 fr:bX (LV.den β (kd hp)) fr vals
 heap:bB W an β₀ β hp w
noncomputable section
variable {W:World} {an:Hp} {β₀ β:Env} {hp:Hp} {w:World}
theorem bB.zj(h:bB W an β₀ β hp w){β':Env}{dI:Hp}(g:Nat→Nat)(qN:β'.rd=β.rd)(MD:cb β₀ β' (kd an) (kd dI))
  (src:∀ (j:Nat) (y:Item),dI[j]? =some (some y)→∃x,hp[g j]? =some (some x)∧(∀b,cw β' y j b→cw β x (g j) b)∧fw β' (kd dI) w j y∧(g j=j∨kd an (g j)=none))
  (hg:∀ (j k:Nat) (y z:Item),dI[j]? =some (some y)→dI[k]? =some (some z)→g j=g k→j=k):bB W an β₀ β' dI w:=by
 have l5:∀b,gh dI β' b→gh hp β b:=fun b ⟨j,y,hj,ho⟩=>by
  obtain⟨x,h1,h2,_⟩:=src j y hj;exact⟨g j,x,h1,h2 b ho⟩
 refine⟨fun j y hj=>?_,fun j k y z b hj hk h1 h2=>?_,MD,fun j y b hj ho=>?_,h.os,h.output,h.size,h.al,fun pm v t l hr=>?_,fun pm v t l b hr hb=>?_⟩
 ·obtain⟨x,_,_,h3,_⟩:=src j y hj;exact h3
 ·obtain⟨x,a1,a2,_⟩:=src j y hj;obtain⟨x',b1,b2,_⟩:=src k z hk;exact hg j k y z hj hk (h.inj _ _ _ _ b a1 b1 (a2 b h1) (b2 b h2))
 ·obtain⟨x,a1,a2,_,a4⟩:=src j y hj;rcases h.own _ _ b a1 (a2 b ho)with k|⟨z,k1,k2⟩
  ·exact .inl k
  ·rcases a4 with e|e
   ·rw[e]at k1 k2;exact .inr ⟨z,k1,k2⟩
   ·rw[dH k1]at e;cases e
 ·rw[qN]at hr;obtain⟨h1,h2⟩:=h.reads pm v t l hr;exact⟨h1.mono fun _ _ _ _ h=>by rw[qN];exact h,fun b hb=>⟨(h2 b hb).1,fun k=>(h2 b hb).2 (l5 b k)⟩⟩
 ·rw[qN]at hr;exact h.from_ pm v t l b hr hb
theorem bB.av8(h:bB W an β₀ β hp w){dI:Hp}(hk:kd dI=kd hp)
  (src:∀ (j:Nat) (y:Item),dI[j]? =some (some y)→∃x,hp[j]? =some (some x)∧(y=x∨∃cells cells' e,x= .bH cells e∧y= .bH cells' e∧∀c,bz β (kd hp) cells c→bz β (kd hp) cells' c)):bB W an β₀ β dI w:=by
 refine h.zj (fun j=>j) rfl (by rw[hk];exact h.first) (fun j y hj=>?_) fun _ _ _ _ _ _ e=>e;obtain⟨x,h1,h2⟩:=src j y hj;have hx:=h.items j x h1;rw[hk];rcases h2 with rfl|⟨cells,cells',e,rfl,rfl,h3⟩
 ·exact⟨y,h1,fun _ h=>h,hx,.inl rfl⟩
 ·obtain⟨c,fz,k1,k2,k3⟩:=hx;exact⟨_,h1,fun _ h=>h,⟨c,fz,k1,k2,h3 c k3⟩,.inl rfl⟩
def Item.du(f:SV→SV):Item→Item
 | .bH cells e=>.bH (cells.map f) e
 |x=>x
def VV.du(f:SV→SV):VV→VV
 | .sc s=>.sc (f s)
 | .agg l=>.agg (l.map f)
def LV.du(f:SV→SV):LV→LV
 | .one x=>.one (x.du f)
 | .cG l=>.cG (l.map (VV.du f))
 | .bC=>.bC
structure kA (β β':Env) (L L':Nat→Option Kd) (f:SV→SV):Prop where
 den:∀ {s:SV} {v:Value},s.den β L v→(f s).den β' L' v
 arr:∀t n l,f (.arr t n l)= .arr t n l
 rd:∀v t l,β.rd true v t l→β'.rd true v t l
theorem kA.jP{β β':Env}{L L':Nat→Option Kd}{f:SV→SV}(h:kA β β' L L' f){s:SV}{vs:List Value}(hd:s.jP β L vs):(f s).jP β' L' vs:=by
 cases s with
 |arr t n l=>rw[h.arr];exact⟨hd.1,hd.2.imp fun _ _=>t.jU h.rd⟩
 |_=>
  obtain⟨v,rfl,h3⟩:=hd;exact SV.sE (h.den h3)
theorem kA.aBI{β β':Env}{L L':Nat→Option Kd}{f:SV→SV}(h:kA β β' L L' f){l:List SV}{vs:List Value}(hd:bz β L l vs):bz β' L' (l.map f) vs:=by
 induction hd with
 |nil=>exact bp.nil
 |cons h1 _ ih=>exact bp.cons (h.jP h1) ih
theorem kA.vv{β β':Env}{L L':Nat→Option Kd}{f:SV→SV}(h:kA β β' L L' f){s:VV}{v:Value}(hd:s.den β L v):(s.du f).den β' L' v:=by
 cases s with
 |sc s=>exact h.den hd
 |agg l=>obtain⟨cs,rfl,hd⟩:=hd;exact⟨cs,rfl,h.aBI hd⟩
theorem kA.lv{β β':Env}{L L':Nat→Option Kd}{f:SV→SV}(h:kA β β' L L' f){s:LV}{v:Value}(hd:s.den β L v):(s.du f).den β' L' v:=by
 cases s with
 |one x=>exact h.vv hd
 |cG l=>
  obtain⟨vs,rfl,hd⟩:=hd;refine⟨vs,rfl,?_⟩
  induction hd with
  |nil=>exact .nil
  |cons h1 _ ih=>exact .cons (h.vv h1) ih
 |bC=>trivial
theorem kA.fr{β β':Env}{L L':Nat→Option Kd}{f:SV→SV}(h:kA β β' L L' f){l:List LV}{vs:List Value}(hd:bX (LV.den β L) l vs):bX (LV.den β' L') (l.map (LV.du f)) vs:=by
 induction hd with
 |nil=>exact .nil
 |cons h1 _ ih=>exact .cons (h.lv h1) ih
theorem kA.item{β β':Env}{L L':Nat→Option Kd}{f:SV→SV}(h:kA β β' L L' f){w:World}{i:Nat}{x:Item}(hb:β'.b i=β.b i)(hh:β'.h i=β.h i)(hd:fw β L w i x):fw β' L' w i (x.du f):=by
 cases x with
 |bH cells e=>
  obtain⟨c,fz,h1,h2,h3⟩:=hd;exact⟨c,fz,by rw[hb];exact h1,h2,h.aBI h3⟩
 |own ver t l=>
  show da β' w (β'.h i) t l;rw[hh];obtain⟨a,n,c,e,h1,h2,h3,h4⟩:=(hd:da β w (β.h i) t l);refine⟨a,n,c,e,h1,h2,h3,fun h0=>?_⟩;obtain⟨a0,pre,eH,rest,elem,fz,k0,k1,k2,k3,k4,k5⟩:=h4 h0;exact⟨a0,pre,eH,rest,elem,fz,k0,k1,k2,k3,k4.imp fun _ _=>t.jU h.rd,k5⟩
 |gone v=>trivial
theorem Item.Rw(f:SV→SV)(x:Item):(x.du f).kd=x.kd:=by cases x<;>rfl
theorem cw.du{f:SV→SV}{β β':Env}{x:Item}{i b:Nat}(hb:β'.b i=β.b i)(hh:β'.h i=β.h i):cw β' (x.du f) i b↔cw β x i b:=by
 cases x<;>simp only[Item.du,cw,hb,hh]
end
inductive FM where
 |drop
 |al
 |sym
 |rd (pm:Bool) (t:Ty)
def SV.rdm(pm:Bool)(t:Ty):SV→SV
 | .fO (.slice none 0 0)=>.rd pm false t []
 | .rd false _ t l=>.rd false false t l
 | .rd true _ t l=>.rd pm false t l
 |s=>s
def SV.symm:SV→SV
 | .int k n=>.int k (.sym n.val)
 | .bool b=>.bool (.sym b.val)
 |s=>s
def SV.aBJ:SV→SV
 | .arr t n l=>.arr t n l
 |_=>.bC
def SV.fm:FM→SV→SV
 | .al,s=>s
 | .drop,s=>s.aBJ
 | .sym,s=>s.symm
 | .rd pm t,s=>s.rdm pm t
theorem SV.MK{β:Env}{L:Nat→Option Kd}(k:FM){s:SV}{v:Value}(h:s.den β L v):(s.fm k).den β L v:=by
 cases k with
 |al=>exact h
 |drop=>cases s<;>first|exact h.elim|exact SV.bM h
 |sym=>cases s<;>exact h
 |rd pm t=>
  simp only[SV.fm];unfold SV.rdm
  split
  ·obtain⟨_,rfl⟩:=h;exact⟨rfl,(fun e=>by cases e),.inr (.inr ⟨rfl,rfl⟩)⟩
  ·exact⟨h.1,(fun e=>by cases e),h.2.2⟩
  ·refine⟨h.1,(fun e=>by cases e),?_⟩;rcases h.2.2 with h1|⟨h1,_⟩|h1
   ·exact .inl h1
   ·cases h1
   ·exact .inr (.inr h1)
  ·exact h
theorem s9{β:Env}{L:Nat→Option Kd}(k:FM):kA β β L L (SV.fm k):=⟨SV.MK k,fun t n l=>by cases k<;>rfl,fun _ _ _ h=>h⟩
def LV.fm:FM→LV→LV
 | .drop,_=>.bC
 | .al,x=>x
 |k,x=>x.du (SV.fm k)
theorem LV.MK{β:Env}{L:Nat→Option Kd}(k:FM){s:LV}{v:Value}(h:s.den β L v):(s.fm k).den β L v:=by
 cases k with
 |drop=>trivial
 |al=>exact h
 |sym=>exact(s9 .sym).lv h
 |rd pm t=>exact(s9 (.rd pm t)).lv h
def av9:List FM→List LV→List LV
 |k::ks,x::xs=>x.fm k::av9 ks xs
 |_,xs=>xs
theorem HL{β:Env}{L:Nat→Option Kd}:∀ (ks:List FM) {xs:List LV} {vs:List Value},bX (LV.den β L) xs vs→bX (LV.den β L) (av9 ks xs) vs
 | [],_,_,h=>h
 |k::ks,_,_,h=>by
  cases h with
  |nil=>exact .nil
  |cons h t=>exact .cons (LV.MK k h) (HL ks t)
def awa:List FM→List SV→List SV
 |k::ks,x::xs=>x.fm k::awa ks xs
 |_,xs=>xs
theorem HM{β:Env}{L:Nat→Option Kd}:∀ (ks:List FM) {xs:List SV} {vs:List Value},bz β L xs vs→bz β L (awa ks xs) vs
 | [],_,_,h=>h
 |k::ks,[],_,h=>h
 |k::ks,x::xs,_,h=>by
  cases h with
  |cons h t=>exact .cons ((s9 k).jP h) (HM ks t)
def SV.re(i c n:Nat):SV→SV
 | .sl j v=>if j=i then(if v=c then .sl j n else .bC)else .sl j v
 | .vw j v w z m=>if j=i then(if v=c then .vw j n w z m else .bC)else .vw j v w z m
 | .ep s w z f=>.ep (s.re i c n) w z f
 |s=>s
def SV.mv(i k c:Nat):SV→SV
 | .sl j v=>if j=k then(if v=c then .sl i 1 else .bC)else if j=i then .bC else .sl j v
 | .vw j v w z m=>if j=k then(if v=c then .vw i 1 w z m else .bC)else if j=i then .bC else .vw j v w z m
 | .ep s w z f=>.ep (s.mv i k c) w z f
 |s=>s
def SV.ML(i c:Nat)(t:Ty)(l:List t.D):SV→SV
 | .sl j v=>if j=i then(if v=c then .rd true false t l else .bC)else .sl j v
 | .ep s w z f=>.ep (s.ML i c t l) w z f
 |s=>s
noncomputable section
variable {W:World} {an:Hp} {β₀ β:Env} {hp:Hp} {w:World}
theorem ams{i c n:Nat}{L L':Nat→Option Kd}(hi:L i=some (.own c))(xx:L' i=some (.own n))(ho:∀j,j≠i→L' j=L j):kA β β L L' (SV.re i c n):=by
 have mF:∀ {b},L b=some .bH→L' b=some .bH:=fun {b} hb=>by
  rw[ho b fun e=>by subst e;rw[hi]at hb;cases hb];exact hb
 refine⟨fun {s}=>?_,fun _ _ _=>rfl,fun _ _ _ h=>h⟩
 induction s with
 |sl j ver=>
  intro v h;have h1:=SV.bM h;simp only[SV.re]
  split
  ·rename_i e;subst e
   split
   ·rename_i e;subst e;obtain⟨k1,c',k2,k3,k4⟩:=h;rw[hi]at k2;cases k2;exact⟨k1,n,xx,Nat.le_refl _,fun _=>k4 rfl⟩
   ·exact h1
  ·rename_i e;obtain⟨k1,c',k2,k3,k4⟩:=h;exact⟨k1,c',by rw[ho j e];exact k2,k3,k4⟩
 |vw j ver w z m=>
  intro v h;have h1:=SV.bM h;simp only[SV.re]
  split
  ·rename_i e;subst e
   split
   ·rename_i e;subst e;obtain⟨k1,c',k2,k3,k4⟩:=h;rw[hi]at k2;cases k2;exact⟨k1,n,xx,Nat.le_refl _,fun _=>k4 rfl⟩
   ·exact h1
  ·rename_i e;obtain⟨k1,c',k2,k3,k4⟩:=h;exact⟨k1,c',by rw[ho j e];exact k2,k3,k4⟩
 |ep s w z f ih=>
  rintro v ⟨a,n,c',h1,h2⟩
  exact⟨a,n,c',ih h1,h2⟩
 |ptr b o=>intro v h;exact⟨mF h.1,h.2⟩
 |u9 b base st n z=>intro v h;exact⟨mF h.1,h.2⟩
 |slice b o l c=>intro v h;exact⟨mF h.1,h.2⟩
 |vb b o t m z n=>intro v h;exact⟨mF h.1,h.2⟩
 |_=>intro v h;exact h
theorem amt{β':Env}{i k c:Nat}{L L':Nat→Option Kd}(hk:L k=some (.own c))(ZW:L i≠some .bH)(xx:L' i=some (.own 1))(ho:∀j,j≠i→j≠k→L' j=L j)(hb:β'.b=β.b)(hh:∀j,j≠i→β'.h j=β.h j)(ZT:β'.h i=β.h k)(qN:β'.rd=β.rd):
  kA β β' L L' (SV.mv i k c):=by
 have mF:∀ {b},L b=some .bH→L' b=some .bH∧β'.b b=β.b b:=fun {b} h=>by
  refine⟨?_,by rw[hb]⟩;rw[ho b (fun e=>by subst e;exact ZW h) fun e=>by subst e;rw[hk]at h;cases h];exact h
 have qO:∀pm v t l,β.rd pm v t l→β'.rd pm v t l:=fun _ _ _ _ h=>by rw[qN];exact h
 refine⟨fun {s}=>?_,fun _ _ _=>rfl,fun _ _ _ h=>qO _ _ _ _ h⟩
 induction s with
 |sl j ver=>
  intro v h;have h1:=SV.bM h;simp only[SV.mv]
  split
  ·rename_i e;subst e
   split
   ·rename_i e;subst e;obtain⟨k1,c',k2,k3,k4⟩:=h;rw[hk]at k2;cases k2;exact⟨k1,1,xx,Nat.le_refl _,fun _=>by rw[ZT];exact k4 rfl⟩
   ·exact h1
  ·rename_i e
   split
   ·exact h1
   ·rename_i e2;obtain⟨k1,c',k2,k3,k4⟩:=h;exact⟨k1,c',by rw[ho j e2 e];exact k2,k3,fun e3=>by rw[hh j e2];exact k4 e3⟩
 |vw j ver w z m=>
  intro v h;have h1:=SV.bM h;simp only[SV.mv]
  split
  ·rename_i e;subst e
   split
   ·rename_i e;subst e;obtain⟨k1,c',k2,k3,k4⟩:=h;rw[hk]at k2;cases k2;exact⟨k1,1,xx,Nat.le_refl _,fun _=>by rw[ZT];exact k4 rfl⟩
   ·exact h1
  ·rename_i e
   split
   ·exact h1
   ·rename_i e2;obtain⟨k1,c',k2,k3,k4⟩:=h;exact⟨k1,c',by rw[ho j e2 e];exact k2,k3,fun e3=>by rw[hh j e2];exact k4 e3⟩
 |ep s w z f ih=>
  rintro v ⟨a,n,c',h1,h2⟩
  exact⟨a,n,c',ih h1,h2⟩
 |ptr b o=>intro v h;obtain⟨k1,k2⟩:=mF h.1;exact⟨k1,by rw[k2];exact h.2⟩
 |u9 b base st n z=>intro v h;obtain⟨k1,k2⟩:=mF h.1;exact⟨k1,h.2.1,by rw[k2];exact h.2.2⟩
 |slice b o l c=>intro v h;obtain⟨k1,k2⟩:=mF h.1;exact⟨k1,by rw[k2];exact h.2⟩
 |vb b o t m z n=>rintro v ⟨h1,h2⟩;obtain⟨k1,k2⟩:=mF h1;exact⟨k1,by rw[k2];exact h2⟩
 |rd pm nn t l=>rintro v ⟨h1,h2,h3⟩;exact⟨h1,h2,h3.mono qO⟩
 |_=>intro v h;exact h
theorem HN{β':Env}{i c:Nat}{t:Ty}{l:List t.D}{L:Nat→Option Kd}(hi:L i=some (.own c))(hb:β'.b=β.b)(hh:β'.h=β.h)(qN:∀pm v t l,β.rd pm v t l→β'.rd pm v t l)(hr:β'.rd true (β.h i) t l):kA β β' L L (SV.ML i c t l):=by
 have qO:cb β β' L L:=⟨fun i h=>⟨h,by rw[hb]⟩,fun i c h=>⟨c,h,Nat.le_refl _,fun _=>by rw[hh]⟩,qN⟩;refine⟨fun {s}=>?_,fun _ _ _=>rfl,fun _ _ _ h=>qN _ _ _ _ h⟩
 induction s with
 |sl j ver=>
  intro v h;have h1:=SV.bM h;simp only[SV.ML]
  split
  ·rename_i e;subst e
   split
   ·rename_i e;subst e;obtain⟨k1,c',k2,k3,k4⟩:=h;rw[hi]at k2;cases k2;have e:=k4 rfl;subst e;exact⟨k1,(fun e=>by cases e),.inl hr⟩
   ·exact h1
  ·exact SV.eW qO h
 |ep s w z f ih=>
  rintro v ⟨a,n,c',h1,h2⟩
  exact⟨a,n,c',ih h1,h2⟩
 |_=>intro v h;exact SV.eW qO h
theorem zk{f:SV→SV}{j:Nat}{y:Item}(hj:(hp.map (Option.map (Item.du f)))[j]? =some (some y)):∃x,hp[j]? =some (some x)∧y=x.du f:=by
 rw[List.getElem?_map]at hj;obtain⟨o,h1,h2⟩:=map_some hj
 cases o with
 |none=>cases h2
 |some x=>exact⟨x,h1,by simpa using h2.symm⟩
theorem vD{f:SV→SV}(hp:Hp):kd (hp.map (Option.map (Item.du f)))=kd hp:=by
 funext j
 unfold kd;rw[List.getElem?_map]
 cases hp[j]? with
 |none=>rfl
 |some o=>cases o with
  |none=>rfl
  |some x=>simp[Item.Rw]
theorem bX.awb{α β:Type}{R:α→β→Prop}{a:α}:∀ {l:List α} {m:List β} {k:Nat},bX R l m→(∀b,m[k]? =some b→R a b)→bX R (l.set k a) m
 |_,_,_,.nil,_=>.nil
 |_,_,0,.cons h t,hb=>.cons (hb _ rfl) t
 |_,_,k+1,.cons h t,hb=>.cons h (t.awb fun b hk=>hb b (by simpa using hk))
def Rx(k:IntKind):List SV→Option (List Int)
 | []=>some []
 | .int k' n::l=>if k'=k then(Rx k l).map (n.val:: ·)else none
 |_::_=>none
theorem HO{β:Env}{L:Nat→Option Kd}{k:IntKind}:∀ {l:List SV} {m:List Int} {vs:List Value},Rx k l=some m→bz β L l vs→bp ((Ty.int k).has β true) m vs
 | [],m,vs,h,hd=>by cases h;cases hd;exact .nil
 |s::l,m,vs,h,hd=>by
  unfold Rx at h
  split at h
  ·rename_i e;cases e
  ·rename_i e;injection e with e1 e2;subst e1 e2
   split at h
   ·rename_i e;subst e;obtain⟨m',h1,rfl⟩:=map_some h
    cases hd with
    |cons h2 h3=>
     obtain⟨v,rfl,hv⟩:=h2;exact bp.cons (x:=_) (vs:= [v]) (by rw[show v=_ from hv];rfl) (HO h1 h3)
   ·cases h
  ·cases h
def HQ(off n:Nat)(k:IntKind)(l:List SV):List SV:=match Rx k ((l.drop off).take n)with
 |some m=>if m.length=n then l.take off++ .arr (.int k) n m::(l.drop off).drop n else l
 |none=>l
theorem mN{β:Env}{L:Nat→Option Kd}{off n:Nat}{k:IntKind}{l:List SV}{vs:List Value}(h:bz β L l vs):bz β L (HQ off n k l) vs:=by
 unfold HQ
 split
 ·rename_i m hm
  split
  ·rename_i hn;have e:l=l.take off++((l.drop off).take n++(l.drop off).drop n):=(by rw[List.take_append_drop,List.take_append_drop]);rw[e]at h;obtain⟨v1,v2,rfl,h1,h2⟩:=bp.split h;obtain⟨v3,v4,rfl,h3,h4⟩:=bp.split h2;exact h1.append (bp.cons (x:=.arr (.int k) n m) ⟨hn,HO hm h3⟩ h4)
  ·exact h
 ·exact h
def SV.cellsIn:SV→List SV
 | .arr (.int k) n m=>if n≤32 then(List.range n).map fun i=>.int k (.sym (m.getD i 0))else [.arr (.int k) n m]
 |s=> [s]
theorem zl:∀ (m:List Int) (k:IntKind),(List.range m.length).map (fun i=>SV.int k (.sym (m.getD i 0)))=m.map fun n=>SV.int k (.sym n):=by
 intro m k
 apply List.ext_getElem?
 intro i;simp only[List.getElem?_map];rcases Nat.lt_or_ge i m.length with h1|h1
 ·rw[List.getElem?_range h1];simp[List.getD_eq_getElem?_getD,List.getElem?_eq_getElem h1]
 ·rw[List.getElem?_eq_none h1,List.getElem?_eq_none (by simpa using h1)];rfl
theorem HR{β:Env}{L:Nat→Option Kd}{k:IntKind}:∀ {m:List Int} {vs:List Value},bp ((Ty.int k).has β true) m vs→bz β L (m.map fun n=>SV.int k (.sym n)) vs
 | [],_,h=>by cases h;exact .nil
 |n::m,_,h=>by
  cases h with
  |cons h1 h2=>
   have h1':_= [Value.int k n]:=h1;subst h1';exact bp.cons (x:=SV.int k (.sym n)) ⟨_,rfl,rfl⟩ (HR h2)
theorem HS{β:Env}{L:Nat→Option Kd}{s:SV}{vs:List Value}(h:s.jP β L vs):bz β L s.cellsIn vs:=by
 unfold SV.cellsIn
 split
 ·rename_i k n m
  split
  ·obtain⟨rfl,h2⟩:=(h:_∧_);rw[zl];exact HR h2
  ·exact bp.one h
 ·exact bp.one h
def aaN(l:List SV):List SV:=l.flatMap SV.cellsIn
theorem BM{β:Env}{L:Nat→Option Kd}{l:List SV}{vs:List Value}(h:bz β L l vs):bz β L (aaN l) vs:=by
 induction h with
 |nil=>exact .nil
 |cons h _ ih=>exact(HS h).append ih
def VV.onL(f:List SV→List SV):VV→VV
 | .agg l=>.agg (f l)
 |x=>x
theorem VV.ta{β:Env}{L:Nat→Option Kd}{f:List SV→List SV}(hf:∀l vs,bz β L l vs→bz β L (f l) vs){x:VV}{v:Value}(h:x.den β L v):(x.onL f).den β L v:=by
 cases x with
 |sc s=>exact h
 |agg l=>obtain⟨cs,e,hd⟩:=h;exact⟨cs,e,hf _ _ hd⟩
def LV.onL(f:List SV→List SV):LV→LV
 | .one x=>.one (x.onL f)
 | .cG l=>.cG (l.map (VV.onL f))
 |x=>x
theorem LV.ta{β:Env}{L:Nat→Option Kd}{f:List SV→List SV}(hf:∀l vs,bz β L l vs→bz β L (f l) vs){x:LV}{v:Value}(h:x.den β L v):(x.onL f).den β L v:=by
 cases x with
 |one x=>exact VV.ta hf h
 |cG l=>obtain⟨vs,e,hd⟩:=h;exact⟨vs,e,hd.yE fun _ _=>VV.ta hf⟩
 |bC=>exact h
def Dt(f:List SV→List SV)(i:Nat)(fr:List LV):List LV:=match fr[i]? with
 |some x=>fr.set i (x.onL f)
 |none=>fr
theorem zo{β:Env}{L:Nat→Option Kd}{f:List SV→List SV}(hf:∀l vs,bz β L l vs→bz β L (f l) vs){i:Nat}{fr:List LV}{vs:List Value}(h:bX (LV.den β L) fr vs):bX (LV.den β L) (Dt f i fr) vs:=by
 unfold Dt
 split
 ·rename_i x hx;refine h.awb fun b hb=>?_;obtain⟨b',h1,h2⟩:=h.get hx;rw[hb]at h1;cases h1;exact LV.ta hf h2
 ·exact h
inductive Wk where
 |fr (l:List FM)
 |bH (i:Nat) (l:List FM)
 |mO (k:Nat) (t:Ty)
 |dw (i j:Nat) (t:Ty)
 |ML (i:Nat)
 |ver (i:Nat)
 |one (i:Nat)
 |move (i j:Nat)
 |slot (b off i:Nat) (t:Ty)
 |cut (ids:List Nat)
 |MN (k:Nat) (t:Ty)
 |awc (i j:Nat) (t:Ty)
 |auto
 |aE
 |syms
 |nt
 |db (i off n:Nat) (k:IntKind)
 |fQ (i off n:Nat) (k:IntKind)
 |BN (i:Nat)
 |arU (i:Nat)
def BO:SV→Bool
 | .fO (.slice none 0 0)=>true
 |_=>false
def aBK:LV→Bool
 | .one (.sc s)=>BO s
 |_=>false
def Du:List Nat→Bool
 | []=>true
 |x::l=> !l.any (fun y=>decide (y=x))&&Du l
def amv(m:Nat)(ids:List Nat)(i:Nat):Option Nat:=if i<m then some i else(jv ids i).map (· +m)
def Be(m:Nat)(ids:List Nat):s8:=⟨amv m ids,fun _ v=>some v⟩
structure u4 where
 n:Nat
 v:Nat→Bool
def u4.of(hp:Hp):u4:=⟨hp.length,fun i=>match bJ hp i with|some (.own 0 _ _)=>true|_=>false⟩
structure u4.Ok (m:u4) (an:Hp):Prop where
 n:m.n=an.length
 v:∀i,m.v i=true→kd an i=some (.own 0)
theorem u4.ba(hp:Hp):(u4.of hp).Ok hp:=⟨rfl,fun i h=>by
 simp only[u4.of]at h
 split at h
 ·rename_i hi;rw[dH (aB hi)];rfl
 ·cases h⟩
theorem u4.aBL(hp:Hp):(u4.mk hp.length fun _=>false).Ok hp:=⟨rfl,fun _ h=>by cases h⟩
def ZX(m:u4):Wk→St→Option St
 | .fr l,st=>some ⟨av9 l st.fr,st.hp⟩
 | .bH i l,st=>match bJ st.hp i with
  |some (.bH cells e)=>some ⟨st.fr,st.hp.set i (some (.bH (awa l cells) e))⟩
  |_=>some st
 | .mO k t,st=>if aBK (st.fr.getD k .bC)then some ⟨st.fr.set k (.one (.sc (.sl st.hp.length 0))),setAt st.hp st.hp.length (.own 0 t [])⟩else some st
 | .dw i j t,st=>match bJ st.hp i with
  |some (.bH cells e)=>if BO (cells.getD j .bC)then some ⟨st.fr,(setAt st.hp st.hp.length (.own 0 t [])).set i (some (.bH (cells.set j (.sl st.hp.length 0)) e))⟩else some st
  |_=>some st
 | .ML i,st=>if m.n≤i then match bJ st.hp i with
  |some (.own c t l)=>some ⟨st.fr.map (LV.du (SV.ML i c t l)),(st.hp.set i (some (.gone c))).map (Option.map (Item.du (SV.ML i c t l)))⟩
  |_=>none else none
 | .ver i,st=>if m.n≤i then match bJ st.hp i with
  |some (.own c t l)=>some ⟨st.fr.map (LV.du (SV.re i c 0)),(st.hp.set i (some (.own 0 t l))).map (Option.map (Item.du (SV.re i c 0)))⟩
  |_=>none else none
 | .one i,st=>if m.v i then match bJ st.hp i with
  |some (.own c t l)=>some ⟨st.fr.map (LV.du (SV.re i c 1)),(st.hp.set i (some (.own 1 t l))).map (Option.map (Item.du (SV.re i c 1)))⟩
  |_=>none else none
 | .move i j,st=>if m.v i&&decide (m.n≤j)then match bJ st.hp j,bJ st.hp i with
  |some (.own c t l),some (.own _ _ _)=>some ⟨st.fr.map (LV.du (SV.mv i j c)),((st.hp.set i (some (.own 1 t l))).set j none).map (Option.map (Item.du (SV.mv i j c)))⟩
  |_,_=>none else none
 | .cut ids,st=>if m.n≤st.hp.length&&ids.all (fun i=>decide (m.n≤i))&&Du ids then
   some ⟨st.fr.map (LV.cq (Be m.n ids)),(st.hp.take m.n++ids.map (fun i=>bJ st.hp i)).map (Option.map (Item.cq (Be m.n ids) fun v=>v))⟩else none
 | .db i off n k,st=>match bJ st.hp i with
  |some (.bH cells e)=>some ⟨st.fr,st.hp.set i (some (.bH (HQ off n k cells) e))⟩
  |_=>some st
 | .fQ i off n k,st=>some ⟨Dt (HQ off n k) i st.fr,st.hp⟩
 | .BN i,st=>match bJ st.hp i with
  |some (.bH cells e)=>some ⟨st.fr,st.hp.set i (some (.bH (aaN cells) e))⟩
  |_=>some st
 | .arU i,st=>some ⟨Dt aaN i st.fr,st.hp⟩
 | .syms,st=>some ⟨st.fr.map (LV.du (SV.fm .sym)),st.hp.map (Option.map (Item.du (SV.fm .sym)))⟩
 | .MN _ _,_| .awc _ _ _,_| .auto,_| .aE,_| .nt,_| .slot _ _ _ _,_=>none
def wkB(m:u4):List Wk→St→Option St
 | [],st=>some st
 |k::ks,st=>match ZX m k st with
  |some pW=>wkB m ks pW
  |none=>none
def arV:Option Item→Bool
 |some (.own _ _ _)=>true
 |_=>false
def amw(m:Nat)(st:St):List Nat:=
 match(rE 1000 (st.fr.flatMap LV.refs++(List.range m).filter fun i=>(bJ st.hp i).isSome) [] []).val st.hp with
 |some (ids,_)=>ids.filter fun i=>decide (m≤i)
 |none=> []
def wkX(m:u4):Wk→St→List Wk
 | .MN k t,st=>match st.fr.getD k .bC with
  | .one (.sc (.sl i _))=> [.ML i]
  |_=> [.fr (List.replicate k .al++ [.rd true t])]
 | .awc i j t,st=>match bJ st.hp i with
  |some (.bH cells _)=>match cells.getD j .bC with
   | .sl k _=> [.ML k]
   |_=> [.bH i (List.replicate j .al++ [.rd true t])]
  |_=> []
 | .auto,st=> [.cut (amw m.n st)]
 | .aE,st=>(List.range st.hp.length).filterMap fun i=>if decide (m.n≤i)&&arV (bJ st.hp i)then some (.ver i)else none
 | .nt,st=>(List.range st.hp.length).filterMap fun i=>if decide (m.n≤i)&&arV (bJ st.hp i)then some (.ML i)else none
 | .slot b j i t,st=>match bJ st.hp b with
  |some (.bH cells _)=>match cells.getD j .bC with
   | .sl k _=>if k=i then [.one i]else [.move i k]
   |_=> [.dw b j t,.move i st.hp.length]
  |_=> []
 |k,_=> [k]
def q9(m:u4):List Wk→St→Option St
 | [],st=>some st
 |k::ks,st=>match wkB m (wkX m k st) st with
  |some pW=>q9 m ks pW
  |none=>none
theorem BP{β:Env}{L:Nat→Option Kd}{s:SV}{v:Value}(h:BO s=true)(hd:s.den β L v):v= .slice none 0 0:=by
 unfold BO at h
 split at h
 ·exact hd.2
 ·cases h
theorem BQ:∀ {l:List Nat},Du l=true→l.Nodup
 | [],_=>List.nodup_nil
 |x::l,h=>by
  simp only[Du,Bool.and_eq_true,Bool.not_eq_true',List.any_eq_false,decide_eq_true_eq]at h;exact List.nodup_cons.2 ⟨fun hm=>h.1 x hm rfl,BQ h.2⟩
theorem bB.relabel(h:bB W an β₀ β hp w){f:SV→SV}(hl:kA β β (kd hp) (kd hp) f):bB W an β₀ β (hp.map (Option.map (Item.du f))) w:=by
 refine h.zj (fun j=>j) rfl (by rw[vD];exact h.first) (fun j y hj=>?_) fun _ _ _ _ _ _ e=>e;obtain⟨x,h1,rfl⟩:=zk hj;exact⟨x,h1,fun b=>(cw.du rfl rfl).1,by rw[vD];exact hl.item rfl rfl (h.items j x h1),.inl rfl⟩
theorem bB.MO(h:bB W an β₀ β hp w)(t:Ty):∃β',bB W an β₀ β' (setAt hp hp.length (.own 0 t [])) w∧cb β β' (kd hp) (kd (setAt hp hp.length (.own 0 t [])))∧(SV.sl hp.length 0).den β' (kd (setAt hp hp.length (.own 0 t []))) (.slice none 0 0):=by
 obtain⟨β',h1,h2,h3⟩:=h.oL (id:=hp.length) (gF (Nat.le_refl _)) (v:=.slice none 0 0) (ver:=0) (t:=t) (l:= []) (w':=w) (Nat.le_refl _) rfl rfl (fun _ _=>rfl)
  ⟨none,0,0,rfl,rfl,Nat.le_refl _,fun _=>rfl,fun h=>absurd h (by omega)⟩ (fun a n c e=>by simp at e)
 exact⟨β',h1,h2,rfl,0,by rw[dt,if_pos rfl];rfl,Nat.le_refl _,fun _=>h3.symm⟩
theorem MP{i:Nat}{x y:Item}(hi:hp[i]? =some (some x))(j:Nat):kd (hp.set i (some y)) j=if j=i then some y.kd else kd hp j:=by
 rw[← yR hi,dt]
theorem Dv{i j:Nat}{x y z:Item}(hi:hp[i]? =some (some x))(hj:(hp.set i (some y))[j]? =some (some z)):(j=i∧z=y)∨(j≠i∧hp[j]? =some (some z)):=by
 by_cases e:j=i
 ·subst e;rw[List.getElem?_set_self (List.getElem?_eq_some_iff.1 hi).1]at hj;exact .inl ⟨rfl,by simpa using hj.symm⟩
 ·rw[List.getElem?_set_ne (Ne.symm e)]at hj;exact .inr ⟨e,hj⟩
theorem bB.Dw(h:bB W an β₀ β hp w){i:Nat}{cells cells':List SV}{e:TypeId}(hi:hp[i]? =some (some (.bH cells e)))(hc:∀c,bz β (kd hp) cells c→bz β (kd hp) cells' c):
  bB W an β₀ β (hp.set i (some (.bH cells' e))) w∧kd (hp.set i (some (.bH cells' e)))=kd hp:=by
 have hk:kd (hp.set i (some (.bH cells' e)))=kd hp:=by
  funext j
  rw[MP hi]
  split
  ·rename_i e1;rw[e1,dH hi];rfl
  ·rfl
 refine⟨h.av8 hk fun j y hj=>?_,hk⟩;rcases Dv hi hj with⟨rfl,rfl⟩|⟨_,Bv⟩
 ·exact⟨_,hi,.inr ⟨cells,cells',e,rfl,rfl,hc⟩⟩
 ·exact⟨y,Bv,.inl rfl⟩
theorem aaO{i:Nat}(h:an.length≤i){y:Item}:an[i]? ≠some (some y):=by rw[List.getElem?_eq_none h];simp
theorem wY{β:Env}{L:Nat→Option Kd}{s':SV}:∀ {l:List SV} {cs:List Value} {j:Nat},bz β L l cs→BO (l.getD j .bC)=true→s'.den β L (.slice none 0 0)→bz β L (l.set j s') cs
 | [],_,_,h,_,_=>h
 |x::l,_,0,.cons (vs:=vs) h t,hn,hs=>by
  have hn:BO x=true:=hn;have hna:∀t n l,x≠ .arr t n l:=fun _ _ _ e=>by subst e;cases hn
  obtain⟨v,rfl,hv⟩:=SV.jj h hna;have:=BP hn hv;subst this;exact .cons (vs:= [.slice none 0 0]) (SV.sE hs) t
 |x::l,_,j+1,.cons h t,hn,hs=>.cons h (wY t (by simpa using hn) hs)
theorem awd(h:bB W an β₀ β hp w){i c:Nat}{t:Ty}{l:List t.D}(hm:an.length≤i)(hi:hp[i]? =some (some (.own c t l))):
  ∃β',bB W an β₀ β' ((hp.set i (some (.gone c))).map (Option.map (Item.du (SV.ML i c t l)))) w∧kA β β' (kd hp) (kd ((hp.set i (some (.gone c))).map (Option.map (Item.du (SV.ML i c t l))))) (SV.ML i c t l):=by
 obtain⟨h1,qO⟩:=h.nf hi (x':=.gone c) (β':=β) (w':=w) rfl (fun _ _=>rfl) rfl (.inr ⟨c,c,rfl,rfl,Nat.le_refl _,fun _=>rfl⟩) (Nat.le_refl _) rfl rfl (fun _ _ _=>rfl) (fun b ho=>ho.elim) (fun _=>trivial)
 have hk:kd (hp.set i (some (.gone c)))=kd hp:=by
  funext j
  rw[MP hi]
  split
  ·rename_i e1;rw[e1,dH hi];rfl
  ·rfl
 have qP:da β w (β.h i) t l:=h.items i _ hi
 obtain⟨h2,aG5,h3⟩:=h1.nZ (pm:=true) (v:=β.h i) (t:=t) (l:=l) qP.reads fun b hb=>by
  have ho:cw β (.own c t l) i b:=Dm qP hb;refine⟨(h.items i _ hi).lt ho,fun⟨j,y,hj,ho2⟩=>?_,.inl ?_⟩
  ·rcases Dv hi hj with⟨rfl,rfl⟩|⟨gD,Bv⟩
   ·exact ho2.elim
   ·exact gD (h.inj j i y _ b Bv hi ho2 ho)
  ·rcases h.own i _ b hi ho with k|⟨y,k,_⟩
   ·exact k
   ·exact absurd k (aaO hm)
 have ZW:kd (hp.set i (some (.gone c))) i=some (.own c):=by rw[hk,dH hi];rfl
 have hl:kA (β.nZ true (β.h i) t l) (β.nZ true (β.h i) t l) (kd (hp.set i (some (.gone c)))) (kd (hp.set i (some (.gone c)))) (SV.ML i c t l):=HN ZW rfl rfl (fun _ _ _ _ h=>h) h3;refine⟨_,h2.relabel hl,?_⟩;rw[vD,hk];rw[hk]at ZW;exact HN ZW rfl rfl aG5.rd h3
theorem arW(h:bB W an β₀ β hp w){i c n:Nat}{t:Ty}{l:List t.D}(hm:kd an i=none∨(kd an i=some (.own 0)∧n=1))(hi:hp[i]? =some (some (.own c t l))):
  bB W an β₀ β ((hp.set i (some (.own n t l))).map (Option.map (Item.du (SV.re i c n)))) w∧kA β β (kd hp) (kd ((hp.set i (some (.own n t l))).map (Option.map (Item.du (SV.re i c n))))) (SV.re i c n):=by
 have hk:∀j,kd ((hp.set i (some (.own n t l))).map (Option.map (Item.du (SV.re i c n)))) j=if j=i then some (.own n)else kd hp j:=by
  intro j;rw[vD,MP hi];rfl
 have hl:kA β β (kd hp) (kd ((hp.set i (some (.own n t l))).map (Option.map (Item.du (SV.re i c n))))) (SV.re i c n):=ams (by rw[dH hi];rfl) (by rw[hk,if_pos rfl]) fun j hj=>by rw[hk,if_neg hj]
 refine⟨h.zj (fun j=>j) rfl ?_ (fun j y hj=>?_) fun _ _ _ _ _ _ e=>e,hl⟩
 ·refine⟨fun j hj=>?_,fun j k hj=>?_,h.first.rd⟩
  ·have gD:j≠i:=fun e=>(by subst e;rcases hm with hm|⟨hm,_⟩<;>(rw[hm]at hj;cases hj));exact⟨by rw[hk,if_neg gD];exact(h.first.bH j hj).1,(h.first.bH j hj).2⟩
  ·by_cases e:j=i
   ·subst e;rcases hm with hm|⟨hm,rfl⟩<;>(rw[hm]at hj;cases hj)
    exact⟨1,by rw[hk,if_pos rfl],by omega,fun e=>by omega⟩
   ·rw[hk,if_neg e];exact h.first.own j k hj
 ·obtain⟨x,h1,rfl⟩:=zk hj;rcases Dv hi h1 with⟨rfl,rfl⟩|⟨_,h1'⟩
  ·exact⟨_,hi,fun b ho=>ho,h.items j _ hi,.inl rfl⟩
  ·exact⟨x,h1',fun b=>(cw.du rfl rfl).1,hl.item rfl rfl (h.items j x h1'),.inl rfl⟩
theorem amx(h:bB W an β₀ β hp w){i k c c':Nat}{t t':Ty}{l:List t.D}{l':List t'.D}(hm:kd an i=some (.own 0))(hn:an.length≤k)(hk:hp[k]? =some (some (.own c t l)))(hi:hp[i]? =some (some (.own c' t' l'))):
  ∃β',bB W an β₀ β' (((hp.set i (some (.own 1 t l))).set k none).map (Option.map (Item.du (SV.mv i k c)))) w∧kA β β' (kd hp) (kd (((hp.set i (some (.own 1 t l))).set k none).map (Option.map (Item.du (SV.mv i k c))))) (SV.mv i k c):=by
 have gD:i≠k:=fun e=>by subst e;rw[gF hn]at hm;cases hm
 have hil:=(List.getElem?_eq_some_iff.1 hi).1;have hkl:=(List.getElem?_eq_some_iff.1 hk).1;generalize Vt:((hp.set i (some (.own 1 t l))).set k none).map (Option.map (Item.du (SV.mv i k c)))=dI
 have hgi:dI[i]? =some (some (.own 1 t l)):=by
  rw[← Vt,List.getElem?_map,List.getElem?_set_ne (Ne.symm gD),List.getElem?_set_self hil];rfl
 have hgk:dI[k]? =some none:=by
  rw[← Vt,List.getElem?_map,List.getElem?_set_self (by simpa using hkl)];rfl
 have hgo:∀j,j≠i→j≠k→dI[j]? =(hp[j]?).map (Option.map (Item.du (SV.mv i k c))):=by
  intro j h1 h2;rw[← Vt,List.getElem?_map,List.getElem?_set_ne (Ne.symm h2),List.getElem?_set_ne (Ne.symm h1)]
 have hko:∀j,j≠i→j≠k→kd dI j=kd hp j:=by
  intro j h1 h2;unfold kd;rw[hgo j h1 h2]
  cases hp[j]? with
  |none=>rfl
  |some o=>cases o with
   |none=>rfl
   |some x=>simp[Item.Rw]
 have ZW:kd dI i=some (.own 1):=by rw[dH hgi];rfl
 let β':Env:=⟨β.b,fun j=>if j=i then β.h k else β.h j,β.rd⟩
 have hl:kA β β' (kd hp) (kd dI) (SV.mv i k c):=amt (by rw[dH hk];rfl) (by rw[dH hi];intro e;cases e) ZW hko rfl (fun j hj=>if_neg hj) (if_pos rfl) rfl
 let g:Nat→Nat:=fun j=>if j=i then k else j
 refine⟨β',h.zj g rfl ⟨fun j hj=>?_,fun j n hj=>?_,h.first.rd⟩ (fun j y hj=>?_) (fun j j' y z hj Bv e=>?_),hl⟩
 ·have h1:j≠i:=fun e=>by subst e;rw[hm]at hj;cases hj
  have h2:j≠k:=fun e=>by subst e;rw[gF hn]at hj;cases hj
  rw[hko j h1 h2];exact h.first.bH j hj
 ·have h2:j≠k:=fun e=>by subst e;rw[gF hn]at hj;cases hj
  by_cases h1:j=i
  ·subst h1;rw[hm]at hj;cases hj;exact⟨1,ZW,by omega,fun e=>by omega⟩
  ·obtain⟨n',k1,k2,k3⟩:=h.first.own j n hj;exact⟨n',by rw[hko j h1 h2];exact k1,k2,fun e=>by show(if j=i then _ else _)=_;rw[if_neg h1];exact k3 e⟩
 ·by_cases h1:j=i
  ·subst h1;rw[hgi]at hj;cases hj;refine⟨_,by show hp[if j=j then k else j]? =_;rw[if_pos rfl];exact hk,fun b ho=>?_,?_,.inr ?_⟩
   ·obtain⟨a,n,m,h3,h4,h5⟩:=ho;have Bs:(if j=j then β.h k else β.h j)=_:=h3;rw[if_pos rfl]at Bs;exact⟨a,n,m,by show β.h (if j=j then k else j)=_;rw[if_pos rfl];exact Bs,h4,h5⟩
   ·show da β' w (if j=j then β.h k else β.h j) t l;rw[if_pos rfl];have qP:da β w (β.h k) t l:=h.items k _ hk;exact da.of (β:=β) (β':=β') (w:=w) (w':=w) (fun _ _ _ _ h=>h) qP fun _ _ _ _ _=>rfl
   ·show kd an (if j=j then k else j)=none;rw[if_pos rfl];exact gF hn
  ·by_cases h2:j=k
   ·subst h2;rw[hgk]at hj;cases hj
   ·rw[hgo j h1 h2]at hj;obtain⟨o,h3,h4⟩:=map_some hj
    cases o with
    |none=>cases h4
    |some x=>
     have h4':y=x.du (SV.mv i k c):=(by simpa using h4.symm);subst h4';have hg:g j=j:=if_neg h1;have hhj:β'.h j=β.h j:=if_neg h1;rw[hg];exact⟨x,h3,fun b=>(cw.du (β:=β) (β':=β') rfl hhj).1,hl.item rfl hhj (h.items j x h3),.inl rfl⟩
 ·have hnk:∀ {j y},dI[j]? =some (some y)→j≠k:=fun hj e=>by subst e;rw[hgk]at hj;cases hj
  have h1:=hnk hj;have h2:=hnk Bv;have e':(if j=i then k else j)=(if j'=i then k else j'):=e
  split at e'<;>split at e'
  ·rename_i a b;rw[a,b]
  ·exact absurd e'.symm h2
  ·exact absurd e' h1
  ·exact e'
theorem awe(h:bB W an β₀ β hp w){ids:List Nat}(hlen:an.length≤hp.length)(hm:∀i∈ids,an.length≤i)(hn:ids.Nodup):
  ∃β',bB W an β₀ β' ((hp.take an.length++ids.map (fun i=>bJ hp i)).map (Option.map (Item.cq (Be an.length ids) fun v=>v))) w∧
   vu (Be an.length ids) β β' (kd hp) (kd ((hp.take an.length++ids.map (fun i=>bJ hp i)).map (Option.map (Item.cq (Be an.length ids) fun v=>v)))) false:=by
 generalize hme:an.length=m at*;generalize Vt:(hp.take m++ids.map (fun i=>bJ hp i)).map (Option.map (Item.cq (Be m ids) fun v=>v))=dI
 let g:Nat→Nat:=fun j=>if j<m then j else ids.getD (j-m) 0
 have amy:∀ {j},j<m→g j=j:=fun hj=>if_pos hj
 have aBM:∀ {j i:Nat},m≤j→ids[j-m]? =some i→g j=i:=fun hj hi=>by
  show(if _ then _ else _)=_;rw[if_neg (by omega),gG hi]
 have htl:(hp.take m).length=m:=by simp;omega
 have my:∀ {j y},dI[j]? =some (some y)→∃x,hp[g j]? =some (some x)∧y=x.cq (Be m ids) (fun v=>v)∧((j<m∧g j=j)∨(m≤j∧ids[j-m]? =some (g j))):=by
  intro j y hj;rw[← Vt,List.getElem?_map]at hj;obtain⟨o,h1,h2⟩:=map_some hj
  cases o with
  |none=>cases h2
  |some x=>
   have h2':y=x.cq (Be m ids) fun v=>v:=by simpa using h2.symm
   by_cases Vp:j<m
   ·rw[List.getElem?_append_left (by omega),List.getElem?_take,if_pos Vp]at h1;exact⟨x,by rw[amy Vp];exact h1,h2',.inl ⟨Vp,amy Vp⟩⟩
   ·rw[List.getElem?_append_right (by omega),htl,List.getElem?_map]at h1;obtain⟨i,h3,h4⟩:=map_some h1;have e:=aBM (by omega) h3;exact⟨x,by rw[e];exact aB h4,h2',.inr ⟨by omega,by rw[e];exact h3⟩⟩
 have hto:∀ {i j x},amv m ids i=some j→hp[i]? =some (some x)→dI[j]? =some (some (x.cq (Be m ids) (fun v=>v)))∧g j=i:=by
  intro i j x hf hi;unfold amv at hf
  split at hf
  ·rename_i him
   cases hf
   refine⟨?_,amy him⟩;rw[← Vt,List.getElem?_map,List.getElem?_append_left (by omega),List.getElem?_take,if_pos him,hi];rfl
  ·obtain⟨k,hk,rfl⟩:=map_some hf;have h3:=gT hk;refine⟨?_,aBM (by omega) (by rw[show k+m-m=k from by omega];exact h3)⟩;rw[← Vt,List.getElem?_map,List.getElem?_append_right (by omega),htl,show k+m-m=k from by omega,List.getElem?_map,h3];show some (Option.map _ (bJ hp i))=_;rw[pO hi];rfl
 let β':Env:=⟨fun j=>β.b (g j),fun j=>β.h (g j),β.rd⟩
 have wX:vu (Be m ids) β β' (kd hp) (kd dI) false:=by
  refine⟨fun b j hj hb=>?_,fun i j c hj hi=>?_,fun _ _ _ h=>h,fun _ _ _ _ h=>h⟩
  ·obtain⟨x,h1,h2⟩:=lC hb;obtain⟨h3,h4⟩:=hto hj h1;exact⟨by rw[dH h3,Item.ky,h2];rfl,congrArg β.b h4⟩
  ·obtain⟨x,h1,h2⟩:=lC hi;obtain⟨h3,h4⟩:=hto hj h1;exact⟨c,by rw[dH h3,Item.ky,h2];rfl,congrArg β.h h4,fun v v' hv e=>by cases e;exact⟨hv,fun e=>e⟩⟩
 have dU:∀ {i k},kd an i=some k→i<m:=fun {i k} hi=>by
  rcases Nat.lt_or_ge i m with h1|h1
  ·exact h1
  ·rw[gF (by omega)]at hi;cases hi
 have Hb:∀ {i},i<m→amv m ids i=some i:=fun hi=>if_pos hi;refine⟨β',h.zj g rfl ⟨fun i hi=>?_,fun i c hi=>?_,h.first.rd⟩ (fun j y hj=>?_) (fun j k y z hj hk e=>?_),wX⟩
 ·obtain⟨k1,k2⟩:=h.first.bH i hi;obtain⟨k3,k4⟩:=wX.bH i i (Hb (dU hi)) k1;exact⟨k3,k4.trans k2⟩
 ·obtain⟨c',k1,k2,k3⟩:=h.first.own i c hi;have xx:i<m:=dU hi;obtain⟨x,h1,h2⟩:=lC k1;obtain⟨h3,h4⟩:=hto (Hb xx) h1;exact⟨c',by rw[dH h3,Item.ky,h2];rfl,k2,fun e=>(congrArg β.h (amy xx)).trans (k3 e)⟩
 ·obtain⟨x,h1,rfl,h2⟩:=my hj;refine⟨x,h1,fun b=>(cw.cq (β:=β) (β':=β') rfl rfl).1,fw.Dl wX (by simp) (fun _=>rfl) (fun _ _=>rfl) (h.items _ x h1),?_⟩;rcases h2 with⟨_,h2⟩|⟨_,h2⟩
  ·exact .inl h2
  ·exact .inr (gF (by rw[hme];exact hm _ (List.mem_of_getElem? h2)))
 ·obtain⟨_,_,_,h1⟩:=my hj;obtain⟨_,_,_,h2⟩:=my hk;rcases h1 with⟨a1,a2⟩|⟨a1,a2⟩<;>rcases h2 with⟨b1,b2⟩|⟨b1,b2⟩
  ·omega
  ·have:=hm _ (List.mem_of_getElem? b2);omega
  ·have:=hm _ (List.mem_of_getElem? a2);omega
  ·rw[e]at a2;have e1:=kx hn a2;have e2:=kx hn b2;rw[e1]at e2;have:=Option.some.inj e2;omega
theorem awf{m:u4}(Mb:m.Ok an){k:Wk}{st pW:St}(h:ZX m k st=some pW){vals:List Value}(hr:Vs W an β₀ β st.fr st.hp vals w):∃β',Vs W an β₀ β' pW.fr pW.hp vals w:=by
 obtain⟨fr,hp⟩:=st
 cases k with
 |fr l=>cases h;exact⟨β,HL l hr.fr,hr.heap⟩
 |bH i l=>
  simp only[ZX]at h
  split at h
  ·rename_i cells e hi
   cases h
   obtain⟨h1,h2⟩:=hr.heap.Dw (aB hi) fun c=>HM l;exact⟨β,by show bX (LV.den β (kd _)) fr vals;rw[h2];exact hr.fr,h1⟩
  ·cases h;exact⟨β,hr⟩
 |mO k t=>
  simp only[ZX]at h
  split at h
  ·rename_i sS
   cases h
   obtain⟨β',h1,h2,h3⟩:=hr.heap.MO t;refine⟨β',(hr.fr.imp fun _ _=>LV.eW h2).awb fun b hb=>?_,h1⟩
   have gR:∃x,fr[k]? =some x:=by
    have:fr.length=vals.length:=hr.fr.length;have hk:=(List.getElem?_eq_some_iff.1 hb).1;exact⟨_,List.getElem?_eq_getElem (show k<fr.length by omega)⟩
   obtain⟨x,hx⟩:=gR;obtain⟨b',yU,hd⟩:=hr.fr.get hx;rw[hb]at yU;cases yU;simp only[List.getD_eq_getElem?_getD,hx,Option.getD_some]at sS
   cases x with
   |one x=>cases x with
    |sc s=>
     have:=BP sS hd;subst this;exact h3
    |agg l=>cases sS
   |cG l=>cases sS
   |bC=>cases sS
  ·cases h;exact⟨β,hr⟩
 |dw i j t=>
  simp only[ZX]at h
  split at h
  ·rename_i cells e hi
   split at h
   ·rename_i sS
    cases h
    obtain⟨β',h1,h2,h3⟩:=hr.heap.MO t
    have xx:(setAt hp hp.length (.own 0 t []))[i]? =some (some (.bH cells e)):=by
     refine(cE hp _ _ _ _ ?_).2 (aB hi);have:=(List.getElem?_eq_some_iff.1 (aB hi)).1;omega
    obtain⟨h4,h5⟩:=h1.Dw (cells':=cells.set j (.sl hp.length 0)) xx fun c hc=>wY hc sS h3;exact⟨β',by show bX (LV.den β' (kd _)) fr vals;rw[h5];exact hr.fr.imp fun _ _=>LV.eW h2,h4⟩
   ·cases h;exact⟨β,hr⟩
  ·cases h;exact⟨β,hr⟩
 |ML i=>
  simp only[ZX]at h
  split at h
  ·rename_i hm
   split at h
   ·rename_i c t l hi
    cases h
    obtain⟨β',h1,h2⟩:=awd hr.heap (Mb.n▸hm) (aB hi);exact⟨β',h2.fr hr.fr,h1⟩
   ·cases h
  ·cases h
 |ver i=>
  simp only[ZX]at h
  split at h
  ·rename_i hm
   split at h
   ·rename_i c t l hi
    cases h
    obtain⟨h1,h2⟩:=arW (n:=0) hr.heap (.inl (gF (Mb.n▸hm))) (aB hi);exact⟨β,h2.fr hr.fr,h1⟩
   ·cases h
  ·cases h
 |one i=>
  simp only[ZX]at h
  split at h
  ·rename_i hm
   split at h
   ·rename_i c t l hi
    cases h
    obtain⟨h1,h2⟩:=arW (n:=1) hr.heap (.inr ⟨Mb.v i hm,rfl⟩) (aB hi);exact⟨β,h2.fr hr.fr,h1⟩
   ·cases h
  ·cases h
 |move i j=>
  simp only[ZX]at h
  split at h
  ·rename_i hm;simp only[Bool.and_eq_true,decide_eq_true_eq]at hm
   split at h
   ·rename_i c t l c' t' l' hj hi
    cases h
    obtain⟨β',h1,h2⟩:=amx hr.heap (Mb.v i hm.1) (Mb.n▸hm.2) (aB hj) (aB hi);exact⟨β',h2.fr hr.fr,h1⟩
   ·cases h
  ·cases h
 |cut ids=>
  simp only[ZX]at h
  split at h
  ·rename_i hc;simp only[Bool.and_eq_true,decide_eq_true_eq,List.all_eq_true]at hc
   cases h
   rw[Mb.n]at hc ⊢;obtain⟨β',h1,h2⟩:=awe hr.heap hc.1.1 hc.1.2 (BQ hc.2);refine⟨β',?_,h1⟩;have hfr:=hr.fr;show bX (LV.den β' _) (fr.map _) vals;exact hfr.yE fun a b=>LV.gr h2 (by simp)
  ·cases h
 |db i off n k=>
  simp only[ZX]at h
  split at h
  ·rename_i cells e hi
   cases h
   obtain⟨h1,h2⟩:=hr.heap.Dw (aB hi) fun c=>mN (off:=off) (n:=n) (k:=k);exact⟨β,by show bX (LV.den β (kd _)) fr vals;rw[h2];exact hr.fr,h1⟩
  ·cases h;exact⟨β,hr⟩
 |fQ i off n k=>cases h;exact⟨β,zo (fun _ _=>mN) hr.fr,hr.heap⟩
 |BN i=>
  simp only[ZX]at h
  split at h
  ·rename_i cells e hi
   cases h
   obtain⟨h1,h2⟩:=hr.heap.Dw (aB hi) fun c=>BM;exact⟨β,by show bX (LV.den β (kd _)) fr vals;rw[h2];exact hr.fr,h1⟩
  ·cases h;exact⟨β,hr⟩
 |arU i=>cases h;exact⟨β,zo (fun _ _=>BM) hr.fr,hr.heap⟩
 |syms=>
  cases h
  refine⟨β,?_,hr.heap.relabel (s9 .sym)⟩;show bX (LV.den β (kd (hp.map _))) (fr.map _) vals;rw[vD];exact(s9 .sym).fr hr.fr
 |MN k t=>cases h
 |awc i j t=>cases h
 |auto=>cases h
 |aE=>cases h
 |nt=>cases h
 |slot b o i t=>cases h
theorem aaP{m:u4}(Mb:m.Ok an):∀ (ks:List Wk) {st pW:St} {β:Env},wkB m ks st=some pW→∀ {vals:List Value},Vs W an β₀ β st.fr st.hp vals w→∃β',Vs W an β₀ β' pW.fr pW.hp vals w
 | [],_,_,_,h,_,hr=>by cases h;exact⟨_,hr⟩
 |k::ks,st,_,_,h,_,hr=>by
  simp only[wkB]at h
  split at h
  ·rename_i st1 h1;obtain⟨β1,L8⟩:=awf Mb h1 hr;exact aaP Mb ks h L8
  ·cases h
theorem aaQ{m:u4}(Mb:m.Ok an):∀ (ks:List Wk) {st pW:St} {β:Env},q9 m ks st=some pW→∀ {vals:List Value},Vs W an β₀ β st.fr st.hp vals w→∃β',Vs W an β₀ β' pW.fr pW.hp vals w
 | [],_,_,_,h,_,hr=>by cases h;exact⟨_,hr⟩
 |k::ks,st,_,_,h,_,hr=>by
  simp only[q9]at h
  split at h
  ·rename_i st1 h1;obtain⟨β1,L8⟩:=aaP Mb _ h1 hr;exact aaQ Mb ks h L8
  ·cases h
end
def aW.wk(m:u4)(ws:Exit→List Wk):aW→aW
 | .leaf e st=>match q9 m (ws e) st with
  |some pW=>.leaf e pW
  |none=>.fail
 | .ite b x y=>.ite b (x.wk m ws) (y.wk m ws)
 | .need p x=>.need p (x.wk m ws)
 | .fail=>.fail
theorem nu{m:u4}{ws:Exit→List Wk}{R:Exit→St→Prop}:∀ {r:aW},(r.wk m ws).sat R→r.sat fun e st=>∃pW,q9 m (ws e) st=some pW∧R e pW
 | .leaf e st,h=>by
  simp only[aW.wk]at h
  split at h
  ·rename_i pW h1;exact⟨pW,h1,h⟩
  ·exact h.elim
 | .ite b x y,h=>⟨fun e=>nu (h.1 e),fun e=>nu (h.2 e)⟩
 | .need p x,h=>⟨h.1,nu h.2⟩
 | .fail,h=>h
theorem Rel.wk{W:World}{an:Hp}{β₀ β:Env}{st pW:St}{a:Act}{w:World}(hr:Rel W an β₀ β st a w){m:u4}(Mb:m.Ok an){ks:List Wk}(h:q9 m ks st=some pW):∃β',Rel W an β₀ β' pW a w:=by
 obtain⟨β',h1⟩:=aaQ Mb ks h ⟨hr.fr,hr.heap⟩;exact⟨β',hr.defers,h1.fr,h1.heap⟩
theorem Ex.wk{P:Program}{an:Hp}{c:Code}{st:St}{r:aW}(ws:Exit→List Wk)(h:Ex P an c st r):Ex P an c st (r.wk (.of an) ws):=by
 intro W β₀ R Q hs hq β a w hr;refine h W β₀ _ Q (nu hs) ?_ β a w hr
 rintro e a w ⟨st1,β1,⟨st2,h1,h2⟩,h3⟩
 obtain⟨β2,h4⟩:=h3.wk (u4.ba an) h1;exact hq _ _ _ ⟨st2,β2,h2,h4⟩
theorem Ex.pre{P:Program}{an:Hp}{c:Code}{st pW:St}{r:aW}{m:u4}(Mb:m.Ok an)(ks:List Wk)(hk:q9 m ks st=some pW)(h:Ex P an c pW r):Ex P an c st r:=by
 intro W β₀ R Q hs hq β a w hr;obtain⟨β2,h4⟩:=hr.wk Mb hk;exact h W β₀ R Q hs hq β2 a w h4
def End.wk(m:u4)(ks:List Wk):End→End
 | .leaf v hp=>match q9 m ks ⟨[v],hp⟩with
  |some ⟨[v'],dI⟩=>.leaf v' dI
  |_=>.fail
 | .ite b x y=>.ite b (x.wk m ks) (y.wk m ks)
 | .need p x=>.need p (x.wk m ks)
 | .fail=>.fail
theorem nv{m:u4}{ks:List Wk}{R:LV→Hp→Prop}:∀ {r:End},(r.wk m ks).sat R→r.sat fun v hp=>∃v' dI,q9 m ks ⟨[v],hp⟩=some ⟨[v'],dI⟩∧R v' dI
 | .leaf v hp,h=>by
  simp only[End.wk]at h
  split at h
  ·rename_i v' dI h1;exact⟨v',dI,h1,h⟩
  ·exact h.elim
 | .ite b x y,h=>⟨fun e=>nv (h.1 e),fun e=>nv (h.2 e)⟩
 | .need p x,h=>⟨h.1,nv h.2⟩
 | .fail,h=>h
theorem gI.wk{P:Program}{f:FuncId}{args:List LV}{hp:Hp}{t:End}(ks:List Wk)(h:gI P f args hp t):gI P f args hp (t.wk (.of hp) ks):=by
 intro R hs β w vals hh eA;refine(h _ (nv hs) β w vals hh eA).mono ?_
 rintro e w' ⟨val,β',r,dI,rfl,⟨v',hp2,h1,h2⟩,hd,hr⟩
 obtain⟨β2,h3⟩:=aaQ (u4.ba hp) ks h1 (vals:= [val]) ⟨.cons hd .nil,hr⟩;obtain⟨h4,h5⟩:=h3
 cases h4 with
 |cons h6 _=>exact⟨val,β2,v',hp2,rfl,h2,h6,h5⟩
theorem Ex.dx{P:Program}{m:Hp}{c:Code}{X:Type}(μ:X→Nat)(S:X→St)(I:X→Prop)(rnd F:X→aW)(h:∀x,I x→Ex P m c (S x) (rnd x))
  (hr:∀x R,I x→(F x).sat R→(rnd x).sat fun e s=>(e= .normal∧∃y,s=S y∧I y∧μ y<μ x∧(F y).sat R)∨(e≠ .normal∧R e s)) {x:X} (hx:I x):Ex P m (.loop c) (S x) (F x):=by
 intro W β₀ R Q hs hq β a w aaC
 have key:∀ (n:Nat) (y:X),I y→μ y<n→(F y).sat R→∀β a w,Rel W m β₀ β (S y) a w→Code.rounds P c Q n a w:=by
  intro n
  induction n with
  |zero=>intro y _ h0;omega
  |succ n ih=>
   intro y hy hn hF β a w ov;rw[rounds_succ];refine h y hy W β₀ _ _ (hr y R hy hF) ?_ β a w ov
   rintro e a w ⟨t,β',h1,h2⟩
   rcases h1 with⟨rfl,z,rfl,hz,dU,hF'⟩|⟨gD,h1⟩
   ·exact ih z hz (by omega) hF' β' a w h2
   ·cases e with
    |normal=>exact absurd rfl gD
    |exit _=>exact hq _ _ _ ⟨t,β',h1,h2⟩
    |goto _=>exact hq _ _ _ ⟨t,β',h1,h2⟩
    |ret=>exact hq _ _ _ ⟨t,β',h1,h2⟩
    |panic _=>exact hq _ _ _ ⟨t,β',h1,h2⟩
    |outgrown=>exact hq _ _ _ ⟨t,β',h1,h2⟩
 exact wp_loop_rounds (μ x+1) (key _ x hx (Nat.lt_succ_self _) hs β a w aaC)
theorem Ex.need{P:Program}{m:Hp}{c:Code}{st:St}{p:Prop}{r:aW}(h:p→Ex P m c st r):Ex P m c st (.need p r):=
 fun W β₀ R Q hs hq β a w hr=>h hs.1 W β₀ R Q hs.2 hq β a w hr
def aD(fn:Func):Code:=fn.body.getD .skip
def je(c:Code)(id:Nat):List Code:=(ME c).filterMap fun p=>if p.1=id then some p.2 else none
def a9(fn:Func)(id:Nat):Code:=match je (aD fn) id with
 | [.loop b]=>b
 |_=>.ret
def rI:List Code→Bool
 | [.loop _]=>true
 |_=>false
theorem Vu{fn:Func}{id:Nat}(h:rI (je (aD fn) id)=true):je (aD fn) id= [.loop (a9 fn id)]:=by
 unfold a9;generalize je (aD fn) id=l at*;unfold rI at h
 split at h
 ·rfl
 ·cases h
theorem Vv{LT:dL}{id:Nat}{f:St→aW}(h:BH LT id=some f):(id,f)∈LT:=by
 induction LT with
 |nil=>cases h
 |cons p l ih=>
  obtain⟨i,g⟩:=p;simp only[BH]at h
  split at h
  ·rename_i e;subst e;cases h;simp
  ·exact List.mem_cons_of_mem _ (ih h)
theorem aJ.bW{P:Program}{m:Hp}{LT:dL}{fn:Func}(h:∀p∈LT,rI (je (aD fn) p.1)=true∧∀st,Ex P m (.loop (a9 fn p.1)) st (p.2 st)):aJ P m LT (aD fn):=by
 refine aJ.of fun id f c' hf hm st=>?_;obtain⟨h1,h2⟩:=h _ (Vv hf);have:c'∈je (aD fn) id:=List.mem_filterMap.2 ⟨(id,c'),hm,by simp⟩;rw[Vu h1]at this;simp at this;subst this;exact h2 st
def cY(P:Program)(tab:List (FuncId×ao))(LT:dL)(fn:Func)(id:Nat)(hp:Hp)(ws:Exit→List Wk)(st:St):aW:=(exec P (Ru tab) fork hp LT (a9 fn id) st).wk (.of hp) ws
theorem Ry{P:Program}(lz:P.follows .mixedOrders=true){tab:List (FuncId×ao)}(qQ:∀p∈tab,p.2.Ok P p.1){LT:dL}{fn:Func}{id:Nat}{hp:Hp}{ws:Exit→List Wk}{st:St}(hL:aJ P hp LT (a9 fn id)):
  Ex P hp (a9 fn id) st (cY P tab LT fn id hp ws st):=(Ex.Rp (aaM qQ) lz hL rfl).wk ws
def aN(P:Program)(tab:List (FuncId×ao))(LT:dL)(fn:Func)(args:List LV)(hp:Hp)(ks:List Wk):End:=((exec P (Ru tab) fork hp LT (aD fn) (entry fn args hp)).ends P fn).wk (.of hp) ks
theorem au{P:Program}(lz:P.follows .mixedOrders=true){tab:List (FuncId×ao)}(qQ:∀p∈tab,p.2.Ok P p.1){f:FuncId}{fn:Func}(hf:P.funcs[f]? =some fn)(hb:fn.body.isSome=true){LT:dL}{args:List LV}{hp:Hp}{ks:List Wk}(hL:aJ P hp LT (aD fn)):
  gI P f args hp (aN P tab LT fn args hp ks):=by
 have gR:fn.body=some (aD fn):=by
  unfold aD
  cases h:fn.body with
  |none=>rw[h]at hb;cases hb
  |some c=>rfl
 exact(MH hf gR (Ex.Rp (A:=fork) (aaM qQ) lz hL rfl)).wk ks
theorem gI.use{P:Program}{f:FuncId}{args:List LV}{hp:Hp}{t:End}(h:gI P f args hp t){V:LV}{D:List (Nat×Item)}(hs:t.sat fun v dI=>v=V∧dI=aV D hp){Q:LV→List (Nat×Item)→Prop}(hQ:Q V D):
  iA P f args hp fun v dI=>∃d,Q v d∧dI=aV d hp:=by
 refine h _ ?_
 have key:∀ {t:End},(t.sat fun v dI=>v=V∧dI=aV D hp)→t.sat fun v dI=>∃d,Q v d∧dI=aV d hp:=by
  intro t
  induction t with
  |leaf v dI=>rintro⟨rfl,rfl⟩;exact⟨D,hQ,rfl⟩
  |ite b x y ihx ihy=>exact fun h=>⟨fun e=>ihx (h.1 e),fun e=>ihy (h.2 e)⟩
  |need p x ih=>exact fun h=>⟨h.1,ih h.2⟩
  |fail=>exact fun h=>h
 exact key hs
def zp(l:List SV):List SV:=
 if l.length=32 then HQ 0 32 .u8 l else if l.length=8 then HQ 0 8 .u64 (HQ 0 8 .u8 l)else if l.length=16 then HQ 0 16 .u64 l else l
theorem MQ{β:Env}{L:Nat→Option Kd}{l:List SV}{vs:List Value}(h:bz β L l vs):bz β L (zp l) vs:=by
 unfold zp
 split
 ·exact mN h
 ·split
  ·exact mN (mN h)
  ·split
   ·exact mN h
   ·exact h
def ao.sym(e:ao):ao:=⟨e.tys,fun args hp=>e.run (args.map fun a=>(a.du SV.symm).onL zp) (hp.map (Option.map (Item.du SV.symm)))⟩
theorem aaR{β:Env}{L:Nat→Option Kd}{s:SV}{v:Value}:(s.symm).den β L v↔s.den β L v:=by cases s<;>exact Iff.rfl
theorem Vw{β:Env}{L:Nat→Option Kd}{s:SV}{vs:List Value}:(s.symm).jP β L vs↔s.jP β L vs:=by cases s<;>exact Iff.rfl
theorem BR{β:Env}{L:Nat→Option Kd}:kA β β L L SV.symm:=⟨aaR.2,fun _ _ _=>rfl,fun _ _ _ h=>h⟩
theorem BS{β:Env}{L:Nat→Option Kd}:∀ {l:List SV} {vs:List Value},bz β L (l.map SV.symm) vs→bz β L l vs
 | [],_,h=>h
 |s::l,_,h=>by
  cases h with
  |cons h1 h2=>exact .cons (Vw.1 h1) (BS h2)
theorem Vx{β:Env}{L:Nat→Option Kd}{w:World}{i:Nat}{x:Item}(h:fw β L w i (x.du SV.symm)):fw β L w i x:=by
 cases x with
 |bH cells e=>obtain⟨c,fz,h1,h2,h3⟩:=h;exact⟨c,fz,h1,h2,BS h3⟩
 |_=>exact h
theorem jw:∀ (d:List (Nat×Item)) {hp hp2:Hp} {j:Nat} {x:Item},(∀ (j:Nat) (x:Item),hp[j]? =some (some x)→∃y,hp2[j]? =some (some y)∧(y=x∨y=x.du SV.symm))→(aV d hp)[j]? =some (some x)→∃y,(aV d hp2)[j]? =some (some y)∧(y=x∨y=x.du SV.symm)
 | [],_,_,j,x,h,hj=>h j x hj
 |(i,z)::d,hp,hp2,j,x,h,hj=>by
  refine jw d (hp:=setAt hp i z) (hp2:=setAt hp2 i z) (fun k y hk=>?_) hj
  by_cases e:k=i
  ·subst e;rw[dJ]at hk;cases hk;exact⟨z,dJ _ _ _,.inl rfl⟩
  ·obtain⟨y',h1,h2⟩:=h k y ((cE hp i z k y e).1 hk);exact⟨y',(cE hp2 i z k y' e).2 h1,h2⟩
theorem n8:∀ (d:List (Nat×Item)) {hp hp2:Hp},kd hp=kd hp2→kd (aV d hp)=kd (aV d hp2)
 | [],_,_,h=>h
 |(i,z)::d,hp,hp2,h=>n8 d (hp:=setAt hp i z) (hp2:=setAt hp2 i z) (by funext j;rw[dt,dt,h])
theorem ao.Ok.sym{P:Program}{f:FuncId}{e:ao}(he:e.Ok P f):e.sym.Ok P f:=by
 refine⟨fun args hp Q h β w vals hh eA=>?_⟩;generalize Vt:hp.map (Option.map (Item.du SV.symm))=hp2;have hk:kd hp2=kd hp:=by rw[← Vt];exact vD hp
 have hh2:bB w hp2 β β hp2 w:=Vt▸(hh.relabel BR).self
 have awg:bX (LV.den β (kd hp2)) (args.map fun a=>(a.du SV.symm).onL zp) vals:=by
  rw[hk];exact eA.yE fun a b h=>LV.ta (fun _ _=>MQ) (BR.lv h)
 have hto:∀ (j:Nat) (x:Item),hp[j]? =some (some x)→∃y,hp2[j]? =some (some y)∧(y=x∨y=x.du SV.symm):=by
  intro j x hj;refine⟨x.du SV.symm,?_,.inr rfl⟩;rw[← Vt,List.getElem?_map,hj];rfl
 have hof:∀ (j:Nat) (y:Item),hp2[j]? =some (some y)→∃x,hp[j]? =some (some x)∧y=x.du SV.symm:=by
  intro j y hj;rw[← Vt]at hj;exact zk hj
 have et:(e.run (args.map fun a=>(a.du SV.symm).onL zp) hp2).holds Q:=Vt▸h;refine(he.calls _ _ Q et β w vals hh2 awg).mono ?_
 rintro en w' ⟨val,β',r,dI,rfl,⟨d,hq,rfl⟩,hd,h'⟩
 have hk2:kd (aV d hp2)=kd (aV d hp):=n8 d hk;refine⟨val,β',r,aV d hp,rfl,⟨d,hq,rfl⟩,by rw[← hk2];exact hd,?_⟩
 have iu:∀ {x y:Item} {i b:Nat},(y=x∨y=x.du SV.symm)→(cw β' y i b↔cw β' x i b):=by
  rintro x y i b (rfl|rfl)
  ·exact Iff.rfl
  ·exact cw.du rfl rfl
 refine⟨fun j x hj=>?_,fun i j x y b hi hj h1 h2=>?_,?_,fun i x b hi ho=>?_,h'.os,h'.output,h'.size,fun b hb sO=>?_,fun pm v t l hr=>?_,h'.from_⟩
 ·obtain⟨y,h1,h2⟩:=jw d hto hj;rw[← hk2];have:=h'.items j y h1;rcases h2 with rfl|rfl
  ·exact this
  ·exact Vx this
 ·obtain⟨x',a1,a2⟩:=jw d hto hi;obtain⟨y',b1,b2⟩:=jw d hto hj;exact h'.inj i j x' y' b a1 b1 ((iu a2).2 h1) ((iu b2).2 h2)
 ·rw[← hk,← hk2];exact h'.first
 ·obtain⟨x',a1,a2⟩:=jw d hto hi;rcases h'.own i x' b a1 ((iu a2).2 ho)with k|⟨y,k1,k2⟩
  ·exact .inl k
  ·obtain⟨x0,k3,rfl⟩:=hof i y k1;exact .inr ⟨x0,k3,(cw.du rfl rfl).1 k2⟩
 ·refine h'.al b hb fun⟨j,y,h1,h2⟩=>sO ?_;obtain⟨x0,k3,rfl⟩:=hof j y h1;exact⟨j,x0,k3,(cw.du rfl rfl).1 h2⟩
 ·obtain⟨h1,h2⟩:=h'.reads pm v t l hr;refine⟨h1,fun b hb=>⟨(h2 b hb).1,fun⟨j,x,hj,ho⟩=>(h2 b hb).2 ?_⟩⟩;obtain⟨y,k1,k2⟩:=jw d hto hj;exact⟨j,y,k1,(iu k2).2 ho⟩
structure aY (T X:Type) where
 rd:T→Option X
 wr:X→T
 ok:∀ {t x},rd t=some x→t=wr x
def aY.kB{T X Y:Type}(c:aY T X)(f:X→Y)(g:Y→X)(h:∀x,g (f x)=x):aY T Y where
 rd t:=(c.rd t).map f
 wr y:=c.wr (g y)
 ok:=by
  intro t y hy;obtain⟨x,hx,rfl⟩:=map_some hy;rw[h];exact c.ok hx
def aC(k:IntKind):aY SV Int where
 rd s:=match s with
  | .int k' (.sym n)=>if k'=k then some n else none
  |_=>none
 wr n:=.int k (.sym n)
 ok:=by
  intro s x h
  split at h
  ·split at h
   ·rename_i e;subst e;cases h;rfl
   ·cases h
  ·cases h
def jX:aY SV Bool where
 rd s:=match s with
  | .bool (.sym b)=>some b
  |_=>none
 wr b:=.bool (.sym b)
 ok:=by
  intro s x h
  split at h
  ·cases h;rfl
  ·cases h
def fR(pm nn:Bool)(t:Ty):aY SV (List t.D) where
 rd s:=match s with
  | .rd ly nn' t' l=>if h:t'=t then(if ly=pm∧nn'=nn then some (h▸l)else none)else none
  |_=>none
 wr l:=.rd pm nn t l
 ok:=by
  intro s x h
  split at h
  ·split at h
   ·rename_i e;subst e
    split at h
    ·rename_i e;obtain⟨rfl,rfl⟩:=e;cases h;rfl
    ·cases h
   ·cases h
  ·cases h
def aaS:aY SV Unit where
 rd s:=match s with
  | .fO (.slice none 0 0)=>some ()
  |_=>none
 wr _:=.fO (.slice none 0 0)
 ok:=by
  intro s x h
  split at h
  ·rfl
  ·cases h
def aU(b o:Nat):aY SV Unit where
 rd s:=match s with
  | .ptr b' o'=>if b'=b∧o'=o then some ()else none
  |_=>none
 wr _:=.ptr b o
 ok:=by
  intro s x h
  split at h
  ·split at h
   ·rename_i e;obtain⟨rfl,rfl⟩:=e;rfl
   ·cases h
  ·cases h
def u5(i v:Nat):aY SV Unit where
 rd s:=match s with
  | .sl b' o'=>if b'=i∧o'=v then some ()else none
  |_=>none
 wr _:=.sl i v
 ok:=by
  intro s x h
  split at h
  ·split at h
   ·rename_i e;obtain⟨rfl,rfl⟩:=e;rfl
   ·cases h
  ·cases h
def tc(t:Ty)(n:Nat):aY SV (List t.D) where
 rd s:=match s with
  | .arr t' n' l=>if h:t'=t then(if n'=n then some (h▸l)else none)else none
  |_=>none
 wr l:=.arr t n l
 ok:=by
  intro s x h
  split at h
  ·split at h
   ·rename_i e;subst e
    split at h
    ·rename_i e;subst e;cases h;rfl
    ·cases h
   ·cases h
  ·cases h
noncomputable section
variable {T X Y Z:Type}
def ae:aY (List T) Unit where
 rd l:=match l with
  | []=>some ()
  |_::_=>none
 wr _:= []
 ok:=by
  intro s x h
  split at h
  ·rfl
  ·cases h
def ag(a:aY T X)(r:aY (List T) Y):aY (List T) (X×Y) where
 rd l:=match l with
  | []=>none
  |x::l=>match a.rd x,r.rd l with
   |some x,some y=>some (x,y)
   |_,_=>none
 wr p:=a.wr p.1::r.wr p.2
 ok:=by
  intro s x h
  split at h
  ·cases h
  ·split at h
   ·rename_i h1 h2;cases h;rw[a.ok h1,r.ok h2]
   ·cases h
def aq(a:aY T Unit)(r:aY (List T) Y):aY (List T) Y where
 rd l:=match l with
  | []=>none
  |x::l=>match a.rd x,r.rd l with
   |some _,some y=>some y
   |_,_=>none
 wr p:=a.wr ()::r.wr p
 ok:=by
  intro s x h
  split at h
  ·cases h
  ·split at h
   ·rename_i h1 h2;cases h;rw[a.ok h1,r.ok h2]
   ·cases h
def aaT(a:aY T Unit)(r:aY (List T) Y):Nat→aY (List T) Y
 |0=>r
 |n+1=>aq a (aaT a r n)
end
def Rz(k:IntKind):List SV→Option (List Int)
 | []=>some []
 | .int k' (.sym n)::l=>if k'=k then(Rz k l).map (n:: ·)else none
 |_::_=>none
theorem HT{k:IntKind}:∀ {l:List SV} {m:List Int},Rz k l=some m→l=m.map fun n=>.int k (.sym n)
 | [],m,h=>by cases h;rfl
 |s::l,m,h=>by
  unfold Rz at h
  split at h
  ·rename_i e;cases e
  ·rename_i e;injection e with e1 e2;subst e1 e2
   split at h
   ·rename_i e;subst e;obtain⟨m',h1,rfl⟩:=map_some h;rw[HT h1];rfl
   ·cases h
  ·cases h
def RA(k:IntKind)(n:Nat):aY (List SV) (List Int) where
 rd l:=match Rz k l with
  |some m=>if l.length=n then some m else none
  |none=>none
 wr l:=(List.range n).map fun i=>.int k (.sym (l.getD i 0))
 ok:=by
  intro s x h
  split at h
  ·rename_i m hm
   split at h
   ·rename_i hn
    cases h
    have:=HT hm;subst this;simp only[List.length_map]at hn;subst hn
    apply List.ext_getElem?
    intro i;simp only[List.getElem?_map];rcases Nat.lt_or_ge i x.length with h1|h1
    ·rw[List.getElem?_range h1];simp[List.getD_eq_getElem?_getD,List.getElem?_eq_getElem h1]
    ·rw[List.getElem?_eq_none h1,List.getElem?_eq_none (by simpa using h1)];rfl
   ·cases h
  ·cases h
def awh(k:IntKind)(n:Nat){Y:Type}(r:aY (List SV) Y):aY (List SV) (List Int×Y) where
 rd l:=match(RA k n).rd (l.take n),r.rd (l.drop n)with
  |some x,some y=>some (x,y)
  |_,_=>none
 wr p:=(RA k n).wr p.1++r.wr p.2
 ok:=by
  intro s x h
  split at h
  ·rename_i h1 h2
   cases h
   rw[← (RA k n).ok h1,← r.ok h2,List.take_append_drop]
  ·cases h
noncomputable section
variable {X Y:Type}
def ah(s:aY SV X):aY LV X where
 rd x:=match x with
  | .one (.sc x)=>s.rd x
  |_=>none
 wr x:=.one (.sc (s.wr x))
 ok:=by
  intro x v h
  split at h
  ·rw[s.ok h]
  ·cases h
def iD(r:aY (List SV) X):aY LV X where
 rd x:=match x with
  | .one (.agg x)=>r.rd x
  |_=>none
 wr x:=.one (.agg (r.wr x))
 ok:=by
  intro x v h
  split at h
  ·rw[r.ok h]
  ·cases h
def aBN:aY LV Unit where
 rd x:=match x with
  | .bC=>some ()
  |_=>none
 wr _:=.bC
 ok:=by
  intro x v h
  split at h
  ·rfl
  ·cases h
def kY(e:TypeId)(r:aY (List SV) X):aY (Option Item) X where
 rd x:=match x with
  |some (.bH cells e')=>if e'=e then r.rd cells else none
  |_=>none
 wr x:=some (.bH (r.wr x) e)
 ok:=by
  intro x v h
  split at h
  ·split at h
   ·rename_i e;subst e;rw[r.ok h]
   ·cases h
  ·cases h
def eX(ver:Nat)(t:Ty):aY (Option Item) (List t.D) where
 rd x:=match x with
  |some (.own ver' t' l)=>if h:t'=t then(if ver'=ver then some (h▸l)else none)else none
  |_=>none
 wr l:=some (.own ver t l)
 ok:=by
  intro x v h
  split at h
  ·split at h
   ·rename_i e;subst e
    split at h
    ·rename_i e;subst e;cases h;rfl
    ·cases h
   ·cases h
  ·cases h
def bg(a:aY (List LV) X)(b:aY Hp Y):aY St (X×Y) where
 rd s:=match a.rd s.fr,b.rd s.hp with
  |some x,some y=>some (x,y)
  |_,_=>none
 wr p:=⟨a.wr p.1,b.wr p.2⟩
 ok:=by
  intro s x h
  split at h
  ·rename_i h1 h2
   cases h
   obtain⟨fr,hp⟩:=s;have e1:=a.ok h1;have e2:=b.ok h2;simp only at e1 e2;subst e1 e2;rfl
  ·cases h
end
abbrev jk(n:Nat){Y:Type}(r:aY (List LV) Y):aY (List LV) Y:=aaT aBN r n
theorem bX.mid{α β:Type}{R:α→β→Prop}:∀ {x:List α} {a:α} {y:List α} {vs:List β},bX R (x++a::y) vs→∃u v w,vs=u++v::w∧bX R x u∧R a v∧bX R y w
 | [],a,y,_,h=>by
  cases h with
  |cons h t=>exact⟨[],_,_,rfl,.nil,h,t⟩
 |b::x,a,y,_,h=>by
  cases h with
  |cons h t=>
   obtain⟨u,v,w,rfl,h1,h2,h3⟩:=bX.mid t;exact⟨_::u,v,w,rfl,.cons h h1,h2,h3⟩
theorem iA.amA{P:Program}{f:FuncId}{x y:List LV}{pm:Bool}{t:Ty}{l:List t.D}{hp:Hp}{R:LV→Hp→Prop}(h1:l= []→iA P f (x++ .one (.sc (.fO (.slice none 0 0)))::y) hp R)
  (h2:iA P f (x++ .one (.sc (.rd pm true t l))::y) hp R):iA P f (x++ .one (.sc (.rd pm false t l))::y) hp R:=by
 intro β w vals hh eA;obtain⟨u,v,w',rfl,a1,a2,a3⟩:=eA.mid;obtain⟨b1,_,b3⟩:=(a2:SV.den β (kd hp) (.rd pm false t l) v);obtain⟨a,n,c,rfl,hn,hc,hz,_⟩:=(hh.avB b3).1
 cases a with
 |none=>
  have Rh:=hz rfl;subst Rh;have xB:n=0:=by omega
  subst xB;exact h1 (List.eq_nil_of_length_eq_zero hn.symm) β w _ hh (a1.append (.cons ⟨b1,rfl⟩ a3))
 |some a=>exact h2 β w _ hh (a1.append (.cons ⟨b1,fun _=>by simp[notNil],b3⟩ a3))
def RB{X:Type}(C:aY St X)(m:u4)(ks:List Wk)(F:X→aW)(st:St):aW:=match q9 m ks st with
 |some pW=>match C.rd pW with
  |some x=>F x
  |none=>.fail
 |none=>.fail
theorem HU{P:Program}{hp:Hp}{c:Code}{X:Type}{C:aY St X}{m:u4}(hm:m.Ok hp){ks:List Wk}{F:X→aW}(h:∀x,Ex P hp c (C.wr x) (F x)):∀st,Ex P hp c st (RB C m ks F st):=by
 intro st;unfold RB
 split
 ·rename_i pW hk
  split
  ·rename_i x hx;exact Ex.pre hm ks hk (by rw[C.ok hx];exact h x)
  ·exact fun _ _ _ _ hs=>hs.elim
 ·exact fun _ _ _ _ hs=>hs.elim
abbrev dx{X:Type}(C:aY St X)(m:Nat)(ks:List Wk)(F:X→aW)(st:St):aW:=RB C ⟨m,fun _=>false⟩ ks F st
theorem bQ{P:Program}{hp:Hp}{c:Code}{X:Type}{C:aY St X}{ks:List Wk}{F:X→aW}(h:∀x,Ex P hp c (C.wr x) (F x)):∀st,Ex P hp c st (dx C hp.length ks F st):=HU (u4.aBL hp) h
abbrev cg{X:Type}(C:aY St X)(hp:Hp)(ks:List Wk)(F:X→aW)(st:St):aW:=RB C (.of hp) ks F st
theorem ck{P:Program}{hp:Hp}{c:Code}{X:Type}{C:aY St X}{ks:List Wk}{F:X→aW}(h:∀x,Ex P hp c (C.wr x) (F x)):∀st,Ex P hp c st (cg C hp ks F st):=HU (u4.ba hp) h
theorem wZ{P:Program}(lz:P.follows .mixedOrders=true){tab:List (FuncId×ao)}(qQ:∀p∈tab,p.2.Ok P p.1){LT:dL}{fn:Func}{id:Nat}{hp:Hp}{ws:Exit→List Wk}(hL:aJ P hp LT (a9 fn id))
  {X:Type} (μ:X→Nat) (S:X→St) (I:X→Prop) (F:X→aW) {T:X→aW} (hT:∀x,I x→cY P tab LT fn id hp ws (S x)=T x)
  (hr:∀x R,I x→(F x).sat R→(T x).sat fun e s=>(e= .normal∧∃y,s=S y∧I y∧μ y<μ x∧(F y).sat R)∨(e≠ .normal∧R e s)) (x:X) (hx:I x):Ex P hp (.loop (a9 fn id)) (S x) (F x):=
 Ex.dx μ S I T F (fun x hx=>hT x hx▸Ry lz qQ hL) hr hx
theorem aw{P:Program}:∀p∈([]:List (FuncId×ao)),p.2.Ok P p.1:=fun _ h=>by cases h
theorem aj{P:Program}{f:FuncId}{e:ao}{l:List (FuncId×ao)}(h:e.Ok P f)(hl:∀p∈l,p.2.Ok P p.1):∀p∈(f,e)::l,p.2.Ok P p.1:=fun p hp=>by
 rcases List.mem_cons.1 hp with rfl|hp
 ·exact h
 ·exact hl p hp
theorem jh{P:Program}{hp:Hp}{fn:Func}:∀p∈([]:dL),rI (je (aD fn) p.1)=true∧∀st,Ex P hp (.loop (a9 fn p.1)) st (p.2 st):=fun _ h=>by cases h
theorem jc{P:Program}{hp:Hp}{fn:Func}{i:Nat}{f:St→aW}{l:dL}(h1:rI (je (aD fn) i)=true)(h2:∀st,Ex P hp (.loop (a9 fn i)) st (f st))
  (hl:∀p∈l,rI (je (aD fn) p.1)=true∧∀st,Ex P hp (.loop (a9 fn p.1)) st (p.2 st)):∀p∈(i,f)::l,rI (je (aD fn) p.1)=true∧∀st,Ex P hp (.loop (a9 fn p.1)) st (p.2 st):=fun p hp=>by
 rcases List.mem_cons.1 hp with rfl|hp
 ·exact⟨h1,h2⟩
 ·exact hl p hp
def ao.of{X Y:Type}(tys:List (Option Ty))(A:aY (List LV) X)(H:aY Hp Y)(out:X→Y→Out):ao:=⟨tys,fun args hp=>match A.rd args,H.rd hp with
 |some x,some y=>out x y
 |_,_=>.fail⟩
theorem ao.ba{P:Program}{f:FuncId}(he:vt P f){X Y:Type}{tys:List (Option Ty)}{A:aY (List LV) X}{H:aY Hp Y}{out:X→Y→Out}
  (h:∀x y Q,(out x y).holds Q→iA P f (A.wr x) (H.wr y) fun v dI=>∃d,Q v d∧dI=aV d (H.wr y)):(ao.of tys A H out).Ok P f:=by
 refine⟨fun args hp Q hq=>?_⟩;simp only[ao.of]at hq
 split at hq
 ·rename_i x y hx hy;rw[A.ok hx,H.ok hy];exact(h x y Q hq).done he
 ·exact hq.elim
def ao.or(e e':ao):ao:=⟨e.tys,fun args hp=>match e.run args hp with
 | .fail=>e'.run args hp
 |o=>o⟩
theorem ao.Ok.or{P:Program}{f:FuncId}{e e':ao}(h:e.Ok P f)(h':e'.Ok P f):(e.or e').Ok P f:=by
 refine⟨fun args hp Q hq=>?_⟩;simp only[ao.or]at hq
 split at hq
 ·exact h'.calls args hp Q hq
 ·exact h.calls args hp Q hq
abbrev ao.cH{X Y:Type}(tys:List (Option Ty))(A:aY (List LV) X)(H:aY Hp Y)(out:X→Y→Out):ao:=(ao.of tys A H out).sym
theorem BT{l:List Int}{j:Nat}(h:j<l.length):l.drop j=l.getD j 0::l.drop (j+1):=by
 rw[List.drop_eq_getElem_cons h,List.getD_eq_getElem?_getD,List.getElem?_eq_getElem h];rfl
def By(z:Int):Prop:=0≤z∧z<256
def ax(l:List Int):Prop:=∀z∈l,By z
theorem ax.take{l:List Int}(h:ax l)(n:Nat):ax (l.take n):=fun z hz=>h z (List.mem_of_mem_take hz)
theorem ax.drop{l:List Int}(h:ax l)(n:Nat):ax (l.drop n):=fun z hz=>h z (List.mem_of_mem_drop hz)
theorem ax.append{l m:List Int}(h:ax l)(h':ax m):ax (l++m):=fun z hz=>by
 rcases List.mem_append.1 hz with k|k
 ·exact h z k
 ·exact h' z k
def upto{σ:Type}(f:Nat→σ→σ):Nat→Nat→σ→σ
 |_,0,s=>s
 |k,m+1,s=>upto f (k+1) m (f k s)
theorem BU{σ:Type}(f:Nat→σ→σ):∀ (m k:Nat) (s:σ),upto f k (m+1) s=f (k+m) (upto f k m s)
 |0,k,s=>rfl
 |m+1,k,s=>by
  show upto f (k+1) (m+1) (f k s)=_;rw[BU f m (k+1)];show f (k+1+m) (upto f (k+1) m (f k s))=f (k+(m+1)) (upto f (k+1) m (f k s));rw[show k+1+m=k+(m+1)from by omega]
theorem HV{σ:Type}(f:Nat→σ→σ):∀ (m k j:Nat) (s:σ),upto f k (m+j) s=upto f (k+m) j (upto f k m s)
 |0,k,j,s=>by simp[upto]
 |m+1,k,j,s=>by
  rw[show m+1+j=(m+j)+1 from by omega];show upto f (k+1) (m+j) (f k s)=_;rw[HV f m (k+1) j,show k+1+m=k+(m+1)from by omega];rfl
theorem td{σ:Type}{f:Nat→σ→σ}(I:Nat→σ→Prop){n:Nat}(hI:∀k s,k<n→I k s→I (k+1) (f k s)):∀ (m k:Nat) (s:σ),k+m≤n→I k s→I (k+m) (upto f k m s)
 |0,_,_,_,h=>h
 |m+1,k,s,hn,h=>by
  have:=td I hI m (k+1) (f k s) (by omega) (hI k s (by omega) h);rw[show k+1+m=k+(m+1)from by omega]at this;exact this
theorem zq{σ:Type}{f g:Nat→σ→σ}(I:Nat→σ→Prop){n:Nat}(hI:∀k s,k<n→I k s→I (k+1) (f k s))(hfg:∀k s,k<n→I k s→f k s=g k s):∀ (m k:Nat) (s:σ),k+m≤n→I k s→upto f k m s=upto g k m s
 |0,_,_,_,_=>rfl
 |m+1,k,s,hn,h=>by
  show upto f (k+1) m (f k s)=upto g (k+1) m (g k s);rw[← hfg k s (by omega) h];exact zq I hI hfg m (k+1) (f k s) (by omega) (hI k s (by omega) h)
theorem BV(g:Nat→Int):∀ (m k:Nat) (o:List Int),o.length=k+m→upto (fun k o=>o.set k (g k)) k m o=o.take k++(List.range m).map fun i=>g (k+i)
 |0,k,o,h=>by simp[upto,List.take_of_length_le (show o.length≤k by omega)]
 |m+1,k,o,h=>by
  show upto (fun k o=>o.set k (g k)) (k+1) m (o.set k (g k))=_;rw[BV g m (k+1) _ (by simp;omega),List.range_succ_eq_map,List.map_cons,List.map_map]
  have e:(o.set k (g k)).take (k+1)=o.take k++ [g k]:=by
   rw[List.take_add_one,List.take_set_of_le (Nat.le_refl _)];simp[show k<o.length by omega]
  rw[e,List.append_assoc]
  congr 1
  simp only[List.singleton_append,Nat.add_zero]
  congr 1
  apply List.map_congr_left
  intro i _;show g (k+1+i)=g (k+(i+1))
  congr 1;omega
theorem jx(g:Nat→Int){n:Nat}{o:List Int}(h:o.length=n):upto (fun k o=>o.set k (g k)) 0 n o=(List.range n).map g:=by
 rw[BV g n 0 o (by omega)];simp
theorem HW{l:List Int}{n:Nat}(h:l.length=n):(List.range n).map (fun i=>l.getD i 0)=l:=by
 subst h
 apply List.ext_getElem?
 intro i;simp only[List.getElem?_map];rcases Nat.lt_or_ge i l.length with h1|h1
 ·rw[List.getElem?_range h1];simp[List.getD_eq_getElem?_getD,List.getElem?_eq_getElem h1]
 ·rw[List.getElem?_eq_none h1,List.getElem?_eq_none (by simpa using h1)];rfl
theorem vE{σ τ:Type}(f:Nat→σ→σ)(g:Nat→τ→τ):∀ (m k:Nat) (s:σ) (t:τ),upto (fun k (p:σ×τ)=>(f k p.1,g k p.2)) k m (s,t)=(upto f k m s,upto g k m t)
 |0,_,_,_=>rfl
 |m+1,k,s,t=>vE f g m (k+1) (f k s) (g k t)
theorem dP{P:Program}(lz:P.follows .mixedOrders=true){tab:List (FuncId×ao)}(qQ:∀p∈tab,p.2.Ok P p.1){LT:dL}{fn:Func}{id j:Nat}{hp:Hp}{ws:Exit→List Wk}(hL:aJ P hp LT (a9 fn id))
  {σ:Type} (n:Nat) (S:Nat→σ→St) (X:σ→St) (f:Nat→σ→σ) (I:Nat→σ→Prop)
  (hT:∀k s R,k≤n→I k s→(k<n→R .normal (S (k+1) (f k s)))→(k=n→R (.exit j) (X s))→(cY P tab LT fn id hp ws (S k s)).sat R)
  (hI:∀k s,k<n→I k s→I (k+1) (f k s)) (k:Nat) (s:σ) (hk:k≤n) (h:I k s):Ex P hp (.loop (a9 fn id)) (S k s) (.leaf (.exit j) (X (upto f k (n-k) s))):=by
 refine wZ (ws:=ws) (T:=fun x=>cY P tab LT fn id hp ws (S x.1 x.2)) lz qQ hL (fun x:Nat×σ=>n-x.1) (fun x=>S x.1 x.2) (fun x=>x.1≤n∧I x.1 x.2) (fun x=>.leaf (.exit j) (X (upto f x.1 (n-x.1) x.2))) (fun x _=>rfl) (fun x R hx hs=>?_) (k,s) ⟨hk,h⟩;obtain⟨k,s⟩:=x;obtain⟨hk,hi⟩:=hx;simp only at hk hi hs ⊢;refine hT k s _ hk hi (fun dU=>.inl ⟨rfl,(k+1,f k s),rfl,⟨dU,hI k s dU hi⟩,by simp only;omega,?_⟩) (fun e=>.inr ⟨by simp,?_⟩)
 ·have e:n-k=(n-(k+1))+1:=by omega
  rw[e]at hs;exact hs
 ·subst e;rw[Nat.sub_self]at hs;exact hs
abbrev te(k:IntKind)(n:Nat):aY LV (List Int):=(iD (ag (tc (.int k) n) ae)).kB (fun x=>x.1) (fun l=>(l,())) (fun _=>rfl)
abbrev gJ(e:TypeId)(k:IntKind)(n:Nat):aY (Option Item) (List Int):=(kY e (ag (tc (.int k) n) ae)).kB (fun x=>x.1) (fun l=>(l,())) (fun _=>rfl)
abbrev aaU(e:TypeId)(k:IntKind)(n:Nat):aY (Option Item) (List Int):=kY e (RA k n)
end Go.Ev
end
noncomputable section
namespace Go.Proofs.YtcbjpiangpjbgaaGreat
open Go Go.Ev Go.Proofs.Tryz
open Go.IntKind (i64 signed u32 u64 wrap wrap_u32)
set_option maxRecDepth 100000
theorem mixed:Tryz.prog.follows .mixedOrders=true:=by kernel_rfl
abbrev prog:Program:=Tryz.prog
abbrev u8:Ty:=.int .u8
abbrev nI(n:Int):LV:=.one (.sc (.int .i64 (.sym n)))
abbrev nU(n:Int):LV:=.one (.sc (.int .u64 (.sym n)))
abbrev nB(b:Bool):LV:=.one (.sc (.bool (.sym b)))
abbrev bA:aY (List LV) (List Int×Unit):=ag (ah (fR false false u8)) ae
abbrev dQ(k:IntKind)(n:Nat)(l:List Int):LV:=.one (.agg [.arr (.int k) n l])
abbrev p0:aY LV Unit:=ah (aU 0 0)
def cC(n:Nat)(l:List (Nat×FM)):List FM:=(List.range n).map fun i=>match l.find? (fun p=>p.1==i)with
 |some p=>p.2
 |none=>.drop
def wsE(n:List Wk)(id:Nat)(x:List Wk):Exit→List Wk
 | .normal=>n
 | .exit i=>if i=id then x else []
 |_=> []
end Go.Proofs.YtcbjpiangpjbgaaGreat
end
noncomputable section
namespace Go.Ev
open Go
open Go.IntKind (i64 signed u32 u64 wrap wrap_u32)
theorem wrap_u64{n:Int}(h0:0≤n)(h1:n<18446744073709551616):u64.wrap n=n:=by
 simp only[wrap,IntKind.bits,signed];simp;omega
theorem jy(n:Int):u64.wrap n=n%18446744073709551616:=by
 simp only[wrap,IntKind.bits,signed];simp
theorem wrap_u8(n:Int):IntKind.u8.wrap n=n%256:=by
 simp only[wrap,IntKind.bits,signed];simp
theorem wrap_i64{n:Int}(h0: -9223372036854775808≤n)(h1:n<9223372036854775808):i64.wrap n=n:=by
 simp only[wrap,IntKind.bits,signed];simp
 split<;>omega
theorem toNat_ofInt(n:Nat)(x:Int):(BitVec.ofInt n x).toNat=(x%(2 ^ n:Nat)).toNat:=by simp[BitVec.toNat_ofInt]
theorem zr{n m:Nat}(hm:m≤n)(x:Int):(BitVec.ofInt n x&&& BitVec.ofInt n (2 ^ m-1)).toNat=(x%(2 ^ m:Nat)).toNat:=by
 rw[BitVec.toNat_and,toNat_ofInt,toNat_ofInt];have hp:(2:Nat) ^ m≤2 ^ n:=Nat.pow_le_pow_right (by omega) hm;have jn:0<(2:Nat) ^ m:=Nat.two_pow_pos m
 have e:(((2:Int) ^ m-1)%((2 ^ n:Nat):Int)).toNat=2 ^ m-1:=by
  have:((2:Int) ^ m-1)=((2 ^ m-1:Nat):Int):=by
   rw[Int.natCast_sub (by omega)];simp
  rw[this,← Int.natCast_emod,Int.toNat_natCast,Nat.mod_eq_of_lt (by omega)]
 rw[e,Nat.and_two_pow_sub_one_eq_mod]
 have h1:((x%((2 ^ n:Nat):Int)).toNat%2 ^ m:Nat)=(x%((2 ^ m:Nat):Int)).toNat:=by
  have xB:0≤x%((2 ^ n:Nat):Int):=Int.emod_nonneg _ (by have:=Nat.two_pow_pos n;omega);have C9:0≤x%((2 ^ m:Nat):Int):=Int.emod_nonneg _ (by omega)
  apply Int.ofNat_inj.1
  rw[Int.natCast_emod,Int.toNat_of_nonneg xB,Int.toNat_of_nonneg C9];refine Int.emod_emod_of_dvd _ ?_;exact Int.natCast_dvd_natCast.2 (Nat.pow_dvd_pow 2 hm)
 exact h1
theorem pZ{m:Nat}(hm:m<64)(x y:Int)(hy:y=2 ^ m-1):bd .u64 x y=x%(2 ^ m:Nat):=by
 subst hy;unfold bd;have:=zr (n:=64) (m:=m) (by omega) x;show u64.wrap ((BitVec.ofInt 64 x&&& BitVec.ofInt 64 (2 ^ m-1)).toNat:Int)=_;rw[this];have C9:0≤x%((2 ^ m:Nat):Int):=Int.emod_nonneg _ (by have:=Nat.two_pow_pos m;omega);rw[Int.toNat_of_nonneg C9];have dU:x%((2 ^ m:Nat):Int)<((2 ^ m:Nat):Int):=Int.emod_lt_of_pos _ (by have:=Nat.two_pow_pos m;omega);have hp:(2:Nat) ^ m≤2 ^ 63:=Nat.pow_le_pow_right (by omega) (by omega)
 exact wrap_u64 C9 (by have:(2:Nat) ^ 63=9223372036854775808:=by decide
                       omega)
theorem p8{m:Nat}(hm:m<63)(x y:Int)(hy:y=2 ^ m-1):bd .i64 x y=x%(2 ^ m:Nat):=by
 subst hy;unfold bd;have:=zr (n:=64) (m:=m) (by omega) x;show i64.wrap ((BitVec.ofInt 64 x&&& BitVec.ofInt 64 (2 ^ m-1)).toNat:Int)=_;rw[this];have C9:0≤x%((2 ^ m:Nat):Int):=Int.emod_nonneg _ (by have:=Nat.two_pow_pos m;omega);rw[Int.toNat_of_nonneg C9];have dU:x%((2 ^ m:Nat):Int)<((2 ^ m:Nat):Int):=Int.emod_lt_of_pos _ (by have:=Nat.two_pow_pos m;omega);have hp:(2:Nat) ^ m≤2 ^ 62:=Nat.pow_le_pow_right (by omega) (by omega)
 exact wrap_i64 (by omega) (by have:(2:Nat) ^ 62=4611686018427387904:=by decide
                               omega)
theorem rJ{m:Nat}(hm:m<8)(x y:Int)(hy:y=2 ^ m-1):bd .u8 x y=x%(2 ^ m:Nat):=by
 subst hy;unfold bd;have:=zr (n:=8) (m:=m) (by omega) x;show IntKind.u8.wrap ((BitVec.ofInt 8 x&&& BitVec.ofInt 8 (2 ^ m-1)).toNat:Int)=_;rw[this];have C9:0≤x%((2 ^ m:Nat):Int):=Int.emod_nonneg _ (by have:=Nat.two_pow_pos m;omega);rw[Int.toNat_of_nonneg C9];have dU:x%((2 ^ m:Nat):Int)<((2 ^ m:Nat):Int):=Int.emod_lt_of_pos _ (by have:=Nat.two_pow_pos m;omega);have hp:(2:Nat) ^ m≤2 ^ 7:=Nat.pow_le_pow_right (by omega) (by omega);rw[wrap_u8];exact Int.emod_eq_of_lt C9 (by omega)
theorem ee(k:IntKind)(x:Int)(n:Nat)(hn:n≤k.bits):shr k x n=x/(2 ^ n:Nat):=by
 unfold shr;rw[Int.toNat_natCast,Nat.min_eq_left hn,Int.fdiv_eq_ediv_of_nonneg]
 ·simp
 ·exact Int.le_of_lt (Int.pow_pos (by omega))
theorem iE(k:IntKind)(x:Int)(n:Nat)(hn:n≤k.bits):shl k x n=k.wrap (x*(2 ^ n:Nat)):=by
 unfold shl;rw[Int.toNat_natCast,Nat.min_eq_left hn];simp
theorem MR{n:Nat}{m:Nat}{x y:Int}(vl:0≤x)(hxn:x<(2 ^ n:Nat))(hx:x%(2 ^ m:Nat)=0)(yS:0≤y)(hy:y<(2 ^ m:Nat))(hyn:y<(2 ^ n:Nat)):
  ((BitVec.ofInt n x|||BitVec.ofInt n y).toNat:Int)=x+y:=by
 rw[BitVec.toNat_or,toNat_ofInt,toNat_ofInt,Int.emod_eq_of_lt vl hxn,Int.emod_eq_of_lt yS hyn];obtain⟨a,rfl⟩:=Int.eq_ofNat_of_zero_le vl;obtain⟨b,rfl⟩:=Int.eq_ofNat_of_zero_le yS;simp only[Int.toNat_natCast]
 have hd:a%2 ^ m=0:=by
  have:=hx;rw[← Int.natCast_emod]at this;omega
 have hb:b<2 ^ m:=by omega
 have e:a=2 ^ m*(a/2 ^ m):=(Nat.mul_div_cancel' (Nat.dvd_of_mod_eq_zero hd)).symm;have:=Nat.two_pow_add_eq_or_of_lt hb (a/2 ^ m);rw[← e]at this;rw[← this];simp
theorem nw{m:Nat}{x y:Int}(vl:0≤x)(hx:x%(2 ^ m:Nat)=0)(yS:0≤y)(hy:y<(2 ^ m:Nat))(h64:x+y<18446744073709551616):bq .u64 x y=x+y:=by
 unfold bq;have e:(2 ^ 64:Nat)=18446744073709551616:=by decide
 have h:=MR (n:=64) vl (by omega) hx yS hy (by omega);show u64.wrap ((BitVec.ofInt 64 x|||BitVec.ofInt 64 y).toNat:Int)=_;rw[h];exact wrap_u64 (by omega) h64
theorem arX{m:Nat}{x y:Int}(vl:0≤x)(hx:x%(2 ^ m:Nat)=0)(yS:0≤y)(hy:y<(2 ^ m:Nat))(h8:x+y<256):bq .u8 x y=x+y:=by
 unfold bq;have h:=MR (n:=8) vl (by omega) hx yS hy (by omega);show IntKind.u8.wrap ((BitVec.ofInt 8 x|||BitVec.ofInt 8 y).toNat:Int)=_;rw[h,wrap_u8];omega
theorem eK(k:IntKind)(x y:Int):bq k x y=bq k y x:=by
 unfold bq;rw[BitVec.or_comm]
theorem ar{n:Int}(h1: -9223372036854775808≤n)(h2:n≤9223372036854775807):i64.wrap n=n:=by
 rw[IntKind.wrap_i64];omega
theorem bI{l:List Int}{n:Nat}(h:l.length=n):List.take n (List.drop 0 l)=l:=by rw[List.drop_zero,List.take_of_length_le (by omega)]
theorem fS(k m:Nat)(hk:k<4611686018427387904):i64.wrap ((k:Int).tdiv (m:Int))=((k/m:Nat):Int):=by
 rw[Int.tdiv_eq_ediv_of_nonneg (by omega),← Int.natCast_ediv];have:k/m≤k:=Nat.div_le_self _ _;generalize k/m=q at*;exact ar (by omega) (by omega)
theorem jY(k j:Nat)(h:j≤k)(hk:k<4611686018427387904):i64.wrap ((k:Int)-(j:Int))=((k-j:Nat):Int):=by rw[ar (by omega) (by omega)];omega
theorem cS(k:Nat)(hk:k<4611686018427387904):i64.wrap ((k:Int)+1)=((k+1:Nat):Int):=by rw[ar (by omega) (by omega)];rfl
end Go.Ev
end
noncomputable section
namespace Go.Proofs.YtcbjpiangpjbgaaGreat
open Go Go.Ev Go.ChangeShapes Go.WideShapes Go.ChangeAt Go.RowKit Go.Proofs.Tryz
open Go.IntKind (i64 signed u32 u64 wrap wrap_u32)
set_option maxRecDepth 100000
theorem aaV:ownKnob Tryz.prog.godebug=none:=by kernel_rfl
theorem aaW:laidOutB Tryz.prog=true:=by kernel_rfl
theorem MS:mapsRowed Tryz.prog=true:=by kernel_rfl
theorem HX:∀t e,t<Tryz.prog.types.size→Tryz.prog.underlying t=some (.slice e)→0<Tryz.prog.cellsOf e:=slices_full_of Tryz.prog (by kernel_rfl)
structure Kept (W W':World):Prop where
 os:W'.os=W.os
 output:W'.output=W.output
 size:W.heap.size≤W'.heap.size
 block:∀b,b<W.heap.size→W'.heap[b]? =W.heap[b]?
theorem Kept.same{W W':World}(h:Kept W W'){p:MemPlace}(hp:p.block<W.heap.size):W.sameAt W' p:=by
 cases p with
 |cell b o=>exact World.cell?_of_block (w:=W) (h.block b hp)
 |map b=>exact h.block b hp
theorem Kept.but{W W':World}(h:Kept W W')(may:MemPlace→Prop):W.keptBut W' may:=by
 refine⟨h.os,h.output,fun i hi=>?_⟩;rw[h.block i hi]
 split<;>simp_all
theorem tf{H:Type}{enc:TypeId×Value→H}{W W':World}(hk:Kept W W'):∀ {ts:List TypeId} {vs:List Value} {ds:List (DataW H)} {ps:List MemPlace},(∀t∈ts,t<Tryz.prog.types.size)→
  DataW.TrodAll enc Tryz.prog W 0 (fun _=>true) true ts vs ds ps→(∀p∈ps,p.block<W.heap.size)→DataW.TrodAll enc Tryz.prog W' 0 (fun b=>decide (b<W.heap.size)) true ts vs ds ps
 | [],[],[],_,_,h,_=>h
 |t::_,_::_,_::_,_,hT,⟨p,q,⟨n,h1⟩,h2,e⟩,hs=>by
  have hp:∀x∈p,x.block<W.heap.size:=fun x hx=>hs x (by rw[e];exact List.mem_append_left _ hx);have hz:∀ {t e:TypeId},t<Tryz.prog.types.size→Tryz.prog.underlying t=some (.slice e)→0<Tryz.prog.cellsOf e:=fun {t e} a b=>HX t e a b;refine⟨p,q,⟨n,?_⟩,tf hk (fun t ht=>hT t (List.mem_cons.2 (Or.inr ht))) h2 (fun x hx=>hs x (by rw[e];exact List.mem_append_right _ hx)),e⟩;exact DataW.trod_stays (T:=fun t=>t<Tryz.prog.types.size) (kids_rows aaW MS) hz (fun h=>by cases h) (hT t (List.mem_cons.2 (Or.inl rfl))) h1 (fun x hx=>hk.same (hp x hx)) (fun x hx=>by simpa using hp x hx)
 | [],_::_,_,_,_,h,_=>h.elim
 | [],[],_::_,_,_,h,_=>h.elim
 |_::_,[],_,_,_,h,_=>h.elim
 |_::_,_::_,[],_,_,h,_=>h.elim
theorem aaX{H:Type}{enc:TypeId×Value→H}{fn:Func}{s:ChangeSpec}{W W':World}{args:Array Value}{ds gs:List (DataW H)}{before:List MemPlace}{tb:TypeId}{apart:Bool}
  (hr:fn.resultTypes= #[tb]) (hb:Tryz.prog.underlying tb=some .bool) (hT:∀t∈fn.params.toList,t<Tryz.prog.types.size)
  (hW:DataW.Whole enc Tryz.prog fn.params.toList s.vars apart W args.toList ds gs before) (hv:s.vars= []) (hs:s.fn H ds= {results:= [.lit (.bool true)],args:=ds})
  (hk:Kept W W'):s.post enc Tryz.prog fn apart true false false W args (.bool true) W':=by
 have dU:=hW.lt;have hW':=hW;obtain⟨p,q,h1,h2,h3,h4,h5⟩:=hW;rw[hv]at h2;obtain⟨rfl,rfl⟩:=trodVars_none h2;rw[List.append_nil]at h3;subst h3;have e:s.fn H (ds++ [])= {results:= [.lit (.bool true)],args:=ds}:=by rw[List.append_nil];exact hs
 refine⟨ds,[],before,[],before,[],hW',?_,?_,?_,hk.but _,fun h=>by cases h⟩
 ·rw[e,hr];exact trodAll_cons_mk (shut_bool hb true) trodAll_mk0
 ·rw[e];exact tf hk hT h1 dU
 ·rw[hv,e];rfl
def RC:Env:=⟨fun _=>0,fun _=>.nilIface,fun _ _ _ _=>False⟩
def HY(W:World):Env:=⟨fun _=>0,fun _=>.nilIface,fun pm v t l=>pm=false∧0<t.w∧ca RC false W v t l⟩
theorem aaY(W:World):bB W [] (HY W) (HY W) [] W:=by
 refine⟨fun i x h=>by simp at h,fun i j x y b h=>by simp at h,cb.refl _ _,fun i x b h=>by simp at h,rfl,rfl,Nat.le_refl _,fun _ _ _=>rfl,fun pm v t l h=>?_,fun pm v t l b h1 h2=>.inr ⟨pm,v,t,l,id,h1,h2⟩⟩;obtain⟨rfl,hw,h⟩:=h;refine⟨h.mono (β':=HY W) (fun _ _ _ _ (h:False)=>h.elim),fun b hb=>⟨?_,fun⟨i,x,hi,_⟩=>by simp at hi⟩⟩;obtain⟨a,n,c,rfl,hn,hc,_,hr⟩:=h
 cases a with
 |none=>exact hb.elim
 |some a=>
  obtain⟨h0,rfl⟩:=hb;obtain⟨a0,eH,e,h1,h2,h3⟩:=hr h0
  cases e
  refine h3.lt fun e=>?_;have h4:=bG h2;rw[e,← hn]at h4;have:=Nat.mul_pos h0 hw;simp at h4;omega
theorem Dx{f:FuncId}{e:ao}(aG9:vt Tryz.prog f)(he:e.Ok Tryz.prog f){args:List LV}{q:Option Prop}(et:e.run args []= .leaf q (nB true) [])(hq:fo q)(W:World){vals:Array Value}(hd:bX (LV.den (HY W) (kd [])) args vals.toList):
  Calls Tryz.prog f vals W fun e W'=>e= .returned (.bool true)∧Kept W W':=by
 have key:=he.calls args [] (fun v d=>v=nB true∧d= []) (by rw[et];exact⟨hq,rfl,rfl⟩) (HY W) W vals.toList (aaY W) hd;rw[show vals.toList.toArray=vals from by simp]at key;have key:=key.resolve_left (by rintro⟨val,h1,_⟩;rw[aG9]at h1;cases h1) |>.2;refine key.mono ?_
 rintro e W' ⟨val,β',r,dI,rfl,⟨d,⟨rfl,rfl⟩,rfl⟩,h3,h4⟩
 have:val= .bool true:=h3;subst this;exact⟨rfl,h4.os,h4.output,h4.size,fun b hb=>h4.al b hb fun⟨i,x,hi,_⟩=>by simp at hi⟩
theorem Vy{fn:Func}(h:(fn.params.toList.all fun t=>decide (t<Tryz.prog.types.size))=true):∀t∈fn.params.toList,t<Tryz.prog.types.size:=fun t ht=>by
 simpa using List.all_eq_true.1 h t ht
inductive Bt where
 |int (k:IntKind)
 |bool
def Bt.fits:Bt→Value→Prop
 | .int k,v=>∃z,v= .int k z∧(Lit.int k z).wf=true
 | .bool,v=>∃b,v= .bool b
def w5(P:Program):Nat→TypeId→Option (List Bt)
 |0,_=>none
 |n+1,t=>match P.underlying t with
  |some .bool=>some [.bool]
  |some (.int k)=>some [.int k]
  |some (.struct fs)=>(fs.toList.foldl (fun acc f=>match acc with
    |some l=>if f.offset=l.length then match w5 P n f.type with
      |some m=>if m.length=P.cellsOf f.type then some (l++m)else none
      |none=>none
     else none
    |none=>none) (some [])).bind fun l=>if l.length=P.cellsOf t then some l else none
  |some (.array k e)=>match w5 P n e with
    |some m=>if m.length=P.cellsOf e∧P.cellsOf t=k*m.length then some ((List.replicate k m).flatten)else none
    |none=>none
  |_=>none
noncomputable section
variable {H:Type} {enc:TypeId×Value→H} {P:Program} {w:World} {base:Nat} {spare:Nat→Bool} {held:Bool}
theorem xE:∀ (n:Nat) {t:TypeId} {ks:List Bt},w5 P n t=some ks→∀ {fuel:Nat} {cs:List Value} {x:DataW H×List MemPlace},DataW.trod enc P w base spare held fuel t cs=some x→bX Bt.fits ks cs
 |0,_,_,h,_,_,_,_=>by cases h
 |n+1,t,ks,h,fuel,cs,x,hx=>by
  simp only[w5]at h
  cases hu:P.underlying t with
  |none=>rw[hu]at h;cases h
  |some d=>
   rw[hu]at h
   cases d with
   |bool=>
    cases h
    cases fuel with
    |zero=>simp[DataW.trod]at hx
    |succ m=>
     unfold DataW.trod at hx;rw[hu]at hx
     split at hx<;>simp_all
     exact .cons ⟨_,rfl⟩ .nil
   |int k=>
    cases h
    cases fuel with
    |zero=>simp[DataW.trod]at hx
    |succ m=>
     unfold DataW.trod at hx;rw[hu]at hx
     split at hx<;>simp_all
     obtain⟨⟨rfl,hz⟩,_⟩:=hx;exact .cons ⟨_,rfl,hz⟩ .nil
   |struct fs=>
    obtain⟨xs,m,_,_,hl,hlen,hf⟩:=DataW.trod_struct hu hx;obtain⟨l,hl1,hl2⟩:=Option.bind_eq_some_iff.1 h
    split at hl2
    ·rename_i hle
     cases hl2
     have hfs:∀f∈fs.toList,∃y,DataW.trod enc P w base spare held m f.type ((cs.drop f.offset).take (P.cellsOf f.type))=some y:=by
      intro f hfm;obtain⟨i,hi,rfl⟩:=List.getElem_of_mem hfm;have xx:i<fs.size:=(by simpa using hi);have:=hf i fs[i] (by simp[xx]);rw[List.getElem?_eq_getElem (by omega)]at this;exact⟨_,this⟩
     have key:∀ (fl:List Field) (acc l:List Bt),(∀f∈fl,∃y,DataW.trod enc P w base spare held m f.type ((cs.drop f.offset).take (P.cellsOf f.type))=some y)→
       fl.foldl (fun acc f=>match acc with
        |some l=>if f.offset=l.length then match w5 P n f.type with
          |some m=>if m.length=P.cellsOf f.type then some (l++m)else none
          |none=>none
         else none
        |none=>none) (some acc)=some l→bX Bt.fits acc (cs.take acc.length)→bX Bt.fits l (cs.take l.length):=by
      intro fl
      induction fl with
      |nil=>intro acc l _ h1 h2;simp at h1;subst h1;exact h2
      |cons f fl ih=>
       intro acc l hfs h1 h2;simp only[List.foldl_cons]at h1
       have jf:∀fl:List Field,fl.foldl (fun acc f=>match acc with
        |some l=>if f.offset=l.length then match w5 P n f.type with
          |some m=>if m.length=P.cellsOf f.type then some (l++m)else none
          |none=>none
         else none
        |none=>none) (none:Option (List Bt))=none:=by
        intro fl
        induction fl with
        |nil=>rfl
        |cons f fl ih=>exact ih
       split at h1
       ·rename_i ho
        split at h1
        ·rename_i mk hmk
         split at h1
         ·rename_i hmc;obtain⟨y,hy⟩:=hfs f (by simp);have hft:=xE n hmk hy;rw[ho,← hmc]at hft;refine ih (acc++mk) l (fun f hf=>hfs f (by simp[hf])) h1 ?_;rw[List.length_append,List.take_add];exact h2.append hft
         ·rw[jf]at h1;cases h1
        ·rw[jf]at h1;cases h1
       ·rw[jf]at h1;cases h1
     have:=key fs.toList [] ks hfs hl1 .nil;rwa [List.take_of_length_le (by omega)]at this
    ·cases hl2
   |array k e=>
    simp only at h
    split at h
    ·rename_i mk hmk
     split at h
     ·rename_i hc
      cases h
      obtain⟨xs,m,_,_,hl,hlen,hf⟩:=DataW.trod_array hu hx
      have Vb:∀i,i<k→bX Bt.fits mk ((cs.drop (i*mk.length)).take mk.length):=by
       intro i hi;have:=hf i hi;rw[List.getElem?_eq_getElem (by omega)]at this;have h2:=xE n hmk this;rwa [← hc.1]at h2
      have key:∀ (j:Nat),j≤k→bX Bt.fits (List.replicate j mk).flatten (cs.take (j*mk.length)):=by
       intro j
       induction j with
       |zero=>intro _;simp;exact .nil
       |succ j ih=>
        intro hj;rw[List.replicate_succ',List.flatten_append,Nat.succ_mul,List.take_add];have:=Vb j (by omega);exact(ih (by omega)).append (by simpa using this)
      have:=key k (Nat.le_refl _);rwa [List.take_of_length_le (by omega)]at this
     ·cases h
    ·cases h
   |_=>cases h
end
theorem HZ{k:IntKind}{β:Env}{pm:Bool}:∀ (n:Nat) {ks:List Bt} {cs:List Value},bX Bt.fits (List.replicate n (.int k)++ks) cs→
  ∃ (l:List Int) (us rest:List Value),cs=us++rest∧l.length=n∧us=l.map (.int k)∧bp ((Ty.int k).has β pm) l us∧(∀z∈l,(Lit.int k z).wf=true)∧bX Bt.fits ks rest
 |0,_,cs,h=>⟨[],[],cs,rfl,rfl,rfl,.nil,(fun _ h=>by cases h),h⟩
 |n+1,ks,cs,h=>by
  rw[List.replicate_succ,List.cons_append]at h
  cases h with
  |cons h1 h2=>
   obtain⟨z,rfl,hz⟩:=h1;obtain⟨l,us,rest,rfl,h3,h4,h5,h6,h7⟩:=HZ n h2
   exact⟨z::l,.int k z::us,rest,rfl,by simp[h3],by rw[h4];rfl,bp.cons (vs:= [.int k z]) rfl h5,(fun y hy=>by
    rcases List.mem_cons.1 hy with rfl|hy
    ·exact hz
    ·exact h6 y hy),h7⟩
theorem wf_u8{z:Int}(h:(Lit.int .u8 z).wf=true):By z:=by
 have:=bounds_u8 h;unfold By;omega
theorem aaZ:Tryz.prog.cellsOf 5=1:=by kernel_rfl
theorem zt{H:Type}{enc:TypeId×Value→H}{W:World}{base:Nat}{v:Value}{d:DataW H}{p:List MemPlace}
  (kW:Value.okWide Tryz.prog W .any base 26 v) (h:DataW.Trod enc Tryz.prog W 0 (fun _=>true) true 26 v d p):
  ∃l:List Int,ax l∧(LV.one (.sc (.rd false false u8 l))).den (HY W) (kd []) v:=by
 obtain⟨fuel,h⟩:=h
 have awj:v.cells.toList= [v]:=by
  unfold Value.okWide at kW;rw[underlying26]at kW
  cases v<;>first|rfl|(exfalso;simp[Cell.okWide,Cell.ok,underlying26]at kW)
 rw[awj]at h;rcases open_ints underlying26 underlying5 aaZ h with⟨e,_⟩|⟨a,len,cap,zs,e,_,hlc,_,hzl,_,H0,hwf⟩
 ·obtain rfl:v= .slice none 0 0:=by simpa using e
  exact⟨[],fun z hz=>(by simp at hz),rfl,(fun e=>by cases e),.inr (.inr ⟨rfl,rfl⟩)⟩
 ·obtain rfl:v= .slice (some a) len cap:=by simpa using e
  simp only[if_true]at hzl;refine⟨zs.take len,fun z hz=>wf_u8 (hwf z (List.mem_of_mem_take hz)),rfl,(fun e=>by cases e),.inr (.inl ⟨rfl,rfl,by decide,?_⟩)⟩;refine⟨some a,len,cap,rfl,by simp;omega,hlc,(fun e=>by cases e),fun h0=>?_⟩;have Mu:=H0 0 (by omega)
  have hsp:a.spot=none:=by
   have:a.add 0=a:=(by cases a;simp[Addr.add]);rw[this]at Mu;exact World.cell?_spot Mu
  refine⟨a,(zs.take len).map (.int .u8),rfl,hsp,?_,fun i u hu=>?_⟩
  ·generalize zs.take len=l
   induction l with
   |nil=>exact .nil
   |cons x l ih=>exact bp.cons (vs:= [.int .u8 x]) rfl ih
  ·rw[List.getElem?_map]at hu;obtain⟨z,hz,rfl⟩:=map_some hu
   have hil:i<len∧i<zs.length:=by
    have:=(List.getElem?_eq_some_iff.1 hz).1;simp at this;omega
   rw[H0 i hil.2];rw[List.getElem?_take,if_pos hil.1]at hz;rw[List.getD_eq_getElem?_getD,hz];rfl
end Go.Proofs.YtcbjpiangpjbgaaGreat
end
