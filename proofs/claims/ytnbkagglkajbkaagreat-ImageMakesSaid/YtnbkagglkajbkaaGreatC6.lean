/- What the laws lean on, part 6: a reader of code, plain facts, and what each function gives; no conditions. -/
import Derived.KernelRfl
import Derived.Test.YtnbkagglkajbkaaGreatProg
import Derived.Eval
import Derived.Test.YtnbkagglkajbkaaGreatRows
import Derived.WalkKit
import Derived.ProofKit
import Derived.OpenShut
import Derived.JoinedCond
import Derived.JoinedOf
import Derived.Handed
import Derived.ReadAgain
import Derived.ChangeStays
import Derived.Test.YtnbkagglkajbkaaGreatC5
set_option linter.unusedVariables false
set_option linter.unusedSimpArgs false
noncomputable section
namespace Go.Ev
open Go
open Go.IntKind (i64 signed u16 u64 wrap)
structure VS (W:World) (aj:Hp) (β₀ β:Env) (fr:List LV) (hp:Hp) (vals:List Value) (w:World):Prop where
 fr:bF (LV.den β (kd hp)) fr vals
 heap:bd W aj β₀ β hp w
noncomputable section
variable {W:World} {aj:Hp} {β₀ β:Env} {hp:Hp} {w:World}
theorem bd.yU(h:bd W aj β₀ β hp w){β':Env}{dP:Hp}(g:Nat→Nat)(qw:β'.rd=β.rd)(Nd:bH β₀ β' (kd aj) (kd dP))
  (src:∀ (j:Nat) (y:Item),dP[j]? =some (some y)→∃x,hp[g j]? =some (some x)∧(∀b,bT β' y j b→bT β x (g j) b)∧eV β' (kd dP) w j y∧(g j=j∨kd aj (g j)=none))
  (hg:∀ (j k:Nat) (y z:Item),dP[j]? =some (some y)→dP[k]? =some (some z)→g j=g k→j=k):bd W aj β₀ β' dP w:=by
 have lE:∀b,fK dP β' b→fK hp β b:=fun b ⟨j,y,hj,ho⟩=>by
  obtain⟨x,h1,h2,_⟩:=src j y hj;exact⟨g j,x,h1,h2 b ho⟩
 refine⟨fun j y hj=>?_,fun j k y z b hj hk h1 h2=>?_,Nd,fun j y b hj ho=>?_,h.os,h.output,h.size,h.ak,fun pm v t l hr=>?_,fun pm v t l b hr hb=>?_⟩
 ·obtain⟨x,_,_,h3,_⟩:=src j y hj;exact h3
 ·obtain⟨x,a1,a2,_⟩:=src j y hj;obtain⟨x',b1,b2,_⟩:=src k z hk;exact hg j k y z hj hk (h.inj _ _ _ _ b a1 b1 (a2 b h1) (b2 b h2))
 ·obtain⟨x,a1,a2,_,a4⟩:=src j y hj;rcases h.own _ _ b a1 (a2 b ho)with k|⟨z,k1,k2⟩
  ·exact .inl k
  ·rcases a4 with e|e
   ·rw[e]at k1 k2;exact .inr ⟨z,k1,k2⟩
   ·rw[dk k1]at e;cases e
 ·rw[qw]at hr;obtain⟨h1,h2⟩:=h.reads pm v t l hr;exact⟨h1.mono fun _ _ _ _ h=>by rw[qw];exact h,fun b hb=>⟨(h2 b hb).1,fun k=>(h2 b hb).2 (lE b k)⟩⟩
 ·rw[qw]at hr;exact h.from_ pm v t l b hr hb
theorem bd.aq0(h:bd W aj β₀ β hp w){dP:Hp}(hk:kd dP=kd hp)
  (src:∀ (j:Nat) (y:Item),dP[j]? =some (some y)→∃x,hp[j]? =some (some x)∧(y=x∨∃cells cells' e,x= .ba cells e∧y= .ba cells' e∧∀c,a8 β (kd hp) cells c→a8 β (kd hp) cells' c)):bd W aj β₀ β dP w:=by
 refine h.yU (fun j=>j) rfl (by rw[hk];exact h.first) (fun j y hj=>?_) fun _ _ _ _ _ _ e=>e;obtain⟨x,h1,h2⟩:=src j y hj;have hx:=h.items j x h1;rw[hk];rcases h2 with rfl|⟨cells,cells',e,rfl,rfl,h3⟩
 ·exact⟨y,h1,fun _ h=>h,hx,.inl rfl⟩
 ·obtain⟨c,fz,k1,k2,k3⟩:=hx;exact⟨_,h1,fun _ h=>h,⟨c,fz,k1,k2,h3 c k3⟩,.inl rfl⟩
def Item.cO(f:SV→SV):Item→Item
 | .ba cells e=>.ba (cells.map f) e
 |x=>x
def VV.cO(f:SV→SV):VV→VV
 | .sc s=>.sc (f s)
 | .agg l=>.agg (l.map f)
def LV.cO(f:SV→SV):LV→LV
 | .one x=>.one (x.cO f)
 | .c6 l=>.c6 (l.map (VV.cO f))
 | .bP=>.bP
structure jZ (β β':Env) (L L':Nat→Option Kd) (f:SV→SV):Prop where
 den:∀ {s:SV} {v:Value},s.den β L v→(f s).den β' L' v
 arr:∀t n l,f (.arr t n l)= .arr t n l
 rd:∀v t l,β.rd true v t l→β'.rd true v t l
theorem jZ.iv{β β':Env}{L L':Nat→Option Kd}{f:SV→SV}(h:jZ β β' L L' f){s:SV}{vs:List Value}(hd:s.iv β L vs):(f s).iv β' L' vs:=by
 cases s with
 |arr t n l=>rw[h.arr];exact⟨hd.1,hd.2.imp fun _ _=>t.jl h.rd⟩
 |_=>
  obtain⟨v,rfl,h3⟩:=hd;exact SV.rS (h.den h3)
theorem jZ.avZ{β β':Env}{L L':Nat→Option Kd}{f:SV→SV}(h:jZ β β' L L' f){l:List SV}{vs:List Value}(hd:a8 β L l vs):a8 β' L' (l.map f) vs:=by
 induction hd with
 |nil=>exact aV.nil
 |cons h1 _ ih=>exact aV.cons (h.iv h1) ih
theorem jZ.vv{β β':Env}{L L':Nat→Option Kd}{f:SV→SV}(h:jZ β β' L L' f){s:VV}{v:Value}(hd:s.den β L v):(s.cO f).den β' L' v:=by
 cases s with
 |sc s=>exact h.den hd
 |agg l=>obtain⟨cs,rfl,hd⟩:=hd;exact⟨cs,rfl,h.avZ hd⟩
theorem jZ.lv{β β':Env}{L L':Nat→Option Kd}{f:SV→SV}(h:jZ β β' L L' f){s:LV}{v:Value}(hd:s.den β L v):(s.cO f).den β' L' v:=by
 cases s with
 |one x=>exact h.vv hd
 |c6 l=>
  obtain⟨vs,rfl,hd⟩:=hd;refine⟨vs,rfl,?_⟩
  induction hd with
  |nil=>exact .nil
  |cons h1 _ ih=>exact .cons (h.vv h1) ih
 |bP=>trivial
theorem jZ.fr{β β':Env}{L L':Nat→Option Kd}{f:SV→SV}(h:jZ β β' L L' f){l:List LV}{vs:List Value}(hd:bF (LV.den β L) l vs):bF (LV.den β' L') (l.map (LV.cO f)) vs:=by
 induction hd with
 |nil=>exact .nil
 |cons h1 _ ih=>exact .cons (h.lv h1) ih
theorem jZ.item{β β':Env}{L L':Nat→Option Kd}{f:SV→SV}(h:jZ β β' L L' f){w:World}{i:Nat}{x:Item}(hb:β'.b i=β.b i)(hh:β'.h i=β.h i)(hd:eV β L w i x):eV β' L' w i (x.cO f):=by
 cases x with
 |ba cells e=>
  obtain⟨c,fz,h1,h2,h3⟩:=hd;exact⟨c,fz,by rw[hb];exact h1,h2,h.avZ h3⟩
 |own ver t l=>
  show dm β' w (β'.h i) t l;rw[hh];obtain⟨a,n,c,e,h1,h2,h3,h4⟩:=(hd:dm β w (β.h i) t l);refine⟨a,n,c,e,h1,h2,h3,fun h0=>?_⟩;obtain⟨a0,pre,ft,rest,elem,fz,k0,k1,k2,k3,k4,k5⟩:=h4 h0;exact⟨a0,pre,ft,rest,elem,fz,k0,k1,k2,k3,k4.imp fun _ _=>t.jl h.rd,k5⟩
 |gone v=>trivial
theorem Item.SJ(f:SV→SV)(x:Item):(x.cO f).kd=x.kd:=by cases x<;>rfl
theorem bT.cO{f:SV→SV}{β β':Env}{x:Item}{i b:Nat}(hb:β'.b i=β.b i)(hh:β'.h i=β.h i):bT β' (x.cO f) i b↔bT β x i b:=by
 cases x<;>simp only[Item.cO,bT,hb,hh]
end
inductive FM where
 |drop
 |ak
 |sym
 |rd (pm:Bool) (t:Ty)
def SV.rdm(pm:Bool)(t:Ty):SV→SV
 | .gY (.slice none 0 0)=>.rd pm false t []
 | .rd false _ t l=>.rd false false t l
 | .rd true _ t l=>.rd pm false t l
 |s=>s
def SV.symm:SV→SV
 | .int k n=>.int k (.sym n.val)
 | .bool b=>.bool (.sym b.val)
 |s=>s
def SV.av0:SV→SV
 | .arr t n l=>.arr t n l
 |_=>.bP
def SV.fm:FM→SV→SV
 | .ak,s=>s
 | .drop,s=>s.av0
 | .sym,s=>s.symm
 | .rd pm t,s=>s.rdm pm t
theorem SV.Nk{β:Env}{L:Nat→Option Kd}(k:FM){s:SV}{v:Value}(h:s.den β L v):(s.fm k).den β L v:=by
 cases k with
 |ak=>exact h
 |drop=>cases s<;>first|exact h.elim|exact SV.br h
 |sym=>cases s<;>exact h
 |rd pm t=>
  simp only[SV.fm];unfold SV.rdm
  split
  ·obtain⟨_,rfl⟩:=h;exact⟨rfl,(fun e=>by cases e),.inr (.inr ⟨rfl,rfl⟩)⟩
  ·exact⟨h.1,(fun e=>by cases e),h.2.2⟩
  ·refine⟨h.1,(fun e=>by cases e),?_⟩;rcases h.2.2 with h1|⟨h1,_⟩|h1
   ·exact .inl h1
   ·cases h1
   ·exact .inr (.inr h1)
  ·exact h
theorem sC{β:Env}{L:Nat→Option Kd}(k:FM):jZ β β L L (SV.fm k):=⟨SV.Nk k,fun t n l=>by cases k<;>rfl,fun _ _ _ h=>h⟩
def LV.fm:FM→LV→LV
 | .drop,_=>.bP
 | .ak,x=>x
 |k,x=>x.cO (SV.fm k)
theorem LV.Nk{β:Env}{L:Nat→Option Kd}(k:FM){s:LV}{v:Value}(h:s.den β L v):(s.fm k).den β L v:=by
 cases k with
 |drop=>trivial
 |ak=>exact h
 |sym=>exact(sC .sym).lv h
 |rd pm t=>exact(sC (.rd pm t)).lv h
def aq1:List FM→List LV→List LV
 |k::ks,x::xs=>x.fm k::aq1 ks xs
 |_,xs=>xs
theorem IL{β:Env}{L:Nat→Option Kd}:∀ (ks:List FM) {xs:List LV} {vs:List Value},bF (LV.den β L) xs vs→bF (LV.den β L) (aq1 ks xs) vs
 | [],_,_,h=>h
 |k::ks,_,_,h=>by
  cases h with
  |nil=>exact .nil
  |cons h t=>exact .cons (LV.Nk k h) (IL ks t)
def aq2:List FM→List SV→List SV
 |k::ks,x::xs=>x.fm k::aq2 ks xs
 |_,xs=>xs
theorem IM{β:Env}{L:Nat→Option Kd}:∀ (ks:List FM) {xs:List SV} {vs:List Value},a8 β L xs vs→a8 β L (aq2 ks xs) vs
 | [],_,_,h=>h
 |k::ks,[],_,h=>h
 |k::ks,x::xs,_,h=>by
  cases h with
  |cons h t=>exact .cons ((sC k).iv h) (IM ks t)
def SV.re(i c n:Nat):SV→SV
 | .sl j v=>if j=i then(if v=c then .sl j n else .bP)else .sl j v
 | .vw j v w z m=>if j=i then(if v=c then .vw j n w z m else .bP)else .vw j v w z m
 | .ep s w z f=>.ep (s.re i c n) w z f
 |s=>s
def SV.mv(i k c:Nat):SV→SV
 | .sl j v=>if j=k then(if v=c then .sl i 1 else .bP)else if j=i then .bP else .sl j v
 | .vw j v w z m=>if j=k then(if v=c then .vw i 1 w z m else .bP)else if j=i then .bP else .vw j v w z m
 | .ep s w z f=>.ep (s.mv i k c) w z f
 |s=>s
def SV.kL(i c:Nat)(t:Ty)(l:List t.D):SV→SV
 | .sl j v=>if j=i then(if v=c then .rd true false t l else .bP)else .sl j v
 | .ep s w z f=>.ep (s.kL i c t l) w z f
 |s=>s
noncomputable section
variable {W:World} {aj:Hp} {β₀ β:Env} {hp:Hp} {w:World}
theorem aj2{i c n:Nat}{L L':Nat→Option Kd}(hi:L i=some (.own c))(BH:L' i=some (.own n))(ho:∀j,j≠i→L' j=L j):jZ β β L L' (SV.re i c n):=by
 have mc:∀ {b},L b=some .ba→L' b=some .ba:=fun {b} hb=>by
  rw[ho b fun e=>by subst e;rw[hi]at hb;cases hb];exact hb
 refine⟨fun {s}=>?_,fun _ _ _=>rfl,fun _ _ _ h=>h⟩
 induction s with
 |sl j ver=>
  intro v h;have h1:=SV.br h;simp only[SV.re]
  split
  ·rename_i e;subst e
   split
   ·rename_i e;subst e;obtain⟨k1,c',k2,k3,k4⟩:=h;rw[hi]at k2;cases k2;exact⟨k1,n,BH,Nat.le_refl _,fun _=>k4 rfl⟩
   ·exact h1
  ·rename_i e;obtain⟨k1,c',k2,k3,k4⟩:=h;exact⟨k1,c',by rw[ho j e];exact k2,k3,k4⟩
 |vw j ver w z m=>
  intro v h;have h1:=SV.br h;simp only[SV.re]
  split
  ·rename_i e;subst e
   split
   ·rename_i e;subst e;obtain⟨k1,c',k2,k3,k4⟩:=h;rw[hi]at k2;cases k2;exact⟨k1,n,BH,Nat.le_refl _,fun _=>k4 rfl⟩
   ·exact h1
  ·rename_i e;obtain⟨k1,c',k2,k3,k4⟩:=h;exact⟨k1,c',by rw[ho j e];exact k2,k3,k4⟩
 |ep s w z f ih=>
  rintro v ⟨a,n,c',h1,h2⟩
  exact⟨a,n,c',ih h1,h2⟩
 |ptr b o=>intro v h;exact⟨mc h.1,h.2⟩
 |uV b base st n z=>intro v h;exact⟨mc h.1,h.2⟩
 |slice b o l c=>intro v h;exact⟨mc h.1,h.2⟩
 |vb b o t m z n=>intro v h;exact⟨mc h.1,h.2⟩
 |_=>intro v h;exact h
theorem aj3{β':Env}{i k c:Nat}{L L':Nat→Option Kd}(hk:L k=some (.own c))(ZR:L i≠some .ba)(BH:L' i=some (.own 1))(ho:∀j,j≠i→j≠k→L' j=L j)(hb:β'.b=β.b)(hh:∀j,j≠i→β'.h j=β.h j)(ZP:β'.h i=β.h k)(qw:β'.rd=β.rd):
  jZ β β' L L' (SV.mv i k c):=by
 have mc:∀ {b},L b=some .ba→L' b=some .ba∧β'.b b=β.b b:=fun {b} h=>by
  refine⟨?_,by rw[hb]⟩;rw[ho b (fun e=>by subst e;exact ZR h) fun e=>by subst e;rw[hk]at h;cases h];exact h
 have qA:∀pm v t l,β.rd pm v t l→β'.rd pm v t l:=fun _ _ _ _ h=>by rw[qw];exact h
 refine⟨fun {s}=>?_,fun _ _ _=>rfl,fun _ _ _ h=>qA _ _ _ _ h⟩
 induction s with
 |sl j ver=>
  intro v h;have h1:=SV.br h;simp only[SV.mv]
  split
  ·rename_i e;subst e
   split
   ·rename_i e;subst e;obtain⟨k1,c',k2,k3,k4⟩:=h;rw[hk]at k2;cases k2;exact⟨k1,1,BH,Nat.le_refl _,fun _=>by rw[ZP];exact k4 rfl⟩
   ·exact h1
  ·rename_i e
   split
   ·exact h1
   ·rename_i e2;obtain⟨k1,c',k2,k3,k4⟩:=h;exact⟨k1,c',by rw[ho j e2 e];exact k2,k3,fun e3=>by rw[hh j e2];exact k4 e3⟩
 |vw j ver w z m=>
  intro v h;have h1:=SV.br h;simp only[SV.mv]
  split
  ·rename_i e;subst e
   split
   ·rename_i e;subst e;obtain⟨k1,c',k2,k3,k4⟩:=h;rw[hk]at k2;cases k2;exact⟨k1,1,BH,Nat.le_refl _,fun _=>by rw[ZP];exact k4 rfl⟩
   ·exact h1
  ·rename_i e
   split
   ·exact h1
   ·rename_i e2;obtain⟨k1,c',k2,k3,k4⟩:=h;exact⟨k1,c',by rw[ho j e2 e];exact k2,k3,fun e3=>by rw[hh j e2];exact k4 e3⟩
 |ep s w z f ih=>
  rintro v ⟨a,n,c',h1,h2⟩
  exact⟨a,n,c',ih h1,h2⟩
 |ptr b o=>intro v h;obtain⟨k1,k2⟩:=mc h.1;exact⟨k1,by rw[k2];exact h.2⟩
 |uV b base st n z=>intro v h;obtain⟨k1,k2⟩:=mc h.1;exact⟨k1,h.2.1,by rw[k2];exact h.2.2⟩
 |slice b o l c=>intro v h;obtain⟨k1,k2⟩:=mc h.1;exact⟨k1,by rw[k2];exact h.2⟩
 |vb b o t m z n=>rintro v ⟨h1,h2⟩;obtain⟨k1,k2⟩:=mc h1;exact⟨k1,by rw[k2];exact h2⟩
 |rd pm nn t l=>rintro v ⟨h1,h2,h3⟩;exact⟨h1,h2,h3.mono qA⟩
 |_=>intro v h;exact h
theorem IN{β':Env}{i c:Nat}{t:Ty}{l:List t.D}{L:Nat→Option Kd}(hi:L i=some (.own c))(hb:β'.b=β.b)(hh:β'.h=β.h)(qw:∀pm v t l,β.rd pm v t l→β'.rd pm v t l)(hr:β'.rd true (β.h i) t l):jZ β β' L L (SV.kL i c t l):=by
 have qA:bH β β' L L:=⟨fun i h=>⟨h,by rw[hb]⟩,fun i c h=>⟨c,h,Nat.le_refl _,fun _=>by rw[hh]⟩,qw⟩;refine⟨fun {s}=>?_,fun _ _ _=>rfl,fun _ _ _ h=>qw _ _ _ _ h⟩
 induction s with
 |sl j ver=>
  intro v h;have h1:=SV.br h;simp only[SV.kL]
  split
  ·rename_i e;subst e
   split
   ·rename_i e;subst e;obtain⟨k1,c',k2,k3,k4⟩:=h;rw[hi]at k2;cases k2;have e:=k4 rfl;subst e;exact⟨k1,(fun e=>by cases e),.inl hr⟩
   ·exact h1
  ·exact SV.eI qA h
 |ep s w z f ih=>
  rintro v ⟨a,n,c',h1,h2⟩
  exact⟨a,n,c',ih h1,h2⟩
 |_=>intro v h;exact SV.eI qA h
theorem yV{f:SV→SV}{j:Nat}{y:Item}(hj:(hp.map (Option.map (Item.cO f)))[j]? =some (some y)):∃x,hp[j]? =some (some x)∧y=x.cO f:=by
 rw[List.getElem?_map]at hj;obtain⟨o,h1,h2⟩:=map_some hj
 cases o with
 |none=>cases h2
 |some x=>exact⟨x,h1,by simpa using h2.symm⟩
theorem vk{f:SV→SV}(hp:Hp):kd (hp.map (Option.map (Item.cO f)))=kd hp:=by
 funext j
 unfold kd;rw[List.getElem?_map]
 cases hp[j]? with
 |none=>rfl
 |some o=>cases o with
  |none=>rfl
  |some x=>simp[Item.SJ]
theorem bF.aq3{α β:Type}{R:α→β→Prop}{a:α}:∀ {l:List α} {m:List β} {k:Nat},bF R l m→(∀b,m[k]? =some b→R a b)→bF R (l.set k a) m
 |_,_,_,.nil,_=>.nil
 |_,_,0,.cons h t,hb=>.cons (hb _ rfl) t
 |_,_,k+1,.cons h t,hb=>.cons h (t.aq3 fun b hk=>hb b (by simpa using hk))
def SK(k:IntKind):List SV→Option (List Int)
 | []=>some []
 | .int k' n::l=>if k'=k then(SK k l).map (n.val:: ·)else none
 |_::_=>none
theorem IP{β:Env}{L:Nat→Option Kd}{k:IntKind}:∀ {l:List SV} {m:List Int} {vs:List Value},SK k l=some m→a8 β L l vs→aV ((Ty.int k).has β true) m vs
 | [],m,vs,h,hd=>by cases h;cases hd;exact .nil
 |s::l,m,vs,h,hd=>by
  unfold SK at h
  split at h
  ·rename_i e;cases e
  ·rename_i e;injection e with e1 e2;subst e1 e2
   split at h
   ·rename_i e;subst e;obtain⟨m',h1,rfl⟩:=map_some h
    cases hd with
    |cons h2 h3=>
     obtain⟨v,rfl,hv⟩:=h2;exact aV.cons (x:=_) (vs:= [v]) (by rw[show v=_ from hv];rfl) (IP h1 h3)
   ·cases h
  ·cases h
def IQ(off n:Nat)(k:IntKind)(l:List SV):List SV:=match SK k ((l.drop off).take n)with
 |some m=>if m.length=n then l.take off++ .arr (.int k) n m::(l.drop off).drop n else l
 |none=>l
theorem mq{β:Env}{L:Nat→Option Kd}{off n:Nat}{k:IntKind}{l:List SV}{vs:List Value}(h:a8 β L l vs):a8 β L (IQ off n k l) vs:=by
 unfold IQ
 split
 ·rename_i m hm
  split
  ·rename_i hn;have e:l=l.take off++((l.drop off).take n++(l.drop off).drop n):=(by rw[List.take_append_drop,List.take_append_drop]);rw[e]at h;obtain⟨v1,v2,rfl,h1,h2⟩:=aV.split h;obtain⟨v3,v4,rfl,h3,h4⟩:=aV.split h2;exact h1.append (aV.cons (x:=.arr (.int k) n m) ⟨hn,IP hm h3⟩ h4)
  ·exact h
 ·exact h
def SV.cellsIn:SV→List SV
 | .arr (.int k) n m=>if n≤32 then(List.range n).map fun i=>.int k (.sym (m.getD i 0))else [.arr (.int k) n m]
 |s=> [s]
theorem yW:∀ (m:List Int) (k:IntKind),(List.range m.length).map (fun i=>SV.int k (.sym (m.getD i 0)))=m.map fun n=>SV.int k (.sym n):=by
 intro m k
 apply List.ext_getElem?
 intro i;simp only[List.getElem?_map];rcases Nat.lt_or_ge i m.length with h1|h1
 ·rw[List.getElem?_range h1];simp[List.getD_eq_getElem?_getD,List.getElem?_eq_getElem h1]
 ·rw[List.getElem?_eq_none h1,List.getElem?_eq_none (by simpa using h1)];rfl
theorem sD{β:Env}{L:Nat→Option Kd}{k:IntKind}:∀ {m:List Int} {vs:List Value},aV ((Ty.int k).has β true) m vs→a8 β L (m.map fun n=>SV.int k (.sym n)) vs
 | [],_,h=>by cases h;exact .nil
 |n::m,_,h=>by
  cases h with
  |cons h1 h2=>
   have h1':_= [Value.int k n]:=h1;subst h1';exact aV.cons (x:=SV.int k (.sym n)) ⟨_,rfl,rfl⟩ (sD h2)
theorem IS{β:Env}{L:Nat→Option Kd}{s:SV}{vs:List Value}(h:s.iv β L vs):a8 β L s.cellsIn vs:=by
 unfold SV.cellsIn
 split
 ·rename_i k n m
  split
  ·obtain⟨rfl,h2⟩:=(h:_∧_);rw[yW];exact sD h2
  ·exact aV.one h
 ·exact aV.one h
def aaQ(l:List SV):List SV:=l.flatMap SV.cellsIn
theorem Ct{β:Env}{L:Nat→Option Kd}{l:List SV}{vs:List Value}(h:a8 β L l vs):a8 β L (aaQ l) vs:=by
 induction h with
 |nil=>exact .nil
 |cons h _ ih=>exact(IS h).append ih
def VV.onL(f:List SV→List SV):VV→VV
 | .agg l=>.agg (f l)
 |x=>x
theorem VV.sE{β:Env}{L:Nat→Option Kd}{f:List SV→List SV}(hf:∀l vs,a8 β L l vs→a8 β L (f l) vs){x:VV}{v:Value}(h:x.den β L v):(x.onL f).den β L v:=by
 cases x with
 |sc s=>exact h
 |agg l=>obtain⟨cs,e,hd⟩:=h;exact⟨cs,e,hf _ _ hd⟩
def LV.onL(f:List SV→List SV):LV→LV
 | .one x=>.one (x.onL f)
 | .c6 l=>.c6 (l.map (VV.onL f))
 |x=>x
theorem LV.sE{β:Env}{L:Nat→Option Kd}{f:List SV→List SV}(hf:∀l vs,a8 β L l vs→a8 β L (f l) vs){x:LV}{v:Value}(h:x.den β L v):(x.onL f).den β L v:=by
 cases x with
 |one x=>exact VV.sE hf h
 |c6 l=>obtain⟨vs,e,hd⟩:=h;exact⟨vs,e,hd.yi fun _ _=>VV.sE hf⟩
 |bP=>exact h
def Em(f:List SV→List SV)(i:Nat)(fr:List LV):List LV:=match fr[i]? with
 |some x=>fr.set i (x.onL f)
 |none=>fr
theorem yX{β:Env}{L:Nat→Option Kd}{f:List SV→List SV}(hf:∀l vs,a8 β L l vs→a8 β L (f l) vs){i:Nat}{fr:List LV}{vs:List Value}(h:bF (LV.den β L) fr vs):bF (LV.den β L) (Em f i fr) vs:=by
 unfold Em
 split
 ·rename_i x hx;refine h.aq3 fun b hb=>?_;obtain⟨b',h1,h2⟩:=h.get hx;rw[hb]at h1;cases h1;exact LV.sE hf h2
 ·exact h
inductive Wk where
 |fr (l:List FM)
 |ba (i:Nat) (l:List FM)
 |cP (k:Nat) (t:Ty)
 |fU (i j:Nat) (t:Ty)
 |kL (i:Nat)
 |ver (i:Nat)
 |one (i:Nat)
 |move (i j:Nat)
 |slot (b off i:Nat) (t:Ty)
 |cut (ids:List Nat)
 |Nl (k:Nat) (t:Ty)
 |aq4 (i j:Nat) (t:Ty)
 |auto
 |aF
 |syms
 |Nm
 |dz (i off n:Nat) (k:IntKind)
 |eZ (i off n:Nat) (k:IntKind)
 |Cu (i:Nat)
 |aoA (i:Nat)
def Cv:SV→Bool
 | .gY (.slice none 0 0)=>true
 |_=>false
def av1:LV→Bool
 | .one (.sc s)=>Cv s
 |_=>false
def En:List Nat→Bool
 | []=>true
 |x::l=> !l.any (fun y=>decide (y=x))&&En l
def aj5(m:Nat)(ids:List Nat)(i:Nat):Option Nat:=if i<m then some i else(iP ids i).map (· +m)
def BZ(m:Nat)(ids:List Nat):sB:=⟨aj5 m ids,fun _ v=>some v⟩
structure uQ where
 n:Nat
 v:Nat→Bool
def uQ.of(hp:Hp):uQ:=⟨hp.length,fun i=>match bn hp i with|some (.own 0 _ _)=>true|_=>false⟩
structure uQ.Ok (m:uQ) (aj:Hp):Prop where
 n:m.n=aj.length
 v:∀i,m.v i=true→kd aj i=some (.own 0)
theorem uQ.aS(hp:Hp):(uQ.of hp).Ok hp:=⟨rfl,fun i h=>by
 simp only[uQ.of]at h
 split at h
 ·rename_i hi;rw[dk (aB hi)];rfl
 ·cases h⟩
theorem uQ.av2(hp:Hp):(uQ.mk hp.length fun _=>false).Ok hp:=⟨rfl,fun _ h=>by cases h⟩
def ZT(m:uQ):Wk→St→Option St
 | .fr l,st=>some ⟨aq1 l st.fr,st.hp⟩
 | .ba i l,st=>match bn st.hp i with
  |some (.ba cells e)=>some ⟨st.fr,st.hp.set i (some (.ba (aq2 l cells) e))⟩
  |_=>some st
 | .cP k t,st=>if av1 (st.fr.getD k .bP)then some ⟨st.fr.set k (.one (.sc (.sl st.hp.length 0))),setAt st.hp st.hp.length (.own 0 t [])⟩else some st
 | .fU i j t,st=>match bn st.hp i with
  |some (.ba cells e)=>if Cv (cells.getD j .bP)then some ⟨st.fr,(setAt st.hp st.hp.length (.own 0 t [])).set i (some (.ba (cells.set j (.sl st.hp.length 0)) e))⟩else some st
  |_=>none
 | .kL i,st=>if m.n≤i then match bn st.hp i with
  |some (.own c t l)=>some ⟨st.fr.map (LV.cO (SV.kL i c t l)),(st.hp.set i (some (.gone c))).map (Option.map (Item.cO (SV.kL i c t l)))⟩
  |_=>none else none
 | .ver i,st=>if m.n≤i then match bn st.hp i with
  |some (.own c t l)=>some ⟨st.fr.map (LV.cO (SV.re i c 0)),(st.hp.set i (some (.own 0 t l))).map (Option.map (Item.cO (SV.re i c 0)))⟩
  |_=>none else none
 | .one i,st=>if m.v i then match bn st.hp i with
  |some (.own c t l)=>some ⟨st.fr.map (LV.cO (SV.re i c 1)),(st.hp.set i (some (.own 1 t l))).map (Option.map (Item.cO (SV.re i c 1)))⟩
  |_=>none else none
 | .move i j,st=>if m.v i&&decide (m.n≤j)then match bn st.hp j,bn st.hp i with
  |some (.own c t l),some (.own _ _ _)=>some ⟨st.fr.map (LV.cO (SV.mv i j c)),((st.hp.set i (some (.own 1 t l))).set j none).map (Option.map (Item.cO (SV.mv i j c)))⟩
  |_,_=>none else none
 | .cut ids,st=>if m.n≤st.hp.length&&ids.all (fun i=>decide (m.n≤i))&&En ids then
   some ⟨st.fr.map (LV.bN (BZ m.n ids)),(st.hp.take m.n++ids.map (fun i=>bn st.hp i)).map (Option.map (Item.bN (BZ m.n ids) fun v=>v))⟩else none
 | .dz i off n k,st=>match bn st.hp i with
  |some (.ba cells e)=>some ⟨st.fr,st.hp.set i (some (.ba (IQ off n k cells) e))⟩
  |_=>some st
 | .eZ i off n k,st=>some ⟨Em (IQ off n k) i st.fr,st.hp⟩
 | .Cu i,st=>match bn st.hp i with
  |some (.ba cells e)=>some ⟨st.fr,st.hp.set i (some (.ba (aaQ cells) e))⟩
  |_=>some st
 | .aoA i,st=>some ⟨Em aaQ i st.fr,st.hp⟩
 | .syms,st=>some ⟨st.fr.map (LV.cO (SV.fm .sym)),st.hp.map (Option.map (Item.cO (SV.fm .sym)))⟩
 | .Nl _ _,_| .aq4 _ _ _,_| .auto,_| .aF,_| .Nm,_| .slot _ _ _ _,_=>none
def wkB(m:uQ):List Wk→St→Option St
 | [],st=>some st
 |k::ks,st=>match ZT m k st with
  |some pJ=>wkB m ks pJ
  |none=>none
def aoB:Option Item→Bool
 |some (.own _ _ _)=>true
 |_=>false
def aj6(m:Nat)(st:St):List Nat:=
 match(rk 1000 (st.fr.flatMap LV.refs++(List.range m).filter fun i=>(bn st.hp i).isSome) [] []).val st.hp with
 |some (ids,_)=>ids.filter fun i=>decide (m≤i)
 |none=> []
def wkX(m:uQ):Wk→St→List Wk
 | .Nl k t,st=>match st.fr.getD k .bP with
  | .one (.sc (.sl i _))=> [.kL i]
  |_=> [.fr (List.replicate k .ak++ [.rd true t])]
 | .aq4 i j t,st=>match bn st.hp i with
  |some (.ba cells _)=>match cells.getD j .bP with
   | .sl k _=> [.kL k]
   |_=> [.ba i (List.replicate j .ak++ [.rd true t])]
  |_=> []
 | .auto,st=> [.cut (aj6 m.n st)]
 | .aF,st=>(List.range st.hp.length).filterMap fun i=>if decide (m.n≤i)&&aoB (bn st.hp i)then some (.ver i)else none
 | .Nm,st=>(List.range st.hp.length).filterMap fun i=>if decide (m.n≤i)&&aoB (bn st.hp i)then some (.kL i)else none
 | .slot b j i t,st=>match bn st.hp b with
  |some (.ba cells _)=>match cells.getD j .bP with
   | .sl k _=>if k=i then [.one i]else [.move i k]
   |_=> [.fU b j t,.move i st.hp.length]
  |_=> []
 |k,_=> [k]
def qO(m:uQ):List Wk→St→Option St
 | [],st=>some st
 |k::ks,st=>match wkB m (wkX m k st) st with
  |some pJ=>qO m ks pJ
  |none=>none
theorem Cw{β:Env}{L:Nat→Option Kd}{s:SV}{v:Value}(h:Cv s=true)(hd:s.den β L v):v= .slice none 0 0:=by
 unfold Cv at h
 split at h
 ·exact hd.2
 ·cases h
theorem Cx:∀ {l:List Nat},En l=true→l.Nodup
 | [],_=>List.nodup_nil
 |x::l,h=>by
  simp only[En,Bool.and_eq_true,Bool.not_eq_true',List.any_eq_false,decide_eq_true_eq]at h;exact List.nodup_cons.2 ⟨fun hm=>h.1 x hm rfl,Cx h.2⟩
theorem bd.relabel(h:bd W aj β₀ β hp w){f:SV→SV}(hl:jZ β β (kd hp) (kd hp) f):bd W aj β₀ β (hp.map (Option.map (Item.cO f))) w:=by
 refine h.yU (fun j=>j) rfl (by rw[vk];exact h.first) (fun j y hj=>?_) fun _ _ _ _ _ _ e=>e;obtain⟨x,h1,rfl⟩:=yV hj;exact⟨x,h1,fun b=>(bT.cO rfl rfl).1,by rw[vk];exact hl.item rfl rfl (h.items j x h1),.inl rfl⟩
theorem bd.Nn(h:bd W aj β₀ β hp w)(t:Ty):∃β',bd W aj β₀ β' (setAt hp hp.length (.own 0 t [])) w∧bH β β' (kd hp) (kd (setAt hp hp.length (.own 0 t [])))∧(SV.sl hp.length 0).den β' (kd (setAt hp hp.length (.own 0 t []))) (.slice none 0 0):=by
 obtain⟨β',h1,h2,h3⟩:=h.rf (id:=hp.length) (gk (Nat.le_refl _)) (v:=.slice none 0 0) (ver:=0) (t:=t) (l:= []) (w':=w) (Nat.le_refl _) rfl rfl (fun _ _=>rfl)
  ⟨none,0,0,rfl,rfl,Nat.le_refl _,fun _=>rfl,fun h=>absurd h (by omega)⟩ (fun a n c e=>by simp at e)
 exact⟨β',h1,h2,rfl,0,by rw[c7,if_pos rfl];rfl,Nat.le_refl _,fun _=>h3.symm⟩
theorem No{i:Nat}{x y:Item}(hi:hp[i]? =some (some x))(j:Nat):kd (hp.set i (some y)) j=if j=i then some y.kd else kd hp j:=by
 rw[← yy hi,c7]
theorem Eo{i j:Nat}{x y z:Item}(hi:hp[i]? =some (some x))(hj:(hp.set i (some y))[j]? =some (some z)):(j=i∧z=y)∨(j≠i∧hp[j]? =some (some z)):=by
 by_cases e:j=i
 ·subst e;rw[List.getElem?_set_self (List.getElem?_eq_some_iff.1 hi).1]at hj;exact .inl ⟨rfl,by simpa using hj.symm⟩
 ·rw[List.getElem?_set_ne (Ne.symm e)]at hj;exact .inr ⟨e,hj⟩
theorem bd.Ep(h:bd W aj β₀ β hp w){i:Nat}{cells cells':List SV}{e:TypeId}(hi:hp[i]? =some (some (.ba cells e)))(hc:∀c,a8 β (kd hp) cells c→a8 β (kd hp) cells' c):
  bd W aj β₀ β (hp.set i (some (.ba cells' e))) w∧kd (hp.set i (some (.ba cells' e)))=kd hp:=by
 have hk:kd (hp.set i (some (.ba cells' e)))=kd hp:=by
  funext j
  rw[No hi]
  split
  ·rename_i e1;rw[e1,dk hi];rfl
  ·rfl
 refine⟨h.aq0 hk fun j y hj=>?_,hk⟩;rcases Eo hi hj with⟨rfl,rfl⟩|⟨_,Ce⟩
 ·exact⟨_,hi,.inr ⟨cells,cells',e,rfl,rfl,hc⟩⟩
 ·exact⟨y,Ce,.inl rfl⟩
theorem aaR{i:Nat}(h:aj.length≤i){y:Item}:aj[i]? ≠some (some y):=by rw[List.getElem?_eq_none h];simp
theorem wS{β:Env}{L:Nat→Option Kd}{s':SV}:∀ {l:List SV} {cs:List Value} {j:Nat},a8 β L l cs→Cv (l.getD j .bP)=true→s'.den β L (.slice none 0 0)→a8 β L (l.set j s') cs
 | [],_,_,h,_,_=>h
 |x::l,_,0,.cons (vs:=vs) h t,hn,hs=>by
  have hn:Cv x=true:=hn;have hna:∀t n l,x≠ .arr t n l:=fun _ _ _ e=>by subst e;cases hn
  obtain⟨v,rfl,hv⟩:=SV.iH h hna;have:=Cw hn hv;subst this;exact .cons (vs:= [.slice none 0 0]) (SV.rS hs) t
 |x::l,_,j+1,.cons h t,hn,hs=>.cons h (wS t (by simpa using hn) hs)
theorem aq5(h:bd W aj β₀ β hp w){i c:Nat}{t:Ty}{l:List t.D}(hm:aj.length≤i)(hi:hp[i]? =some (some (.own c t l))):
  ∃β',bd W aj β₀ β' ((hp.set i (some (.gone c))).map (Option.map (Item.cO (SV.kL i c t l)))) w∧jZ β β' (kd hp) (kd ((hp.set i (some (.gone c))).map (Option.map (Item.cO (SV.kL i c t l))))) (SV.kL i c t l):=by
 obtain⟨h1,qA⟩:=h.nV hi (x':=.gone c) (β':=β) (w':=w) rfl (fun _ _=>rfl) rfl (.inr ⟨c,c,rfl,rfl,Nat.le_refl _,fun _=>rfl⟩) (Nat.le_refl _) rfl rfl (fun _ _ _=>rfl) (fun b ho=>ho.elim) (fun _=>trivial)
 have hk:kd (hp.set i (some (.gone c)))=kd hp:=by
  funext j
  rw[No hi]
  split
  ·rename_i e1;rw[e1,dk hi];rfl
  ·rfl
 have nW:dm β w (β.h i) t l:=h.items i _ hi
 obtain⟨h2,aBl,h3⟩:=h1.nD (pm:=true) (v:=β.h i) (t:=t) (l:=l) nW.reads fun b hb=>by
  have ho:bT β (.own c t l) i b:=Eg nW hb;refine⟨(h.items i _ hi).lt ho,fun⟨j,y,hj,ho2⟩=>?_,.inl ?_⟩
  ·rcases Eo hi hj with⟨rfl,rfl⟩|⟨gz,Ce⟩
   ·exact ho2.elim
   ·exact gz (h.inj j i y _ b Ce hi ho2 ho)
  ·rcases h.own i _ b hi ho with k|⟨y,k,_⟩
   ·exact k
   ·exact absurd k (aaR hm)
 have ZR:kd (hp.set i (some (.gone c))) i=some (.own c):=by rw[hk,dk hi];rfl
 have hl:jZ (β.nD true (β.h i) t l) (β.nD true (β.h i) t l) (kd (hp.set i (some (.gone c)))) (kd (hp.set i (some (.gone c)))) (SV.kL i c t l):=IN ZR rfl rfl (fun _ _ _ _ h=>h) h3;refine⟨_,h2.relabel hl,?_⟩;rw[vk,hk];rw[hk]at ZR;exact IN ZR rfl rfl aBl.rd h3
theorem aoC(h:bd W aj β₀ β hp w){i c n:Nat}{t:Ty}{l:List t.D}(hm:kd aj i=none∨(kd aj i=some (.own 0)∧n=1))(hi:hp[i]? =some (some (.own c t l))):
  bd W aj β₀ β ((hp.set i (some (.own n t l))).map (Option.map (Item.cO (SV.re i c n)))) w∧jZ β β (kd hp) (kd ((hp.set i (some (.own n t l))).map (Option.map (Item.cO (SV.re i c n))))) (SV.re i c n):=by
 have hk:∀j,kd ((hp.set i (some (.own n t l))).map (Option.map (Item.cO (SV.re i c n)))) j=if j=i then some (.own n)else kd hp j:=by
  intro j;rw[vk,No hi];rfl
 have hl:jZ β β (kd hp) (kd ((hp.set i (some (.own n t l))).map (Option.map (Item.cO (SV.re i c n))))) (SV.re i c n):=aj2 (by rw[dk hi];rfl) (by rw[hk,if_pos rfl]) fun j hj=>by rw[hk,if_neg hj]
 refine⟨h.yU (fun j=>j) rfl ?_ (fun j y hj=>?_) fun _ _ _ _ _ _ e=>e,hl⟩
 ·refine⟨fun j hj=>?_,fun j k hj=>?_,h.first.rd⟩
  ·have gz:j≠i:=fun e=>(by subst e;rcases hm with hm|⟨hm,_⟩<;>(rw[hm]at hj;cases hj));exact⟨by rw[hk,if_neg gz];exact(h.first.ba j hj).1,(h.first.ba j hj).2⟩
  ·by_cases e:j=i
   ·subst e;rcases hm with hm|⟨hm,rfl⟩<;>(rw[hm]at hj;cases hj)
    exact⟨1,by rw[hk,if_pos rfl],by omega,fun e=>by omega⟩
   ·rw[hk,if_neg e];exact h.first.own j k hj
 ·obtain⟨x,h1,rfl⟩:=yV hj;rcases Eo hi h1 with⟨rfl,rfl⟩|⟨_,h1'⟩
  ·exact⟨_,hi,fun b ho=>ho,h.items j _ hi,.inl rfl⟩
  ·exact⟨x,h1',fun b=>(bT.cO rfl rfl).1,hl.item rfl rfl (h.items j x h1'),.inl rfl⟩
theorem aj7(h:bd W aj β₀ β hp w){i k c c':Nat}{t t':Ty}{l:List t.D}{l':List t'.D}(hm:kd aj i=some (.own 0))(hn:aj.length≤k)(hk:hp[k]? =some (some (.own c t l)))(hi:hp[i]? =some (some (.own c' t' l'))):
  ∃β',bd W aj β₀ β' (((hp.set i (some (.own 1 t l))).set k none).map (Option.map (Item.cO (SV.mv i k c)))) w∧jZ β β' (kd hp) (kd (((hp.set i (some (.own 1 t l))).set k none).map (Option.map (Item.cO (SV.mv i k c))))) (SV.mv i k c):=by
 have gz:i≠k:=fun e=>by subst e;rw[gk hn]at hm;cases hm
 have hil:=(List.getElem?_eq_some_iff.1 hi).1;have hkl:=(List.getElem?_eq_some_iff.1 hk).1;generalize VT:((hp.set i (some (.own 1 t l))).set k none).map (Option.map (Item.cO (SV.mv i k c)))=dP
 have hgi:dP[i]? =some (some (.own 1 t l)):=by
  rw[← VT,List.getElem?_map,List.getElem?_set_ne (Ne.symm gz),List.getElem?_set_self hil];rfl
 have hgk:dP[k]? =some none:=by
  rw[← VT,List.getElem?_map,List.getElem?_set_self (by simpa using hkl)];rfl
 have hgo:∀j,j≠i→j≠k→dP[j]? =(hp[j]?).map (Option.map (Item.cO (SV.mv i k c))):=by
  intro j h1 h2;rw[← VT,List.getElem?_map,List.getElem?_set_ne (Ne.symm h2),List.getElem?_set_ne (Ne.symm h1)]
 have hko:∀j,j≠i→j≠k→kd dP j=kd hp j:=by
  intro j h1 h2;unfold kd;rw[hgo j h1 h2]
  cases hp[j]? with
  |none=>rfl
  |some o=>cases o with
   |none=>rfl
   |some x=>simp[Item.SJ]
 have ZR:kd dP i=some (.own 1):=by rw[dk hgi];rfl
 let β':Env:=⟨β.b,fun j=>if j=i then β.h k else β.h j,β.rd⟩
 have hl:jZ β β' (kd hp) (kd dP) (SV.mv i k c):=aj3 (by rw[dk hk];rfl) (by rw[dk hi];intro e;cases e) ZR hko rfl (fun j hj=>if_neg hj) (if_pos rfl) rfl
 let g:Nat→Nat:=fun j=>if j=i then k else j
 refine⟨β',h.yU g rfl ⟨fun j hj=>?_,fun j n hj=>?_,h.first.rd⟩ (fun j y hj=>?_) (fun j j' y z hj Ce e=>?_),hl⟩
 ·have h1:j≠i:=fun e=>by subst e;rw[hm]at hj;cases hj
  have h2:j≠k:=fun e=>by subst e;rw[gk hn]at hj;cases hj
  rw[hko j h1 h2];exact h.first.ba j hj
 ·have h2:j≠k:=fun e=>by subst e;rw[gk hn]at hj;cases hj
  by_cases h1:j=i
  ·subst h1;rw[hm]at hj;cases hj;exact⟨1,ZR,by omega,fun e=>by omega⟩
  ·obtain⟨n',k1,k2,k3⟩:=h.first.own j n hj;exact⟨n',by rw[hko j h1 h2];exact k1,k2,fun e=>by show(if j=i then _ else _)=_;rw[if_neg h1];exact k3 e⟩
 ·by_cases h1:j=i
  ·subst h1;rw[hgi]at hj;cases hj;refine⟨_,by show hp[if j=j then k else j]? =_;rw[if_pos rfl];exact hk,fun b ho=>?_,?_,.inr ?_⟩
   ·obtain⟨a,n,m,h3,h4,h5⟩:=ho;have h3':(if j=j then β.h k else β.h j)=_:=h3;rw[if_pos rfl]at h3';exact⟨a,n,m,by show β.h (if j=j then k else j)=_;rw[if_pos rfl];exact h3',h4,h5⟩
   ·show dm β' w (if j=j then β.h k else β.h j) t l;rw[if_pos rfl];have nW:dm β w (β.h k) t l:=h.items k _ hk;exact dm.of (β:=β) (β':=β') (w:=w) (w':=w) (fun _ _ _ _ h=>h) nW fun _ _ _ _ _=>rfl
   ·show kd aj (if j=j then k else j)=none;rw[if_pos rfl];exact gk hn
  ·by_cases h2:j=k
   ·subst h2;rw[hgk]at hj;cases hj
   ·rw[hgo j h1 h2]at hj;obtain⟨o,h3,h4⟩:=map_some hj
    cases o with
    |none=>cases h4
    |some x=>
     have h4':y=x.cO (SV.mv i k c):=(by simpa using h4.symm);subst h4';have hg:g j=j:=if_neg h1;have hhj:β'.h j=β.h j:=if_neg h1;rw[hg];exact⟨x,h3,fun b=>(bT.cO (β:=β) (β':=β') rfl hhj).1,hl.item rfl hhj (h.items j x h3),.inl rfl⟩
 ·have hnk:∀ {j y},dP[j]? =some (some y)→j≠k:=fun hj e=>by subst e;rw[hgk]at hj;cases hj
  have h1:=hnk hj;have h2:=hnk Ce;have e':(if j=i then k else j)=(if j'=i then k else j'):=e
  split at e'<;>split at e'
  ·rename_i a b;rw[a,b]
  ·exact absurd e'.symm h2
  ·exact absurd e' h1
  ·exact e'
theorem aq6(h:bd W aj β₀ β hp w){ids:List Nat}(hlen:aj.length≤hp.length)(hm:∀i∈ids,aj.length≤i)(hn:ids.Nodup):
  ∃β',bd W aj β₀ β' ((hp.take aj.length++ids.map (fun i=>bn hp i)).map (Option.map (Item.bN (BZ aj.length ids) fun v=>v))) w∧
   u9 (BZ aj.length ids) β β' (kd hp) (kd ((hp.take aj.length++ids.map (fun i=>bn hp i)).map (Option.map (Item.bN (BZ aj.length ids) fun v=>v)))) false:=by
 generalize hme:aj.length=m at*;generalize VT:(hp.take m++ids.map (fun i=>bn hp i)).map (Option.map (Item.bN (BZ m ids) fun v=>v))=dP
 let g:Nat→Nat:=fun j=>if j<m then j else ids.getD (j-m) 0
 have aj8:∀ {j},j<m→g j=j:=fun hj=>if_pos hj
 have av3:∀ {j i:Nat},m≤j→ids[j-m]? =some i→g j=i:=fun hj hi=>by
  show(if _ then _ else _)=_;rw[if_neg (by omega),gl hi]
 have htl:(hp.take m).length=m:=by simp;omega
 have lY:∀ {j y},dP[j]? =some (some y)→∃x,hp[g j]? =some (some x)∧y=x.bN (BZ m ids) (fun v=>v)∧((j<m∧g j=j)∨(m≤j∧ids[j-m]? =some (g j))):=by
  intro j y hj;rw[← VT,List.getElem?_map]at hj;obtain⟨o,h1,h2⟩:=map_some hj
  cases o with
  |none=>cases h2
  |some x=>
   have h2':y=x.bN (BZ m ids) fun v=>v:=by simpa using h2.symm
   by_cases VP:j<m
   ·rw[List.getElem?_append_left (by omega),List.getElem?_take,if_pos VP]at h1;exact⟨x,by rw[aj8 VP];exact h1,h2',.inl ⟨VP,aj8 VP⟩⟩
   ·rw[List.getElem?_append_right (by omega),htl,List.getElem?_map]at h1;obtain⟨i,h3,h4⟩:=map_some h1;have e:=av3 (by omega) h3;exact⟨x,by rw[e];exact aB h4,h2',.inr ⟨by omega,by rw[e];exact h3⟩⟩
 have hto:∀ {i j x},aj5 m ids i=some j→hp[i]? =some (some x)→dP[j]? =some (some (x.bN (BZ m ids) (fun v=>v)))∧g j=i:=by
  intro i j x hf hi;unfold aj5 at hf
  split at hf
  ·rename_i him
   cases hf
   refine⟨?_,aj8 him⟩;rw[← VT,List.getElem?_map,List.getElem?_append_left (by omega),List.getElem?_take,if_pos him,hi];rfl
  ·obtain⟨k,hk,rfl⟩:=map_some hf;have h3:=gC hk;refine⟨?_,av3 (by omega) (by rw[show k+m-m=k from by omega];exact h3)⟩;rw[← VT,List.getElem?_map,List.getElem?_append_right (by omega),htl,show k+m-m=k from by omega,List.getElem?_map,h3];show some (Option.map _ (bn hp i))=_;rw[pB hi];rfl
 let β':Env:=⟨fun j=>β.b (g j),fun j=>β.h (g j),β.rd⟩
 have wR:u9 (BZ m ids) β β' (kd hp) (kd dP) false:=by
  refine⟨fun b j hj hb=>?_,fun i j c hj hi=>?_,fun _ _ _ h=>h,fun _ _ _ _ h=>h⟩
  ·obtain⟨x,h1,h2⟩:=kT hb;obtain⟨h3,h4⟩:=hto hj h1;exact⟨by rw[dk h3,Item.jY,h2];rfl,congrArg β.b h4⟩
  ·obtain⟨x,h1,h2⟩:=kT hi;obtain⟨h3,h4⟩:=hto hj h1;exact⟨c,by rw[dk h3,Item.jY,h2];rfl,congrArg β.h h4,fun v v' hv e=>by cases e;exact⟨hv,fun e=>e⟩⟩
 have dQ:∀ {i k},kd aj i=some k→i<m:=fun {i k} hi=>by
  rcases Nat.lt_or_ge i m with h1|h1
  ·exact h1
  ·rw[gk (by omega)]at hi;cases hi
 have H9:∀ {i},i<m→aj5 m ids i=some i:=fun hi=>if_pos hi;refine⟨β',h.yU g rfl ⟨fun i hi=>?_,fun i c hi=>?_,h.first.rd⟩ (fun j y hj=>?_) (fun j k y z hj hk e=>?_),wR⟩
 ·obtain⟨k1,k2⟩:=h.first.ba i hi;obtain⟨k3,k4⟩:=wR.ba i i (H9 (dQ hi)) k1;exact⟨k3,k4.trans k2⟩
 ·obtain⟨c',k1,k2,k3⟩:=h.first.own i c hi;have BH:i<m:=dQ hi;obtain⟨x,h1,h2⟩:=kT k1;obtain⟨h3,h4⟩:=hto (H9 BH) h1;exact⟨c',by rw[dk h3,Item.jY,h2];rfl,k2,fun e=>(congrArg β.h (aj8 BH)).trans (k3 e)⟩
 ·obtain⟨x,h1,rfl,h2⟩:=lY hj;refine⟨x,h1,fun b=>(bT.bN (β:=β) (β':=β') rfl rfl).1,eV.Ef wR (by simp) (fun _=>rfl) (fun _ _=>rfl) (h.items _ x h1),?_⟩;rcases h2 with⟨_,h2⟩|⟨_,h2⟩
  ·exact .inl h2
  ·exact .inr (gk (by rw[hme];exact hm _ (List.mem_of_getElem? h2)))
 ·obtain⟨_,_,_,h1⟩:=lY hj;obtain⟨_,_,_,h2⟩:=lY hk;rcases h1 with⟨a1,a2⟩|⟨a1,a2⟩<;>rcases h2 with⟨b1,b2⟩|⟨b1,b2⟩
  ·omega
  ·have:=hm _ (List.mem_of_getElem? b2);omega
  ·have:=hm _ (List.mem_of_getElem? a2);omega
  ·rw[e]at a2;have e1:=jX hn a2;have e2:=jX hn b2;rw[e1]at e2;have:=Option.some.inj e2;omega
theorem aq7{m:uQ}(IT:m.Ok aj){k:Wk}{st pJ:St}(h:ZT m k st=some pJ){vals:List Value}(hr:VS W aj β₀ β st.fr st.hp vals w):∃β',VS W aj β₀ β' pJ.fr pJ.hp vals w:=by
 obtain⟨fr,hp⟩:=st
 cases k with
 |fr l=>cases h;exact⟨β,IL l hr.fr,hr.heap⟩
 |ba i l=>
  simp only[ZT]at h
  split at h
  ·rename_i cells e hi
   cases h
   obtain⟨h1,h2⟩:=hr.heap.Ep (aB hi) fun c=>IM l;exact⟨β,by show bF (LV.den β (kd _)) fr vals;rw[h2];exact hr.fr,h1⟩
  ·cases h;exact⟨β,hr⟩
 |cP k t=>
  simp only[ZT]at h
  split at h
  ·rename_i yG
   cases h
   obtain⟨β',h1,h2,h3⟩:=hr.heap.Nn t;refine⟨β',(hr.fr.imp fun _ _=>LV.eI h2).aq3 fun b hb=>?_,h1⟩
   have iw:∃x,fr[k]? =some x:=by
    have:fr.length=vals.length:=hr.fr.length;have hk:=(List.getElem?_eq_some_iff.1 hb).1;exact⟨_,List.getElem?_eq_getElem (show k<fr.length by omega)⟩
   obtain⟨x,hx⟩:=iw;obtain⟨b',sa,hd⟩:=hr.fr.get hx;rw[hb]at sa;cases sa;simp only[List.getD_eq_getElem?_getD,hx,Option.getD_some]at yG
   cases x with
   |one x=>cases x with
    |sc s=>
     have:=Cw yG hd;subst this;exact h3
    |agg l=>cases yG
   |c6 l=>cases yG
   |bP=>cases yG
  ·cases h;exact⟨β,hr⟩
 |fU i j t=>
  simp only[ZT]at h
  split at h
  ·rename_i cells e hi
   split at h
   ·rename_i yG
    cases h
    obtain⟨β',h1,h2,h3⟩:=hr.heap.Nn t
    have BH:(setAt hp hp.length (.own 0 t []))[i]? =some (some (.ba cells e)):=by
     refine(bY hp _ _ _ _ ?_).2 (aB hi);have:=(List.getElem?_eq_some_iff.1 (aB hi)).1;omega
    obtain⟨h4,h5⟩:=h1.Ep (cells':=cells.set j (.sl hp.length 0)) BH fun c hc=>wS hc yG h3;exact⟨β',by show bF (LV.den β' (kd _)) fr vals;rw[h5];exact hr.fr.imp fun _ _=>LV.eI h2,h4⟩
   ·cases h;exact⟨β,hr⟩
  ·cases h
 |kL i=>
  simp only[ZT]at h
  split at h
  ·rename_i hm
   split at h
   ·rename_i c t l hi
    cases h
    obtain⟨β',h1,h2⟩:=aq5 hr.heap (IT.n▸hm) (aB hi);exact⟨β',h2.fr hr.fr,h1⟩
   ·cases h
  ·cases h
 |ver i=>
  simp only[ZT]at h
  split at h
  ·rename_i hm
   split at h
   ·rename_i c t l hi
    cases h
    obtain⟨h1,h2⟩:=aoC (n:=0) hr.heap (.inl (gk (IT.n▸hm))) (aB hi);exact⟨β,h2.fr hr.fr,h1⟩
   ·cases h
  ·cases h
 |one i=>
  simp only[ZT]at h
  split at h
  ·rename_i hm
   split at h
   ·rename_i c t l hi
    cases h
    obtain⟨h1,h2⟩:=aoC (n:=1) hr.heap (.inr ⟨IT.v i hm,rfl⟩) (aB hi);exact⟨β,h2.fr hr.fr,h1⟩
   ·cases h
  ·cases h
 |move i j=>
  simp only[ZT]at h
  split at h
  ·rename_i hm;simp only[Bool.and_eq_true,decide_eq_true_eq]at hm
   split at h
   ·rename_i c t l c' t' l' hj hi
    cases h
    obtain⟨β',h1,h2⟩:=aj7 hr.heap (IT.v i hm.1) (IT.n▸hm.2) (aB hj) (aB hi);exact⟨β',h2.fr hr.fr,h1⟩
   ·cases h
  ·cases h
 |cut ids=>
  simp only[ZT]at h
  split at h
  ·rename_i hc;simp only[Bool.and_eq_true,decide_eq_true_eq,List.all_eq_true]at hc
   cases h
   rw[IT.n]at hc ⊢;obtain⟨β',h1,h2⟩:=aq6 hr.heap hc.1.1 hc.1.2 (Cx hc.2);refine⟨β',?_,h1⟩;have hfr:=hr.fr;show bF (LV.den β' _) (fr.map _) vals;exact hfr.yi fun a b=>LV.fT h2 (by simp)
  ·cases h
 |dz i off n k=>
  simp only[ZT]at h
  split at h
  ·rename_i cells e hi
   cases h
   obtain⟨h1,h2⟩:=hr.heap.Ep (aB hi) fun c=>mq (off:=off) (n:=n) (k:=k);exact⟨β,by show bF (LV.den β (kd _)) fr vals;rw[h2];exact hr.fr,h1⟩
  ·cases h;exact⟨β,hr⟩
 |eZ i off n k=>cases h;exact⟨β,yX (fun _ _=>mq) hr.fr,hr.heap⟩
 |Cu i=>
  simp only[ZT]at h
  split at h
  ·rename_i cells e hi
   cases h
   obtain⟨h1,h2⟩:=hr.heap.Ep (aB hi) fun c=>Ct;exact⟨β,by show bF (LV.den β (kd _)) fr vals;rw[h2];exact hr.fr,h1⟩
  ·cases h;exact⟨β,hr⟩
 |aoA i=>cases h;exact⟨β,yX (fun _ _=>Ct) hr.fr,hr.heap⟩
 |syms=>
  cases h
  refine⟨β,?_,hr.heap.relabel (sC .sym)⟩;show bF (LV.den β (kd (hp.map _))) (fr.map _) vals;rw[vk];exact(sC .sym).fr hr.fr
 |Nl k t=>cases h
 |aq4 i j t=>cases h
 |auto=>cases h
 |aF=>cases h
 |Nm=>cases h
 |slot b o i t=>cases h
theorem aaS{m:uQ}(IT:m.Ok aj):∀ (ks:List Wk) {st pJ:St} {β:Env},wkB m ks st=some pJ→∀ {vals:List Value},VS W aj β₀ β st.fr st.hp vals w→∃β',VS W aj β₀ β' pJ.fr pJ.hp vals w
 | [],_,_,_,h,_,hr=>by cases h;exact⟨_,hr⟩
 |k::ks,st,_,_,h,_,hr=>by
  simp only[wkB]at h
  split at h
  ·rename_i st1 h1;obtain⟨β1,MG⟩:=aq7 IT h1 hr;exact aaS IT ks h MG
  ·cases h
theorem aaT{m:uQ}(IT:m.Ok aj):∀ (ks:List Wk) {st pJ:St} {β:Env},qO m ks st=some pJ→∀ {vals:List Value},VS W aj β₀ β st.fr st.hp vals w→∃β',VS W aj β₀ β' pJ.fr pJ.hp vals w
 | [],_,_,_,h,_,hr=>by cases h;exact⟨_,hr⟩
 |k::ks,st,_,_,h,_,hr=>by
  simp only[qO]at h
  split at h
  ·rename_i st1 h1;obtain⟨β1,MG⟩:=aaS IT _ h1 hr;exact aaT IT ks h MG
  ·cases h
end
def aG.wk(m:uQ)(ws:Exit→List Wk):aG→aG
 | .leaf e st=>match qO m (ws e) st with
  |some pJ=>.leaf e pJ
  |none=>.fail
 | .ite b x y=>.ite b (x.wk m ws) (y.wk m ws)
 | .need p x=>.need p (x.wk m ws)
 | .fail=>.fail
theorem mS{m:uQ}{ws:Exit→List Wk}{R:Exit→St→Prop}:∀ {r:aG},(r.wk m ws).sat R→r.sat fun e st=>∃pJ,qO m (ws e) st=some pJ∧R e pJ
 | .leaf e st,h=>by
  simp only[aG.wk]at h
  split at h
  ·rename_i pJ h1;exact⟨pJ,h1,h⟩
  ·exact h.elim
 | .ite b x y,h=>⟨fun e=>mS (h.1 e),fun e=>mS (h.2 e)⟩
 | .need p x,h=>⟨h.1,mS h.2⟩
 | .fail,h=>h
theorem Rel.wk{W:World}{aj:Hp}{β₀ β:Env}{st pJ:St}{a:Act}{w:World}(hr:Rel W aj β₀ β st a w){m:uQ}(IT:m.Ok aj){ks:List Wk}(h:qO m ks st=some pJ):∃β',Rel W aj β₀ β' pJ a w:=by
 obtain⟨β',h1⟩:=aaT IT ks h ⟨hr.fr,hr.heap⟩;exact⟨β',hr.defers,h1.fr,h1.heap⟩
theorem Ex.wk{P:Program}{aj:Hp}{c:Code}{st:St}{r:aG}(ws:Exit→List Wk)(h:Ex P aj c st r):Ex P aj c st (r.wk (.of aj) ws):=by
 intro W β₀ R Q hs hq β a w hr;refine h W β₀ _ Q (mS hs) ?_ β a w hr
 rintro e a w ⟨st1,β1,⟨st2,h1,h2⟩,h3⟩
 obtain⟨β2,h4⟩:=h3.wk (uQ.aS aj) h1;exact hq _ _ _ ⟨st2,β2,h2,h4⟩
theorem Ex.pre{P:Program}{aj:Hp}{c:Code}{st pJ:St}{r:aG}{m:uQ}(IT:m.Ok aj)(ks:List Wk)(hk:qO m ks st=some pJ)(h:Ex P aj c pJ r):Ex P aj c st r:=by
 intro W β₀ R Q hs hq β a w hr;obtain⟨β2,h4⟩:=hr.wk IT hk;exact h W β₀ R Q hs hq β2 a w h4
def End.wk(m:uQ)(ks:List Wk):End→End
 | .leaf v hp=>match qO m ks ⟨[v],hp⟩with
  |some ⟨[v'],dP⟩=>.leaf v' dP
  |_=>.fail
 | .ite b x y=>.ite b (x.wk m ks) (y.wk m ks)
 | .need p x=>.need p (x.wk m ks)
 | .fail=>.fail
theorem mT{m:uQ}{ks:List Wk}{R:LV→Hp→Prop}:∀ {r:End},(r.wk m ks).sat R→r.sat fun v hp=>∃v' dP,qO m ks ⟨[v],hp⟩=some ⟨[v'],dP⟩∧R v' dP
 | .leaf v hp,h=>by
  simp only[End.wk]at h
  split at h
  ·rename_i v' dP h1;exact⟨v',dP,h1,h⟩
  ·exact h.elim
 | .ite b x y,h=>⟨fun e=>mT (h.1 e),fun e=>mT (h.2 e)⟩
 | .need p x,h=>⟨h.1,mT h.2⟩
 | .fail,h=>h
theorem iO.wk{P:Program}{f:FuncId}{args:List LV}{hp:Hp}{t:End}(ks:List Wk)(h:iO P f args hp t):iO P f args hp (t.wk (.of hp) ks):=by
 intro R hs β w vals hh eE;refine(h _ (mT hs) β w vals hh eE).mono ?_
 rintro e w' ⟨val,β',r,dP,rfl,⟨v',hp2,h1,h2⟩,hd,hr⟩
 obtain⟨β2,h3⟩:=aaT (uQ.aS hp) ks h1 (vals:= [val]) ⟨.cons hd .nil,hr⟩;obtain⟨h4,h5⟩:=h3
 cases h4 with
 |cons h6 _=>exact⟨val,β2,v',hp2,rfl,h2,h6,h5⟩
theorem Ex.cJ{P:Program}{m:Hp}{c:Code}{X:Type}(μ:X→Nat)(S:X→St)(I:X→Prop)(rnd F:X→aG)(h:∀x,I x→Ex P m c (S x) (rnd x))
  (hr:∀x R,I x→(F x).sat R→(rnd x).sat fun e s=>(e= .normal∧∃y,s=S y∧I y∧μ y<μ x∧(F y).sat R)∨(e≠ .normal∧R e s)) {x:X} (hx:I x):Ex P m (.loop c) (S x) (F x):=by
 intro W β₀ R Q hs hq β a w aaF
 have key:∀ (n:Nat) (y:X),I y→μ y<n→(F y).sat R→∀β a w,Rel W m β₀ β (S y) a w→Code.rounds P c Q n a w:=by
  intro n
  induction n with
  |zero=>intro y _ h0;omega
  |succ n ih=>
   intro y hy hn hF β a w pI;rw[rounds_succ];refine h y hy W β₀ _ _ (hr y R hy hF) ?_ β a w pI
   rintro e a w ⟨t,β',h1,h2⟩
   rcases h1 with⟨rfl,z,rfl,hz,dQ,hF'⟩|⟨gz,h1⟩
   ·exact ih z hz (by omega) hF' β' a w h2
   ·cases e with
    |normal=>exact absurd rfl gz
    |exit _=>exact hq _ _ _ ⟨t,β',h1,h2⟩
    |goto _=>exact hq _ _ _ ⟨t,β',h1,h2⟩
    |ret=>exact hq _ _ _ ⟨t,β',h1,h2⟩
    |panic _=>exact hq _ _ _ ⟨t,β',h1,h2⟩
    |outgrown=>exact hq _ _ _ ⟨t,β',h1,h2⟩
 exact wp_loop_rounds (μ x+1) (key _ x hx (Nat.lt_succ_self _) hs β a w aaF)
theorem Ex.need{P:Program}{m:Hp}{c:Code}{st:St}{p:Prop}{r:aG}(h:p→Ex P m c st r):Ex P m c st (.need p r):=
 fun W β₀ R Q hs hq β a w hr=>h hs.1 W β₀ R Q hs.2 hq β a w hr
def aJ(fn:Func):Code:=fn.body.getD .skip
def fL(c:Code)(id:Nat):List Code:=(BY c).filterMap fun p=>if p.1=id then some p.2 else none
def aP(fn:Func)(id:Nat):Code:=match fL (aJ fn) id with
 | [.loop b]=>b
 |_=>.ret
def ki:List Code→Bool
 | [.loop _]=>true
 |_=>false
theorem vl{fn:Func}{id:Nat}(h:ki (fL (aJ fn) id)=true):fL (aJ fn) id= [.loop (aP fn id)]:=by
 unfold aP;generalize fL (aJ fn) id=l at*;unfold ki at h
 split at h
 ·rfl
 ·cases h
theorem Cy{LT:df}{id:Nat}{f:St→aG}(h:Cp LT id=some f):(id,f)∈LT:=by
 induction LT with
 |nil=>cases h
 |cons p l ih=>
  obtain⟨i,g⟩:=p;simp only[Cp]at h
  split at h
  ·rename_i e;subst e;cases h;simp
  ·exact List.mem_cons_of_mem _ (ih h)
theorem aK.bI{P:Program}{m:Hp}{LT:df}{fn:Func}(h:∀p∈LT,ki (fL (aJ fn) p.1)=true∧∀st,Ex P m (.loop (aP fn p.1)) st (p.2 st)):aK P m LT (aJ fn):=by
 refine aK.of fun id f c' hf hm st=>?_;obtain⟨h1,h2⟩:=h _ (Cy hf);have:c'∈fL (aJ fn) id:=List.mem_filterMap.2 ⟨(id,c'),hm,by simp⟩;rw[vl h1]at this;simp at this;subst this;exact h2 st
theorem aaU{c c':Code}{id:Nat}(h:(id,c')∈BY c):∀p∈BY c',p∈BY c:=by
 induction c with
 |seq a b iha ihb=>
  rcases List.mem_append.1 h with h|h
  ·exact fun p hp=>List.mem_append_left _ (iha h p hp)
  ·exact fun p hp=>List.mem_append_right _ (ihb h p hp)
 |cond _ a b iha ihb=>
  rcases List.mem_append.1 h with h|h
  ·exact fun p hp=>List.mem_append_left _ (iha h p hp)
  ·exact fun p hp=>List.mem_append_right _ (ihb h p hp)
 |block i c ih=>
  rcases List.mem_cons.1 h with h|h
  ·cases h;exact fun p hp=>List.mem_cons_of_mem _ hp
  ·exact fun p hp=>List.mem_cons_of_mem _ (ih h p hp)
 |loop c ih=>exact fun p hp=>ih h p hp
 |scope c ih=>exact fun p hp=>ih h p hp
 |_=>cases h
theorem aK.inner{P:Program}{m:Hp}{LT:df}{fn:Func}{i:Nat}(hi:ki (fL (aJ fn) i)=true)(h:∀p∈LT,ki (fL (aJ fn) p.1)=true∧∀st,Ex P m (.loop (aP fn p.1)) st (p.2 st)):aK P m LT (aP fn i):=by
 refine aK.of fun id f c' hf hm st=>?_;obtain⟨h1,h2⟩:=h _ (Cy hf);have h3:Code.loop (aP fn i)∈fL (aJ fn) i:=by rw[vl hi];simp
 obtain⟨⟨j,c2⟩,h4,h5⟩:=List.mem_filterMap.1 h3;simp only at h5
 split at h5
 ·cases h5
  have:c'∈fL (aJ fn) id:=List.mem_filterMap.2 ⟨(id,c'),aaU h4 _ hm,by simp⟩;rw[vl h1]at this;simp at this;subst this;exact h2 st
 ·cases h5
def ct(P:Program)(tab:List (FuncId×an))(LT:df)(fn:Func)(id:Nat)(hp:Hp)(ws:Exit→List Wk)(st:St):aG:=(exec P (SG tab) fork hp LT (aP fn id) st).wk (.of hp) ws
theorem SL{P:Program}(kO:P.follows .mixedOrders=true){tab:List (FuncId×an)}(qB:∀p∈tab,p.2.Ok P p.1){LT:df}{fn:Func}{id:Nat}{hp:Hp}{ws:Exit→List Wk}{st:St}(hL:aK P hp LT (aP fn id)):
  Ex P hp (aP fn id) st (ct P tab LT fn id hp ws st):=(Ex.SA (aaP qB) kO hL rfl).wk ws
def aH(P:Program)(tab:List (FuncId×an))(LT:df)(fn:Func)(args:List LV)(hp:Hp)(ks:List Wk):End:=((exec P (SG tab) fork hp LT (aJ fn) (entry fn args hp)).ends P fn).wk (.of hp) ks
theorem ar{P:Program}(kO:P.follows .mixedOrders=true){tab:List (FuncId×an)}(qB:∀p∈tab,p.2.Ok P p.1){f:FuncId}{fn:Func}(hf:P.funcs[f]? =some fn)(hb:fn.body.isSome=true){LT:df}{args:List LV}{hp:Hp}{ks:List Wk}(hL:aK P hp LT (aJ fn)):
  iO P f args hp (aH P tab LT fn args hp ks):=by
 have iw:fn.body=some (aJ fn):=by
  unfold aJ
  cases h:fn.body with
  |none=>rw[h]at hb;cases hb
  |some c=>rfl
 exact(Nh hf iw (Ex.SA (A:=fork) (aaP qB) kO hL rfl)).wk ks
theorem iO.use{P:Program}{f:FuncId}{args:List LV}{hp:Hp}{t:End}(h:iO P f args hp t){V:LV}{D:List (Nat×Item)}(hs:t.sat fun v dP=>v=V∧dP=aI D hp){Q:LV→List (Nat×Item)→Prop}(hQ:Q V D):
  g8 P f args hp fun v dP=>∃d,Q v d∧dP=aI d hp:=by
 refine h _ ?_
 have key:∀ {t:End},(t.sat fun v dP=>v=V∧dP=aI D hp)→t.sat fun v dP=>∃d,Q v d∧dP=aI d hp:=by
  intro t
  induction t with
  |leaf v dP=>rintro⟨rfl,rfl⟩;exact⟨D,hQ,rfl⟩
  |ite b x y ihx ihy=>exact fun h=>⟨fun e=>ihx (h.1 e),fun e=>ihy (h.2 e)⟩
  |need p x ih=>exact fun h=>⟨h.1,ih h.2⟩
  |fail=>exact fun h=>h
 exact key hs
def yY(l:List SV):List SV:=
 if l.length=32 then IQ 0 32 .u8 l else if l.length=8 then IQ 0 8 .u64 (IQ 0 8 .u8 l)else if l.length=16 then IQ 0 16 .u64 l else l
theorem Np{β:Env}{L:Nat→Option Kd}{l:List SV}{vs:List Value}(h:a8 β L l vs):a8 β L (yY l) vs:=by
 unfold yY
 split
 ·exact mq h
 ·split
  ·exact mq (mq h)
  ·split
   ·exact mq h
   ·exact h
def an.sym(e:an):an:=⟨e.tys,fun args hp=>e.run (args.map fun a=>(a.cO SV.symm).onL yY) (hp.map (Option.map (Item.cO SV.symm)))⟩
theorem aaV{β:Env}{L:Nat→Option Kd}{s:SV}{v:Value}:(s.symm).den β L v↔s.den β L v:=by cases s<;>exact Iff.rfl
theorem VU{β:Env}{L:Nat→Option Kd}{s:SV}{vs:List Value}:(s.symm).iv β L vs↔s.iv β L vs:=by cases s<;>exact Iff.rfl
theorem Cz{β:Env}{L:Nat→Option Kd}:jZ β β L L SV.symm:=⟨aaV.2,fun _ _ _=>rfl,fun _ _ _ h=>h⟩
theorem CA{β:Env}{L:Nat→Option Kd}:∀ {l:List SV} {vs:List Value},a8 β L (l.map SV.symm) vs→a8 β L l vs
 | [],_,h=>h
 |s::l,_,h=>by
  cases h with
  |cons h1 h2=>exact .cons (VU.1 h1) (CA h2)
theorem VW{β:Env}{L:Nat→Option Kd}{w:World}{i:Nat}{x:Item}(h:eV β L w i (x.cO SV.symm)):eV β L w i x:=by
 cases x with
 |ba cells e=>obtain⟨c,fz,h1,h2,h3⟩:=h;exact⟨c,fz,h1,h2,CA h3⟩
 |_=>exact h
theorem iQ:∀ (d:List (Nat×Item)) {hp hp2:Hp} {j:Nat} {x:Item},(∀ (j:Nat) (x:Item),hp[j]? =some (some x)→∃y,hp2[j]? =some (some y)∧(y=x∨y=x.cO SV.symm))→(aI d hp)[j]? =some (some x)→∃y,(aI d hp2)[j]? =some (some y)∧(y=x∨y=x.cO SV.symm)
 | [],_,_,j,x,h,hj=>h j x hj
 |(i,z)::d,hp,hp2,j,x,h,hj=>by
  refine iQ d (hp:=setAt hp i z) (hp2:=setAt hp2 i z) (fun k y hk=>?_) hj
  by_cases e:k=i
  ·subst e;rw[dw]at hk;cases hk;exact⟨z,dw _ _ _,.inl rfl⟩
  ·obtain⟨y',h1,h2⟩:=h k y ((bY hp i z k y e).1 hk);exact⟨y',(bY hp2 i z k y' e).2 h1,h2⟩
theorem nH:∀ (d:List (Nat×Item)) {hp hp2:Hp},kd hp=kd hp2→kd (aI d hp)=kd (aI d hp2)
 | [],_,_,h=>h
 |(i,z)::d,hp,hp2,h=>nH d (hp:=setAt hp i z) (hp2:=setAt hp2 i z) (by funext j;rw[c7,c7,h])
theorem an.Ok.sym{P:Program}{f:FuncId}{e:an}(he:e.Ok P f):e.sym.Ok P f:=by
 refine⟨fun args hp Q h β w vals hh eE=>?_⟩;generalize VT:hp.map (Option.map (Item.cO SV.symm))=hp2;have hk:kd hp2=kd hp:=by rw[← VT];exact vk hp
 have hh2:bd w hp2 β β hp2 w:=VT▸(hh.relabel Cz).self
 have aq8:bF (LV.den β (kd hp2)) (args.map fun a=>(a.cO SV.symm).onL yY) vals:=by
  rw[hk];exact eE.yi fun a b h=>LV.sE (fun _ _=>Np) (Cz.lv h)
 have hto:∀ (j:Nat) (x:Item),hp[j]? =some (some x)→∃y,hp2[j]? =some (some y)∧(y=x∨y=x.cO SV.symm):=by
  intro j x hj;refine⟨x.cO SV.symm,?_,.inr rfl⟩;rw[← VT,List.getElem?_map,hj];rfl
 have hof:∀ (j:Nat) (y:Item),hp2[j]? =some (some y)→∃x,hp[j]? =some (some x)∧y=x.cO SV.symm:=by
  intro j y hj;rw[← VT]at hj;exact yV hj
 have eB:(e.run (args.map fun a=>(a.cO SV.symm).onL yY) hp2).holds Q:=VT▸h;refine(he.calls _ _ Q eB β w vals hh2 aq8).mono ?_
 rintro en w' ⟨val,β',r,dP,rfl,⟨d,hq,rfl⟩,hd,h'⟩
 have hk2:kd (aI d hp2)=kd (aI d hp):=nH d hk;refine⟨val,β',r,aI d hp,rfl,⟨d,hq,rfl⟩,by rw[← hk2];exact hd,?_⟩
 have gZ:∀ {x y:Item} {i b:Nat},(y=x∨y=x.cO SV.symm)→(bT β' y i b↔bT β' x i b):=by
  rintro x y i b (rfl|rfl)
  ·exact Iff.rfl
  ·exact bT.cO rfl rfl
 refine⟨fun j x hj=>?_,fun i j x y b hi hj h1 h2=>?_,?_,fun i x b hi ho=>?_,h'.os,h'.output,h'.size,fun b hb qK=>?_,fun pm v t l hr=>?_,h'.from_⟩
 ·obtain⟨y,h1,h2⟩:=iQ d hto hj;rw[← hk2];have:=h'.items j y h1;rcases h2 with rfl|rfl
  ·exact this
  ·exact VW this
 ·obtain⟨x',a1,a2⟩:=iQ d hto hi;obtain⟨y',b1,b2⟩:=iQ d hto hj;exact h'.inj i j x' y' b a1 b1 ((gZ a2).2 h1) ((gZ b2).2 h2)
 ·rw[← hk,← hk2];exact h'.first
 ·obtain⟨x',a1,a2⟩:=iQ d hto hi;rcases h'.own i x' b a1 ((gZ a2).2 ho)with k|⟨y,k1,k2⟩
  ·exact .inl k
  ·obtain⟨x0,k3,rfl⟩:=hof i y k1;exact .inr ⟨x0,k3,(bT.cO rfl rfl).1 k2⟩
 ·refine h'.ak b hb fun⟨j,y,h1,h2⟩=>qK ?_;obtain⟨x0,k3,rfl⟩:=hof j y h1;exact⟨j,x0,k3,(bT.cO rfl rfl).1 h2⟩
 ·obtain⟨h1,h2⟩:=h'.reads pm v t l hr;refine⟨h1,fun b hb=>⟨(h2 b hb).1,fun⟨j,x,hj,ho⟩=>(h2 b hb).2 ?_⟩⟩;obtain⟨y,k1,k2⟩:=iQ d hto hj;exact⟨j,y,k1,(gZ k2).2 ho⟩
structure aQ (T X:Type) where
 rd:T→Option X
 wr:X→T
 ok:∀ {t x},rd t=some x→t=wr x
def aQ.lV{T X Y:Type}(c:aQ T X)(f:X→Y)(g:Y→X)(h:∀x,g (f x)=x):aQ T Y where
 rd t:=(c.rd t).map f
 wr y:=c.wr (g y)
 ok:=by
  intro t y hy;obtain⟨x,hx,rfl⟩:=map_some hy;rw[h];exact c.ok hx
def aA(k:IntKind):aQ SV Int where
 rd s:=match s with
  | .int k' (.sym n)=>if k'=k then some n else none
  |_=>none
 wr n:=.int k (.sym n)
 ok:=by
  intro s x h
  split at h
  ·split at h
   ·rename_i e;subst e;cases h;rfl
   ·cases h
  ·cases h
def aaW:aQ SV Bool where
 rd s:=match s with
  | .bool (.sym b)=>some b
  |_=>none
 wr b:=.bool (.sym b)
 ok:=by
  intro s x h
  split at h
  ·cases h;rfl
  ·cases h
def gg(pm nn:Bool)(t:Ty):aQ SV (List t.D) where
 rd s:=match s with
  | .rd kN nn' t' l=>if h:t'=t then(if kN=pm∧nn'=nn then some (h▸l)else none)else none
  |_=>none
 wr l:=.rd pm nn t l
 ok:=by
  intro s x h
  split at h
  ·split at h
   ·rename_i e;subst e
    split at h
    ·rename_i e;obtain⟨rfl,rfl⟩:=e;cases h;rfl
    ·cases h
   ·cases h
  ·cases h
def aD(b o:Nat):aQ SV Unit where
 rd s:=match s with
  | .ptr b' o'=>if b'=b∧o'=o then some ()else none
  |_=>none
 wr _:=.ptr b o
 ok:=by
  intro s x h
  split at h
  ·split at h
   ·rename_i e;obtain⟨rfl,rfl⟩:=e;rfl
   ·cases h
  ·cases h
def j0(i v:Nat):aQ SV Unit where
 rd s:=match s with
  | .sl b' o'=>if b'=i∧o'=v then some ()else none
  |_=>none
 wr _:=.sl i v
 ok:=by
  intro s x h
  split at h
  ·split at h
   ·rename_i e;obtain⟨rfl,rfl⟩:=e;rfl
   ·cases h
  ·cases h
def sF(t:Ty)(n:Nat):aQ SV (List t.D) where
 rd s:=match s with
  | .arr t' n' l=>if h:t'=t then(if n'=n then some (h▸l)else none)else none
  |_=>none
 wr l:=.arr t n l
 ok:=by
  intro s x h
  split at h
  ·split at h
   ·rename_i e;subst e
    split at h
    ·rename_i e;subst e;cases h;rfl
    ·cases h
   ·cases h
  ·cases h
noncomputable section
variable {T X Y Z:Type}
def ag:aQ (List T) Unit where
 rd l:=match l with
  | []=>some ()
  |_::_=>none
 wr _:= []
 ok:=by
  intro s x h
  split at h
  ·rfl
  ·cases h
def ae(a:aQ T X)(r:aQ (List T) Y):aQ (List T) (X×Y) where
 rd l:=match l with
  | []=>none
  |x::l=>match a.rd x,r.rd l with
   |some x,some y=>some (x,y)
   |_,_=>none
 wr p:=a.wr p.1::r.wr p.2
 ok:=by
  intro s x h
  split at h
  ·cases h
  ·split at h
   ·rename_i h1 h2;cases h;rw[a.ok h1,r.ok h2]
   ·cases h
def ai(a:aQ T Unit)(r:aQ (List T) Y):aQ (List T) Y where
 rd l:=match l with
  | []=>none
  |x::l=>match a.rd x,r.rd l with
   |some _,some y=>some y
   |_,_=>none
 wr p:=a.wr ()::r.wr p
 ok:=by
  intro s x h
  split at h
  ·cases h
  ·split at h
   ·rename_i h1 h2;cases h;rw[a.ok h1,r.ok h2]
   ·cases h
def aaX(a:aQ T Unit)(r:aQ (List T) Y):Nat→aQ (List T) Y
 |0=>r
 |n+1=>ai a (aaX a r n)
end
def SM(k:IntKind):List SV→Option (List Int)
 | []=>some []
 | .int k' (.sym n)::l=>if k'=k then(SM k l).map (n:: ·)else none
 |_::_=>none
theorem IU{k:IntKind}:∀ {l:List SV} {m:List Int},SM k l=some m→l=m.map fun n=>.int k (.sym n)
 | [],m,h=>by cases h;rfl
 |s::l,m,h=>by
  unfold SM at h
  split at h
  ·rename_i e;cases e
  ·rename_i e;injection e with e1 e2;subst e1 e2
   split at h
   ·rename_i e;subst e;obtain⟨m',h1,rfl⟩:=map_some h;rw[IU h1];rfl
   ·cases h
  ·cases h
def av4(k:IntKind)(n:Nat):aQ (List SV) (List Int) where
 rd l:=match SM k l with
  |some m=>if l.length=n then some m else none
  |none=>none
 wr l:=(List.range n).map fun i=>.int k (.sym (l.getD i 0))
 ok:=by
  intro s x h
  split at h
  ·rename_i m hm
   split at h
   ·rename_i hn
    cases h
    have:=IU hm;subst this;simp only[List.length_map]at hn;subst hn
    apply List.ext_getElem?
    intro i;simp only[List.getElem?_map];rcases Nat.lt_or_ge i x.length with h1|h1
    ·rw[List.getElem?_range h1];simp[List.getD_eq_getElem?_getD,List.getElem?_eq_getElem h1]
    ·rw[List.getElem?_eq_none h1,List.getElem?_eq_none (by simpa using h1)];rfl
   ·cases h
  ·cases h
noncomputable section
variable {X Y:Type}
def ah(s:aQ SV X):aQ LV X where
 rd x:=match x with
  | .one (.sc x)=>s.rd x
  |_=>none
 wr x:=.one (.sc (s.wr x))
 ok:=by
  intro x v h
  split at h
  ·rw[s.ok h]
  ·cases h
def qC(r:aQ (List SV) X):aQ LV X where
 rd x:=match x with
  | .one (.agg x)=>r.rd x
  |_=>none
 wr x:=.one (.agg (r.wr x))
 ok:=by
  intro x v h
  split at h
  ·rw[r.ok h]
  ·cases h
def av5:aQ LV Unit where
 rd x:=match x with
  | .bP=>some ()
  |_=>none
 wr _:=.bP
 ok:=by
  intro x v h
  split at h
  ·rfl
  ·cases h
def fG(e:TypeId)(r:aQ (List SV) X):aQ (Option Item) X where
 rd x:=match x with
  |some (.ba cells e')=>if e'=e then r.rd cells else none
  |_=>none
 wr x:=some (.ba (r.wr x) e)
 ok:=by
  intro x v h
  split at h
  ·split at h
   ·rename_i e;subst e;rw[r.ok h]
   ·cases h
  ·cases h
def cE(ver:Nat)(t:Ty):aQ (Option Item) (List t.D) where
 rd x:=match x with
  |some (.own ver' t' l)=>if h:t'=t then(if ver'=ver then some (h▸l)else none)else none
  |_=>none
 wr l:=some (.own ver t l)
 ok:=by
  intro x v h
  split at h
  ·split at h
   ·rename_i e;subst e
    split at h
    ·rename_i e;subst e;cases h;rfl
    ·cases h
   ·cases h
  ·cases h
def aT(a:aQ (List LV) X)(b:aQ Hp Y):aQ St (X×Y) where
 rd s:=match a.rd s.fr,b.rd s.hp with
  |some x,some y=>some (x,y)
  |_,_=>none
 wr p:=⟨a.wr p.1,b.wr p.2⟩
 ok:=by
  intro s x h
  split at h
  ·rename_i h1 h2
   cases h
   obtain⟨fr,hp⟩:=s;have e1:=a.ok h1;have e2:=b.ok h2;simp only at e1 e2;subst e1 e2;rfl
  ·cases h
end
abbrev jk(n:Nat){Y:Type}(r:aQ (List LV) Y):aQ (List LV) Y:=aaX av5 r n
theorem bF.mid{α β:Type}{R:α→β→Prop}:∀ {x:List α} {a:α} {y:List α} {vs:List β},bF R (x++a::y) vs→∃u v w,vs=u++v::w∧bF R x u∧R a v∧bF R y w
 | [],a,y,_,h=>by
  cases h with
  |cons h t=>exact⟨[],_,_,rfl,.nil,h,t⟩
 |b::x,a,y,_,h=>by
  cases h with
  |cons h t=>
   obtain⟨u,v,w,rfl,h1,h2,h3⟩:=bF.mid t;exact⟨_::u,v,w,rfl,.cons h h1,h2,h3⟩
theorem g8.akb{P:Program}{f:FuncId}{x y:List LV}{pm:Bool}{t:Ty}{l:List t.D}{hp:Hp}{R:LV→Hp→Prop}(h1:l= []→g8 P f (x++ .one (.sc (.gY (.slice none 0 0)))::y) hp R)
  (h2:g8 P f (x++ .one (.sc (.rd pm true t l))::y) hp R):g8 P f (x++ .one (.sc (.rd pm false t l))::y) hp R:=by
 intro β w vals hh eE;obtain⟨u,v,w',rfl,a1,a2,a3⟩:=eE.mid;obtain⟨b1,_,b3⟩:=(a2:SV.den β (kd hp) (.rd pm false t l) v);obtain⟨a,n,c,rfl,hn,hc,hz,_⟩:=(hh.aqw b3).1
 cases a with
 |none=>
  have hc0:=hz rfl;subst hc0;have BR:n=0:=by omega
  subst BR;exact h1 (List.eq_nil_of_length_eq_zero hn.symm) β w _ hh (a1.append (.cons ⟨b1,rfl⟩ a3))
 |some a=>exact h2 β w _ hh (a1.append (.cons ⟨b1,fun _=>by simp[notNil],b3⟩ a3))
def SN{X:Type}(C:aQ St X)(m:uQ)(ks:List Wk)(F:X→aG)(st:St):aG:=match qO m ks st with
 |some pJ=>match C.rd pJ with
  |some x=>F x
  |none=>.fail
 |none=>.fail
theorem IV{P:Program}{hp:Hp}{c:Code}{X:Type}{C:aQ St X}{m:uQ}(hm:m.Ok hp){ks:List Wk}{F:X→aG}(h:∀x,Ex P hp c (C.wr x) (F x)):∀st,Ex P hp c st (SN C m ks F st):=by
 intro st;unfold SN
 split
 ·rename_i pJ hk
  split
  ·rename_i x hx;exact Ex.pre hm ks hk (by rw[C.ok hx];exact h x)
  ·exact fun _ _ _ _ hs=>hs.elim
 ·exact fun _ _ _ _ hs=>hs.elim
abbrev cJ{X:Type}(C:aQ St X)(m:Nat)(ks:List Wk)(F:X→aG)(st:St):aG:=SN C ⟨m,fun _=>false⟩ ks F st
theorem bt{P:Program}{hp:Hp}{c:Code}{X:Type}{C:aQ St X}{ks:List Wk}{F:X→aG}(h:∀x,Ex P hp c (C.wr x) (F x)):∀st,Ex P hp c st (cJ C hp.length ks F st):=IV (uQ.av2 hp) h
abbrev bU{X:Type}(C:aQ St X)(hp:Hp)(ks:List Wk)(F:X→aG)(st:St):aG:=SN C (.of hp) ks F st
theorem bM{P:Program}{hp:Hp}{c:Code}{X:Type}{C:aQ St X}{ks:List Wk}{F:X→aG}(h:∀x,Ex P hp c (C.wr x) (F x)):∀st,Ex P hp c st (bU C hp ks F st):=IV (uQ.aS hp) h
theorem yZ{P:Program}(kO:P.follows .mixedOrders=true){tab:List (FuncId×an)}(qB:∀p∈tab,p.2.Ok P p.1){LT:df}{fn:Func}{id:Nat}{hp:Hp}{ws:Exit→List Wk}(hL:aK P hp LT (aP fn id))
  {X:Type} (μ:X→Nat) (S:X→St) (I:X→Prop) (F:X→aG) {T:X→aG} (hT:∀x,I x→ct P tab LT fn id hp ws (S x)=T x)
  (hr:∀x R,I x→(F x).sat R→(T x).sat fun e s=>(e= .normal∧∃y,s=S y∧I y∧μ y<μ x∧(F y).sat R)∨(e≠ .normal∧R e s)) (x:X) (hx:I x):Ex P hp (.loop (aP fn id)) (S x) (F x):=
 Ex.cJ μ S I T F (fun x hx=>hT x hx▸SL kO qB hL) hr hx
theorem aw{P:Program}:∀p∈([]:List (FuncId×an)),p.2.Ok P p.1:=fun _ h=>by cases h
theorem al{P:Program}{f:FuncId}{e:an}{l:List (FuncId×an)}(h:e.Ok P f)(hl:∀p∈l,p.2.Ok P p.1):∀p∈(f,e)::l,p.2.Ok P p.1:=fun p hp=>by
 rcases List.mem_cons.1 hp with rfl|hp
 ·exact h
 ·exact hl p hp
theorem iE{P:Program}{hp:Hp}{fn:Func}:∀p∈([]:df),ki (fL (aJ fn) p.1)=true∧∀st,Ex P hp (.loop (aP fn p.1)) st (p.2 st):=fun _ h=>by cases h
theorem iu{P:Program}{hp:Hp}{fn:Func}{i:Nat}{f:St→aG}{l:df}(h1:ki (fL (aJ fn) i)=true)(h2:∀st,Ex P hp (.loop (aP fn i)) st (f st))
  (hl:∀p∈l,ki (fL (aJ fn) p.1)=true∧∀st,Ex P hp (.loop (aP fn p.1)) st (p.2 st)):∀p∈(i,f)::l,ki (fL (aJ fn) p.1)=true∧∀st,Ex P hp (.loop (aP fn p.1)) st (p.2 st):=fun p hp=>by
 rcases List.mem_cons.1 hp with rfl|hp
 ·exact⟨h1,h2⟩
 ·exact hl p hp
def an.of{X Y:Type}(tys:List (Option Ty))(A:aQ (List LV) X)(H:aQ Hp Y)(out:X→Y→Out):an:=⟨tys,fun args hp=>match A.rd args,H.rd hp with
 |some x,some y=>out x y
 |_,_=>.fail⟩
theorem an.aS{P:Program}{f:FuncId}(he:u7 P f){X Y:Type}{tys:List (Option Ty)}{A:aQ (List LV) X}{H:aQ Hp Y}{out:X→Y→Out}
  (h:∀x y Q,(out x y).holds Q→g8 P f (A.wr x) (H.wr y) fun v dP=>∃d,Q v d∧dP=aI d (H.wr y)):(an.of tys A H out).Ok P f:=by
 refine⟨fun args hp Q hq=>?_⟩;simp only[an.of]at hq
 split at hq
 ·rename_i x y hx hy;rw[A.ok hx,H.ok hy];exact(h x y Q hq).done he
 ·exact hq.elim
def an.or(e e':an):an:=⟨e.tys,fun args hp=>match e.run args hp with
 | .fail=>e'.run args hp
 |o=>o⟩
theorem an.Ok.or{P:Program}{f:FuncId}{e e':an}(h:e.Ok P f)(h':e'.Ok P f):(e.or e').Ok P f:=by
 refine⟨fun args hp Q hq=>?_⟩;simp only[an.or]at hq
 split at hq
 ·exact h'.calls args hp Q hq
 ·exact h.calls args hp Q hq
abbrev an.cm{X Y:Type}(tys:List (Option Ty))(A:aQ (List LV) X)(H:aQ Hp Y)(out:X→Y→Out):an:=(an.of tys A H out).sym
theorem VX{l:List Int}{j:Nat}(h:j<l.length):l.drop j=l.getD j 0::l.drop (j+1):=by
 rw[List.drop_eq_getElem_cons h,List.getD_eq_getElem?_getD,List.getElem?_eq_getElem h];rfl
def By(z:Int):Prop:=0≤z∧z<256
def aN(l:List Int):Prop:=∀z∈l,By z
theorem aN.take{l:List Int}(h:aN l)(n:Nat):aN (l.take n):=fun z hz=>h z (List.mem_of_mem_take hz)
theorem aN.drop{l:List Int}(h:aN l)(n:Nat):aN (l.drop n):=fun z hz=>h z (List.mem_of_mem_drop hz)
theorem aN.append{l m:List Int}(h:aN l)(h':aN m):aN (l++m):=fun z hz=>by
 rcases List.mem_append.1 hz with k|k
 ·exact h z k
 ·exact h' z k
def upto{σ:Type}(f:Nat→σ→σ):Nat→Nat→σ→σ
 |_,0,s=>s
 |k,m+1,s=>upto f (k+1) m (f k s)
theorem CB{σ:Type}(f:Nat→σ→σ):∀ (m k:Nat) (s:σ),upto f k (m+1) s=f (k+m) (upto f k m s)
 |0,k,s=>rfl
 |m+1,k,s=>by
  show upto f (k+1) (m+1) (f k s)=_;rw[CB f m (k+1)];show f (k+1+m) (upto f (k+1) m (f k s))=f (k+(m+1)) (upto f (k+1) m (f k s));rw[show k+1+m=k+(m+1)from by omega]
theorem IW{σ:Type}(f:Nat→σ→σ):∀ (m k j:Nat) (s:σ),upto f k (m+j) s=upto f (k+m) j (upto f k m s)
 |0,k,j,s=>by simp[upto]
 |m+1,k,j,s=>by
  rw[show m+1+j=(m+j)+1 from by omega];show upto f (k+1) (m+j) (f k s)=_;rw[IW f m (k+1) j,show k+1+m=k+(m+1)from by omega];rfl
theorem fV{σ:Type}{f:Nat→σ→σ}(I:Nat→σ→Prop){n:Nat}(hI:∀k s,k<n→I k s→I (k+1) (f k s)):∀ (m k:Nat) (s:σ),k+m≤n→I k s→I (k+m) (upto f k m s)
 |0,_,_,_,h=>h
 |m+1,k,s,hn,h=>by
  have:=fV I hI m (k+1) (f k s) (by omega) (hI k s (by omega) h);rw[show k+1+m=k+(m+1)from by omega]at this;exact this
theorem y5{σ:Type}{f g:Nat→σ→σ}(I:Nat→σ→Prop){n:Nat}(hI:∀k s,k<n→I k s→I (k+1) (f k s))(hfg:∀k s,k<n→I k s→f k s=g k s):∀ (m k:Nat) (s:σ),k+m≤n→I k s→upto f k m s=upto g k m s
 |0,_,_,_,_=>rfl
 |m+1,k,s,hn,h=>by
  show upto f (k+1) m (f k s)=upto g (k+1) m (g k s);rw[← hfg k s (by omega) h];exact y5 I hI hfg m (k+1) (f k s) (by omega) (hI k s (by omega) h)
theorem CC(g:Nat→Int):∀ (m k:Nat) (o:List Int),o.length=k+m→upto (fun k o=>o.set k (g k)) k m o=o.take k++(List.range m).map fun i=>g (k+i)
 |0,k,o,h=>by simp[upto,List.take_of_length_le (show o.length≤k by omega)]
 |m+1,k,o,h=>by
  show upto (fun k o=>o.set k (g k)) (k+1) m (o.set k (g k))=_;rw[CC g m (k+1) _ (by simp;omega),List.range_succ_eq_map,List.map_cons,List.map_map]
  have e:(o.set k (g k)).take (k+1)=o.take k++ [g k]:=by
   rw[List.take_add_one,List.take_set_of_le (Nat.le_refl _)];simp[show k<o.length by omega]
  rw[e,List.append_assoc]
  congr 1
  simp only[List.singleton_append,Nat.add_zero]
  congr 1
  apply List.map_congr_left
  intro i _;show g (k+1+i)=g (k+(i+1))
  congr 1;omega
theorem CD(g:Nat→Int){n:Nat}{o:List Int}(h:o.length=n):upto (fun k o=>o.set k (g k)) 0 n o=(List.range n).map g:=by
 rw[CC g n 0 o (by omega)];simp
theorem IX{l:List Int}{n:Nat}(h:l.length=n):(List.range n).map (fun i=>l.getD i 0)=l:=by
 subst h
 apply List.ext_getElem?
 intro i;simp only[List.getElem?_map];rcases Nat.lt_or_ge i l.length with h1|h1
 ·rw[List.getElem?_range h1];simp[List.getD_eq_getElem?_getD,List.getElem?_eq_getElem h1]
 ·rw[List.getElem?_eq_none h1,List.getElem?_eq_none (by simpa using h1)];rfl
theorem c8{P:Program}(kO:P.follows .mixedOrders=true){tab:List (FuncId×an)}(qB:∀p∈tab,p.2.Ok P p.1){LT:df}{fn:Func}{id j:Nat}{hp:Hp}{ws:Exit→List Wk}(hL:aK P hp LT (aP fn id))
  {σ:Type} (n:Nat) (S:Nat→σ→St) (X:σ→St) (f:Nat→σ→σ) (I:Nat→σ→Prop)
  (hT:∀k s R,k≤n→I k s→(k<n→R .normal (S (k+1) (f k s)))→(k=n→R (.exit j) (X s))→(ct P tab LT fn id hp ws (S k s)).sat R)
  (hI:∀k s,k<n→I k s→I (k+1) (f k s)) (k:Nat) (s:σ) (hk:k≤n) (h:I k s):Ex P hp (.loop (aP fn id)) (S k s) (.leaf (.exit j) (X (upto f k (n-k) s))):=by
 refine yZ (ws:=ws) (T:=fun x=>ct P tab LT fn id hp ws (S x.1 x.2)) kO qB hL (fun x:Nat×σ=>n-x.1) (fun x=>S x.1 x.2) (fun x=>x.1≤n∧I x.1 x.2) (fun x=>.leaf (.exit j) (X (upto f x.1 (n-x.1) x.2))) (fun x _=>rfl) (fun x R hx hs=>?_) (k,s) ⟨hk,h⟩;obtain⟨k,s⟩:=x;obtain⟨hk,hi⟩:=hx;simp only at hk hi hs ⊢;refine hT k s _ hk hi (fun dQ=>.inl ⟨rfl,(k+1,f k s),rfl,⟨dQ,hI k s dQ hi⟩,by simp only;omega,?_⟩) (fun e=>.inr ⟨by simp,?_⟩)
 ·have e:n-k=(n-(k+1))+1:=by omega
  rw[e]at hs;exact hs
 ·subst e;rw[Nat.sub_self]at hs;exact hs
abbrev sG(k:IntKind)(n:Nat):aQ LV (List Int):=(qC (ae (sF (.int k) n) ag)).lV (fun x=>x.1) (fun l=>(l,())) (fun _=>rfl)
abbrev gm(e:TypeId)(k:IntKind)(n:Nat):aQ (Option Item) (List Int):=(fG e (ae (sF (.int k) n) ag)).lV (fun x=>x.1) (fun l=>(l,())) (fun _=>rfl)
abbrev aaY(e:TypeId)(k:IntKind)(n:Nat):aQ (Option Item) (List Int):=fG e (av4 k n)
end Go.Ev
end
noncomputable section
namespace Go.Proofs.YtnbkagglkajbkaaGreat
open Go Go.Ev Go.Proofs.Tryz
open Go.IntKind (i64 signed u16 u64 wrap)
set_option maxRecDepth 100000
theorem mixed:Tryz.prog.follows .mixedOrders=true:=by kernel_rfl
abbrev prog:Program:=Tryz.prog
abbrev u8:Ty:=.int .u8
abbrev nI(n:Int):LV:=.one (.sc (.int .i64 (.sym n)))
abbrev nU(n:Int):LV:=.one (.sc (.int .u64 (.sym n)))
abbrev nB(b:Bool):LV:=.one (.sc (.bool (.sym b)))
abbrev bA:aQ (List LV) (List Int×Unit):=ae (ah (gg false false u8)) ag
abbrev cY(k:IntKind)(n:Nat)(l:List Int):LV:=.one (.agg [.arr (.int k) n l])
abbrev p0:aQ LV Unit:=ah (aD 0 0)
def cb(n:Nat)(l:List (Nat×FM)):List FM:=(List.range n).map fun i=>match l.find? (fun p=>p.1==i)with
 |some p=>p.2
 |none=>.drop
def wsE(n:List Wk)(id:Nat)(x:List Wk):Exit→List Wk
 | .normal=>n
 | .exit i=>if i=id then x else []
 |_=> []
end Go.Proofs.YtnbkagglkajbkaaGreat
end
noncomputable section
namespace Go.Ev
open Go
open Go.IntKind (i64 signed u16 u64 wrap)
theorem wrap_u64{n:Int}(h0:0≤n)(h1:n<18446744073709551616):u64.wrap n=n:=by
 simp only[wrap,IntKind.bits,signed];simp;omega
theorem mr(n:Int):u64.wrap n=n%18446744073709551616:=by
 simp only[wrap,IntKind.bits,signed];simp
theorem wrap_u8(n:Int):IntKind.u8.wrap n=n%256:=by
 simp only[wrap,IntKind.bits,signed];simp
theorem wrap_i64{n:Int}(h0: -9223372036854775808≤n)(h1:n<9223372036854775808):i64.wrap n=n:=by
 simp only[wrap,IntKind.bits,signed];simp
 split<;>omega
theorem toNat_ofInt(n:Nat)(x:Int):(BitVec.ofInt n x).toNat=(x%(2 ^ n:Nat)).toNat:=by simp[BitVec.toNat_ofInt]
theorem y6{n m:Nat}(hm:m≤n)(x:Int):(BitVec.ofInt n x&&& BitVec.ofInt n (2 ^ m-1)).toNat=(x%(2 ^ m:Nat)).toNat:=by
 rw[BitVec.toNat_and,toNat_ofInt,toNat_ofInt];have hp:(2:Nat) ^ m≤2 ^ n:=Nat.pow_le_pow_right (by omega) hm;have jf:0<(2:Nat) ^ m:=Nat.two_pow_pos m
 have e:(((2:Int) ^ m-1)%((2 ^ n:Nat):Int)).toNat=2 ^ m-1:=by
  have:((2:Int) ^ m-1)=((2 ^ m-1:Nat):Int):=by
   rw[Int.natCast_sub (by omega)];simp
  rw[this,← Int.natCast_emod,Int.toNat_natCast,Nat.mod_eq_of_lt (by omega)]
 rw[e,Nat.and_two_pow_sub_one_eq_mod]
 have h1:((x%((2 ^ n:Nat):Int)).toNat%2 ^ m:Nat)=(x%((2 ^ m:Nat):Int)).toNat:=by
  have BR:0≤x%((2 ^ n:Nat):Int):=Int.emod_nonneg _ (by have:=Nat.two_pow_pos n;omega);have Cl:0≤x%((2 ^ m:Nat):Int):=Int.emod_nonneg _ (by omega)
  apply Int.ofNat_inj.1
  rw[Int.natCast_emod,Int.toNat_of_nonneg BR,Int.toNat_of_nonneg Cl];refine Int.emod_emod_of_dvd _ ?_;exact Int.natCast_dvd_natCast.2 (Nat.pow_dvd_pow 2 hm)
 exact h1
theorem pN{m:Nat}(hm:m<64)(x y:Int)(hy:y=2 ^ m-1):aM .u64 x y=x%(2 ^ m:Nat):=by
 subst hy;unfold aM;have:=y6 (n:=64) (m:=m) (by omega) x;show u64.wrap ((BitVec.ofInt 64 x&&& BitVec.ofInt 64 (2 ^ m-1)).toNat:Int)=_;rw[this];have Cl:0≤x%((2 ^ m:Nat):Int):=Int.emod_nonneg _ (by have:=Nat.two_pow_pos m;omega);rw[Int.toNat_of_nonneg Cl];have dQ:x%((2 ^ m:Nat):Int)<((2 ^ m:Nat):Int):=Int.emod_lt_of_pos _ (by have:=Nat.two_pow_pos m;omega);have hp:(2:Nat) ^ m≤2 ^ 63:=Nat.pow_le_pow_right (by omega) (by omega)
 exact wrap_u64 Cl (by have:(2:Nat) ^ 63=9223372036854775808:=by decide
                       omega)
theorem k8{m:Nat}(hm:m<63)(x y:Int)(hy:y=2 ^ m-1):aM .i64 x y=x%(2 ^ m:Nat):=by
 subst hy;unfold aM;have:=y6 (n:=64) (m:=m) (by omega) x;show i64.wrap ((BitVec.ofInt 64 x&&& BitVec.ofInt 64 (2 ^ m-1)).toNat:Int)=_;rw[this];have Cl:0≤x%((2 ^ m:Nat):Int):=Int.emod_nonneg _ (by have:=Nat.two_pow_pos m;omega);rw[Int.toNat_of_nonneg Cl];have dQ:x%((2 ^ m:Nat):Int)<((2 ^ m:Nat):Int):=Int.emod_lt_of_pos _ (by have:=Nat.two_pow_pos m;omega);have hp:(2:Nat) ^ m≤2 ^ 62:=Nat.pow_le_pow_right (by omega) (by omega)
 exact wrap_i64 (by omega) (by have:(2:Nat) ^ 62=4611686018427387904:=by decide
                               omega)
theorem Er{m:Nat}(hm:m<8)(x y:Int)(hy:y=2 ^ m-1):aM .u8 x y=x%(2 ^ m:Nat):=by
 subst hy;unfold aM;have:=y6 (n:=8) (m:=m) (by omega) x;show IntKind.u8.wrap ((BitVec.ofInt 8 x&&& BitVec.ofInt 8 (2 ^ m-1)).toNat:Int)=_;rw[this];have Cl:0≤x%((2 ^ m:Nat):Int):=Int.emod_nonneg _ (by have:=Nat.two_pow_pos m;omega);rw[Int.toNat_of_nonneg Cl];have dQ:x%((2 ^ m:Nat):Int)<((2 ^ m:Nat):Int):=Int.emod_lt_of_pos _ (by have:=Nat.two_pow_pos m;omega);have hp:(2:Nat) ^ m≤2 ^ 7:=Nat.pow_le_pow_right (by omega) (by omega);rw[wrap_u8];exact Int.emod_eq_of_lt Cl (by omega)
theorem cz(k:IntKind)(x:Int)(n:Nat)(hn:n≤k.bits):shr k x n=x/(2 ^ n:Nat):=by
 unfold shr;rw[Int.toNat_natCast,Nat.min_eq_left hn,Int.fdiv_eq_ediv_of_nonneg]
 ·simp
 ·exact Int.le_of_lt (Int.pow_pos (by omega))
theorem gL(k:IntKind)(x:Int)(n:Nat)(hn:n≤k.bits):shl k x n=k.wrap (x*(2 ^ n:Nat)):=by
 unfold shl;rw[Int.toNat_natCast,Nat.min_eq_left hn];simp
theorem aaZ{n:Nat}{m:Nat}{x y:Int}(wI:0≤x)(hxn:x<(2 ^ n:Nat))(hx:x%(2 ^ m:Nat)=0)(BO:0≤y)(hy:y<(2 ^ m:Nat))(hyn:y<(2 ^ n:Nat)):
  ((BitVec.ofInt n x|||BitVec.ofInt n y).toNat:Int)=x+y:=by
 rw[BitVec.toNat_or,toNat_ofInt,toNat_ofInt,Int.emod_eq_of_lt wI hxn,Int.emod_eq_of_lt BO hyn];obtain⟨a,rfl⟩:=Int.eq_ofNat_of_zero_le wI;obtain⟨b,rfl⟩:=Int.eq_ofNat_of_zero_le BO;simp only[Int.toNat_natCast]
 have hd:a%2 ^ m=0:=by
  have:=hx;rw[← Int.natCast_emod]at this;omega
 have hb:b<2 ^ m:=by omega
 have e:a=2 ^ m*(a/2 ^ m):=(Nat.mul_div_cancel' (Nat.dvd_of_mod_eq_zero hd)).symm;have:=Nat.two_pow_add_eq_or_of_lt hb (a/2 ^ m);rw[← e]at this;rw[← this];simp
theorem ow{m:Nat}{x y:Int}(wI:0≤x)(hx:x%(2 ^ m:Nat)=0)(BO:0≤y)(hy:y<(2 ^ m:Nat))(h64:x+y<18446744073709551616):bC .u64 x y=x+y:=by
 unfold bC;have e:(2 ^ 64:Nat)=18446744073709551616:=by decide
 have h:=aaZ (n:=64) wI (by omega) hx BO hy (by omega);show u64.wrap ((BitVec.ofInt 64 x|||BitVec.ofInt 64 y).toNat:Int)=_;rw[h];exact wrap_u64 (by omega) h64
theorem aoD{m:Nat}{x y:Int}(wI:0≤x)(hx:x%(2 ^ m:Nat)=0)(BO:0≤y)(hy:y<(2 ^ m:Nat))(h8:x+y<256):bC .u8 x y=x+y:=by
 unfold bC;have h:=aaZ (n:=8) wI (by omega) hx BO hy (by omega);show IntKind.u8.wrap ((BitVec.ofInt 8 x|||BitVec.ofInt 8 y).toNat:Int)=_;rw[h,wrap_u8];omega
theorem jq(k:IntKind)(x y:Int):bC k x y=bC k y x:=by
 unfold bC;rw[BitVec.or_comm]
theorem au{n:Int}(h1: -9223372036854775808≤n)(h2:n≤9223372036854775807):i64.wrap n=n:=by
 rw[IntKind.wrap_i64];omega
theorem aX{l:List Int}{n:Nat}(h:l.length=n):List.take n (List.drop 0 l)=l:=by rw[List.drop_zero,List.take_of_length_le (by omega)]
theorem fw(k m:Nat)(hk:k<4611686018427387904):i64.wrap ((k:Int).tdiv (m:Int))=((k/m:Nat):Int):=by
 rw[Int.tdiv_eq_ediv_of_nonneg (by omega),← Int.natCast_ediv];have:k/m≤k:=Nat.div_le_self _ _;generalize k/m=q at*;exact au (by omega) (by omega)
theorem jr(k j:Nat)(h:j≤k)(hk:k<4611686018427387904):i64.wrap ((k:Int)-(j:Int))=((k-j:Nat):Int):=by rw[au (by omega) (by omega)];omega
theorem bQ(k:Nat)(hk:k<4611686018427387904):i64.wrap ((k:Int)+1)=((k+1:Nat):Int):=by rw[au (by omega) (by omega)];rfl
end Go.Ev
end
noncomputable section
namespace Go.Proofs.YtnbkagglkajbkaaGreat
open Go Go.Ev Go.ChangeShapes Go.WideShapes Go.ChangeAt Go.RowKit Go.Proofs.Tryz
open Go.IntKind (i64 signed u16 u64 wrap)
set_option maxRecDepth 100000
theorem aa0:ownKnob Tryz.prog.godebug=none:=by kernel_rfl
theorem aa1:laidOutB Tryz.prog=true:=by kernel_rfl
theorem Nq:mapsRowed Tryz.prog=true:=by kernel_rfl
theorem IY:∀t e,t<Tryz.prog.types.size→Tryz.prog.underlying t=some (.slice e)→0<Tryz.prog.cellsOf e:=slices_full_of Tryz.prog (by kernel_rfl)
structure Kept (W W':World):Prop where
 os:W'.os=W.os
 output:W'.output=W.output
 size:W.heap.size≤W'.heap.size
 block:∀b,b<W.heap.size→W'.heap[b]? =W.heap[b]?
theorem Kept.same{W W':World}(h:Kept W W'){p:MemPlace}(hp:p.block<W.heap.size):W.sameAt W' p:=by
 cases p with
 |cell b o=>exact World.cell?_of_block (w:=W) (h.block b hp)
 |map b=>exact h.block b hp
theorem Kept.but{W W':World}(h:Kept W W')(may:MemPlace→Prop):W.keptBut W' may:=by
 refine⟨h.os,h.output,fun i hi=>?_⟩;rw[h.block i hi]
 split<;>simp_all
theorem sH{H:Type}{enc:TypeId×Value→H}{W W':World}(hk:Kept W W'):∀ {ts:List TypeId} {vs:List Value} {ds:List (DataW H)} {ps:List MemPlace},(∀t∈ts,t<Tryz.prog.types.size)→
  DataW.TrodAll enc Tryz.prog W 0 (fun _=>true) true ts vs ds ps→(∀p∈ps,p.block<W.heap.size)→DataW.TrodAll enc Tryz.prog W' 0 (fun b=>decide (b<W.heap.size)) true ts vs ds ps
 | [],[],[],_,_,h,_=>h
 |t::_,_::_,_::_,_,hT,⟨p,q,⟨n,h1⟩,h2,e⟩,hs=>by
  have hp:∀x∈p,x.block<W.heap.size:=fun x hx=>hs x (by rw[e];exact List.mem_append_left _ hx);have hz:∀ {t e:TypeId},t<Tryz.prog.types.size→Tryz.prog.underlying t=some (.slice e)→0<Tryz.prog.cellsOf e:=fun {t e} a b=>IY t e a b;refine⟨p,q,⟨n,?_⟩,sH hk (fun t ht=>hT t (List.mem_cons.2 (Or.inr ht))) h2 (fun x hx=>hs x (by rw[e];exact List.mem_append_right _ hx)),e⟩;exact DataW.trod_stays (T:=fun t=>t<Tryz.prog.types.size) (kids_rows aa1 Nq) hz (fun h=>by cases h) (hT t (List.mem_cons.2 (Or.inl rfl))) h1 (fun x hx=>hk.same (hp x hx)) (fun x hx=>by simpa using hp x hx)
 | [],_::_,_,_,_,h,_=>h.elim
 | [],[],_::_,_,_,h,_=>h.elim
 |_::_,[],_,_,_,h,_=>h.elim
 |_::_,_::_,[],_,_,h,_=>h.elim
theorem aa2{H:Type}{enc:TypeId×Value→H}{fn:Func}{s:ChangeSpec}{W W':World}{args:Array Value}{ds gs:List (DataW H)}{before:List MemPlace}{tb:TypeId}{apart:Bool}
  (hr:fn.resultTypes= #[tb]) (hb:Tryz.prog.underlying tb=some .bool) (hT:∀t∈fn.params.toList,t<Tryz.prog.types.size)
  (hW:DataW.Whole enc Tryz.prog fn.params.toList s.vars apart W args.toList ds gs before) (hv:s.vars= []) (hs:s.fn H ds= {results:= [.lit (.bool true)],args:=ds})
  (hk:Kept W W'):s.post enc Tryz.prog fn apart true false false W args (.bool true) W':=by
 have dQ:=hW.lt;have hW':=hW;obtain⟨p,q,h1,h2,h3,h4,h5⟩:=hW;rw[hv]at h2;obtain⟨rfl,rfl⟩:=trodVars_none h2;rw[List.append_nil]at h3;subst h3;have e:s.fn H (ds++ [])= {results:= [.lit (.bool true)],args:=ds}:=by rw[List.append_nil];exact hs
 refine⟨ds,[],before,[],before,[],hW',?_,?_,?_,hk.but _,fun h=>by cases h⟩
 ·rw[e,hr];exact trodAll_cons_mk (shut_bool hb true) trodAll_mk0
 ·rw[e];exact sH hk hT h1 dQ
 ·rw[hv,e];rfl
def av6:Env:=⟨fun _=>0,fun _=>.nilIface,fun _ _ _ _=>False⟩
def vm(W:World):Env:=⟨fun _=>0,fun _=>.nilIface,fun pm v t l=>pm=false∧0<t.w∧bG av6 false W v t l⟩
theorem aa3(W:World):bd W [] (vm W) (vm W) [] W:=by
 refine⟨fun i x h=>by simp at h,fun i j x y b h=>by simp at h,bH.refl _ _,fun i x b h=>by simp at h,rfl,rfl,Nat.le_refl _,fun _ _ _=>rfl,fun pm v t l h=>?_,fun pm v t l b h1 h2=>.inr ⟨pm,v,t,l,id,h1,h2⟩⟩;obtain⟨rfl,hw,h⟩:=h;refine⟨h.mono (β':=vm W) (fun _ _ _ _ (h:False)=>h.elim),fun b hb=>⟨?_,fun⟨i,x,hi,_⟩=>by simp at hi⟩⟩;obtain⟨a,n,c,rfl,hn,hc,_,hr⟩:=h
 cases a with
 |none=>exact hb.elim
 |some a=>
  obtain⟨h0,rfl⟩:=hb;obtain⟨a0,ft,e,h1,h2,h3⟩:=hr h0
  cases e
  refine h3.lt fun e=>?_;have h4:=bl h2;rw[e,← hn]at h4;have:=Nat.mul_pos h0 hw;simp at h4;omega
theorem Es{f:FuncId}{e:an}(aBq:u7 Tryz.prog f)(he:e.Ok Tryz.prog f){args:List LV}{q:Option Prop}(eB:e.run args []= .leaf q (nB true) [])(hq:eT q)(W:World){vals:Array Value}(hd:bF (LV.den (vm W) (kd [])) args vals.toList):
  Calls Tryz.prog f vals W fun e W'=>e= .returned (.bool true)∧Kept W W':=by
 have key:=he.calls args [] (fun v d=>v=nB true∧d= []) (by rw[eB];exact⟨hq,rfl,rfl⟩) (vm W) W vals.toList (aa3 W) hd;rw[show vals.toList.toArray=vals from by simp]at key;have key:=key.resolve_left (by rintro⟨val,h1,_⟩;rw[aBq]at h1;cases h1) |>.2;refine key.mono ?_
 rintro e W' ⟨val,β',r,dP,rfl,⟨d,⟨rfl,rfl⟩,rfl⟩,h3,h4⟩
 have:val= .bool true:=h3;subst this;exact⟨rfl,h4.os,h4.output,h4.size,fun b hb=>h4.ak b hb fun⟨i,x,hi,_⟩=>by simp at hi⟩
theorem VY{fn:Func}(h:(fn.params.toList.all fun t=>decide (t<Tryz.prog.types.size))=true):∀t∈fn.params.toList,t<Tryz.prog.types.size:=fun t ht=>by
 simpa using List.all_eq_true.1 h t ht
inductive Bt where
 |int (k:IntKind)
 |bool
def Bt.fits:Bt→Value→Prop
 | .int k,v=>∃z,v= .int k z∧(Lit.int k z).wf=true
 | .bool,v=>∃b,v= .bool b
def sI(P:Program):Nat→TypeId→Option (List Bt)
 |0,_=>none
 |n+1,t=>match P.underlying t with
  |some .bool=>some [.bool]
  |some (.int k)=>some [.int k]
  |some (.struct fs)=>(fs.toList.foldl (fun acc f=>match acc with
    |some l=>if f.offset=l.length then match sI P n f.type with
      |some m=>if m.length=P.cellsOf f.type then some (l++m)else none
      |none=>none
     else none
    |none=>none) (some [])).bind fun l=>if l.length=P.cellsOf t then some l else none
  |some (.array k e)=>match sI P n e with
    |some m=>if m.length=P.cellsOf e∧P.cellsOf t=k*m.length then some ((List.replicate k m).flatten)else none
    |none=>none
  |_=>none
noncomputable section
variable {H:Type} {enc:TypeId×Value→H} {P:Program} {w:World} {base:Nat} {spare:Nat→Bool} {held:Bool}
theorem pO:∀ (n:Nat) {t:TypeId} {ks:List Bt},sI P n t=some ks→∀ {fuel:Nat} {cs:List Value} {x:DataW H×List MemPlace},DataW.trod enc P w base spare held fuel t cs=some x→bF Bt.fits ks cs
 |0,_,_,h,_,_,_,_=>by cases h
 |n+1,t,ks,h,fuel,cs,x,hx=>by
  simp only[sI]at h
  cases hu:P.underlying t with
  |none=>rw[hu]at h;cases h
  |some d=>
   rw[hu]at h
   cases d with
   |bool=>
    cases h
    cases fuel with
    |zero=>simp[DataW.trod]at hx
    |succ m=>
     unfold DataW.trod at hx;rw[hu]at hx
     split at hx<;>simp_all
     exact .cons ⟨_,rfl⟩ .nil
   |int k=>
    cases h
    cases fuel with
    |zero=>simp[DataW.trod]at hx
    |succ m=>
     unfold DataW.trod at hx;rw[hu]at hx
     split at hx<;>simp_all
     obtain⟨⟨rfl,hz⟩,_⟩:=hx;exact .cons ⟨_,rfl,hz⟩ .nil
   |struct fs=>
    obtain⟨xs,m,_,_,hl,hlen,hf⟩:=DataW.trod_struct hu hx;obtain⟨l,hl1,hl2⟩:=Option.bind_eq_some_iff.1 h
    split at hl2
    ·rename_i hle
     cases hl2
     have hfs:∀f∈fs.toList,∃y,DataW.trod enc P w base spare held m f.type ((cs.drop f.offset).take (P.cellsOf f.type))=some y:=by
      intro f hfm;obtain⟨i,hi,rfl⟩:=List.getElem_of_mem hfm;have BH:i<fs.size:=(by simpa using hi);have:=hf i fs[i] (by simp[BH]);rw[List.getElem?_eq_getElem (by omega)]at this;exact⟨_,this⟩
     have key:∀ (fl:List Field) (acc l:List Bt),(∀f∈fl,∃y,DataW.trod enc P w base spare held m f.type ((cs.drop f.offset).take (P.cellsOf f.type))=some y)→
       fl.foldl (fun acc f=>match acc with
        |some l=>if f.offset=l.length then match sI P n f.type with
          |some m=>if m.length=P.cellsOf f.type then some (l++m)else none
          |none=>none
         else none
        |none=>none) (some acc)=some l→bF Bt.fits acc (cs.take acc.length)→bF Bt.fits l (cs.take l.length):=by
      intro fl
      induction fl with
      |nil=>intro acc l _ h1 h2;simp at h1;subst h1;exact h2
      |cons f fl ih=>
       intro acc l hfs h1 h2;simp only[List.foldl_cons]at h1
       have kg:∀fl:List Field,fl.foldl (fun acc f=>match acc with
        |some l=>if f.offset=l.length then match sI P n f.type with
          |some m=>if m.length=P.cellsOf f.type then some (l++m)else none
          |none=>none
         else none
        |none=>none) (none:Option (List Bt))=none:=by
        intro fl
        induction fl with
        |nil=>rfl
        |cons f fl ih=>exact ih
       split at h1
       ·rename_i ho
        split at h1
        ·rename_i mk hmk
         split at h1
         ·rename_i hmc;obtain⟨y,hy⟩:=hfs f (by simp);have hft:=pO n hmk hy;rw[ho,← hmc]at hft;refine ih (acc++mk) l (fun f hf=>hfs f (by simp[hf])) h1 ?_;rw[List.length_append,List.take_add];exact h2.append hft
         ·rw[kg]at h1;cases h1
        ·rw[kg]at h1;cases h1
       ·rw[kg]at h1;cases h1
     have:=key fs.toList [] ks hfs hl1 .nil;rwa [List.take_of_length_le (by omega)]at this
    ·cases hl2
   |array k e=>
    simp only at h
    split at h
    ·rename_i mk hmk
     split at h
     ·rename_i hc
      cases h
      obtain⟨xs,m,_,_,hl,hlen,hf⟩:=DataW.trod_array hu hx
      have VC:∀i,i<k→bF Bt.fits mk ((cs.drop (i*mk.length)).take mk.length):=by
       intro i hi;have:=hf i hi;rw[List.getElem?_eq_getElem (by omega)]at this;have h2:=pO n hmk this;rwa [← hc.1]at h2
      have key:∀ (j:Nat),j≤k→bF Bt.fits (List.replicate j mk).flatten (cs.take (j*mk.length)):=by
       intro j
       induction j with
       |zero=>intro _;simp;exact .nil
       |succ j ih=>
        intro hj;rw[List.replicate_succ',List.flatten_append,Nat.succ_mul,List.take_add];have:=VC j (by omega);exact(ih (by omega)).append (by simpa using this)
      have:=key k (Nat.le_refl _);rwa [List.take_of_length_le (by omega)]at this
     ·cases h
    ·cases h
   |_=>cases h
end
theorem IZ{k:IntKind}{β:Env}{pm:Bool}:∀ (n:Nat) {ks:List Bt} {cs:List Value},bF Bt.fits (List.replicate n (.int k)++ks) cs→
  ∃ (l:List Int) (us rest:List Value),cs=us++rest∧l.length=n∧us=l.map (.int k)∧aV ((Ty.int k).has β pm) l us∧(∀z∈l,(Lit.int k z).wf=true)∧bF Bt.fits ks rest
 |0,_,cs,h=>⟨[],[],cs,rfl,rfl,rfl,.nil,(fun _ h=>by cases h),h⟩
 |n+1,ks,cs,h=>by
  rw[List.replicate_succ,List.cons_append]at h
  cases h with
  |cons h1 h2=>
   obtain⟨z,rfl,hz⟩:=h1;obtain⟨l,us,rest,rfl,h3,h4,h5,h6,h7⟩:=IZ n h2
   exact⟨z::l,.int k z::us,rest,rfl,by simp[h3],by rw[h4];rfl,aV.cons (vs:= [.int k z]) rfl h5,(fun y hy=>by
    rcases List.mem_cons.1 hy with rfl|hy
    ·exact hz
    ·exact h6 y hy),h7⟩
theorem wf_u8{z:Int}(h:(Lit.int .u8 z).wf=true):By z:=by
 have:=bounds_u8 h;unfold By;omega
theorem aa4:Tryz.prog.cellsOf 5=1:=by kernel_rfl
theorem Nr{H:Type}{enc:TypeId×Value→H}{W:World}{base:Nat}{v:Value}{d:DataW H}{p:List MemPlace}
  (jJ:Value.okWide Tryz.prog W .any base 27 v) (h:DataW.Trod enc Tryz.prog W 0 (fun _=>true) true 27 v d p):
  ∃l:List Int,aN l∧(LV.one (.sc (.rd false false u8 l))).den (vm W) (kd []) v:=by
 obtain⟨fuel,h⟩:=h
 have aBs:v.cells.toList= [v]:=by
  unfold Value.okWide at jJ;rw[underlying27]at jJ
  cases v<;>first|rfl|(exfalso;simp[Cell.okWide,Cell.ok,underlying27]at jJ)
 rw[aBs]at h;rcases open_ints underlying27 underlying5 aa4 h with⟨e,_⟩|⟨a,len,cap,zs,e,_,hlc,_,hzl,_,I0,hwf⟩
 ·obtain rfl:v= .slice none 0 0:=by simpa using e
  exact⟨[],fun z hz=>(by simp at hz),rfl,(fun e=>by cases e),.inr (.inr ⟨rfl,rfl⟩)⟩
 ·obtain rfl:v= .slice (some a) len cap:=by simpa using e
  simp only[if_true]at hzl;refine⟨zs.take len,fun z hz=>wf_u8 (hwf z (List.mem_of_mem_take hz)),rfl,(fun e=>by cases e),.inr (.inl ⟨rfl,rfl,by decide,?_⟩)⟩;refine⟨some a,len,cap,rfl,by simp;omega,hlc,(fun e=>by cases e),fun h0=>?_⟩;have M4:=I0 0 (by omega)
  have hsp:a.spot=none:=by
   have:a.add 0=a:=(by cases a;simp[Addr.add]);rw[this]at M4;exact World.cell?_spot M4
  refine⟨a,(zs.take len).map (.int .u8),rfl,hsp,?_,fun i u hu=>?_⟩
  ·generalize zs.take len=l
   induction l with
   |nil=>exact .nil
   |cons x l ih=>exact aV.cons (vs:= [.int .u8 x]) rfl ih
  ·rw[List.getElem?_map]at hu;obtain⟨z,hz,rfl⟩:=map_some hu
   have hil:i<len∧i<zs.length:=by
    have:=(List.getElem?_eq_some_iff.1 hz).1;simp at this;omega
   rw[I0 i hil.2];rw[List.getElem?_take,if_pos hil.1]at hz;rw[List.getD_eq_getElem?_getD,hz];rfl
end Go.Proofs.YtnbkagglkajbkaaGreat
end
