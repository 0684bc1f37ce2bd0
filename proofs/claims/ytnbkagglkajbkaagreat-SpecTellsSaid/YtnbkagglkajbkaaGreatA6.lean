/- What the laws lean on, part 6: a reader of code, plain facts, and what each function gives; no conditions. -/
import Derived.KernelRfl
import Derived.Test.YtnbkagglkajbkaaGreatProg
import Derived.Eval
import Derived.Test.YtnbkagglkajbkaaGreatRows
import Derived.WalkKit
import Derived.ProofKit
import Derived.OpenShut
import Derived.JoinedCond
import Derived.JoinedOf
import Derived.Handed
import Derived.ReadAgain
import Derived.ChangeStays
import Derived.Test.YtnbkagglkajbkaaGreatA5
set_option linter.unusedVariables false
set_option linter.unusedSimpArgs false
noncomputable section
namespace Go.Ev
open Go
open Go.IntKind (i64 signed u16 u64 wrap)
structure Zs (W:World) (ak:Hp) (β₀ β:Env) (fr:List LV) (hp:Hp) (vals:List Value) (w:World):Prop where
 fr:bM (LV.den β (kd hp)) fr vals
 heap:bb W ak β₀ β hp w
noncomputable section
variable {W:World} {ak:Hp} {β₀ β:Env} {hp:Hp} {w:World}
theorem bb.Bk(h:bb W ak β₀ β hp w){β':Env}{dB:Hp}(g:Nat→Nat)(pJ:β'.rd=β.rd)(P7:bO β₀ β' (kd ak) (kd dB))
  (src:∀ (j:Nat) (y:Item),dB[j]? =some (some y)→∃x,hp[g j]? =some (some x)∧(∀b,cd β' y j b→cd β x (g j) b)∧fx β' (kd dB) w j y∧(g j=j∨kd ak (g j)=none))
  (hg:∀ (j k:Nat) (y z:Item),dB[j]? =some (some y)→dB[k]? =some (some z)→g j=g k→j=k):bb W ak β₀ β' dB w:=by
 have mJ:∀b,gb dB β' b→gb hp β b:=fun b ⟨j,y,hj,ho⟩=>by
  obtain⟨x,h1,h2,_⟩:=src j y hj;exact⟨g j,x,h1,h2 b ho⟩
 refine⟨fun j y hj=>?_,fun j k y z b hj hk h1 h2=>?_,P7,fun j y b hj ho=>?_,h.os,h.output,h.size,h.al,fun pm v t l hr=>?_,fun pm v t l b hr hb=>?_⟩
 ·obtain⟨x,_,_,h3,_⟩:=src j y hj;exact h3
 ·obtain⟨x,a1,a2,_⟩:=src j y hj;obtain⟨x',b1,b2,_⟩:=src k z hk;exact hg j k y z hj hk (h.inj _ _ _ _ b a1 b1 (a2 b h1) (b2 b h2))
 ·obtain⟨x,a1,a2,_,a4⟩:=src j y hj;rcases h.own _ _ b a1 (a2 b ho)with k|⟨z,k1,k2⟩
  ·exact .inl k
  ·rcases a4 with e|e
   ·rw[e]at k1 k2;exact .inr ⟨z,k1,k2⟩
   ·rw[dD k1]at e;cases e
 ·rw[pJ]at hr;obtain⟨h1,h2⟩:=h.reads pm v t l hr;exact⟨h1.mono fun _ _ _ _ h=>by rw[pJ];exact h,fun b hb=>⟨(h2 b hb).1,fun k=>(h2 b hb).2 (mJ b k)⟩⟩
 ·rw[pJ]at hr;exact h.from_ pm v t l b hr hb
theorem bb.avB(h:bb W ak β₀ β hp w){dB:Hp}(hk:kd dB=kd hp)
  (src:∀ (j:Nat) (y:Item),dB[j]? =some (some y)→∃x,hp[j]? =some (some x)∧(y=x∨∃cells cells' e,x= .aW cells e∧y= .aW cells' e∧∀c,bf β (kd hp) cells c→bf β (kd hp) cells' c)):bb W ak β₀ β dB w:=by
 refine h.Bk (fun j=>j) rfl (by rw[hk];exact h.first) (fun j y hj=>?_) fun _ _ _ _ _ _ e=>e;obtain⟨x,h1,h2⟩:=src j y hj;have hx:=h.items j x h1;rw[hk];rcases h2 with rfl|⟨cells,cells',e,rfl,rfl,h3⟩
 ·exact⟨y,h1,fun _ h=>h,hx,.inl rfl⟩
 ·obtain⟨c,fz,k1,k2,k3⟩:=hx;exact⟨_,h1,fun _ h=>h,⟨c,fz,k1,k2,h3 c k3⟩,.inl rfl⟩
def Item.db(f:SV→SV):Item→Item
 | .aW cells e=>.aW (cells.map f) e
 |x=>x
def VV.db(f:SV→SV):VV→VV
 | .sc s=>.sc (f s)
 | .agg l=>.agg (l.map f)
def LV.db(f:SV→SV):LV→LV
 | .one x=>.one (x.db f)
 | .cj l=>.cj (l.map (VV.db f))
 | .bd=>.bd
structure kY (β β':Env) (L L':Nat→Option Kd) (f:SV→SV):Prop where
 den:∀ {s:SV} {v:Value},s.den β L v→(f s).den β' L' v
 arr:∀t n l,f (.arr t n l)= .arr t n l
 rd:∀v t l,β.rd true v t l→β'.rd true v t l
theorem kY.j6{β β':Env}{L L':Nat→Option Kd}{f:SV→SV}(h:kY β β' L L' f){s:SV}{vs:List Value}(hd:s.j6 β L vs):(f s).j6 β' L' vs:=by
 cases s with
 |arr t n l=>rw[h.arr];exact⟨hd.1,hd.2.imp fun _ _=>t.ka h.rd⟩
 |_=>
  obtain⟨v,rfl,h3⟩:=hd;exact SV.tR (h.den h3)
theorem kY.aAh{β β':Env}{L L':Nat→Option Kd}{f:SV→SV}(h:kY β β' L L' f){l:List SV}{vs:List Value}(hd:bf β L l vs):bf β' L' (l.map f) vs:=by
 induction hd with
 |nil=>exact aU.nil
 |cons h1 _ ih=>exact aU.cons (h.j6 h1) ih
theorem kY.vv{β β':Env}{L L':Nat→Option Kd}{f:SV→SV}(h:kY β β' L L' f){s:VV}{v:Value}(hd:s.den β L v):(s.db f).den β' L' v:=by
 cases s with
 |sc s=>exact h.den hd
 |agg l=>obtain⟨cs,rfl,hd⟩:=hd;exact⟨cs,rfl,h.aAh hd⟩
theorem kY.lv{β β':Env}{L L':Nat→Option Kd}{f:SV→SV}(h:kY β β' L L' f){s:LV}{v:Value}(hd:s.den β L v):(s.db f).den β' L' v:=by
 cases s with
 |one x=>exact h.vv hd
 |cj l=>
  obtain⟨vs,rfl,hd⟩:=hd;refine⟨vs,rfl,?_⟩
  induction hd with
  |nil=>exact .nil
  |cons h1 _ ih=>exact .cons (h.vv h1) ih
 |bd=>trivial
theorem kY.fr{β β':Env}{L L':Nat→Option Kd}{f:SV→SV}(h:kY β β' L L' f){l:List LV}{vs:List Value}(hd:bM (LV.den β L) l vs):bM (LV.den β' L') (l.map (LV.db f)) vs:=by
 induction hd with
 |nil=>exact .nil
 |cons h1 _ ih=>exact .cons (h.lv h1) ih
theorem kY.item{β β':Env}{L L':Nat→Option Kd}{f:SV→SV}(h:kY β β' L L' f){w:World}{i:Nat}{x:Item}(hb:β'.b i=β.b i)(hh:β'.h i=β.h i)(hd:fx β L w i x):fx β' L' w i (x.db f):=by
 cases x with
 |aW cells e=>
  obtain⟨c,fz,h1,h2,h3⟩:=hd;exact⟨c,fz,by rw[hb];exact h1,h2,h.aAh h3⟩
 |own ver t l=>
  show dE β' w (β'.h i) t l;rw[hh];obtain⟨a,n,c,e,h1,h2,h3,h4⟩:=(hd:dE β w (β.h i) t l);refine⟨a,n,c,e,h1,h2,h3,fun h0=>?_⟩;obtain⟨a0,pre,eD,rest,elem,fz,k0,k1,k2,k3,k4,k5⟩:=h4 h0;exact⟨a0,pre,eD,rest,elem,fz,k0,k1,k2,k3,k4.imp fun _ _=>t.ka h.rd,k5⟩
 |gone v=>trivial
theorem Item.VR(f:SV→SV)(x:Item):(x.db f).kd=x.kd:=by cases x<;>rfl
theorem cd.db{f:SV→SV}{β β':Env}{x:Item}{i b:Nat}(hb:β'.b i=β.b i)(hh:β'.h i=β.h i):cd β' (x.db f) i b↔cd β x i b:=by
 cases x<;>simp only[Item.db,cd,hb,hh]
end
inductive FM where
 |drop
 |al
 |sym
 |rd (pm:Bool) (t:Ty)
def SV.rdm(pm:Bool)(t:Ty):SV→SV
 | .iM (.slice none 0 0)=>.rd pm false t []
 | .rd false _ t l=>.rd false false t l
 | .rd true _ t l=>.rd pm false t l
 |s=>s
def SV.symm:SV→SV
 | .int k n=>.int k (.sym n.val)
 | .bool b=>.bool (.sym b.val)
 |s=>s
def SV.aAi:SV→SV
 | .arr t n l=>.arr t n l
 |_=>.bd
def SV.fm:FM→SV→SV
 | .al,s=>s
 | .drop,s=>s.aAi
 | .sym,s=>s.symm
 | .rd pm t,s=>s.rdm pm t
theorem SV.Qe{β:Env}{L:Nat→Option Kd}(k:FM){s:SV}{v:Value}(h:s.den β L v):(s.fm k).den β L v:=by
 cases k with
 |al=>exact h
 |drop=>cases s<;>first|exact h.elim|exact SV.bw h
 |sym=>cases s<;>exact h
 |rd pm t=>
  simp only[SV.fm];unfold SV.rdm
  split
  ·obtain⟨_,rfl⟩:=h;exact⟨rfl,(fun e=>by cases e),.inr (.inr ⟨rfl,rfl⟩)⟩
  ·exact⟨h.1,(fun e=>by cases e),h.2.2⟩
  ·refine⟨h.1,(fun e=>by cases e),?_⟩;rcases h.2.2 with h1|⟨h1,_⟩|h1
   ·exact .inl h1
   ·cases h1
   ·exact .inr (.inr h1)
  ·exact h
theorem ux{β:Env}{L:Nat→Option Kd}(k:FM):kY β β L L (SV.fm k):=⟨SV.Qe k,fun t n l=>by cases k<;>rfl,fun _ _ _ h=>h⟩
def LV.fm:FM→LV→LV
 | .drop,_=>.bd
 | .al,x=>x
 |k,x=>x.db (SV.fm k)
theorem LV.Qe{β:Env}{L:Nat→Option Kd}(k:FM){s:LV}{v:Value}(h:s.den β L v):(s.fm k).den β L v:=by
 cases k with
 |drop=>trivial
 |al=>exact h
 |sym=>exact(ux .sym).lv h
 |rd pm t=>exact(ux (.rd pm t)).lv h
def avC:List FM→List LV→List LV
 |k::ks,x::xs=>x.fm k::avC ks xs
 |_,xs=>xs
theorem Lf{β:Env}{L:Nat→Option Kd}:∀ (ks:List FM) {xs:List LV} {vs:List Value},bM (LV.den β L) xs vs→bM (LV.den β L) (avC ks xs) vs
 | [],_,_,h=>h
 |k::ks,_,_,h=>by
  cases h with
  |nil=>exact .nil
  |cons h t=>exact .cons (LV.Qe k h) (Lf ks t)
def avD:List FM→List SV→List SV
 |k::ks,x::xs=>x.fm k::avD ks xs
 |_,xs=>xs
theorem Lg{β:Env}{L:Nat→Option Kd}:∀ (ks:List FM) {xs:List SV} {vs:List Value},bf β L xs vs→bf β L (avD ks xs) vs
 | [],_,_,h=>h
 |k::ks,[],_,h=>h
 |k::ks,x::xs,_,h=>by
  cases h with
  |cons h t=>exact .cons ((ux k).j6 h) (Lg ks t)
def SV.re(i c n:Nat):SV→SV
 | .sl j v=>if j=i then(if v=c then .sl j n else .bd)else .sl j v
 | .vw j v w z m=>if j=i then(if v=c then .vw j n w z m else .bd)else .vw j v w z m
 | .ep s w z f=>.ep (s.re i c n) w z f
 |s=>s
def SV.mv(i k c:Nat):SV→SV
 | .sl j v=>if j=k then(if v=c then .sl i 1 else .bd)else if j=i then .bd else .sl j v
 | .vw j v w z m=>if j=k then(if v=c then .vw i 1 w z m else .bd)else if j=i then .bd else .vw j v w z m
 | .ep s w z f=>.ep (s.mv i k c) w z f
 |s=>s
def SV.Qf(i c:Nat)(t:Ty)(l:List t.D):SV→SV
 | .sl j v=>if j=i then(if v=c then .rd true false t l else .bd)else .sl j v
 | .ep s w z f=>.ep (s.Qf i c t l) w z f
 |s=>s
noncomputable section
variable {W:World} {ak:Hp} {β₀ β:Env} {hp:Hp} {w:World}
theorem aoe{i c n:Nat}{L L':Nat→Option Kd}(hi:L i=some (.own c))(zq:L' i=some (.own n))(ho:∀j,j≠i→L' j=L j):kY β β L L' (SV.re i c n):=by
 have np:∀ {b},L b=some .aW→L' b=some .aW:=fun {b} hb=>by
  rw[ho b fun e=>by subst e;rw[hi]at hb;cases hb];exact hb
 refine⟨fun {s}=>?_,fun _ _ _=>rfl,fun _ _ _ h=>h⟩
 induction s with
 |sl j ver=>
  intro v h;have h1:=SV.bw h;simp only[SV.re]
  split
  ·rename_i e;subst e
   split
   ·rename_i e;subst e;obtain⟨k1,c',k2,k3,k4⟩:=h;rw[hi]at k2;cases k2;exact⟨k1,n,zq,Nat.le_refl _,fun _=>k4 rfl⟩
   ·exact h1
  ·rename_i e;obtain⟨k1,c',k2,k3,k4⟩:=h;exact⟨k1,c',by rw[ho j e];exact k2,k3,k4⟩
 |vw j ver w z m=>
  intro v h;have h1:=SV.bw h;simp only[SV.re]
  split
  ·rename_i e;subst e
   split
   ·rename_i e;subst e;obtain⟨k1,c',k2,k3,k4⟩:=h;rw[hi]at k2;cases k2;exact⟨k1,n,zq,Nat.le_refl _,fun _=>k4 rfl⟩
   ·exact h1
  ·rename_i e;obtain⟨k1,c',k2,k3,k4⟩:=h;exact⟨k1,c',by rw[ho j e];exact k2,k3,k4⟩
 |ep s w z f ih=>
  rintro v ⟨a,n,c',h1,h2⟩
  exact⟨a,n,c',ih h1,h2⟩
 |ptr b o=>intro v h;exact⟨np h.1,h.2⟩
 |xc b base st n z=>intro v h;exact⟨np h.1,h.2⟩
 |slice b o l c=>intro v h;exact⟨np h.1,h.2⟩
 |vb b o t m z n=>intro v h;exact⟨np h.1,h.2⟩
 |_=>intro v h;exact h
theorem aof{β':Env}{i k c:Nat}{L L':Nat→Option Kd}(hk:L k=some (.own c))(hki:L i≠some .aW)(zq:L' i=some (.own 1))(ho:∀j,j≠i→j≠k→L' j=L j)(hb:β'.b=β.b)(hh:∀j,j≠i→β'.h j=β.h j)(hhi:β'.h i=β.h k)(pJ:β'.rd=β.rd):
  kY β β' L L' (SV.mv i k c):=by
 have np:∀ {b},L b=some .aW→L' b=some .aW∧β'.b b=β.b b:=fun {b} h=>by
  refine⟨?_,by rw[hb]⟩;rw[ho b (fun e=>by subst e;exact hki h) fun e=>by subst e;rw[hk]at h;cases h];exact h
 have sj:∀pm v t l,β.rd pm v t l→β'.rd pm v t l:=fun _ _ _ _ h=>by rw[pJ];exact h
 refine⟨fun {s}=>?_,fun _ _ _=>rfl,fun _ _ _ h=>sj _ _ _ _ h⟩
 induction s with
 |sl j ver=>
  intro v h;have h1:=SV.bw h;simp only[SV.mv]
  split
  ·rename_i e;subst e
   split
   ·rename_i e;subst e;obtain⟨k1,c',k2,k3,k4⟩:=h;rw[hk]at k2;cases k2;exact⟨k1,1,zq,Nat.le_refl _,fun _=>by rw[hhi];exact k4 rfl⟩
   ·exact h1
  ·rename_i e
   split
   ·exact h1
   ·rename_i e2;obtain⟨k1,c',k2,k3,k4⟩:=h;exact⟨k1,c',by rw[ho j e2 e];exact k2,k3,fun e3=>by rw[hh j e2];exact k4 e3⟩
 |vw j ver w z m=>
  intro v h;have h1:=SV.bw h;simp only[SV.mv]
  split
  ·rename_i e;subst e
   split
   ·rename_i e;subst e;obtain⟨k1,c',k2,k3,k4⟩:=h;rw[hk]at k2;cases k2;exact⟨k1,1,zq,Nat.le_refl _,fun _=>by rw[hhi];exact k4 rfl⟩
   ·exact h1
  ·rename_i e
   split
   ·exact h1
   ·rename_i e2;obtain⟨k1,c',k2,k3,k4⟩:=h;exact⟨k1,c',by rw[ho j e2 e];exact k2,k3,fun e3=>by rw[hh j e2];exact k4 e3⟩
 |ep s w z f ih=>
  rintro v ⟨a,n,c',h1,h2⟩
  exact⟨a,n,c',ih h1,h2⟩
 |ptr b o=>intro v h;obtain⟨k1,k2⟩:=np h.1;exact⟨k1,by rw[k2];exact h.2⟩
 |xc b base st n z=>intro v h;obtain⟨k1,k2⟩:=np h.1;exact⟨k1,h.2.1,by rw[k2];exact h.2.2⟩
 |slice b o l c=>intro v h;obtain⟨k1,k2⟩:=np h.1;exact⟨k1,by rw[k2];exact h.2⟩
 |vb b o t m z n=>rintro v ⟨h1,h2⟩;obtain⟨k1,k2⟩:=np h1;exact⟨k1,by rw[k2];exact h2⟩
 |rd pm nn t l=>rintro v ⟨h1,h2,h3⟩;exact⟨h1,h2,h3.mono sj⟩
 |_=>intro v h;exact h
theorem Lh{β':Env}{i c:Nat}{t:Ty}{l:List t.D}{L:Nat→Option Kd}(hi:L i=some (.own c))(hb:β'.b=β.b)(hh:β'.h=β.h)(pJ:∀pm v t l,β.rd pm v t l→β'.rd pm v t l)(hr:β'.rd true (β.h i) t l):kY β β' L L (SV.Qf i c t l):=by
 have sj:bO β β' L L:=⟨fun i h=>⟨h,by rw[hb]⟩,fun i c h=>⟨c,h,Nat.le_refl _,fun _=>by rw[hh]⟩,pJ⟩;refine⟨fun {s}=>?_,fun _ _ _=>rfl,fun _ _ _ h=>pJ _ _ _ _ h⟩
 induction s with
 |sl j ver=>
  intro v h;have h1:=SV.bw h;simp only[SV.Qf]
  split
  ·rename_i e;subst e
   split
   ·rename_i e;subst e;obtain⟨k1,c',k2,k3,k4⟩:=h;rw[hi]at k2;cases k2;have e:=k4 rfl;subst e;exact⟨k1,(fun e=>by cases e),.inl hr⟩
   ·exact h1
  ·exact SV.eZ sj h
 |ep s w z f ih=>
  rintro v ⟨a,n,c',h1,h2⟩
  exact⟨a,n,c',ih h1,h2⟩
 |_=>intro v h;exact SV.eZ sj h
theorem Bl{f:SV→SV}{j:Nat}{y:Item}(hj:(hp.map (Option.map (Item.db f)))[j]? =some (some y)):∃x,hp[j]? =some (some x)∧y=x.db f:=by
 rw[List.getElem?_map]at hj;obtain⟨o,h1,h2⟩:=map_some hj
 cases o with
 |none=>cases h2
 |some x=>exact⟨x,h1,by simpa using h2.symm⟩
theorem xu{f:SV→SV}(hp:Hp):kd (hp.map (Option.map (Item.db f)))=kd hp:=by
 funext j
 unfold kd;rw[List.getElem?_map]
 cases hp[j]? with
 |none=>rfl
 |some o=>cases o with
  |none=>rfl
  |some x=>simp[Item.VR]
theorem bM.avE{α β:Type}{R:α→β→Prop}{a:α}:∀ {l:List α} {m:List β} {k:Nat},bM R l m→(∀b,m[k]? =some b→R a b)→bM R (l.set k a) m
 |_,_,_,.nil,_=>.nil
 |_,_,0,.cons h t,hb=>.cons (hb _ rfl) t
 |_,_,k+1,.cons h t,hb=>.cons h (t.avE fun b hk=>hb b (by simpa using hk))
def VS(k:IntKind):List SV→Option (List Int)
 | []=>some []
 | .int k' n::l=>if k'=k then(VS k l).map (n.val:: ·)else none
 |_::_=>none
theorem Li{β:Env}{L:Nat→Option Kd}{k:IntKind}:∀ {l:List SV} {m:List Int} {vs:List Value},VS k l=some m→bf β L l vs→aU ((Ty.int k).has β true) m vs
 | [],m,vs,h,hd=>by cases h;cases hd;exact .nil
 |s::l,m,vs,h,hd=>by
  unfold VS at h
  split at h
  ·rename_i e;cases e
  ·rename_i e;injection e with e1 e2;subst e1 e2
   split at h
   ·rename_i e;subst e;obtain⟨m',h1,rfl⟩:=map_some h
    cases hd with
    |cons h2 h3=>
     obtain⟨v,rfl,hv⟩:=h2;exact aU.cons (x:=_) (vs:= [v]) (by rw[show v=_ from hv];rfl) (Li h1 h3)
   ·cases h
  ·cases h
def EA(off n:Nat)(k:IntKind)(l:List SV):List SV:=match VS k ((l.drop off).take n)with
 |some m=>if m.length=n then l.take off++ .arr (.int k) n m::(l.drop off).drop n else l
 |none=>l
theorem lI{β:Env}{L:Nat→Option Kd}{off n:Nat}{k:IntKind}{l:List SV}{vs:List Value}(h:bf β L l vs):bf β L (EA off n k l) vs:=by
 unfold EA
 split
 ·rename_i m hm
  split
  ·rename_i hn;have e:l=l.take off++((l.drop off).take n++(l.drop off).drop n):=(by rw[List.take_append_drop,List.take_append_drop]);rw[e]at h;obtain⟨v1,v2,rfl,h1,h2⟩:=aU.split h;obtain⟨v3,v4,rfl,h3,h4⟩:=aU.split h2;exact h1.append (aU.cons (x:=.arr (.int k) n m) ⟨hn,Li hm h3⟩ h4)
  ·exact h
 ·exact h
def SV.cellsIn:SV→List SV
 | .arr (.int k) n m=>if n≤32 then(List.range n).map fun i=>.int k (.sym (m.getD i 0))else [.arr (.int k) n m]
 |s=> [s]
theorem Bm:∀ (m:List Int) (k:IntKind),(List.range m.length).map (fun i=>SV.int k (.sym (m.getD i 0)))=m.map fun n=>SV.int k (.sym n):=by
 intro m k
 apply List.ext_getElem?
 intro i;simp only[List.getElem?_map];rcases Nat.lt_or_ge i m.length with h1|h1
 ·rw[List.getElem?_range h1];simp[List.getD_eq_getElem?_getD,List.getElem?_eq_getElem h1]
 ·rw[List.getElem?_eq_none h1,List.getElem?_eq_none (by simpa using h1)];rfl
theorem Lj{β:Env}{L:Nat→Option Kd}{k:IntKind}:∀ {m:List Int} {vs:List Value},aU ((Ty.int k).has β true) m vs→bf β L (m.map fun n=>SV.int k (.sym n)) vs
 | [],_,h=>by cases h;exact .nil
 |n::m,_,h=>by
  cases h with
  |cons h1 h2=>
   have h1':_= [Value.int k n]:=h1;subst h1';exact aU.cons (x:=SV.int k (.sym n)) ⟨_,rfl,rfl⟩ (Lj h2)
theorem Lk{β:Env}{L:Nat→Option Kd}{s:SV}{vs:List Value}(h:s.j6 β L vs):bf β L s.cellsIn vs:=by
 unfold SV.cellsIn
 split
 ·rename_i k n m
  split
  ·obtain⟨rfl,h2⟩:=(h:_∧_);rw[Bm];exact Lj h2
  ·exact aU.one h
 ·exact aU.one h
def aeK(l:List SV):List SV:=l.flatMap SV.cellsIn
theorem E3{β:Env}{L:Nat→Option Kd}{l:List SV}{vs:List Value}(h:bf β L l vs):bf β L (aeK l) vs:=by
 induction h with
 |nil=>exact .nil
 |cons h _ ih=>exact(Lk h).append ih
def VV.onL(f:List SV→List SV):VV→VV
 | .agg l=>.agg (f l)
 |x=>x
theorem VV.uy{β:Env}{L:Nat→Option Kd}{f:List SV→List SV}(hf:∀l vs,bf β L l vs→bf β L (f l) vs){x:VV}{v:Value}(h:x.den β L v):(x.onL f).den β L v:=by
 cases x with
 |sc s=>exact h
 |agg l=>obtain⟨cs,e,hd⟩:=h;exact⟨cs,e,hf _ _ hd⟩
def LV.onL(f:List SV→List SV):LV→LV
 | .one x=>.one (x.onL f)
 | .cj l=>.cj (l.map (VV.onL f))
 |x=>x
theorem LV.uy{β:Env}{L:Nat→Option Kd}{f:List SV→List SV}(hf:∀l vs,bf β L l vs→bf β L (f l) vs){x:LV}{v:Value}(h:x.den β L v):(x.onL f).den β L v:=by
 cases x with
 |one x=>exact VV.uy hf h
 |cj l=>obtain⟨vs,e,hd⟩:=h;exact⟨vs,e,hd.AK fun _ _=>VV.uy hf⟩
 |bd=>exact h
def G0(f:List SV→List SV)(i:Nat)(fr:List LV):List LV:=match fr[i]? with
 |some x=>fr.set i (x.onL f)
 |none=>fr
theorem Bn{β:Env}{L:Nat→Option Kd}{f:List SV→List SV}(hf:∀l vs,bf β L l vs→bf β L (f l) vs){i:Nat}{fr:List LV}{vs:List Value}(h:bM (LV.den β L) fr vs):bM (LV.den β L) (G0 f i fr) vs:=by
 unfold G0
 split
 ·rename_i x hx;refine h.avE fun b hb=>?_;obtain⟨b',h1,h2⟩:=h.get hx;rw[hb]at h1;cases h1;exact LV.uy hf h2
 ·exact h
inductive Wk where
 |fr (l:List FM)
 |aW (i:Nat) (l:List FM)
 |dh (k:Nat) (t:Ty)
 |eT (i j:Nat) (t:Ty)
 |Qf (i:Nat)
 |ver (i:Nat)
 |one (i:Nat)
 |move (i j:Nat)
 |slot (b off i:Nat) (t:Ty)
 |cut (ids:List Nat)
 |Qg (k:Nat) (t:Ty)
 |avF (i j:Nat) (t:Ty)
 |auto
 |aE
 |syms
 |Ll
 |eG (i off n:Nat) (k:IntKind)
 |gK (i off n:Nat) (k:IntKind)
 |E5 (i:Nat)
 |asu (i:Nat)
def E6:SV→Bool
 | .iM (.slice none 0 0)=>true
 |_=>false
def aAj:LV→Bool
 | .one (.sc s)=>E6 s
 |_=>false
def G1:List Nat→Bool
 | []=>true
 |x::l=> !l.any (fun y=>decide (y=x))&&G1 l
def aoh(m:Nat)(ids:List Nat)(i:Nat):Option Nat:=if i<m then some i else(jH ids i).map (· +m)
def EB(m:Nat)(ids:List Nat):uw:=⟨aoh m ids,fun _ v=>some v⟩
structure w8 where
 n:Nat
 v:Nat→Bool
def w8.of(hp:Hp):w8:=⟨hp.length,fun i=>match bo hp i with|some (.own 0 _ _)=>true|_=>false⟩
structure w8.Ok (m:w8) (ak:Hp):Prop where
 n:m.n=ak.length
 v:∀i,m.v i=true→kd ak i=some (.own 0)
theorem w8.aN(hp:Hp):(w8.of hp).Ok hp:=⟨rfl,fun i h=>by
 simp only[w8.of]at h
 split at h
 ·rename_i hi;rw[dD (aB hi)];rfl
 ·cases h⟩
theorem w8.aAk(hp:Hp):(w8.mk hp.length fun _=>false).Ok hp:=⟨rfl,fun _ h=>by cases h⟩
def wk1(m:w8):Wk→St→Option St
 | .fr l,st=>some ⟨avC l st.fr,st.hp⟩
 | .aW i l,st=>match bo st.hp i with
  |some (.aW cells e)=>some ⟨st.fr,st.hp.set i (some (.aW (avD l cells) e))⟩
  |_=>some st
 | .dh k t,st=>if aAj (st.fr.getD k .bd)then some ⟨st.fr.set k (.one (.sc (.sl st.hp.length 0))),setAt st.hp st.hp.length (.own 0 t [])⟩else some st
 | .eT i j t,st=>match bo st.hp i with
  |some (.aW cells e)=>if E6 (cells.getD j .bd)then some ⟨st.fr,(setAt st.hp st.hp.length (.own 0 t [])).set i (some (.aW (cells.set j (.sl st.hp.length 0)) e))⟩else some st
  |_=>none
 | .Qf i,st=>if m.n≤i then match bo st.hp i with
  |some (.own c t l)=>some ⟨st.fr.map (LV.db (SV.Qf i c t l)),(st.hp.set i (some (.gone c))).map (Option.map (Item.db (SV.Qf i c t l)))⟩
  |_=>none else none
 | .ver i,st=>if m.n≤i then match bo st.hp i with
  |some (.own c t l)=>some ⟨st.fr.map (LV.db (SV.re i c 0)),(st.hp.set i (some (.own 0 t l))).map (Option.map (Item.db (SV.re i c 0)))⟩
  |_=>none else none
 | .one i,st=>if m.v i then match bo st.hp i with
  |some (.own c t l)=>some ⟨st.fr.map (LV.db (SV.re i c 1)),(st.hp.set i (some (.own 1 t l))).map (Option.map (Item.db (SV.re i c 1)))⟩
  |_=>none else none
 | .move i j,st=>if m.v i&&decide (m.n≤j)then match bo st.hp j,bo st.hp i with
  |some (.own c t l),some (.own _ _ _)=>some ⟨st.fr.map (LV.db (SV.mv i j c)),((st.hp.set i (some (.own 1 t l))).set j none).map (Option.map (Item.db (SV.mv i j c)))⟩
  |_,_=>none else none
 | .cut ids,st=>if m.n≤st.hp.length&&ids.all (fun i=>decide (m.n≤i))&&G1 ids then
   some ⟨st.fr.map (LV.bY (EB m.n ids)),(st.hp.take m.n++ids.map (fun i=>bo st.hp i)).map (Option.map (Item.bY (EB m.n ids) fun v=>v))⟩else none
 | .eG i off n k,st=>match bo st.hp i with
  |some (.aW cells e)=>some ⟨st.fr,st.hp.set i (some (.aW (EA off n k cells) e))⟩
  |_=>some st
 | .gK i off n k,st=>some ⟨G0 (EA off n k) i st.fr,st.hp⟩
 | .E5 i,st=>match bo st.hp i with
  |some (.aW cells e)=>some ⟨st.fr,st.hp.set i (some (.aW (aeK cells) e))⟩
  |_=>some st
 | .asu i,st=>some ⟨G0 aeK i st.fr,st.hp⟩
 | .syms,st=>some ⟨st.fr.map (LV.db (SV.fm .sym)),st.hp.map (Option.map (Item.db (SV.fm .sym)))⟩
 | .Qg _ _,_| .avF _ _ _,_| .auto,_| .aE,_| .Ll,_| .slot _ _ _ _,_=>none
def wkB(m:w8):List Wk→St→Option St
 | [],st=>some st
 |k::ks,st=>match wk1 m k st with
  |some rq=>wkB m ks rq
  |none=>none
def asv:Option Item→Bool
 |some (.own _ _ _)=>true
 |_=>false
def aoi(m:Nat)(st:St):List Nat:=
 match(sU 1000 (st.fr.flatMap LV.refs++(List.range m).filter fun i=>(bo st.hp i).isSome) [] []).val st.hp with
 |some (ids,_)=>ids.filter fun i=>decide (m≤i)
 |none=> []
def wkX(m:w8):Wk→St→List Wk
 | .Qg k t,st=>match st.fr.getD k .bd with
  | .one (.sc (.sl i _))=> [.Qf i]
  |_=> [.fr (List.replicate k .al++ [.rd true t])]
 | .avF i j t,st=>match bo st.hp i with
  |some (.aW cells _)=>match cells.getD j .bd with
   | .sl k _=> [.Qf k]
   |_=> [.aW i (List.replicate j .al++ [.rd true t])]
  |_=> []
 | .auto,st=> [.cut (aoi m.n st)]
 | .aE,st=>(List.range st.hp.length).filterMap fun i=>if decide (m.n≤i)&&asv (bo st.hp i)then some (.ver i)else none
 | .Ll,st=>(List.range st.hp.length).filterMap fun i=>if decide (m.n≤i)&&asv (bo st.hp i)then some (.Qf i)else none
 | .slot b j i t,st=>match bo st.hp b with
  |some (.aW cells _)=>match cells.getD j .bd with
   | .sl k _=>if k=i then [.one i]else [.move i k]
   |_=> [.eT b j t,.move i st.hp.length]
  |_=> []
 |k,_=> [k]
def sF(m:w8):List Wk→St→Option St
 | [],st=>some st
 |k::ks,st=>match wkB m (wkX m k st) st with
  |some rq=>sF m ks rq
  |none=>none
theorem E7{β:Env}{L:Nat→Option Kd}{s:SV}{v:Value}(h:E6 s=true)(hd:s.den β L v):v= .slice none 0 0:=by
 unfold E6 at h
 split at h
 ·exact hd.2
 ·cases h
theorem E8:∀ {l:List Nat},G1 l=true→l.Nodup
 | [],_=>List.nodup_nil
 |x::l,h=>by
  simp only[G1,Bool.and_eq_true,Bool.not_eq_true',List.any_eq_false,decide_eq_true_eq]at h;exact List.nodup_cons.2 ⟨fun hm=>h.1 x hm rfl,E8 h.2⟩
theorem bb.relabel(h:bb W ak β₀ β hp w){f:SV→SV}(hl:kY β β (kd hp) (kd hp) f):bb W ak β₀ β (hp.map (Option.map (Item.db f))) w:=by
 refine h.Bk (fun j=>j) rfl (by rw[xu];exact h.first) (fun j y hj=>?_) fun _ _ _ _ _ _ e=>e;obtain⟨x,h1,rfl⟩:=Bl hj;exact⟨x,h1,fun b=>(cd.db rfl rfl).1,by rw[xu];exact hl.item rfl rfl (h.items j x h1),.inl rfl⟩
theorem bb.Qh(h:bb W ak β₀ β hp w)(t:Ty):∃β',bb W ak β₀ β' (setAt hp hp.length (.own 0 t [])) w∧bO β β' (kd hp) (kd (setAt hp hp.length (.own 0 t [])))∧(SV.sl hp.length 0).den β' (kd (setAt hp hp.length (.own 0 t []))) (.slice none 0 0):=by
 obtain⟨β',h1,h2,h3⟩:=h.sS (id:=hp.length) (gF (Nat.le_refl _)) (v:=.slice none 0 0) (ver:=0) (t:=t) (l:= []) (w':=w) (Nat.le_refl _) rfl rfl (fun _ _=>rfl)
  ⟨none,0,0,rfl,rfl,Nat.le_refl _,fun _=>rfl,fun h=>absurd h (by omega)⟩ (fun a n c e=>by simp at e)
 exact⟨β',h1,h2,rfl,0,by rw[dq,if_pos rfl];rfl,Nat.le_refl _,fun _=>h3.symm⟩
theorem Qi{i:Nat}{x y:Item}(hi:hp[i]? =some (some x))(j:Nat):kd (hp.set i (some y)) j=if j=i then some y.kd else kd hp j:=by
 rw[← tY hi,dq]
theorem G2{i j:Nat}{x y z:Item}(hi:hp[i]? =some (some x))(hj:(hp.set i (some y))[j]? =some (some z)):(j=i∧z=y)∨(j≠i∧hp[j]? =some (some z)):=by
 by_cases e:j=i
 ·subst e;rw[List.getElem?_set_self (List.getElem?_eq_some_iff.1 hi).1]at hj;exact .inl ⟨rfl,by simpa using hj.symm⟩
 ·rw[List.getElem?_set_ne (Ne.symm e)]at hj;exact .inr ⟨e,hj⟩
theorem bb.Bo(h:bb W ak β₀ β hp w){i:Nat}{cells cells':List SV}{e:TypeId}(hi:hp[i]? =some (some (.aW cells e)))(hc:∀c,bf β (kd hp) cells c→bf β (kd hp) cells' c):
  bb W ak β₀ β (hp.set i (some (.aW cells' e))) w∧kd (hp.set i (some (.aW cells' e)))=kd hp:=by
 have hk:kd (hp.set i (some (.aW cells' e)))=kd hp:=by
  funext j
  rw[Qi hi]
  split
  ·rename_i e1;rw[e1,dD hi];rfl
  ·rfl
 refine⟨h.avB hk fun j y hj=>?_,hk⟩;rcases G2 hi hj with⟨rfl,rfl⟩|⟨_,EO⟩
 ·exact⟨_,hi,.inr ⟨cells,cells',e,rfl,rfl,hc⟩⟩
 ·exact⟨y,EO,.inl rfl⟩
theorem aeL{i:Nat}(h:ak.length≤i){y:Item}:ak[i]? ≠some (some y):=by rw[List.getElem?_eq_none h];simp
theorem yW{β:Env}{L:Nat→Option Kd}{s':SV}:∀ {l:List SV} {cs:List Value} {j:Nat},bf β L l cs→E6 (l.getD j .bd)=true→s'.den β L (.slice none 0 0)→bf β L (l.set j s') cs
 | [],_,_,h,_,_=>h
 |x::l,_,0,.cons (vs:=vs) h t,hn,hs=>by
  have hn:E6 x=true:=hn;have hna:∀t n l,x≠ .arr t n l:=fun _ _ _ e=>by subst e;cases hn
  obtain⟨v,rfl,hv⟩:=SV.jy h hna;have:=E7 hn hv;subst this;exact .cons (vs:= [.slice none 0 0]) (SV.tR hs) t
 |x::l,_,j+1,.cons h t,hn,hs=>.cons h (yW t (by simpa using hn) hs)
theorem avG(h:bb W ak β₀ β hp w){i c:Nat}{t:Ty}{l:List t.D}(hm:ak.length≤i)(hi:hp[i]? =some (some (.own c t l))):
  ∃β',bb W ak β₀ β' ((hp.set i (some (.gone c))).map (Option.map (Item.db (SV.Qf i c t l)))) w∧kY β β' (kd hp) (kd ((hp.set i (some (.gone c))).map (Option.map (Item.db (SV.Qf i c t l))))) (SV.Qf i c t l):=by
 obtain⟨h1,sj⟩:=h.oa hi (x':=.gone c) (β':=β) (w':=w) rfl (fun _ _=>rfl) rfl (.inr ⟨c,c,rfl,rfl,Nat.le_refl _,fun _=>rfl⟩) (Nat.le_refl _) rfl rfl (fun _ _ _=>rfl) (fun b ho=>ho.elim) (fun _=>trivial)
 have hk:kd (hp.set i (some (.gone c)))=kd hp:=by
  funext j
  rw[Qi hi]
  split
  ·rename_i e1;rw[e1,dD hi];rfl
  ·rfl
 have sk:dE β w (β.h i) t l:=h.items i _ hi
 obtain⟨h2,aET,h3⟩:=h1.o8 (pm:=true) (v:=β.h i) (t:=t) (l:=l) sk.reads fun b hb=>by
  have ho:cd β (.own c t l) i b:=GU sk hb;refine⟨(h.items i _ hi).lt ho,fun⟨j,y,hj,ho2⟩=>?_,.inl ?_⟩
  ·rcases G2 hi hj with⟨rfl,rfl⟩|⟨gJ,EO⟩
   ·exact ho2.elim
   ·exact gJ (h.inj j i y _ b EO hi ho2 ho)
  ·rcases h.own i _ b hi ho with k|⟨y,k,_⟩
   ·exact k
   ·exact absurd k (aeL hm)
 have hki:kd (hp.set i (some (.gone c))) i=some (.own c):=by rw[hk,dD hi];rfl
 have hl:kY (β.o8 true (β.h i) t l) (β.o8 true (β.h i) t l) (kd (hp.set i (some (.gone c)))) (kd (hp.set i (some (.gone c)))) (SV.Qf i c t l):=Lh hki rfl rfl (fun _ _ _ _ h=>h) h3;refine⟨_,h2.relabel hl,?_⟩;rw[xu,hk];rw[hk]at hki;exact Lh hki rfl rfl aET.rd h3
theorem asw(h:bb W ak β₀ β hp w){i c n:Nat}{t:Ty}{l:List t.D}(hm:kd ak i=none∨(kd ak i=some (.own 0)∧n=1))(hi:hp[i]? =some (some (.own c t l))):
  bb W ak β₀ β ((hp.set i (some (.own n t l))).map (Option.map (Item.db (SV.re i c n)))) w∧kY β β (kd hp) (kd ((hp.set i (some (.own n t l))).map (Option.map (Item.db (SV.re i c n))))) (SV.re i c n):=by
 have hk:∀j,kd ((hp.set i (some (.own n t l))).map (Option.map (Item.db (SV.re i c n)))) j=if j=i then some (.own n)else kd hp j:=by
  intro j;rw[xu,Qi hi];rfl
 have hl:kY β β (kd hp) (kd ((hp.set i (some (.own n t l))).map (Option.map (Item.db (SV.re i c n))))) (SV.re i c n):=aoe (by rw[dD hi];rfl) (by rw[hk,if_pos rfl]) fun j hj=>by rw[hk,if_neg hj]
 refine⟨h.Bk (fun j=>j) rfl ?_ (fun j y hj=>?_) fun _ _ _ _ _ _ e=>e,hl⟩
 ·refine⟨fun j hj=>?_,fun j k hj=>?_,h.first.rd⟩
  ·have gJ:j≠i:=fun e=>(by subst e;rcases hm with hm|⟨hm,_⟩<;>(rw[hm]at hj;cases hj));exact⟨by rw[hk,if_neg gJ];exact(h.first.aW j hj).1,(h.first.aW j hj).2⟩
  ·by_cases e:j=i
   ·subst e;rcases hm with hm|⟨hm,rfl⟩<;>(rw[hm]at hj;cases hj)
    exact⟨1,by rw[hk,if_pos rfl],by omega,fun e=>by omega⟩
   ·rw[hk,if_neg e];exact h.first.own j k hj
 ·obtain⟨x,h1,rfl⟩:=Bl hj;rcases G2 hi h1 with⟨rfl,rfl⟩|⟨_,h1'⟩
  ·exact⟨_,hi,fun b ho=>ho,h.items j _ hi,.inl rfl⟩
  ·exact⟨x,h1',fun b=>(cd.db rfl rfl).1,hl.item rfl rfl (h.items j x h1'),.inl rfl⟩
theorem aoj(h:bb W ak β₀ β hp w){i k c c':Nat}{t t':Ty}{l:List t.D}{l':List t'.D}(hm:kd ak i=some (.own 0))(hn:ak.length≤k)(hk:hp[k]? =some (some (.own c t l)))(hi:hp[i]? =some (some (.own c' t' l'))):
  ∃β',bb W ak β₀ β' (((hp.set i (some (.own 1 t l))).set k none).map (Option.map (Item.db (SV.mv i k c)))) w∧kY β β' (kd hp) (kd (((hp.set i (some (.own 1 t l))).set k none).map (Option.map (Item.db (SV.mv i k c))))) (SV.mv i k c):=by
 have gJ:i≠k:=fun e=>by subst e;rw[gF hn]at hm;cases hm
 have hil:=(List.getElem?_eq_some_iff.1 hi).1;have hkl:=(List.getElem?_eq_some_iff.1 hk).1;generalize Zt:((hp.set i (some (.own 1 t l))).set k none).map (Option.map (Item.db (SV.mv i k c)))=dB
 have hgi:dB[i]? =some (some (.own 1 t l)):=by
  rw[← Zt,List.getElem?_map,List.getElem?_set_ne (Ne.symm gJ),List.getElem?_set_self hil];rfl
 have hgk:dB[k]? =some none:=by
  rw[← Zt,List.getElem?_map,List.getElem?_set_self (by simpa using hkl)];rfl
 have hgo:∀j,j≠i→j≠k→dB[j]? =(hp[j]?).map (Option.map (Item.db (SV.mv i k c))):=by
  intro j h1 h2;rw[← Zt,List.getElem?_map,List.getElem?_set_ne (Ne.symm h2),List.getElem?_set_ne (Ne.symm h1)]
 have hko:∀j,j≠i→j≠k→kd dB j=kd hp j:=by
  intro j h1 h2;unfold kd;rw[hgo j h1 h2]
  cases hp[j]? with
  |none=>rfl
  |some o=>cases o with
   |none=>rfl
   |some x=>simp[Item.VR]
 have hki:kd dB i=some (.own 1):=by rw[dD hgi];rfl
 let β':Env:=⟨β.b,fun j=>if j=i then β.h k else β.h j,β.rd⟩
 have hl:kY β β' (kd hp) (kd dB) (SV.mv i k c):=aof (by rw[dD hk];rfl) (by rw[dD hi];intro e;cases e) hki hko rfl (fun j hj=>if_neg hj) (if_pos rfl) rfl
 let g:Nat→Nat:=fun j=>if j=i then k else j
 refine⟨β',h.Bk g rfl ⟨fun j hj=>?_,fun j n hj=>?_,h.first.rd⟩ (fun j y hj=>?_) (fun j j' y z hj EO e=>?_),hl⟩
 ·have h1:j≠i:=fun e=>by subst e;rw[hm]at hj;cases hj
  have h2:j≠k:=fun e=>by subst e;rw[gF hn]at hj;cases hj
  rw[hko j h1 h2];exact h.first.aW j hj
 ·have h2:j≠k:=fun e=>by subst e;rw[gF hn]at hj;cases hj
  by_cases h1:j=i
  ·subst h1;rw[hm]at hj;cases hj;exact⟨1,hki,by omega,fun e=>by omega⟩
  ·obtain⟨n',k1,k2,k3⟩:=h.first.own j n hj;exact⟨n',by rw[hko j h1 h2];exact k1,k2,fun e=>by show(if j=i then _ else _)=_;rw[if_neg h1];exact k3 e⟩
 ·by_cases h1:j=i
  ·subst h1;rw[hgi]at hj;cases hj;refine⟨_,by show hp[if j=j then k else j]? =_;rw[if_pos rfl];exact hk,fun b ho=>?_,?_,.inr ?_⟩
   ·obtain⟨a,n,m,h3,h4,h5⟩:=ho;have EM:(if j=j then β.h k else β.h j)=_:=h3;rw[if_pos rfl]at EM;exact⟨a,n,m,by show β.h (if j=j then k else j)=_;rw[if_pos rfl];exact EM,h4,h5⟩
   ·show dE β' w (if j=j then β.h k else β.h j) t l;rw[if_pos rfl];have sk:dE β w (β.h k) t l:=h.items k _ hk;exact dE.of (β:=β) (β':=β') (w:=w) (w':=w) (fun _ _ _ _ h=>h) sk fun _ _ _ _ _=>rfl
   ·show kd ak (if j=j then k else j)=none;rw[if_pos rfl];exact gF hn
  ·by_cases h2:j=k
   ·subst h2;rw[hgk]at hj;cases hj
   ·rw[hgo j h1 h2]at hj;obtain⟨o,h3,h4⟩:=map_some hj
    cases o with
    |none=>cases h4
    |some x=>
     have h4':y=x.db (SV.mv i k c):=(by simpa using h4.symm);subst h4';have hg:g j=j:=if_neg h1;have hhj:β'.h j=β.h j:=if_neg h1;rw[hg];exact⟨x,h3,fun b=>(cd.db (β:=β) (β':=β') rfl hhj).1,hl.item rfl hhj (h.items j x h3),.inl rfl⟩
 ·have hnk:∀ {j y},dB[j]? =some (some y)→j≠k:=fun hj e=>by subst e;rw[hgk]at hj;cases hj
  have h1:=hnk hj;have h2:=hnk EO;have e':(if j=i then k else j)=(if j'=i then k else j'):=e
  split at e'<;>split at e'
  ·rename_i a b;rw[a,b]
  ·exact absurd e'.symm h2
  ·exact absurd e' h1
  ·exact e'
theorem avH(h:bb W ak β₀ β hp w){ids:List Nat}(hlen:ak.length≤hp.length)(hm:∀i∈ids,ak.length≤i)(hn:ids.Nodup):
  ∃β',bb W ak β₀ β' ((hp.take ak.length++ids.map (fun i=>bo hp i)).map (Option.map (Item.bY (EB ak.length ids) fun v=>v))) w∧
   xp (EB ak.length ids) β β' (kd hp) (kd ((hp.take ak.length++ids.map (fun i=>bo hp i)).map (Option.map (Item.bY (EB ak.length ids) fun v=>v)))) false:=by
 generalize hme:ak.length=m at*;generalize Zt:(hp.take m++ids.map (fun i=>bo hp i)).map (Option.map (Item.bY (EB m ids) fun v=>v))=dB
 let g:Nat→Nat:=fun j=>if j<m then j else ids.getD (j-m) 0
 have aok:∀ {j},j<m→g j=j:=fun hj=>if_pos hj
 have aAl:∀ {j i:Nat},m≤j→ids[j-m]? =some i→g j=i:=fun hj hi=>by
  show(if _ then _ else _)=_;rw[if_neg (by omega),gG hi]
 have htl:(hp.take m).length=m:=by simp;omega
 have nd:∀ {j y},dB[j]? =some (some y)→∃x,hp[g j]? =some (some x)∧y=x.bY (EB m ids) (fun v=>v)∧((j<m∧g j=j)∨(m≤j∧ids[j-m]? =some (g j))):=by
  intro j y hj;rw[← Zt,List.getElem?_map]at hj;obtain⟨o,h1,h2⟩:=map_some hj
  cases o with
  |none=>cases h2
  |some x=>
   have VT:y=x.bY (EB m ids) fun v=>v:=by simpa using h2.symm
   by_cases Zp:j<m
   ·rw[List.getElem?_append_left (by omega),List.getElem?_take,if_pos Zp]at h1;exact⟨x,by rw[aok Zp];exact h1,VT,.inl ⟨Zp,aok Zp⟩⟩
   ·rw[List.getElem?_append_right (by omega),htl,List.getElem?_map]at h1;obtain⟨i,h3,h4⟩:=map_some h1;have e:=aAl (by omega) h3;exact⟨x,by rw[e];exact aB h4,VT,.inr ⟨by omega,by rw[e];exact h3⟩⟩
 have hto:∀ {i j x},aoh m ids i=some j→hp[i]? =some (some x)→dB[j]? =some (some (x.bY (EB m ids) (fun v=>v)))∧g j=i:=by
  intro i j x hf hi;unfold aoh at hf
  split at hf
  ·rename_i him
   cases hf
   refine⟨?_,aok him⟩;rw[← Zt,List.getElem?_map,List.getElem?_append_left (by omega),List.getElem?_take,if_pos him,hi];rfl
  ·obtain⟨k,hk,rfl⟩:=map_some hf;have h3:=gX hk;refine⟨?_,aAl (by omega) (by rw[show k+m-m=k from by omega];exact h3)⟩;rw[← Zt,List.getElem?_map,List.getElem?_append_right (by omega),htl,show k+m-m=k from by omega,List.getElem?_map,h3];show some (Option.map _ (bo hp i))=_;rw[ra hi];rfl
 let β':Env:=⟨fun j=>β.b (g j),fun j=>β.h (g j),β.rd⟩
 have yV:xp (EB m ids) β β' (kd hp) (kd dB) false:=by
  refine⟨fun b j hj hb=>?_,fun i j c hj hi=>?_,fun _ _ _ h=>h,fun _ _ _ _ h=>h⟩
  ·obtain⟨x,h1,h2⟩:=l8 hb;obtain⟨h3,h4⟩:=hto hj h1;exact⟨by rw[dD h3,Item.kX,h2];rfl,congrArg β.b h4⟩
  ·obtain⟨x,h1,h2⟩:=l8 hi;obtain⟨h3,h4⟩:=hto hj h1;exact⟨c,by rw[dD h3,Item.kX,h2];rfl,congrArg β.h h4,fun v v' hv e=>by cases e;exact⟨hv,fun e=>e⟩⟩
 have dL:∀ {i k},kd ak i=some k→i<m:=fun {i k} hi=>by
  rcases Nat.lt_or_ge i m with h1|h1
  ·exact h1
  ·rw[gF (by omega)]at hi;cases hi
 have KH:∀ {i},i<m→aoh m ids i=some i:=fun hi=>if_pos hi;refine⟨β',h.Bk g rfl ⟨fun i hi=>?_,fun i c hi=>?_,h.first.rd⟩ (fun j y hj=>?_) (fun j k y z hj hk e=>?_),yV⟩
 ·obtain⟨k1,k2⟩:=h.first.aW i hi;obtain⟨k3,k4⟩:=yV.aW i i (KH (dL hi)) k1;exact⟨k3,k4.trans k2⟩
 ·obtain⟨c',k1,k2,k3⟩:=h.first.own i c hi;have zq:i<m:=dL hi;obtain⟨x,h1,h2⟩:=l8 k1;obtain⟨h3,h4⟩:=hto (KH zq) h1;exact⟨c',by rw[dD h3,Item.kX,h2];rfl,k2,fun e=>(congrArg β.h (aok zq)).trans (k3 e)⟩
 ·obtain⟨x,h1,rfl,h2⟩:=nd hj;refine⟨x,h1,fun b=>(cd.bY (β:=β) (β':=β') rfl rfl).1,fx.GS yV (by simp) (fun _=>rfl) (fun _ _=>rfl) (h.items _ x h1),?_⟩;rcases h2 with⟨_,h2⟩|⟨_,h2⟩
  ·exact .inl h2
  ·exact .inr (gF (by rw[hme];exact hm _ (List.mem_of_getElem? h2)))
 ·obtain⟨_,_,_,h1⟩:=nd hj;obtain⟨_,_,_,h2⟩:=nd hk;rcases h1 with⟨a1,a2⟩|⟨a1,a2⟩<;>rcases h2 with⟨b1,b2⟩|⟨b1,b2⟩
  ·omega
  ·have:=hm _ (List.mem_of_getElem? b2);omega
  ·have:=hm _ (List.mem_of_getElem? a2);omega
  ·rw[e]at a2;have e1:=kW hn a2;have e2:=kW hn b2;rw[e1]at e2;have:=Option.some.inj e2;omega
theorem avI{m:w8}(PD:m.Ok ak){k:Wk}{st rq:St}(h:wk1 m k st=some rq){vals:List Value}(hr:Zs W ak β₀ β st.fr st.hp vals w):∃β',Zs W ak β₀ β' rq.fr rq.hp vals w:=by
 obtain⟨fr,hp⟩:=st
 cases k with
 |fr l=>cases h;exact⟨β,Lf l hr.fr,hr.heap⟩
 |aW i l=>
  simp only[wk1]at h
  split at h
  ·rename_i cells e hi
   cases h
   obtain⟨h1,h2⟩:=hr.heap.Bo (aB hi) fun c=>Lg l;exact⟨β,by show bM (LV.den β (kd _)) fr vals;rw[h2];exact hr.fr,h1⟩
  ·cases h;exact⟨β,hr⟩
 |dh k t=>
  simp only[wk1]at h
  split at h
  ·rename_i A5
   cases h
   obtain⟨β',h1,h2,h3⟩:=hr.heap.Qh t;refine⟨β',(hr.fr.imp fun _ _=>LV.eZ h2).avE fun b hb=>?_,h1⟩
   have gV:∃x,fr[k]? =some x:=by
    have:fr.length=vals.length:=hr.fr.length;have hk:=(List.getElem?_eq_some_iff.1 hb).1;exact⟨_,List.getElem?_eq_getElem (show k<fr.length by omega)⟩
   obtain⟨x,hx⟩:=gV;obtain⟨b',uc,hd⟩:=hr.fr.get hx;rw[hb]at uc;cases uc;simp only[List.getD_eq_getElem?_getD,hx,Option.getD_some]at A5
   cases x with
   |one x=>cases x with
    |sc s=>
     have:=E7 A5 hd;subst this;exact h3
    |agg l=>cases A5
   |cj l=>cases A5
   |bd=>cases A5
  ·cases h;exact⟨β,hr⟩
 |eT i j t=>
  simp only[wk1]at h
  split at h
  ·rename_i cells e hi
   split at h
   ·rename_i A5
    cases h
    obtain⟨β',h1,h2,h3⟩:=hr.heap.Qh t
    have zq:(setAt hp hp.length (.own 0 t []))[i]? =some (some (.aW cells e)):=by
     refine(cm hp _ _ _ _ ?_).2 (aB hi);have:=(List.getElem?_eq_some_iff.1 (aB hi)).1;omega
    obtain⟨h4,h5⟩:=h1.Bo (cells':=cells.set j (.sl hp.length 0)) zq fun c hc=>yW hc A5 h3;exact⟨β',by show bM (LV.den β' (kd _)) fr vals;rw[h5];exact hr.fr.imp fun _ _=>LV.eZ h2,h4⟩
   ·cases h;exact⟨β,hr⟩
  ·cases h
 |Qf i=>
  simp only[wk1]at h
  split at h
  ·rename_i hm
   split at h
   ·rename_i c t l hi
    cases h
    obtain⟨β',h1,h2⟩:=avG hr.heap (PD.n▸hm) (aB hi);exact⟨β',h2.fr hr.fr,h1⟩
   ·cases h
  ·cases h
 |ver i=>
  simp only[wk1]at h
  split at h
  ·rename_i hm
   split at h
   ·rename_i c t l hi
    cases h
    obtain⟨h1,h2⟩:=asw (n:=0) hr.heap (.inl (gF (PD.n▸hm))) (aB hi);exact⟨β,h2.fr hr.fr,h1⟩
   ·cases h
  ·cases h
 |one i=>
  simp only[wk1]at h
  split at h
  ·rename_i hm
   split at h
   ·rename_i c t l hi
    cases h
    obtain⟨h1,h2⟩:=asw (n:=1) hr.heap (.inr ⟨PD.v i hm,rfl⟩) (aB hi);exact⟨β,h2.fr hr.fr,h1⟩
   ·cases h
  ·cases h
 |move i j=>
  simp only[wk1]at h
  split at h
  ·rename_i hm;simp only[Bool.and_eq_true,decide_eq_true_eq]at hm
   split at h
   ·rename_i c t l c' t' l' hj hi
    cases h
    obtain⟨β',h1,h2⟩:=aoj hr.heap (PD.v i hm.1) (PD.n▸hm.2) (aB hj) (aB hi);exact⟨β',h2.fr hr.fr,h1⟩
   ·cases h
  ·cases h
 |cut ids=>
  simp only[wk1]at h
  split at h
  ·rename_i hc;simp only[Bool.and_eq_true,decide_eq_true_eq,List.all_eq_true]at hc
   cases h
   rw[PD.n]at hc ⊢;obtain⟨β',h1,h2⟩:=avH hr.heap hc.1.1 hc.1.2 (E8 hc.2);refine⟨β',?_,h1⟩;have hfr:=hr.fr;show bM (LV.den β' _) (fr.map _) vals;exact hfr.AK fun a b=>LV.gr h2 (by simp)
  ·cases h
 |eG i off n k=>
  simp only[wk1]at h
  split at h
  ·rename_i cells e hi
   cases h
   obtain⟨h1,h2⟩:=hr.heap.Bo (aB hi) fun c=>lI (off:=off) (n:=n) (k:=k);exact⟨β,by show bM (LV.den β (kd _)) fr vals;rw[h2];exact hr.fr,h1⟩
  ·cases h;exact⟨β,hr⟩
 |gK i off n k=>cases h;exact⟨β,Bn (fun _ _=>lI) hr.fr,hr.heap⟩
 |E5 i=>
  simp only[wk1]at h
  split at h
  ·rename_i cells e hi
   cases h
   obtain⟨h1,h2⟩:=hr.heap.Bo (aB hi) fun c=>E3;exact⟨β,by show bM (LV.den β (kd _)) fr vals;rw[h2];exact hr.fr,h1⟩
  ·cases h;exact⟨β,hr⟩
 |asu i=>cases h;exact⟨β,Bn (fun _ _=>E3) hr.fr,hr.heap⟩
 |syms=>
  cases h
  refine⟨β,?_,hr.heap.relabel (ux .sym)⟩;show bM (LV.den β (kd (hp.map _))) (fr.map _) vals;rw[xu];exact(ux .sym).fr hr.fr
 |Qg k t=>cases h
 |avF i j t=>cases h
 |auto=>cases h
 |aE=>cases h
 |Ll=>cases h
 |slot b o i t=>cases h
theorem aeM{m:w8}(PD:m.Ok ak):∀ (ks:List Wk) {st rq:St} {β:Env},wkB m ks st=some rq→∀ {vals:List Value},Zs W ak β₀ β st.fr st.hp vals w→∃β',Zs W ak β₀ β' rq.fr rq.hp vals w
 | [],_,_,_,h,_,hr=>by cases h;exact⟨_,hr⟩
 |k::ks,st,_,_,h,_,hr=>by
  simp only[wkB]at h
  split at h
  ·rename_i st1 h1;obtain⟨β1,PA⟩:=avI PD h1 hr;exact aeM PD ks h PA
  ·cases h
theorem aeN{m:w8}(PD:m.Ok ak):∀ (ks:List Wk) {st rq:St} {β:Env},sF m ks st=some rq→∀ {vals:List Value},Zs W ak β₀ β st.fr st.hp vals w→∃β',Zs W ak β₀ β' rq.fr rq.hp vals w
 | [],_,_,_,h,_,hr=>by cases h;exact⟨_,hr⟩
 |k::ks,st,_,_,h,_,hr=>by
  simp only[sF]at h
  split at h
  ·rename_i st1 h1;obtain⟨β1,PA⟩:=aeM PD _ h1 hr;exact aeN PD ks h PA
  ·cases h
end
def aK.wk(m:w8)(ws:Exit→List Wk):aK→aK
 | .leaf e st=>match sF m (ws e) st with
  |some rq=>.leaf e rq
  |none=>.fail
 | .ite b x y=>.ite b (x.wk m ws) (y.wk m ws)
 | .need p x=>.need p (x.wk m ws)
 | .fail=>.fail
theorem oq{m:w8}{ws:Exit→List Wk}{R:Exit→St→Prop}:∀ {r:aK},(r.wk m ws).sat R→r.sat fun e st=>∃rq,sF m (ws e) st=some rq∧R e rq
 | .leaf e st,h=>by
  simp only[aK.wk]at h
  split at h
  ·rename_i rq h1;exact⟨rq,h1,h⟩
  ·exact h.elim
 | .ite b x y,h=>⟨fun e=>oq (h.1 e),fun e=>oq (h.2 e)⟩
 | .need p x,h=>⟨h.1,oq h.2⟩
 | .fail,h=>h
theorem Rel.wk{W:World}{ak:Hp}{β₀ β:Env}{st rq:St}{a:Act}{w:World}(hr:Rel W ak β₀ β st a w){m:w8}(PD:m.Ok ak){ks:List Wk}(h:sF m ks st=some rq):∃β',Rel W ak β₀ β' rq a w:=by
 obtain⟨β',h1⟩:=aeN PD ks h ⟨hr.fr,hr.heap⟩;exact⟨β',hr.defers,h1.fr,h1.heap⟩
theorem Ex.wk{P:Program}{ak:Hp}{c:Code}{st:St}{r:aK}(ws:Exit→List Wk)(h:Ex P ak c st r):Ex P ak c st (r.wk (.of ak) ws):=by
 intro W β₀ R Q hs hq β a w hr;refine h W β₀ _ Q (oq hs) ?_ β a w hr
 rintro e a w ⟨st1,β1,⟨st2,h1,h2⟩,h3⟩
 obtain⟨β2,h4⟩:=h3.wk (w8.aN ak) h1;exact hq _ _ _ ⟨st2,β2,h2,h4⟩
theorem Ex.pre{P:Program}{ak:Hp}{c:Code}{st rq:St}{r:aK}{m:w8}(PD:m.Ok ak)(ks:List Wk)(hk:sF m ks st=some rq)(h:Ex P ak c rq r):Ex P ak c st r:=by
 intro W β₀ R Q hs hq β a w hr;obtain⟨β2,h4⟩:=hr.wk PD hk;exact h W β₀ R Q hs hq β2 a w h4
def End.wk(m:w8)(ks:List Wk):End→End
 | .leaf v hp=>match sF m ks ⟨[v],hp⟩with
  |some ⟨[v'],dB⟩=>.leaf v' dB
  |_=>.fail
 | .ite b x y=>.ite b (x.wk m ks) (y.wk m ks)
 | .need p x=>.need p (x.wk m ks)
 | .fail=>.fail
theorem ot{m:w8}{ks:List Wk}{R:LV→Hp→Prop}:∀ {r:End},(r.wk m ks).sat R→r.sat fun v hp=>∃v' dB,sF m ks ⟨[v],hp⟩=some ⟨[v'],dB⟩∧R v' dB
 | .leaf v hp,h=>by
  simp only[End.wk]at h
  split at h
  ·rename_i v' dB h1;exact⟨v',dB,h1,h⟩
  ·exact h.elim
 | .ite b x y,h=>⟨fun e=>ot (h.1 e),fun e=>ot (h.2 e)⟩
 | .need p x,h=>⟨h.1,ot h.2⟩
 | .fail,h=>h
theorem iq.wk{P:Program}{f:FuncId}{args:List LV}{hp:Hp}{t:End}(ks:List Wk)(h:iq P f args hp t):iq P f args hp (t.wk (.of hp) ks):=by
 intro R hs β w vals hh eh;refine(h _ (ot hs) β w vals hh eh).mono ?_
 rintro e w' ⟨val,β',r,dB,rfl,⟨v',hp2,h1,h2⟩,hd,hr⟩
 obtain⟨β2,h3⟩:=aeN (w8.aN hp) ks h1 (vals:= [val]) ⟨.cons hd .nil,hr⟩;obtain⟨h4,h5⟩:=h3
 cases h4 with
 |cons h6 _=>exact⟨val,β2,v',hp2,rfl,h2,h6,h5⟩
theorem Ex.dc{P:Program}{m:Hp}{c:Code}{X:Type}(μ:X→Nat)(S:X→St)(I:X→Prop)(rnd F:X→aK)(h:∀x,I x→Ex P m c (S x) (rnd x))
  (hr:∀x R,I x→(F x).sat R→(rnd x).sat fun e s=>(e= .normal∧∃y,s=S y∧I y∧μ y<μ x∧(F y).sat R)∨(e≠ .normal∧R e s)) {x:X} (hx:I x):Ex P m (.loop c) (S x) (F x):=by
 intro W β₀ R Q hs hq β a w avt
 have key:∀ (n:Nat) (y:X),I y→μ y<n→(F y).sat R→∀β a w,Rel W m β₀ β (S y) a w→Code.rounds P c Q n a w:=by
  intro n
  induction n with
  |zero=>intro y _ h0;omega
  |succ n ih=>
   intro y hy hn hF β a w rp;rw[rounds_succ];refine h y hy W β₀ _ _ (hr y R hy hF) ?_ β a w rp
   rintro e a w ⟨t,β',h1,h2⟩
   rcases h1 with⟨rfl,z,rfl,hz,dL,hF'⟩|⟨gJ,h1⟩
   ·exact ih z hz (by omega) hF' β' a w h2
   ·cases e with
    |normal=>exact absurd rfl gJ
    |exit _=>exact hq _ _ _ ⟨t,β',h1,h2⟩
    |goto _=>exact hq _ _ _ ⟨t,β',h1,h2⟩
    |ret=>exact hq _ _ _ ⟨t,β',h1,h2⟩
    |panic _=>exact hq _ _ _ ⟨t,β',h1,h2⟩
    |outgrown=>exact hq _ _ _ ⟨t,β',h1,h2⟩
 exact wp_loop_rounds (μ x+1) (key _ x hx (Nat.lt_succ_self _) hs β a w avt)
theorem Ex.need{P:Program}{m:Hp}{c:Code}{st:St}{p:Prop}{r:aK}(h:p→Ex P m c st r):Ex P m c st (.need p r):=
 fun W β₀ R Q hs hq β a w hr=>h hs.1 W β₀ R Q hs.2 hq β a w hr
def aF(fn:Func):Code:=fn.body.getD .skip
def gI(c:Code)(id:Nat):List Code:=(Ez c).filterMap fun p=>if p.1=id then some p.2 else none
def aO(fn:Func)(id:Nat):Code:=match gI (aF fn) id with
 | [.loop b]=>b
 |_=>.ret
def ou:List Code→Bool
 | [.loop _]=>true
 |_=>false
theorem xw{fn:Func}{id:Nat}(h:ou (gI (aF fn) id)=true):gI (aF fn) id= [.loop (aO fn id)]:=by
 unfold aO;generalize gI (aF fn) id=l at*;unfold ou at h
 split at h
 ·rfl
 ·cases h
theorem E9{LT:dG}{id:Nat}{f:St→aK}(h:EZ LT id=some f):(id,f)∈LT:=by
 induction LT with
 |nil=>cases h
 |cons p l ih=>
  obtain⟨i,g⟩:=p;simp only[EZ]at h
  split at h
  ·rename_i e;subst e;cases h;simp
  ·exact List.mem_cons_of_mem _ (ih h)
theorem aH.bK{P:Program}{m:Hp}{LT:dG}{fn:Func}(h:∀p∈LT,ou (gI (aF fn) p.1)=true∧∀st,Ex P m (.loop (aO fn p.1)) st (p.2 st)):aH P m LT (aF fn):=by
 refine aH.of fun id f c' hf hm st=>?_;obtain⟨h1,h2⟩:=h _ (E9 hf);have:c'∈gI (aF fn) id:=List.mem_filterMap.2 ⟨(id,c'),hm,by simp⟩;rw[xw h1]at this;simp at this;subst this;exact h2 st
theorem aeO{c c':Code}{id:Nat}(h:(id,c')∈Ez c):∀p∈Ez c',p∈Ez c:=by
 induction c with
 |seq a b iha ihb=>
  rcases List.mem_append.1 h with h|h
  ·exact fun p hp=>List.mem_append_left _ (iha h p hp)
  ·exact fun p hp=>List.mem_append_right _ (ihb h p hp)
 |cond _ a b iha ihb=>
  rcases List.mem_append.1 h with h|h
  ·exact fun p hp=>List.mem_append_left _ (iha h p hp)
  ·exact fun p hp=>List.mem_append_right _ (ihb h p hp)
 |block i c ih=>
  rcases List.mem_cons.1 h with h|h
  ·cases h;exact fun p hp=>List.mem_cons_of_mem _ hp
  ·exact fun p hp=>List.mem_cons_of_mem _ (ih h p hp)
 |loop c ih=>exact fun p hp=>ih h p hp
 |scope c ih=>exact fun p hp=>ih h p hp
 |_=>cases h
theorem aH.inner{P:Program}{m:Hp}{LT:dG}{fn:Func}{i:Nat}(hi:ou (gI (aF fn) i)=true)(h:∀p∈LT,ou (gI (aF fn) p.1)=true∧∀st,Ex P m (.loop (aO fn p.1)) st (p.2 st)):aH P m LT (aO fn i):=by
 refine aH.of fun id f c' hf hm st=>?_;obtain⟨h1,h2⟩:=h _ (E9 hf);have h3:Code.loop (aO fn i)∈gI (aF fn) i:=by rw[xw hi];simp
 obtain⟨⟨j,c2⟩,h4,h5⟩:=List.mem_filterMap.1 h3;simp only at h5
 split at h5
 ·cases h5
  have:c'∈gI (aF fn) id:=List.mem_filterMap.2 ⟨(id,c'),aeO h4 _ hm,by simp⟩;rw[xw h1]at this;simp at this;subst this;exact h2 st
 ·cases h5
def cO(P:Program)(tab:List (FuncId×an))(LT:dG)(fn:Func)(id:Nat)(hp:Hp)(ws:Exit→List Wk)(st:St):aK:=(exec P (VP tab) fork hp LT (aO fn id) st).wk (.of hp) ws
theorem VU{P:Program}(lX:P.follows .mixedOrders=true){tab:List (FuncId×an)}(sn:∀p∈tab,p.2.Ok P p.1){LT:dG}{fn:Func}{id:Nat}{hp:Hp}{ws:Exit→List Wk}{st:St}(hL:aH P hp LT (aO fn id)):
  Ex P hp (aO fn id) st (cO P tab LT fn id hp ws st):=(Ex.VK (aeJ sn) lX hL rfl).wk ws
def aG(P:Program)(tab:List (FuncId×an))(LT:dG)(fn:Func)(args:List LV)(hp:Hp)(ks:List Wk):End:=((exec P (VP tab) fork hp LT (aF fn) (entry fn args hp)).ends P fn).wk (.of hp) ks
theorem ar{P:Program}(lX:P.follows .mixedOrders=true){tab:List (FuncId×an)}(sn:∀p∈tab,p.2.Ok P p.1){f:FuncId}{fn:Func}(hf:P.funcs[f]? =some fn)(hb:fn.body.isSome=true){LT:dG}{args:List LV}{hp:Hp}{ks:List Wk}(hL:aH P hp LT (aF fn)):
  iq P f args hp (aG P tab LT fn args hp ks):=by
 have gV:fn.body=some (aF fn):=by
  unfold aF
  cases h:fn.body with
  |none=>rw[h]at hb;cases hb
  |some c=>rfl
 exact(Qb hf gV (Ex.VK (A:=fork) (aeJ sn) lX hL rfl)).wk ks
theorem iq.use{P:Program}{f:FuncId}{args:List LV}{hp:Hp}{t:End}(h:iq P f args hp t){V:LV}{D:List (Nat×Item)}(hs:t.sat fun v dB=>v=V∧dB=aJ D hp){Q:LV→List (Nat×Item)→Prop}(hQ:Q V D):
  iQ P f args hp fun v dB=>∃d,Q v d∧dB=aJ d hp:=by
 refine h _ ?_
 have key:∀ {t:End},(t.sat fun v dB=>v=V∧dB=aJ D hp)→t.sat fun v dB=>∃d,Q v d∧dB=aJ d hp:=by
  intro t
  induction t with
  |leaf v dB=>rintro⟨rfl,rfl⟩;exact⟨D,hQ,rfl⟩
  |ite b x y ihx ihy=>exact fun h=>⟨fun e=>ihx (h.1 e),fun e=>ihy (h.2 e)⟩
  |need p x ih=>exact fun h=>⟨h.1,ih h.2⟩
  |fail=>exact fun h=>h
 exact key hs
def Bp(l:List SV):List SV:=
 if l.length=32 then EA 0 32 .u8 l else if l.length=8 then EA 0 8 .u64 (EA 0 8 .u8 l)else if l.length=16 then EA 0 16 .u64 l else l
theorem Qj{β:Env}{L:Nat→Option Kd}{l:List SV}{vs:List Value}(h:bf β L l vs):bf β L (Bp l) vs:=by
 unfold Bp
 split
 ·exact lI h
 ·split
  ·exact lI (lI h)
  ·split
   ·exact lI h
   ·exact h
def an.sym(e:an):an:=⟨e.tys,fun args hp=>e.run (args.map fun a=>(a.db SV.symm).onL Bp) (hp.map (Option.map (Item.db SV.symm)))⟩
theorem aeP{β:Env}{L:Nat→Option Kd}{s:SV}{v:Value}:(s.symm).den β L v↔s.den β L v:=by cases s<;>exact Iff.rfl
theorem Zu{β:Env}{L:Nat→Option Kd}{s:SV}{vs:List Value}:(s.symm).j6 β L vs↔s.j6 β L vs:=by cases s<;>exact Iff.rfl
theorem Fa{β:Env}{L:Nat→Option Kd}:kY β β L L SV.symm:=⟨aeP.2,fun _ _ _=>rfl,fun _ _ _ h=>h⟩
theorem Fb{β:Env}{L:Nat→Option Kd}:∀ {l:List SV} {vs:List Value},bf β L (l.map SV.symm) vs→bf β L l vs
 | [],_,h=>h
 |s::l,_,h=>by
  cases h with
  |cons h1 h2=>exact .cons (Zu.1 h1) (Fb h2)
theorem Zv{β:Env}{L:Nat→Option Kd}{w:World}{i:Nat}{x:Item}(h:fx β L w i (x.db SV.symm)):fx β L w i x:=by
 cases x with
 |aW cells e=>obtain⟨c,fz,h1,h2,h3⟩:=h;exact⟨c,fz,h1,h2,Fb h3⟩
 |_=>exact h
theorem jI:∀ (d:List (Nat×Item)) {hp hp2:Hp} {j:Nat} {x:Item},(∀ (j:Nat) (x:Item),hp[j]? =some (some x)→∃y,hp2[j]? =some (some y)∧(y=x∨y=x.db SV.symm))→(aJ d hp)[j]? =some (some x)→∃y,(aJ d hp2)[j]? =some (some y)∧(y=x∨y=x.db SV.symm)
 | [],_,_,j,x,h,hj=>h j x hj
 |(i,z)::d,hp,hp2,j,x,h,hj=>by
  refine jI d (hp:=setAt hp i z) (hp2:=setAt hp2 i z) (fun k y hk=>?_) hj
  by_cases e:k=i
  ·subst e;rw[dF]at hk;cases hk;exact⟨z,dF _ _ _,.inl rfl⟩
  ·obtain⟨y',h1,h2⟩:=h k y ((cm hp i z k y e).1 hk);exact⟨y',(cm hp2 i z k y' e).2 h1,h2⟩
theorem pf:∀ (d:List (Nat×Item)) {hp hp2:Hp},kd hp=kd hp2→kd (aJ d hp)=kd (aJ d hp2)
 | [],_,_,h=>h
 |(i,z)::d,hp,hp2,h=>pf d (hp:=setAt hp i z) (hp2:=setAt hp2 i z) (by funext j;rw[dq,dq,h])
theorem an.Ok.sym{P:Program}{f:FuncId}{e:an}(he:e.Ok P f):e.sym.Ok P f:=by
 refine⟨fun args hp Q h β w vals hh eh=>?_⟩;generalize Zt:hp.map (Option.map (Item.db SV.symm))=hp2;have hk:kd hp2=kd hp:=by rw[← Zt];exact xu hp
 have hh2:bb w hp2 β β hp2 w:=Zt▸(hh.relabel Fa).self
 have avJ:bM (LV.den β (kd hp2)) (args.map fun a=>(a.db SV.symm).onL Bp) vals:=by
  rw[hk];exact eh.AK fun a b h=>LV.uy (fun _ _=>Qj) (Fa.lv h)
 have hto:∀ (j:Nat) (x:Item),hp[j]? =some (some x)→∃y,hp2[j]? =some (some y)∧(y=x∨y=x.db SV.symm):=by
  intro j x hj;refine⟨x.db SV.symm,?_,.inr rfl⟩;rw[← Zt,List.getElem?_map,hj];rfl
 have hof:∀ (j:Nat) (y:Item),hp2[j]? =some (some y)→∃x,hp[j]? =some (some x)∧y=x.db SV.symm:=by
  intro j y hj;rw[← Zt]at hj;exact Bl hj
 have eR:(e.run (args.map fun a=>(a.db SV.symm).onL Bp) hp2).holds Q:=Zt▸h;refine(he.calls _ _ Q eR β w vals hh2 avJ).mono ?_
 rintro en w' ⟨val,β',r,dB,rfl,⟨d,hq,rfl⟩,hd,h'⟩
 have hk2:kd (aJ d hp2)=kd (aJ d hp):=pf d hk;refine⟨val,β',r,aJ d hp,rfl,⟨d,hq,rfl⟩,by rw[← hk2];exact hd,?_⟩
 have iO:∀ {x y:Item} {i b:Nat},(y=x∨y=x.db SV.symm)→(cd β' y i b↔cd β' x i b):=by
  rintro x y i b (rfl|rfl)
  ·exact Iff.rfl
  ·exact cd.db rfl rfl
 refine⟨fun j x hj=>?_,fun i j x y b hi hj h1 h2=>?_,?_,fun i x b hi ho=>?_,h'.os,h'.output,h'.size,fun b hb sC=>?_,fun pm v t l hr=>?_,h'.from_⟩
 ·obtain⟨y,h1,h2⟩:=jI d hto hj;rw[← hk2];have:=h'.items j y h1;rcases h2 with rfl|rfl
  ·exact this
  ·exact Zv this
 ·obtain⟨x',a1,a2⟩:=jI d hto hi;obtain⟨y',b1,b2⟩:=jI d hto hj;exact h'.inj i j x' y' b a1 b1 ((iO a2).2 h1) ((iO b2).2 h2)
 ·rw[← hk,← hk2];exact h'.first
 ·obtain⟨x',a1,a2⟩:=jI d hto hi;rcases h'.own i x' b a1 ((iO a2).2 ho)with k|⟨y,k1,k2⟩
  ·exact .inl k
  ·obtain⟨x0,k3,rfl⟩:=hof i y k1;exact .inr ⟨x0,k3,(cd.db rfl rfl).1 k2⟩
 ·refine h'.al b hb fun⟨j,y,h1,h2⟩=>sC ?_;obtain⟨x0,k3,rfl⟩:=hof j y h1;exact⟨j,x0,k3,(cd.db rfl rfl).1 h2⟩
 ·obtain⟨h1,h2⟩:=h'.reads pm v t l hr;refine⟨h1,fun b hb=>⟨(h2 b hb).1,fun⟨j,x,hj,ho⟩=>(h2 b hb).2 ?_⟩⟩;obtain⟨y,k1,k2⟩:=jI d hto hj;exact⟨j,y,k1,(iO k2).2 ho⟩
structure aM (T X:Type) where
 rd:T→Option X
 wr:X→T
 ok:∀ {t x},rd t=some x→t=wr x
def aM.kE{T X Y:Type}(c:aM T X)(f:X→Y)(g:Y→X)(h:∀x,g (f x)=x):aM T Y where
 rd t:=(c.rd t).map f
 wr y:=c.wr (g y)
 ok:=by
  intro t y hy;obtain⟨x,hx,rfl⟩:=map_some hy;rw[h];exact c.ok hx
def aA(k:IntKind):aM SV Int where
 rd s:=match s with
  | .int k' (.sym n)=>if k'=k then some n else none
  |_=>none
 wr n:=.int k (.sym n)
 ok:=by
  intro s x h
  split at h
  ·split at h
   ·rename_i e;subst e;cases h;rfl
   ·cases h
  ·cases h
def yX:aM SV Bool where
 rd s:=match s with
  | .bool (.sym b)=>some b
  |_=>none
 wr b:=.bool (.sym b)
 ok:=by
  intro s x h
  split at h
  ·cases h;rfl
  ·cases h
def fh(pm nn:Bool)(t:Ty):aM SV (List t.D) where
 rd s:=match s with
  | .rd lW nn' t' l=>if h:t'=t then(if lW=pm∧nn'=nn then some (h▸l)else none)else none
  |_=>none
 wr l:=.rd pm nn t l
 ok:=by
  intro s x h
  split at h
  ·split at h
   ·rename_i e;subst e
    split at h
    ·rename_i e;obtain⟨rfl,rfl⟩:=e;cases h;rfl
    ·cases h
   ·cases h
  ·cases h
def aom:aM SV Unit where
 rd s:=match s with
  | .iM (.slice none 0 0)=>some ()
  |_=>none
 wr _:=.iM (.slice none 0 0)
 ok:=by
  intro s x h
  split at h
  ·rfl
  ·cases h
def aC(b o:Nat):aM SV Unit where
 rd s:=match s with
  | .ptr b' o'=>if b'=b∧o'=o then some ()else none
  |_=>none
 wr _:=.ptr b o
 ok:=by
  intro s x h
  split at h
  ·split at h
   ·rename_i e;obtain⟨rfl,rfl⟩:=e;rfl
   ·cases h
  ·cases h
def ke(i v:Nat):aM SV Unit where
 rd s:=match s with
  | .sl b' o'=>if b'=i∧o'=v then some ()else none
  |_=>none
 wr _:=.sl i v
 ok:=by
  intro s x h
  split at h
  ·split at h
   ·rename_i e;obtain⟨rfl,rfl⟩:=e;rfl
   ·cases h
  ·cases h
def so(t:Ty)(n:Nat):aM SV (List t.D) where
 rd s:=match s with
  | .arr t' n' l=>if h:t'=t then(if n'=n then some (h▸l)else none)else none
  |_=>none
 wr l:=.arr t n l
 ok:=by
  intro s x h
  split at h
  ·split at h
   ·rename_i e;subst e
    split at h
    ·rename_i e;subst e;cases h;rfl
    ·cases h
   ·cases h
  ·cases h
noncomputable section
variable {T X Y Z:Type}
def ag:aM (List T) Unit where
 rd l:=match l with
  | []=>some ()
  |_::_=>none
 wr _:= []
 ok:=by
  intro s x h
  split at h
  ·rfl
  ·cases h
def ae(a:aM T X)(r:aM (List T) Y):aM (List T) (X×Y) where
 rd l:=match l with
  | []=>none
  |x::l=>match a.rd x,r.rd l with
   |some x,some y=>some (x,y)
   |_,_=>none
 wr p:=a.wr p.1::r.wr p.2
 ok:=by
  intro s x h
  split at h
  ·cases h
  ·split at h
   ·rename_i h1 h2;cases h;rw[a.ok h1,r.ok h2]
   ·cases h
def ai(a:aM T Unit)(r:aM (List T) Y):aM (List T) Y where
 rd l:=match l with
  | []=>none
  |x::l=>match a.rd x,r.rd l with
   |some _,some y=>some y
   |_,_=>none
 wr p:=a.wr ()::r.wr p
 ok:=by
  intro s x h
  split at h
  ·cases h
  ·split at h
   ·rename_i h1 h2;cases h;rw[a.ok h1,r.ok h2]
   ·cases h
def aeQ(a:aM T Unit)(r:aM (List T) Y):Nat→aM (List T) Y
 |0=>r
 |n+1=>ai a (aeQ a r n)
end
def VW(k:IntKind):List SV→Option (List Int)
 | []=>some []
 | .int k' (.sym n)::l=>if k'=k then(VW k l).map (n:: ·)else none
 |_::_=>none
theorem Lm{k:IntKind}:∀ {l:List SV} {m:List Int},VW k l=some m→l=m.map fun n=>.int k (.sym n)
 | [],m,h=>by cases h;rfl
 |s::l,m,h=>by
  unfold VW at h
  split at h
  ·rename_i e;cases e
  ·rename_i e;injection e with e1 e2;subst e1 e2
   split at h
   ·rename_i e;subst e;obtain⟨m',h1,rfl⟩:=map_some h;rw[Lm h1];rfl
   ·cases h
  ·cases h
def aAm(k:IntKind)(n:Nat):aM (List SV) (List Int) where
 rd l:=match VW k l with
  |some m=>if l.length=n then some m else none
  |none=>none
 wr l:=(List.range n).map fun i=>.int k (.sym (l.getD i 0))
 ok:=by
  intro s x h
  split at h
  ·rename_i m hm
   split at h
   ·rename_i hn
    cases h
    have:=Lm hm;subst this;simp only[List.length_map]at hn;subst hn
    apply List.ext_getElem?
    intro i;simp only[List.getElem?_map];rcases Nat.lt_or_ge i x.length with h1|h1
    ·rw[List.getElem?_range h1];simp[List.getD_eq_getElem?_getD,List.getElem?_eq_getElem h1]
    ·rw[List.getElem?_eq_none h1,List.getElem?_eq_none (by simpa using h1)];rfl
   ·cases h
  ·cases h
noncomputable section
variable {X Y:Type}
def ah(s:aM SV X):aM LV X where
 rd x:=match x with
  | .one (.sc x)=>s.rd x
  |_=>none
 wr x:=.one (.sc (s.wr x))
 ok:=by
  intro x v h
  split at h
  ·rw[s.ok h]
  ·cases h
def zh(r:aM (List SV) X):aM LV X where
 rd x:=match x with
  | .one (.agg x)=>r.rd x
  |_=>none
 wr x:=.one (.agg (r.wr x))
 ok:=by
  intro x v h
  split at h
  ·rw[r.ok h]
  ·cases h
def aAn:aM LV Unit where
 rd x:=match x with
  | .bd=>some ()
  |_=>none
 wr _:=.bd
 ok:=by
  intro x v h
  split at h
  ·rfl
  ·cases h
def dH(e:TypeId)(r:aM (List SV) X):aM (Option Item) X where
 rd x:=match x with
  |some (.aW cells e')=>if e'=e then r.rd cells else none
  |_=>none
 wr x:=some (.aW (r.wr x) e)
 ok:=by
  intro x v h
  split at h
  ·split at h
   ·rename_i e;subst e;rw[r.ok h]
   ·cases h
  ·cases h
def bS(ver:Nat)(t:Ty):aM (Option Item) (List t.D) where
 rd x:=match x with
  |some (.own ver' t' l)=>if h:t'=t then(if ver'=ver then some (h▸l)else none)else none
  |_=>none
 wr l:=some (.own ver t l)
 ok:=by
  intro x v h
  split at h
  ·split at h
   ·rename_i e;subst e
    split at h
    ·rename_i e;subst e;cases h;rfl
    ·cases h
   ·cases h
  ·cases h
def aS(a:aM (List LV) X)(b:aM Hp Y):aM St (X×Y) where
 rd s:=match a.rd s.fr,b.rd s.hp with
  |some x,some y=>some (x,y)
  |_,_=>none
 wr p:=⟨a.wr p.1,b.wr p.2⟩
 ok:=by
  intro s x h
  split at h
  ·rename_i h1 h2
   cases h
   obtain⟨fr,hp⟩:=s;have e1:=a.ok h1;have e2:=b.ok h2;simp only at e1 e2;subst e1 e2;rfl
  ·cases h
end
abbrev jk(n:Nat){Y:Type}(r:aM (List LV) Y):aM (List LV) Y:=aeQ aAn r n
theorem bM.mid{α β:Type}{R:α→β→Prop}:∀ {x:List α} {a:α} {y:List α} {vs:List β},bM R (x++a::y) vs→∃u v w,vs=u++v::w∧bM R x u∧R a v∧bM R y w
 | [],a,y,_,h=>by
  cases h with
  |cons h t=>exact⟨[],_,_,rfl,.nil,h,t⟩
 |b::x,a,y,_,h=>by
  cases h with
  |cons h t=>
   obtain⟨u,v,w,rfl,h1,h2,h3⟩:=bM.mid t;exact⟨_::u,v,w,rfl,.cons h h1,h2,h3⟩
theorem iQ.aon{P:Program}{f:FuncId}{x y:List LV}{pm:Bool}{t:Ty}{l:List t.D}{hp:Hp}{R:LV→Hp→Prop}(h1:l= []→iQ P f (x++ .one (.sc (.iM (.slice none 0 0)))::y) hp R)
  (h2:iQ P f (x++ .one (.sc (.rd pm true t l))::y) hp R):iQ P f (x++ .one (.sc (.rd pm false t l))::y) hp R:=by
 intro β w vals hh eh;obtain⟨u,v,w',rfl,a1,a2,a3⟩:=eh.mid;obtain⟨b1,_,b3⟩:=(a2:SV.den β (kd hp) (.rd pm false t l) v);obtain⟨a,n,c,rfl,hn,hc,hz,_⟩:=(hh.au6 b3).1
 cases a with
 |none=>
  have hc0:=hz rfl;subst hc0;have Ep:n=0:=by omega
  subst Ep;exact h1 (List.eq_nil_of_length_eq_zero hn.symm) β w _ hh (a1.append (.cons ⟨b1,rfl⟩ a3))
 |some a=>exact h2 β w _ hh (a1.append (.cons ⟨b1,fun _=>by simp[notNil],b3⟩ a3))
def VX{X:Type}(C:aM St X)(m:w8)(ks:List Wk)(F:X→aK)(st:St):aK:=match sF m ks st with
 |some rq=>match C.rd rq with
  |some x=>F x
  |none=>.fail
 |none=>.fail
theorem Ln{P:Program}{hp:Hp}{c:Code}{X:Type}{C:aM St X}{m:w8}(hm:m.Ok hp){ks:List Wk}{F:X→aK}(h:∀x,Ex P hp c (C.wr x) (F x)):∀st,Ex P hp c st (VX C m ks F st):=by
 intro st;unfold VX
 split
 ·rename_i rq hk
  split
  ·rename_i x hx;exact Ex.pre hm ks hk (by rw[C.ok hx];exact h x)
  ·exact fun _ _ _ _ hs=>hs.elim
 ·exact fun _ _ _ _ hs=>hs.elim
abbrev dc{X:Type}(C:aM St X)(m:Nat)(ks:List Wk)(F:X→aK)(st:St):aK:=VX C ⟨m,fun _=>false⟩ ks F st
theorem bD{P:Program}{hp:Hp}{c:Code}{X:Type}{C:aM St X}{ks:List Wk}{F:X→aK}(h:∀x,Ex P hp c (C.wr x) (F x)):∀st,Ex P hp c st (dc C hp.length ks F st):=Ln (w8.aAk hp) h
abbrev bZ{X:Type}(C:aM St X)(hp:Hp)(ks:List Wk)(F:X→aK)(st:St):aK:=VX C (.of hp) ks F st
theorem bP{P:Program}{hp:Hp}{c:Code}{X:Type}{C:aM St X}{ks:List Wk}{F:X→aK}(h:∀x,Ex P hp c (C.wr x) (F x)):∀st,Ex P hp c st (bZ C hp ks F st):=Ln (w8.aN hp) h
theorem yY{P:Program}(lX:P.follows .mixedOrders=true){tab:List (FuncId×an)}(sn:∀p∈tab,p.2.Ok P p.1){LT:dG}{fn:Func}{id:Nat}{hp:Hp}{ws:Exit→List Wk}(hL:aH P hp LT (aO fn id))
  {X:Type} (μ:X→Nat) (S:X→St) (I:X→Prop) (F:X→aK) {T:X→aK} (hT:∀x,I x→cO P tab LT fn id hp ws (S x)=T x)
  (hr:∀x R,I x→(F x).sat R→(T x).sat fun e s=>(e= .normal∧∃y,s=S y∧I y∧μ y<μ x∧(F y).sat R)∨(e≠ .normal∧R e s)) (x:X) (hx:I x):Ex P hp (.loop (aO fn id)) (S x) (F x):=
 Ex.dc μ S I T F (fun x hx=>hT x hx▸VU lX sn hL) hr hx
theorem ax{P:Program}:∀p∈([]:List (FuncId×an)),p.2.Ok P p.1:=fun _ h=>by cases h
theorem aj{P:Program}{f:FuncId}{e:an}{l:List (FuncId×an)}(h:e.Ok P f)(hl:∀p∈l,p.2.Ok P p.1):∀p∈(f,e)::l,p.2.Ok P p.1:=fun p hp=>by
 rcases List.mem_cons.1 hp with rfl|hp
 ·exact h
 ·exact hl p hp
theorem jt{P:Program}{hp:Hp}{fn:Func}:∀p∈([]:dG),ou (gI (aF fn) p.1)=true∧∀st,Ex P hp (.loop (aO fn p.1)) st (p.2 st):=fun _ h=>by cases h
theorem js{P:Program}{hp:Hp}{fn:Func}{i:Nat}{f:St→aK}{l:dG}(h1:ou (gI (aF fn) i)=true)(h2:∀st,Ex P hp (.loop (aO fn i)) st (f st))
  (hl:∀p∈l,ou (gI (aF fn) p.1)=true∧∀st,Ex P hp (.loop (aO fn p.1)) st (p.2 st)):∀p∈(i,f)::l,ou (gI (aF fn) p.1)=true∧∀st,Ex P hp (.loop (aO fn p.1)) st (p.2 st):=fun p hp=>by
 rcases List.mem_cons.1 hp with rfl|hp
 ·exact⟨h1,h2⟩
 ·exact hl p hp
def an.of{X Y:Type}(tys:List (Option Ty))(A:aM (List LV) X)(H:aM Hp Y)(out:X→Y→Out):an:=⟨tys,fun args hp=>match A.rd args,H.rd hp with
 |some x,some y=>out x y
 |_,_=>.fail⟩
theorem an.aN{P:Program}{f:FuncId}(he:xn P f){X Y:Type}{tys:List (Option Ty)}{A:aM (List LV) X}{H:aM Hp Y}{out:X→Y→Out}
  (h:∀x y Q,(out x y).holds Q→iQ P f (A.wr x) (H.wr y) fun v dB=>∃d,Q v d∧dB=aJ d (H.wr y)):(an.of tys A H out).Ok P f:=by
 refine⟨fun args hp Q hq=>?_⟩;simp only[an.of]at hq
 split at hq
 ·rename_i x y hx hy;rw[A.ok hx,H.ok hy];exact(h x y Q hq).done he
 ·exact hq.elim
def an.or(e e':an):an:=⟨e.tys,fun args hp=>match e.run args hp with
 | .fail=>e'.run args hp
 |o=>o⟩
theorem an.Ok.or{P:Program}{f:FuncId}{e e':an}(h:e.Ok P f)(h':e'.Ok P f):(e.or e').Ok P f:=by
 refine⟨fun args hp Q hq=>?_⟩;simp only[an.or]at hq
 split at hq
 ·exact h'.calls args hp Q hq
 ·exact h.calls args hp Q hq
abbrev an.cl{X Y:Type}(tys:List (Option Ty))(A:aM (List LV) X)(H:aM Hp Y)(out:X→Y→Out):an:=(an.of tys A H out).sym
theorem rv{l:List Int}{j:Nat}(h:j<l.length):l.drop j=l.getD j 0::l.drop (j+1):=by
 rw[List.drop_eq_getElem_cons h,List.getD_eq_getElem?_getD,List.getElem?_eq_getElem h];rfl
def By(z:Int):Prop:=0≤z∧z<256
def ay(l:List Int):Prop:=∀z∈l,By z
theorem ay.take{l:List Int}(h:ay l)(n:Nat):ay (l.take n):=fun z hz=>h z (List.mem_of_mem_take hz)
theorem ay.drop{l:List Int}(h:ay l)(n:Nat):ay (l.drop n):=fun z hz=>h z (List.mem_of_mem_drop hz)
theorem ay.append{l m:List Int}(h:ay l)(h':ay m):ay (l++m):=fun z hz=>by
 rcases List.mem_append.1 hz with k|k
 ·exact h z k
 ·exact h' z k
def upto{σ:Type}(f:Nat→σ→σ):Nat→Nat→σ→σ
 |_,0,s=>s
 |k,m+1,s=>upto f (k+1) m (f k s)
theorem Fc{σ:Type}(f:Nat→σ→σ):∀ (m k:Nat) (s:σ),upto f k (m+1) s=f (k+m) (upto f k m s)
 |0,k,s=>rfl
 |m+1,k,s=>by
  show upto f (k+1) (m+1) (f k s)=_;rw[Fc f m (k+1)];show f (k+1+m) (upto f (k+1) m (f k s))=f (k+(m+1)) (upto f (k+1) m (f k s));rw[show k+1+m=k+(m+1)from by omega]
theorem Lo{σ:Type}(f:Nat→σ→σ):∀ (m k j:Nat) (s:σ),upto f k (m+j) s=upto f (k+m) j (upto f k m s)
 |0,k,j,s=>by simp[upto]
 |m+1,k,j,s=>by
  rw[show m+1+j=(m+j)+1 from by omega];show upto f (k+1) (m+j) (f k s)=_;rw[Lo f m (k+1) j,show k+1+m=k+(m+1)from by omega];rfl
theorem uz{σ:Type}{f:Nat→σ→σ}(I:Nat→σ→Prop){n:Nat}(hI:∀k s,k<n→I k s→I (k+1) (f k s)):∀ (m k:Nat) (s:σ),k+m≤n→I k s→I (k+m) (upto f k m s)
 |0,_,_,_,h=>h
 |m+1,k,s,hn,h=>by
  have:=uz I hI m (k+1) (f k s) (by omega) (hI k s (by omega) h);rw[show k+1+m=k+(m+1)from by omega]at this;exact this
theorem Bq{σ:Type}{f g:Nat→σ→σ}(I:Nat→σ→Prop){n:Nat}(hI:∀k s,k<n→I k s→I (k+1) (f k s))(hfg:∀k s,k<n→I k s→f k s=g k s):∀ (m k:Nat) (s:σ),k+m≤n→I k s→upto f k m s=upto g k m s
 |0,_,_,_,_=>rfl
 |m+1,k,s,hn,h=>by
  show upto f (k+1) m (f k s)=upto g (k+1) m (g k s);rw[← hfg k s (by omega) h];exact Bq I hI hfg m (k+1) (f k s) (by omega) (hI k s (by omega) h)
theorem Ff(g:Nat→Int):∀ (m k:Nat) (o:List Int),o.length=k+m→upto (fun k o=>o.set k (g k)) k m o=o.take k++(List.range m).map fun i=>g (k+i)
 |0,k,o,h=>by simp[upto,List.take_of_length_le (show o.length≤k by omega)]
 |m+1,k,o,h=>by
  show upto (fun k o=>o.set k (g k)) (k+1) m (o.set k (g k))=_;rw[Ff g m (k+1) _ (by simp;omega),List.range_succ_eq_map,List.map_cons,List.map_map]
  have e:(o.set k (g k)).take (k+1)=o.take k++ [g k]:=by
   rw[List.take_add_one,List.take_set_of_le (Nat.le_refl _)];simp[show k<o.length by omega]
  rw[e,List.append_assoc]
  congr 1
  simp only[List.singleton_append,Nat.add_zero]
  congr 1
  apply List.map_congr_left
  intro i _;show g (k+1+i)=g (k+(i+1))
  congr 1;omega
theorem jJ(g:Nat→Int){n:Nat}{o:List Int}(h:o.length=n):upto (fun k o=>o.set k (g k)) 0 n o=(List.range n).map g:=by
 rw[Ff g n 0 o (by omega)];simp
theorem Lp{l:List Int}{n:Nat}(h:l.length=n):(List.range n).map (fun i=>l.getD i 0)=l:=by
 subst h
 apply List.ext_getElem?
 intro i;simp only[List.getElem?_map];rcases Nat.lt_or_ge i l.length with h1|h1
 ·rw[List.getElem?_range h1];simp[List.getD_eq_getElem?_getD,List.getElem?_eq_getElem h1]
 ·rw[List.getElem?_eq_none h1,List.getElem?_eq_none (by simpa using h1)];rfl
theorem xx{σ τ:Type}(f:Nat→σ→σ)(g:Nat→τ→τ):∀ (m k:Nat) (s:σ) (t:τ),upto (fun k (p:σ×τ)=>(f k p.1,g k p.2)) k m (s,t)=(upto f k m s,upto g k m t)
 |0,_,_,_=>rfl
 |m+1,k,s,t=>xx f g m (k+1) (f k s) (g k t)
theorem dN{P:Program}(lX:P.follows .mixedOrders=true){tab:List (FuncId×an)}(sn:∀p∈tab,p.2.Ok P p.1){LT:dG}{fn:Func}{id j:Nat}{hp:Hp}{ws:Exit→List Wk}(hL:aH P hp LT (aO fn id))
  {σ:Type} (n:Nat) (S:Nat→σ→St) (X:σ→St) (f:Nat→σ→σ) (I:Nat→σ→Prop)
  (hT:∀k s R,k≤n→I k s→(k<n→R .normal (S (k+1) (f k s)))→(k=n→R (.exit j) (X s))→(cO P tab LT fn id hp ws (S k s)).sat R)
  (hI:∀k s,k<n→I k s→I (k+1) (f k s)) (k:Nat) (s:σ) (hk:k≤n) (h:I k s):Ex P hp (.loop (aO fn id)) (S k s) (.leaf (.exit j) (X (upto f k (n-k) s))):=by
 refine yY (ws:=ws) (T:=fun x=>cO P tab LT fn id hp ws (S x.1 x.2)) lX sn hL (fun x:Nat×σ=>n-x.1) (fun x=>S x.1 x.2) (fun x=>x.1≤n∧I x.1 x.2) (fun x=>.leaf (.exit j) (X (upto f x.1 (n-x.1) x.2))) (fun x _=>rfl) (fun x R hx hs=>?_) (k,s) ⟨hk,h⟩;obtain⟨k,s⟩:=x;obtain⟨hk,hi⟩:=hx;simp only at hk hi hs ⊢;refine hT k s _ hk hi (fun dL=>.inl ⟨rfl,(k+1,f k s),rfl,⟨dL,hI k s dL hi⟩,by simp only;omega,?_⟩) (fun e=>.inr ⟨by simp,?_⟩)
 ·have e:n-k=(n-(k+1))+1:=by omega
  rw[e]at hs;exact hs
 ·subst e;rw[Nat.sub_self]at hs;exact hs
abbrev uA(k:IntKind)(n:Nat):aM LV (List Int):=(zh (ae (so (.int k) n) ag)).kE (fun x=>x.1) (fun l=>(l,())) (fun _=>rfl)
abbrev gL(e:TypeId)(k:IntKind)(n:Nat):aM (Option Item) (List Int):=(dH e (ae (so (.int k) n) ag)).kE (fun x=>x.1) (fun l=>(l,())) (fun _=>rfl)
abbrev aeR(e:TypeId)(k:IntKind)(n:Nat):aM (Option Item) (List Int):=dH e (aAm k n)
end Go.Ev
end
noncomputable section
namespace Go.Proofs.YtnbkagglkajbkaaGreat
open Go Go.Ev Go.Proofs.Tryz
open Go.IntKind (i64 signed u16 u64 wrap)
set_option maxRecDepth 100000
theorem mixed:Tryz.prog.follows .mixedOrders=true:=by kernel_rfl
abbrev prog:Program:=Tryz.prog
abbrev u8:Ty:=.int .u8
abbrev nI(n:Int):LV:=.one (.sc (.int .i64 (.sym n)))
abbrev nU(n:Int):LV:=.one (.sc (.int .u64 (.sym n)))
abbrev nB(b:Bool):LV:=.one (.sc (.bool (.sym b)))
abbrev bA:aM (List LV) (List Int×Unit):=ae (ah (fh false false u8)) ag
abbrev dO(k:IntKind)(n:Nat)(l:List Int):LV:=.one (.agg [.arr (.int k) n l])
abbrev p0:aM LV Unit:=ah (aC 0 0)
def cu(n:Nat)(l:List (Nat×FM)):List FM:=(List.range n).map fun i=>match l.find? (fun p=>p.1==i)with
 |some p=>p.2
 |none=>.drop
def wsE(n:List Wk)(id:Nat)(x:List Wk):Exit→List Wk
 | .normal=>n
 | .exit i=>if i=id then x else []
 |_=> []
end Go.Proofs.YtnbkagglkajbkaaGreat
end
noncomputable section
namespace Go.Ev
open Go
open Go.IntKind (i64 signed u16 u64 wrap)
theorem wrap_u64{n:Int}(h0:0≤n)(h1:n<18446744073709551616):u64.wrap n=n:=by
 simp only[wrap,IntKind.bits,signed];simp;omega
theorem ly(n:Int):u64.wrap n=n%18446744073709551616:=by
 simp only[wrap,IntKind.bits,signed];simp
theorem wrap_u8(n:Int):IntKind.u8.wrap n=n%256:=by
 simp only[wrap,IntKind.bits,signed];simp
theorem wrap_i64{n:Int}(h0: -9223372036854775808≤n)(h1:n<9223372036854775808):i64.wrap n=n:=by
 simp only[wrap,IntKind.bits,signed];simp
 split<;>omega
theorem toNat_ofInt(n:Nat)(x:Int):(BitVec.ofInt n x).toNat=(x%(2 ^ n:Nat)).toNat:=by simp[BitVec.toNat_ofInt]
theorem Br{n m:Nat}(hm:m≤n)(x:Int):(BitVec.ofInt n x&&& BitVec.ofInt n (2 ^ m-1)).toNat=(x%(2 ^ m:Nat)).toNat:=by
 rw[BitVec.toNat_and,toNat_ofInt,toNat_ofInt];have hp:(2:Nat) ^ m≤2 ^ n:=Nat.pow_le_pow_right (by omega) hm;have jB:0<(2:Nat) ^ m:=Nat.two_pow_pos m
 have e:(((2:Int) ^ m-1)%((2 ^ n:Nat):Int)).toNat=2 ^ m-1:=by
  have:((2:Int) ^ m-1)=((2 ^ m-1:Nat):Int):=by
   rw[Int.natCast_sub (by omega)];simp
  rw[this,← Int.natCast_emod,Int.toNat_natCast,Nat.mod_eq_of_lt (by omega)]
 rw[e,Nat.and_two_pow_sub_one_eq_mod]
 have h1:((x%((2 ^ n:Nat):Int)).toNat%2 ^ m:Nat)=(x%((2 ^ m:Nat):Int)).toNat:=by
  have Ep:0≤x%((2 ^ n:Nat):Int):=Int.emod_nonneg _ (by have:=Nat.two_pow_pos n;omega);have GH:0≤x%((2 ^ m:Nat):Int):=Int.emod_nonneg _ (by omega)
  apply Int.ofNat_inj.1
  rw[Int.natCast_emod,Int.toNat_of_nonneg Ep,Int.toNat_of_nonneg GH];refine Int.emod_emod_of_dvd _ ?_;exact Int.natCast_dvd_natCast.2 (Nat.pow_dvd_pow 2 hm)
 exact h1
theorem ry{m:Nat}(hm:m<64)(x y:Int)(hy:y=2 ^ m-1):aI .u64 x y=x%(2 ^ m:Nat):=by
 subst hy;unfold aI;have:=Br (n:=64) (m:=m) (by omega) x;show u64.wrap ((BitVec.ofInt 64 x&&& BitVec.ofInt 64 (2 ^ m-1)).toNat:Int)=_;rw[this];have GH:0≤x%((2 ^ m:Nat):Int):=Int.emod_nonneg _ (by have:=Nat.two_pow_pos m;omega);rw[Int.toNat_of_nonneg GH];have dL:x%((2 ^ m:Nat):Int)<((2 ^ m:Nat):Int):=Int.emod_lt_of_pos _ (by have:=Nat.two_pow_pos m;omega);have hp:(2:Nat) ^ m≤2 ^ 63:=Nat.pow_le_pow_right (by omega) (by omega)
 exact wrap_u64 GH (by have:(2:Nat) ^ 63=9223372036854775808:=by decide
                       omega)
theorem ov{m:Nat}(hm:m<63)(x y:Int)(hy:y=2 ^ m-1):aI .i64 x y=x%(2 ^ m:Nat):=by
 subst hy;unfold aI;have:=Br (n:=64) (m:=m) (by omega) x;show i64.wrap ((BitVec.ofInt 64 x&&& BitVec.ofInt 64 (2 ^ m-1)).toNat:Int)=_;rw[this];have GH:0≤x%((2 ^ m:Nat):Int):=Int.emod_nonneg _ (by have:=Nat.two_pow_pos m;omega);rw[Int.toNat_of_nonneg GH];have dL:x%((2 ^ m:Nat):Int)<((2 ^ m:Nat):Int):=Int.emod_lt_of_pos _ (by have:=Nat.two_pow_pos m;omega);have hp:(2:Nat) ^ m≤2 ^ 62:=Nat.pow_le_pow_right (by omega) (by omega)
 exact wrap_i64 (by omega) (by have:(2:Nat) ^ 62=4611686018427387904:=by decide
                               omega)
theorem sY{m:Nat}(hm:m<8)(x y:Int)(hy:y=2 ^ m-1):aI .u8 x y=x%(2 ^ m:Nat):=by
 subst hy;unfold aI;have:=Br (n:=8) (m:=m) (by omega) x;show IntKind.u8.wrap ((BitVec.ofInt 8 x&&& BitVec.ofInt 8 (2 ^ m-1)).toNat:Int)=_;rw[this];have GH:0≤x%((2 ^ m:Nat):Int):=Int.emod_nonneg _ (by have:=Nat.two_pow_pos m;omega);rw[Int.toNat_of_nonneg GH];have dL:x%((2 ^ m:Nat):Int)<((2 ^ m:Nat):Int):=Int.emod_lt_of_pos _ (by have:=Nat.two_pow_pos m;omega);have hp:(2:Nat) ^ m≤2 ^ 7:=Nat.pow_le_pow_right (by omega) (by omega);rw[wrap_u8];exact Int.emod_eq_of_lt GH (by omega)
theorem c9(k:IntKind)(x:Int)(n:Nat)(hn:n≤k.bits):shr k x n=x/(2 ^ n:Nat):=by
 unfold shr;rw[Int.toNat_natCast,Nat.min_eq_left hn,Int.fdiv_eq_ediv_of_nonneg]
 ·simp
 ·exact Int.le_of_lt (Int.pow_pos (by omega))
theorem gd(k:IntKind)(x:Int)(n:Nat)(hn:n≤k.bits):shl k x n=k.wrap (x*(2 ^ n:Nat)):=by
 unfold shl;rw[Int.toNat_natCast,Nat.min_eq_left hn];simp
theorem Qk{n:Nat}{m:Nat}{x y:Int}(xh:0≤x)(hxn:x<(2 ^ n:Nat))(hx:x%(2 ^ m:Nat)=0)(AX:0≤y)(hy:y<(2 ^ m:Nat))(hyn:y<(2 ^ n:Nat)):
  ((BitVec.ofInt n x|||BitVec.ofInt n y).toNat:Int)=x+y:=by
 rw[BitVec.toNat_or,toNat_ofInt,toNat_ofInt,Int.emod_eq_of_lt xh hxn,Int.emod_eq_of_lt AX hyn];obtain⟨a,rfl⟩:=Int.eq_ofNat_of_zero_le xh;obtain⟨b,rfl⟩:=Int.eq_ofNat_of_zero_le AX;simp only[Int.toNat_natCast]
 have hd:a%2 ^ m=0:=by
  have:=hx;rw[← Int.natCast_emod]at this;omega
 have hb:b<2 ^ m:=by omega
 have e:a=2 ^ m*(a/2 ^ m):=(Nat.mul_div_cancel' (Nat.dvd_of_mod_eq_zero hd)).symm;have:=Nat.two_pow_add_eq_or_of_lt hb (a/2 ^ m);rw[← e]at this;rw[← this];simp
theorem ow{m:Nat}{x y:Int}(xh:0≤x)(hx:x%(2 ^ m:Nat)=0)(AX:0≤y)(hy:y<(2 ^ m:Nat))(h64:x+y<18446744073709551616):bn .u64 x y=x+y:=by
 unfold bn;have e:(2 ^ 64:Nat)=18446744073709551616:=by decide
 have h:=Qk (n:=64) xh (by omega) hx AX hy (by omega);show u64.wrap ((BitVec.ofInt 64 x|||BitVec.ofInt 64 y).toNat:Int)=_;rw[h];exact wrap_u64 (by omega) h64
theorem asx{m:Nat}{x y:Int}(xh:0≤x)(hx:x%(2 ^ m:Nat)=0)(AX:0≤y)(hy:y<(2 ^ m:Nat))(h8:x+y<256):bn .u8 x y=x+y:=by
 unfold bn;have h:=Qk (n:=8) xh (by omega) hx AX hy (by omega);show IntKind.u8.wrap ((BitVec.ofInt 8 x|||BitVec.ofInt 8 y).toNat:Int)=_;rw[h,wrap_u8];omega
theorem gY(k:IntKind)(x y:Int):bn k x y=bn k y x:=by
 unfold bn;rw[BitVec.or_comm]
theorem ao{n:Int}(h1: -9223372036854775808≤n)(h2:n≤9223372036854775807):i64.wrap n=n:=by
 rw[IntKind.wrap_i64];omega
theorem aY{l:List Int}{n:Nat}(h:l.length=n):List.take n (List.drop 0 l)=l:=by rw[List.drop_zero,List.take_of_length_le (by omega)]
theorem fP(k m:Nat)(hk:k<4611686018427387904):i64.wrap ((k:Int).tdiv (m:Int))=((k/m:Nat):Int):=by
 rw[Int.tdiv_eq_ediv_of_nonneg (by omega),← Int.natCast_ediv];have:k/m≤k:=Nat.div_le_self _ _;generalize k/m=q at*;exact ao (by omega) (by omega)
theorem kf(k j:Nat)(h:j≤k)(hk:k<4611686018427387904):i64.wrap ((k:Int)-(j:Int))=((k-j:Nat):Int):=by rw[ao (by omega) (by omega)];omega
theorem cJ(k:Nat)(hk:k<4611686018427387904):i64.wrap ((k:Int)+1)=((k+1:Nat):Int):=by rw[ao (by omega) (by omega)];rfl
end Go.Ev
end
noncomputable section
namespace Go.Proofs.YtnbkagglkajbkaaGreat
open Go Go.Ev Go.ChangeShapes Go.WideShapes Go.ChangeAt Go.RowKit Go.Proofs.Tryz
open Go.IntKind (i64 signed u16 u64 wrap)
set_option maxRecDepth 100000
theorem aeS:ownKnob Tryz.prog.godebug=none:=by kernel_rfl
theorem aeT:laidOutB Tryz.prog=true:=by kernel_rfl
theorem Ql:mapsRowed Tryz.prog=true:=by kernel_rfl
theorem Lq:∀t e,t<Tryz.prog.types.size→Tryz.prog.underlying t=some (.slice e)→0<Tryz.prog.cellsOf e:=slices_full_of Tryz.prog (by kernel_rfl)
structure Kept (W W':World):Prop where
 os:W'.os=W.os
 output:W'.output=W.output
 size:W.heap.size≤W'.heap.size
 block:∀b,b<W.heap.size→W'.heap[b]? =W.heap[b]?
theorem Kept.same{W W':World}(h:Kept W W'){p:MemPlace}(hp:p.block<W.heap.size):W.sameAt W' p:=by
 cases p with
 |cell b o=>exact World.cell?_of_block (w:=W) (h.block b hp)
 |map b=>exact h.block b hp
theorem Kept.but{W W':World}(h:Kept W W')(may:MemPlace→Prop):W.keptBut W' may:=by
 refine⟨h.os,h.output,fun i hi=>?_⟩;rw[h.block i hi]
 split<;>simp_all
theorem uB{H:Type}{enc:TypeId×Value→H}{W W':World}(hk:Kept W W'):∀ {ts:List TypeId} {vs:List Value} {ds:List (DataW H)} {ps:List MemPlace},(∀t∈ts,t<Tryz.prog.types.size)→
  DataW.TrodAll enc Tryz.prog W 0 (fun _=>true) true ts vs ds ps→(∀p∈ps,p.block<W.heap.size)→DataW.TrodAll enc Tryz.prog W' 0 (fun b=>decide (b<W.heap.size)) true ts vs ds ps
 | [],[],[],_,_,h,_=>h
 |t::_,_::_,_::_,_,hT,⟨p,q,⟨n,h1⟩,h2,e⟩,hs=>by
  have hp:∀x∈p,x.block<W.heap.size:=fun x hx=>hs x (by rw[e];exact List.mem_append_left _ hx);have hz:∀ {t e:TypeId},t<Tryz.prog.types.size→Tryz.prog.underlying t=some (.slice e)→0<Tryz.prog.cellsOf e:=fun {t e} a b=>Lq t e a b;refine⟨p,q,⟨n,?_⟩,uB hk (fun t ht=>hT t (List.mem_cons.2 (Or.inr ht))) h2 (fun x hx=>hs x (by rw[e];exact List.mem_append_right _ hx)),e⟩;exact DataW.trod_stays (T:=fun t=>t<Tryz.prog.types.size) (kids_rows aeT Ql) hz (fun h=>by cases h) (hT t (List.mem_cons.2 (Or.inl rfl))) h1 (fun x hx=>hk.same (hp x hx)) (fun x hx=>by simpa using hp x hx)
 | [],_::_,_,_,_,h,_=>h.elim
 | [],[],_::_,_,_,h,_=>h.elim
 |_::_,[],_,_,_,h,_=>h.elim
 |_::_,_::_,[],_,_,h,_=>h.elim
theorem aeU{H:Type}{enc:TypeId×Value→H}{fn:Func}{s:ChangeSpec}{W W':World}{args:Array Value}{ds gs:List (DataW H)}{before:List MemPlace}{tb:TypeId}{apart:Bool}
  (hr:fn.resultTypes= #[tb]) (hb:Tryz.prog.underlying tb=some .bool) (hT:∀t∈fn.params.toList,t<Tryz.prog.types.size)
  (hW:DataW.Whole enc Tryz.prog fn.params.toList s.vars apart W args.toList ds gs before) (hv:s.vars= []) (hs:s.fn H ds= {results:= [.lit (.bool true)],args:=ds})
  (hk:Kept W W'):s.post enc Tryz.prog fn apart true false false W args (.bool true) W':=by
 have dL:=hW.lt;have hW':=hW;obtain⟨p,q,h1,h2,h3,h4,h5⟩:=hW;rw[hv]at h2;obtain⟨rfl,rfl⟩:=trodVars_none h2;rw[List.append_nil]at h3;subst h3;have e:s.fn H (ds++ [])= {results:= [.lit (.bool true)],args:=ds}:=by rw[List.append_nil];exact hs
 refine⟨ds,[],before,[],before,[],hW',?_,?_,?_,hk.but _,fun h=>by cases h⟩
 ·rw[e,hr];exact trodAll_cons_mk (shut_bool hb true) trodAll_mk0
 ·rw[e];exact uB hk hT h1 dL
 ·rw[hv,e];rfl
def VY:Env:=⟨fun _=>0,fun _=>.nilIface,fun _ _ _ _=>False⟩
def Qm(W:World):Env:=⟨fun _=>0,fun _=>.nilIface,fun pm v t l=>pm=false∧0<t.w∧bN VY false W v t l⟩
theorem aeV(W:World):bb W [] (Qm W) (Qm W) [] W:=by
 refine⟨fun i x h=>by simp at h,fun i j x y b h=>by simp at h,bO.refl _ _,fun i x b h=>by simp at h,rfl,rfl,Nat.le_refl _,fun _ _ _=>rfl,fun pm v t l h=>?_,fun pm v t l b h1 h2=>.inr ⟨pm,v,t,l,id,h1,h2⟩⟩;obtain⟨rfl,hw,h⟩:=h;refine⟨h.mono (β':=Qm W) (fun _ _ _ _ (h:False)=>h.elim),fun b hb=>⟨?_,fun⟨i,x,hi,_⟩=>by simp at hi⟩⟩;obtain⟨a,n,c,rfl,hn,hc,_,hr⟩:=h
 cases a with
 |none=>exact hb.elim
 |some a=>
  obtain⟨h0,rfl⟩:=hb;obtain⟨a0,eD,e,h1,h2,h3⟩:=hr h0
  cases e
  refine h3.lt fun e=>?_;have h4:=bm h2;rw[e,← hn]at h4;have:=Nat.mul_pos h0 hw;simp at h4;omega
theorem G3{f:FuncId}{e:an}(aEX:xn Tryz.prog f)(he:e.Ok Tryz.prog f){args:List LV}{q:Option Prop}(eR:e.run args []= .leaf q (nB true) [])(hq:fo q)(W:World){vals:Array Value}(hd:bM (LV.den (Qm W) (kd [])) args vals.toList):
  Calls Tryz.prog f vals W fun e W'=>e= .returned (.bool true)∧Kept W W':=by
 have key:=he.calls args [] (fun v d=>v=nB true∧d= []) (by rw[eR];exact⟨hq,rfl,rfl⟩) (Qm W) W vals.toList (aeV W) hd;rw[show vals.toList.toArray=vals from by simp]at key;have key:=key.resolve_left (by rintro⟨val,h1,_⟩;rw[aEX]at h1;cases h1) |>.2;refine key.mono ?_
 rintro e W' ⟨val,β',r,dB,rfl,⟨d,⟨rfl,rfl⟩,rfl⟩,h3,h4⟩
 have:val= .bool true:=h3;subst this;exact⟨rfl,h4.os,h4.output,h4.size,fun b hb=>h4.al b hb fun⟨i,x,hi,_⟩=>by simp at hi⟩
theorem Zw{fn:Func}(h:(fn.params.toList.all fun t=>decide (t<Tryz.prog.types.size))=true):∀t∈fn.params.toList,t<Tryz.prog.types.size:=fun t ht=>by
 simpa using List.all_eq_true.1 h t ht
inductive Bt where
 |int (k:IntKind)
 |bool
def Bt.fits:Bt→Value→Prop
 | .int k,v=>∃z,v= .int k z∧(Lit.int k z).wf=true
 | .bool,v=>∃b,v= .bool b
def Bs(P:Program):Nat→TypeId→Option (List Bt)
 |0,_=>none
 |n+1,t=>match P.underlying t with
  |some .bool=>some [.bool]
  |some (.int k)=>some [.int k]
  |some (.struct fs)=>(fs.toList.foldl (fun acc f=>match acc with
    |some l=>if f.offset=l.length then match Bs P n f.type with
      |some m=>if m.length=P.cellsOf f.type then some (l++m)else none
      |none=>none
     else none
    |none=>none) (some [])).bind fun l=>if l.length=P.cellsOf t then some l else none
  |some (.array k e)=>match Bs P n e with
    |some m=>if m.length=P.cellsOf e∧P.cellsOf t=k*m.length then some ((List.replicate k m).flatten)else none
    |none=>none
  |_=>none
noncomputable section
variable {H:Type} {enc:TypeId×Value→H} {P:Program} {w:World} {base:Nat} {spare:Nat→Bool} {held:Bool}
theorem G4:∀ (n:Nat) {t:TypeId} {ks:List Bt},Bs P n t=some ks→∀ {fuel:Nat} {cs:List Value} {x:DataW H×List MemPlace},DataW.trod enc P w base spare held fuel t cs=some x→bM Bt.fits ks cs
 |0,_,_,h,_,_,_,_=>by cases h
 |n+1,t,ks,h,fuel,cs,x,hx=>by
  simp only[Bs]at h
  cases hu:P.underlying t with
  |none=>rw[hu]at h;cases h
  |some d=>
   rw[hu]at h
   cases d with
   |bool=>
    cases h
    cases fuel with
    |zero=>simp[DataW.trod]at hx
    |succ m=>
     unfold DataW.trod at hx;rw[hu]at hx
     split at hx<;>simp_all
     exact .cons ⟨_,rfl⟩ .nil
   |int k=>
    cases h
    cases fuel with
    |zero=>simp[DataW.trod]at hx
    |succ m=>
     unfold DataW.trod at hx;rw[hu]at hx
     split at hx<;>simp_all
     obtain⟨⟨rfl,hz⟩,_⟩:=hx;exact .cons ⟨_,rfl,hz⟩ .nil
   |struct fs=>
    obtain⟨xs,m,_,_,hl,hlen,hf⟩:=DataW.trod_struct hu hx;obtain⟨l,hl1,hl2⟩:=Option.bind_eq_some_iff.1 h
    split at hl2
    ·rename_i hle
     cases hl2
     have hfs:∀f∈fs.toList,∃y,DataW.trod enc P w base spare held m f.type ((cs.drop f.offset).take (P.cellsOf f.type))=some y:=by
      intro f hfm;obtain⟨i,hi,rfl⟩:=List.getElem_of_mem hfm;have zq:i<fs.size:=(by simpa using hi);have:=hf i fs[i] (by simp[zq]);rw[List.getElem?_eq_getElem (by omega)]at this;exact⟨_,this⟩
     have key:∀ (fl:List Field) (acc l:List Bt),(∀f∈fl,∃y,DataW.trod enc P w base spare held m f.type ((cs.drop f.offset).take (P.cellsOf f.type))=some y)→
       fl.foldl (fun acc f=>match acc with
        |some l=>if f.offset=l.length then match Bs P n f.type with
          |some m=>if m.length=P.cellsOf f.type then some (l++m)else none
          |none=>none
         else none
        |none=>none) (some acc)=some l→bM Bt.fits acc (cs.take acc.length)→bM Bt.fits l (cs.take l.length):=by
      intro fl
      induction fl with
      |nil=>intro acc l _ h1 h2;simp at h1;subst h1;exact h2
      |cons f fl ih=>
       intro acc l hfs h1 h2;simp only[List.foldl_cons]at h1
       have jw:∀fl:List Field,fl.foldl (fun acc f=>match acc with
        |some l=>if f.offset=l.length then match Bs P n f.type with
          |some m=>if m.length=P.cellsOf f.type then some (l++m)else none
          |none=>none
         else none
        |none=>none) (none:Option (List Bt))=none:=by
        intro fl
        induction fl with
        |nil=>rfl
        |cons f fl ih=>exact ih
       split at h1
       ·rename_i ho
        split at h1
        ·rename_i mk hmk
         split at h1
         ·rename_i hmc;obtain⟨y,hy⟩:=hfs f (by simp);have hft:=G4 n hmk hy;rw[ho,← hmc]at hft;refine ih (acc++mk) l (fun f hf=>hfs f (by simp[hf])) h1 ?_;rw[List.length_append,List.take_add];exact h2.append hft
         ·rw[jw]at h1;cases h1
        ·rw[jw]at h1;cases h1
       ·rw[jw]at h1;cases h1
     have:=key fs.toList [] ks hfs hl1 .nil;rwa [List.take_of_length_le (by omega)]at this
    ·cases hl2
   |array k e=>
    simp only at h
    split at h
    ·rename_i mk hmk
     split at h
     ·rename_i hc
      cases h
      obtain⟨xs,m,_,_,hl,hlen,hf⟩:=DataW.trod_array hu hx
      have Zc:∀i,i<k→bM Bt.fits mk ((cs.drop (i*mk.length)).take mk.length):=by
       intro i hi;have:=hf i hi;rw[List.getElem?_eq_getElem (by omega)]at this;have h2:=G4 n hmk this;rwa [← hc.1]at h2
      have key:∀ (j:Nat),j≤k→bM Bt.fits (List.replicate j mk).flatten (cs.take (j*mk.length)):=by
       intro j
       induction j with
       |zero=>intro _;simp;exact .nil
       |succ j ih=>
        intro hj;rw[List.replicate_succ',List.flatten_append,Nat.succ_mul,List.take_add];have:=Zc j (by omega);exact(ih (by omega)).append (by simpa using this)
      have:=key k (Nat.le_refl _);rwa [List.take_of_length_le (by omega)]at this
     ·cases h
    ·cases h
   |_=>cases h
end
theorem Lr{k:IntKind}{β:Env}{pm:Bool}:∀ (n:Nat) {ks:List Bt} {cs:List Value},bM Bt.fits (List.replicate n (.int k)++ks) cs→
  ∃ (l:List Int) (us rest:List Value),cs=us++rest∧l.length=n∧us=l.map (.int k)∧aU ((Ty.int k).has β pm) l us∧(∀z∈l,(Lit.int k z).wf=true)∧bM Bt.fits ks rest
 |0,_,cs,h=>⟨[],[],cs,rfl,rfl,rfl,.nil,(fun _ h=>by cases h),h⟩
 |n+1,ks,cs,h=>by
  rw[List.replicate_succ,List.cons_append]at h
  cases h with
  |cons h1 h2=>
   obtain⟨z,rfl,hz⟩:=h1;obtain⟨l,us,rest,rfl,h3,h4,h5,h6,h7⟩:=Lr n h2
   exact⟨z::l,.int k z::us,rest,rfl,by simp[h3],by rw[h4];rfl,aU.cons (vs:= [.int k z]) rfl h5,(fun y hy=>by
    rcases List.mem_cons.1 hy with rfl|hy
    ·exact hz
    ·exact h6 y hy),h7⟩
theorem wf_u8{z:Int}(h:(Lit.int .u8 z).wf=true):By z:=by
 have:=bounds_u8 h;unfold By;omega
theorem aeW:Tryz.prog.cellsOf 5=1:=by kernel_rfl
theorem Qn{H:Type}{enc:TypeId×Value→H}{W:World}{base:Nat}{v:Value}{d:DataW H}{p:List MemPlace}
  (ns:Value.okWide Tryz.prog W .any base 27 v) (h:DataW.Trod enc Tryz.prog W 0 (fun _=>true) true 27 v d p):
  ∃l:List Int,ay l∧(LV.one (.sc (.rd false false u8 l))).den (Qm W) (kd []) v:=by
 obtain⟨fuel,h⟩:=h
 have aeX:v.cells.toList= [v]:=by
  unfold Value.okWide at ns;rw[underlying27]at ns
  cases v<;>first|rfl|(exfalso;simp[Cell.okWide,Cell.ok,underlying27]at ns)
 rw[aeX]at h;rcases open_ints underlying27 underlying5 aeW h with⟨e,_⟩|⟨a,len,cap,zs,e,_,hlc,_,hzl,_,Ls,hwf⟩
 ·obtain rfl:v= .slice none 0 0:=by simpa using e
  exact⟨[],fun z hz=>(by simp at hz),rfl,(fun e=>by cases e),.inr (.inr ⟨rfl,rfl⟩)⟩
 ·obtain rfl:v= .slice (some a) len cap:=by simpa using e
  simp only[if_true]at hzl;refine⟨zs.take len,fun z hz=>wf_u8 (hwf z (List.mem_of_mem_take hz)),rfl,(fun e=>by cases e),.inr (.inl ⟨rfl,rfl,by decide,?_⟩)⟩;refine⟨some a,len,cap,rfl,by simp;omega,hlc,(fun e=>by cases e),fun h0=>?_⟩;have PY:=Ls 0 (by omega)
  have hsp:a.spot=none:=by
   have:a.add 0=a:=(by cases a;simp[Addr.add]);rw[this]at PY;exact World.cell?_spot PY
  refine⟨a,(zs.take len).map (.int .u8),rfl,hsp,?_,fun i u hu=>?_⟩
  ·generalize zs.take len=l
   induction l with
   |nil=>exact .nil
   |cons x l ih=>exact aU.cons (vs:= [.int .u8 x]) rfl ih
  ·rw[List.getElem?_map]at hu;obtain⟨z,hz,rfl⟩:=map_some hu
   have hil:i<len∧i<zs.length:=by
    have:=(List.getElem?_eq_some_iff.1 hz).1;simp at this;omega
   rw[Ls i hil.2];rw[List.getElem?_take,if_pos hil.1]at hz;rw[List.getD_eq_getElem?_getD,hz];rfl
end Go.Proofs.YtnbkagglkajbkaaGreat
end
