/- What the laws lean on, part 6: a reader of code, plain facts, and what each function gives; no conditions. -/
import Derived.KernelRfl
import Derived.Test.YtliehnnljilacaaGreatProg
import Derived.Eval
import Derived.Test.YtliehnnljilacaaGreatRows
import Derived.WalkKit
import Derived.ProofKit
import Derived.OpenShut
import Derived.JoinedCond
import Derived.JoinedOf
import Derived.Handed
import Derived.ReadAgain
import Derived.ChangeStays
import Derived.Deep.Slices
import Derived.Test.YtliehnnljilacaaGreatA5
noncomputable section
open Go.IntKind (i64 signed u16 u32 u64 wrap wrap_u32)
set_option linter.unusedVariables false
set_option linter.unusedSimpArgs false
namespace Go.Ev
open Go
structure ace (W:World) (bP:Hp) (β₀ β:Env) (fr:List LV) (hp:Hp) (vals:List Value) (w:World):Prop where
 fr:dC (LV.den β (kd hp)) fr vals
 heap:cN W bP β₀ β hp w
noncomputable section
variable {W:World} {bP:Hp} {β₀ β:Env} {hp:Hp} {w:World}
theorem cN.Dk(h:cN W bP β₀ β hp w){β':Env}{dZ:Hp}(g:Nat→Nat)(mN:β'.rd=β.rd)(Sl:dx β₀ β' (kd bP) (kd dZ)) (src:∀ (j:Nat) (y:bE),dZ[j]? =some (some y)→∃x,hp[g j]? =some (some x)∧(∀b,dM β' y j b→dM β x (g j) b)∧gb β' (kd dZ) w j y∧(g j=j∨kd bP (g j)=none)) (hg:∀ (j k:Nat) (y z:bE),dZ[j]? =some (some y)→dZ[k]? =some (some z)→g j=g k→j=k):cN W bP β₀ β' dZ w:=by
 have lk:∀b,fb dZ β' b→fb hp β b:=fun b ⟨j,y,hj,ho⟩=>by
  obtain⟨x,h1,h2,_⟩:=src j y hj;exact⟨g j,x,h1,h2 b ho⟩
 refine⟨fun j y hj=>?_,fun j k y z b hj hk h1 h2=>?_,Sl,fun j y b hj ho=>?_,h.os,h.output,h.size,h.bV,fun pm v t l hr=>?_,fun pm v t l b hr hb=>?_⟩
 ·obtain⟨x,_,_,h3,_⟩:=src j y hj;exact h3
 ·obtain⟨x,a1,a2,_⟩:=src j y hj;obtain⟨x',b1,b2,_⟩:=src k z hk;exact hg j k y z hj hk (h.inj _ _ _ _ b a1 b1 (a2 b h1) (b2 b h2))
 ·obtain⟨x,a1,a2,_,a4⟩:=src j y hj;rcases h.own _ _ b a1 (a2 b ho)with k|⟨z,k1,k2⟩
  ·exact .inl k
  ·rcases a4 with e|e
   ·rw[e]at k1 k2;exact .inr ⟨z,k1,k2⟩
   ·rw[fM k1]at e;cases e
 ·rw[mN]at hr;obtain⟨h1,h2⟩:=h.reads pm v t l hr;exact⟨h1.mono fun _ _ _ _ h=>by rw[mN];exact h,fun b hb=>⟨(h2 b hb).1,fun k=>(h2 b hb).2 (lk b k)⟩⟩
 ·rw[mN]at hr;exact h.from_ pm v t l b hr hb
theorem cN.aEi(h:cN W bP β₀ β hp w){dZ:Hp}(hk:kd dZ=kd hp) (src:∀ (j:Nat) (y:bE),dZ[j]? =some (some y)→∃x,hp[j]? =some (some x)∧(y=x∨∃cells cells' e,x= .cK cells e∧y= .cK cells' e∧∀c,dc β (kd hp) cells c→dc β (kd hp) cells' c)):cN W bP β₀ β dZ w:=by
 refine h.Dk (fun j=>j) rfl (by rw[hk];exact h.first) (fun j y hj=>?_) fun _ _ _ _ _ _ e=>e;obtain⟨x,h1,h2⟩:=src j y hj;have hx:=h.items j x h1;rw[hk];rcases h2 with rfl|⟨cells,cells',e,rfl,rfl,h3⟩
 ·exact⟨y,h1,fun _ h=>h,hx,.inl rfl⟩
 ·obtain⟨c,fz,k1,k2,k3⟩:=hx;exact⟨_,h1,fun _ h=>h,⟨c,fz,k1,k2,h3 c k3⟩,.inl rfl⟩
def bE.fq(f:SV→SV):bE→bE
 | .cK cells e=>.cK (cells.map f) e
 |x=>x
def VV.fq(f:SV→SV):VV→VV
 | .sc s=>.sc (f s)
 | .agg l=>.agg (l.map f)
def LV.fq(f:SV→SV):LV→LV
 | .one x=>.one (x.fq f)
 | .dB l=>.dB (l.map (VV.fq f))
 | .dT=>.dT
structure mR (β β':Env) (L L':Nat→Option Kd) (f:SV→SV):Prop where
 den:∀ {s:SV} {v:Value},s.den β L v→(f s).den β' L' v
 arr:∀t n l,f (.arr t n l)= .arr t n l
 rd:∀v t l,β.rd true v t l→β'.rd true v t l
theorem mR.kZ{β β':Env}{L L':Nat→Option Kd}{f:SV→SV}(h:mR β β' L L' f){s:SV}{vs:List Value}(hd:s.kZ β L vs):(f s).kZ β' L' vs:=by
 cases s with
 |arr t n l=>rw[h.arr];exact⟨hd.1,hd.2.imp fun _ _=>t.kx h.rd⟩
 |_=>
  obtain⟨v,rfl,h3⟩:=hd;exact SV.vH (h.den h3)
theorem mR.aMG{β β':Env}{L L':Nat→Option Kd}{f:SV→SV}(h:mR β β' L L' f){l:List SV}{vs:List Value}(hd:dc β L l vs):dc β' L' (l.map f) vs:=by
 induction hd with
 |nil=>exact cI.nil
 |cons h1 _ ih=>exact cI.cons (h.kZ h1) ih
theorem mR.vv{β β':Env}{L L':Nat→Option Kd}{f:SV→SV}(h:mR β β' L L' f){s:VV}{v:Value}(hd:s.den β L v):(s.fq f).den β' L' v:=by
 cases s with
 |sc s=>exact h.den hd
 |agg l=>obtain⟨cs,rfl,hd⟩:=hd;exact⟨cs,rfl,h.aMG hd⟩
theorem mR.lv{β β':Env}{L L':Nat→Option Kd}{f:SV→SV}(h:mR β β' L L' f){s:LV}{v:Value}(hd:s.den β L v):(s.fq f).den β' L' v:=by
 cases s with
 |one x=>exact h.vv hd
 |dB l=>
  obtain⟨vs,rfl,hd⟩:=hd;refine⟨vs,rfl,?_⟩;induction hd with
  |nil=>exact .nil
  |cons h1 _ ih=>exact .cons (h.vv h1) ih
 |dT=>trivial
theorem mR.fr{β β':Env}{L L':Nat→Option Kd}{f:SV→SV}(h:mR β β' L L' f){l:List LV}{vs:List Value}(hd:dC (LV.den β L) l vs):dC (LV.den β' L') (l.map (LV.fq f)) vs:=by
 induction hd with
 |nil=>exact .nil
 |cons h1 _ ih=>exact .cons (h.lv h1) ih
theorem mR.item{β β':Env}{L L':Nat→Option Kd}{f:SV→SV}(h:mR β β' L L' f){w:World}{i:Nat}{x:bE}(hb:β'.b i=β.b i)(hh:β'.h i=β.h i)(hd:gb β L w i x):gb β' L' w i (x.fq f):=by
 cases x with
 |cK cells e=>
  obtain⟨c,fz,h1,h2,h3⟩:=hd;exact⟨c,fz,by rw[hb];exact h1,h2,h.aMG h3⟩
 |own ver t l=>
  show eY β' w (β'.h i) t l;rw[hh];obtain⟨a,n,c,e,h1,h2,h3,h4⟩:=(hd:eY β w (β.h i) t l);refine⟨a,n,c,e,h1,h2,h3,fun h0=>?_⟩;obtain⟨a0,pre,gq,rest,elem,fz,k0,k1,k2,k3,k4,k5⟩:=h4 h0;exact⟨a0,pre,gq,rest,elem,fz,k0,k1,k2,k3,k4.imp fun _ _=>t.kx h.rd,k5⟩
 |gone v=>trivial
 |qn t D y=>
  obtain⟨h1,h2⟩:=hd;refine⟨fun b k=>h1 b (by rw[hh]at k;exact k),fun w2 rd k1 k2=>?_⟩;simp only[hh,hb]at k2 ⊢;exact h2 w2 rd (fun v t l k=>k1 v t l (h.rd v t l k)) fun b k k0=>k2 b (k.imp id fun⟨v,t,l,k3,k4⟩=>⟨v,t,l,h.rd v t l k3,k4⟩) k0
theorem bE.Xh(f:SV→SV)(x:bE):(x.fq f).kd=x.kd:=by cases x<;>rfl
theorem dM.fq{f:SV→SV}{β β':Env}{x:bE}{i b:Nat}(hb:β'.b i=β.b i)(hh:β'.h i=β.h i):dM β' (x.fq f) i b↔dM β x i b:=by
 cases x<;>simp only[bE.fq,dM,hb,hh]
end
inductive FM where
 |drop
 |bV
 |sym
 |rd (pm:Bool) (t:Ty)
def SV.rdm(pm:Bool)(t:Ty):SV→SV
 | .gm (.slice none 0 0)=>.rd pm false t []
 | .rd false _ t l=>.rd false false t l
 | .rd true _ t l=>.rd pm false t l
 |s=>s
def SV.symm:SV→SV
 | .int k n=>.int k (.sym n.val)
 | .bool b=>.bool (.sym b.val)
 |s=>s
def SV.aMH:SV→SV
 | .arr t n l=>.arr t n l
 |_=>.dT
def SV.fm:FM→SV→SV
 | .bV,s=>s
 | .drop,s=>s.aMH
 | .sym,s=>s.symm
 | .rd pm t,s=>s.rdm pm t
theorem SV.Sv{β:Env}{L:Nat→Option Kd}(k:FM){s:SV}{v:Value}(h:s.den β L v):(s.fm k).den β L v:=by
 cases k with
 |bV=>exact h
 |drop=>cases s<;>first|exact h.elim|exact SV.dn h
 |sym=>cases s<;>exact h
 |rd pm t=>
  simp only[SV.fm];unfold SV.rdm;split
  ·obtain⟨_,rfl⟩:=h;exact⟨rfl,(fun e=>by cases e),.inr (.inr ⟨rfl,rfl⟩)⟩
  ·exact⟨h.1,(fun e=>by cases e),h.2.2⟩
  ·refine⟨h.1,(fun e=>by cases e),?_⟩;rcases h.2.2 with h1|⟨h1,_⟩|h1
   ·exact .inl h1
   ·cases h1
   ·exact .inr (.inr h1)
  ·exact h
theorem wg{β:Env}{L:Nat→Option Kd}(k:FM):mR β β L L (SV.fm k):=⟨SV.Sv k,fun t n l=>by cases k<;>rfl,fun _ _ _ h=>h⟩
def LV.fm:FM→LV→LV
 | .drop,_=>.dT
 | .bV,x=>x
 |k,x=>x.fq (SV.fm k)
theorem LV.Sv{β:Env}{L:Nat→Option Kd}(k:FM){s:LV}{v:Value}(h:s.den β L v):(s.fm k).den β L v:=by
 cases k with
 |drop=>trivial
 |bV=>exact h
 |sym=>exact(wg .sym).lv h
 |rd pm t=>exact(wg (.rd pm t)).lv h
def aEj:List FM→List LV→List LV
 |k::ks,x::xs=>x.fm k::aEj ks xs
 |_,xs=>xs
theorem OR{β:Env}{L:Nat→Option Kd}:∀ (ks:List FM) {xs:List LV} {vs:List Value},dC (LV.den β L) xs vs→dC (LV.den β L) (aEj ks xs) vs
 | [],_,_,h=>h
 |k::ks,_,_,h=>by
  cases h with
  |nil=>exact .nil
  |cons h t=>exact .cons (LV.Sv k h) (OR ks t)
def aEk:List FM→List SV→List SV
 |k::ks,x::xs=>x.fm k::aEk ks xs
 |_,xs=>xs
theorem OS{β:Env}{L:Nat→Option Kd}:∀ (ks:List FM) {xs:List SV} {vs:List Value},dc β L xs vs→dc β L (aEk ks xs) vs
 | [],_,_,h=>h
 |k::ks,[],_,h=>h
 |k::ks,x::xs,_,h=>by
  cases h with
  |cons h t=>exact .cons ((wg k).kZ h) (OS ks t)
def SV.re(i c n:Nat):SV→SV
 | .sl j v=>if j=i then(if v=c then .sl j n else .dT)else .sl j v
 | .vw j v w z m=>if j=i then(if v=c then .vw j n w z m else .dT)else .vw j v w z m
 | .ep s w z f=>.ep (s.re i c n) w z f
 |s=>s
def SV.mv(i k c:Nat):SV→SV
 | .sl j v=>if j=k then(if v=c then .sl i 1 else .dT)else if j=i then .dT else .sl j v
 | .vw j v w z m=>if j=k then(if v=c then .vw i 1 w z m else .dT)else if j=i then .dT else .vw j v w z m
 | .ep s w z f=>.ep (s.mv i k c) w z f
 |s=>s
def SV.Sw(i c:Nat)(t:Ty)(l:List t.D):SV→SV
 | .sl j v=>if j=i then(if v=c then .rd true false t l else .dT)else .sl j v
 | .ep s w z f=>.ep (s.Sw i c t l) w z f
 |s=>s
noncomputable section
variable {W:World} {bP:Hp} {β₀ β:Env} {hp:Hp} {w:World}
theorem art{i c n:Nat}{L L':Nat→Option Kd}(hi:L i=some (.own c))(um:L' i=some (.own n))(ho:∀j,j≠i→L' j=L j):mR β β L L' (SV.re i c n):=by
 have n9:∀ {b},L b=some .cK→L' b=some .cK:=fun {b} hb=>by
  rw[ho b fun e=>by subst e;rw[hi]at hb;cases hb];exact hb
 refine⟨fun {s}=>?_,fun _ _ _=>rfl,fun _ _ _ h=>h⟩;induction s with
 |sl j ver=>
  intro v h;have h1:=SV.dn h;simp only[SV.re];split
  ·rename_i e;subst e;split
   ·rename_i e;subst e;obtain⟨k1,c',k2,k3,k4⟩:=h;rw[hi]at k2;cases k2;exact⟨k1,n,um,Nat.le_refl _,fun _=>k4 rfl⟩
   ·exact h1
  ·rename_i e;obtain⟨k1,c',k2,k3,k4⟩:=h;exact⟨k1,c',by rw[ho j e];exact k2,k3,k4⟩
 |vw j ver w z m=>
  intro v h;have h1:=SV.dn h;simp only[SV.re];split
  ·rename_i e;subst e;split
   ·rename_i e;subst e;obtain⟨k1,c',k2,k3,k4⟩:=h;rw[hi]at k2;cases k2;exact⟨k1,n,um,Nat.le_refl _,fun _=>k4 rfl⟩
   ·exact h1
  ·rename_i e;obtain⟨k1,c',k2,k3,k4⟩:=h;exact⟨k1,c',by rw[ho j e];exact k2,k3,k4⟩
 |ep s w z f ih=>
  rintro v ⟨a,n,c',h1,h2⟩;exact⟨a,n,c',ih h1,h2⟩
 |ptr b o=>intro v h;exact⟨n9 h.1,h.2⟩
 |WR g b o=>intro v h;exact⟨n9 h.1,h.2⟩
 |yU b base st n z=>intro v h;exact⟨n9 h.1,h.2⟩
 |slice b o l c=>intro v h;exact⟨n9 h.1,h.2⟩
 |vb b o t m z n=>intro v h;exact⟨n9 h.1,h.2⟩
 |_=>intro v h;exact h
theorem aru{β':Env}{i k c:Nat}{L L':Nat→Option Kd}(hk:L k=some (.own c))(hki:L i≠some .cK)(um:L' i=some (.own 1))(ho:∀j,j≠i→j≠k→L' j=L j)(hb:β'.b=β.b)(hh:∀j,j≠i→β'.h j=β.h j)(hhi:β'.h i=β.h k)(mN:β'.rd=β.rd):mR β β' L L' (SV.mv i k c):=by
 have n9:∀ {b},L b=some .cK→L' b=some .cK∧β'.b b=β.b b:=fun {b} h=>by
  refine⟨?_,by rw[hb]⟩;rw[ho b (fun e=>by subst e;exact hki h) fun e=>by subst e;rw[hk]at h;cases h];exact h
 have tY:∀pm v t l,β.rd pm v t l→β'.rd pm v t l:=fun _ _ _ _ h=>by rw[mN];exact h
 refine⟨fun {s}=>?_,fun _ _ _=>rfl,fun _ _ _ h=>tY _ _ _ _ h⟩;induction s with
 |sl j ver=>
  intro v h;have h1:=SV.dn h;simp only[SV.mv];split
  ·rename_i e;subst e;split
   ·rename_i e;subst e;obtain⟨k1,c',k2,k3,k4⟩:=h;rw[hk]at k2;cases k2;exact⟨k1,1,um,Nat.le_refl _,fun _=>by rw[hhi];exact k4 rfl⟩
   ·exact h1
  ·rename_i e;split
   ·exact h1
   ·rename_i e2;obtain⟨k1,c',k2,k3,k4⟩:=h;exact⟨k1,c',by rw[ho j e2 e];exact k2,k3,fun e3=>by rw[hh j e2];exact k4 e3⟩
 |vw j ver w z m=>
  intro v h;have h1:=SV.dn h;simp only[SV.mv];split
  ·rename_i e;subst e;split
   ·rename_i e;subst e;obtain⟨k1,c',k2,k3,k4⟩:=h;rw[hk]at k2;cases k2;exact⟨k1,1,um,Nat.le_refl _,fun _=>by rw[hhi];exact k4 rfl⟩
   ·exact h1
  ·rename_i e;split
   ·exact h1
   ·rename_i e2;obtain⟨k1,c',k2,k3,k4⟩:=h;exact⟨k1,c',by rw[ho j e2 e];exact k2,k3,fun e3=>by rw[hh j e2];exact k4 e3⟩
 |ep s w z f ih=>
  rintro v ⟨a,n,c',h1,h2⟩;exact⟨a,n,c',ih h1,h2⟩
 |ptr b o=>intro v h;obtain⟨k1,k2⟩:=n9 h.1;exact⟨k1,by rw[k2];exact h.2⟩
 |WR g b o=>intro v h;obtain⟨k1,k2⟩:=n9 h.1;exact⟨k1,by rw[k2];exact h.2⟩
 |yU b base st n z=>intro v h;obtain⟨k1,k2⟩:=n9 h.1;exact⟨k1,h.2.1,by rw[k2];exact h.2.2⟩
 |slice b o l c=>intro v h;obtain⟨k1,k2⟩:=n9 h.1;exact⟨k1,by rw[k2];exact h.2⟩
 |vb b o t m z n=>rintro v ⟨h1,h2⟩;obtain⟨k1,k2⟩:=n9 h1;exact⟨k1,by rw[k2];exact h2⟩
 |rd pm nn t l=>rintro v ⟨h1,h2,h3⟩;exact⟨h1,h2,h3.mono tY⟩
 |_=>intro v h;exact h
theorem OT{β':Env}{i c:Nat}{t:Ty}{l:List t.D}{L:Nat→Option Kd}(hi:L i=some (.own c))(hb:β'.b=β.b)(hh:β'.h=β.h)(mN:∀pm v t l,β.rd pm v t l→β'.rd pm v t l)(hr:β'.rd true (β.h i) t l):mR β β' L L (SV.Sw i c t l):=by
 have tY:dx β β' L L:=⟨fun i h=>⟨h,by rw[hb]⟩,fun i c h=>⟨c,h,Nat.le_refl _,fun _=>by rw[hh]⟩,mN⟩;refine⟨fun {s}=>?_,fun _ _ _=>rfl,fun _ _ _ h=>mN _ _ _ _ h⟩;induction s with
 |sl j ver=>
  intro v h;have h1:=SV.dn h;simp only[SV.Sw];split
  ·rename_i e;subst e;split
   ·rename_i e;subst e;obtain⟨k1,c',k2,k3,k4⟩:=h;rw[hi]at k2;cases k2;have e:=k4 rfl;subst e;exact⟨k1,(fun e=>by cases e),.inl hr⟩
   ·exact h1
  ·exact SV.gB tY h
 |ep s w z f ih=>
  rintro v ⟨a,n,c',h1,h2⟩;exact⟨a,n,c',ih h1,h2⟩
 |_=>intro v h;exact SV.gB tY h
theorem Dl{f:SV→SV}{j:Nat}{y:bE}(hj:(hp.map (Option.map (bE.fq f)))[j]? =some (some y)):∃x,hp[j]? =some (some x)∧y=x.fq f:=by
 rw[List.getElem?_map]at hj;obtain⟨o,h1,h2⟩:=map_some hj;cases o with
 |none=>cases h2
 |some x=>exact⟨x,h1,by simpa using h2.symm⟩
theorem ze{f:SV→SV}(hp:Hp):kd (hp.map (Option.map (bE.fq f)))=kd hp:=by
 funext j;unfold kd;rw[List.getElem?_map];cases hp[j]? with
 |none=>rfl
 |some o=>cases o with
  |none=>rfl
  |some x=>simp[bE.Xh]
theorem dC.aEl{α β:Type}{R:α→β→Prop}{a:α}:∀ {l:List α} {m:List β} {k:Nat},dC R l m→(∀b,m[k]? =some b→R a b)→dC R (l.set k a) m
 |_,_,_,.nil,_=>.nil
 |_,_,0,.cons h t,hb=>.cons (hb _ rfl) t
 |_,_,k+1,.cons h t,hb=>.cons h (t.aEl fun b hk=>hb b (by simpa using hk))
def Xi(k:IntKind):List SV→Option ab
 | []=>some []
 | .int k' n::l=>if k'=k then(Xi k l).map (n.val:: ·)else none
 |_::_=>none
theorem OU{β:Env}{L:Nat→Option Kd}{k:IntKind}:∀ {l:List SV} {m:ab} {vs:List Value},Xi k l=some m→dc β L l vs→cI ((Ty.int k).has β true) m vs
 | [],m,vs,h,hd=>by cases h;cases hd;exact .nil
 |s::l,m,vs,h,hd=>by
  unfold Xi at h;split at h
  ·rename_i e;cases e
  ·rename_i e;injection e with e1 e2;subst e1 e2;split at h
   ·rename_i e;subst e;obtain⟨m',h1,rfl⟩:=map_some h;cases hd with
    |cons h2 h3=>
     obtain⟨v,rfl,hv⟩:=h2;exact cI.cons (x:=_) (vs:= [v]) (by rw[show v=_ from hv];rfl) (OU h1 h3)
   ·cases h
  ·cases h
def OV(off n:Nat)(k:IntKind)(l:List SV):List SV:=match Xi k ((l.drop off).take n)with
 |some m=>if m.length=n then l.take off++ .arr (.int k) n m::(l.drop off).drop n else l
 |none=>l
theorem pM{β:Env}{L:Nat→Option Kd}{off n:Nat}{k:IntKind}{l:List SV}{vs:List Value}(h:dc β L l vs):dc β L (OV off n k l) vs:=by
 unfold OV;split
 ·rename_i m hm;split
  ·rename_i hn;have e:l=l.take off++((l.drop off).take n++(l.drop off).drop n):=(by rw[List.take_append_drop,List.take_append_drop]);rw[e]at h;obtain⟨v1,v2,rfl,h1,h2⟩:=cI.split h;obtain⟨v3,v4,rfl,h3,h4⟩:=cI.split h2;exact h1.append (cI.cons (x:=.arr (.int k) n m) ⟨hn,OU hm h3⟩ h4)
  ·exact h
 ·exact h
def SV.cellsIn:SV→List SV
 | .arr (.int k) n m=>if n≤32 then(List.range n).map fun i=>.int k (.sym (m.getD i 0))else [.arr (.int k) n m]
 |s=> [s]
theorem Dm:∀ (m:ab) (k:IntKind),(List.range m.length).map (fun i=>SV.int k (.sym (m.getD i 0)))=m.map fun n=>SV.int k (.sym n):=by
 intro m k;apply List.ext_getElem?;intro i;simp only[List.getElem?_map];rcases Nat.lt_or_ge i m.length with h1|h1
 ·rw[List.getElem?_range h1];simp[List.getD_eq_getElem?_getD,List.getElem?_eq_getElem h1]
 ·rw[List.getElem?_eq_none h1,List.getElem?_eq_none (by simpa using h1)];rfl
theorem OW{β:Env}{L:Nat→Option Kd}{k:IntKind}:∀ {m:ab} {vs:List Value},cI ((Ty.int k).has β true) m vs→dc β L (m.map fun n=>SV.int k (.sym n)) vs
 | [],_,h=>by cases h;exact .nil
 |n::m,_,h=>by
  cases h with
  |cons h1 h2=>
   have h1':_= [Value.int k n]:=h1;subst h1';exact cI.cons (x:=SV.int k (.sym n)) ⟨_,rfl,rfl⟩ (OW h2)
theorem OX{β:Env}{L:Nat→Option Kd}{s:SV}{vs:List Value}(h:s.kZ β L vs):dc β L s.cellsIn vs:=by
 unfold SV.cellsIn;split
 ·rename_i k n m;split
  ·obtain⟨rfl,h2⟩:=(h:_∧_);rw[Dm];exact OW h2
  ·exact cI.one h
 ·exact cI.one h
def afL(l:List SV):List SV:=l.flatMap SV.cellsIn
theorem GO{β:Env}{L:Nat→Option Kd}{l:List SV}{vs:List Value}(h:dc β L l vs):dc β L (afL l) vs:=by
 induction h with
 |nil=>exact .nil
 |cons h _ ih=>exact(OX h).append ih
def VV.onL(f:List SV→List SV):VV→VV
 | .agg l=>.agg (f l)
 |x=>x
theorem VV.wi{β:Env}{L:Nat→Option Kd}{f:List SV→List SV}(hf:∀l vs,dc β L l vs→dc β L (f l) vs){x:VV}{v:Value}(h:x.den β L v):(x.onL f).den β L v:=by
 cases x with
 |sc s=>exact h
 |agg l=>obtain⟨cs,e,hd⟩:=h;exact⟨cs,e,hf _ _ hd⟩
def LV.onL(f:List SV→List SV):LV→LV
 | .one x=>.one (x.onL f)
 | .dB l=>.dB (l.map (VV.onL f))
 |x=>x
theorem LV.wi{β:Env}{L:Nat→Option Kd}{f:List SV→List SV}(hf:∀l vs,dc β L l vs→dc β L (f l) vs){x:LV}{v:Value}(h:x.den β L v):(x.onL f).den β L v:=by
 cases x with
 |one x=>exact VV.wi hf h
 |dB l=>obtain⟨vs,e,hd⟩:=h;exact⟨vs,e,hd.vF fun _ _=>VV.wi hf⟩
 |dT=>exact h
def It(f:List SV→List SV)(i:Nat)(fr:List LV):List LV:=match fr[i]? with
 |some x=>fr.set i (x.onL f)
 |none=>fr
theorem Dn{β:Env}{L:Nat→Option Kd}{f:List SV→List SV}(hf:∀l vs,dc β L l vs→dc β L (f l) vs){i:Nat}{fr:List LV}{vs:List Value}(h:dC (LV.den β L) fr vs):dC (LV.den β L) (It f i fr) vs:=by
 unfold It;split
 ·rename_i x hx;refine h.aEl fun b hb=>?_;obtain⟨b',h1,h2⟩:=h.get hx;rw[hb]at h1;cases h1;exact LV.wi hf h2
 ·exact h
inductive Wk where
 |fr (l:List FM)
 |cK (i:Nat) (l:List FM)
 |kA (k:Nat) (t:Ty)
 |l9 (i j:Nat) (t:Ty)
 |Sw (i:Nat)
 |ver (i:Nat)
 |one (i:Nat)
 |move (i j:Nat)
 |bK (b off i:Nat) (t:Ty)
 |cut (ids:List Nat)
 |Dp (k:Nat) (t:Ty)
 |aEm (i j:Nat) (t:Ty)
 |bS
 |ck
 |cu
 |pN
 |iN (i off n:Nat) (k:IntKind)
 |mS (i off n:Nat) (k:IntKind)
 |Ap (i:Nat)
 |azO (i:Nat)
abbrev aq:List Wk:=[.fr [.sym],.bS]
def GP:SV→Bool
 | .gm (.slice none 0 0)=>true
 |_=>false
def aMI:LV→Bool
 | .one (.sc s)=>GP s
 |_=>false
def Iu:List Nat→Bool
 | []=>true
 |x::l=> !l.any (fun y=>decide (y=x))&&Iu l
def arw(m:Nat)(ids:List Nat)(i:Nat):Option Nat:=if i<m then some i else(lA ids i).map (· +m)
def Gg(m:Nat)(ids:List Nat):ur:=⟨arw m ids,fun _ v=>some v⟩
structure yQ where
 n:Nat
 v:Nat→Bool
def yQ.of(hp:Hp):yQ:=⟨hp.length,fun i=>match dp hp i with|some (.own 0 _ _)=>true|_=>false⟩
structure yQ.Ok (m:yQ) (bP:Hp):Prop where
 n:m.n=bP.length
 v:∀i,m.v i=true→kd bP i=some (.own 0)
theorem yQ.df(hp:Hp):(yQ.of hp).Ok hp:=⟨rfl,fun i h=>by
 simp only[yQ.of]at h;split at h
 ·rename_i hi;rw[fM (cf hi)];rfl
 ·cases h⟩
theorem yQ.aMJ(hp:Hp):(yQ.mk hp.length fun _=>false).Ok hp:=⟨rfl,fun _ h=>by cases h⟩
def wk1(m:yQ):Wk→St→Option St
 | .fr l,st=>some ⟨aEj l st.fr,st.hp⟩
 | .cK i l,st=>match dp st.hp i with
  |some (.cK cells e)=>some ⟨st.fr,st.hp.set i (some (.cK (aEk l cells) e))⟩
  |_=>some st
 | .kA k t,st=>if aMI (st.fr.getD k .dT)then some ⟨st.fr.set k (.one (.sc (.sl st.hp.length 0))),cL st.hp st.hp.length (.own 0 t [])⟩else some st
 | .l9 i j t,st=>match dp st.hp i with
  |some (.cK cells e)=>if GP (cells.getD j .dT)then some ⟨st.fr,(cL st.hp st.hp.length (.own 0 t [])).set i (some (.cK (cells.set j (.sl st.hp.length 0)) e))⟩else some st
  |_=>some st
 | .Sw i,st=>if m.n≤i then match dp st.hp i with
  |some (.own c t l)=>some ⟨st.fr.map (LV.fq (SV.Sw i c t l)),(st.hp.set i (some (.gone c))).map (Option.map (bE.fq (SV.Sw i c t l)))⟩
  |_=>none else none
 | .ver i,st=>if m.n≤i then match dp st.hp i with
  |some (.own c t l)=>some ⟨st.fr.map (LV.fq (SV.re i c 0)),(st.hp.set i (some (.own 0 t l))).map (Option.map (bE.fq (SV.re i c 0)))⟩
  |_=>none else none
 | .one i,st=>if m.v i then match dp st.hp i with
  |some (.own c t l)=>some ⟨st.fr.map (LV.fq (SV.re i c 1)),(st.hp.set i (some (.own 1 t l))).map (Option.map (bE.fq (SV.re i c 1)))⟩
  |_=>none else none
 | .move i j,st=>if m.v i&&decide (m.n≤j)then match dp st.hp j,dp st.hp i with
  |some (.own c t l),some (.own _ _ _)=>some ⟨st.fr.map (LV.fq (SV.mv i j c)),((st.hp.set i (some (.own 1 t l))).set j none).map (Option.map (bE.fq (SV.mv i j c)))⟩
  |_,_=>none else none
 | .cut ids,st=>if m.n≤st.hp.length&&ids.all (fun i=>decide (m.n≤i))&&Iu ids then
   some ⟨st.fr.map (LV.dD (Gg m.n ids)),(st.hp.take m.n++ids.map (fun i=>dp st.hp i)).map (Option.map (bE.dD (Gg m.n ids) fun v=>v))⟩else none
 | .iN i off n k,st=>match dp st.hp i with
  |some (.cK cells e)=>some ⟨st.fr,st.hp.set i (some (.cK (OV off n k cells) e))⟩
  |_=>some st
 | .mS i off n k,st=>some ⟨It (OV off n k) i st.fr,st.hp⟩
 | .Ap i,st=>match dp st.hp i with
  |some (.cK cells e)=>some ⟨st.fr,st.hp.set i (some (.cK (afL cells) e))⟩
  |_=>some st
 | .azO i,st=>some ⟨It afL i st.fr,st.hp⟩
 | .cu,st=>some ⟨st.fr.map (LV.fq (SV.fm .sym)),st.hp.map (Option.map (bE.fq (SV.fm .sym)))⟩
 | .Dp _ _,_| .aEm _ _ _,_| .bS,_| .ck,_| .pN,_| .bK _ _ _ _,_=>none
def wkB(m:yQ):List Wk→St→Option St
 | [],st=>some st
 |k::ks,st=>match wk1 m k st with
  |some tm=>wkB m ks tm
  |none=>none
def azP:Option bE→Bool
 |some (.own _ _ _)=>true
 |_=>false
def arx(m:Nat)(st:St):List Nat:=match(mz 1000 (st.fr.flatMap LV.refs++(List.range m).filter fun i=>(dp st.hp i).isSome) [] []).val st.hp with
 |some (ids,_)=>ids.filter fun i=>decide (m≤i)
 |none=> []
def wkX(m:yQ):Wk→St→List Wk
 | .Dp k t,st=>match st.fr.getD k .dT with
  | .one (.sc (.sl i _))=> [.Sw i]
  |_=> [.fr (List.replicate k .bV++ [.rd true t])]
 | .aEm i j t,st=>match dp st.hp i with
  |some (.cK cells _)=>match cells.getD j .dT with
   | .sl k _=> [.Sw k]
   |_=> [.cK i (List.replicate j .bV++ [.rd true t])]
  |_=> []
 | .bS,st=> [.cut (arx m.n st)]
 | .ck,st=>(List.range st.hp.length).filterMap fun i=>if decide (m.n≤i)&&azP (dp st.hp i)then some (.ver i)else none
 | .pN,st=>(List.range st.hp.length).filterMap fun i=>if decide (m.n≤i)&&azP (dp st.hp i)then some (.Sw i)else none
 | .bK b j i t,st=>match dp st.hp b with
  |some (.cK cells _)=>match cells.getD j .dT with
   | .sl k _=>if k=i then [.one i]else [.move i k]
   |_=> [.l9 b j t,.move i st.hp.length]
  |_=> []
 |k,_=> [k]
def uu(m:yQ):List Wk→St→Option St
 | [],st=>some st
 |k::ks,st=>match wkB m (wkX m k st) st with
  |some tm=>uu m ks tm
  |none=>none
theorem GQ{β:Env}{L:Nat→Option Kd}{s:SV}{v:Value}(h:GP s=true)(hd:s.den β L v):v= .slice none 0 0:=by
 unfold GP at h;split at h
 ·exact hd.2
 ·cases h
theorem GR:∀ {l:List Nat},Iu l=true→l.Nodup
 | [],_=>List.nodup_nil
 |x::l,h=>by
  simp only[Iu,Bool.and_eq_true,Bool.not_eq_true',List.any_eq_false,decide_eq_true_eq]at h;exact List.nodup_cons.2 ⟨fun hm=>h.1 x hm rfl,GR h.2⟩
theorem cN.relabel(h:cN W bP β₀ β hp w){f:SV→SV}(hl:mR β β (kd hp) (kd hp) f):cN W bP β₀ β (hp.map (Option.map (bE.fq f))) w:=by
 refine h.Dk (fun j=>j) rfl (by rw[ze];exact h.first) (fun j y hj=>?_) fun _ _ _ _ _ _ e=>e;obtain⟨x,h1,rfl⟩:=Dl hj;exact⟨x,h1,fun b=>(dM.fq rfl rfl).1,by rw[ze];exact hl.item rfl rfl (h.items j x h1),.inl rfl⟩
theorem cN.Sx(h:cN W bP β₀ β hp w)(t:Ty):∃β',cN W bP β₀ β' (cL hp hp.length (.own 0 t [])) w∧dx β β' (kd hp) (kd (cL hp hp.length (.own 0 t [])))∧(SV.sl hp.length 0).den β' (kd (cL hp hp.length (.own 0 t []))) (.slice none 0 0):=by
 obtain⟨β',h1,h2,h3⟩:=h.rZ (id:=hp.length) (je (Nat.le_refl _)) (v:=.slice none 0 0) (ver:=0) (t:=t) (l:= []) (w':=w) (Nat.le_refl _) rfl rfl (fun _ _=>rfl)
  ⟨none,0,0,rfl,rfl,Nat.le_refl _,fun _=>rfl,fun h=>absurd h (by omega)⟩ (fun a n c e=>by simp at e)
 exact⟨β',h1,h2,rfl,0,by rw[fB,if_pos rfl];rfl,Nat.le_refl _,fun _=>h3.symm⟩
theorem Sy{i:Nat}{x y:bE}(hi:hp[i]? =some (some x))(j:Nat):kd (hp.set i (some y)) j=if j=i then some y.kd else kd hp j:=by
 rw[← CT hi,fB]
theorem Iv{i j:Nat}{x y z:bE}(hi:hp[i]? =some (some x))(hj:(hp.set i (some y))[j]? =some (some z)):(j=i∧z=y)∨(j≠i∧hp[j]? =some (some z)):=by
 by_cases e:j=i
 ·subst e;rw[List.getElem?_set_self (List.getElem?_eq_some_iff.1 hi).1]at hj;exact .inl ⟨rfl,by simpa using hj.symm⟩
 ·rw[List.getElem?_set_ne (Ne.symm e)]at hj;exact .inr ⟨e,hj⟩
theorem cN.Iw(h:cN W bP β₀ β hp w){i:Nat}{cells cells':List SV}{e:TypeId}(hi:hp[i]? =some (some (.cK cells e)))(hc:∀c,dc β (kd hp) cells c→dc β (kd hp) cells' c):cN W bP β₀ β (hp.set i (some (.cK cells' e))) w∧kd (hp.set i (some (.cK cells' e)))=kd hp:=by
 have hk:kd (hp.set i (some (.cK cells' e)))=kd hp:=by
  funext j;rw[Sy hi];split
  ·rename_i e1;rw[e1,fM hi];rfl
  ·rfl
 refine⟨h.aEi hk fun j y hj=>?_,hk⟩;rcases Iv hi hj with⟨rfl,rfl⟩|⟨_,Gy⟩
 ·exact⟨_,hi,.inr ⟨cells,cells',e,rfl,rfl,hc⟩⟩
 ·exact⟨y,Gy,.inl rfl⟩
theorem afM{i:Nat}(h:bP.length≤i){y:bE}:bP[i]? ≠some (some y):=by rw[List.getElem?_eq_none h];simp
theorem Aq{β:Env}{L:Nat→Option Kd}{s':SV}:∀ {l:List SV} {cs:List Value} {j:Nat},dc β L l cs→GP (l.getD j .dT)=true→s'.den β L (.slice none 0 0)→dc β L (l.set j s') cs
 | [],_,_,h,_,_=>h
 |x::l,_,0,.cons (vs:=vs) h t,hn,hs=>by
  have hn:GP x=true:=hn;have hna:∀t n l,x≠ .arr t n l:=fun _ _ _ e=>by subst e;cases hn
  obtain⟨v,rfl,hv⟩:=SV.lj h hna;have:=GQ hn hv;subst this;exact .cons (vs:= [.slice none 0 0]) (SV.vH hs) t
 |x::l,_,j+1,.cons h t,hn,hs=>.cons h (Aq t (by simpa using hn) hs)
theorem aEn(h:cN W bP β₀ β hp w){i c:Nat}{t:Ty}{l:List t.D}(hm:bP.length≤i)(hi:hp[i]? =some (some (.own c t l))):∃β',cN W bP β₀ β' ((hp.set i (some (.gone c))).map (Option.map (bE.fq (SV.Sw i c t l)))) w∧mR β β' (kd hp) (kd ((hp.set i (some (.gone c))).map (Option.map (bE.fq (SV.Sw i c t l))))) (SV.Sw i c t l):=by
 obtain⟨h1,tY⟩:=h.R0 hi (x':=.gone c) (β':=β) (w':=w) rfl (fun _ _=>rfl) rfl (.inr ⟨c,c,rfl,rfl,Nat.le_refl _,fun _=>rfl⟩) (Nat.le_refl _) rfl rfl (fun _ _ _=>rfl) (fun b ho=>ho.elim) (fun _=>trivial);have hk:kd (hp.set i (some (.gone c)))=kd hp:=by
  funext j;rw[Sy hi];split
  ·rename_i e1;rw[e1,fM hi];rfl
  ·rfl
 have tZ:eY β w (β.h i) t l:=h.items i _ hi
 obtain⟨h2,aXN,h3⟩:=h1.rp (pm:=true) (v:=β.h i) (t:=t) (l:=l) tZ.reads fun b hb=>by
  have ho:dM β (.own c t l) i b:=Il tZ hb;refine⟨(h.items i _ hi).lt ho,fun⟨j,y,hj,Ga⟩=>?_,.inl ?_⟩
  ·rcases Iv hi hj with⟨rfl,rfl⟩|⟨ko,Gy⟩
   ·exact Ga.elim
   ·exact ko (h.inj j i y _ b Gy hi Ga ho)
  ·rcases h.own i _ b hi ho with k|⟨y,k,_⟩
   ·exact k
   ·exact absurd k (afM hm)
 have hki:kd (hp.set i (some (.gone c))) i=some (.own c):=by rw[hk,fM hi];rfl
 have hl:mR (β.rp true (β.h i) t l) (β.rp true (β.h i) t l) (kd (hp.set i (some (.gone c)))) (kd (hp.set i (some (.gone c)))) (SV.Sw i c t l):=OT hki rfl rfl (fun _ _ _ _ h=>h) h3;refine⟨_,h2.relabel hl,?_⟩;rw[ze,hk];rw[hk]at hki;exact OT hki rfl rfl aXN.rd h3
theorem azQ(h:cN W bP β₀ β hp w){i c n:Nat}{t:Ty}{l:List t.D}(hm:kd bP i=none∨(kd bP i=some (.own 0)∧n=1))(hi:hp[i]? =some (some (.own c t l))):cN W bP β₀ β ((hp.set i (some (.own n t l))).map (Option.map (bE.fq (SV.re i c n)))) w∧mR β β (kd hp) (kd ((hp.set i (some (.own n t l))).map (Option.map (bE.fq (SV.re i c n))))) (SV.re i c n):=by
 have hk:∀j,kd ((hp.set i (some (.own n t l))).map (Option.map (bE.fq (SV.re i c n)))) j=if j=i then some (.own n)else kd hp j:=by
  intro j;rw[ze,Sy hi];rfl
 have hl:mR β β (kd hp) (kd ((hp.set i (some (.own n t l))).map (Option.map (bE.fq (SV.re i c n))))) (SV.re i c n):=art (by rw[fM hi];rfl) (by rw[hk,if_pos rfl]) fun j hj=>by rw[hk,if_neg hj]
 refine⟨h.Dk (fun j=>j) rfl ?_ (fun j y hj=>?_) fun _ _ _ _ _ _ e=>e,hl⟩
 ·refine⟨fun j hj=>?_,fun j k hj=>?_,h.first.rd⟩
  ·have ko:j≠i:=fun e=>(by subst e;rcases hm with hm|⟨hm,_⟩<;>(rw[hm]at hj;cases hj));exact⟨by rw[hk,if_neg ko];exact(h.first.cK j hj).1,(h.first.cK j hj).2⟩
  ·by_cases e:j=i
   ·subst e;rcases hm with hm|⟨hm,rfl⟩<;>(rw[hm]at hj;cases hj)
    exact⟨1,by rw[hk,if_pos rfl],by omega,fun e=>by omega⟩
   ·rw[hk,if_neg e];exact h.first.own j k hj
 ·obtain⟨x,h1,rfl⟩:=Dl hj;rcases Iv hi h1 with⟨rfl,rfl⟩|⟨_,h1'⟩
  ·exact⟨_,hi,fun b ho=>ho,h.items j _ hi,.inl rfl⟩
  ·exact⟨x,h1',fun b=>(dM.fq rfl rfl).1,hl.item rfl rfl (h.items j x h1'),.inl rfl⟩
theorem ary(h:cN W bP β₀ β hp w){i k c c':Nat}{t t':Ty}{l:List t.D}{l':List t'.D}(hm:kd bP i=some (.own 0))(hn:bP.length≤k)(hk:hp[k]? =some (some (.own c t l)))(hi:hp[i]? =some (some (.own c' t' l'))):∃β',cN W bP β₀ β' (((hp.set i (some (.own 1 t l))).set k none).map (Option.map (bE.fq (SV.mv i k c)))) w∧mR β β' (kd hp) (kd (((hp.set i (some (.own 1 t l))).set k none).map (Option.map (bE.fq (SV.mv i k c))))) (SV.mv i k c):=by
 have ko:i≠k:=fun e=>by subst e;rw[je hn]at hm;cases hm
 have hil:=(List.getElem?_eq_some_iff.1 hi).1;have hkl:=(List.getElem?_eq_some_iff.1 hk).1;generalize hhp:((hp.set i (some (.own 1 t l))).set k none).map (Option.map (bE.fq (SV.mv i k c)))=dZ;have hgi:dZ[i]? =some (some (.own 1 t l)):=by
  rw[← hhp,List.getElem?_map,List.getElem?_set_ne (Ne.symm ko),List.getElem?_set_self hil];rfl
 have hgk:dZ[k]? =some none:=by
  rw[← hhp,List.getElem?_map,List.getElem?_set_self (by simpa using hkl)];rfl
 have hgo:∀j,j≠i→j≠k→dZ[j]? =(hp[j]?).map (Option.map (bE.fq (SV.mv i k c))):=by
  intro j h1 h2;rw[← hhp,List.getElem?_map,List.getElem?_set_ne (Ne.symm h2),List.getElem?_set_ne (Ne.symm h1)]
 have hko:∀j,j≠i→j≠k→kd dZ j=kd hp j:=by
  intro j h1 h2;unfold kd;rw[hgo j h1 h2];cases hp[j]? with
  |none=>rfl
  |some o=>cases o with
   |none=>rfl
   |some x=>simp[bE.Xh]
 have hki:kd dZ i=some (.own 1):=by rw[fM hgi];rfl
 let β':Env:=⟨β.b,fun j=>if j=i then β.h k else β.h j,β.rd⟩
 have hl:mR β β' (kd hp) (kd dZ) (SV.mv i k c):=aru (by rw[fM hk];rfl) (by rw[fM hi];intro e;cases e) hki hko rfl (fun j hj=>if_neg hj) (if_pos rfl) rfl
 let g:Nat→Nat:=fun j=>if j=i then k else j
 refine⟨β',h.Dk g rfl ⟨fun j hj=>?_,fun j n hj=>?_,h.first.rd⟩ (fun j y hj=>?_) (fun j j' y z hj Gy e=>?_),hl⟩
 ·have h1:j≠i:=fun e=>by subst e;rw[hm]at hj;cases hj
  have h2:j≠k:=fun e=>by subst e;rw[je hn]at hj;cases hj
  rw[hko j h1 h2];exact h.first.cK j hj
 ·have h2:j≠k:=fun e=>by subst e;rw[je hn]at hj;cases hj
  by_cases h1:j=i
  ·subst h1;rw[hm]at hj;cases hj;exact⟨1,hki,by omega,fun e=>by omega⟩
  ·obtain⟨n',k1,k2,k3⟩:=h.first.own j n hj;exact⟨n',by rw[hko j h1 h2];exact k1,k2,fun e=>by show(if j=i then _ else _)=_;rw[if_neg h1];exact k3 e⟩
 ·by_cases h1:j=i
  ·subst h1;rw[hgi]at hj;cases hj;refine⟨_,by show hp[if j=j then k else j]? =_;rw[if_pos rfl];exact hk,fun b ho=>?_,?_,.inr ?_⟩
   ·obtain⟨a,n,m,h3,h4,h5⟩:=ho;have F1:(if j=j then β.h k else β.h j)=_:=h3;rw[if_pos rfl]at F1;exact⟨a,n,m,by show β.h (if j=j then k else j)=_;rw[if_pos rfl];exact F1,h4,h5⟩
   ·show eY β' w (if j=j then β.h k else β.h j) t l;rw[if_pos rfl];have tZ:eY β w (β.h k) t l:=h.items k _ hk;exact eY.of (β:=β) (β':=β') (w:=w) (w':=w) (fun _ _ _ _ h=>h) tZ fun _ _ _ _ _=>rfl
   ·show kd bP (if j=j then k else j)=none;rw[if_pos rfl];exact je hn
  ·by_cases h2:j=k
   ·subst h2;rw[hgk]at hj;cases hj
   ·rw[hgo j h1 h2]at hj;obtain⟨o,h3,h4⟩:=map_some hj;cases o with
    |none=>cases h4
    |some x=>
     have h4':y=x.fq (SV.mv i k c):=(by simpa using h4.symm);subst h4';have hg:g j=j:=if_neg h1;have hhj:β'.h j=β.h j:=if_neg h1;rw[hg];exact⟨x,h3,fun b=>(dM.fq (β:=β) (β':=β') rfl hhj).1,hl.item rfl hhj (h.items j x h3),.inl rfl⟩
 ·have hnk:∀ {j y},dZ[j]? =some (some y)→j≠k:=fun hj e=>by subst e;rw[hgk]at hj;cases hj
  have h1:=hnk hj;have h2:=hnk Gy;have e':(if j=i then k else j)=(if j'=i then k else j'):=e;split at e'<;>split at e'
  ·rename_i a b;rw[a,b]
  ·exact absurd e'.symm h2
  ·exact absurd e' h1
  ·exact e'
theorem aEo(h:cN W bP β₀ β hp w){ids:List Nat}(hlen:bP.length≤hp.length)(hm:∀i∈ids,bP.length≤i)(hn:ids.Nodup):∃β',cN W bP β₀ β' ((hp.take bP.length++ids.map (fun i=>dp hp i)).map (Option.map (bE.dD (Gg bP.length ids) fun v=>v))) w∧si (Gg bP.length ids) β β' (kd hp) (kd ((hp.take bP.length++ids.map (fun i=>dp hp i)).map (Option.map (bE.dD (Gg bP.length ids) fun v=>v)))) false:=by
 generalize hme:bP.length=m at*;generalize hhp:(hp.take m++ids.map (fun i=>dp hp i)).map (Option.map (bE.dD (Gg m ids) fun v=>v))=dZ
 let g:Nat→Nat:=fun j=>if j<m then j else ids.getD (j-m) 0
 have arz:∀ {j},j<m→g j=j:=fun hj=>if_pos hj
 have aMK:∀ {j i:Nat},m≤j→ids[j-m]? =some i→g j=i:=fun hj hi=>by
  show(if _ then _ else _)=_;rw[if_neg (by omega),fv hi]
 have htl:(hp.take m).length=m:=by simp;omega
 have rM:∀ {j y},dZ[j]? =some (some y)→∃x,hp[g j]? =some (some x)∧y=x.dD (Gg m ids) (fun v=>v)∧((j<m∧g j=j)∨(m≤j∧ids[j-m]? =some (g j))):=by
  intro j y hj;rw[← hhp,List.getElem?_map]at hj;obtain⟨o,h1,h2⟩:=map_some hj;cases o with
  |none=>cases h2
  |some x=>
   have h2':y=x.dD (Gg m ids) fun v=>v:=(by simpa using h2.symm);by_cases hjm:j<m
   ·rw[List.getElem?_append_left (by omega),List.getElem?_take,if_pos hjm]at h1;exact⟨x,by rw[arz hjm];exact h1,h2',.inl ⟨hjm,arz hjm⟩⟩
   ·rw[List.getElem?_append_right (by omega),htl,List.getElem?_map]at h1;obtain⟨i,h3,h4⟩:=map_some h1;have e:=aMK (by omega) h3;exact⟨x,by rw[e];exact cf h4,h2',.inr ⟨by omega,by rw[e];exact h3⟩⟩
 have hto:∀ {i j x},arw m ids i=some j→hp[i]? =some (some x)→dZ[j]? =some (some (x.dD (Gg m ids) (fun v=>v)))∧g j=i:=by
  intro i j x hf hi;unfold arw at hf;split at hf
  ·rename_i him;cases hf;refine⟨?_,arz him⟩;rw[← hhp,List.getElem?_map,List.getElem?_append_left (by omega),List.getElem?_take,if_pos him,hi];rfl
  ·obtain⟨k,hk,rfl⟩:=map_some hf;have h3:=jz hk;refine⟨?_,aMK (by omega) (by rw[show k+m-m=k from by omega];exact h3)⟩;rw[← hhp,List.getElem?_map,List.getElem?_append_right (by omega),htl,show k+m-m=k from by omega,List.getElem?_map,h3];show some (Option.map _ (dp hp i))=_;rw[tf hi];rfl
 let β':Env:=⟨fun j=>β.b (g j),fun j=>β.h (g j),β.rd⟩
 have Ao:si (Gg m ids) β β' (kd hp) (kd dZ) false:=by
  refine⟨fun b j hj hb=>?_,fun i j c hj hi=>?_,fun _ _ _ h=>h,fun _ _ _ _ h=>h⟩
  ·obtain⟨x,h1,h2⟩:=jM hb;obtain⟨h3,h4⟩:=hto hj h1;exact⟨by rw[fM h3,bE.mQ,h2];rfl,congrArg β.b h4⟩
  ·obtain⟨x,h1,h2⟩:=jM hi;obtain⟨h3,h4⟩:=hto hj h1;exact⟨c,by rw[fM h3,bE.mQ,h2];rfl,congrArg β.h h4,fun v v' hv e=>by cases e;exact⟨hv,fun e=>e⟩⟩
 have iZ:∀ {i k},kd bP i=some k→i<m:=fun {i k} hi=>by
  rcases Nat.lt_or_ge i m with h1|h1
  ·exact h1
  ·rw[je (by omega)]at hi;cases hi
 have Oh:∀ {i},i<m→arw m ids i=some i:=fun hi=>if_pos hi;refine⟨β',h.Dk g rfl ⟨fun i hi=>?_,fun i c hi=>?_,h.first.rd⟩ (fun j y hj=>?_) (fun j k y z hj hk e=>?_),Ao⟩
 ·obtain⟨k1,k2⟩:=h.first.cK i hi;obtain⟨k3,k4⟩:=Ao.cK i i (Oh (iZ hi)) k1;exact⟨k3,k4.trans k2⟩
 ·obtain⟨c',k1,k2,k3⟩:=h.first.own i c hi;have um:i<m:=iZ hi;obtain⟨x,h1,h2⟩:=jM k1;obtain⟨h3,h4⟩:=hto (Oh um) h1;exact⟨c',by rw[fM h3,bE.mQ,h2];rfl,k2,fun e=>(congrArg β.h (arz um)).trans (k3 e)⟩
 ·obtain⟨x,h1,rfl,h2⟩:=rM hj;refine⟨x,h1,fun b=>(dM.dD (β:=β) (β':=β') rfl rfl).1,gb.Gf Ao (by simp) (fun _=>rfl) rfl (h.items _ x h1),?_⟩;rcases h2 with⟨_,h2⟩|⟨_,h2⟩
  ·exact .inl h2
  ·exact .inr (je (by rw[hme];exact hm _ (List.mem_of_getElem? h2)))
 ·obtain⟨_,_,_,h1⟩:=rM hj;obtain⟨_,_,_,h2⟩:=rM hk;rcases h1 with⟨a1,a2⟩|⟨a1,a2⟩<;>rcases h2 with⟨b1,b2⟩|⟨b1,b2⟩
  ·omega
  ·have:=hm _ (List.mem_of_getElem? b2);omega
  ·have:=hm _ (List.mem_of_getElem? a2);omega
  ·rw[e]at a2;have e1:=kv hn a2;have e2:=kv hn b2;rw[e1]at e2;have:=Option.some.inj e2;omega
theorem aEp{m:yQ}(RU:m.Ok bP){k:Wk}{st tm:St}(h:wk1 m k st=some tm){vals:List Value}(hr:ace W bP β₀ β st.fr st.hp vals w):∃β',ace W bP β₀ β' tm.fr tm.hp vals w:=by
 obtain⟨fr,hp⟩:=st;cases k with
 |fr l=>cases h;exact⟨β,OR l hr.fr,hr.heap⟩
 |cK i l=>
  simp only[wk1]at h;split at h
  ·rename_i cells e hi;cases h;obtain⟨h1,h2⟩:=hr.heap.Iw (cf hi) fun c=>OS l;exact⟨β,by show dC (LV.den β (kd _)) fr vals;rw[h2];exact hr.fr,h1⟩
  ·cases h;exact⟨β,hr⟩
 |kA k t=>
  simp only[wk1]at h;split at h
  ·rename_i vU;cases h;obtain⟨β',h1,h2,h3⟩:=hr.heap.Sx t;refine⟨β',(hr.fr.imp fun _ _=>LV.gB h2).aEl fun b hb=>?_,h1⟩;have mw:∃x,fr[k]? =some x:=by
    have:fr.length=vals.length:=hr.fr.length;have hk:=(List.getElem?_eq_some_iff.1 hb).1;exact⟨_,List.getElem?_eq_getElem (show k<fr.length by omega)⟩
   obtain⟨x,hx⟩:=mw;obtain⟨b',CV,hd⟩:=hr.fr.get hx;rw[hb]at CV;cases CV;simp only[List.getD_eq_getElem?_getD,hx,Option.getD_some]at vU;cases x with
   |one x=>cases x with
    |sc s=>
     have:=GQ vU hd;subst this;exact h3
    |agg l=>cases vU
   |dB l=>cases vU
   |dT=>cases vU
  ·cases h;exact⟨β,hr⟩
 |l9 i j t=>
  simp only[wk1]at h;split at h
  ·rename_i cells e hi;split at h
   ·rename_i vU;cases h;obtain⟨β',h1,h2,h3⟩:=hr.heap.Sx t;have um:(cL hp hp.length (.own 0 t []))[i]? =some (some (.cK cells e)):=by
     refine(eh hp _ _ _ _ ?_).2 (cf hi);have:=(List.getElem?_eq_some_iff.1 (cf hi)).1;omega
    obtain⟨h4,h5⟩:=h1.Iw (cells':=cells.set j (.sl hp.length 0)) um fun c hc=>Aq hc vU h3;exact⟨β',by show dC (LV.den β' (kd _)) fr vals;rw[h5];exact hr.fr.imp fun _ _=>LV.gB h2,h4⟩
   ·cases h;exact⟨β,hr⟩
  ·cases h;exact⟨β,hr⟩
 |Sw i=>
  simp only[wk1]at h;split at h
  ·rename_i hm;split at h
   ·rename_i c t l hi;cases h;obtain⟨β',h1,h2⟩:=aEn hr.heap (RU.n▸hm) (cf hi);exact⟨β',h2.fr hr.fr,h1⟩
   ·cases h
  ·cases h
 |ver i=>
  simp only[wk1]at h;split at h
  ·rename_i hm;split at h
   ·rename_i c t l hi;cases h;obtain⟨h1,h2⟩:=azQ (n:=0) hr.heap (.inl (je (RU.n▸hm))) (cf hi);exact⟨β,h2.fr hr.fr,h1⟩
   ·cases h
  ·cases h
 |one i=>
  simp only[wk1]at h;split at h
  ·rename_i hm;split at h
   ·rename_i c t l hi;cases h;obtain⟨h1,h2⟩:=azQ (n:=1) hr.heap (.inr ⟨RU.v i hm,rfl⟩) (cf hi);exact⟨β,h2.fr hr.fr,h1⟩
   ·cases h
  ·cases h
 |move i j=>
  simp only[wk1]at h;split at h
  ·rename_i hm;simp only[Bool.and_eq_true,decide_eq_true_eq]at hm;split at h
   ·rename_i c t l c' t' l' hj hi;cases h;obtain⟨β',h1,h2⟩:=ary hr.heap (RU.v i hm.1) (RU.n▸hm.2) (cf hj) (cf hi);exact⟨β',h2.fr hr.fr,h1⟩
   ·cases h
  ·cases h
 |cut ids=>
  simp only[wk1]at h;split at h
  ·rename_i hc;simp only[Bool.and_eq_true,decide_eq_true_eq,List.all_eq_true]at hc;cases h;rw[RU.n]at hc ⊢;obtain⟨β',h1,h2⟩:=aEo hr.heap hc.1.1 hc.1.2 (GR hc.2);refine⟨β',?_,h1⟩;have hfr:=hr.fr;show dC (LV.den β' _) (fr.map _) vals;exact hfr.vF fun a b=>LV.gD h2 (by simp)
  ·cases h
 |iN i off n k=>
  simp only[wk1]at h;split at h
  ·rename_i cells e hi;cases h;obtain⟨h1,h2⟩:=hr.heap.Iw (cf hi) fun c=>pM (off:=off) (n:=n) (k:=k);exact⟨β,by show dC (LV.den β (kd _)) fr vals;rw[h2];exact hr.fr,h1⟩
  ·cases h;exact⟨β,hr⟩
 |mS i off n k=>cases h;exact⟨β,Dn (fun _ _=>pM) hr.fr,hr.heap⟩
 |Ap i=>
  simp only[wk1]at h;split at h
  ·rename_i cells e hi;cases h;obtain⟨h1,h2⟩:=hr.heap.Iw (cf hi) fun c=>GO;exact⟨β,by show dC (LV.den β (kd _)) fr vals;rw[h2];exact hr.fr,h1⟩
  ·cases h;exact⟨β,hr⟩
 |azO i=>cases h;exact⟨β,Dn (fun _ _=>GO) hr.fr,hr.heap⟩
 |cu=>
  cases h;refine⟨β,?_,hr.heap.relabel (wg .sym)⟩;show dC (LV.den β (kd (hp.map _))) (fr.map _) vals;rw[ze];exact(wg .sym).fr hr.fr
 |Dp k t=>cases h
 |aEm i j t=>cases h
 |bS=>cases h
 |ck=>cases h
 |pN=>cases h
 |bK b o i t=>cases h
theorem afN{m:yQ}(RU:m.Ok bP):∀ (ks:List Wk) {st tm:St} {β:Env},wkB m ks st=some tm→∀ {vals:List Value},ace W bP β₀ β st.fr st.hp vals w→∃β',ace W bP β₀ β' tm.fr tm.hp vals w
 | [],_,_,_,h,_,hr=>by cases h;exact⟨_,hr⟩
 |k::ks,st,_,_,h,_,hr=>by
  simp only[wkB]at h;split at h
  ·rename_i st1 h1;obtain⟨β1,RS⟩:=aEp RU h1 hr;exact afN RU ks h RS
  ·cases h
theorem afO{m:yQ}(RU:m.Ok bP):∀ (ks:List Wk) {st tm:St} {β:Env},uu m ks st=some tm→∀ {vals:List Value},ace W bP β₀ β st.fr st.hp vals w→∃β',ace W bP β₀ β' tm.fr tm.hp vals w
 | [],_,_,_,h,_,hr=>by cases h;exact⟨_,hr⟩
 |k::ks,st,_,_,h,_,hr=>by
  simp only[uu]at h;split at h
  ·rename_i st1 h1;obtain⟨β1,RS⟩:=afN RU _ h1 hr;exact afO RU ks h RS
  ·cases h
end
def cT.wk(m:yQ)(ws:Exit→List Wk):cT→cT
 | .bN e st=>match uu m (ws e) st with
  |some tm=>.bN e tm
  |none=>.fail
 | .ite b x y=>.ite b (x.wk m ws) (y.wk m ws)
 | .need p x=>.need p (x.wk m ws)
 | .fail=>.fail
theorem qu{m:yQ}{ws:Exit→List Wk}{R:Exit→St→Prop}:∀ {r:cT},(r.wk m ws).sat R→r.sat fun e st=>∃tm,uu m (ws e) st=some tm∧R e tm
 | .bN e st,h=>by
  simp only[cT.wk]at h;split at h
  ·rename_i tm h1;exact⟨tm,h1,h⟩
  ·exact h.elim
 | .ite b x y,h=>⟨fun e=>qu (h.1 e),fun e=>qu (h.2 e)⟩
 | .need p x,h=>⟨h.1,qu h.2⟩
 | .fail,h=>h
theorem Rel.wk{W:World}{bP:Hp}{β₀ β:Env}{st tm:St}{a:Act}{w:World}(hr:Rel W bP β₀ β st a w){m:yQ}(RU:m.Ok bP){ks:List Wk}(h:uu m ks st=some tm):∃β',Rel W bP β₀ β' tm a w:=by
 obtain⟨β',h1⟩:=afO RU ks h ⟨hr.fr,hr.heap⟩;exact⟨β',hr.defers,h1.fr,h1.heap⟩
theorem Ex.wk{P:Program}{bP:Hp}{c:Code}{st:St}{r:cT}(ws:Exit→List Wk)(h:Ex P bP c st r):Ex P bP c st (r.wk (.of bP) ws):=by
 intro W β₀ R Q hs hq β a w hr;refine h W β₀ _ Q (qu hs) ?_ β a w hr;rintro e a w ⟨st1,β1,⟨st2,h1,h2⟩,h3⟩;obtain⟨β2,h4⟩:=h3.wk (yQ.df bP) h1;exact hq _ _ _ ⟨st2,β2,h2,h4⟩
theorem Ex.pre{P:Program}{bP:Hp}{c:Code}{st tm:St}{r:cT}{m:yQ}(RU:m.Ok bP)(ks:List Wk)(hk:uu m ks st=some tm)(h:Ex P bP c tm r):Ex P bP c st r:=by
 intro W β₀ R Q hs hq β a w hr;obtain⟨β2,h4⟩:=hr.wk RU hk;exact h W β₀ R Q hs hq β2 a w h4
def End.wk(m:yQ)(ks:List Wk):End→End
 | .bN v hp=>match uu m ks ⟨[v],hp⟩with
  |some ⟨[v'],dZ⟩=>.bN v' dZ
  |_=>.fail
 | .ite b x y=>.ite b (x.wk m ks) (y.wk m ks)
 | .need p x=>.need p (x.wk m ks)
 | .fail=>.fail
theorem qv{m:yQ}{ks:List Wk}{R:LV→Hp→Prop}:∀ {r:End},(r.wk m ks).sat R→r.sat fun v hp=>∃v' dZ,uu m ks ⟨[v],hp⟩=some ⟨[v'],dZ⟩∧R v' dZ
 | .bN v hp,h=>by
  simp only[End.wk]at h;split at h
  ·rename_i v' dZ h1;exact⟨v',dZ,h1,h⟩
  ·exact h.elim
 | .ite b x y,h=>⟨fun e=>qv (h.1 e),fun e=>qv (h.2 e)⟩
 | .need p x,h=>⟨h.1,qv h.2⟩
 | .fail,h=>h
theorem my.wk{P:Program}{f:FuncId}{args:List LV}{hp:Hp}{t:End}(ks:List Wk)(h:my P f args hp t):my P f args hp (t.wk (.of hp) ks):=by
 intro R hs β w vals hh dt;refine(h _ (qv hs) β w vals hh dt).mono ?_;rintro e w' ⟨val,β',r,dZ,rfl,⟨v',hp2,h1,h2⟩,hd,hr⟩;obtain⟨β2,h3⟩:=afO (yQ.df hp) ks h1 (vals:= [val]) ⟨.cons hd .nil,hr⟩;obtain⟨h4,h5⟩:=h3;cases h4 with
 |cons h6 _=>exact⟨val,β2,v',hp2,rfl,h2,h6,h5⟩
theorem Ex.iF{P:Program}{m:Hp}{c:Code}{X:Type}(μ:X→Nat)(S:X→St)(I:X→Prop)(rnd F:X→cT)(h:∀x,I x→Ex P m c (S x) (rnd x)) (hr:∀x R,I x→(F x).sat R→(rnd x).sat fun e s=>(e= .normal∧∃y,s=S y∧I y∧μ y<μ x∧(F y).sat R)∨(e≠ .normal∧R e s)) {x:X} (hx:I x):Ex P m (.loop c) (S x) (F x):=by
 intro W β₀ R Q hs hq β a w Sq;have key:∀ (n:Nat) (y:X),I y→μ y<n→(F y).sat R→∀β a w,Rel W m β₀ β (S y) a w→Code.rounds P c Q n a w:=by
  intro n;induction n with
  |zero=>intro y _ h0;omega
  |succ n ih=>
   intro y hy hn hF β a w rL;rw[rounds_succ];refine h y hy W β₀ _ _ (hr y R hy hF) ?_ β a w rL;rintro e a w ⟨t,β',h1,h2⟩;rcases h1 with⟨rfl,z,rfl,hz,iZ,hF'⟩|⟨ko,h1⟩
   ·exact ih z hz (by omega) hF' β' a w h2
   ·cases e with
    |normal=>exact absurd rfl ko
    |exit _=>exact hq _ _ _ ⟨t,β',h1,h2⟩
    |goto _=>exact hq _ _ _ ⟨t,β',h1,h2⟩
    |ret=>exact hq _ _ _ ⟨t,β',h1,h2⟩
    |panic _=>exact hq _ _ _ ⟨t,β',h1,h2⟩
    |outgrown=>exact hq _ _ _ ⟨t,β',h1,h2⟩
 exact wp_loop_rounds (μ x+1) (key _ x hx (Nat.lt_succ_self _) hs β a w Sq)
theorem Ex.need{P:Program}{m:Hp}{c:Code}{st:St}{p:Prop}{r:cT}(h:p→Ex P m c st r):Ex P m c st (.need p r):=fun W β₀ R Q hs hq β a w hr=>h hs.1 W β₀ R Q hs.2 hq β a w hr
def fV(fn:Func):Code:=fn.body.getD .skip
def k9(c:Code)(id:Nat):List Code:=(Sm c).filterMap fun p=>if p.1=id then some p.2 else none
def cG(fn:Func)(id:Nat):Code:=match k9 (fV fn) id with
 | [.loop b]=>b
 |_=>.ret
def uS:List Code→Bool
 | [.loop _]=>true
 |_=>false
theorem acg{fn:Func}{id:Nat}(h:uS (k9 (fV fn) id)=true):k9 (fV fn) id= [.loop (cG fn id)]:=by
 unfold cG;generalize k9 (fV fn) id=l at*;unfold uS at h;split at h
 ·rfl
 ·cases h
theorem ach{LT:gW}{id:Nat}{f:St→cT}(h:GK LT id=some f):(id,f)∈LT:=by
 induction LT with
 |nil=>cases h
 |cons p l ih=>
  obtain⟨i,g⟩:=p;simp only[GK]at h;split at h
  ·rename_i e;subst e;cases h;simp
  ·exact List.mem_cons_of_mem _ (ih h)
theorem cn.dO{P:Program}{m:Hp}{LT:gW}{fn:Func}(h:∀p∈LT,uS (k9 (fV fn) p.1)=true∧∀st,Ex P m (.loop (cG fn p.1)) st (p.2 st)):cn P m LT (fV fn):=by
 refine cn.of fun id f c' hf hm st=>?_;obtain⟨h1,h2⟩:=h _ (ach hf);have:c'∈k9 (fV fn) id:=List.mem_filterMap.2 ⟨(id,c'),hm,by simp⟩;rw[acg h1]at this;simp at this;subst this;exact h2 st
def ma(P:Program)(tab:List (FuncId×bT))(LT:gW)(fn:Func)(id:Nat)(hp:Hp)(ws:Exit→List Wk)(st:St):cT:=(exec P (Xf tab) fork hp LT (cG fn id) st).wk (.of hp) ws
theorem wj{P:Program}(jy:P.follows .mixedOrders=true){tab:List (FuncId×bT)}(mc:∀p∈tab,p.2.Ok P p.1){LT:gW}{fn:Func}{id:Nat}{hp:Hp}{ws:Exit→List Wk}{st:St}(hL:cn P hp LT (cG fn id)):Ex P hp (cG fn id) st (ma P tab LT fn id hp ws st):=(Ex.W9 (afK mc) jy hL rfl).wk ws
def cY(P:Program)(tab:List (FuncId×bT))(LT:gW)(fn:Func)(args:List LV)(hp:Hp)(ks:List Wk):End:=((exec P (Xf tab) fork hp LT (fV fn) (entry fn args hp)).ends P fn).wk (.of hp) ks
theorem cg{P:Program}(jy:P.follows .mixedOrders=true){tab:List (FuncId×bT)}(mc:∀p∈tab,p.2.Ok P p.1){f:FuncId}{fn:Func}(hf:P.funcs[f]? =some fn)(hb:fn.body.isSome=true){LT:gW}{args:List LV}{hp:Hp}{ks:List Wk}(hL:cn P hp LT (fV fn)):my P f args hp (cY P tab LT fn args hp ks):=by
 have mw:fn.body=some (fV fn):=by
  unfold fV;cases h:fn.body with
  |none=>rw[h]at hb;cases hb
  |some c=>rfl
 exact(Sp hf mw (Ex.W9 (A:=fork) (afK mc) jy hL rfl)).wk ks
theorem my.use{P:Program}{f:FuncId}{args:List LV}{hp:Hp}{t:End}(h:my P f args hp t){V:LV}{D:List (Nat×bE)}(hs:t.sat fun v dZ=>v=V∧dZ=cq D hp){Q:LV→List (Nat×bE)→Prop}(hQ:Q V D):il P f args hp fun v dZ=>∃d,Q v d∧dZ=cq d hp:=by
 refine h _ ?_;have key:∀ {t:End},(t.sat fun v dZ=>v=V∧dZ=cq D hp)→t.sat fun v dZ=>∃d,Q v d∧dZ=cq d hp:=by
  intro t;induction t with
  |bN v dZ=>rintro⟨rfl,rfl⟩;exact⟨D,hQ,rfl⟩
  |ite b x y ihx ihy=>exact fun h=>⟨fun e=>ihx (h.1 e),fun e=>ihy (h.2 e)⟩
  |need p x ih=>exact fun h=>⟨h.1,ih h.2⟩
  |fail=>exact fun h=>h
 exact key hs
def Dr(l:List SV):List SV:=if l.length=32 then OV 0 32 .u8 l else if l.length=8 then OV 0 8 .u64 (OV 0 8 .u8 l)else if l.length=16 then OV 0 16 .u64 l else l
theorem Sz{β:Env}{L:Nat→Option Kd}{l:List SV}{vs:List Value}(h:dc β L l vs):dc β L (Dr l) vs:=by
 unfold Dr;split
 ·exact pM h
 ·split
  ·exact pM (pM h)
  ·split
   ·exact pM h
   ·exact h
def bT.sym(e:bT):bT:=⟨e.tys,fun args hp=>e.run (args.map fun a=>(a.fq SV.symm).onL Dr) (hp.map (Option.map (bE.fq SV.symm)))⟩
theorem afP{β:Env}{L:Nat→Option Kd}{s:SV}{v:Value}:(s.symm).den β L v↔s.den β L v:=by cases s<;>exact Iff.rfl
theorem aci{β:Env}{L:Nat→Option Kd}{s:SV}{vs:List Value}:(s.symm).kZ β L vs↔s.kZ β L vs:=by cases s<;>exact Iff.rfl
theorem GS{β:Env}{L:Nat→Option Kd}:mR β β L L SV.symm:=⟨afP.2,fun _ _ _=>rfl,fun _ _ _ h=>h⟩
theorem GU{β:Env}{L:Nat→Option Kd}:∀ {l:List SV} {vs:List Value},dc β L (l.map SV.symm) vs→dc β L l vs
 | [],_,h=>h
 |s::l,_,h=>by
  cases h with
  |cons h1 h2=>exact .cons (aci.1 h1) (GU h2)
theorem acj{β:Env}{L:Nat→Option Kd}{w:World}{i:Nat}{x:bE}(h:gb β L w i (x.fq SV.symm)):gb β L w i x:=by
 cases x with
 |cK cells e=>obtain⟨c,fz,h1,h2,h3⟩:=h;exact⟨c,fz,h1,h2,GU h3⟩
 |_=>exact h
theorem lC:∀ (d:List (Nat×bE)) {hp hp2:Hp} {j:Nat} {x:bE},(∀ (j:Nat) (x:bE),hp[j]? =some (some x)→∃y,hp2[j]? =some (some y)∧(y=x∨y=x.fq SV.symm))→(cq d hp)[j]? =some (some x)→∃y,(cq d hp2)[j]? =some (some y)∧(y=x∨y=x.fq SV.symm)
 | [],_,_,j,x,h,hj=>h j x hj
 |(i,z)::d,hp,hp2,j,x,h,hj=>by
  refine lC d (hp:=cL hp i z) (hp2:=cL hp2 i z) (fun k y hk=>?_) hj;by_cases e:k=i
  ·subst e;rw[fR]at hk;cases hk;exact⟨z,fR _ _ _,.inl rfl⟩
  ·obtain⟨y',h1,h2⟩:=h k y ((eh hp i z k y e).1 hk);exact⟨y',(eh hp2 i z k y' e).2 h1,h2⟩
theorem rv:∀ (d:List (Nat×bE)) {hp hp2:Hp},kd hp=kd hp2→kd (cq d hp)=kd (cq d hp2)
 | [],_,_,h=>h
 |(i,z)::d,hp,hp2,h=>rv d (hp:=cL hp i z) (hp2:=cL hp2 i z) (by funext j;rw[fB,fB,h])
theorem bT.Ok.sym{P:Program}{f:FuncId}{e:bT}(he:e.Ok P f):e.sym.Ok P f:=by
 refine⟨fun args hp Q h β w vals hh dt=>?_⟩;generalize hhp:hp.map (Option.map (bE.fq SV.symm))=hp2;have hk:kd hp2=kd hp:=by rw[← hhp];exact ze hp
 have hh2:cN w hp2 β β hp2 w:=hhp▸(hh.relabel GS).self;have aEq:dC (LV.den β (kd hp2)) (args.map fun a=>(a.fq SV.symm).onL Dr) vals:=by
  rw[hk];exact dt.vF fun a b h=>LV.wi (fun _ _=>Sz) (GS.lv h)
 have hto:∀ (j:Nat) (x:bE),hp[j]? =some (some x)→∃y,hp2[j]? =some (some y)∧(y=x∨y=x.fq SV.symm):=by
  intro j x hj;refine⟨x.fq SV.symm,?_,.inr rfl⟩;rw[← hhp,List.getElem?_map,hj];rfl
 have hof:∀ (j:Nat) (y:bE),hp2[j]? =some (some y)→∃x,hp[j]? =some (some x)∧y=x.fq SV.symm:=by
  intro j y hj;rw[← hhp]at hj;exact Dl hj
 have gp:(e.run (args.map fun a=>(a.fq SV.symm).onL Dr) hp2).holds Q:=hhp▸h;refine(he.calls _ _ Q gp β w vals hh2 aEq).mono ?_;rintro en w' ⟨val,β',r,dZ,rfl,⟨d,hq,rfl⟩,hd,h'⟩;have hk2:kd (cq d hp2)=kd (cq d hp):=rv d hk;refine⟨val,β',r,cq d hp,rfl,⟨d,hq,rfl⟩,by rw[← hk2];exact hd,?_⟩;have kr:∀ {x y:bE} {i b:Nat},(y=x∨y=x.fq SV.symm)→(dM β' y i b↔dM β' x i b):=by
  rintro x y i b (rfl|rfl)
  ·exact Iff.rfl
  ·exact dM.fq rfl rfl
 refine⟨fun j x hj=>?_,fun i j x y b hi hj h1 h2=>?_,?_,fun i x b hi ho=>?_,h'.os,h'.output,h'.size,fun b hb rC=>?_,fun pm v t l hr=>?_,h'.from_⟩
 ·obtain⟨y,h1,h2⟩:=lC d hto hj;rw[← hk2];have:=h'.items j y h1;rcases h2 with rfl|rfl
  ·exact this
  ·exact acj this
 ·obtain⟨x',a1,a2⟩:=lC d hto hi;obtain⟨y',b1,b2⟩:=lC d hto hj;exact h'.inj i j x' y' b a1 b1 ((kr a2).2 h1) ((kr b2).2 h2)
 ·rw[← hk,← hk2];exact h'.first
 ·obtain⟨x',a1,a2⟩:=lC d hto hi;rcases h'.own i x' b a1 ((kr a2).2 ho)with k|⟨y,k1,k2⟩
  ·exact .inl k
  ·obtain⟨x0,k3,rfl⟩:=hof i y k1;exact .inr ⟨x0,k3,(dM.fq rfl rfl).1 k2⟩
 ·refine h'.bV b hb fun⟨j,y,h1,h2⟩=>rC ?_;obtain⟨x0,k3,rfl⟩:=hof j y h1;exact⟨j,x0,k3,(dM.fq rfl rfl).1 h2⟩
 ·obtain⟨h1,h2⟩:=h'.reads pm v t l hr;refine⟨h1,fun b hb=>⟨(h2 b hb).1,fun⟨j,x,hj,ho⟩=>(h2 b hb).2 ?_⟩⟩;obtain⟨y,k1,k2⟩:=lC d hto hj;exact⟨j,y,k1,(kr k2).2 ho⟩
structure cl (T X:Type) where
 rd:T→Option X
 wr:X→T
 ok:∀ {t x},rd t=some x→t=wr x
def cl.jr{T X Y:Type}(c:cl T X)(f:X→Y)(g:Y→X)(h:∀x,g (f x)=x):cl T Y where
 rd t:=(c.rd t).map f
 wr y:=c.wr (g y)
 ok:=by
  intro t y hy;obtain⟨x,hx,rfl⟩:=map_some hy;rw[h];exact c.ok hx
def bX(k:IntKind):cl SV Int where
 rd s:=match s with
  | .int k' (.sym n)=>if k'=k then some n else none
  |_=>none
 wr n:=.int k (.sym n)
 ok:=by
  intro s x h;split at h
  ·split at h
   ·rename_i e;subst e;cases h;rfl
   ·cases h
  ·cases h
def ou:cl SV Bool where
 rd s:=match s with
  | .bool (.sym b)=>some b
  |_=>none
 wr b:=.bool (.sym b)
 ok:=by
  intro s x h;split at h
  ·cases h;rfl
  ·cases h
def gx(pm nn:Bool)(t:Ty):cl SV (List t.D) where
 rd s:=match s with
  | .rd nm nn' t' l=>if h:t'=t then(if nm=pm∧nn'=nn then some (h▸l)else none)else none
  |_=>none
 wr l:=.rd pm nn t l
 ok:=by
  intro s x h;split at h
  ·split at h
   ·rename_i e;subst e;split at h
    ·rename_i e;obtain⟨rfl,rfl⟩:=e;cases h;rfl
    ·cases h
   ·cases h
  ·cases h
def aEr:cl SV Unit where
 rd s:=match s with
  | .gm (.slice none 0 0)=>some ()
  |_=>none
 wr _:=.gm (.slice none 0 0)
 ok:=by
  intro s x h;split at h
  ·rfl
  ·cases h
def uv:cl SV Unit where
 rd s:=match s with
  | .gm (.pointer none)=>some ()
  |_=>none
 wr _:=.gm (.pointer none)
 ok:=by
  intro s x h;split at h
  ·rfl
  ·cases h
def cr(b o:Nat):cl SV Unit where
 rd s:=match s with
  | .ptr b' o'=>if b'=b∧o'=o then some ()else none
  |_=>none
 wr _:=.ptr b o
 ok:=by
  intro s x h;split at h
  ·split at h
   ·rename_i e;obtain⟨rfl,rfl⟩:=e;rfl
   ·cases h
  ·cases h
def pk(i v:Nat):cl SV Unit where
 rd s:=match s with
  | .sl b' o'=>if b'=i∧o'=v then some ()else none
  |_=>none
 wr _:=.sl i v
 ok:=by
  intro s x h;split at h
  ·split at h
   ·rename_i e;obtain⟨rfl,rfl⟩:=e;rfl
   ·cases h
  ·cases h
def oa(t:Ty)(n:Nat):cl SV (List t.D) where
 rd s:=match s with
  | .arr t' n' l=>if h:t'=t then(if n'=n then some (h▸l)else none)else none
  |_=>none
 wr l:=.arr t n l
 ok:=by
  intro s x h;split at h
  ·split at h
   ·rename_i e;subst e;split at h
    ·rename_i e;subst e;cases h;rfl
    ·cases h
   ·cases h
  ·cases h
noncomputable section
variable {T X Y Z:Type}
def bG:cl (List T) Unit where
 rd l:=match l with
  | []=>some ()
  |_::_=>none
 wr _:= []
 ok:=by
  intro s x h;split at h
  ·rfl
  ·cases h
def bD(a:cl T X)(r:cl (List T) Y):cl (List T) (X×Y) where
 rd l:=match l with
  | []=>none
  |x::l=>match a.rd x,r.rd l with
   |some x,some y=>some (x,y)
   |_,_=>none
 wr p:=a.wr p.1::r.wr p.2
 ok:=by
  intro s x h;split at h
  ·cases h
  ·split at h
   ·rename_i h1 h2;cases h;rw[a.ok h1,r.ok h2]
   ·cases h
def bR(a:cl T Unit)(r:cl (List T) Y):cl (List T) Y where
 rd l:=match l with
  | []=>none
  |x::l=>match a.rd x,r.rd l with
   |some _,some y=>some y
   |_,_=>none
 wr p:=a.wr ()::r.wr p
 ok:=by
  intro s x h;split at h
  ·cases h
  ·split at h
   ·rename_i h1 h2;cases h;rw[a.ok h1,r.ok h2]
   ·cases h
def afQ(a:cl T Unit)(r:cl (List T) Y):Nat→cl (List T) Y
 |0=>r
 |n+1=>bR a (afQ a r n)
end
def Xj(k:IntKind):List SV→Option ab
 | []=>some []
 | .int k' (.sym n)::l=>if k'=k then(Xj k l).map (n:: ·)else none
 |_::_=>none
theorem OY{k:IntKind}:∀ {l:List SV} {m:ab},Xj k l=some m→l=m.map fun n=>.int k (.sym n)
 | [],m,h=>by cases h;rfl
 |s::l,m,h=>by
  unfold Xj at h;split at h
  ·rename_i e;cases e
  ·rename_i e;injection e with e1 e2;subst e1 e2;split at h
   ·rename_i e;subst e;obtain⟨m',h1,rfl⟩:=map_some h;rw[OY h1];rfl
   ·cases h
  ·cases h
def aML(k:IntKind)(n:Nat):cl (List SV) ab where
 rd l:=match Xj k l with
  |some m=>if l.length=n then some m else none
  |none=>none
 wr l:=(List.range n).map fun i=>.int k (.sym (l.getD i 0))
 ok:=by
  intro s x h;split at h
  ·rename_i m hm;split at h
   ·rename_i hn;cases h;have:=OY hm;subst this;simp only[List.length_map]at hn;subst hn;apply List.ext_getElem?;intro i;simp only[List.getElem?_map];rcases Nat.lt_or_ge i x.length with h1|h1
    ·rw[List.getElem?_range h1];simp[List.getD_eq_getElem?_getD,List.getElem?_eq_getElem h1]
    ·rw[List.getElem?_eq_none h1,List.getElem?_eq_none (by simpa using h1)];rfl
   ·cases h
  ·cases h
noncomputable section
variable {X Y:Type}
def bO(s:cl SV X):cl LV X where
 rd x:=match x with
  | .one (.sc x)=>s.rd x
  |_=>none
 wr x:=.one (.sc (s.wr x))
 ok:=by
  intro x v h;split at h
  ·rw[s.ok h]
  ·cases h
def jf(r:cl (List SV) X):cl LV X where
 rd x:=match x with
  | .one (.agg x)=>r.rd x
  |_=>none
 wr x:=.one (.agg (r.wr x))
 ok:=by
  intro x v h;split at h
  ·rw[r.ok h]
  ·cases h
def aMM:cl LV Unit where
 rd x:=match x with
  | .dT=>some ()
  |_=>none
 wr _:=.dT
 ok:=by
  intro x v h;split at h
  ·rfl
  ·cases h
def ob(e:TypeId)(r:cl (List SV) X):cl (Option bE) X where
 rd x:=match x with
  |some (.cK cells e')=>if e'=e then r.rd cells else none
  |_=>none
 wr x:=some (.cK (r.wr x) e)
 ok:=by
  intro x v h;split at h
  ·split at h
   ·rename_i e;subst e;rw[r.ok h]
   ·cases h
  ·cases h
def dd(ver:Nat)(t:Ty):cl (Option bE) (List t.D) where
 rd x:=match x with
  |some (.own ver' t' l)=>if h:t'=t then(if ver'=ver then some (h▸l)else none)else none
  |_=>none
 wr l:=some (.own ver t l)
 ok:=by
  intro x v h;split at h
  ·split at h
   ·rename_i e;subst e;split at h
    ·rename_i e;subst e;cases h;rfl
    ·cases h
   ·cases h
  ·cases h
def dy(a:cl (List LV) X)(b:cl Hp Y):cl St (X×Y) where
 rd s:=match a.rd s.fr,b.rd s.hp with
  |some x,some y=>some (x,y)
  |_,_=>none
 wr p:=⟨a.wr p.1,b.wr p.2⟩
 ok:=by
  intro s x h;split at h
  ·rename_i h1 h2;cases h;obtain⟨fr,hp⟩:=s;have e1:=a.ok h1;have e2:=b.ok h2;simp only at e1 e2;subst e1 e2;rfl
  ·cases h
end
abbrev jk(n:Nat){Y:Type}(r:cl (List LV) Y):cl (List LV) Y:=afQ aMM r n
theorem dC.mid{α β:Type}{R:α→β→Prop}:∀ {x:List α} {a:α} {y:List α} {vs:List β},dC R (x++a::y) vs→∃u v w,vs=u++v::w∧dC R x u∧R a v∧dC R y w
 | [],a,y,_,h=>by
  cases h with
  |cons h t=>exact⟨[],_,_,rfl,.nil,h,t⟩
 |b::x,a,y,_,h=>by
  cases h with
  |cons h t=>
   obtain⟨u,v,w,rfl,h1,h2,h3⟩:=dC.mid t;exact⟨_::u,v,w,rfl,.cons h h1,h2,h3⟩
theorem il.Ix{P:Program}{f:FuncId}{x y:List LV}{pm:Bool}{t:Ty}{l:List t.D}{hp:Hp}{R:LV→Hp→Prop}(h1:l= []→il P f (x++ .one (.sc (.gm (.slice none 0 0)))::y) hp R) (h2:il P f (x++ .one (.sc (.rd pm true t l))::y) hp R):il P f (x++ .one (.sc (.rd pm false t l))::y) hp R:=by
 intro β w vals hh dt;obtain⟨u,v,w',rfl,a1,a2,a3⟩:=dt.mid;obtain⟨b1,_,b3⟩:=(a2:SV.den β (kd hp) (.rd pm false t l) v);obtain⟨a,n,c,rfl,hn,hc,hz,_⟩:=(hh.aDR b3).1;cases a with
 |none=>
  have hc0:=hz rfl;subst hc0;have AU:n=0:=by omega
  subst AU;exact h1 (List.eq_nil_of_length_eq_zero hn.symm) β w _ hh (a1.append (.cons ⟨b1,rfl⟩ a3))
 |some a=>exact h2 β w _ hh (a1.append (.cons ⟨b1,fun _=>by simp[notNil],b3⟩ a3))
def Xk{X:Type}(C:cl St X)(m:yQ)(ks:List Wk)(F:X→cT)(st:St):cT:=match uu m ks st with
 |some tm=>match C.rd tm with
  |some x=>F x
  |none=>.fail
 |none=>.fail
theorem OZ{P:Program}{hp:Hp}{c:Code}{X:Type}{C:cl St X}{m:yQ}(hm:m.Ok hp){ks:List Wk}{F:X→cT}(h:∀x,Ex P hp c (C.wr x) (F x)):∀st,Ex P hp c st (Xk C m ks F st):=by
 intro st;unfold Xk;split
 ·rename_i tm hk;split
  ·rename_i x hx;exact Ex.pre hm ks hk (by rw[C.ok hx];exact h x)
  ·exact fun _ _ _ _ hs=>hs.elim
 ·exact fun _ _ _ _ hs=>hs.elim
abbrev iF{X:Type}(C:cl St X)(m:Nat)(ks:List Wk)(F:X→cT)(st:St):cT:=Xk C ⟨m,fun _=>false⟩ ks F st
theorem fI{P:Program}{hp:Hp}{c:Code}{X:Type}{C:cl St X}{ks:List Wk}{F:X→cT}(h:∀x,Ex P hp c (C.wr x) (F x)):∀st,Ex P hp c st (iF C hp.length ks F st):=OZ (yQ.aMJ hp) h
abbrev fN{X:Type}(C:cl St X)(hp:Hp)(ks:List Wk)(F:X→cT)(st:St):cT:=Xk C (.of hp) ks F st
theorem dq{P:Program}{hp:Hp}{c:Code}{X:Type}{C:cl St X}{ks:List Wk}{F:X→cT}(h:∀x,Ex P hp c (C.wr x) (F x)):∀st,Ex P hp c st (fN C hp ks F st):=OZ (yQ.df hp) h
theorem Xl{P:Program}(jy:P.follows .mixedOrders=true){tab:List (FuncId×bT)}(mc:∀p∈tab,p.2.Ok P p.1){LT:gW}{fn:Func}{id:Nat}{hp:Hp}{ws:Exit→List Wk}(hL:cn P hp LT (cG fn id)) {X:Type} (μ:X→Nat) (S:X→St) (I:X→Prop) (F:X→cT) {T:X→cT} (hT:∀x,I x→ma P tab LT fn id hp ws (S x)=T x) (hr:∀x R,I x→(F x).sat R→(T x).sat fun e s=>(e= .normal∧∃y,s=S y∧I y∧μ y<μ x∧(F y).sat R)∨(e≠ .normal∧R e s)) (x:X) (hx:I x):Ex P hp (.loop (cG fn id)) (S x) (F x):=Ex.iF μ S I T F (fun x hx=>hT x hx▸wj jy mc hL) hr hx
theorem bU{P:Program}:∀p∈([]:List (FuncId×bT)),p.2.Ok P p.1:=fun _ h=>by cases h
theorem bI{P:Program}{f:FuncId}{e:bT}{l:List (FuncId×bT)}(h:e.Ok P f)(hl:∀p∈l,p.2.Ok P p.1):∀p∈(f,e)::l,p.2.Ok P p.1:=fun p hp=>by
 rcases List.mem_cons.1 hp with rfl|hp
 ·exact h
 ·exact hl p hp
theorem mT{P:Program}{hp:Hp}{fn:Func}:∀p∈([]:gW),uS (k9 (fV fn) p.1)=true∧∀st,Ex P hp (.loop (cG fn p.1)) st (p.2 st):=fun _ h=>by cases h
theorem mI{P:Program}{hp:Hp}{fn:Func}{i:Nat}{f:St→cT}{l:gW}(h1:uS (k9 (fV fn) i)=true)(h2:∀st,Ex P hp (.loop (cG fn i)) st (f st))
  (hl:∀p∈l,uS (k9 (fV fn) p.1)=true∧∀st,Ex P hp (.loop (cG fn p.1)) st (p.2 st)):∀p∈(i,f)::l,uS (k9 (fV fn) p.1)=true∧∀st,Ex P hp (.loop (cG fn p.1)) st (p.2 st):=fun p hp=>by
 rcases List.mem_cons.1 hp with rfl|hp
 ·exact⟨h1,h2⟩
 ·exact hl p hp
def bT.of{X Y:Type}(tys:List (Option Ty))(A:cl (List LV) X)(H:cl Hp Y)(out:X→Y→Out):bT:=⟨tys,fun args hp=>match A.rd args,H.rd hp with
 |some x,some y=>out x y
 |_,_=>.fail⟩
theorem bT.df{P:Program}{f:FuncId}(he:oT P f){X Y:Type}{tys:List (Option Ty)}{A:cl (List LV) X}{H:cl Hp Y}{out:X→Y→Out} (h:∀x y Q,(out x y).holds Q→il P f (A.wr x) (H.wr y) fun v dZ=>∃d,Q v d∧dZ=cq d (H.wr y)):(bT.of tys A H out).Ok P f:=by
 refine⟨fun args hp Q hq=>?_⟩;simp only[bT.of]at hq;split at hq
 ·rename_i x y hx hy;rw[A.ok hx,H.ok hy];exact(h x y Q hq).done he
 ·exact hq.elim
def bT.or(e e':bT):bT:=⟨e.tys,fun args hp=>match e.run args hp with
 | .fail=>e'.run args hp
 |o=>o⟩
theorem bT.Ok.or{P:Program}{f:FuncId}{e e':bT}(h:e.Ok P f)(h':e'.Ok P f):(e.or e').Ok P f:=by
 refine⟨fun args hp Q hq=>?_⟩;simp only[bT.or]at hq;split at hq
 ·exact h'.calls args hp Q hq
 ·exact h.calls args hp Q hq
abbrev bT.fw{X Y:Type}(tys:List (Option Ty))(A:cl (List LV) X)(H:cl Hp Y)(out:X→Y→Out):bT:=(bT.of tys A H out).sym
theorem ack{l:ab}{j:Nat}(h:j<l.length):l.drop j=l.getD j 0::l.drop (j+1):=by
 rw[List.drop_eq_getElem_cons h,List.getD_eq_getElem?_getD,List.getElem?_eq_getElem h];rfl
def By(z:Int):Prop:=0≤z∧z<256
def bL(l:ab):Prop:=∀z∈l,By z
theorem bL.take{l:ab}(h:bL l)(n:Nat):bL (l.take n):=fun z hz=>h z (List.mem_of_mem_take hz)
theorem bL.drop{l:ab}(h:bL l)(n:Nat):bL (l.drop n):=fun z hz=>h z (List.mem_of_mem_drop hz)
theorem bL.append{l m:ab}(h:bL l)(h':bL m):bL (l++m):=fun z hz=>by
 rcases List.mem_append.1 hz with k|k
 ·exact h z k
 ·exact h' z k
def upto{σ:Type}(f:Nat→σ→σ):Nat→Nat→σ→σ
 |_,0,s=>s
 |k,m+1,s=>upto f (k+1) m (f k s)
theorem GV{σ:Type}(f:Nat→σ→σ):∀ (m k:Nat) (s:σ),upto f k (m+1) s=f (k+m) (upto f k m s)
 |0,k,s=>rfl
 |m+1,k,s=>by
  show upto f (k+1) (m+1) (f k s)=_;rw[GV f m (k+1)];show f (k+1+m) (upto f (k+1) m (f k s))=f (k+(m+1)) (upto f (k+1) m (f k s));rw[show k+1+m=k+(m+1)from by omega]
theorem wm{σ:Type}{f:Nat→σ→σ}(I:Nat→σ→Prop){n:Nat}(hI:∀k s,k<n→I k s→I (k+1) (f k s)):∀ (m k:Nat) (s:σ),k+m≤n→I k s→I (k+m) (upto f k m s)
 |0,_,_,_,h=>h
 |m+1,k,s,hn,h=>by
  have:=wm I hI m (k+1) (f k s) (by omega) (hI k s (by omega) h);rw[show k+1+m=k+(m+1)from by omega]at this;exact this
theorem GW(g:Nat→Int):∀ (m k:Nat) (o:ab),o.length=k+m→upto (fun k o=>o.set k (g k)) k m o=o.take k++(List.range m).map fun i=>g (k+i)
 |0,k,o,h=>by simp[upto,List.take_of_length_le (show o.length≤k by omega)]
 |m+1,k,o,h=>by
  show upto (fun k o=>o.set k (g k)) (k+1) m (o.set k (g k))=_;rw[GW g m (k+1) _ (by simp;omega),List.range_succ_eq_map,List.map_cons,List.map_map];have e:(o.set k (g k)).take (k+1)=o.take k++ [g k]:=by
   rw[List.take_add_one,List.take_set_of_le (Nat.le_refl _)];simp[show k<o.length by omega]
  rw[e,List.append_assoc];congr 1;simp only[List.singleton_append,Nat.add_zero];congr 1;apply List.map_congr_left;intro i _;show g (k+1+i)=g (k+(i+1));congr 1;omega
theorem acm(g:Nat→Int){n:Nat}{o:ab}(h:o.length=n):upto (fun k o=>o.set k (g k)) 0 n o=(List.range n).map g:=by
 rw[GW g n 0 o (by omega)];simp
theorem afR{l:ab}{n:Nat}(h:l.length=n):(List.range n).map (fun i=>l.getD i 0)=l:=by
 subst h;apply List.ext_getElem?;intro i;simp only[List.getElem?_map];rcases Nat.lt_or_ge i l.length with h1|h1
 ·rw[List.getElem?_range h1];simp[List.getD_eq_getElem?_getD,List.getElem?_eq_getElem h1]
 ·rw[List.getElem?_eq_none h1,List.getElem?_eq_none (by simpa using h1)];rfl
theorem kB{P:Program}(jy:P.follows .mixedOrders=true){tab:List (FuncId×bT)}(mc:∀p∈tab,p.2.Ok P p.1){LT:gW}{fn:Func}{id j:Nat}{hp:Hp}{ws:Exit→List Wk}(hL:cn P hp LT (cG fn id)) {σ:Type} (n:Nat) (S:Nat→σ→St) (X:σ→St) (f:Nat→σ→σ) (I:Nat→σ→Prop) (hT:∀k s R,k≤n→I k s→(k<n→R .normal (S (k+1) (f k s)))→(k=n→R (.exit j) (X s))→(ma P tab LT fn id hp ws (S k s)).sat R) (hI:∀k s,k<n→I k s→I (k+1) (f k s)) (k:Nat) (s:σ) (hk:k≤n) (h:I k s):Ex P hp (.loop (cG fn id)) (S k s) (.bN (.exit j) (X (upto f k (n-k) s))):=by
 refine Xl (ws:=ws) (T:=fun x=>ma P tab LT fn id hp ws (S x.1 x.2)) jy mc hL (fun x:Nat×σ=>n-x.1) (fun x=>S x.1 x.2) (fun x=>x.1≤n∧I x.1 x.2) (fun x=>.bN (.exit j) (X (upto f x.1 (n-x.1) x.2))) (fun x _=>rfl) (fun x R hx hs=>?_) (k,s) ⟨hk,h⟩;obtain⟨k,s⟩:=x;obtain⟨hk,hi⟩:=hx;simp only at hk hi hs ⊢;refine hT k s _ hk hi (fun iZ=>.inl ⟨rfl,(k+1,f k s),rfl,⟨iZ,hI k s iZ hi⟩,by simp only;omega,?_⟩) (fun e=>.inr ⟨by simp,?_⟩)
 ·have e:n-k=(n-(k+1))+1:=by omega
  rw[e]at hs;exact hs
 ·subst e;rw[Nat.sub_self]at hs;exact hs
abbrev SA(k:IntKind)(n:Nat):cl LV ab:=(jf (bD (oa (.int k) n) bG)).jr (fun x=>x.1) (fun l=>(l,())) (fun _=>rfl)
abbrev rG(e:TypeId)(k:IntKind)(n:Nat):cl (Option bE) ab:=(ob e (bD (oa (.int k) n) bG)).jr (fun x=>x.1) (fun l=>(l,())) (fun _=>rfl)
abbrev afS(e:TypeId)(k:IntKind)(n:Nat):cl (Option bE) ab:=ob e (aML k n)
end Go.Ev
namespace Go.Proofs.YtliehnnljilacaaGreat
open Go Go.Ev Go.Proofs.Tryz
set_option maxRecDepth 100000
noncomputable abbrev aA:=Tryz.prog
theorem bJ:Tryz.prog.follows .mixedOrders=true:=by kernel_rfl
abbrev prog:Program:=aA
abbrev u8:Ty:=.int .u8
abbrev nI(n:Int):LV:=.one (.sc (.int .i64 (.sym n)))
abbrev nU(n:Int):LV:=.one (.sc (.int .u64 (.sym n)))
abbrev nB(b:Bool):LV:=.one (.sc (.bool (.sym b)))
abbrev bA:cl (List LV) (ab×Unit):=bD (bO (gx false false u8)) bG
abbrev lD(k:IntKind)(n:Nat)(l:ab):LV:=.one (.agg [.arr (.int k) n l])
abbrev p0:cl LV Unit:=bO (cr 0 0)
def eH(n:Nat)(l:List (Nat×FM)):List FM:=(List.range n).map fun i=>match l.find? (fun p=>p.1==i)with
 |some p=>p.2
 |none=>.drop
def wsE(n:List Wk)(id:Nat)(x:List Wk):Exit→List Wk
 | .normal=>n
 | .exit i=>if i=id then x else []
 |_=> []
end Go.Proofs.YtliehnnljilacaaGreat
namespace Go.Ev
open Go
theorem wrap_u64{n:Int}(h0:0≤n)(h1:n<18446744073709551616):u64.wrap n=n:=by
 simp only[wrap,IntKind.bits,signed];simp;omega
theorem tr(n:Int):u64.wrap n=n%18446744073709551616:=by
 simp only[wrap,IntKind.bits,signed];simp
theorem wrap_u8(n:Int):IntKind.u8.wrap n=n%256:=by
 simp only[wrap,IntKind.bits,signed];simp
theorem wrap_i64{n:Int}(h0: -9223372036854775808≤n)(h1:n<9223372036854775808):i64.wrap n=n:=by
 simp only[wrap,IntKind.bits,signed];simp;split<;>omega
theorem toNat_ofInt(n:Nat)(x:Int):(BitVec.ofInt n x).toNat=(x%(2 ^ n:Nat)).toNat:=by simp[BitVec.toNat_ofInt]
theorem O0{n m:Nat}(hm:m≤n)(x:Int):(BitVec.ofInt n x&&& BitVec.ofInt n (2 ^ m-1)).toNat=(x%(2 ^ m:Nat)).toNat:=by
 rw[BitVec.toNat_and,toNat_ofInt,toNat_ofInt];have hp:(2:Nat) ^ m≤2 ^ n:=Nat.pow_le_pow_right (by omega) hm;have lp:0<(2:Nat) ^ m:=Nat.two_pow_pos m;have e:(((2:Int) ^ m-1)%((2 ^ n:Nat):Int)).toNat=2 ^ m-1:=by
  have:((2:Int) ^ m-1)=((2 ^ m-1:Nat):Int):=by
   rw[Int.natCast_sub (by omega)];simp
  rw[this,← Int.natCast_emod,Int.toNat_natCast,Nat.mod_eq_of_lt (by omega)]
 rw[e,Nat.and_two_pow_sub_one_eq_mod];have h1:((x%((2 ^ n:Nat):Int)).toNat%2 ^ m:Nat)=(x%((2 ^ m:Nat):Int)).toNat:=by
  have AU:0≤x%((2 ^ n:Nat):Int):=Int.emod_nonneg _ (by have:=Nat.two_pow_pos n;omega);have hm0:0≤x%((2 ^ m:Nat):Int):=Int.emod_nonneg _ (by omega);apply Int.ofNat_inj.1;rw[Int.natCast_emod,Int.toNat_of_nonneg AU,Int.toNat_of_nonneg hm0];refine Int.emod_emod_of_dvd _ ?_;exact Int.natCast_dvd_natCast.2 (Nat.pow_dvd_pow 2 hm)
 exact h1
theorem Xm{m:Nat}(hm:m<64)(x y:Int)(hy:y=2 ^ m-1):dz .u64 x y=x%(2 ^ m:Nat):=by
 subst hy;unfold dz;have:=O0 (n:=64) (m:=m) (by omega) x;show u64.wrap ((BitVec.ofInt 64 x&&& BitVec.ofInt 64 (2 ^ m-1)).toNat:Int)=_;rw[this];have hm0:0≤x%((2 ^ m:Nat):Int):=Int.emod_nonneg _ (by have:=Nat.two_pow_pos m;omega);rw[Int.toNat_of_nonneg hm0];have iZ:x%((2 ^ m:Nat):Int)<((2 ^ m:Nat):Int):=Int.emod_lt_of_pos _ (by have:=Nat.two_pow_pos m;omega);have hp:(2:Nat) ^ m≤2 ^ 63:=Nat.pow_le_pow_right (by omega) (by omega)
 exact wrap_u64 hm0 (by have:(2:Nat) ^ 63=9223372036854775808:=by decide
                        omega)
theorem aEs{m:Nat}(hm:m<8)(x y:Int)(hy:y=2 ^ m-1):dz .u8 x y=x%(2 ^ m:Nat):=by
 subst hy;unfold dz;have:=O0 (n:=8) (m:=m) (by omega) x;show IntKind.u8.wrap ((BitVec.ofInt 8 x&&& BitVec.ofInt 8 (2 ^ m-1)).toNat:Int)=_;rw[this];have hm0:0≤x%((2 ^ m:Nat):Int):=Int.emod_nonneg _ (by have:=Nat.two_pow_pos m;omega);rw[Int.toNat_of_nonneg hm0];have iZ:x%((2 ^ m:Nat):Int)<((2 ^ m:Nat):Int):=Int.emod_lt_of_pos _ (by have:=Nat.two_pow_pos m;omega);have hp:(2:Nat) ^ m≤2 ^ 7:=Nat.pow_le_pow_right (by omega) (by omega);rw[wrap_u8];exact Int.emod_eq_of_lt hm0 (by omega)
theorem wo(k:IntKind)(x:Int)(n:Nat)(hn:n≤k.bits):shr k x n=x/(2 ^ n:Nat):=by
 unfold shr;rw[Int.toNat_natCast,Nat.min_eq_left hn,Int.fdiv_eq_ediv_of_nonneg]
 ·simp
 ·exact Int.le_of_lt (Int.pow_pos (by omega))
theorem mU(k:IntKind)(x:Int)(n:Nat)(hn:n≤k.bits):shl k x n=k.wrap (x*(2 ^ n:Nat)):=by
 unfold shl;rw[Int.toNat_natCast,Nat.min_eq_left hn];simp
theorem afT{n:Nat}{m:Nat}{x y:Int}(W0:0≤x)(hxn:x<(2 ^ n:Nat))(hx:x%(2 ^ m:Nat)=0)(hy0:0≤y)(hy:y<(2 ^ m:Nat))(hyn:y<(2 ^ n:Nat)):
  ((BitVec.ofInt n x|||BitVec.ofInt n y).toNat:Int)=x+y:=by
 rw[BitVec.toNat_or,toNat_ofInt,toNat_ofInt,Int.emod_eq_of_lt W0 hxn,Int.emod_eq_of_lt hy0 hyn];obtain⟨a,rfl⟩:=Int.eq_ofNat_of_zero_le W0;obtain⟨b,rfl⟩:=Int.eq_ofNat_of_zero_le hy0;simp only[Int.toNat_natCast];have hd:a%2 ^ m=0:=by
  have:=hx;rw[← Int.natCast_emod]at this;omega
 have hb:b<2 ^ m:=by omega
 have e:a=2 ^ m*(a/2 ^ m):=(Nat.mul_div_cancel' (Nat.dvd_of_mod_eq_zero hd)).symm;have:=Nat.two_pow_add_eq_or_of_lt hb (a/2 ^ m);rw[← e]at this;rw[← this];simp
theorem Ds{m:Nat}{x y:Int}(W0:0≤x)(hx:x%(2 ^ m:Nat)=0)(hy0:0≤y)(hy:y<(2 ^ m:Nat))(h64:x+y<18446744073709551616):cV .u64 x y=x+y:=by
 unfold cV;have e:(2 ^ 64:Nat)=18446744073709551616:=by decide
 have h:=afT (n:=64) W0 (by omega) hx hy0 hy (by omega);show u64.wrap ((BitVec.ofInt 64 x|||BitVec.ofInt 64 y).toNat:Int)=_;rw[h];exact wrap_u64 (by omega) h64
theorem nv(k:IntKind)(x y:Int):cV k x y=cV k y x:=by
 unfold cV;rw[BitVec.or_comm]
theorem bM{n:Int}(h1: -9223372036854775808≤n)(h2:n≤9223372036854775807):i64.wrap n=n:=by
 rw[IntKind.wrap_i64];omega
theorem eM{l:ab}{n:Nat}(h:l.length=n):List.take n (List.drop 0 l)=l:=by rw[List.drop_zero,List.take_of_length_le (by omega)]
theorem nw(k m:Nat)(hk:k<4611686018427387904):i64.wrap ((k:Int).tdiv (m:Int))=((k/m:Nat):Int):=by
 rw[Int.tdiv_eq_ediv_of_nonneg (by omega),← Int.natCast_ediv];have:k/m≤k:=Nat.div_le_self _ _;generalize k/m=q at*;exact bM (by omega) (by omega)
theorem wq(k j:Nat)(h:j≤k)(hk:k<4611686018427387904):i64.wrap ((k:Int)-(j:Int))=((k-j:Nat):Int):=by rw[bM (by omega) (by omega)];omega
theorem iK(k:Nat)(hk:k<4611686018427387904):i64.wrap ((k:Int)+1)=((k+1:Nat):Int):=by rw[bM (by omega) (by omega)];rfl
end Go.Ev
namespace Go.Proofs.YtliehnnljilacaaGreat
open Go Go.Ev Go.ChangeShapes Go.WideShapes Go.ChangeAt Go.RowKit Go.Proofs.Tryz
set_option maxRecDepth 100000
theorem afU:ownKnob Tryz.prog.godebug=none:=by kernel_rfl
theorem afV:laidOutB aA=true:=by kernel_rfl
theorem SC:mapsRowed aA=true:=by kernel_rfl
theorem O1:∀t e,t<Tryz.prog.types.size→Tryz.prog.underlying t=some (.slice e)→0<Tryz.prog.cellsOf e:=slices_full_of aA (by kernel_rfl)
structure Kept (W W':World):Prop where
 os:W'.os=W.os
 output:W'.output=W.output
 size:W.heap.size≤W'.heap.size
 block:∀b,b<W.heap.size→W'.heap[b]? =W.heap[b]?
theorem Kept.same{W W':World}(h:Kept W W'){p:MemPlace}(hp:p.block<W.heap.size):W.sameAt W' p:=by
 cases p with
 |cell b o=>exact World.cell?_of_block (w:=W) (h.block b hp)
 |map b=>exact h.block b hp
theorem Kept.but{W W':World}(h:Kept W W')(may:MemPlace→Prop):W.keptBut W' may:=by
 refine⟨h.os,h.output,fun i hi=>?_⟩;rw[h.block i hi];split<;>simp_all
theorem wu{H:Type}{enc:TypeId×Value→H}{W W':World}(hk:Kept W W'):∀ {ts:List TypeId} {vs:List Value} {ds:List (DataW H)} {ps:List MemPlace},(∀t∈ts,t<Tryz.prog.types.size)→
  DataW.TrodAll enc aA W 0 (fun _=>true) true ts vs ds ps→(∀p∈ps,p.block<W.heap.size)→DataW.TrodAll enc aA W' 0 (fun b=>decide (b<W.heap.size)) true ts vs ds ps
 | [],[],[],_,_,h,_=>h
 |t::_,_::_,_::_,_,hT,⟨p,q,⟨n,h1⟩,h2,e⟩,hs=>by
  have hp:∀x∈p,x.block<W.heap.size:=fun x hx=>hs x (by rw[e];exact List.mem_append_left _ hx);have hz:∀ {t e:TypeId},t<Tryz.prog.types.size→Tryz.prog.underlying t=some (.slice e)→0<Tryz.prog.cellsOf e:=fun {t e} a b=>O1 t e a b;refine⟨p,q,⟨n,?_⟩,wu hk (fun t ht=>hT t (List.mem_cons.2 (Or.inr ht))) h2 (fun x hx=>hs x (by rw[e];exact List.mem_append_right _ hx)),e⟩;exact DataW.trod_stays (T:=fun t=>t<Tryz.prog.types.size) (kids_rows afV SC) hz (fun h=>by cases h) (hT t (List.mem_cons.2 (Or.inl rfl))) h1 (fun x hx=>hk.same (hp x hx)) (fun x hx=>by simpa using hp x hx)
 | [],_::_,_,_,_,h,_=>h.elim
 | [],[],_::_,_,_,h,_=>h.elim
 |_::_,[],_,_,_,h,_=>h.elim
 |_::_,_::_,[],_,_,h,_=>h.elim
theorem afW{H:Type}{enc:TypeId×Value→H}{fn:Func}{s:ChangeSpec}{W W':World}{args:Array Value}{ds gs:List (DataW H)}{before:List MemPlace}{tb:TypeId}{apart:Bool} (hr:fn.resultTypes= #[tb]) (hb:Tryz.prog.underlying tb=some .bool) (hT:∀t∈fn.params.toList,t<Tryz.prog.types.size) (hW:DataW.Whole enc aA fn.params.toList s.vars apart W args.toList ds gs before) (hv:s.vars= []) (hs:s.fn H ds= {results:= [.lit (.bool true)],args:=ds}) (hk:Kept W W'):s.post enc aA fn apart true false false W args (.bool true) W':=by
 have iZ:=hW.lt;have hW':=hW;obtain⟨p,q,h1,h2,h3,h4,h5⟩:=hW;rw[hv]at h2;obtain⟨rfl,rfl⟩:=trodVars_none h2;rw[List.append_nil]at h3;subst h3;have e:s.fn H (ds++ [])= {results:= [.lit (.bool true)],args:=ds}:=by rw[List.append_nil];exact hs
 refine⟨ds,[],before,[],before,[],hW',?_,?_,?_,hk.but _,fun h=>by cases h⟩
 ·rw[e,hr];exact trodAll_cons_mk (shut_bool hb true) trodAll_mk0
 ·rw[e];exact wu hk hT h1 iZ
 ·rw[hv,e];rfl
def aMN:Env:=⟨fun _=>0,fun _=>.nilIface,fun _ _ _ _=>False⟩
def wx(W:World):Env:=⟨fun _=>0,fun _=>.nilIface,fun pm v t l=>pm=false∧0<t.w∧dw aMN false W v t l⟩
theorem acn{fn:Func}(h:(fn.params.toList.all fun t=>decide (t<Tryz.prog.types.size))=true):∀t∈fn.params.toList,t<Tryz.prog.types.size:=fun t ht=>by
 simpa using List.all_eq_true.1 h t ht
inductive Bt where
 |int (k:IntKind)
 |bool
def Bt.fits:Bt→Value→Prop
 | .int k,v=>∃z,v= .int k z∧(Lit.int k z).wf=true
 | .bool,v=>∃b,v= .bool b
def Ar(P:Program):Nat→TypeId→Option (List Bt)
 |0,_=>none
 |n+1,t=>match P.underlying t with
  |some .bool=>some [.bool]
  |some (.int k)=>some [.int k]
  |some (.struct fs)=>(fs.toList.foldl (fun acc f=>match acc with
    |some l=>if f.offset=l.length then match Ar P n f.type with
      |some m=>if m.length=P.cellsOf f.type then some (l++m)else none
      |none=>none
     else none
    |none=>none) (some [])).bind fun l=>if l.length=P.cellsOf t then some l else none
  |some (.array k e)=>match Ar P n e with
    |some m=>if m.length=P.cellsOf e∧P.cellsOf t=k*m.length then some ((List.replicate k m).flatten)else none
    |none=>none
  |_=>none
noncomputable section
variable {H:Type} {enc:TypeId×Value→H} {P:Program} {w:World} {base:Nat} {spare:Nat→Bool} {held:Bool}
theorem tt:∀ (n:Nat) {t:TypeId} {ks:List Bt},Ar P n t=some ks→∀ {fuel:Nat} {cs:List Value} {x:DataW H×List MemPlace},DataW.trod enc P w base spare held fuel t cs=some x→dC Bt.fits ks cs
 |0,_,_,h,_,_,_,_=>by cases h
 |n+1,t,ks,h,fuel,cs,x,hx=>by
  simp only[Ar]at h;cases hu:P.underlying t with
  |none=>rw[hu]at h;cases h
  |some d=>
   rw[hu]at h;cases d with
   |bool=>
    cases h;cases fuel with
    |zero=>simp[DataW.trod]at hx
    |succ m=>
     unfold DataW.trod at hx;rw[hu]at hx;split at hx<;>simp_all;exact .cons ⟨_,rfl⟩ .nil
   |int k=>
    cases h;cases fuel with
    |zero=>simp[DataW.trod]at hx
    |succ m=>
     unfold DataW.trod at hx;rw[hu]at hx;split at hx<;>simp_all;obtain⟨⟨rfl,hz⟩,_⟩:=hx;exact .cons ⟨_,rfl,hz⟩ .nil
   |struct fs=>
    obtain⟨xs,m,_,_,hl,hlen,hf⟩:=DataW.trod_struct hu hx;obtain⟨l,hl1,hl2⟩:=Option.bind_eq_some_iff.1 h;split at hl2
    ·rename_i hle;cases hl2;have hfs:∀f∈fs.toList,∃y,DataW.trod enc P w base spare held m f.type ((cs.drop f.offset).take (P.cellsOf f.type))=some y:=by
      intro f hfm;obtain⟨i,hi,rfl⟩:=List.getElem_of_mem hfm;have um:i<fs.size:=(by simpa using hi);have:=hf i fs[i] (by simp[um]);rw[List.getElem?_eq_getElem (by omega)]at this;exact⟨_,this⟩
     have key:∀ (fl:List Field) (acc l:List Bt),(∀f∈fl,∃y,DataW.trod enc P w base spare held m f.type ((cs.drop f.offset).take (P.cellsOf f.type))=some y)→
       fl.foldl (fun acc f=>match acc with
        |some l=>if f.offset=l.length then match Ar P n f.type with
          |some m=>if m.length=P.cellsOf f.type then some (l++m)else none
          |none=>none
         else none
        |none=>none) (some acc)=some l→dC Bt.fits acc (cs.take acc.length)→dC Bt.fits l (cs.take l.length):=by
      intro fl;induction fl with
      |nil=>intro acc l _ h1 h2;simp at h1;subst h1;exact h2
      |cons f fl ih=>
       intro acc l hfs h1 h2;simp only[List.foldl_cons]at h1;have ns:∀fl:List Field,fl.foldl (fun acc f=>match acc with
        |some l=>if f.offset=l.length then match Ar P n f.type with
          |some m=>if m.length=P.cellsOf f.type then some (l++m)else none
          |none=>none
         else none
        |none=>none) (none:Option (List Bt))=none:=by
        intro fl;induction fl with
        |nil=>rfl
        |cons f fl ih=>exact ih
       split at h1
       ·rename_i ho;split at h1
        ·rename_i mk hmk;split at h1
         ·rename_i hmc;obtain⟨y,hy⟩:=hfs f (by simp);have hft:=tt n hmk hy;rw[ho,← hmc]at hft;refine ih (acc++mk) l (fun f hf=>hfs f (by simp[hf])) h1 ?_;rw[List.length_append,List.take_add];exact h2.append hft
         ·rw[ns]at h1;cases h1
        ·rw[ns]at h1;cases h1
       ·rw[ns]at h1;cases h1
     have:=key fs.toList [] ks hfs hl1 .nil;rwa [List.take_of_length_le (by omega)]at this
    ·cases hl2
   |array k e=>
    simp only at h;split at h
    ·rename_i mk hmk;split at h
     ·rename_i hc;cases h;obtain⟨xs,m,_,_,hl,hlen,hf⟩:=DataW.trod_array hu hx;have ab0:∀i,i<k→dC Bt.fits mk ((cs.drop (i*mk.length)).take mk.length):=by
       intro i hi;have:=hf i hi;rw[List.getElem?_eq_getElem (by omega)]at this;have h2:=tt n hmk this;rwa [← hc.1]at h2
      have key:∀ (j:Nat),j≤k→dC Bt.fits (List.replicate j mk).flatten (cs.take (j*mk.length)):=by
       intro j;induction j with
       |zero=>intro _;simp;exact .nil
       |succ j ih=>
        intro hj;rw[List.replicate_succ',List.flatten_append,Nat.succ_mul,List.take_add];have:=ab0 j (by omega);exact(ih (by omega)).append (by simpa using this)
      have:=key k (Nat.le_refl _);rwa [List.take_of_length_le (by omega)]at this
     ·cases h
    ·cases h
   |_=>cases h
end
theorem O2{k:IntKind}{β:Env}{pm:Bool}:∀ (n:Nat) {ks:List Bt} {cs:List Value},dC Bt.fits (List.replicate n (.int k)++ks) cs→
  ∃ (l:ab) (us rest:List Value),cs=us++rest∧l.length=n∧us=l.map (.int k)∧cI ((Ty.int k).has β pm) l us∧(∀z∈l,(Lit.int k z).wf=true)∧dC Bt.fits ks rest
 |0,_,cs,h=>⟨[],[],cs,rfl,rfl,rfl,.nil,(fun _ h=>by cases h),h⟩
 |n+1,ks,cs,h=>by
  rw[List.replicate_succ,List.cons_append]at h;cases h with
  |cons h1 h2=>
   obtain⟨z,rfl,hz⟩:=h1;obtain⟨l,us,rest,rfl,h3,h4,h5,h6,h7⟩:=O2 n h2
   exact⟨z::l,.int k z::us,rest,rfl,by simp[h3],by rw[h4];rfl,cI.cons (vs:= [.int k z]) rfl h5,(fun y hy=>by
    rcases List.mem_cons.1 hy with rfl|hy
    ·exact hz
    ·exact h6 y hy),h7⟩
theorem wf_u8{z:Int}(h:(Lit.int .u8 z).wf=true):By z:=by
 have:=bounds_u8 h;unfold By;omega
theorem O3:Tryz.prog.cellsOf 5=1:=by kernel_rfl
theorem afX{H:Type}{enc:TypeId×Value→H}{W:World}{base:Nat}{v:Value}{d:DataW H}{p:List MemPlace}{t e:TypeId}(n:Nat)(hu:Tryz.prog.underlying t=some (.array n e))(hf:Ar aA 10 t=some (List.replicate n (.int .u8))) (rD:Value.okWide aA W .any base t v) (h:DataW.Trod enc aA W 0 (fun _=>true) true t v d p):∃l:ab,(l.length=n∧bL l)∧(lD .u8 n l).den (wx W) (kd []) v:=by
 unfold Value.okWide at rD;rw[hu]at rD;obtain⟨cs,rfl,_,_⟩:=rD;obtain⟨fuel,h⟩:=h;have ab3:=tt 10 hf h;rw[← List.append_nil (List.replicate n (Bt.int .u8))]at ab3;obtain⟨l,us,rest,e,hl,_,hd,hw,hr⟩:=O2 (β:=wx W) (pm:=true) n ab3;cases hr;rw[List.append_nil]at e;refine⟨l,⟨hl,fun z hz=>wf_u8 (hw z hz)⟩,us,?_,?_⟩
 ·simp only[Value.cells]at e;rw[← e]
 ·have:=cI.cons (R:=SV.kZ (wx W) (kd [])) (x:=.arr (.int .u8) n l) (vs:=us) (show(SV.arr (.int .u8) n l).kZ (wx W) (kd []) us from⟨hl,hd⟩) .nil;rwa [List.append_nil]at this
theorem SD{H:Type}{enc:TypeId×Value→H}{W:World}{base:Nat}{v:Value}{d:DataW H}{p:List MemPlace}
  (rD:Value.okWide aA W .any base 22 v) (h:DataW.Trod enc aA W 0 (fun _=>true) true 22 v d p):∃l:ab,(l.length=32∧bL l)∧(lD .u8 32 l).den (wx W) (kd []) v:=afX 32 underlying22 (by kernel_rfl) rD h
end Go.Proofs.YtliehnnljilacaaGreat
namespace Go.Proofs.YtliehnnljilacaaGreat
open Go Go.Ev Go.Proofs.Tryz
set_option maxRecDepth 100000
abbrev rdt(l:ab):LV:=.one (.sc (.rd true false u8 l))
def afY:bT:=bT.fw [some u8] bA bG fun x _=>.bN (some (x.1.length≤70368744177664)) (rdt x.1) []
theorem O4:cY aA [] [] f43 [.one (.sc (.gm (.slice none 0 0)))] [] [.Dp 0 u8,.bS]=End.bN (LV.one (VV.sc (SV.rd true false ae []))) []:=by kernel_rfl
theorem O5(l:ab):cY aA [] [] f43 [.one (.sc (.rd false true u8 l))] [] [.Dp 0 u8,.bS]=End.need ((0+l.length)*1≤70368744177664∧0+l.length≤70368744177664) (End.bN (LV.one (VV.sc (SV.rd true false ae ([]++l)))) []):=by kernel_rfl
theorem jA:afY.Ok aA 43:=by
 refine(bT.df call43 fun x y Q h=>?_).sym;obtain⟨l,_⟩:=x;obtain⟨hl,hq⟩:=h;have hl:l.length≤70368744177664:=hl;refine il.Ix (x:= []) (y:= []) (fun e=>?_) ?_
 ·subst e;refine(cg bJ bU func43 rfl (LT:= []) (ks:= [.Dp 0 u8,.bS]) (cn.nil _)).use (D:= []) ?_ hq;show(cY _ _ _ _ [.one (.sc (.gm (.slice none 0 0)))] [] _).sat _;rw[O4];exact⟨rfl,rfl⟩
 ·refine(cg bJ bU func43 rfl (LT:= []) (ks:= [.Dp 0 u8,.bS]) (cn.nil _)).use (D:= []) ?_ hq;show(cY _ _ _ _ [.one (.sc (.rd false true u8 l))] [] _).sat _;rw[O5];exact⟨⟨by omega,by omega⟩,rfl,rfl⟩
end Go.Proofs.YtliehnnljilacaaGreat
