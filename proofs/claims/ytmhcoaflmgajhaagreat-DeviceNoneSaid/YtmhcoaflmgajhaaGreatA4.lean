/- What the laws lean on, part 4: a reader of code, plain facts, and what each function gives; no conditions. -/
import Derived.LoopN
import Derived.Orders
import Derived.Scope
import Derived.Test.YtmhcoaflmgajhaaGreatA3
set_option linter.unusedVariables false
set_option linter.unusedSimpArgs false
noncomputable section
namespace Go.Ev
open Go
open Go.IntKind (i64 signed u32 u64 wrap wrap_u32)
noncomputable section
variable {P:Program} {W:World} {ag:Hp} {β₀ β:Env} {w:World} {st:St} {a:Act}
def X6(P:Program)(W:World)(ag:Hp)(β₀ β:Env)(st:St)(w:World)(s:Sem Next)(v:LV)(d:List (Nat×Item)):Prop:=
 ∃ (β':Env) (w':World) (val:Value),s.run P w= .ok (.value val) w'∧v.den β' (kd (ax d st.hp)) val∧aQ W ag β₀ β' (ax d st.hp) w'∧bh β β' (kd st.hp) (kd (ax d st.hp))
theorem Td(hr:Rel W ag β₀ β st a w){t ty:TypeId}{x:SV}{n:SI}{v:Value}(hl:(S8 P t x).val st.hp=some n)(hd:x.den β (kd st.hp) v):(Builtin.len_ #[t] ty #[v]).run P w= .ok (.int .i64 n.val) w:=by
 have hs:∀ {e:TypeId} {b:Option Addr} {k c:Nat},cu P t=some e→(Builtin.len_ #[t] ty #[.slice b k c]).run P w= .ok (goInt k) w:=fun he=>by
  have hu:=cf he;simp[Builtin.len_,run_underlying hu]
 have X7:∀ {s:ByteArray},P.underlying t=some .string→(Builtin.len_ #[t] ty #[.string s]).run P w= .ok (goInt s.size) w:=fun hu=>by
  simp[Builtin.len_,run_underlying hu]
 have X8:∀ {α:Type} {x y:α},(if P.underlying t matches some .string then some x else none)=some y→P.underlying t=some .string∧x=y:=by
  intro α x y h
  split at h
  ·rename_i hm;refine⟨?_,by simpa using h⟩
   revert hm
   cases hu:P.underlying t with
   |none=>simp
   |some d=>cases d<;>simp
  ·cases h
 unfold S8 at hl
 split at hl
 ·simp only[Ask.val]at hl;obtain⟨e,he,rfl⟩:=map_some hl;obtain⟨_,rfl⟩:=hd;exact hs he
 ·simp only[Ask.val]at hl;obtain⟨e,he,rfl⟩:=map_some hl;obtain⟨_,rfl⟩:=hd;exact hs he
 ·simp only[Ask.val]at hl;obtain⟨hu,rfl⟩:=X8 hl;have e:v= .string _:=hd;rw[e,X7 hu,k9];rfl
 ·simp only[Ask.val]at hl;obtain⟨hu,rfl⟩:=X8 hl;obtain⟨_,rfl⟩:=hd;exact X7 hu
 ·split at hl
  ·rename_i e he;rw[Ask.bL]at hl;obtain⟨⟨pm,nu,l⟩,hc,rfl⟩:=map_some hl;obtain⟨b,c,rfl⟩:=(fL hr.heap hc hd).len;exact hs he
  ·simp[Ask.val]at hl
theorem nJ{f:Int→Int→Int}{g:Value→Value→Sem Value}{k:IntKind}(hg:∀x y:Int,(g (.int k x) (.int k y)).run P w= .ok (.int k (f x y)) w){β:Env}{L:Nat→Option Kd}:
  ∀ (l:List SV) (vs:List Value) (x n:SI),bd (SV.den β L) l vs→nF f k x l=some n→(vs.foldlM g (.int k x.val)).run P w= .ok (.int k n.val) w
 | [],vs,x,n,hd,h=>by
  cases hd
  simp[nF]at h;subst h;simp
 | .int k' y::l,_,x,n,.cons (b:=b) (m:=vs) h1 h2,h=>by
  simp only[nF]at h
  split at h
  ·rename_i hk;subst hk;have e:b= .int k' y.val:=h1;subst e;simp only[List.foldlM_cons,Sem.run_bind,hg,Result.andThen_ok];have:=nJ hg l vs _ n h2 h;rw[map2_val]at this;exact this
  ·cases h
theorem qa{β:Env}{L:Nat→Option Kd}:∀ {xs:List LV} {ss:List SV} {vs:List Value},bP eK xs=some ss→bd (LV.den β L) xs vs→bd (SV.den β L) ss vs
 | [],_,_,h,hd=>by simp[bP]at h;subst h;cases hd;exact .nil
 |x::xs,ss,_,h,.cons h1 h2=>by
  simp only[bP]at h
  split at h
  ·rename_i s m hs hm;simp at h;subst h;exact .cons (aO hs h1) (qa hm h2)
  ·cases h
theorem ED(hr:Rel W ag β₀ β st a w){id:Nat}{t u ty_:TypeId}{s x:SV}{q:Option Prop}{v:LV}{d:List (Nat×Item)}(h:(G9 P id t u s x).val st.hp=some (q,v,d))(hq:c7 q)(jo:(∃x,(id,x)∈d)→kd st.hp id=none)
  {sv xv:Value} (X9:s.den β (kd st.hp) sv) (Ch:x.den β (kd st.hp) xv):
  ∃ (β':Env) (w':World) (val:Value),(Builtin.append_ #[t,u] ty_ #[sv,xv]).run P w= .ok val w'∧v.den β' (kd (ax d st.hp)) val∧aQ W ag β₀ β' (ax d st.hp) w'∧bh β β' (kd st.hp) (kd (ax d st.hp)):=by
 unfold G9 at h
 split at h
 ·simp[Ask.val]at h
 rename_i el ji
 split at h
 rotate_left
 ·simp[Ask.val]at h
 rename_i ty sz z by_ hty hs hz zt
 split at h
 rotate_left
 ·simp[Ask.val]at h
 rename_i ie;obtain⟨rfl,eI,Ez⟩:=ie;rw[Ask.cA]at h
 split at h
 rotate_left
 ·simp[Ask.val]at h
 rename_i pm m hc
 split at h
 rotate_left
 ·simp[Ask.val]at h
 rename_i hf;obtain⟨news,nG,fa⟩:=Ha hr.heap hc hf Ch
 split at h
 ·simp only[Ask.val]at h
  cases h
  have G2:=jo ⟨_,by simp;rfl⟩;obtain⟨_,rfl⟩:=X9;have Eu:m.length*by_≤70368744177664∧m.length≤70368744177664:=hq;have l8:bI β w (.slice none 0 0) ty []:=⟨none,0,0,rfl,rfl,Nat.le_refl _,fun _=>rfl,fun h=>absurd h (by omega)⟩;obtain⟨v',w',h1,h2,h3,h4,h5,h6,h7⟩:=lh (ty_:=ty_) ji hs eI hz Ez zt l8 nG fa (by simpa using Eu.1) (by simpa using Eu.2);rw[List.nil_append]at h2;obtain⟨β',k1,k2,k3⟩:=hr.heap.jM G2 (ver:=0) h3 h4 h5 (fun b hb=>h6 b hb (by rintro⟨_,_,_,e,_⟩;simp at e)) h2 (fun a n c e h0=>(h7 a n c e h0).resolve_left (by rintro⟨_,_,e,_⟩;simp at e));refine⟨β',w',v',h1,⟨?_,0,?_,Nat.le_refl _,fun _=>k3.symm⟩,k1,k2⟩
  ·obtain⟨_,_,_,rfl,_⟩:=h2;rfl
  ·show kd (setAt st.hp id _) id=_;rw[bR,if_pos rfl];rfl
 ·rename_i i ver;simp only[Ask.val]at h
  split at h
  ·rename_i ver' nu l hi
   split at h
   ·rename_i e;subst e
    split at h
    ·rename_i e;subst e
     cases h
     obtain⟨kI,hh⟩:=hr.heap.jL (p:=fun v=>sv=v) (an hi) X9.2;have Eu:(l.length+m.length)*by_≤70368744177664∧l.length+m.length≤70368744177664:=hq;obtain⟨v',w',h1,h2,h3,h4,h5,h6,h7⟩:=lh (ty_:=ty_) ji hs eI hz Ez zt kI nG fa Eu.1 Eu.2
     obtain⟨β',k1,k2,k3⟩:=hr.heap.nD (an hi) (ver':=ver+1) (l':=l++m) (v:=v') (w':=w') (.inl (Nat.lt_succ_self _)) h3 h4 h5 (fun b hb nE=>h6 b hb nE) h2
      (fun a n c e h0=>(h7 a n c e h0).imp (fun⟨n',c',e',h'⟩=>⟨a,n',c',e',h',rfl⟩) fun h=>h)
     refine⟨β',w',v',by rw[hh];exact h1,⟨?_,ver+1,?_,Nat.le_refl _,fun _=>k3.symm⟩,k1,k2⟩
     ·obtain⟨_,_,_,rfl,_⟩:=h2;rfl
     ·show kd (setAt st.hp i _) i=_;rw[bR,if_pos rfl];rfl
    ·cases h
   ·cases h
  ·cases h
 ·simp[Ask.val]at h
theorem Ng(hr:Rel W ag β₀ β st a w){id:Nat}{t u ty_:TypeId}{s:SV}{k:IntKind}{n:Int}{q:Option Prop}{v:LV}{d:List (Nat×Item)}(h:(zQ P id t u s n).val st.hp=some (q,v,d))(hq:c7 q)(jo:(∃x,(id,x)∈d)→kd st.hp id=none)
  {sv:Value} (X9:s.den β (kd st.hp) sv):
  ∃ (β':Env) (w':World) (val:Value),(Builtin.append_ #[t,u] ty_ #[sv,.int k n]).run P w= .ok val w'∧v.den β' (kd (ax d st.hp)) val∧aQ W ag β₀ β' (ax d st.hp) w'∧bh β β' (kd st.hp) (kd (ax d st.hp)):=by
 unfold zQ at h
 split at h
 rotate_left
 ·simp[Ask.val]at h
 rename_i el kn ji Tb
 split at h
 rotate_left
 ·simp[Ask.val]at h
 rename_i ty sz z by_ hty hs hz zt
 split at h
 rotate_left
 ·simp[Ask.val]at h
 rename_i ie;obtain⟨rfl,eI,Ez⟩:=ie
 split at h
 rotate_left
 ·simp[Ask.val]at h
 rename_i z0 Xk
 split at h
 ·simp only[Ask.val]at h
  cases h
  have G2:=jo ⟨_,by simp;rfl⟩;obtain⟨_,rfl⟩:=X9;obtain⟨o6,Ya,Yb⟩:0≤n∧n.toNat*by_≤70368744177664∧n.toNat≤70368744177664:=hq;obtain⟨m,rfl⟩:=Int.eq_ofNat_of_zero_le o6;simp only[Int.toNat_natCast]at Ya Yb ⊢;have l8:bI β w (.slice none 0 0) ty []:=⟨none,0,0,rfl,rfl,Nat.le_refl _,fun _=>rfl,fun h=>absurd h (by omega)⟩;obtain⟨v',w',h1,h2,h3,h4,h5,h6,h7⟩:=l6 (ty_:=ty_) (kq:=k) ji hs eI hz Ez zt l8 Tb Xk m (by simpa using Ya) (by simpa using Yb);rw[List.nil_append]at h2;obtain⟨β',k1,k2,k3⟩:=hr.heap.jM G2 (ver:=0) h3 h4 h5 (fun b hb=>h6 b hb (by rintro⟨_,_,_,e,_⟩;simp at e)) h2 (fun a n c e h0=>(h7 a n c e h0).resolve_left (by rintro⟨_,_,e,_⟩;simp at e));refine⟨β',w',v',h1,⟨?_,0,?_,Nat.le_refl _,fun _=>k3.symm⟩,k1,k2⟩
  ·obtain⟨_,_,_,rfl,_⟩:=h2;rfl
  ·show kd (setAt st.hp id _) id=_;rw[bR,if_pos rfl];rfl
 ·rename_i i ver;simp only[Ask.val]at h
  split at h
  ·rename_i ver' nu l hi
   split at h
   ·rename_i e;subst e
    split at h
    ·rename_i e;subst e
     cases h
     obtain⟨kI,hh⟩:=hr.heap.jL (p:=fun v=>sv=v) (an hi) X9.2;obtain⟨o6,Ya,Yb⟩:0≤n∧(l.length+n.toNat)*by_≤70368744177664∧l.length+n.toNat≤70368744177664:=hq;obtain⟨m,rfl⟩:=Int.eq_ofNat_of_zero_le o6;simp only[Int.toNat_natCast]at Ya Yb ⊢;obtain⟨v',w',h1,h2,h3,h4,h5,h6,h7⟩:=l6 (ty_:=ty_) (kq:=k) ji hs eI hz Ez zt kI Tb Xk m Ya Yb
     obtain⟨β',k1,k2,k3⟩:=hr.heap.nD (an hi) (ver':=ver+1) (l':=l++List.replicate m z0) (v:=v') (w':=w') (.inl (Nat.lt_succ_self _)) h3 h4 h5 (fun b hb nE=>h6 b hb nE) h2
      (fun a n c e h0=>(h7 a n c e h0).imp (fun⟨n',c',e',h'⟩=>⟨a,n',c',e',h',rfl⟩) fun h=>h)
     refine⟨β',w',v',by rw[hh];exact h1,⟨?_,ver+1,?_,Nat.le_refl _,fun _=>k3.symm⟩,k1,k2⟩
     ·obtain⟨_,_,_,rfl,_⟩:=h2;rfl
     ·show kd (setAt st.hp i _) i=_;rw[bR,if_pos rfl];rfl
    ·cases h
   ·cases h
  ·cases h
 ·simp[Ask.val]at h
theorem Yc(hr:Rel W ag β₀ β st a w){id:Nat}{b:Builtin}{ts:List TypeId}{xs:List LV}{vs:List Value}{q:Option Prop}{v:LV}{d:List (Nat×Item)}
  (h:(Na P id b ts xs).val st.hp=some (q,v,d)) (hq:c7 q) (jo:(∃x,(id,x)∈d)→kd st.hp id=none) (hd:bd (LV.den β (kd st.hp)) xs vs) (ty:TypeId) (cs:Array Bool):
  X6 P W ag β₀ β st w (builtin b ts.toArray ty cs vs.toArray) v d:=by
 have Hd:∀ {s:Sem Value} {val:Value} {x:SV},s.run P w= .ok val w→x.den β (kd st.hp) val→X6 P W ag β₀ β st w (do pure (.value (← s))) (.one (.sc x)) []:=by
  intro s val x h1 h2;exact⟨β,w,val,by rw[Sem.run_bind,h1];rfl,h2,hr.heap,bh.refl _ _⟩
 unfold Na at h
 split at h
 ·rename_i t x
  split at h
  ·rename_i s hs;rw[Ask.bL]at h;obtain⟨n,hn,he⟩:=map_some h
   cases he
   cases hd with
   |cons h1 h2=>
    cases h2
    exact Hd (Td hr hn (aO hs h1)) rfl
  ·simp[Ask.val]at h
 ·rename_i t u s x
  split at h
  ·rename_i s' k n hs hx
   cases hd with
   |cons h1 h2=>
    cases h2 with
    |cons h2 h3=>
     cases h3
     have e:=aO hx h2;simp only[SV.den]at e;subst e;obtain⟨β',w',val,k1,k2,k3,k4⟩:=Ng (ty_:=ty) (k:=k) hr h hq jo (aO hs h1);exact⟨β',w',val,by show(do pure (Next.value (← Builtin.append_ #[t,u] ty _)):Sem Next).run P w=_;rw[Sem.run_bind,k1];rfl,k2,k3,k4⟩
  ·rename_i s' x' _ hs hx
   cases hd with
   |cons h1 h2=>
    cases h2 with
    |cons h2 h3=>
     cases h3
     obtain⟨β',w',val,k1,k2,k3,k4⟩:=ED (ty_:=ty) hr h hq jo (aO hs h1) (aO hx h2);exact⟨β',w',val,by show(do pure (Next.value (← Builtin.append_ #[t,u] ty _)):Sem Next).run P w=_;rw[Sem.run_bind,k1];rfl,k2,k3,k4⟩
  ·simp[Ask.val]at h
 ·rename_i t u s x
  split at h
  ·rename_i s' x' hs hx
   cases hd with
   |cons h1 h2=>
    cases h2 with
    |cons h2 h3=>
     cases h3
     obtain⟨β',w',val,k1,k2,k3,k4⟩:=Nd (ty_:=ty) hr h (aO hs h1) (aO hx h2);exact⟨β',w',val,by show(do pure (Next.value (← Builtin.copy_ #[t,u] ty _)):Sem Next).run P w=_;rw[Sem.run_bind,k1];rfl,k2,k3,k4⟩
  ·simp[Ask.val]at h
 ·rename_i x l;simp only[Ask.val]at h
  split at h
  ·rename_i k x0 l0 hx hl;obtain⟨n,hn,he⟩:=map_some h
   cases he
   cases hd with
   |cons h1 h2=>
    rename_i v0 Xm;have e:v0= .int k x0.val:=aO hx h1;subst e;have:=nJ (P:=P) (w:=w) (f:=G7) (g:=Builtin.min2) (k:=k) (fun x y=>by simp[Builtin.min2,G7]) l0 Xm x0 n (qa hl h2) hn;refine Hd (s:=Builtin.min_ ts.toArray ty (Value.int k x0.val::Xm).toArray) (val:=.int k n.val) ?_ rfl;simp only[Builtin.min_];exact this
  ·cases h
 ·rename_i x l;simp only[Ask.val]at h
  split at h
  ·rename_i k x0 l0 hx hl;obtain⟨n,hn,he⟩:=map_some h
   cases he
   cases hd with
   |cons h1 h2=>
    rename_i v0 Xm;have e:v0= .int k x0.val:=aO hx h1;subst e;have:=nJ (P:=P) (w:=w) (f:=G8) (g:=Builtin.max2) (k:=k) (fun x y=>by simp[Builtin.max2,G8]) l0 Xm x0 n (qa hl h2) hn;refine Hd (s:=Builtin.max_ ts.toArray ty (Value.int k x0.val::Xm).toArray) (val:=.int k n.val) ?_ rfl;simp only[Builtin.max_];exact this
  ·cases h
 ·simp[Ask.val]at h
end
inductive Out where
 |leaf (q:Option Prop) (v:LV) (d:List (Nat×Item))
 |ite (b:Bool) (x y:Out)
 |fail
def Out.of:MN→Out
 |some (q,v,d)=>.leaf q v d
 |none=>.fail
def Out.holds(Q:LV→List (Nat×Item)→Prop):Out→Prop
 | .leaf q v d=>c7 q∧Q v d
 | .ite b x y=>(b=true→x.holds Q)∧(b=false→y.holds Q)
 | .fail=>False
def Cq(id:Nat)(hp:Hp)(d:List (Nat×Item)):Prop:=∀j x,(j,x)∈d→id≤j→kd hp j=none
def Out.fresh(id:Nat)(hp:Hp):Out→Prop
 | .leaf _ _ d=>Cq id hp d
 | .ite _ x y=>x.fresh id hp∧y.fresh id hp
 | .fail=>True
structure qb where
 run:FuncId→Nat→List LV→Ask Out
def EE(P:Program)(f:FuncId)(vals:Array Value)(w:World)(Q:Ending→World→Prop):Prop:=
 (∃val,(callFunc f vals).run P w= .ok (.value val) w∧Q (.returned val) w)∨
  ((∀ (as:Array Value) (w:World),(callFunc f as).run P w= .ok (.enter f as) w)∧Calls P f vals w Q)
theorem EE.mono{P:Program}{f:FuncId}{vals:Array Value}{w:World}{Q Q':Ending→World→Prop}(h:EE P f vals w Q)(hq:∀e w',Q e w'→Q' e w'):EE P f vals w Q':=
 h.imp (fun⟨v,h1,h2⟩=>⟨v,h1,hq _ _ h2⟩) fun⟨h1,h2⟩=>⟨h1,h2.mono hq⟩
structure MP (P:Program) (G:qb):Prop where
 calls:∀f id args hp,((G.run f id args).val hp).fresh id hp→∀Q,((G.run f id args).val hp).holds Q→
  ∀ (W:World) (ag:Hp) (β₀ β:Env) (w:World) (vals:List Value),aQ W ag β₀ β hp w→bd (LV.den β (kd hp)) args vals→
   EE P f vals.toArray w fun e w'=>∃v d val β',Q v d∧e= .returned val∧v.den β' (kd (ax d hp)) val∧aQ W ag β₀ β' (ax d hp) w'∧bh β β' (kd hp) (kd (ax d hp))
def put(st:St)(dst:Option Tmp)(v:LV)(hp:Hp):St:=
 match dst with
 |some d=>⟨st.fr.set d v,hp⟩
 |none=>⟨st.fr,hp⟩
theorem Rel.put{W:World}{ag:Hp}{β₀ β β':Env}{st:St}{a:Act}{w w':World}(h:Rel W ag β₀ β st a w){dst:Option Tmp}{v:LV}{val:Value}{hp:Hp}
  (hv:v.den β' (kd hp) val) (hh:aQ W ag β₀ β' hp w') (ha:bh β β' (kd st.hp) (kd hp)):
  Rel W ag β₀ β' (put st dst v hp) (a.put dst val) w':=by
 have hfr:bd (LV.den β' (kd hp)) st.fr a.tmps.toList:=h.fr.imp fun _ _=>LV.cM ha
 cases dst with
 |none=>exact⟨h.defers,hfr,hh⟩
 |some d=>exact⟨h.defers,by
   show bd (LV.den β' (kd hp)) (st.fr.set d v) (a.tmps.setIfInBounds d val).toList;rw[Array.toList_setIfInBounds];exact hfr.set d hv,hh⟩
def qc:LV→Option (FuncId×List LV)
 | .one (.sc (.cQ (.func (.func f) fs cs)))=>if fs.isEmpty&&cs.isEmpty then some (f,[])else none
 | .one (.sc (.Gv g b o))=>some (g,[.one (.sc (.ptr b o))])
 |_=>none
theorem zS{β:Env}{L:Nat→Option Kd}{x:LV}{v:Value}{f:FuncId}{ex:List LV}(h:qc x=some (f,ex))(hd:x.den β L v):
  ∃cs:List Value,v= .func (.func f) #[] cs.toArray∧bd (LV.den β L) ex cs:=by
 unfold qc at h
 split at h
 ·split at h
  ·rename_i Yd;simp only[Option.some.injEq,Prod.mk.injEq]at h;obtain⟨rfl,rfl⟩:=h;simp at Yd;obtain⟨rfl,rfl⟩:=Yd;exact⟨[],hd.2,.nil⟩
  ·cases h
 ·simp only[Option.some.injEq,Prod.mk.injEq]at h;obtain⟨rfl,rfl⟩:=h;exact⟨[_],hd.2,.cons ⟨hd.1,rfl⟩ .nil⟩
 ·cases h
def l9(P:Program)(G:qb)(id:Nat)(e:Operand→LV)(op:Op):Ask Out:=
 match op with
 | .call c=>match c.callee with
  | .builtin b=>(Na P id b c.argTypes.toList (c.args.toList.map e)).map Out.of
  | .value f=>match qc (e f)with
   |some (f,ex)=>G.run f id (c.args.toList.map e++ex)
   |none=>.ret .fail
  |_=>.ret .fail
 |op=>(c8 P id e op).map Out.of
def dT(P:Program)(G:qb)(h:Option Bool)(id:Nat)(e:Operand→LV)(op:Op):Ask Out:=
 match h,op with
 |some v,.pick c x y=>match e c with
  | .one (.sc (.bool t))=>.ret (.leaf (some (t.val=v)) (if v then e x else e y) [])
  |_=>.ret .fail
 |_,op=>l9 P G id e op
theorem He{P:Program}{G:qb}(hG:MP P G){id:Nat}{st:St}{o:Oper}(hf:((l9 P G id (ev st) o.op).val st.hp).fresh id st.hp){K:LV→List (Nat×Item)→Prop}(h:((l9 P G id (ev st) o.op).val st.hp).holds K)
  {W:World} {ag:Hp} {β₀ β:Env} {a:Act} {w:World} (hr:Rel W ag β₀ β st a w) {next:Act→World→Prop} {Q:Exit→Act→World→Prop}
  (hn:∀v d β' a' w',K v d→Rel W ag β₀ β' (put st o.dst v (ax d st.hp)) a' w'→next a' w'):o.wp P a w next Q:=by
 unfold l9 at h hf
 split at h
 ·rename_i c hc;have cq:bd (LV.den β (kd st.hp)) (c.args.toList.map (ev st)) (c.args.toList.map a.eval):=bd.of_map _ _ _ fun x _=>aB hr x;have e2:(c.args.toList.map a.eval).toArray=c.args.map a.eval:=by rw[← Array.toList_map,Array.toArray_toList]
  simp only[hc]at hf
  split at h
  ·rename_i b hb;simp only[hb]at hf;rw[Ask.bL]at h hf
   cases hs:(Na P id b c.argTypes.toList (c.args.toList.map (ev st))).val st.hp with
   |none=>rw[hs]at h;exact h.elim
   |some r=>
    obtain⟨q,v,d⟩:=r;rw[hs]at h hf;obtain⟨hq,hk⟩:=h;obtain⟨β',w',val,h1,h2,h3,h4⟩:=Yc hr hs hq (fun⟨x,hx⟩=>hf id x hx (Nat.le_refl _)) cq o.type (c.args.map fun| .const _=>true|_=>false);rw[e2,Array.toArray_toList]at h1
    have ck:(execOp a.eval o).run P w= .ok (.value val) w':=by
     simp only[execOp,hc,resolve,hb,Sem.run_bind,Sem.run_pure,Result.andThen_ok,invoke];exact h1
    unfold Oper.wp;rw[ck];exact hn v d β' _ w' hk (hr.put (dst:=o.dst) h2 h3 h4)
  ·rename_i x hx;simp only[hx]at hf
   split at h
   ·rename_i f ex hfn;simp only[hfn]at hf;obtain⟨cs,e,hex⟩:=zS hfn (aB hr x);have Q5:=hG.calls f id _ _ hf K h W ag β₀ β w _ hr.heap (cq.append hex);have e3:(c.args.toList.map a.eval++cs).toArray=c.args.map a.eval++cs.toArray:=(by rw[← List.append_toArray,e2]);rw[e3]at Q5;unfold Oper.wp;rcases Q5 with⟨val,h1,v,d,ahR,β',hk,he,h3,h4,h5⟩|⟨h1,h2⟩
    ·have ck:(execOp a.eval o).run P w= .ok (.value val) w:=by
      simp only[execOp,hc,resolve,hx,e,Deferred.ofValue,Sem.run_bind,Sem.run_pure,Result.andThen_ok,invoke,Array.empty_append];exact h1
     rw[ck]
     cases he
     exact hn v d β' _ w hk (hr.put (dst:=o.dst) h3 h4 h5)
    ·have ck:(execOp a.eval o).run P w= .ok (.enter f (c.args.map a.eval++cs.toArray)) w:=by
      simp only[execOp,hc,resolve,hx,e,Deferred.ofValue,Sem.run_bind,Sem.run_pure,Result.andThen_ok,invoke,Array.empty_append,h1]
     rw[ck];refine h2.mono ?_
     rintro e w' ⟨v,d,val,β',hk,rfl,h3,h4,h5⟩
     exact hn v d β' _ w' hk (hr.put (dst:=o.dst) h3 h4 h5)
   ·exact h.elim
  ·exact h.elim
 ·rename_i nE
  have Ye:((c8 P id (ev st) o.op).map Out.of).val st.hp |>.fresh id st.hp:=by
   split at hf
   ·rename_i c hc;exact absurd hc (nE c)
   ·exact hf
  rw[Ask.bL]at h Ye
  cases hs:(c8 P id (ev st) o.op).val st.hp with
  |none=>rw[hs]at h;exact h.elim
  |some r=>
   obtain⟨q,v,d⟩:=r;rw[hs]at h Ye;obtain⟨hq,hk⟩:=h;obtain⟨β',w',r,val,h1,h2,h3,h4,h5⟩:=M8 hs (fun⟨x,hx⟩=>Ye id x hx (Nat.le_refl _)) hq W ag β₀ β a w hr;have:=hn v d β' _ w' hk (hr.put (dst:=o.dst) h3 h4 h5);unfold Oper.wp;rw[h1];rcases h2 with rfl|⟨rfl,rfl⟩
   ·exact this
   ·exact this
theorem wR{P:Program}{G:qb}(hG:MP P G){g:Option Bool}{id:Nat}{st:St}{o:Oper}(hf:((dT P G g id (ev st) o.op).val st.hp).fresh id st.hp){K:LV→List (Nat×Item)→Prop}(h:((dT P G g id (ev st) o.op).val st.hp).holds K)
  {W:World} {ag:Hp} {β₀ β:Env} {a:Act} {w:World} (hr:Rel W ag β₀ β st a w) {next:Act→World→Prop} {Q:Exit→Act→World→Prop}
  (hn:∀v d β' a' w',K v d→Rel W ag β₀ β' (put st o.dst v (ax d st.hp)) a' w'→next a' w'):o.wp P a w next Q:=by
 unfold dT at h hf
 split at h
 ·rename_i b c x y ho
  split at h
  ·rename_i t ht;obtain⟨hq,hk⟩:=h;have htb:t.val=b:=hq;have hc:=aB hr c;rw[ht]at hc;have e:a.eval c= .bool t.val:=hc
   have ck:(execOp a.eval o).run P w= .ok (.value (if b then a.eval x else a.eval y)) w:=by
    simp[execOp,ho,e,asBool,htb]
   unfold Oper.wp;rw[ck];refine hn _ _ β _ w hk (hr.put (dst:=o.dst) (hp:=st.hp) ?_ hr.heap (bh.refl _ _))
   cases b
   ·exact aB hr y
   ·exact aB hr x
  ·exact h.elim
 ·rename_i nE
  have Ye:((l9 P G id (ev st) o.op).val st.hp).fresh id st.hp:=by
   split at hf
   ·rename_i b c x y ho;exact absurd ho (nE b c x y rfl)
   ·exact hf
  exact He hG Ye h hr hn
def cg(st:St)(ops:Array Oper)(o:Oper):Option SB:=
 match o.guard with
 |none=>some (.lit true)
 |some (j,want)=>match(ops[j]?).bind (·.dst)with
  |none=>some (.lit false)
  |some d=>match st.fr[d]? with
   |some (.one (.sc (.bool (.lit b))))=>some (.lit (b==want))
   |some (.one (.sc (.bool (.sym b))))=>some (.sym (b==want))
   |some (.bV _)=>some (.lit false)
   |some (.one (.sc (.int _ _)))=>some (.lit false)
   |none=>some (.lit false)
   |_=>none
theorem oF{W:World}{ag:Hp}{β₀ β:Env}{st:St}{a:Act}{w:World}(h:Rel W ag β₀ β st a w){ops:Array Oper}{o:Oper}{b:SB}
  (hb:cg st ops o=some b):Region.wanted o (yielded ops a.tmps)=b.val:=by
 unfold cg at hb;unfold Region.wanted
 split at hb
 ·rename_i hg;simp at hb;subst hb;simp[hg,SB.val]
 ·rename_i j want hg;simp only[hg];unfold yielded
  split at hb
  ·rename_i hd;simp at hb;subst hb;simp[hd,SB.val]
  ·rename_i d hd;simp only[hd,Option.bind_some];have hlen:=h.fr.length
   split at hb
   ·rename_i x hx;obtain⟨v,hv,zT⟩:=h.fr.get hx;have EF:a.tmps[d]? =some v:=(by simpa using hv);have e:v= .bool x:=zT;simp at hb;subst hb;simp[EF,e,SB.val]
   ·rename_i x hx;obtain⟨v,hv,zT⟩:=h.fr.get hx;have EF:a.tmps[d]? =some v:=(by simpa using hv);have e:v= .bool x:=zT;simp at hb;subst hb;simp[EF,e,SB.val]
   ·rename_i l hx;obtain⟨v,hv,vs,e,_⟩:=h.fr.get hx;have EF:a.tmps[d]? =some v:=(by simpa using hv);simp at hb;subst hb;simp[EF,e,SB.val]
   ·rename_i k i hx;obtain⟨v,hv,zT⟩:=h.fr.get hx;have EF:a.tmps[d]? =some v:=(by simpa using hv);have e:v= .int k i.val:=zT;simp at hb;subst hb;simp[EF,e,SB.val]
   ·rename_i hx
    have EF:a.tmps[d]? =none:=by
     have:=List.getElem?_eq_none_iff.1 hx;rw[Array.getElem?_eq_none_iff,← Array.length_toList];omega
    simp at hb;subst hb;simp[EF,SB.val]
   ·simp at hb
abbrev qd:=List (Tmp×Bool)
def known:qd→Tmp→Option Bool
 | [],_=>none
 |(d,v)::l,t=>if d=t then some v else known l t
def forget(a:qd):Option Tmp→qd
 |none=>a
 |some d=>a.filter fun p=>p.1!=d
def iI(a:qd)(st:St)(ops:Array Oper)(o:Oper):Option SB:=
 match o.guard with
 |none=>some (.lit true)
 |some (j,want)=>match(ops[j]?).bind (·.dst)with
  |none=>some (.lit false)
  |some d=>match known a d with
   |some v=>some (.lit (v==want))
   |none=>cg st ops o
def qe(a:qd)(ops:Array Oper)(o:Oper)(v:Bool):qd:=
 match o.guard with
 |none=>a
 |some (j,want)=>match(ops[j]?).bind (·.dst)with
  |none=>a
  |some d=>(d,v==want)::a
def fV(a:qd)(st:St):Prop:=∀d v,known a d=some v→∃x:SB,st.fr[d]? =some (.one (.sc (.bool x)))∧x.val=v
theorem tA{a:qd}{e d:Tmp}{v:Bool}(h:known (forget a (some e)) d=some v):d≠e∧known a d=some v:=by
 induction a with
 |nil=>simp[forget,known]at h
 |cons p a ih=>
  obtain⟨t,u⟩:=p;simp only[forget,List.filter_cons]at h ih
  split at h
  ·rename_i eC;simp only[known]at h ⊢
   split at h
   ·rename_i htd;subst htd;simp at h eC;exact⟨eC,by simp[h]⟩
   ·rename_i htd;rw[if_neg htd];exact ih h
  ·rename_i eC;simp at eC;subst eC;obtain⟨h1,h2⟩:=ih h;exact⟨h1,by simp only[known,if_neg (Ne.symm h1)];exact h2⟩
theorem fV.put{a:qd}{st:St}(h:fV a st){dst:Option Tmp}{v:LV}{hp:Hp}:fV (forget a dst) (put st dst v hp):=by
 intro d u hd
 cases dst with
 |none=>exact h d u hd
 |some e=>
  obtain⟨h1,h2⟩:=tA hd;obtain⟨x,hx,hv⟩:=h d u h2;exact⟨x,by simp only[Ev.put];rw[List.getElem?_set_ne (Ne.symm h1)];exact hx,hv⟩
theorem qf{a:qd}{st:St}(h:fV a st){ops:Array Oper}{o:Oper}{b:SB}(hb:iI a st ops o=some b):∃b',cg st ops o=some b'∧b'.val=b.val:=by
 unfold iI at hb
 split at hb
 ·rename_i hg;simp at hb;subst hb;exact⟨.lit true,by simp[cg,hg],rfl⟩
 ·rename_i j want hg
  split at hb
  ·rename_i hd;simp at hb;subst hb;exact⟨.lit false,by simp[cg,hg,hd],rfl⟩
  ·rename_i d hd
   split at hb
   ·rename_i v hk;simp at hb;subst hb;obtain⟨x,hx,hv⟩:=h d v hk
    cases x with
    |lit x=>exact⟨.lit (x==want),by simp[cg,hg,hd,hx],by simp only[SB.val]at hv ⊢;rw[hv]⟩
    |sym x=>exact⟨.sym (x==want),by simp[cg,hg,hd,hx],by simp only[SB.val]at hv ⊢;rw[hv]⟩
   ·exact⟨b,hb,rfl⟩
theorem ma{a:qd}{st:St}(h:fV a st){ops:Array Oper}{o:Oper}{b:Bool}(hb:iI a st ops o=some (.sym b)):fV (qe a ops o b) st:=by
 unfold iI at hb
 split at hb
 ·simp at hb
 ·rename_i j want hg
  split at hb
  ·simp at hb
  ·rename_i d hd;have hl:qe a ops o b=(d,b==want)::a:=(by simp only[qe,hg,hd]);rw[hl]
   split at hb
   ·simp at hb
   ·intro e v he;simp only[known]at he
    split at he
    ·rename_i hde;subst hde;simp at he;subst he;simp only[cg,hg,hd]at hb
     split at hb<;>simp at hb
     rename_i x hx;subst hb;exact⟨.sym x,hx,by cases x<;>cases want<;>rfl⟩
    ·exact h e v he
inductive aV where
 |leaf (e:Exit) (st:St)
 |ite (b:Bool) (t e:aV)
 |need (p:Prop) (r:aV)
 |fail
def aV.sat(Q:Exit→St→Prop):aV→Prop
 | .leaf e st=>Q e st
 | .ite b t e=>(b=true→t.sat Q)∧(b=false→e.sat Q)
 | .need p r=>p∧r.sat Q
 | .fail=>False
def aV.bind(f:St→aV):aV→aV
 | .leaf .normal st=>f st
 | .leaf e st=>.leaf e st
 | .ite b t e=>.ite b (t.bind f) (e.bind f)
 | .need p r=>.need p (r.bind f)
 | .fail=>.fail
def aV.block(id:Nat):aV→aV
 | .leaf (.exit i) st=>if i=id then .leaf .normal st else .leaf (.exit i) st
 | .leaf e st=>.leaf e st
 | .ite b t e=>.ite b (t.block id) (e.block id)
 | .need p r=>.need p (r.block id)
 | .fail=>.fail
def aV.scope:aV→aV
 | .leaf (.goto _) _=>.fail
 | .leaf e st=>.leaf e st
 | .ite b t e=>.ite b t.scope e.scope
 | .need p r=>.need p r.scope
 | .fail=>.fail
def aV.c7(q:Option Prop)(r:aV):aV:=
 match q with
 |none=>r
 |some p=>.need p r
theorem aV.jQ{Q Q':Exit→St→Prop}(hq:∀e st,Q e st→Q' e st):∀ {r:aV},r.sat Q→r.sat Q'
 | .leaf _ _,h=>hq _ _ h
 | .ite _ _ _,h=>⟨fun e=>aV.jQ hq (h.1 e),fun e=>aV.jQ hq (h.2 e)⟩
 | .need _ _,h=>⟨h.1,aV.jQ hq h.2⟩
 | .fail,h=>h
theorem fM{q:Option Prop}{r:aV}{R:Exit→St→Prop}(h:(r.c7 q).sat R):c7 q∧r.sat R:=by
 cases q with
 |none=>exact⟨trivial,h⟩
 |some p=>exact h
def jr(W:World)(ag:Hp)(β₀:Env)(R:Exit→St→Prop):Exit→Act→World→Prop:=
 fun e a w=>∃st β,R e st∧Rel W ag β₀ β st a w
structure Alt where
 f:Bool→Hp→aV→aV→aV
 yes:∀ {m:Hp} {t e:aV} {R:Exit→St→Prop} {W:World} {β₀:Env},(f true m t e).sat R→∃R',t.sat R'∧∀e a w,jr W m β₀ R' e a w→jr W m β₀ R e a w
 no:∀ {m:Hp} {t e:aV} {R:Exit→St→Prop} {W:World} {β₀:Env},(f false m t e).sat R→∃R',e.sat R'∧∀e a w,jr W m β₀ R' e a w→jr W m β₀ R e a w
def fork:Alt where
 f b _ t e:=.ite b t e
 yes h:=⟨_,h.1 rfl,fun _ _ _ h=>h⟩
 no h:=⟨_,h.2 rfl,fun _ _ _ h=>h⟩
structure FX where
 r:List Nat
 d:List (Nat×Item)
 v:LV
 re:Hp→Out×List Nat
abbrev FP:=Option FX
def FX.w(f:FX):List Nat:=f.d.map (·.1)
def EG(a:Ask Out)(hp:Hp)(v:LV)(d:List (Nat×Item)):FP:=some ⟨a.log hp,d,v,fun h=>(a.val h,a.log h)⟩
def Out.kN(dr:Bool)(k:LV→List (Nat×Item)→aV):Out→aV
 | .leaf q v d=>(k v d).c7 q
 | .ite b x y=>if dr then .fail else .ite b (x.kN dr k) (y.kN dr k)
 | .fail=>.fail
def iJ(k:qd):Op→Option Bool
 | .pick (.tmp d) _ _=>known k d
 |_=>none
def ij(P:Program)(G:qb)(k:qd)(id:Nat)(e:Operand→LV)(op:Op):Ask Out:=
 match iJ k op,op with
 |some v,.pick _ x y=>.ret (.leaf none (if v then e x else e y) [])
 |_,_=>l9 P G id e op
def eE(P:Program)(G:qb)(A:Alt)(m:Hp)(dr:Bool)(su:List FP→Option (Option Prop))(ops:Array Oper):List Oper→qd→List FP→St→aV
 | [],_,acc,st=>match su acc with
  |some q=>(aV.leaf .normal st).c7 q
  |none=>.fail
 |o::rest,k,acc,st=>
  match iI k st ops o with
  |some (.lit true)=>((ij P G k st.hp.length (ev st) o.op).val st.hp).kN dr fun v d=>
    eE P G A m dr su ops rest (forget k o.dst) (acc++ [EG (ij P G k st.hp.length (ev st) o.op) st.hp v d]) (put st o.dst v (ax d st.hp))
  |some (.lit false)=>eE P G A m dr su ops rest (forget k o.dst) (acc++ [none]) (put st o.dst (.bV []) st.hp)
  |some (.sym b)=>A.f b m
    (((ij P G (qe k ops o true) st.hp.length (ev st) o.op).val st.hp).kN dr fun v d=>
      eE P G A m dr su ops rest (forget (qe k ops o true) o.dst) (acc++ [EG (ij P G (qe k ops o true) st.hp.length (ev st) o.op) st.hp v d]) (put st o.dst v (ax d st.hp)))
    (eE P G A m dr su ops rest (forget (qe k ops o false) o.dst) (acc++ [none]) (put st o.dst (.bV []) st.hp))
  |none=>.fail
theorem du{hp:Hp}{j:Nat}(h:hp.length≤j):kd hp j=none:=by
 unfold kd;rw[List.getElem?_eq_none h]
theorem mb(hp:Hp)(d:List (Nat×Item)):Cq hp.length hp d:=fun _ _ _ h=>du h
theorem nK(hp:Hp):∀o:Out,o.fresh hp.length hp
 | .leaf _ _ d=>mb hp d
 | .ite _ x y=>⟨nK hp x,nK hp y⟩
 | .fail=>trivial
theorem jR{dr:Bool}{k:LV→List (Nat×Item)→aV}{R:Exit→St→Prop}:∀ {o:Out},(o.kN dr k).sat R→o.holds fun v d=>(k v d).sat R
 | .leaf q v d,h=>fM h
 | .ite b x y,h=>by
  simp only[Out.kN]at h
  split at h
  ·exact h.elim
  ·exact⟨fun e=>jR (h.1 e),fun e=>jR (h.2 e)⟩
 | .fail,h=>h
theorem zU{k:LV→List (Nat×Item)→aV}{R:Exit→St→Prop}{o:Out}(h:(o.kN true k).sat R):∃q v d,o= .leaf q v d∧c7 q∧(k v d).sat R:=by
 cases o with
 |leaf q v d=>exact⟨q,v,d,rfl,(fM h).1,(fM h).2⟩
 |ite b x y=>simp[Out.kN,aV.sat]at h
 |fail=>exact h.elim
theorem Cr{P:Program}{G:qb}{k:qd}{id:Nat}{st:St}{op:Op}(hk:fV k st):
  (ij P G k id (ev st) op=dT P G (iJ k op) id (ev st) op)∨
  ∃v p,ij P G k id (ev st) op= .ret (.leaf none v [])∧dT P G (iJ k op) id (ev st) op= .ret (.leaf (some p) v [])∧p:=by
 unfold ij
 split
 ·rename_i v c x y hh;right;unfold iJ at hh
  split at hh
  ·rename_i d x' y' e;simp at e;obtain⟨rfl,rfl,rfl⟩:=e;obtain⟨t,ht,hv⟩:=hk _ _ hh;have hev:ev st (.tmp d)= .one (.sc (.bool t)):=(by simp[ev,List.getD_eq_getElem?_getD,ht]);refine⟨_,t.val=v,rfl,?_,hv⟩;simp only[dT,iJ,hh,hev]
  ·cases hh
 ·rename_i nE;left;unfold dT
  split
  ·rename_i v c x y hh;exact absurd hh (by intro h;exact nE v c x y h rfl)
  ·rfl
theorem Hf{P:Program}{G:qb}(hG:MP P G){k:qd}{id:Nat}{st:St}{o:Oper}(hk:fV k st)(hf:∀o:Out,o.fresh id st.hp){K:LV→List (Nat×Item)→Prop}(h:((ij P G k id (ev st) o.op).val st.hp).holds K)
  {W:World} {ag:Hp} {β₀ β:Env} {a:Act} {w:World} (hr:Rel W ag β₀ β st a w) {next:Act→World→Prop} {Q:Exit→Act→World→Prop}
  (hn:∀v d β' a' w',K v d→Rel W ag β₀ β' (put st o.dst v (ax d st.hp)) a' w'→next a' w'):o.wp P a w next Q:=by
 have hs:((dT P G (iJ k o.op) id (ev st) o.op).val st.hp).holds K:=by
  rcases Cr (P:=P) (G:=G) (id:=id) (op:=o.op) hk with e|⟨v,p,e1,e2,hp⟩
  ·rw[← e];exact h
  ·rw[e1]at h;rw[e2];exact⟨hp,h.2⟩
 exact wR hG (hf _) hs hr hn
theorem qg{P:Program}{G:qb}{A:Alt}(hG:MP P G){W:World}{m:Hp}{β₀:Env}{dr:Bool}{su:List FP→Option (Option Prop)}{ops:Array Oper}{Q:Exit→Act→World→Prop}:
  ∀ (l:List Oper) (k:qd) (acc:List FP) (st:St) (R:Exit→St→Prop),fV k st→(eE P G A m dr su ops l k acc st).sat R→(∀e a w,jr W m β₀ R e a w→Q e a w)→
   ∀β a w,Rel W m β₀ β st a w→wpList P ops Q l a w
 | [],k,acc,st,R,hk,h,hq,β,a,w,hr=>by
  simp only[eE]at h
  split at h
  ·exact hq _ _ _ ⟨st,β,(fM h).2,hr⟩
  ·exact h.elim
 |o::rest,k,acc,st,R,hk,h,hq,β,a,w,hr=>by
  have ck:∀ (k:qd) (acc:LV→List (Nat×Item)→List FP),fV k st→∀ (R:Exit→St→Prop),(((ij P G k st.hp.length (ev st) o.op).val st.hp).kN dr fun v d=>
    eE P G A m dr su ops rest (forget k o.dst) (acc v d) (put st o.dst v (ax d st.hp))).sat R→(∀e a w,jr W m β₀ R e a w→Q e a w)→o.wp P a w (wpList P ops Q rest) Q:=by
   intro k acc hk R h hq;exact Hf hG hk (nK _) (jR h) hr fun v d β' a' w' hkv jw=>qg hG rest _ _ _ R hk.put hkv hq β' a' w' jw
  have wS:∀ (k:qd) (acc:List FP),fV k st→∀ (R:Exit→St→Prop),(eE P G A m dr su ops rest (forget k o.dst) acc (put st o.dst (.bV []) st.hp)).sat R→(∀e a w,jr W m β₀ R e a w→Q e a w)→
    wpList P ops Q rest (a.put o.dst undef) w:=by
   intro k acc hk R h hq;exact qg hG rest _ _ _ R hk.put h hq β _ w (hr.put (dst:=o.dst) ⟨[],rfl,.nil⟩ hr.heap (bh.refl _ _))
  simp only[eE]at h
  cases hb:iI k st ops o with
  |none=>simp only[hb]at h;exact h.elim
  |some b=>
   obtain⟨b',fx,MQ⟩:=qf hk hb;have hw:=oF hr fx;rw[MQ]at hw;simp only[hb]at h;simp only[wpList,hw]
   cases b with
   |lit b=>
    cases b with
    |true=>exact .inl (ck k _ hk R h hq)
    |false=>exact wS k _ hk R h hq
   |sym b=>
    cases b with
    |true=>
     obtain⟨R',h1,h2⟩:=A.yes (W:=W) (β₀:=β₀) h;exact .inl (ck _ _ (ma hk hb) R' h1 fun e a w hp=>hq e a w (h2 e a w hp))
    |false=>
     obtain⟨R',h1,h2⟩:=A.no (W:=W) (β₀:=β₀) h;exact wS _ _ (ma hk hb) R' h1 fun e a w hp=>hq e a w (h2 e a w hp)
theorem put_comm(st:St){x y:Option Tmp}(v u:LV)(h1 h2 h:Hp)(eC:∀d,x=some d→y≠some d):put (put st x v h1) y u h=put (put st y u h2) x v h:=by
 cases x with
 |none=>cases y<;>rfl
 |some d=>
  cases y with
  |none=>rfl
  |some e=>
   have:d≠e:=fun he=>eC d rfl (he▸rfl);simp only[put];rw[List.set_comm _ _ this]
theorem EH{ops:Array Oper}{o:Oper}{t:Tmp}(h:Operand.tmp t∈o.op.operands):t∈o.looksAt ops:=by
 unfold Oper.looksAt;rw[List.mem_append];refine .inl (List.mem_filterMap.2 ⟨.tmp t,by simpa using h,rfl⟩)
theorem Te{st:St}{dst:Option Tmp}{v:LV}{hp:Hp}{x:Operand}(h:∀d,dst=some d→x≠ .tmp d):ev (put st dst v hp) x=ev st x:=by
 cases dst with
 |none=>cases x<;>rfl
 |some d=>
  cases x with
  |tmp t=>
   have eC:t≠d:=fun e=>h d rfl (e▸rfl);simp only[ev,put,List.getD_eq_getElem?_getD];rw[List.getElem?_set_ne (Ne.symm eC)]
  |_=>rfl
theorem ik{ops:Array Oper}{o:Oper}{dst:Option Tmp}(h:∀d,dst=some d→d∉o.looksAt ops){st:St}{v:LV}{hp:Hp}:∀x∈o.op.operands,ev (put st dst v hp) x=ev st x:=
 fun _x hx=>Te fun d hd e=>h d hd (EH (e▸hx))
theorem cZ{ops:Array Oper}{o:Oper}{dst:Option Tmp}(h:∀d,dst=some d→d∉o.looksAt ops){st:St}{v:LV}{hp:Hp}:
  cg (put st dst v hp) ops o=cg st ops o:=by
 unfold cg
 cases hg:o.guard with
 |none=>rfl
 |some p=>
  obtain⟨j,want⟩:=p
  cases ht:(ops[j]?).bind (·.dst)with
  |none=>simp[ht]
  |some t=>
   have:(put st dst v hp).fr[t]? =st.fr[t]? :=by
    cases dst with
    |none=>rfl
    |some d=>
     have eC:d≠t:=fun e=>h d rfl (by subst e;simp[Oper.looksAt,hg,ht]);simp only[put];rw[List.getElem?_set_ne eC]
   simp only[ht,this]
theorem zV{P:Program}{id:Nat}{e e2:Operand→LV}{op:Op}(h:∀x∈op.operands,e2 x=e x):c8 P id e2 op=c8 P id e op:=by
 cases op<;>simp only[Op.operands]at h<;>(try rfl)
 case move x=>simp only[c8,h x (by simp)]
 case assign x=>simp only[c8,h x (by simp)]
 case pick c x y=>simp only[c8,h c (by simp),h x (by simp),h y (by simp)]
 case makeFunc fn fs cs=>
  have e':cs.toList.map e2=cs.toList.map e:=List.map_congr_left fun x hx=>h x (Array.mem_append.2 (.inr (Array.mem_toList_iff.1 hx)))
  cases fn<;>simp only[c8,e']
 case box t x=>simp only[c8,h x (by simp)]
 case build t parts=>
  have e:(parts.toList.map fun p=>(p.1,e2 p.2))=parts.toList.map fun p=>(p.1,e p.2):=List.map_congr_left fun p hp=>by
   rw[h p.2 (by rw[List.mem_toArray];exact List.mem_map.2 ⟨p,hp,rfl⟩)]
  simp only[c8,e]
 case buildSlice t len parts=>
  have e:(parts.toList.map fun p=>(p.1,e2 p.2))=parts.toList.map fun p=>(p.1,e p.2):=List.map_congr_left fun p hp=>by
   rw[h p.2 (by rw[List.mem_toArray];exact List.mem_map.2 ⟨p,hp,rfl⟩)]
  simp only[c8,e]
 case load t x=>simp only[c8,h x (by simp)]
 case store t x y=>simp only[c8,h x (by simp),h y (by simp)]
 case nilCheck x=>simp only[c8,h x (by simp)]
 case binOp op t x y yt=>simp only[c8,h x (by simp),h y (by simp)]
 case unOp op t x=>simp only[c8,h x (by simp)]
 case convert s d x=>simp only[c8,h x (by simp)]
 case sliceToArrayPointer t x=>simp only[c8,h x (by simp)]
 case makeSlice t x y=>simp only[c8,h x (by simp),h y (by simp)]
 case slice t x lo hi mx=>
  have e1:lo.map e2=lo.map e:=by cases lo<;>simp_all
  have e3:hi.map e2=hi.map e:=by cases hi<;>simp_all
  have e4:mx.map e2=mx.map e:=by cases mx<;>simp_all
  simp only[c8,h x (by simp),e1,e3,e4]
 case fieldAddr s x f=>simp only[c8,h x (by simp)]
 case field s x f=>simp only[c8,h x (by simp)]
 case indexAddr t x i=>simp only[c8,h x (by simp),h i (by simp)]
 case index t x i=>simp only[c8,h x (by simp),h i (by simp)]
 case extract x i=>simp only[c8,h x (by simp)]
theorem wT{P:Program}{G:qb}{id:Nat}{e e2:Operand→LV}{op:Op}(h:∀x∈op.operands,e2 x=e x):l9 P G id e2 op=l9 P G id e op:=by
 unfold l9
 split
 ·rename_i c;have cq:c.args.toList.map e2=c.args.toList.map e:=List.map_congr_left fun x hx=>h x (by simp only[Op.operands,Call.operands,Array.mem_append];exact .inr (by simpa using hx));rw[cq]
  split
  ·rfl
  ·rename_i f hf;rw[h f (by simp[Op.operands,Call.operands,hf])]
  ·rfl
 ·rw[zV h]
theorem bG{P:Program}{G:qb}{g:Option Bool}{id:Nat}{e e2:Operand→LV}{op:Op}(h:∀x∈op.operands,e2 x=e x):dT P G g id e2 op=dT P G g id e op:=by
 unfold dT
 split
 ·rename_i v c x y;rw[h c (by simp[Op.operands]),h x (by simp[Op.operands]),h y (by simp[Op.operands])]
 ·exact wT h
theorem tB{hp:Hp}{i k:Nat}{x:Item}(h:k≠i):aW (setAt hp i x) k=aW hp k:=by
 unfold aW
 split
 ·rename_i y hy;rw[(bz hp i x k y h).1 hy]
 ·rename_i hn
  split
  ·rename_i y hy;exact absurd ((bz hp i x k y h).2 hy) (hn y)
  ·rfl
theorem cD:∀ {d:List (Nat×Item)} {hp:Hp} {k:Nat},k∉d.map (·.1)→aW (ax d hp) k=aW hp k
 | [],_,_,_=>rfl
 |(i,x)::d,hp,k,h=>by
  simp only[List.map_cons,List.mem_cons,not_or]at h;show aW (ax d (setAt hp i x)) k=_;rw[cD h.2,tB h.1]
theorem sw(hp:Hp)(k:Nat):kd hp k=(aW hp k).map Item.kd:=by
 unfold kd aW
 cases hp[k]? with
 |none=>rfl
 |some x=>cases x<;>rfl
theorem EI{d:List (Nat×Item)}{hp:Hp}{k:Nat}(h:k∉d.map (·.1)):kd (ax d hp) k=kd hp k:=by rw[sw,sw,cD h]
theorem jS:∀ {d:List (Nat×Item)} {hp:Hp} {k:Nat},kd (ax d hp) k=none→kd hp k=none
 | [],_,_,h=>h
 |(i,x)::d,hp,k,h=>by
  have:=jS (d:=d) (hp:=setAt hp i x) h;rw[bR]at this
  split at this
  ·cases this
  ·exact this
theorem lj:∀ (hp:Hp) (i j:Nat) (a b:Item),i≠j→setAt (setAt hp i a) j b=setAt (setAt hp j b) i a
 | [],0,0,_,_,h=>absurd rfl h
 | [],0,j+1,a,b,_=>by simp[setAt]
 | [],i+1,0,a,b,_=>by simp[setAt]
 | [],i+1,j+1,a,b,h=>by simp only[setAt];rw[lj [] i j a b (by omega)]
 |_::_,0,0,_,_,h=>absurd rfl h
 |_::_,0,j+1,_,_,_=>by simp[setAt]
 |_::_,i+1,0,_,_,_=>by simp[setAt]
 |_::l,i+1,j+1,a,b,h=>by simp only[setAt];rw[lj l i j a b (by omega)]
theorem mc:∀ (d:List (Nat×Item)) (hp:Hp) (i:Nat) (x:Item),i∉d.map (·.1)→ax d (setAt hp i x)=setAt (ax d hp) i x
 | [],_,_,_,_=>rfl
 |(j,y)::d,hp,i,x,h=>by
  simp only[List.map_cons,List.mem_cons,not_or]at h;show ax d (setAt (setAt hp i x) j y)=setAt (ax d (setAt hp j y)) i x;rw[lj _ _ _ _ _ h.1,mc d _ _ _ h.2]
theorem oG:∀ (d d2:List (Nat×Item)) (hp:Hp),(∀k∈d.map (·.1),k∉d2.map (·.1))→ax d2 (ax d hp)=ax d (ax d2 hp)
 | [],_,_,_=>rfl
 |(i,x)::d,d2,hp,h=>by
  show ax d2 (ax d (setAt hp i x))=ax d (setAt (ax d2 hp) i x);rw[oG d d2 (setAt hp i x) fun k hk=>h k (by simp[List.map_cons];exact .inr (by simpa using hk)),mc d2 _ _ _ (h i (by simp))]
def Yf(f:FX)(a:Ask Out):Prop:=∀h,(f.re h).2=a.log h∧∀v',(f.re h).1= .leaf none v' []→∃q',a.val h= .leaf q' v' []∧c7 q'
theorem oH:∀ {d:List (Nat×Item)} {hp hp2:Hp} {k:Nat},k∈d.map (·.1)→aW (ax d hp) k=aW (ax d hp2) k
 |(i,x)::d,hp,hp2,k,h=>by
  show aW (ax d (setAt hp i x)) k=aW (ax d (setAt hp2 i x)) k
  by_cases hk:k∈d.map (·.1)
  ·exact oH hk
  ·have e:k=i:=(by simpa [hk]using h);subst e;rw[cD hk,cD hk,kj (bZ _ _ _),kj (bZ _ _ _)]
def me(P:Program)(G:qb)(ops:Array Oper)(ids:Nat→Nat)(fp:Nat→FP)(i:Nat)(st ku:St):Prop:=
 ∃o b,ops[i]? =some o∧cg st ops o=some b∧
  ((b.val=true∧∃q v d g f,(dT P G g (ids i) (ev st) o.op).val st.hp= .leaf q v d∧c7 q∧(fp i=some f∧f.r=(dT P G g (ids i) (ev st) o.op).log st.hp∧f.d=d∧f.v=v∧Yf f (dT P G g (ids i) (ev st) o.op))∧Cq (ids i) st.hp d∧ku=put st o.dst v (ax d st.hp))∨
   (b.val=false∧fp i=none∧ku=put st o.dst (.bV []) st.hp))
def zW:FP→FP→Bool
 |some f1,some f2=>f1.w.all (fun k=> !(f2.r.contains k)&& !(f2.w.contains k))&&f2.w.all fun k=> !(f1.r.contains k)
 |_,_=>true
def Hg(fj fi:FP):Prop:=∃a b,fj=some a∧fi=some b∧a.d= []∧(∀k∈a.r,k∈b.w)∧a.re (ax b.d [])=(.leaf none a.v [],a.r)
theorem cv{st:St}{dst:Option Tmp}{v:LV}{hp:Hp}:(put st dst v hp).hp=hp:=by cases dst<;>rfl
noncomputable section
variable {P:Program} {G:qb} {ops:Array Oper} {ids:Nat→Nat} {fp:Nat→FP}
theorem EJ{i j:Nat}{oi oj:Oper}(qh:ops[i]? =some oi)(tC:ops[j]? =some oj)(hap:oj.apart ops oi=true)(zX:zW (fp j) (fp i)=true∨Hg (fp j) (fp i))
  {st s1 s2:St} (h1:me P G ops ids fp j st s1) (h2:me P G ops ids fp i s1 s2):∃s1',me P G ops ids fp i st s1'∧me P G ops ids fp j s1' s2:=by
 obtain⟨a1,a2,a3⟩:=Oper.apart_spec hap;obtain⟨o,bj,ho,Yg,h1⟩:=h1;rw[tC]at ho;simp at ho;subst ho;obtain⟨o,bi,ho,Tf,h2⟩:=h2;rw[qh]at ho;simp at ho;subst ho;rcases h1 with⟨Xn,qj,vj,dj,gj,Fj,ej,nj,⟨fj,fj1,Yh,fj3,fj4⟩,rj,rfl⟩|⟨Xn,fj,rfl⟩
 ·rw[cZ a1]at Tf;have Yi:∀x∈oi.op.operands,ev (put st oj.dst vj (ax dj st.hp)) x=ev st x:=ik a1;rcases h2 with⟨Q6,qi,vi,di,gi,Fi,ei,ni,⟨fi,Tg,Xo,fi3,Xp⟩,ri,rfl⟩|⟨Q6,fi,rfl⟩
  ·rw[bG Yi,cv]at ei Tg;rw[bG Yi]at Xp;rw[cv]at ri;have Xq:∀x∈oj.op.operands,ev (put st oi.dst vi (ax di st.hp)) x=ev st x:=ik a3;rw[fj,fi]at zX;rcases zX with zX|Yj
   ·simp only[zW,FX.w,Bool.and_eq_true,List.all_eq_true,Bool.not_eq_true',List.contains_eq_mem,decide_eq_false_iff_not,fj1,Yh,Tg,Xo]at zX;obtain⟨d1,d2⟩:=zX;have hli:∀k∈(dT P G gi (ids i) (ev st) oi.op).log (ax dj st.hp),aW st.hp k=aW (ax dj st.hp) k:=fun k hk=>(cD fun hm=>(d1 k hm).1 hk).symm;obtain⟨k1,k2⟩:=Ask.tj _ hli;have hlj:∀k∈(dT P G gj (ids j) (ev st) oj.op).log st.hp,aW (ax di st.hp) k=aW st.hp k:=fun k hk=>cD fun hm=>d2 k hm hk;obtain⟨k3,k4⟩:=Ask.tj _ hlj
    refine⟨put st oi.dst vi (ax di st.hp),⟨oi,bi,qh,Tf,.inl ⟨Q6,qi,vi,di,gi,Fi,by rw[k1];exact ei,ni,⟨fi,by rw[k2];exact Tg,Xo,fi3,Xp⟩,fun k x hk hle=>jS (ri k x hk hle),rfl⟩⟩,
     ⟨oj,bj,tC,by rw[cZ a3];exact Yg,.inl ⟨Xn,qj,vj,dj,gj,Fj,by rw[bG Xq,cv,k3];exact ej,nj,⟨fj,by rw[bG Xq,cv,k4];exact fj1,Yh,fj3,by rw[bG Xq];exact fj4⟩,?_,?_⟩⟩⟩
    ·intro k x hk hle;rw[cv,EI (fun hm=>(d1 k (List.mem_map.2 ⟨_,hk,rfl⟩)).2 hm)];exact rj k x hk hle
    ·rw[cv,cv,oG dj di st.hp (fun k hk=>(d1 k hk).2)];exact put_comm st vj vi _ _ _ a2
   ·obtain⟨a,b,e1,e2,h3,h4,h5⟩:=Yj;simp at e1 e2;subst e1 e2;rw[Yh]at h3;subst h3;simp only[FX.w,Xo]at h4 h5;rw[fj3]at h5;obtain⟨m1,m2⟩:=fj4 (ax di []);rw[h5]at m1 m2;obtain⟨q',m3,m4⟩:=m2 vj rfl;simp only at m1;have ad5:∀k∈(dT P G gj (ids j) (ev st) oj.op).log (ax di []),aW (ax di st.hp) k=aW (ax di []) k:=fun k hk=>oH (h4 k (by rw[m1];exact hk));obtain⟨k3,k4⟩:=Ask.tj _ ad5
    refine⟨put st oi.dst vi (ax di st.hp),⟨oi,bi,qh,Tf,.inl ⟨Q6,qi,vi,di,gi,Fi,ei,ni,⟨fi,Tg,Xo,fi3,Xp⟩,ri,rfl⟩⟩,
     ⟨oj,bj,tC,by rw[cZ a3];exact Yg,.inl ⟨Xn,q',vj,[],gj,Fj,by rw[bG Xq,cv,k3];exact m3,m4,⟨fj,by rw[bG Xq,cv,k4];exact m1,Yh,fj3,by rw[bG Xq];exact fj4⟩,fun k x hk=>(by cases hk),?_⟩⟩⟩
    rw[cv,cv];exact put_comm st vj vi _ _ _ a2
  ·refine⟨put st oi.dst (.bV []) st.hp,⟨oi,bi,qh,Tf,.inr ⟨Q6,fi,rfl⟩⟩,⟨oj,bj,tC,by rw[cZ a3];exact Yg,.inl ⟨Xn,qj,vj,dj,gj,Fj,?_,nj,⟨fj,?_,Yh,fj3,?_⟩,?_,?_⟩⟩⟩
   ·rw[bG (ik a3),cv];exact ej
   ·rw[bG (ik a3),cv];exact fj1
   ·rw[bG (ik a3)];exact fj4
   ·rw[cv];exact rj
   ·rw[cv,cv];exact put_comm st vj _ _ _ _ a2
 ·rw[cZ a1]at Tf;have Yi:∀x∈oi.op.operands,ev (put st oj.dst (.bV []) st.hp) x=ev st x:=ik a1;rcases h2 with⟨Q6,qi,vi,di,gi,Fi,ei,ni,⟨fi,Tg,Xo,fi3,Xp⟩,ri,rfl⟩|⟨Q6,fi,rfl⟩
  ·rw[bG Yi,cv]at ei Tg;rw[bG Yi]at Xp;rw[cv]at ri;refine⟨put st oi.dst vi (ax di st.hp),⟨oi,bi,qh,Tf,.inl ⟨Q6,qi,vi,di,gi,Fi,ei,ni,⟨fi,Tg,Xo,fi3,Xp⟩,ri,rfl⟩⟩,⟨oj,bj,tC,by rw[cZ a3];exact Yg,.inr ⟨Xn,fj,?_⟩⟩⟩;rw[cv,cv];exact put_comm st _ vi _ _ _ a2
  ·refine⟨put st oi.dst (.bV []) st.hp,⟨oi,bi,qh,Tf,.inr ⟨Q6,fi,rfl⟩⟩,⟨oj,bj,tC,by rw[cZ a3];exact Yg,.inr ⟨Xn,fj,?_⟩⟩⟩;rw[cv,cv];exact put_comm st _ _ _ _ _ a2
end
inductive mf (P:Program) (G:qb) (ops:Array Oper) (ids:Nat→Nat) (fp:Nat→FP):List Nat→St→St→Prop where
 |nil {st}:mf P G ops ids fp [] st st
 |cons {i l st s s'} (h:me P G ops ids fp i st s) (t:mf P G ops ids fp l s s'):mf P G ops ids fp (i::l) st s'
def il(acc:List Nat)(o:Oper):Nat:=
 o.after.toList.foldr (fun e s=>if Region.binds .any e then s|||2 ^ e.on|||acc.getD e.on 0 else s) 0
def mg:List Oper→List Nat→List Nat
 | [],acc=>acc
 |o::l,acc=>mg l (acc++ [il acc o])
theorem rT{acc:List Nat}{o:Oper}{j:Nat}(h:Nat.testBit (il acc o) j=true):
  ∃e∈o.after,Region.binds .any e=true∧(e.on=j∨Nat.testBit (acc.getD e.on 0) j=true):=by
 unfold il at h
 have key:∀l:List Edge,Nat.testBit (l.foldr (fun e s=>if Region.binds .any e then s|||2 ^ e.on|||acc.getD e.on 0 else s) 0) j=true→
   ∃e∈l,Region.binds .any e=true∧(e.on=j∨Nat.testBit (acc.getD e.on 0) j=true):=by
  intro l
  induction l with
  |nil=>intro h;simp at h
  |cons e l ih=>
   intro h;simp only[List.foldr_cons]at h
   split at h
   ·rename_i hb;simp only[Nat.testBit_or,Bool.or_eq_true,Nat.testBit_two_pow,decide_eq_true_eq]at h;rcases h with(h|h)|h
    ·obtain⟨e',h1,h2⟩:=ih h;exact⟨e',by simp[h1],h2⟩
    ·exact⟨e,by simp,hb,.inl h⟩
    ·exact⟨e,by simp,hb,.inr h⟩
   ·obtain⟨e',h1,h2⟩:=ih h;exact⟨e',by simp[h1],h2⟩
 obtain⟨e,h1,h2⟩:=key _ h;exact⟨e,by simpa using h1,h2⟩
def mh:List Oper→Nat→Bool
 | [],_=>true
 |o::l,n=>(o.after.all fun e=> !Region.binds .any e||decide (e.on<n))&&mh l (n+1)
def zY(ops:Array Oper)(oj oi:Oper)(bit:Bool)(fj fi:FP):Option (List Prop):=
 if bit||(oj.apart ops oi&&zW fj fi)then some []
 else if oj.apart ops oi then match fj,fi with
  |some a,some b=>if a.d.isEmpty&&a.r.all (fun k=>b.w.contains k)then some [a.re (ax b.d [])=(.leaf none a.v [],a.r)]else none
  |_,_=>none
 else none
def Th:List Prop→Prop
 | []=>True
 | [p]=>p
 |p::l=>p∧Th l
theorem wU:∀ {l:List Prop} {p:Prop},Th l→p∈l→p
 | [x],p,h,hp=>by
  rcases List.mem_cons.1 hp with rfl|hp
  ·exact h
  ·cases hp
 |x::y::l,p,h,hp=>by
  rcases List.mem_cons.1 hp with rfl|hp
  ·exact h.1
  ·exact wU (l:=y::l) h.2 hp
theorem wV{ops:Array Oper}{oj oi:Oper}{bit:Bool}{fj fi:FP}{l:List Prop}(h:zY ops oj oi bit fj fi=some l)(hp:∀p∈l,p):bit=true∨(oj.apart ops oi=true∧(zW fj fi=true∨Hg fj fi)):=by
 unfold zY at h
 split at h
 ·rename_i hc;simp only[Bool.or_eq_true,Bool.and_eq_true]at hc;exact hc.imp id fun hc=>⟨hc.1,.inl hc.2⟩
 ·split at h
  ·rename_i ha
   split at h
   ·rename_i a b _
    split at h
    ·rename_i hc;simp only[Bool.and_eq_true,List.all_eq_true,List.contains_eq_mem,decide_eq_true_eq,List.isEmpty_iff]at hc
     cases h
     exact .inr ⟨ha,.inr ⟨a,b,rfl,rfl,hc.1,hc.2,hp _ (List.mem_cons_self ..)⟩⟩
    ·cases h
   ·cases h
  ·cases h
def o7(ops:Array Oper)(oi:Oper)(mask:Nat)(fi:FP):List Oper→List FP→Nat→Option (List Prop)
 | [],_,_=>some []
 |oj::l,fs,j=>match zY ops oj oi (Nat.testBit mask j) (fs.headD none) fi with
  |some a=>match o7 ops oi mask fi l fs.tail (j+1)with
   |some b=>some (a++b)
   |none=>none
  |none=>none
def jT(ops:Array Oper)(ms:List Nat)(fs:List FP):List Oper→Nat→Option (List Prop)
 | [],_=>some []
 |o::l,i=>match o7 ops o (ms.getD i 0) (fs.getD i none) (ops.toList.take i) fs 0 with
  |some a=>match jT ops ms fs l (i+1)with
   |some b=>some (a++b)
   |none=>none
  |none=>none
structure Ti (ops:Array Oper) (M:Nat→Nat) (fp:Nat→FP) (i:Nat) (o:Oper):Prop where
 early:∀e∈o.after,Region.binds .any e=true→e.on<i
 Yk:∀j oj,j<i→ops[j]? =some oj→Nat.testBit (M i) j=true∨(oj.apart ops o=true∧(zW (fp j) (fp i)=true∨Hg (fp j) (fp i)))
 waits:∀j,Nat.testBit (M i) j=true→∃e∈o.after,Region.binds .any e=true∧(e.on=j∨Nat.testBit (M e.on) j=true)
theorem mi{ops:Array Oper}{oi:Oper}{mask:Nat}{fi:FP}:∀ (l:List Oper) (fs:List FP) (k:Nat) {ps:List Prop},o7 ops oi mask fi l fs k=some ps→(∀p∈ps,p)→∀j oj,l[j]? =some oj→Nat.testBit mask (k+j)=true∨(oj.apart ops oi=true∧(zW (fs.getD j none) fi=true∨Hg (fs.getD j none) fi))
 | [],_,_,_,_,_,j,oj,hj=>by simp at hj
 |o::l,fs,k,ps,h,hp,j,oj,hj=>by
  simp only[o7]at h
  split at h
  ·rename_i a ha
   split at h
   ·rename_i b hb
    cases h
    cases j with
    |zero=>
     simp at hj;subst hj;have e:fs.headD none=fs.getD 0 none:=(by cases fs<;>rfl);rw[← e];exact wV ha fun p hm=>hp p (by simp[hm])
    |succ j=>
     have:=mi l fs.tail (k+1) hb (fun p hm=>hp p (by simp[hm])) j oj (by simpa using hj);have e:fs.tail.getD j none=fs.getD (j+1) none:=(by cases fs<;>simp[List.getD]);rw[e]at this;rwa [show k+1+j=k+(j+1) by omega]at this
   ·cases h
  ·cases h
theorem kO{ops:Array Oper}{ms:List Nat}{fs:List FP}:∀ (l:List Oper) (k:Nat) {ps:List Prop},(∀j,l[j]? =ops[k+j]?)→jT ops ms fs l k=some ps→(∀p∈ps,p)→∀i o,k≤i→ops[i]? =some o→∀j oj,j<i→ops[j]? =some oj→Nat.testBit (ms.getD i 0) j=true∨(oj.apart ops o=true∧(zW (fs.getD j none) (fs.getD i none)=true∨Hg (fs.getD j none) (fs.getD i none)))
 | [],k,_,hl,_,_,i,o,hi,ho,_,_,_,_=>by
  have:=hl (i-k);rw[show k+(i-k)=i by omega,ho]at this;simp at this
 |x::l,k,ps,hl,h,hp,i,o,hi,ho,j,oj,hj,tC=>by
  simp only[jT]at h
  split at h
  ·rename_i a ha
   split at h
   ·rename_i b hb
    cases h
    by_cases e:i=k
    ·subst e
     have hx:o=x:=by
      have:=hl 0;rw[Nat.add_zero,ho]at this;simpa using this.symm
     subst hx;have:=mi _ _ 0 ha (fun p hm=>hp p (by simp[hm])) j oj (by rw[List.getElem?_take];simp[hj,tC]);rwa [Nat.zero_add]at this
    ·exact kO l (k+1) (fun j=>by have:=hl (j+1);simpa [Nat.add_assoc,Nat.add_comm 1 j]using this) hb (fun p hm=>hp p (by simp[hm])) i o (by omega) ho j oj hj tC
   ·cases h
  ·cases h
theorem qk{ops:Array Oper}:∀ (l before:List Oper) (acc:List Nat),before++l=ops.toList→acc.length=before.length→mh l before.length=true→
  (∀M:Nat→Nat,(∀i,M i=(mg l acc).getD i 0)→∀i o,before.length≤i→ops[i]? =some o→(∀e∈o.after,Region.binds .any e=true→e.on<i)∧
   (∀j,Nat.testBit (M i) j=true→∃e∈o.after,Region.binds .any e=true∧(e.on=j∨Nat.testBit (M e.on) j=true)))∧(∀i,i<acc.length→(mg l acc).getD i 0=acc.getD i 0)
 | [],before,acc,hb,ha,_=>by
  have hs:before.length=ops.size:=by
   have:=congrArg List.length hb;simpa using this
  refine⟨fun M hM i o hi ho=>?_,fun _ _=>rfl⟩;have:=(Array.getElem?_eq_some_iff.1 ho).1;omega
 |o::l,before,acc,hb,ha,h=>by
  simp only[mh,Bool.and_eq_true]at h;obtain⟨h1,h4⟩:=h;obtain⟨i1,i3⟩:=qk l (before++ [o]) (acc++ [il acc o]) (by simpa using hb) (by simp[ha]) (by simpa using h4);have Xr:mg (o::l) acc=mg l (acc++ [il acc o]):=rfl
  have Yl:∀i,i<acc.length→(mg (o::l) acc).getD i 0=acc.getD i 0:=fun i hi=>by
   rw[Xr,i3 i (by simp;omega)];simp only[List.getD_eq_getElem?_getD];rw[List.getElem?_append_left hi]
  refine⟨fun M hM i oi hi ho=>?_,Yl⟩
  by_cases hie:i=before.length
  ·subst hie
   have hoo:oi=o:=by
    have e:ops.toList[before.length]? =some oi:=(by simpa using ho);rw[← hb]at e;simp at e;exact e.symm
   subst hoo
   have hMi:M before.length=il acc oi:=by
    rw[hM,Xr,i3 _ (by simp[ha])];simp only[List.getD_eq_getElem?_getD];rw[← ha];simp
   have Hh:∀e∈oi.after,Region.binds .any e=true→e.on<before.length:=by
    intro e he Cs;have:=Array.all_eq_true'.1 h1 e he;simpa [Cs]using this
   refine⟨Hh,fun j hj=>?_⟩;rw[hMi]at hj;obtain⟨e,he,Cs,hor⟩:=rT hj;refine⟨e,he,Cs,hor.imp id fun ht=>?_⟩;rw[hM,Yl _ (by rw[ha];exact Hh e he Cs)];exact ht
  ·exact i1 M (fun i=>hM i) i oi (by simp;omega) ho
noncomputable section
variable {P:Program} {G:qb} {ops:Array Oper} {ids:Nat→Nat} {M:Nat→Nat} {fp:Nat→FP}
theorem ql(hM:∀i o,ops[i]? =some o→Ti ops M fp i o){i:Nat}{oi:Oper}(qh:ops[i]? =some oi):
  ∀ (l1 l2:List Nat) (st sf:St),(∀j∈l1,j<i∧Nat.testBit (M i) j=false)→mf P G ops ids fp (l1++i::l2) st sf→∃s,me P G ops ids fp i st s∧mf P G ops ids fp (l1++l2) s sf
 | [],l2,st,sf,_,h=>by
  cases h with
  |cons h t=>exact⟨_,h,t⟩
 |j::l1,l2,st,sf,hl,h=>by
  cases h with
  |cons h t=>
   rename_i s;obtain⟨s1,h1,h2⟩:=ql hM qh l1 l2 s sf (fun k hk=>hl k (by simp[hk])) t;obtain⟨hji,Nh⟩:=hl j (by simp);have ad7:=h;obtain⟨oj,_,tC,_⟩:=ad7;have hp:=((hM i oi qh).Yk j oj hji tC).resolve_left (by rw[Nh];simp);obtain⟨s1',k1,k2⟩:=EJ qh tC hp.1 hp.2 h h1;exact⟨s1',k1,.cons k2 h2⟩
theorem Hi(hG:MP P G){i:Nat}{st s:St}(h:me P G ops ids fp i st s){W:World}{ag:Hp}{β₀ β:Env}{a:Act}{w:World}(hr:Rel W ag β₀ β st a w)
  {K:Act→World→Prop} {Q:Exit→Act→World→Prop} (hK:∀β' a' w',Rel W ag β₀ β' s a' w'→K a' w'):wpOp P ops Q i K a w:=by
 obtain⟨o,b,ho,hw,h⟩:=h;unfold wpOp;simp only[ho,oF hr hw];rcases h with⟨hb,q,v,d,g,_,e,hq,_,hf,rfl⟩|⟨hb,_,rfl⟩
 ·rw[if_pos hb]
  exact .inl (wR hG (K:=fun v' d'=>v'=v∧d'=d) (by rw[e];exact hf) (by rw[e];exact⟨hq,rfl,rfl⟩) hr fun v' d' β' a' w' hk jw=>by
   obtain⟨rfl,rfl⟩:=hk;exact hK β' a' w' jw)
 ·rw[if_neg (by rw[hb];simp)];exact hK β _ w (hr.put (dst:=o.dst) ⟨[],rfl,.nil⟩ hr.heap (bh.refl _ _))
def bB(ops:Array Oper)(bF:Array Bool):List Nat:=(List.range ops.size).filter fun i=> !bF.getD i true
theorem rU(hG:MP P G)(hM:∀i o,ops[i]? =some o→Ti ops M fp i o)
  {W:World} {ag:Hp} {β₀:Env} {Q:Exit→Act→World→Prop} {sf:St} (hQ:∀β a w,Rel W ag β₀ β sf a w→Q .normal a w):
  ∀ (fuel:Nat) (bF:Array Bool) (st:St) (β:Env) (a:Act) (w:World),bF.size=ops.size→(bB ops bF).length=fuel→
   (∀j oj,ops[j]? =some oj→bF.getD j false=true→∀e∈oj.after,Region.binds .any e=true→bF.getD e.on false=true)→
   mf P G ops ids fp (bB ops bF) st sf→Rel W ag β₀ β st a w→wpAny P .any ops Q fuel bF a w:=by
 intro fuel
 induction fuel with
 |zero=>
  intro bF st β a w Gz hlen tD hex hr;have h0:bB ops bF= []:=List.eq_nil_of_length_eq_zero hlen;rw[h0]at hex
  cases hex
  refine⟨?_,hQ β a w hr⟩;refine List.eq_nil_iff_forall_not_mem.2 fun i hi=>?_
  have:i∈bB ops bF:=by
   simp only[Region.ready,List.mem_filter,Bool.and_eq_true]at hi;simp only[bB,List.mem_filter];exact⟨hi.1,hi.2.1⟩
  rw[h0]at this;cases this
 |succ fuel ih=>
  intro bF st β a w Gz hlen tD hex hr;constructor
  ·intro fU;exfalso
   cases hu:bB ops bF with
   |nil=>rw[hu]at hlen;simp at hlen
   |cons i l=>
    have ad8:i∈bB ops bF:=by rw[hu];simp
    have hi:i<ops.size∧(!bF.getD i true)=true:=by
     simpa [bB]using ad8
    have zZ:∀j,j<i→bF.getD j true=true:=by
     intro j hj;refine Classical.byContradiction fun nE=>?_
     have EK:j∈bB ops bF:=by
      simp only[bB,List.mem_filter,List.mem_range];exact⟨by omega,by simpa using nE⟩
     have Ni:(bB ops bF).Pairwise (· < ·):=(List.pairwise_lt_range (n:=ops.size)).filter _;rw[hu]at Ni EK;rcases List.mem_cons.1 EK with rfl|EK
     ·omega
     ·have:=List.rel_of_pairwise_cons Ni EK;omega
    have jw:i∈Region.ready .any ops bF:=by
     rw[mem_ready];obtain⟨oi,qh⟩:∃oi,ops[i]? =some oi:=⟨ops[i]'hi.1,by simp[hi.1]⟩;refine⟨by simpa using hi.2,oi,qh,fun e he hb=>?_⟩;have dE:=(hM i oi qh).early e he hb;have h1:=zZ e.on dE;have:e.on<bF.size:=(by omega);simp[this]at h1 ⊢;exact h1
    rw[fU]at jw;cases jw
  ·intro i hi;obtain⟨hun,oi,qh,tk⟩:=mem_ready.1 hi;have ad9:i<ops.size:=(Array.getElem?_eq_some_iff.1 qh).1
   have Ym:i∈bB ops bF:=by
    simp only[bB,List.mem_filter,List.mem_range];exact⟨ad9,by simpa using hun⟩
   obtain⟨l1,l2,hl⟩:=List.append_of_mem Ym;have Ni:(bB ops bF).Pairwise (· < ·):=(List.pairwise_lt_range (n:=ops.size)).filter _;rw[hl]at Ni hex;obtain⟨p1,p2,p3⟩:=List.pairwise_append.1 Ni
   have Yn:∀j,bF.getD j false=false→∀i oi,ops[i]? =some oi→(∀e∈oi.after,Region.binds .any e=true→bF.getD e.on false=true)→Nat.testBit (M i) j=false:=by
    intro j hj i
    induction i using Nat.strongRecOn with
    |_ i ih2=>
     intro oi qh tk;refine Bool.eq_false_iff.2 fun ht=>?_;obtain⟨e,he,hb,hor⟩:=(hM i oi qh).waits j ht;have hle:=tk e he hb;rcases hor with rfl|ht'
     ·rw[hj]at hle;cases hle
     ·have dE:=(hM i oi qh).early e he hb
      obtain⟨oe,hoe⟩:∃oe,ops[e.on]? =some oe:=⟨ops[e.on]'(by have:=(Array.getElem?_eq_some_iff.1 qh).1;omega),by
       have:=(Array.getElem?_eq_some_iff.1 qh).1;simp[show e.on<ops.size by omega]⟩
      have:=ih2 e.on dE oe hoe (tD e.on oe hoe hle);rw[this]at ht';cases ht'
   have SR:∀j∈l1,j<i∧Nat.testBit (M i) j=false:=by
    intro j hj;refine⟨p3 j hj i (by simp),Yn j ?_ i oi qh tk⟩;have EK:j∈bB ops bF:=(by rw[hl];simp[hj]);simp only[bB,List.mem_filter,List.mem_range]at EK;have:j<bF.size:=(by omega);simp[this]at EK ⊢;exact EK.2
   obtain⟨s,h1,h2⟩:=ql hM qh l1 l2 st sf SR hex;refine Hi hG h1 hr fun β' a' w' jw=>?_
   have rK:bB ops (bF.setIfInBounds i true)=l1++l2:=by
    have e1:bB ops (bF.setIfInBounds i true)=(bB ops bF).filter (fun k=>k !=i):=by
     unfold bB;rw[List.filter_filter]
     apply List.filter_congr
     intro k hk;have jv:k<ops.size:=List.mem_range.1 hk
     by_cases GB:k=i
     ·subst GB;simp[Array.getD_eq_getD_getElem?,Gz,jv]
     ·rw[getD_set_ne true (Ne.symm GB)];simp[GB]
    rw[e1,hl,List.filter_append];have f1:l1.filter (fun k=>k !=i)=l1:=List.filter_eq_self.2 fun k hk=>by have:=(SR k hk).1;simp;omega
    have f2:(i::l2).filter (fun k=>k !=i)=l2:=by
     rw[List.filter_cons];simp only[bne_self_eq_false,Bool.false_eq_true,if_false]
     exact List.filter_eq_self.2 fun k hk=>by
      have:=List.rel_of_pairwise_cons p2 hk;simp;omega
    rw[f1,f2]
   refine ih (bF.setIfInBounds i true) s β' a' w' (by simpa using Gz) ?_ ?_ (by rw[rK];exact h2) jw
   ·rw[rK];have:(bB ops bF).length=(l1++i::l2).length:=(by rw[hl]);simp at this ⊢;omega
   ·intro j oj tC hlj e he hb
    by_cases hji:j=i
    ·subst hji;rw[qh]at tC;simp at tC;subst tC;exact getD_set_true (tk e he hb)
    ·rw[getD_set_ne false (Ne.symm hji)]at hlj;exact getD_set_true (tD j oj tC hlj e he hb)
end
def o8(ops:Array Oper)(fs:List FP):Option (Option Prop):=match jT ops (mg ops.toList []) fs ops.toList 0 with
 |some []=>some none
 |some l=>some (some (Th l))
 |none=>none
theorem tE{ops:Array Oper}{fs:List FP}{q:Option Prop}(h:o8 ops fs=some q)(hq:c7 q):∃l,jT ops (mg ops.toList []) fs ops.toList 0=some l∧∀p∈l,p:=by
 unfold o8 at h
 split at h
 ·rename_i h1;exact⟨[],h1,fun p hp=>by cases hp⟩
 ·rename_i l _ h1
  cases h
  exact⟨l,h1,fun p hp=>wU hq hp⟩
 ·cases h
def tF(P:Program)(G:qb)(ops:Array Oper)(su:List FP→Option (Option Prop))(W:World)(m:Hp)(β₀:Env)(R:Exit→St→Prop)(acc:List FP)(k n:Nat)(st:St):Prop:=
 ∃ (ids:Nat→Nat) (fs:List FP) (sf:St),fs.length=n∧mf P G ops ids (fun i=>fs.getD (i-k) none) (List.range' k n) st sf∧(∃q,su (acc++fs)=some q∧c7 q)∧(∀β a w,Rel W m β₀ β sf a w→jr W m β₀ R .normal a w)
theorem oI{P:Program}{G:qb}{A:Alt}{m:Hp}{su:List FP→Option (Option Prop)}{ops:Array Oper}{W:World}{β₀:Env}:
  ∀ (l:List Oper) (k:Nat) (B:qd) (acc:List FP) (st:St) (R:Exit→St→Prop),(∀j,l[j]? =ops[k+j]?)→fV B st→(eE P G A m true su ops l B acc st).sat R→
   tF P G ops su W m β₀ R acc k l.length st
 | [],k,B,acc,st,R,_,_,h=>by
  simp only[eE]at h
  split at h
  ·rename_i q hc;exact⟨fun _=>0,[],st,rfl,.nil,⟨q,by simpa using hc,(fM h).1⟩,fun β a w hr=>⟨st,β,(fM h).2,hr⟩⟩
  ·exact h.elim
 |o::rest,k,B,acc,st,R,hl,hB,h=>by
  have h0:ops[k]? =some o:=by simpa using(hl 0).symm
  have hl':∀j,rest[j]? =ops[k+1+j]? :=fun j=>by
   have:=hl (j+1);simpa [Nat.add_assoc,Nat.add_comm 1 j]using this
  have build:∀ (s:St) (f:FP),(∀ids fp,ids k=st.hp.length→fp k=f→me P G ops ids fp k st s)→
    ∀ (B:qd) (R':Exit→St→Prop),fV B s→(eE P G A m true su ops rest B (acc++ [f]) s).sat R'→(∀e a w,jr W m β₀ R' e a w→jr W m β₀ R e a w)→
    tF P G ops su W m β₀ R acc k (o::rest).length st:=by
   intro s f Hj B R' hB hs hR;obtain⟨ids,fs,sf,e0,e1,e2,e3⟩:=oI rest (k+1) B (acc++ [f]) s R' hl' hB hs;refine⟨fun i=>if i=k then st.hp.length else ids i,f::fs,sf,by simp[e0],?_,by simpa using e2,fun β a w hr=>hR _ _ _ (e3 β a w hr)⟩;simp only[List.length_cons,List.range'_succ];refine .cons (Hj _ _ (if_pos rfl) (by simp)) ?_
   have key:∀ (l:List Nat) (x y:St),(∀i∈l,k+1≤i)→mf P G ops ids (fun i=>fs.getD (i-(k+1)) none) l x y→mf P G ops (fun i=>if i=k then st.hp.length else ids i) (fun i=>(f::fs).getD (i-k) none) l x y:=by
    intro l x y eC hx
    induction hx with
    |nil=>exact .nil
    |cons h t ih=>
     rename_i i l s1 s2 s3;refine .cons ?_ (ih fun i hi=>eC i (by simp[hi]));have hik:=eC i (by simp);unfold me at h ⊢
     have e1:(f::fs).getD (i-k) none=fs.getD (i-(k+1)) none:=by
      rw[show i-k=(i-(k+1))+1 by omega];rfl
     have e2:(fun i=>if i=k then st.hp.length else ids i) i=ids i:=if_neg (by omega);simp only[e2,e1];exact h
   exact key _ _ _ (fun i hi=>by have:=List.mem_range'_1.1 hi;omega) e1
  have ck:∀ (b:SB),cg st ops o=some b→b.val=true→∀ (B:qd) (R':Exit→St→Prop),fV B st→(((ij P G B st.hp.length (ev st) o.op).val st.hp).kN true fun v d=>
    eE P G A m true su ops rest (forget B o.dst) (acc++ [EG (ij P G B st.hp.length (ev st) o.op) st.hp v d]) (put st o.dst v (ax d st.hp))).sat R'→(∀e a w,jr W m β₀ R' e a w→jr W m β₀ R e a w)→tF P G ops su W m β₀ R acc k (o::rest).length st:=by
   intro b hb MQ B R' hB hs hR;obtain⟨q,v,d,SX,n1,n2⟩:=zU hs
   have hH:∃q',(dT P G (iJ B o.op) st.hp.length (ev st) o.op).val st.hp= .leaf q' v d∧c7 q'∧(dT P G (iJ B o.op) st.hp.length (ev st) o.op).log st.hp=(ij P G B st.hp.length (ev st) o.op).log st.hp∧
     ∀f:FX,EG (ij P G B st.hp.length (ev st) o.op) st.hp v d=some f→Yf f (dT P G (iJ B o.op) st.hp.length (ev st) o.op):=by
    rcases Cr (P:=P) (G:=G) (id:=st.hp.length) (op:=o.op) hB with e|⟨v',p,e1,e2,hp⟩
    ·rw[← e];refine⟨q,SX,n1,rfl,fun f hf h=>?_⟩;simp only[EG,Option.some.injEq]at hf;subst hf;exact⟨rfl,fun v' hv=>⟨none,hv,trivial⟩⟩
    ·rw[e1]at SX;simp only[Ask.val]at SX
     cases SX
     refine⟨some p,by rw[e2];rfl,hp,by rw[e1,e2];rfl,fun f hf h=>?_⟩;simp only[EG,Option.some.injEq]at hf;subst hf;rw[e1,e2];refine⟨rfl,fun v' hv=>⟨some p,?_,hp⟩⟩;simp only[Ask.val,Out.leaf.injEq]at hv;rw[← hv.2.1];rfl
   obtain⟨q',k1,k2,k3,k4⟩:=hH;exact build _ _ (fun ids fp Nj hfp=>⟨o,b,h0,hb,.inl ⟨MQ,q',v,d,_,_,by rw[Nj];exact k1,k2,⟨hfp,by rw[Nj];exact k3.symm,rfl,rfl,by rw[Nj];exact k4 _ rfl⟩,by rw[Nj];exact mb _ _,rfl⟩⟩) _ R' hB.put n2 hR
  have wS:∀ (b:SB),cg st ops o=some b→b.val=false→∀ (B:qd) (R':Exit→St→Prop),fV B st→(eE P G A m true su ops rest (forget B o.dst) (acc++ [none]) (put st o.dst (.bV []) st.hp)).sat R'→
    (∀e a w,jr W m β₀ R' e a w→jr W m β₀ R e a w)→tF P G ops su W m β₀ R acc k (o::rest).length st:=by
   intro b hb MQ B R' hB hs hR;exact build (put st o.dst (.bV []) st.hp) none (fun ids fp _ hfp=>⟨o,b,h0,hb,.inr ⟨MQ,hfp,rfl⟩⟩) _ R' hB.put hs hR
  simp only[eE]at h
  cases Xs:iI B st ops o with
  |none=>simp only[Xs]at h;exact h.elim
  |some b=>
   obtain⟨b',hb,MQ⟩:=qf hB Xs;simp only[Xs]at h
   cases b with
   |lit b=>
    cases b with
    |true=>exact ck _ hb MQ B R hB h fun _ _ _ h=>h
    |false=>exact wS _ hb MQ B R hB h fun _ _ _ h=>h
   |sym b=>
    cases b with
    |true=>
     obtain⟨R',h1,h2⟩:=A.yes (W:=W) (β₀:=β₀) h;exact ck _ hb MQ _ R' (ma hB Xs) h1 h2
    |false=>
     obtain⟨R',h1,h2⟩:=A.no (W:=W) (β₀:=β₀) h;exact wS _ hb MQ _ R' (ma hB Xs) h1 h2
noncomputable section
variable {P:Program} {G:qb}
theorem qm(hG:MP P G){A:Alt}(fb:P.follows .mixedOrders=true){m:Hp}{ops:Array Oper}{id:Nat}{st:St}(hd:mh ops.toList 0=true){R:Exit→St→Prop}
  (h:(eE P G A m true (o8 ops) ops ops.toList [] [] st).sat R) {W:World} {β₀:Env} {Q:Exit→Act→World→Prop} (hq:∀e a w,jr W m β₀ R e a w→Q e a w) {β:Env} {a:Act} {w:World}
  (hr:Rel W m β₀ β st a w):(Code.region id ops true).wp P Q a w:=by
 obtain⟨ids,fs,sf,e0,e1,⟨q,e2,e2'⟩,e3⟩:=oI (W:=W) (β₀:=β₀) ops.toList 0 [] [] st R (fun j=>by simp) (fun _ _ h=>by simp[known]at h) h;obtain⟨hE,_⟩:=qk (ops:=ops) ops.toList [] [] (by simp) rfl hd;obtain⟨ps,p1,p2⟩:=tE (by simpa using e2) e2'
 have hM:∀i o,ops[i]? =some o→Ti ops (fun i=>(mg ops.toList []).getD i 0) (fun i=>fs.getD (i-0) none) i o:=by
  intro i o ho;obtain⟨k1,k2⟩:=hE _ (fun _=>rfl) i o (Nat.zero_le _) ho;exact⟨k1,fun j oj hj tC=>kO ops.toList 0 (fun j=>by simp) p1 p2 i o (Nat.zero_le _) ho j oj hj tC,k2⟩
 refine wp_region_any fb ?_
 have rK:bB ops (Array.replicate ops.size false)=List.range' 0 ops.toList.length:=by
  unfold bB;rw[List.filter_eq_self.2 fun i hi=>?_]
  ·rw[List.range_eq_range'];simp
  ·have:=List.mem_range.1 hi;simp[this]
 refine rU hG hM (ids:=ids) (sf:=sf) (fun β a w hr=>hq _ _ _ (e3 β a w hr)) ops.size _ st β a _ (by simp) (by rw[rK];simp) ?_ (by rw[rK];exact e1) ?_
 ·intro j oj _ hl;exfalso
  by_cases hj:j<ops.size
  ·simp[hj]at hl
  ·simp[hj]at hl
 ·exact⟨hr.defers,hr.fr,hr.heap.drew _ _⟩
end
def Hk:Nat→(St→aV)→St→aV
 |0,_,_=>.fail
 |k+1,f,st=>(f st).bind (Hk k f)
def Tj:Nat:=100000
def Ex(P:Program)(m:Hp)(c:Code)(st:St)(r:aV):Prop:=
 ∀ (W:World) (β₀:Env) (R:Exit→St→Prop) (Q:Exit→Act→World→Prop),r.sat R→(∀e a w,jr W m β₀ R e a w→Q e a w)→
  ∀β a w,Rel W m β₀ β st a w→c.wp P Q a w
abbrev dd:=List (Nat×(St→aV))
def sx:dd→Nat→Option (St→aV)
 | [],_=>none
 |(i,f)::l,id=>if i=id then some f else sx l id
def aS(P:Program)(m:Hp)(LT:dd):Code→Prop
 | .seq a b| .cond _ a b=>aS P m LT a∧aS P m LT b
 | .block id c=>aS P m LT c∧∀f,sx LT id=some f→∀st,Ex P m c st (f st)
 | .loop c| .scope c=>aS P m LT c
 |_=>True
theorem aS.nil{P:Program}{m:Hp}:∀c:Code,aS P m [] c:=by
 intro c
 induction c with
 |seq a b Tk Tl=>exact⟨Tk,Tl⟩
 |cond _ a b Tk Tl=>exact⟨Tk,Tl⟩
 |block id c ih=>exact⟨ih,fun f h=>by cases h⟩
 |loop c ih=>exact ih
 |scope c ih=>exact ih
 |_=>trivial
def z3:Code→List (Nat×Code)
 | .seq a b| .cond _ a b=>z3 a++z3 b
 | .block id c=>(id,c)::z3 c
 | .loop c| .scope c=>z3 c
 |_=> []
theorem aS.of{P:Program}{m:Hp}{LT:dd}:∀ {c:Code},(∀id f c',sx LT id=some f→(id,c')∈z3 c→∀st,Ex P m c' st (f st))→aS P m LT c:=by
 intro c
 induction c with
 |seq a b Tk Tl=>exact fun h=>⟨Tk fun id f c' hf hm=>h id f c' hf (List.mem_append_left _ hm),Tl fun id f c' hf hm=>h id f c' hf (List.mem_append_right _ hm)⟩
 |cond _ a b Tk Tl=>exact fun h=>⟨Tk fun id f c' hf hm=>h id f c' hf (List.mem_append_left _ hm),Tl fun id f c' hf hm=>h id f c' hf (List.mem_append_right _ hm)⟩
 |block id c ih=>exact fun h=>⟨ih fun id f c' hf hm=>h id f c' hf (List.mem_cons_of_mem _ hm),fun f hf=>h id f c hf (by simp[z3])⟩
 |loop c ih=>exact fun h=>ih h
 |scope c ih=>exact fun h=>ih h
 |_=>exact fun _=>trivial
def exec(P:Program)(G:qb)(A:Alt)(m:Hp)(LT:dd):Code→St→aV
 | .skip,st=>.leaf .normal st
 | .seq a b,st=>(exec P G A m LT a st).bind (exec P G A m LT b)
 | .cond c x y,st=>match ev st c with
  | .one (.sc (.bool (.lit true)))=>exec P G A m LT x st
  | .one (.sc (.bool (.lit false)))=>exec P G A m LT y st
  | .one (.sc (.bool (.sym b)))=>A.f b m (exec P G A m LT x st) (exec P G A m LT y st)
  |_=>.fail
 | .block id c,st=>match sx LT id with
  |some f=>(f st).block id
  |none=>(exec P G A m LT c st).block id
 | .exit id,st=>.leaf (.exit id) st
 | .ret,st=>.leaf .ret st
 | .label _,st=>.leaf .normal st
 | .scope c,st=>(exec P G A m LT c st).scope
 | .loop c,st=>Hk Tj (exec P G A m LT c) st
 | .region _ ops false,st=>eE P G A m false (fun _=>some none) ops ops.toList [] [] st
 | .region _ ops true,st=>if mh ops.toList 0=true then eE P G A m true (o8 ops) ops ops.toList [] [] st else .fail
 |_,_=>.fail
def Yo(R:Exit→St→Prop)(f:St→aV):Exit→St→Prop
 | .normal,st=>(f st).sat R
 |e,st=>R e st
theorem im{f:St→aV}{R:Exit→St→Prop}:∀ {r:aV},(r.bind f).sat R→r.sat (Yo R f)
 | .leaf .normal _,h=>h
 | .leaf (.exit _) _,h=>h
 | .leaf (.goto _) _,h=>h
 | .leaf .ret _,h=>h
 | .leaf (.panic _) _,h=>h
 | .leaf .outgrown _,h=>h
 | .ite _ _ _,h=>⟨fun e=>im (h.1 e),fun e=>im (h.2 e)⟩
 | .need _ _,h=>⟨h.1,im h.2⟩
 | .fail,h=>h
def tG(R:Exit→St→Prop)(id:Nat):Exit→St→Prop
 | .exit i,st=>if i=id then R .normal st else R (.exit i) st
 |e,st=>R e st
theorem fN{id:Nat}{R:Exit→St→Prop}:∀ {r:aV},(r.block id).sat R→r.sat (tG R id)
 | .leaf (.exit i) st,h=>by
  simp only[aV.block]at h;show if i=id then R .normal st else R (.exit i) st
  split at h
  ·rename_i hi;rw[if_pos hi];exact h
  ·rename_i hi;rw[if_neg hi];exact h
 | .leaf .normal _,h=>h
 | .leaf (.goto _) _,h=>h
 | .leaf .ret _,h=>h
 | .leaf (.panic _) _,h=>h
 | .leaf .outgrown _,h=>h
 | .ite _ _ _,h=>⟨fun e=>fN (h.1 e),fun e=>fN (h.2 e)⟩
 | .need _ _,h=>⟨h.1,fN h.2⟩
 | .fail,h=>h
def aeb(R:Exit→St→Prop):Exit→St→Prop
 | .goto _,_=>False
 |e,st=>R e st
theorem kv{R:Exit→St→Prop}:∀ {r:aV},r.scope.sat R→r.sat (aeb R)
 | .leaf .normal _,h=>h
 | .leaf (.exit _) _,h=>h
 | .leaf (.goto _) _,h=>h
 | .leaf .ret _,h=>h
 | .leaf (.panic _) _,h=>h
 | .leaf .outgrown _,h=>h
 | .ite _ _ _,h=>⟨fun e=>kv (h.1 e),fun e=>kv (h.2 e)⟩
 | .need _ _,h=>⟨h.1,kv h.2⟩
 | .fail,h=>h
theorem Nk{P:Program}{G:qb}{A:Alt}(hG:MP P G)(fb:P.follows .mixedOrders=true){W:World}{m:Hp}{LT:dd}{β₀:Env}:
  ∀ (c:Code),aS P m LT c→∀ (st:St) (R:Exit→St→Prop) (Q:Exit→Act→World→Prop),(exec P G A m LT c st).sat R→(∀e a w,jr W m β₀ R e a w→Q e a w)→
   ∀β a w,Rel W m β₀ β st a w→c.wp P Q a w:=by
 intro c
 induction c with
 |skip=>intro hL st R Q h hq β a w hr;exact wp_skip (hq _ _ _ ⟨st,β,h,hr⟩)
 |exit id=>intro hL st R Q h hq β a w hr;exact wp_exit (hq _ _ _ ⟨st,β,h,hr⟩)
 |ret=>intro hL st R Q h hq β a w hr;exact wp_ret (hq _ _ _ ⟨st,β,h,hr⟩)
 |seq x y Xt Xu=>
  intro hL st R Q h hq β a w hr;refine wp_seq (Xt hL.1 st _ _ (im h) ?_ β a w hr)
  rintro e a w ⟨s,β',h1,h2⟩
  cases e with
  |normal=>exact Xu hL.2 s R Q h1 hq β' a w h2
  |exit _=>exact hq _ _ _ ⟨s,β',h1,h2⟩
  |goto _=>exact hq _ _ _ ⟨s,β',h1,h2⟩
  |ret=>exact hq _ _ _ ⟨s,β',h1,h2⟩
  |panic _=>exact hq _ _ _ ⟨s,β',h1,h2⟩
  |outgrown=>exact hq _ _ _ ⟨s,β',h1,h2⟩
 |cond c x y Xt Xu=>
  intro hL st R Q h hq β a w hr;have hc:=aB hr c;simp only[exec]at h
  split at h
  ·rename_i he;rw[he]at hc;exact wp_cond_true hc (Xt hL.1 st R Q h hq β a w hr)
  ·rename_i he;rw[he]at hc;exact wp_cond_false hc (Xu hL.2 st R Q h hq β a w hr)
  ·rename_i b he;rw[he]at hc
   cases b with
   |true=>
    obtain⟨R',h1,h2⟩:=A.yes (W:=W) (β₀:=β₀) h;exact wp_cond_true hc (Xt hL.1 st R' Q h1 (fun e a w hp=>hq e a w (h2 e a w hp)) β a w hr)
   |false=>
    obtain⟨R',h1,h2⟩:=A.no (W:=W) (β₀:=β₀) h;exact wp_cond_false hc (Xu hL.2 st R' Q h1 (fun e a w hp=>hq e a w (h2 e a w hp)) β a w hr)
  ·exact h.elim
 |block id c ih=>
  intro hL st R Q h hq β a w hr
  have hin:∀Q',(∀e a w,jr W m β₀ (tG R id) e a w→Q' e a w)→c.wp P Q' a w:=by
   intro Q' Eu;simp only[exec]at h
   split at h
   ·rename_i f hf;exact hL.2 f hf st W β₀ _ _ (fN h) Eu β a w hr
   ·exact ih hL.1 st _ _ (fN h) Eu β a w hr
  refine wp_block (hin _ ?_)
  rintro e a w ⟨s,β',h1,h2⟩
  cases e with
  |exit i=>
   simp only[tG]at h1;simp only[Exit.inBlock]
   split at h1
   ·rename_i hi;rw[if_pos hi];exact hq _ _ _ ⟨s,β',h1,h2⟩
   ·rename_i hi;rw[if_neg hi];exact hq _ _ _ ⟨s,β',h1,h2⟩
  |normal=>exact hq _ _ _ ⟨s,β',h1,h2⟩
  |goto _=>exact hq _ _ _ ⟨s,β',h1,h2⟩
  |ret=>exact hq _ _ _ ⟨s,β',h1,h2⟩
  |panic _=>exact hq _ _ _ ⟨s,β',h1,h2⟩
  |outgrown=>exact hq _ _ _ ⟨s,β',h1,h2⟩
 |loop c ih=>
  intro hL st R Q h hq β a w hr
  have key:∀ (n:Nat) (st:St),(Hk n (exec P G A m LT c) st).sat R→∀β a w,Rel W m β₀ β st a w→Code.rounds P c Q n a w:=by
   intro n
   induction n with
   |zero=>intro st h;exact h.elim
   |succ n ihn=>
    intro st h β a w hr;rw[rounds_succ];refine ih hL st _ _ (im h) ?_ β a w hr
    rintro e a w ⟨s,β',h1,h2⟩
    cases e with
    |normal=>exact ihn s h1 β' a w h2
    |exit _=>exact hq _ _ _ ⟨s,β',h1,h2⟩
    |goto _=>exact hq _ _ _ ⟨s,β',h1,h2⟩
    |ret=>exact hq _ _ _ ⟨s,β',h1,h2⟩
    |panic _=>exact hq _ _ _ ⟨s,β',h1,h2⟩
    |outgrown=>exact hq _ _ _ ⟨s,β',h1,h2⟩
  exact wp_loop_rounds Tj (key Tj st h β a w hr)
 |label l=>intro hL st R Q h hq β a w hr;exact wp_label (hq _ _ _ ⟨st,β,h,hr⟩)
 |scope c ih=>
  intro hL st R Q h hq β a w hr;refine wp_scope_straight (ih hL st _ _ (kv h) ?_ β a w hr)
  rintro e a w ⟨s,β',h1,h2⟩
  cases e with
  |goto _=>exact h1.elim
  |normal=>exact hq _ _ _ ⟨s,β',h1,h2⟩
  |exit _=>exact hq _ _ _ ⟨s,β',h1,h2⟩
  |ret=>exact hq _ _ _ ⟨s,β',h1,h2⟩
  |panic _=>exact hq _ _ _ ⟨s,β',h1,h2⟩
  |outgrown=>exact hq _ _ _ ⟨s,β',h1,h2⟩
 |region id ops d=>
  intro hL st R Q h hq β a w hr
  cases d with
  |false=>exact wp_region_list (qg hG ops.toList [] [] st R (fun _ _ h=>by simp[known]at h) h hq β a w hr)
  |true=>
   simp only[exec]at h
   split at h
   ·rename_i hd;exact qm hG fb hd h hq hr
   ·exact h.elim
 |_=>intro hL st R Q h;exact h.elim
theorem Ex.Ct{P:Program}{G:qb}{A:Alt}(hG:MP P G)(fb:P.follows .mixedOrders=true){m:Hp}{LT:dd}{c:Code}(hL:aS P m LT c){st:St}{r:aV}(h:exec P G A m LT c st=r):Ex P m c st r:=
 fun _ _ R Q hs hq β a w hr=>Nk hG fb c hL st R Q (h▸hs) hq β a w hr
theorem Ex.Er{P:Program}{m:Hp}{c:Code}{st:St}{r r':aV}(h:Ex P m c st r)(hw:∀R,r'.sat R→r.sat R):Ex P m c st r':=
 fun W β₀ R Q hs hq β a w hr=>h W β₀ R Q (hw R hs) hq β a w hr
theorem Ex.bind{P:Program}{m:Hp}{x y:Code}{st:St}{r:aV}{f:St→aV}(h1:Ex P m x st r)(h2:∀s,Ex P m y s (f s)):Ex P m (.seq x y) st (r.bind f):=by
 intro W β₀ R Q hs hq β a w hr;refine wp_seq (h1 W β₀ _ _ (im hs) ?_ β a w hr)
 rintro e a w ⟨t,β',h3,h4⟩
 cases e with
 |normal=>exact h2 t W β₀ R Q h3 hq β' a w h4
 |exit _=>exact hq _ _ _ ⟨t,β',h3,h4⟩
 |goto _=>exact hq _ _ _ ⟨t,β',h3,h4⟩
 |ret=>exact hq _ _ _ ⟨t,β',h3,h4⟩
 |panic _=>exact hq _ _ _ ⟨t,β',h3,h4⟩
 |outgrown=>exact hq _ _ _ ⟨t,β',h3,h4⟩
def aV.nor(R:St→Prop):aV→Prop:=aV.sat fun e s=>e= .normal→R s
theorem Ex.block{P:Program}{m:Hp}{id:Nat}{c:Code}{st:St}{r:aV}(h:Ex P m c st r):Ex P m (.block id c) st (r.block id):=by
 intro W β₀ R Q hs hq β a w hr;refine wp_block (h W β₀ _ _ (fN hs) ?_ β a w hr)
 rintro e a w ⟨s,β',h1,h2⟩
 cases e with
 |exit i=>
  simp only[tG]at h1;simp only[Exit.inBlock]
  split at h1
  ·rename_i hi;rw[if_pos hi];exact hq _ _ _ ⟨s,β',h1,h2⟩
  ·rename_i hi;rw[if_neg hi];exact hq _ _ _ ⟨s,β',h1,h2⟩
 |normal=>exact hq _ _ _ ⟨s,β',h1,h2⟩
 |goto _=>exact hq _ _ _ ⟨s,β',h1,h2⟩
 |ret=>exact hq _ _ _ ⟨s,β',h1,h2⟩
 |panic _=>exact hq _ _ _ ⟨s,β',h1,h2⟩
 |outgrown=>exact hq _ _ _ ⟨s,β',h1,h2⟩
def nL(P:Program)(st:St):ResultVar→Option VV
 | .tmp t=>match ev st (.tmp t)with
  | .one x=>some x
  |_=>none
 | .cell a t=>match ev st (.tmp a)with
  | .one (.sc (.ptr b off))=>match aW st.hp b with
   |some (.aZ cells _)=>cY P t cells off
   |_=>none
  |_=>none
def wW(P:Program)(fn:Func)(st:St):Option LV:=
 match bP (nL P st) fn.results.toList with
 |some [x]=>some (.one x)
 |some l=>some (.bV l)
 |none=>none
def tH(a:Act):ResultVar→Sem Value
 | .tmp t=>pure (a.tmps.getD t undef)
 | .cell b t=>do loadVar t (← asAddr (a.tmps.getD b undef))
theorem z4(fn:Func)(a:Act):results fn a.tmps=(do let vs ← fn.results.mapM (tH a);pure (if h:vs.size=1 then vs[0]else .tuple vs)):=by
 unfold results
 congr 2
theorem z5{P:Program}{W:World}{ag:Hp}{β₀ β:Env}{st:St}{a:Act}{w:World}(hr:Rel W ag β₀ β st a w){r:ResultVar}{x:VV}(h:nL P st r=some x):
  ∃v,(tH a r).run P w= .ok v w∧x.den β (kd st.hp) v:=by
 cases r with
 |tmp t=>
  simp only[nL]at h
  split at h
  ·rename_i y hy;simp at h;subst h;have:=aB hr (.tmp t);rw[hy]at this;exact⟨_,rfl,this⟩
  ·simp at h
 |cell b t=>
  simp only[nL]at h
  split at h
  ·rename_i i off hy
   split at h
   ·rename_i cells elem hb;have:=aB hr (.tmp b);rw[hy]at this;obtain⟨_,e⟩:=this;have e':a.tmps.getD b undef= .pointer (some ⟨β.b i,off,none⟩):=e;obtain⟨c,fz,_,_,h3,h4⟩:=hr.heap.eD (an hb);obtain⟨v,h5,h6⟩:=fD (P:=P) rfl h4 h3 h;rw[bo,Nat.zero_add]at h5;exact⟨v,by simp[tH,e',asAddr,h5],h6⟩
   ·simp at h
  ·simp at h
theorem wX{P:Program}{fn:Func}{W:World}{ag:Hp}{β₀ β:Env}{st:St}{a:Act}{w:World}(hr:Rel W ag β₀ β st a w){r:LV}(h:wW P fn st=some r):
  ∃v,(results fn a.tmps).run P w= .ok v w∧r.den β (kd st.hp) v:=by
 have key:∀ (l:List ResultVar) (xs:List VV),bP (nL P st) l=some xs→∃vs:List Value,(l.mapM (tH a)).run P w= .ok vs w∧bd (VV.den β (kd st.hp)) xs vs:=by
  intro l
  induction l with
  |nil=>intro xs h;simp[bP]at h;subst h;exact⟨[],by simp,.nil⟩
  |cons r l ih=>
   intro xs h;simp only[bP]at h
   split at h
   ·rename_i y m' h1 h2;simp at h;subst h;obtain⟨v,e1,e2⟩:=z5 hr h1;obtain⟨vs,e3,e4⟩:=ih _ h2;refine⟨v::vs,?_,.cons e2 e4⟩;simp only[List.mapM_cons,Sem.run_bind];rw[e1];simp only[Result.andThen_ok,Sem.run_pure,e3]
   ·simp at h
 unfold wW at h
 have ck:∀ (vs:List Value) (xs:List VV),bP (nL P st) fn.results.toList=some xs→(∀vs:List Value,bd (VV.den β (kd st.hp)) xs vs→∃v,(if h:vs.toArray.size=1 then vs.toArray[0]else .tuple vs.toArray)=v∧r.den β (kd st.hp) v)→
   ∃v,(results fn a.tmps).run P w= .ok v w∧r.den β (kd st.hp) v:=by
  intro _ xs hx hv;obtain⟨vs,e1,e2⟩:=key _ _ hx;obtain⟨v,e3,e4⟩:=hv vs e2;refine⟨v,?_,e4⟩;rw[z4,Sem.run_bind,Array.mapM_eq_mapM_toList];simp only[Sem.run_map,e1,Result.andThen_ok];rw[← e3];rfl
 split at h
 ·rename_i x hx;simp at h;subst h;refine ck [] [x] hx fun vs hvs=>?_
  cases hvs with
  |cons h1 h2=>
   cases h2
   exact⟨_,rfl,h1⟩
 ·rename_i l eC hl;simp at h;subst h;refine ck [] l hl fun vs hvs=>?_;have hlen:=hvs.length
  have:vs.length≠1:=by
   intro e;rw[e]at hlen;obtain⟨x,hx⟩:=List.length_eq_one_iff.1 hlen;exact eC x hx
  refine⟨_,by rw[dif_neg (by simpa using this)],vs,rfl,hvs⟩
 ·simp at h
theorem aQ.self{W:World}{ag:Hp}{β₀ β:Env}{hp:Hp}{w:World}(h:aQ W ag β₀ β hp w):aQ w hp β β hp w:=
 ⟨h.items,h.inj,bh.refl _ _,fun i x b hi ho=>.inr ⟨x,hi,ho⟩,rfl,rfl,Nat.le_refl _,fun _ _ _=>rfl,h.reads,fun pm v t l b h1 h2=>.inr ⟨pm,v,t,l,id,h1,h2⟩⟩
theorem aQ.trans{W:World}{ag:Hp}{β₀ β β':Env}{hp cS:Hp}{w w':World}(h:aQ W ag β₀ β hp w)(h':aQ w hp β β' cS w'):aQ W ag β₀ β' cS w' where
 items:=h'.items
 inj:=h'.inj
 first:=h.first.trans h'.first
 own i x b hi ho:=by
  rcases h'.own i x b hi ho with h1|⟨y,hj,h1⟩
  ·exact .inl (Nat.le_trans h.size h1)
  ·exact h.own i y b hj h1
 os:=h'.os.trans h.os
 output:=h'.output.trans h.output
 size:=Nat.le_trans h.size h'.size
 ao b hb eC:=by
  rw[h'.ao b (by have:=h.size;omega) fun⟨i,x,hi,ho⟩=>?_]
  ·exact h.ao b hb eC
  ·rcases h.own i x b hi ho with h1|⟨y,h1⟩
   ·omega
   ·exact eC ⟨i,y,h1⟩
 reads:=h'.reads
 from_ pm v t l b h1 h2:=by
  rcases h'.from_ pm v t l b h1 h2 with h3|⟨gu,v',t',l',h0,h3,h4⟩
  ·exact .inl (Nat.le_trans h.size h3)
  ·rcases h.from_ gu v' t' l' b h3 h4 with h5|⟨pm2,v2,t2,l2,h6,h7,h8⟩
   ·exact .inl h5
   ·exact .inr ⟨pm2,v2,t2,l2,fun e=>h6 (h0 e),h7,h8⟩
def dM(P:Program)(f:FuncId)(args:List LV)(hp:Hp)(R:LV→Hp→Prop):Prop:=
 ∀ (β:Env) (w:World) (vals:List Value),aQ w hp β β hp w→bd (LV.den β (kd hp)) args vals→
  Calls P f vals.toArray w fun e w'=>∃val β' r cS,e= .returned val∧R r cS∧r.den β' (kd cS) val∧aQ w hp β β' cS w'
def entry(fn:Func)(args:List LV)(hp:Hp):St:=⟨args++List.replicate (fn.ntmps-args.length) (.bV []),hp⟩
inductive End where
 |leaf (v:LV) (hp:Hp)
 |ite (b:Bool) (x y:End)
 |need (p:Prop) (x:End)
 |fail
def End.sat(R:LV→Hp→Prop):End→Prop
 | .leaf v hp=>R v hp
 | .ite b x y=>(b=true→x.sat R)∧(b=false→y.sat R)
 | .need p x=>p∧x.sat R
 | .fail=>False
def aV.ends(P:Program)(fn:Func):aV→End
 | .leaf .normal st| .leaf .ret st=>match wW P fn st with
  |some v=>.leaf v st.hp
  |none=>.fail
 | .leaf _ _=>.fail
 | .ite b x y=>.ite b (x.ends P fn) (y.ends P fn)
 | .need p x=>.need p (x.ends P fn)
 | .fail=>.fail
theorem mj{P:Program}{fn:Func}{R:LV→Hp→Prop}:∀ {r:aV},(r.ends P fn).sat R→r.sat fun e st=>(e= .normal∨e= .ret)∧∃v,wW P fn st=some v∧R v st.hp
 | .leaf e st,h=>by
  cases e with
  |normal=>
   simp only[aV.ends]at h
   split at h
   ·rename_i v hv;exact⟨.inl rfl,v,hv,h⟩
   ·exact h.elim
  |ret=>
   simp only[aV.ends]at h
   split at h
   ·rename_i v hv;exact⟨.inr rfl,v,hv,h⟩
   ·exact h.elim
  |exit _=>exact h.elim
  |goto _=>exact h.elim
  |panic _=>exact h.elim
  |outgrown=>exact h.elim
 | .ite b x y,h=>⟨fun e=>mj (h.1 e),fun e=>mj (h.2 e)⟩
 | .need p x,h=>⟨h.1,mj h.2⟩
 | .fail,h=>h
def fW(P:Program)(f:FuncId)(args:List LV)(hp:Hp)(t:End):Prop:=∀R,t.sat R→dM P f args hp R
theorem z6{P:Program}{f:FuncId}{fn:Func}{c:Code}(hf:P.funcs[f]? =some fn)(hb:fn.body=some c){args:List LV}{hp:Hp}{r:aV}(hx:Ex P hp c (entry fn args hp) r):fW P f args hp (r.ends P fn):=by
 intro R h β w vals hh cq;refine calls_of_wp hf hb ?_
 have Tm:Rel w hp β β (entry fn args hp) {tmps:=vals.toArray++Array.replicate (fn.ntmps-vals.toArray.size) undef,defers:= []} w:=by
  refine⟨rfl,?_,hh⟩;show bd _ (args++List.replicate (fn.ntmps-args.length) (.bV [])) (vals.toArray++Array.replicate (fn.ntmps-vals.toArray.size) undef).toList;have hl:=cq.length
  have e:(vals.toArray++Array.replicate (fn.ntmps-vals.toArray.size) undef).toList=vals++List.replicate (fn.ntmps-args.length) undef:=by
   simp[hl]
  rw[e];refine cq.append ?_;generalize fn.ntmps-args.length=k
  induction k with
  |zero=>exact .nil
  |succ k ih=>exact .cons ⟨[],rfl,.nil⟩ ih
 refine hx _ _ _ _ (mj h) ?_ β _ w Tm
 have key:∀ (a:Act) (w':World) (st:St) (β':Env) (x:LV),wW P fn st=some x→R x st.hp→Rel w hp β β' st a w'→
   a.defers= []∧∃v,(results fn a.tmps).run P w'= .ok v w'∧(∃val β' r cS,Ending.returned v= .returned val∧R r cS∧r.den β' (kd cS) val∧aQ w hp β β' cS w'):=by
  intro a w' st β' x Nl hR hr;obtain⟨v,h1,h2⟩:=wX hr Nl;exact⟨hr.defers,v,h1,v,β',x,st.hp,rfl,hR,h2,hr.heap⟩
 rintro e a w' ⟨st,β',⟨he,x,Nl,hR⟩,hr⟩
 rcases he with rfl|rfl
 ·exact key a w' st β' x Nl hR hr
 ·exact key a w' st β' x Nl hR hr
def jU(P:Program)(f:FuncId):Prop:=∀ (as:Array Value) (w:World),(callFunc f as).run P w= .ok (.enter f as) w
end Go.Ev
end
