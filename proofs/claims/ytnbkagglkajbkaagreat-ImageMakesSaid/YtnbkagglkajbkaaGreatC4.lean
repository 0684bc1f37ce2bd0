/- What the laws lean on, part 4: a reader of code, plain facts, and what each function gives; no conditions. -/
import Derived.LoopN
import Derived.Orders
import Derived.Scope
import Derived.Test.YtnbkagglkajbkaaGreatC3
set_option linter.unusedVariables false
set_option linter.unusedSimpArgs false
noncomputable section
namespace Go.Ev
open Go
open Go.IntKind (i64 signed u16 u64 wrap)
noncomputable section
variable {P:Program} {W:World} {aj:Hp} {β₀ β:Env} {w:World} {st:St} {a:Act}
def avz(P:Program)(W:World)(aj:Hp)(β₀ β:Env)(st:St)(w:World)(s:Sem Next)(v:LV)(d:List (Nat×Item)):Prop:=
 ∃ (β':Env) (w':World) (val:Value),s.run P w= .ok (.value val) w'∧v.den β' (kd (aI d st.hp)) val∧bd W aj β₀ β' (aI d st.hp) w'∧bH β β' (kd st.hp) (kd (aI d st.hp))
theorem aqM(hr:Rel W aj β₀ β st a w){t ty:TypeId}{x:SV}{n:SI}{v:Value}(hl:(aqH P t x).val st.hp=some n)(hd:x.den β (kd st.hp) v):(Builtin.len_ #[t] ty #[v]).run P w= .ok (.int .i64 n.val) w:=by
 have hs:∀ {e:TypeId} {b:Option Addr} {k c:Nat},dT P t=some e→(Builtin.len_ #[t] ty #[.slice b k c]).run P w= .ok (goInt k) w:=fun he=>by
  have hu:=dK he;simp[Builtin.len_,run_underlying hu]
 have avA:∀ {s:ByteArray},P.underlying t=some .string→(Builtin.len_ #[t] ty #[.string s]).run P w= .ok (goInt s.size) w:=fun hu=>by
  simp[Builtin.len_,run_underlying hu]
 have avB:∀ {α:Type} {x y:α},(if P.underlying t matches some .string then some x else none)=some y→P.underlying t=some .string∧x=y:=by
  intro α x y h
  split at h
  ·rename_i hm;refine⟨?_,by simpa using h⟩
   revert hm
   cases hu:P.underlying t with
   |none=>simp
   |some d=>cases d<;>simp
  ·cases h
 unfold aqH at hl
 split at hl
 ·simp only[Ask.val]at hl;obtain⟨e,he,rfl⟩:=map_some hl;obtain⟨_,rfl⟩:=hd;exact hs he
 ·simp only[Ask.val]at hl;obtain⟨e,he,rfl⟩:=map_some hl;obtain⟨_,rfl⟩:=hd;exact hs he
 ·simp only[Ask.val]at hl;obtain⟨hu,rfl⟩:=avB hl;have e:v= .string _:=hd;rw[e,avA hu,q4];rfl
 ·simp only[Ask.val]at hl;obtain⟨hu,rfl⟩:=avB hl;obtain⟨_,rfl⟩:=hd;exact avA hu
 ·split at hl
  ·rename_i e he;rw[Ask.cG]at hl;obtain⟨⟨pm,uO,l⟩,hc,rfl⟩:=map_some hl;obtain⟨b,c,rfl⟩:=(j6 hr.heap hc hd).len;exact hs he
  ·simp[Ask.val]at hl
theorem u4{f:Int→Int→Int}{g:Value→Value→Sem Value}{k:IntKind}(hg:∀x y:Int,(g (.int k x) (.int k y)).run P w= .ok (.int k (f x y)) w){β:Env}{L:Nat→Option Kd}:
  ∀ (l:List SV) (vs:List Value) (x n:SI),bF (SV.den β L) l vs→u0 f k x l=some n→(vs.foldlM g (.int k x.val)).run P w= .ok (.int k n.val) w
 | [],vs,x,n,hd,h=>by
  cases hd
  simp[u0]at h;subst h;simp
 | .int k' y::l,_,x,n,.cons (b:=b) (m:=vs) h1 h2,h=>by
  simp only[u0]at h
  split at h
  ·rename_i hk;subst hk;have e:b= .int k' y.val:=h1;subst e;simp only[List.foldlM_cons,Sem.run_bind,hg,Result.andThen_ok];have:=u4 hg l vs _ n h2 h;rw[map2_val]at this;exact this
  ·cases h
theorem yF{β:Env}{L:Nat→Option Kd}:∀ {xs:List LV} {ss:List SV} {vs:List Value},cN iK xs=some ss→bF (LV.den β L) xs vs→bF (SV.den β L) ss vs
 | [],_,_,h,hd=>by simp[cN]at h;subst h;cases hd;exact .nil
 |x::xs,ss,_,h,.cons h1 h2=>by
  simp only[cN]at h
  split at h
  ·rename_i s m hs hm;simp at h;subst h;exact .cons (bf hs h1) (yF hm h2)
  ·cases h
theorem VI(hr:Rel W aj β₀ β st a w){id:Nat}{t u ty_:TypeId}{s x:SV}{q:Option Prop}{v:LV}{d:List (Nat×Item)}(h:(aat P id t u s x).val st.hp=some (q,v,d))(hq:eT q)(nM:(∃x,(id,x)∈d)→kd st.hp id=none)
  {sv xv:Value} (hs0:s.den β (kd st.hp) sv) (wI:x.den β (kd st.hp) xv):
  ∃ (β':Env) (w':World) (val:Value),(Builtin.append_ #[t,u] ty_ #[sv,xv]).run P w= .ok val w'∧v.den β' (kd (aI d st.hp)) val∧bd W aj β₀ β' (aI d st.hp) w'∧bH β β' (kd st.hp) (kd (aI d st.hp)):=by
 unfold aat at h
 split at h
 ·simp[Ask.val]at h
 rename_i el me
 split at h
 rotate_left
 ·simp[Ask.val]at h
 rename_i ty sz z uP hty hs hz MH
 split at h
 rotate_left
 ·simp[Ask.val]at h
 rename_i ke;obtain⟨rfl,jf,hwz⟩:=ke;rw[Ask.dZ]at h
 split at h
 rotate_left
 ·simp[Ask.val]at h
 rename_i pm m hc
 split at h
 rotate_left
 ·simp[Ask.val]at h
 rename_i hf;obtain⟨news,BU,kZ⟩:=aau hr.heap hc hf wI
 split at h
 ·simp only[Ask.val]at h
  cases h
  have aan:=nM ⟨_,by simp;rfl⟩;obtain⟨_,rfl⟩:=hs0;have hq':m.length*uP≤70368744177664∧m.length≤70368744177664:=hq;have yG:dm β w (.slice none 0 0) ty []:=⟨none,0,0,rfl,rfl,Nat.le_refl _,fun _=>rfl,fun h=>absurd h (by omega)⟩;obtain⟨v',w',h1,h2,h3,h4,h5,h6,h7⟩:=yD (ty_:=ty_) me hs jf hz hwz MH yG BU kZ (by simpa using hq'.1) (by simpa using hq'.2);rw[List.nil_append]at h2;obtain⟨β',k1,k2,k3⟩:=hr.heap.rf aan (ver:=0) h3 h4 h5 (fun b hb=>h6 b hb (by rintro⟨_,_,_,e,_⟩;simp at e)) h2 (fun a n c e h0=>(h7 a n c e h0).resolve_left (by rintro⟨_,_,e,_⟩;simp at e));refine⟨β',w',v',h1,⟨?_,0,?_,Nat.le_refl _,fun _=>k3.symm⟩,k1,k2⟩
  ·obtain⟨_,_,_,rfl,_⟩:=h2;rfl
  ·show kd (setAt st.hp id _) id=_;rw[c7,if_pos rfl];rfl
 ·rename_i i ver;simp only[Ask.val]at h
  split at h
  ·rename_i ver' uO l hi
   split at h
   ·rename_i e;subst e
    split at h
    ·rename_i e;subst e
     cases h
     obtain⟨nW,hh⟩:=hr.heap.og (p:=fun v=>sv=v) (aB hi) hs0.2;have hq':(l.length+m.length)*uP≤70368744177664∧l.length+m.length≤70368744177664:=hq;obtain⟨v',w',h1,h2,h3,h4,h5,h6,h7⟩:=yD (ty_:=ty_) me hs jf hz hwz MH nW BU kZ hq'.1 hq'.2
     obtain⟨β',k1,k2,k3⟩:=hr.heap.uZ (aB hi) (ver':=ver+1) (l':=l++m) (v:=v') (w':=w') (.inl (Nat.lt_succ_self _)) h3 h4 h5 (fun b hb qK=>h6 b hb qK) h2
      (fun a n c e h0=>(h7 a n c e h0).imp (fun⟨n',c',e',h'⟩=>⟨a,n',c',e',h',rfl⟩) fun h=>h)
     refine⟨β',w',v',by rw[hh];exact h1,⟨?_,ver+1,?_,Nat.le_refl _,fun _=>k3.symm⟩,k1,k2⟩
     ·obtain⟨_,_,_,rfl,_⟩:=h2;rfl
     ·show kd (setAt st.hp i _) i=_;rw[c7,if_pos rfl];rfl
    ·cases h
   ·cases h
  ·cases h
 ·simp[Ask.val]at h
theorem ajS(hr:Rel W aj β₀ β st a w){id:Nat}{t u ty_:TypeId}{s:SV}{k:IntKind}{n:Int}{q:Option Prop}{v:LV}{d:List (Nat×Item)}(h:(M5 P id t u s n).val st.hp=some (q,v,d))(hq:eT q)(nM:(∃x,(id,x)∈d)→kd st.hp id=none)
  {sv:Value} (hs0:s.den β (kd st.hp) sv):
  ∃ (β':Env) (w':World) (val:Value),(Builtin.append_ #[t,u] ty_ #[sv,.int k n]).run P w= .ok val w'∧v.den β' (kd (aI d st.hp)) val∧bd W aj β₀ β' (aI d st.hp) w'∧bH β β' (kd st.hp) (kd (aI d st.hp)):=by
 unfold M5 at h
 split at h
 rotate_left
 ·simp[Ask.val]at h
 rename_i el kn me hku
 split at h
 rotate_left
 ·simp[Ask.val]at h
 rename_i ty sz z uP hty hs hz MH
 split at h
 rotate_left
 ·simp[Ask.val]at h
 rename_i ke;obtain⟨rfl,jf,hwz⟩:=ke
 split at h
 rotate_left
 ·simp[Ask.val]at h
 rename_i z0 hz0
 split at h
 ·simp only[Ask.val]at h
  cases h
  have aan:=nM ⟨_,by simp;rfl⟩;obtain⟨_,rfl⟩:=hs0;obtain⟨BR,hq1,hq2⟩:0≤n∧n.toNat*uP≤70368744177664∧n.toNat≤70368744177664:=hq;obtain⟨m,rfl⟩:=Int.eq_ofNat_of_zero_le BR;simp only[Int.toNat_natCast]at hq1 hq2 ⊢;have yG:dm β w (.slice none 0 0) ty []:=⟨none,0,0,rfl,rfl,Nat.le_refl _,fun _=>rfl,fun h=>absurd h (by omega)⟩;obtain⟨v',w',h1,h2,h3,h4,h5,h6,h7⟩:=sd (ty_:=ty_) (kq:=k) me hs jf hz hwz MH yG hku hz0 m (by simpa using hq1) (by simpa using hq2);rw[List.nil_append]at h2;obtain⟨β',k1,k2,k3⟩:=hr.heap.rf aan (ver:=0) h3 h4 h5 (fun b hb=>h6 b hb (by rintro⟨_,_,_,e,_⟩;simp at e)) h2 (fun a n c e h0=>(h7 a n c e h0).resolve_left (by rintro⟨_,_,e,_⟩;simp at e));refine⟨β',w',v',h1,⟨?_,0,?_,Nat.le_refl _,fun _=>k3.symm⟩,k1,k2⟩
  ·obtain⟨_,_,_,rfl,_⟩:=h2;rfl
  ·show kd (setAt st.hp id _) id=_;rw[c7,if_pos rfl];rfl
 ·rename_i i ver;simp only[Ask.val]at h
  split at h
  ·rename_i ver' uO l hi
   split at h
   ·rename_i e;subst e
    split at h
    ·rename_i e;subst e
     cases h
     obtain⟨nW,hh⟩:=hr.heap.og (p:=fun v=>sv=v) (aB hi) hs0.2;obtain⟨BR,hq1,hq2⟩:0≤n∧(l.length+n.toNat)*uP≤70368744177664∧l.length+n.toNat≤70368744177664:=hq;obtain⟨m,rfl⟩:=Int.eq_ofNat_of_zero_le BR;simp only[Int.toNat_natCast]at hq1 hq2 ⊢;obtain⟨v',w',h1,h2,h3,h4,h5,h6,h7⟩:=sd (ty_:=ty_) (kq:=k) me hs jf hz hwz MH nW hku hz0 m hq1 hq2
     obtain⟨β',k1,k2,k3⟩:=hr.heap.uZ (aB hi) (ver':=ver+1) (l':=l++List.replicate m z0) (v:=v') (w':=w') (.inl (Nat.lt_succ_self _)) h3 h4 h5 (fun b hb qK=>h6 b hb qK) h2
      (fun a n c e h0=>(h7 a n c e h0).imp (fun⟨n',c',e',h'⟩=>⟨a,n',c',e',h',rfl⟩) fun h=>h)
     refine⟨β',w',v',by rw[hh];exact h1,⟨?_,ver+1,?_,Nat.le_refl _,fun _=>k3.symm⟩,k1,k2⟩
     ·obtain⟨_,_,_,rfl,_⟩:=h2;rfl
     ·show kd (setAt st.hp i _) i=_;rw[c7,if_pos rfl];rfl
    ·cases h
   ·cases h
  ·cases h
 ·simp[Ask.val]at h
theorem avE(hr:Rel W aj β₀ β st a w){id:Nat}{b:Builtin}{ts:List TypeId}{xs:List LV}{vs:List Value}{q:Option Prop}{v:LV}{d:List (Nat×Item)}
  (h:(ajO P id b ts xs).val st.hp=some (q,v,d)) (hq:eT q) (nM:(∃x,(id,x)∈d)→kd st.hp id=none) (hd:bF (LV.den β (kd st.hp)) xs vs) (ty:TypeId) (cs:Array Bool):
  avz P W aj β₀ β st w (builtin b ts.toArray ty cs vs.toArray) v d:=by
 have aaw:∀ {s:Sem Value} {val:Value} {x:SV},s.run P w= .ok val w→x.den β (kd st.hp) val→avz P W aj β₀ β st w (do pure (.value (← s))) (.one (.sc x)) []:=by
  intro s val x h1 h2;exact⟨β,w,val,by rw[Sem.run_bind,h1];rfl,h2,hr.heap,bH.refl _ _⟩
 unfold ajO at h
 split at h
 ·rename_i t x
  split at h
  ·rename_i s hs;rw[Ask.cG]at h;obtain⟨n,hn,he⟩:=map_some h
   cases he
   cases hd with
   |cons h1 h2=>
    cases h2
    exact aaw (aqM hr hn (bf hs h1)) rfl
  ·simp[Ask.val]at h
 ·rename_i t u s x
  split at h
  ·rename_i s' k n hs hx
   cases hd with
   |cons h1 h2=>
    cases h2 with
    |cons h2 h3=>
     cases h3
     have e:=bf hx h2;simp only[SV.den]at e;subst e;obtain⟨β',w',val,k1,k2,k3,k4⟩:=ajS (ty_:=ty) (k:=k) hr h hq nM (bf hs h1);exact⟨β',w',val,by show(do pure (Next.value (← Builtin.append_ #[t,u] ty _)):Sem Next).run P w=_;rw[Sem.run_bind,k1];rfl,k2,k3,k4⟩
  ·rename_i s' x' _ hs hx
   cases hd with
   |cons h1 h2=>
    cases h2 with
    |cons h2 h3=>
     cases h3
     obtain⟨β',w',val,k1,k2,k3,k4⟩:=VI (ty_:=ty) hr h hq nM (bf hs h1) (bf hx h2);exact⟨β',w',val,by show(do pure (Next.value (← Builtin.append_ #[t,u] ty _)):Sem Next).run P w=_;rw[Sem.run_bind,k1];rfl,k2,k3,k4⟩
  ·simp[Ask.val]at h
 ·rename_i t u s x
  split at h
  ·rename_i s' x' hs hx
   cases hd with
   |cons h1 h2=>
    cases h2 with
    |cons h2 h3=>
     cases h3
     obtain⟨β',w',val,k1,k2,k3,k4⟩:=ajR (ty_:=ty) hr h (bf hs h1) (bf hx h2);exact⟨β',w',val,by show(do pure (Next.value (← Builtin.copy_ #[t,u] ty _)):Sem Next).run P w=_;rw[Sem.run_bind,k1];rfl,k2,k3,k4⟩
  ·simp[Ask.val]at h
 ·rename_i x l;simp only[Ask.val]at h
  split at h
  ·rename_i k x0 l0 hx hl;obtain⟨n,hn,he⟩:=map_some h
   cases he
   cases hd with
   |cons h1 h2=>
    rename_i v0 vs0;have e:v0= .int k x0.val:=bf hx h1;subst e;have:=u4 (P:=P) (w:=w) (f:=aar) (g:=Builtin.min2) (k:=k) (fun x y=>by simp[Builtin.min2,aar]) l0 vs0 x0 n (yF hl h2) hn;refine aaw (s:=Builtin.min_ ts.toArray ty (Value.int k x0.val::vs0).toArray) (val:=.int k n.val) ?_ rfl;simp only[Builtin.min_];exact this
  ·cases h
 ·rename_i x l;simp only[Ask.val]at h
  split at h
  ·rename_i k x0 l0 hx hl;obtain⟨n,hn,he⟩:=map_some h
   cases he
   cases hd with
   |cons h1 h2=>
    rename_i v0 vs0;have e:v0= .int k x0.val:=bf hx h1;subst e;have:=u4 (P:=P) (w:=w) (f:=aas) (g:=Builtin.max2) (k:=k) (fun x y=>by simp[Builtin.max2,aas]) l0 vs0 x0 n (yF hl h2) hn;refine aaw (s:=Builtin.max_ ts.toArray ty (Value.int k x0.val::vs0).toArray) (val:=.int k n.val) ?_ rfl;simp only[Builtin.max_];exact this
  ·cases h
 ·simp[Ask.val]at h
end
inductive Out where
 |leaf (q:Option Prop) (v:LV) (d:List (Nat×Item))
 |ite (b:Bool) (x y:Out)
 |fail
def Out.of:Stp→Out
 |some (q,v,d)=>.leaf q v d
 |none=>.fail
def Out.holds(Q:LV→List (Nat×Item)→Prop):Out→Prop
 | .leaf q v d=>eT q∧Q v d
 | .ite b x y=>(b=true→x.holds Q)∧(b=false→y.holds Q)
 | .fail=>False
def Sx(id:Nat)(hp:Hp)(d:List (Nat×Item)):Prop:=∀j x,(j,x)∈d→id≤j→kd hp j=none
def Out.fresh(id:Nat)(hp:Hp):Out→Prop
 | .leaf _ _ d=>Sx id hp d
 | .ite _ x y=>x.fresh id hp∧y.fresh id hp
 | .fail=>True
structure yH where
 run:FuncId→Nat→List LV→Ask Out
def VJ(P:Program)(f:FuncId)(vals:Array Value)(w:World)(Q:Ending→World→Prop):Prop:=
 (∃val,(callFunc f vals).run P w= .ok (.value val) w∧Q (.returned val) w)∨
  ((∀ (as:Array Value) (w:World),(callFunc f as).run P w= .ok (.enter f as) w)∧Calls P f vals w Q)
theorem VJ.mono{P:Program}{f:FuncId}{vals:Array Value}{w:World}{Q Q':Ending→World→Prop}(h:VJ P f vals w Q)(hq:∀e w',Q e w'→Q' e w'):VJ P f vals w Q':=
 h.imp (fun⟨v,h1,h2⟩=>⟨v,h1,hq _ _ h2⟩) fun⟨h1,h2⟩=>⟨h1,h2.mono hq⟩
structure GOk (P:Program) (G:yH):Prop where
 calls:∀f id args hp,((G.run f id args).val hp).fresh id hp→∀Q,((G.run f id args).val hp).holds Q→
  ∀ (W:World) (aj:Hp) (β₀ β:Env) (w:World) (vals:List Value),bd W aj β₀ β hp w→bF (LV.den β (kd hp)) args vals→
   VJ P f vals.toArray w fun e w'=>∃v d val β',Q v d∧e= .returned val∧v.den β' (kd (aI d hp)) val∧bd W aj β₀ β' (aI d hp) w'∧bH β β' (kd hp) (kd (aI d hp))
def put(st:St)(dst:Option Tmp)(v:LV)(hp:Hp):St:=
 match dst with
 |some d=>⟨st.fr.set d v,hp⟩
 |none=>⟨st.fr,hp⟩
theorem Rel.put{W:World}{aj:Hp}{β₀ β β':Env}{st:St}{a:Act}{w w':World}(h:Rel W aj β₀ β st a w){dst:Option Tmp}{v:LV}{val:Value}{hp:Hp}
  (hv:v.den β' (kd hp) val) (hh:bd W aj β₀ β' hp w') (ha:bH β β' (kd st.hp) (kd hp)):
  Rel W aj β₀ β' (put st dst v hp) (a.put dst val) w':=by
 have hfr:bF (LV.den β' (kd hp)) st.fr a.tmps.toList:=h.fr.imp fun _ _=>LV.eI ha
 cases dst with
 |none=>exact⟨h.defers,hfr,hh⟩
 |some d=>exact⟨h.defers,by
   show bF (LV.den β' (kd hp)) (st.fr.set d v) (a.tmps.setIfInBounds d val).toList;rw[Array.toList_setIfInBounds];exact hfr.set d hv,hh⟩
def Ir:LV→Option FuncId
 | .one (.sc (.gY (.func (.func f) fs cs)))=>if fs.isEmpty&&cs.isEmpty then some f else none
 |_=>none
def si(P:Program)(G:yH)(id:Nat)(e:Operand→LV)(op:Op):Ask Out:=
 match op with
 | .call c=>match c.callee with
  | .builtin b=>(ajO P id b c.argTypes.toList (c.args.toList.map e)).map Out.of
  | .value f=>match Ir (e f)with
   |some f=>G.run f id (c.args.toList.map e)
   |none=>.ret .fail
  |_=>.ret .fail
 |op=>(fF P id e op).map Out.of
def gW(P:Program)(G:yH)(h:Option Bool)(id:Nat)(e:Operand→LV)(op:Op):Ask Out:=
 match h,op with
 |some v,.pick c x y=>match e c with
  | .one (.sc (.bool t))=>.ret (.leaf (some (t.val=v)) (if v then e x else e y) [])
  |_=>.ret .fail
 |_,op=>si P G id e op
theorem aax{P:Program}{G:yH}(hG:GOk P G){id:Nat}{st:St}{o:Oper}(hf:((si P G id (ev st) o.op).val st.hp).fresh id st.hp){K:LV→List (Nat×Item)→Prop}(h:((si P G id (ev st) o.op).val st.hp).holds K)
  {W:World} {aj:Hp} {β₀ β:Env} {a:Act} {w:World} (hr:Rel W aj β₀ β st a w) {next:Act→World→Prop} {Q:Exit→Act→World→Prop}
  (hn:∀v d β' a' w',K v d→Rel W aj β₀ β' (put st o.dst v (aI d st.hp)) a' w'→next a' w'):o.wp P a w next Q:=by
 unfold si at h hf
 split at h
 ·rename_i c hc;have eE:bF (LV.den β (kd st.hp)) (c.args.toList.map (ev st)) (c.args.toList.map a.eval):=bF.of_map _ _ _ fun x _=>aU hr x;have e2:(c.args.toList.map a.eval).toArray=c.args.map a.eval:=by rw[← Array.toList_map,Array.toArray_toList]
  simp only[hc]at hf
  split at h
  ·rename_i b hb;simp only[hb]at hf;rw[Ask.cG]at h hf
   cases hs:(ajO P id b c.argTypes.toList (c.args.toList.map (ev st))).val st.hp with
   |none=>rw[hs]at h;exact h.elim
   |some r=>
    obtain⟨q,v,d⟩:=r;rw[hs]at h hf;obtain⟨hq,hk⟩:=h;obtain⟨β',w',val,h1,h2,h3,h4⟩:=avE hr hs hq (fun⟨x,hx⟩=>hf id x hx (Nat.le_refl _)) eE o.type (c.args.map fun| .const _=>true|_=>false);rw[e2,Array.toArray_toList]at h1
    have eB:(execOp a.eval o).run P w= .ok (.value val) w':=by
     simp only[execOp,hc,resolve,hb,Sem.run_bind,Sem.run_pure,Result.andThen_ok,invoke];exact h1
    unfold Oper.wp;rw[eB];exact hn v d β' _ w' hk (hr.put (dst:=o.dst) h2 h3 h4)
  ·rename_i x hx;simp only[hx]at hf
   split at h
   ·rename_i f hfn;simp only[hfn]at hf;have avF:=hG.calls f id _ _ hf K h W aj β₀ β w _ hr.heap eE;unfold Ir at hfn
    split at hfn
    ·rename_i g fs cs Sl
     split at hfn
     ·rename_i avG;simp at hfn;subst hfn;have hd:=aU hr x;rw[Sl]at hd;have e:a.eval x= .func (.func g) fs cs:=hd.2;simp at avG;obtain⟨rfl,rfl⟩:=avG;unfold Oper.wp;rcases avF with⟨val,h1,v,d,aFB,β',hk,he,h3,h4,h5⟩|⟨h1,h2⟩
      ·have eB:(execOp a.eval o).run P w= .ok (.value val) w:=by
        rw[e2]at h1;simp only[execOp,hc,resolve,hx,e,Deferred.ofValue,Sem.run_bind,Sem.run_pure,Result.andThen_ok,invoke,Array.append_empty,Array.empty_append];exact h1
       rw[eB]
       cases he
       exact hn v d β' _ w hk (hr.put (dst:=o.dst) h3 h4 h5)
      ·have eB:(execOp a.eval o).run P w= .ok (.enter g (c.args.toList.map a.eval).toArray) w:=by
        simp only[execOp,hc,resolve,hx,e,Deferred.ofValue,Sem.run_bind,Sem.run_pure,Result.andThen_ok,invoke,h1,e2];simp
       rw[eB];refine h2.mono ?_
       rintro e w' ⟨v,d,val,β',hk,rfl,h3,h4,h5⟩
       exact hn v d β' _ w' hk (hr.put (dst:=o.dst) h3 h4 h5)
     ·cases hfn
    ·cases hfn
   ·exact h.elim
  ·exact h.elim
 ·rename_i qK
  have hf':((fF P id (ev st) o.op).map Out.of).val st.hp |>.fresh id st.hp:=by
   split at hf
   ·rename_i c hc;exact absurd hc (qK c)
   ·exact hf
  rw[Ask.cG]at h hf'
  cases hs:(fF P id (ev st) o.op).val st.hp with
  |none=>rw[hs]at h;exact h.elim
  |some r=>
   obtain⟨q,v,d⟩:=r;rw[hs]at h hf';obtain⟨hq,hk⟩:=h;obtain⟨β',w',r,val,h1,h2,h3,h4,h5⟩:=ajM hs (fun⟨x,hx⟩=>hf' id x hx (Nat.le_refl _)) hq W aj β₀ β a w hr;have:=hn v d β' _ w' hk (hr.put (dst:=o.dst) h3 h4 h5);unfold Oper.wp;rw[h1];rcases h2 with rfl|⟨rfl,rfl⟩
   ·exact this
   ·exact this
theorem It{P:Program}{G:yH}(hG:GOk P G){g:Option Bool}{id:Nat}{st:St}{o:Oper}(hf:((gW P G g id (ev st) o.op).val st.hp).fresh id st.hp){K:LV→List (Nat×Item)→Prop}(h:((gW P G g id (ev st) o.op).val st.hp).holds K)
  {W:World} {aj:Hp} {β₀ β:Env} {a:Act} {w:World} (hr:Rel W aj β₀ β st a w) {next:Act→World→Prop} {Q:Exit→Act→World→Prop}
  (hn:∀v d β' a' w',K v d→Rel W aj β₀ β' (put st o.dst v (aI d st.hp)) a' w'→next a' w'):o.wp P a w next Q:=by
 unfold gW at h hf
 split at h
 ·rename_i b c x y ho
  split at h
  ·rename_i t ht;obtain⟨hq,hk⟩:=h;have htb:t.val=b:=hq;have hc:=aU hr c;rw[ht]at hc;have e:a.eval c= .bool t.val:=hc
   have eB:(execOp a.eval o).run P w= .ok (.value (if b then a.eval x else a.eval y)) w:=by
    simp[execOp,ho,e,asBool,htb]
   unfold Oper.wp;rw[eB];refine hn _ _ β _ w hk (hr.put (dst:=o.dst) (hp:=st.hp) ?_ hr.heap (bH.refl _ _))
   cases b
   ·exact aU hr y
   ·exact aU hr x
  ·exact h.elim
 ·rename_i qK
  have hf':((si P G id (ev st) o.op).val st.hp).fresh id st.hp:=by
   split at hf
   ·rename_i b c x y ho;exact absurd ho (qK b c x y rfl)
   ·exact hf
  exact aax hG hf' h hr hn
def dM(st:St)(ops:Array Oper)(o:Oper):Option SB:=
 match o.guard with
 |none=>some (.lit true)
 |some (j,want)=>match(ops[j]?).bind (·.dst)with
  |none=>some (.lit false)
  |some d=>match st.fr[d]? with
   |some (.one (.sc (.bool (.lit b))))=>some (.lit (b==want))
   |some (.one (.sc (.bool (.sym b))))=>some (.sym (b==want))
   |some (.c6 _)=>some (.lit false)
   |some (.one (.sc (.int _ _)))=>some (.lit false)
   |none=>some (.lit false)
   |_=>none
theorem wK{W:World}{aj:Hp}{β₀ β:Env}{st:St}{a:Act}{w:World}(h:Rel W aj β₀ β st a w){ops:Array Oper}{o:Oper}{b:SB}
  (hb:dM st ops o=some b):Region.wanted o (yielded ops a.tmps)=b.val:=by
 unfold dM at hb;unfold Region.wanted
 split at hb
 ·rename_i hg;simp at hb;subst hb;simp[hg,SB.val]
 ·rename_i j want hg;simp only[hg];unfold yielded
  split at hb
  ·rename_i hd;simp at hb;subst hb;simp[hd,SB.val]
  ·rename_i d hd;simp only[hd,Option.bind_some];have hlen:=h.fr.length
   split at hb
   ·rename_i x hx;obtain⟨v,hv,M7⟩:=h.fr.get hx;have VK:a.tmps[d]? =some v:=(by simpa using hv);have e:v= .bool x:=M7;simp at hb;subst hb;simp[VK,e,SB.val]
   ·rename_i x hx;obtain⟨v,hv,M7⟩:=h.fr.get hx;have VK:a.tmps[d]? =some v:=(by simpa using hv);have e:v= .bool x:=M7;simp at hb;subst hb;simp[VK,e,SB.val]
   ·rename_i l hx;obtain⟨v,hv,vs,e,_⟩:=h.fr.get hx;have VK:a.tmps[d]? =some v:=(by simpa using hv);simp at hb;subst hb;simp[VK,e,SB.val]
   ·rename_i k i hx;obtain⟨v,hv,M7⟩:=h.fr.get hx;have VK:a.tmps[d]? =some v:=(by simpa using hv);have e:v= .int k i.val:=M7;simp at hb;subst hb;simp[VK,e,SB.val]
   ·rename_i hx
    have VK:a.tmps[d]? =none:=by
     have:=List.getElem?_eq_none_iff.1 hx;rw[Array.getElem?_eq_none_iff,← Array.length_toList];omega
    simp at hb;subst hb;simp[VK,SB.val]
   ·simp at hb
abbrev yI:=List (Tmp×Bool)
def known:yI→Tmp→Option Bool
 | [],_=>none
 |(d,v)::l,t=>if d=t then some v else known l t
def forget(a:yI):Option Tmp→yI
 |none=>a
 |some d=>a.filter fun p=>p.1!=d
def mP(a:yI)(st:St)(ops:Array Oper)(o:Oper):Option SB:=
 match o.guard with
 |none=>some (.lit true)
 |some (j,want)=>match(ops[j]?).bind (·.dst)with
  |none=>some (.lit false)
  |some d=>match known a d with
   |some v=>some (.lit (v==want))
   |none=>dM st ops o
def yJ(a:yI)(ops:Array Oper)(o:Oper)(v:Bool):yI:=
 match o.guard with
 |none=>a
 |some (j,want)=>match(ops[j]?).bind (·.dst)with
  |none=>a
  |some d=>(d,v==want)::a
def kh(a:yI)(st:St):Prop:=∀d v,known a d=some v→∃x:SB,st.fr[d]? =some (.one (.sc (.bool x)))∧x.val=v
theorem D6{a:yI}{e d:Tmp}{v:Bool}(h:known (forget a (some e)) d=some v):d≠e∧known a d=some v:=by
 induction a with
 |nil=>simp[forget,known]at h
 |cons p a ih=>
  obtain⟨t,u⟩:=p;simp only[forget,List.filter_cons]at h ih
  split at h
  ·rename_i gz;simp only[known]at h ⊢
   split at h
   ·rename_i htd;subst htd;simp at h gz;exact⟨gz,by simp[h]⟩
   ·rename_i htd;rw[if_neg htd];exact ih h
  ·rename_i gz;simp at gz;subst gz;obtain⟨h1,h2⟩:=ih h;exact⟨h1,by simp only[known,if_neg (Ne.symm h1)];exact h2⟩
theorem kh.put{a:yI}{st:St}(h:kh a st){dst:Option Tmp}{v:LV}{hp:Hp}:kh (forget a dst) (put st dst v hp):=by
 intro d u hd
 cases dst with
 |none=>exact h d u hd
 |some e=>
  obtain⟨h1,h2⟩:=D6 hd;obtain⟨x,hx,hv⟩:=h d u h2;exact⟨x,by simp only[Ev.put];rw[List.getElem?_set_ne (Ne.symm h1)];exact hx,hv⟩
theorem yK{a:yI}{st:St}(h:kh a st){ops:Array Oper}{o:Oper}{b:SB}(hb:mP a st ops o=some b):∃b',dM st ops o=some b'∧b'.val=b.val:=by
 unfold mP at hb
 split at hb
 ·rename_i hg;simp at hb;subst hb;exact⟨.lit true,by simp[dM,hg],rfl⟩
 ·rename_i j want hg
  split at hb
  ·rename_i hd;simp at hb;subst hb;exact⟨.lit false,by simp[dM,hg,hd],rfl⟩
  ·rename_i d hd
   split at hb
   ·rename_i v hk;simp at hb;subst hb;obtain⟨x,hx,hv⟩:=h d v hk
    cases x with
    |lit x=>exact⟨.lit (x==want),by simp[dM,hg,hd,hx],by simp only[SB.val]at hv ⊢;rw[hv]⟩
    |sym x=>exact⟨.sym (x==want),by simp[dM,hg,hd,hx],by simp only[SB.val]at hv ⊢;rw[hv]⟩
   ·exact⟨b,hb,rfl⟩
theorem sj{a:yI}{st:St}(h:kh a st){ops:Array Oper}{o:Oper}{b:Bool}(hb:mP a st ops o=some (.sym b)):kh (yJ a ops o b) st:=by
 unfold mP at hb
 split at hb
 ·simp at hb
 ·rename_i j want hg
  split at hb
  ·simp at hb
  ·rename_i d hd;have hl:yJ a ops o b=(d,b==want)::a:=(by simp only[yJ,hg,hd]);rw[hl]
   split at hb
   ·simp at hb
   ·intro e v he;simp only[known]at he
    split at he
    ·rename_i hde;subst hde;simp at he;subst he;simp only[dM,hg,hd]at hb
     split at hb<;>simp at hb
     rename_i x hx;subst hb;exact⟨.sym x,hx,by cases x<;>cases want<;>rfl⟩
    ·exact h e v he
inductive aG where
 |leaf (e:Exit) (st:St)
 |ite (b:Bool) (t e:aG)
 |need (p:Prop) (r:aG)
 |fail
def aG.sat(Q:Exit→St→Prop):aG→Prop
 | .leaf e st=>Q e st
 | .ite b t e=>(b=true→t.sat Q)∧(b=false→e.sat Q)
 | .need p r=>p∧r.sat Q
 | .fail=>False
def aG.bind(f:St→aG):aG→aG
 | .leaf .normal st=>f st
 | .leaf e st=>.leaf e st
 | .ite b t e=>.ite b (t.bind f) (e.bind f)
 | .need p r=>.need p (r.bind f)
 | .fail=>.fail
def aG.block(id:Nat):aG→aG
 | .leaf (.exit i) st=>if i=id then .leaf .normal st else .leaf (.exit i) st
 | .leaf e st=>.leaf e st
 | .ite b t e=>.ite b (t.block id) (e.block id)
 | .need p r=>.need p (r.block id)
 | .fail=>.fail
def aG.scope:aG→aG
 | .leaf (.goto _) _=>.fail
 | .leaf e st=>.leaf e st
 | .ite b t e=>.ite b t.scope e.scope
 | .need p r=>.need p r.scope
 | .fail=>.fail
def aG.eT(q:Option Prop)(r:aG):aG:=
 match q with
 |none=>r
 |some p=>.need p r
theorem aG.oq{Q Q':Exit→St→Prop}(hq:∀e st,Q e st→Q' e st):∀ {r:aG},r.sat Q→r.sat Q'
 | .leaf _ _,h=>hq _ _ h
 | .ite _ _ _,h=>⟨fun e=>aG.oq hq (h.1 e),fun e=>aG.oq hq (h.2 e)⟩
 | .need _ _,h=>⟨h.1,aG.oq hq h.2⟩
 | .fail,h=>h
theorem j7{q:Option Prop}{r:aG}{R:Exit→St→Prop}(h:(r.eT q).sat R):eT q∧r.sat R:=by
 cases q with
 |none=>exact⟨trivial,h⟩
 |some p=>exact h
def nO(W:World)(aj:Hp)(β₀:Env)(R:Exit→St→Prop):Exit→Act→World→Prop:=
 fun e a w=>∃st β,R e st∧Rel W aj β₀ β st a w
structure Alt where
 f:Bool→Hp→aG→aG→aG
 yes:∀ {m:Hp} {t e:aG} {R:Exit→St→Prop} {W:World} {β₀:Env},(f true m t e).sat R→∃R',t.sat R'∧∀e a w,nO W m β₀ R' e a w→nO W m β₀ R e a w
 no:∀ {m:Hp} {t e:aG} {R:Exit→St→Prop} {W:World} {β₀:Env},(f false m t e).sat R→∃R',e.sat R'∧∀e a w,nO W m β₀ R' e a w→nO W m β₀ R e a w
def fork:Alt where
 f b _ t e:=.ite b t e
 yes h:=⟨_,h.1 rfl,fun _ _ _ h=>h⟩
 no h:=⟨_,h.2 rfl,fun _ _ _ h=>h⟩
structure FX where
 r:List Nat
 d:List (Nat×Item)
 v:LV
 re:Hp→Out×List Nat
abbrev FP:=Option FX
def FX.w(f:FX):List Nat:=f.d.map (·.1)
def VL(a:Ask Out)(hp:Hp)(v:LV)(d:List (Nat×Item)):FP:=some ⟨a.log hp,d,v,fun h=>(a.val h,a.log h)⟩
def Out.qM(dr:Bool)(k:LV→List (Nat×Item)→aG):Out→aG
 | .leaf q v d=>(k v d).eT q
 | .ite b x y=>if dr then .fail else .ite b (x.qM dr k) (y.qM dr k)
 | .fail=>.fail
def mQ(k:yI):Op→Option Bool
 | .pick (.tmp d) _ _=>known k d
 |_=>none
def mg(P:Program)(G:yH)(k:yI)(id:Nat)(e:Operand→LV)(op:Op):Ask Out:=
 match mQ k op,op with
 |some v,.pick _ x y=>.ret (.leaf none (if v then e x else e y) [])
 |_,_=>si P G id e op
def iD(P:Program)(G:yH)(A:Alt)(m:Hp)(dr:Bool)(Cn:List FP→Option (Option Prop))(ops:Array Oper):List Oper→yI→List FP→St→aG
 | [],_,acc,st=>match Cn acc with
  |some q=>(aG.leaf .normal st).eT q
  |none=>.fail
 |o::rest,k,acc,st=>
  match mP k st ops o with
  |some (.lit true)=>((mg P G k st.hp.length (ev st) o.op).val st.hp).qM dr fun v d=>
    iD P G A m dr Cn ops rest (forget k o.dst) (acc++ [VL (mg P G k st.hp.length (ev st) o.op) st.hp v d]) (put st o.dst v (aI d st.hp))
  |some (.lit false)=>iD P G A m dr Cn ops rest (forget k o.dst) (acc++ [none]) (put st o.dst (.c6 []) st.hp)
  |some (.sym b)=>A.f b m
    (((mg P G (yJ k ops o true) st.hp.length (ev st) o.op).val st.hp).qM dr fun v d=>
      iD P G A m dr Cn ops rest (forget (yJ k ops o true) o.dst) (acc++ [VL (mg P G (yJ k ops o true) st.hp.length (ev st) o.op) st.hp v d]) (put st o.dst v (aI d st.hp)))
    (iD P G A m dr Cn ops rest (forget (yJ k ops o false) o.dst) (acc++ [none]) (put st o.dst (.c6 []) st.hp))
  |none=>.fail
theorem gk{hp:Hp}{j:Nat}(h:hp.length≤j):kd hp j=none:=by
 unfold kd;rw[List.getElem?_eq_none h]
theorem sk(hp:Hp)(d:List (Nat×Item)):Sx hp.length hp d:=fun _ _ _ h=>gk h
theorem u5(hp:Hp):∀o:Out,o.fresh hp.length hp
 | .leaf _ _ d=>sk hp d
 | .ite _ x y=>⟨u5 hp x,u5 hp y⟩
 | .fail=>trivial
theorem ot{dr:Bool}{k:LV→List (Nat×Item)→aG}{R:Exit→St→Prop}:∀ {o:Out},(o.qM dr k).sat R→o.holds fun v d=>(k v d).sat R
 | .leaf q v d,h=>j7 h
 | .ite b x y,h=>by
  simp only[Out.qM]at h
  split at h
  ·exact h.elim
  ·exact⟨fun e=>ot (h.1 e),fun e=>ot (h.2 e)⟩
 | .fail,h=>h
theorem M8{k:LV→List (Nat×Item)→aG}{R:Exit→St→Prop}{o:Out}(h:(o.qM true k).sat R):∃q v d,o= .leaf q v d∧eT q∧(k v d).sat R:=by
 cases o with
 |leaf q v d=>exact⟨q,v,d,rfl,(j7 h).1,(j7 h).2⟩
 |ite b x y=>simp[Out.qM,aG.sat]at h
 |fail=>exact h.elim
theorem Sy{P:Program}{G:yH}{k:yI}{id:Nat}{st:St}{op:Op}(hk:kh k st):
  (mg P G k id (ev st) op=gW P G (mQ k op) id (ev st) op)∨
  ∃v p,mg P G k id (ev st) op= .ret (.leaf none v [])∧gW P G (mQ k op) id (ev st) op= .ret (.leaf (some p) v [])∧p:=by
 unfold mg
 split
 ·rename_i v c x y hh;right;unfold mQ at hh
  split at hh
  ·rename_i d x' y' e;simp at e;obtain⟨rfl,rfl,rfl⟩:=e;obtain⟨t,ht,hv⟩:=hk _ _ hh;have hev:ev st (.tmp d)= .one (.sc (.bool t)):=(by simp[ev,List.getD_eq_getElem?_getD,ht]);refine⟨_,t.val=v,rfl,?_,hv⟩;simp only[gW,mQ,hh,hev]
  ·cases hh
 ·rename_i qK;left;unfold gW
  split
  ·rename_i v c x y hh;exact absurd hh (by intro h;exact qK v c x y h rfl)
  ·rfl
theorem aay{P:Program}{G:yH}(hG:GOk P G){k:yI}{id:Nat}{st:St}{o:Oper}(hk:kh k st)(hf:∀o:Out,o.fresh id st.hp){K:LV→List (Nat×Item)→Prop}(h:((mg P G k id (ev st) o.op).val st.hp).holds K)
  {W:World} {aj:Hp} {β₀ β:Env} {a:Act} {w:World} (hr:Rel W aj β₀ β st a w) {next:Act→World→Prop} {Q:Exit→Act→World→Prop}
  (hn:∀v d β' a' w',K v d→Rel W aj β₀ β' (put st o.dst v (aI d st.hp)) a' w'→next a' w'):o.wp P a w next Q:=by
 have hs:((gW P G (mQ k o.op) id (ev st) o.op).val st.hp).holds K:=by
  rcases Sy (P:=P) (G:=G) (id:=id) (op:=o.op) hk with e|⟨v,p,e1,e2,hp⟩
  ·rw[← e];exact h
  ·rw[e1]at h;rw[e2];exact⟨hp,h.2⟩
 exact It hG (hf _) hs hr hn
theorem yL{P:Program}{G:yH}{A:Alt}(hG:GOk P G){W:World}{m:Hp}{β₀:Env}{dr:Bool}{Cn:List FP→Option (Option Prop)}{ops:Array Oper}{Q:Exit→Act→World→Prop}:
  ∀ (l:List Oper) (k:yI) (acc:List FP) (st:St) (R:Exit→St→Prop),kh k st→(iD P G A m dr Cn ops l k acc st).sat R→(∀e a w,nO W m β₀ R e a w→Q e a w)→
   ∀β a w,Rel W m β₀ β st a w→wpList P ops Q l a w
 | [],k,acc,st,R,hk,h,hq,β,a,w,hr=>by
  simp only[iD]at h
  split at h
  ·exact hq _ _ _ ⟨st,β,(j7 h).2,hr⟩
  ·exact h.elim
 |o::rest,k,acc,st,R,hk,h,hq,β,a,w,hr=>by
  have eB:∀ (k:yI) (acc:LV→List (Nat×Item)→List FP),kh k st→∀ (R:Exit→St→Prop),(((mg P G k st.hp.length (ev st) o.op).val st.hp).qM dr fun v d=>
    iD P G A m dr Cn ops rest (forget k o.dst) (acc v d) (put st o.dst v (aI d st.hp))).sat R→(∀e a w,nO W m β₀ R e a w→Q e a w)→o.wp P a w (wpList P ops Q rest) Q:=by
   intro k acc hk R h hq;exact aay hG hk (u5 _) (ot h) hr fun v d β' a' w' hkv pI=>yL hG rest _ _ _ R hk.put hkv hq β' a' w' pI
  have Iu:∀ (k:yI) (acc:List FP),kh k st→∀ (R:Exit→St→Prop),(iD P G A m dr Cn ops rest (forget k o.dst) acc (put st o.dst (.c6 []) st.hp)).sat R→(∀e a w,nO W m β₀ R e a w→Q e a w)→
    wpList P ops Q rest (a.put o.dst undef) w:=by
   intro k acc hk R h hq;exact yL hG rest _ _ _ R hk.put h hq β _ w (hr.put (dst:=o.dst) ⟨[],rfl,.nil⟩ hr.heap (bH.refl _ _))
  simp only[iD]at h
  cases hb:mP k st ops o with
  |none=>simp only[hb]at h;exact h.elim
  |some b=>
   obtain⟨b',iw,hbv⟩:=yK hk hb;have hw:=wK hr iw;rw[hbv]at hw;simp only[hb]at h;simp only[wpList,hw]
   cases b with
   |lit b=>
    cases b with
    |true=>exact .inl (eB k _ hk R h hq)
    |false=>exact Iu k _ hk R h hq
   |sym b=>
    cases b with
    |true=>
     obtain⟨R',h1,h2⟩:=A.yes (W:=W) (β₀:=β₀) h;exact .inl (eB _ _ (sj hk hb) R' h1 fun e a w hp=>hq e a w (h2 e a w hp))
    |false=>
     obtain⟨R',h1,h2⟩:=A.no (W:=W) (β₀:=β₀) h;exact Iu _ _ (sj hk hb) R' h1 fun e a w hp=>hq e a w (h2 e a w hp)
theorem put_comm(st:St){x y:Option Tmp}(v u:LV)(h1 h2 h:Hp)(gz:∀d,x=some d→y≠some d):put (put st x v h1) y u h=put (put st y u h2) x v h:=by
 cases x with
 |none=>cases y<;>rfl
 |some d=>
  cases y with
  |none=>rfl
  |some e=>
   have:d≠e:=fun he=>gz d rfl (he▸rfl);simp only[put];rw[List.set_comm _ _ this]
theorem VM{ops:Array Oper}{o:Oper}{t:Tmp}(h:Operand.tmp t∈o.op.operands):t∈o.looksAt ops:=by
 unfold Oper.looksAt;rw[List.mem_append];refine .inl (List.mem_filterMap.2 ⟨.tmp t,by simpa using h,rfl⟩)
theorem aqO{st:St}{dst:Option Tmp}{v:LV}{hp:Hp}{x:Operand}(h:∀d,dst=some d→x≠ .tmp d):ev (put st dst v hp) x=ev st x:=by
 cases dst with
 |none=>cases x<;>rfl
 |some d=>
  cases x with
  |tmp t=>
   have gz:t≠d:=fun e=>h d rfl (e▸rfl);simp only[ev,put,List.getD_eq_getElem?_getD];rw[List.getElem?_set_ne (Ne.symm gz)]
  |_=>rfl
theorem mh{ops:Array Oper}{o:Oper}{dst:Option Tmp}(h:∀d,dst=some d→d∉o.looksAt ops){st:St}{v:LV}{hp:Hp}:∀x∈o.op.operands,ev (put st dst v hp) x=ev st x:=
 fun _x hx=>aqO fun d hd e=>h d hd (VM (e▸hx))
theorem eY{ops:Array Oper}{o:Oper}{dst:Option Tmp}(h:∀d,dst=some d→d∉o.looksAt ops){st:St}{v:LV}{hp:Hp}:
  dM (put st dst v hp) ops o=dM st ops o:=by
 unfold dM
 cases hg:o.guard with
 |none=>rfl
 |some p=>
  obtain⟨j,want⟩:=p
  cases ht:(ops[j]?).bind (·.dst)with
  |none=>simp[ht]
  |some t=>
   have:(put st dst v hp).fr[t]? =st.fr[t]? :=by
    cases dst with
    |none=>rfl
    |some d=>
     have gz:d≠t:=fun e=>h d rfl (by subst e;simp[Oper.looksAt,hg,ht]);simp only[put];rw[List.getElem?_set_ne gz]
   simp only[ht,this]
theorem M9{P:Program}{id:Nat}{e e2:Operand→LV}{op:Op}(h:∀x∈op.operands,e2 x=e x):fF P id e2 op=fF P id e op:=by
 cases op<;>simp only[Op.operands]at h<;>(try rfl)
 case move x=>simp only[fF,h x (by simp)]
 case assign x=>simp only[fF,h x (by simp)]
 case pick c x y=>simp only[fF,h c (by simp),h x (by simp),h y (by simp)]
 case box t x=>simp only[fF,h x (by simp)]
 case build t parts=>
  have e:(parts.toList.map fun p=>(p.1,e2 p.2))=parts.toList.map fun p=>(p.1,e p.2):=List.map_congr_left fun p hp=>by
   rw[h p.2 (by rw[List.mem_toArray];exact List.mem_map.2 ⟨p,hp,rfl⟩)]
  simp only[fF,e]
 case buildSlice t len parts=>
  have e:(parts.toList.map fun p=>(p.1,e2 p.2))=parts.toList.map fun p=>(p.1,e p.2):=List.map_congr_left fun p hp=>by
   rw[h p.2 (by rw[List.mem_toArray];exact List.mem_map.2 ⟨p,hp,rfl⟩)]
  simp only[fF,e]
 case load t x=>simp only[fF,h x (by simp)]
 case store t x y=>simp only[fF,h x (by simp),h y (by simp)]
 case nilCheck x=>simp only[fF,h x (by simp)]
 case binOp op t x y yt=>simp only[fF,h x (by simp),h y (by simp)]
 case unOp op t x=>simp only[fF,h x (by simp)]
 case convert s d x=>simp only[fF,h x (by simp)]
 case sliceToArrayPointer t x=>simp only[fF,h x (by simp)]
 case makeSlice t x y=>simp only[fF,h x (by simp),h y (by simp)]
 case slice t x lo hi mx=>
  have e1:lo.map e2=lo.map e:=by cases lo<;>simp_all
  have e3:hi.map e2=hi.map e:=by cases hi<;>simp_all
  have e4:mx.map e2=mx.map e:=by cases mx<;>simp_all
  simp only[fF,h x (by simp),e1,e3,e4]
 case fieldAddr s x f=>simp only[fF,h x (by simp)]
 case field s x f=>simp only[fF,h x (by simp)]
 case indexAddr t x i=>simp only[fF,h x (by simp),h i (by simp)]
 case index t x i=>simp only[fF,h x (by simp),h i (by simp)]
 case extract x i=>simp only[fF,h x (by simp)]
theorem Iv{P:Program}{G:yH}{id:Nat}{e e2:Operand→LV}{op:Op}(h:∀x∈op.operands,e2 x=e x):si P G id e2 op=si P G id e op:=by
 unfold si
 split
 ·rename_i c;have eE:c.args.toList.map e2=c.args.toList.map e:=List.map_congr_left fun x hx=>h x (by simp only[Op.operands,Call.operands,Array.mem_append];exact .inr (by simpa using hx));rw[eE]
  split
  ·rfl
  ·rename_i f hf;rw[h f (by simp[Op.operands,Call.operands,hf])]
  ·rfl
 ·rw[M9 h]
theorem cv{P:Program}{G:yH}{g:Option Bool}{id:Nat}{e e2:Operand→LV}{op:Op}(h:∀x∈op.operands,e2 x=e x):gW P G g id e2 op=gW P G g id e op:=by
 unfold gW
 split
 ·rename_i v c x y;rw[h c (by simp[Op.operands]),h x (by simp[Op.operands]),h y (by simp[Op.operands])]
 ·exact Iv h
theorem D7{hp:Hp}{i k:Nat}{x:Item}(h:k≠i):bn (setAt hp i x) k=bn hp k:=by
 unfold bn
 split
 ·rename_i y hy;rw[(bY hp i x k y h).1 hy]
 ·rename_i hn
  split
  ·rename_i y hy;exact absurd ((bY hp i x k y h).2 hy) (hn y)
  ·rfl
theorem eC:∀ {d:List (Nat×Item)} {hp:Hp} {k:Nat},k∉d.map (·.1)→bn (aI d hp) k=bn hp k
 | [],_,_,_=>rfl
 |(i,x)::d,hp,k,h=>by
  simp only[List.map_cons,List.mem_cons,not_or]at h;show bn (aI d (setAt hp i x)) k=_;rw[eC h.2,D7 h.1]
theorem Co(hp:Hp)(k:Nat):kd hp k=(bn hp k).map Item.kd:=by
 unfold kd bn
 cases hp[k]? with
 |none=>rfl
 |some x=>cases x<;>rfl
theorem VN{d:List (Nat×Item)}{hp:Hp}{k:Nat}(h:k∉d.map (·.1)):kd (aI d hp) k=kd hp k:=by rw[Co,Co,eC h]
theorem ou:∀ {d:List (Nat×Item)} {hp:Hp} {k:Nat},kd (aI d hp) k=none→kd hp k=none
 | [],_,_,h=>h
 |(i,x)::d,hp,k,h=>by
  have:=ou (d:=d) (hp:=setAt hp i x) h;rw[c7]at this
  split at this
  ·cases this
  ·exact this
theorem rh:∀ (hp:Hp) (i j:Nat) (a b:Item),i≠j→setAt (setAt hp i a) j b=setAt (setAt hp j b) i a
 | [],0,0,_,_,h=>absurd rfl h
 | [],0,j+1,a,b,_=>by simp[setAt]
 | [],i+1,0,a,b,_=>by simp[setAt]
 | [],i+1,j+1,a,b,h=>by simp only[setAt];rw[rh [] i j a b (by omega)]
 |_::_,0,0,_,_,h=>absurd rfl h
 |_::_,0,j+1,_,_,_=>by simp[setAt]
 |_::_,i+1,0,_,_,_=>by simp[setAt]
 |_::l,i+1,j+1,a,b,h=>by simp only[setAt];rw[rh l i j a b (by omega)]
theorem sn:∀ (d:List (Nat×Item)) (hp:Hp) (i:Nat) (x:Item),i∉d.map (·.1)→aI d (setAt hp i x)=setAt (aI d hp) i x
 | [],_,_,_,_=>rfl
 |(j,y)::d,hp,i,x,h=>by
  simp only[List.map_cons,List.mem_cons,not_or]at h;show aI d (setAt (setAt hp i x) j y)=setAt (aI d (setAt hp j y)) i x;rw[rh _ _ _ _ _ h.1,sn d _ _ _ h.2]
theorem wM:∀ (d d2:List (Nat×Item)) (hp:Hp),(∀k∈d.map (·.1),k∉d2.map (·.1))→aI d2 (aI d hp)=aI d (aI d2 hp)
 | [],_,_,_=>rfl
 |(i,x)::d,d2,hp,h=>by
  show aI d2 (aI d (setAt hp i x))=aI d (setAt (aI d2 hp) i x);rw[wM d d2 (setAt hp i x) fun k hk=>h k (by simp[List.map_cons];exact .inr (by simpa using hk)),sn d2 _ _ _ (h i (by simp))]
def avJ(f:FX)(a:Ask Out):Prop:=∀h,(f.re h).2=a.log h∧∀v',(f.re h).1= .leaf none v' []→∃q',a.val h= .leaf q' v' []∧eT q'
theorem wN:∀ {d:List (Nat×Item)} {hp hp2:Hp} {k:Nat},k∈d.map (·.1)→bn (aI d hp) k=bn (aI d hp2) k
 |(i,x)::d,hp,hp2,k,h=>by
  show bn (aI d (setAt hp i x)) k=bn (aI d (setAt hp2 i x)) k
  by_cases hk:k∈d.map (·.1)
  ·exact wN hk
  ·have e:k=i:=(by simpa [hk]using h);subst e;rw[eC hk,eC hk,pB (dw _ _ _),pB (dw _ _ _)]
def so(P:Program)(G:yH)(ops:Array Oper)(ids:Nat→Nat)(fp:Nat→FP)(i:Nat)(st pJ:St):Prop:=
 ∃o b,ops[i]? =some o∧dM st ops o=some b∧
  ((b.val=true∧∃q v d g f,(gW P G g (ids i) (ev st) o.op).val st.hp= .leaf q v d∧eT q∧(fp i=some f∧f.r=(gW P G g (ids i) (ev st) o.op).log st.hp∧f.d=d∧f.v=v∧avJ f (gW P G g (ids i) (ev st) o.op))∧Sx (ids i) st.hp d∧pJ=put st o.dst v (aI d st.hp))∨
   (b.val=false∧fp i=none∧pJ=put st o.dst (.c6 []) st.hp))
def Na:FP→FP→Bool
 |some f1,some f2=>f1.w.all (fun k=> !(f2.r.contains k)&& !(f2.w.contains k))&&f2.w.all fun k=> !(f1.r.contains k)
 |_,_=>true
def aaz(fj fi:FP):Prop:=∃a b,fj=some a∧fi=some b∧a.d= []∧(∀k∈a.r,k∈b.w)∧a.re (aI b.d [])=(.leaf none a.v [],a.r)
theorem dU{st:St}{dst:Option Tmp}{v:LV}{hp:Hp}:(put st dst v hp).hp=hp:=by cases dst<;>rfl
noncomputable section
variable {P:Program} {G:yH} {ops:Array Oper} {ids:Nat→Nat} {fp:Nat→FP}
theorem VO{i j:Nat}{oi oj:Oper}(yM:ops[i]? =some oi)(D8:ops[j]? =some oj)(hap:oj.apart ops oi=true)(Nb:Na (fp j) (fp i)=true∨aaz (fp j) (fp i))
  {st s1 s2:St} (h1:so P G ops ids fp j st s1) (h2:so P G ops ids fp i s1 s2):∃s1',so P G ops ids fp i st s1'∧so P G ops ids fp j s1' s2:=by
 obtain⟨a1,a2,a3⟩:=Oper.apart_spec hap;obtain⟨o,bj,ho,hwj,h1⟩:=h1;rw[D8]at ho;simp at ho;subst ho;obtain⟨o,bi,ho,hwi,h2⟩:=h2;rw[yM]at ho;simp at ho;subst ho;rcases h1 with⟨hbj,qj,vj,dj,gj,Fj,ej,nj,⟨fj,fj1,fj2,fj3,fj4⟩,rj,rfl⟩|⟨hbj,fj,rfl⟩
 ·rw[eY a1]at hwi;have evi:∀x∈oi.op.operands,ev (put st oj.dst vj (aI dj st.hp)) x=ev st x:=mh a1;rcases h2 with⟨hbi,qi,vi,di,gi,Fi,ei,ni,⟨fi,fi1,fi2,fi3,fi4⟩,ri,rfl⟩|⟨hbi,fi,rfl⟩
  ·rw[cv evi,dU]at ei fi1;rw[cv evi]at fi4;rw[dU]at ri;have evj:∀x∈oj.op.operands,ev (put st oi.dst vi (aI di st.hp)) x=ev st x:=mh a3;rw[fj,fi]at Nb;rcases Nb with Nb|avN
   ·simp only[Na,FX.w,Bool.and_eq_true,List.all_eq_true,Bool.not_eq_true',List.contains_eq_mem,decide_eq_false_iff_not,fj1,fj2,fi1,fi2]at Nb;obtain⟨d1,d2⟩:=Nb;have hli:∀k∈(gW P G gi (ids i) (ev st) oi.op).log (aI dj st.hp),bn st.hp k=bn (aI dj st.hp) k:=fun k hk=>(eC fun hm=>(d1 k hm).1 hk).symm;obtain⟨k1,k2⟩:=Ask.DT _ hli;have hlj:∀k∈(gW P G gj (ids j) (ev st) oj.op).log st.hp,bn (aI di st.hp) k=bn st.hp k:=fun k hk=>eC fun hm=>d2 k hm hk;obtain⟨k3,k4⟩:=Ask.DT _ hlj
    refine⟨put st oi.dst vi (aI di st.hp),⟨oi,bi,yM,hwi,.inl ⟨hbi,qi,vi,di,gi,Fi,by rw[k1];exact ei,ni,⟨fi,by rw[k2];exact fi1,fi2,fi3,fi4⟩,fun k x hk hle=>ou (ri k x hk hle),rfl⟩⟩,
     ⟨oj,bj,D8,by rw[eY a3];exact hwj,.inl ⟨hbj,qj,vj,dj,gj,Fj,by rw[cv evj,dU,k3];exact ej,nj,⟨fj,by rw[cv evj,dU,k4];exact fj1,fj2,fj3,by rw[cv evj];exact fj4⟩,?_,?_⟩⟩⟩
    ·intro k x hk hle;rw[dU,VN (fun hm=>(d1 k (List.mem_map.2 ⟨_,hk,rfl⟩)).2 hm)];exact rj k x hk hle
    ·rw[dU,dU,wM dj di st.hp (fun k hk=>(d1 k hk).2)];exact put_comm st vj vi _ _ _ a2
   ·obtain⟨a,b,e1,e2,h3,h4,h5⟩:=avN;simp at e1 e2;subst e1 e2;rw[fj2]at h3;subst h3;simp only[FX.w,fi2]at h4 h5;rw[fj3]at h5;obtain⟨m1,m2⟩:=fj4 (aI di []);rw[h5]at m1 m2;obtain⟨q',m3,m4⟩:=m2 vj rfl;simp only at m1;have aA7:∀k∈(gW P G gj (ids j) (ev st) oj.op).log (aI di []),bn (aI di st.hp) k=bn (aI di []) k:=fun k hk=>wN (h4 k (by rw[m1];exact hk));obtain⟨k3,k4⟩:=Ask.DT _ aA7
    refine⟨put st oi.dst vi (aI di st.hp),⟨oi,bi,yM,hwi,.inl ⟨hbi,qi,vi,di,gi,Fi,ei,ni,⟨fi,fi1,fi2,fi3,fi4⟩,ri,rfl⟩⟩,
     ⟨oj,bj,D8,by rw[eY a3];exact hwj,.inl ⟨hbj,q',vj,[],gj,Fj,by rw[cv evj,dU,k3];exact m3,m4,⟨fj,by rw[cv evj,dU,k4];exact m1,fj2,fj3,by rw[cv evj];exact fj4⟩,fun k x hk=>(by cases hk),?_⟩⟩⟩
    rw[dU,dU];exact put_comm st vj vi _ _ _ a2
  ·refine⟨put st oi.dst (.c6 []) st.hp,⟨oi,bi,yM,hwi,.inr ⟨hbi,fi,rfl⟩⟩,⟨oj,bj,D8,by rw[eY a3];exact hwj,.inl ⟨hbj,qj,vj,dj,gj,Fj,?_,nj,⟨fj,?_,fj2,fj3,?_⟩,?_,?_⟩⟩⟩
   ·rw[cv (mh a3),dU];exact ej
   ·rw[cv (mh a3),dU];exact fj1
   ·rw[cv (mh a3)];exact fj4
   ·rw[dU];exact rj
   ·rw[dU,dU];exact put_comm st vj _ _ _ _ a2
 ·rw[eY a1]at hwi;have evi:∀x∈oi.op.operands,ev (put st oj.dst (.c6 []) st.hp) x=ev st x:=mh a1;rcases h2 with⟨hbi,qi,vi,di,gi,Fi,ei,ni,⟨fi,fi1,fi2,fi3,fi4⟩,ri,rfl⟩|⟨hbi,fi,rfl⟩
  ·rw[cv evi,dU]at ei fi1;rw[cv evi]at fi4;rw[dU]at ri;refine⟨put st oi.dst vi (aI di st.hp),⟨oi,bi,yM,hwi,.inl ⟨hbi,qi,vi,di,gi,Fi,ei,ni,⟨fi,fi1,fi2,fi3,fi4⟩,ri,rfl⟩⟩,⟨oj,bj,D8,by rw[eY a3];exact hwj,.inr ⟨hbj,fj,?_⟩⟩⟩;rw[dU,dU];exact put_comm st _ vi _ _ _ a2
  ·refine⟨put st oi.dst (.c6 []) st.hp,⟨oi,bi,yM,hwi,.inr ⟨hbi,fi,rfl⟩⟩,⟨oj,bj,D8,by rw[eY a3];exact hwj,.inr ⟨hbj,fj,?_⟩⟩⟩;rw[dU,dU];exact put_comm st _ _ _ _ _ a2
end
inductive sr (P:Program) (G:yH) (ops:Array Oper) (ids:Nat→Nat) (fp:Nat→FP):List Nat→St→St→Prop where
 |nil {st}:sr P G ops ids fp [] st st
 |cons {i l st s s'} (h:so P G ops ids fp i st s) (t:sr P G ops ids fp l s s'):sr P G ops ids fp (i::l) st s'
def mi(acc:List Nat)(o:Oper):Nat:=
 o.after.toList.foldr (fun e s=>if Region.binds .any e then s|||2 ^ e.on|||acc.getD e.on 0 else s) 0
def su:List Oper→List Nat→List Nat
 | [],acc=>acc
 |o::l,acc=>su l (acc++ [mi acc o])
theorem BV{acc:List Nat}{o:Oper}{j:Nat}(h:Nat.testBit (mi acc o) j=true):
  ∃e∈o.after,Region.binds .any e=true∧(e.on=j∨Nat.testBit (acc.getD e.on 0) j=true):=by
 unfold mi at h
 have key:∀l:List Edge,Nat.testBit (l.foldr (fun e s=>if Region.binds .any e then s|||2 ^ e.on|||acc.getD e.on 0 else s) 0) j=true→
   ∃e∈l,Region.binds .any e=true∧(e.on=j∨Nat.testBit (acc.getD e.on 0) j=true):=by
  intro l
  induction l with
  |nil=>intro h;simp at h
  |cons e l ih=>
   intro h;simp only[List.foldr_cons]at h
   split at h
   ·rename_i hb;simp only[Nat.testBit_or,Bool.or_eq_true,Nat.testBit_two_pow,decide_eq_true_eq]at h;rcases h with(h|h)|h
    ·obtain⟨e',h1,h2⟩:=ih h;exact⟨e',by simp[h1],h2⟩
    ·exact⟨e,by simp,hb,.inl h⟩
    ·exact⟨e,by simp,hb,.inr h⟩
   ·obtain⟨e',h1,h2⟩:=ih h;exact⟨e',by simp[h1],h2⟩
 obtain⟨e,h1,h2⟩:=key _ h;exact⟨e,by simpa using h1,h2⟩
def sx:List Oper→Nat→Bool
 | [],_=>true
 |o::l,n=>(o.after.all fun e=> !Region.binds .any e||decide (e.on<n))&&sx l (n+1)
def Nc(ops:Array Oper)(oj oi:Oper)(bit:Bool)(fj fi:FP):Option (List Prop):=
 if bit||(oj.apart ops oi&&Na fj fi)then some []
 else if oj.apart ops oi then match fj,fi with
  |some a,some b=>if a.d.isEmpty&&a.r.all (fun k=>b.w.contains k)then some [a.re (aI b.d [])=(.leaf none a.v [],a.r)]else none
  |_,_=>none
 else none
def aqR:List Prop→Prop
 | []=>True
 | [p]=>p
 |p::l=>p∧aqR l
theorem Iw:∀ {l:List Prop} {p:Prop},aqR l→p∈l→p
 | [x],p,h,hp=>by
  rcases List.mem_cons.1 hp with rfl|hp
  ·exact h
  ·cases hp
 |x::y::l,p,h,hp=>by
  rcases List.mem_cons.1 hp with rfl|hp
  ·exact h.1
  ·exact Iw (l:=y::l) h.2 hp
theorem Ix{ops:Array Oper}{oj oi:Oper}{bit:Bool}{fj fi:FP}{l:List Prop}(h:Nc ops oj oi bit fj fi=some l)(hp:∀p∈l,p):bit=true∨(oj.apart ops oi=true∧(Na fj fi=true∨aaz fj fi)):=by
 unfold Nc at h
 split at h
 ·rename_i hc;simp only[Bool.or_eq_true,Bool.and_eq_true]at hc;exact hc.imp id fun hc=>⟨hc.1,.inl hc.2⟩
 ·split at h
  ·rename_i ha
   split at h
   ·rename_i a b _
    split at h
    ·rename_i hc;simp only[Bool.and_eq_true,List.all_eq_true,List.contains_eq_mem,decide_eq_true_eq,List.isEmpty_iff]at hc
     cases h
     exact .inr ⟨ha,.inr ⟨a,b,rfl,rfl,hc.1,hc.2,hp _ (List.mem_cons_self ..)⟩⟩
    ·cases h
   ·cases h
  ·cases h
def xn(ops:Array Oper)(oi:Oper)(mask:Nat)(fi:FP):List Oper→List FP→Nat→Option (List Prop)
 | [],_,_=>some []
 |oj::l,fs,j=>match Nc ops oj oi (Nat.testBit mask j) (fs.headD none) fi with
  |some a=>match xn ops oi mask fi l fs.tail (j+1)with
   |some b=>some (a++b)
   |none=>none
  |none=>none
def ov(ops:Array Oper)(ms:List Nat)(fs:List FP):List Oper→Nat→Option (List Prop)
 | [],_=>some []
 |o::l,i=>match xn ops o (ms.getD i 0) (fs.getD i none) (ops.toList.take i) fs 0 with
  |some a=>match ov ops ms fs l (i+1)with
   |some b=>some (a++b)
   |none=>none
  |none=>none
structure aqS (ops:Array Oper) (M:Nat→Nat) (fp:Nat→FP) (i:Nat) (o:Oper):Prop where
 early:∀e∈o.after,Region.binds .any e=true→e.on<i
 avO:∀j oj,j<i→ops[j]? =some oj→Nat.testBit (M i) j=true∨(oj.apart ops o=true∧(Na (fp j) (fp i)=true∨aaz (fp j) (fp i)))
 waits:∀j,Nat.testBit (M i) j=true→∃e∈o.after,Region.binds .any e=true∧(e.on=j∨Nat.testBit (M e.on) j=true)
theorem sy{ops:Array Oper}{oi:Oper}{mask:Nat}{fi:FP}:∀ (l:List Oper) (fs:List FP) (k:Nat) {ps:List Prop},xn ops oi mask fi l fs k=some ps→(∀p∈ps,p)→∀j oj,l[j]? =some oj→Nat.testBit mask (k+j)=true∨(oj.apart ops oi=true∧(Na (fs.getD j none) fi=true∨aaz (fs.getD j none) fi))
 | [],_,_,_,_,_,j,oj,hj=>by simp at hj
 |o::l,fs,k,ps,h,hp,j,oj,hj=>by
  simp only[xn]at h
  split at h
  ·rename_i a ha
   split at h
   ·rename_i b hb
    cases h
    cases j with
    |zero=>
     simp at hj;subst hj;have e:fs.headD none=fs.getD 0 none:=(by cases fs<;>rfl);rw[← e];exact Ix ha fun p hm=>hp p (by simp[hm])
    |succ j=>
     have:=sy l fs.tail (k+1) hb (fun p hm=>hp p (by simp[hm])) j oj (by simpa using hj);have e:fs.tail.getD j none=fs.getD (j+1) none:=(by cases fs<;>simp[List.getD]);rw[e]at this;rwa [show k+1+j=k+(j+1) by omega]at this
   ·cases h
  ·cases h
theorem qN{ops:Array Oper}{ms:List Nat}{fs:List FP}:∀ (l:List Oper) (k:Nat) {ps:List Prop},(∀j,l[j]? =ops[k+j]?)→ov ops ms fs l k=some ps→(∀p∈ps,p)→∀i o,k≤i→ops[i]? =some o→∀j oj,j<i→ops[j]? =some oj→Nat.testBit (ms.getD i 0) j=true∨(oj.apart ops o=true∧(Na (fs.getD j none) (fs.getD i none)=true∨aaz (fs.getD j none) (fs.getD i none)))
 | [],k,_,hl,_,_,i,o,hi,ho,_,_,_,_=>by
  have:=hl (i-k);rw[show k+(i-k)=i by omega,ho]at this;simp at this
 |x::l,k,ps,hl,h,hp,i,o,hi,ho,j,oj,hj,D8=>by
  simp only[ov]at h
  split at h
  ·rename_i a ha
   split at h
   ·rename_i b hb
    cases h
    by_cases e:i=k
    ·subst e
     have hx:o=x:=by
      have:=hl 0;rw[Nat.add_zero,ho]at this;simpa using this.symm
     subst hx;have:=sy _ _ 0 ha (fun p hm=>hp p (by simp[hm])) j oj (by rw[List.getElem?_take];simp[hj,D8]);rwa [Nat.zero_add]at this
    ·exact qN l (k+1) (fun j=>by have:=hl (j+1);simpa [Nat.add_assoc,Nat.add_comm 1 j]using this) hb (fun p hm=>hp p (by simp[hm])) i o (by omega) ho j oj hj D8
   ·cases h
  ·cases h
theorem yN{ops:Array Oper}:∀ (l before:List Oper) (acc:List Nat),before++l=ops.toList→acc.length=before.length→sx l before.length=true→
  (∀M:Nat→Nat,(∀i,M i=(su l acc).getD i 0)→∀i o,before.length≤i→ops[i]? =some o→(∀e∈o.after,Region.binds .any e=true→e.on<i)∧
   (∀j,Nat.testBit (M i) j=true→∃e∈o.after,Region.binds .any e=true∧(e.on=j∨Nat.testBit (M e.on) j=true)))∧(∀i,i<acc.length→(su l acc).getD i 0=acc.getD i 0)
 | [],before,acc,hb,ha,_=>by
  have hs:before.length=ops.size:=by
   have:=congrArg List.length hb;simpa using this
  refine⟨fun M hM i o hi ho=>?_,fun _ _=>rfl⟩;have:=(Array.getElem?_eq_some_iff.1 ho).1;omega
 |o::l,before,acc,hb,ha,h=>by
  simp only[sx,Bool.and_eq_true]at h;obtain⟨h1,h4⟩:=h;obtain⟨i1,i3⟩:=yN l (before++ [o]) (acc++ [mi acc o]) (by simpa using hb) (by simp[ha]) (by simpa using h4);have hmk:su (o::l) acc=su l (acc++ [mi acc o]):=rfl
  have avP:∀i,i<acc.length→(su (o::l) acc).getD i 0=acc.getD i 0:=fun i hi=>by
   rw[hmk,i3 i (by simp;omega)];simp only[List.getD_eq_getElem?_getD];rw[List.getElem?_append_left hi]
  refine⟨fun M hM i oi hi ho=>?_,avP⟩
  by_cases hie:i=before.length
  ·subst hie
   have hoo:oi=o:=by
    have e:ops.toList[before.length]? =some oi:=(by simpa using ho);rw[← hb]at e;simp at e;exact e.symm
   subst hoo
   have hMi:M before.length=mi acc oi:=by
    rw[hM,hmk,i3 _ (by simp[ha])];simp only[List.getD_eq_getElem?_getD];rw[← ha];simp
   have aaA:∀e∈oi.after,Region.binds .any e=true→e.on<before.length:=by
    intro e he Sz;have:=Array.all_eq_true'.1 h1 e he;simpa [Sz]using this
   refine⟨aaA,fun j hj=>?_⟩;rw[hMi]at hj;obtain⟨e,he,Sz,hor⟩:=BV hj;refine⟨e,he,Sz,hor.imp id fun ht=>?_⟩;rw[hM,avP _ (by rw[ha];exact aaA e he Sz)];exact ht
  ·exact i1 M (fun i=>hM i) i oi (by simp;omega) ho
noncomputable section
variable {P:Program} {G:yH} {ops:Array Oper} {ids:Nat→Nat} {M:Nat→Nat} {fp:Nat→FP}
theorem yO(hM:∀i o,ops[i]? =some o→aqS ops M fp i o){i:Nat}{oi:Oper}(yM:ops[i]? =some oi):
  ∀ (l1 l2:List Nat) (st sf:St),(∀j∈l1,j<i∧Nat.testBit (M i) j=false)→sr P G ops ids fp (l1++i::l2) st sf→∃s,so P G ops ids fp i st s∧sr P G ops ids fp (l1++l2) s sf
 | [],l2,st,sf,_,h=>by
  cases h with
  |cons h t=>exact⟨_,h,t⟩
 |j::l1,l2,st,sf,hl,h=>by
  cases h with
  |cons h t=>
   rename_i s;obtain⟨s1,h1,h2⟩:=yO hM yM l1 l2 s sf (fun k hk=>hl k (by simp[hk])) t;obtain⟨hji,D9⟩:=hl j (by simp);have aA9:=h;obtain⟨oj,_,D8,_⟩:=aA9;have hp:=((hM i oi yM).avO j oj hji D8).resolve_left (by rw[D9];simp);obtain⟨s1',k1,k2⟩:=VO yM D8 hp.1 hp.2 h h1;exact⟨s1',k1,.cons k2 h2⟩
theorem aaB(hG:GOk P G){i:Nat}{st s:St}(h:so P G ops ids fp i st s){W:World}{aj:Hp}{β₀ β:Env}{a:Act}{w:World}(hr:Rel W aj β₀ β st a w)
  {K:Act→World→Prop} {Q:Exit→Act→World→Prop} (hK:∀β' a' w',Rel W aj β₀ β' s a' w'→K a' w'):wpOp P ops Q i K a w:=by
 obtain⟨o,b,ho,hw,h⟩:=h;unfold wpOp;simp only[ho,wK hr hw];rcases h with⟨hb,q,v,d,g,_,e,hq,_,hf,rfl⟩|⟨hb,_,rfl⟩
 ·rw[if_pos hb]
  exact .inl (It hG (K:=fun v' d'=>v'=v∧d'=d) (by rw[e];exact hf) (by rw[e];exact⟨hq,rfl,rfl⟩) hr fun v' d' β' a' w' hk pI=>by
   obtain⟨rfl,rfl⟩:=hk;exact hK β' a' w' pI)
 ·rw[if_neg (by rw[hb];simp)];exact hK β _ w (hr.put (dst:=o.dst) ⟨[],rfl,.nil⟩ hr.heap (bH.refl _ _))
def bZ(ops:Array Oper)(cr:Array Bool):List Nat:=(List.range ops.size).filter fun i=> !cr.getD i true
theorem BW(hG:GOk P G)(hM:∀i o,ops[i]? =some o→aqS ops M fp i o)
  {W:World} {aj:Hp} {β₀:Env} {Q:Exit→Act→World→Prop} {sf:St} (hQ:∀β a w,Rel W aj β₀ β sf a w→Q .normal a w):
  ∀ (fuel:Nat) (cr:Array Bool) (st:St) (β:Env) (a:Act) (w:World),cr.size=ops.size→(bZ ops cr).length=fuel→
   (∀j oj,ops[j]? =some oj→cr.getD j false=true→∀e∈oj.after,Region.binds .any e=true→cr.getD e.on false=true)→
   sr P G ops ids fp (bZ ops cr) st sf→Rel W aj β₀ β st a w→wpAny P .any ops Q fuel cr a w:=by
 intro fuel
 induction fuel with
 |zero=>
  intro cr st β a w hsz hlen Ea hex hr;have h0:bZ ops cr= []:=List.eq_nil_of_length_eq_zero hlen;rw[h0]at hex
  cases hex
  refine⟨?_,hQ β a w hr⟩;refine List.eq_nil_iff_forall_not_mem.2 fun i hi=>?_
  have:i∈bZ ops cr:=by
   simp only[Region.ready,List.mem_filter,Bool.and_eq_true]at hi;simp only[bZ,List.mem_filter];exact⟨hi.1,hi.2.1⟩
  rw[h0]at this;cases this
 |succ fuel ih=>
  intro cr st β a w hsz hlen Ea hex hr;constructor
  ·intro kg;exfalso
   cases hu:bZ ops cr with
   |nil=>rw[hu]at hlen;simp at hlen
   |cons i l=>
    have BX:i∈bZ ops cr:=by rw[hu];simp
    have hi:i<ops.size∧(!cr.getD i true)=true:=by
     simpa [bZ]using BX
    have Nd:∀j,j<i→cr.getD j true=true:=by
     intro j hj;refine Classical.byContradiction fun qK=>?_
     have VP:j∈bZ ops cr:=by
      simp only[bZ,List.mem_filter,List.mem_range];exact⟨by omega,by simpa using qK⟩
     have hpw:(bZ ops cr).Pairwise (· < ·):=(List.pairwise_lt_range (n:=ops.size)).filter _;rw[hu]at hpw VP;rcases List.mem_cons.1 VP with rfl|VP
     ·omega
     ·have:=List.rel_of_pairwise_cons hpw VP;omega
    have pI:i∈Region.ready .any ops cr:=by
     rw[mem_ready];obtain⟨oi,yM⟩:∃oi,ops[i]? =some oi:=⟨ops[i]'hi.1,by simp[hi.1]⟩;refine⟨by simpa using hi.2,oi,yM,fun e he hb=>?_⟩;have dQ:=(hM i oi yM).early e he hb;have h1:=Nd e.on dQ;have:e.on<cr.size:=(by omega);simp[this]at h1 ⊢;exact h1
    rw[kg]at pI;cases pI
  ·intro i hi;obtain⟨hun,oi,yM,DU⟩:=mem_ready.1 hi;have aBa:i<ops.size:=(Array.getElem?_eq_some_iff.1 yM).1
   have avR:i∈bZ ops cr:=by
    simp only[bZ,List.mem_filter,List.mem_range];exact⟨aBa,by simpa using hun⟩
   obtain⟨l1,l2,hl⟩:=List.append_of_mem avR;have hpw:(bZ ops cr).Pairwise (· < ·):=(List.pairwise_lt_range (n:=ops.size)).filter _;rw[hl]at hpw hex;obtain⟨p1,p2,p3⟩:=List.pairwise_append.1 hpw
   have avS:∀j,cr.getD j false=false→∀i oi,ops[i]? =some oi→(∀e∈oi.after,Region.binds .any e=true→cr.getD e.on false=true)→Nat.testBit (M i) j=false:=by
    intro j hj i
    induction i using Nat.strongRecOn with
    |_ i ih2=>
     intro oi yM DU;refine Bool.eq_false_iff.2 fun ht=>?_;obtain⟨e,he,hb,hor⟩:=(hM i oi yM).waits j ht;have hle:=DU e he hb;rcases hor with rfl|ht'
     ·rw[hj]at hle;cases hle
     ·have dQ:=(hM i oi yM).early e he hb
      obtain⟨oe,hoe⟩:∃oe,ops[e.on]? =some oe:=⟨ops[e.on]'(by have:=(Array.getElem?_eq_some_iff.1 yM).1;omega),by
       have:=(Array.getElem?_eq_some_iff.1 yM).1;simp[show e.on<ops.size by omega]⟩
      have:=ih2 e.on dQ oe hoe (Ea e.on oe hoe hle);rw[this]at ht';cases ht'
   have hl1:∀j∈l1,j<i∧Nat.testBit (M i) j=false:=by
    intro j hj;refine⟨p3 j hj i (by simp),avS j ?_ i oi yM DU⟩;have VP:j∈bZ ops cr:=(by rw[hl];simp[hj]);simp only[bZ,List.mem_filter,List.mem_range]at VP;have:j<cr.size:=(by omega);simp[this]at VP ⊢;exact VP.2
   obtain⟨s,h1,h2⟩:=yO hM yM l1 l2 st sf hl1 hex;refine aaB hG h1 hr fun β' a' w' pI=>?_
   have BI:bZ ops (cr.setIfInBounds i true)=l1++l2:=by
    have e1:bZ ops (cr.setIfInBounds i true)=(bZ ops cr).filter (fun k=>k !=i):=by
     unfold bZ;rw[List.filter_filter]
     apply List.filter_congr
     intro k hk;have g6:k<ops.size:=List.mem_range.1 hk
     by_cases ZR:k=i
     ·subst ZR;simp[Array.getD_eq_getD_getElem?,hsz,g6]
     ·rw[getD_set_ne true (Ne.symm ZR)];simp[ZR]
    rw[e1,hl,List.filter_append];have f1:l1.filter (fun k=>k !=i)=l1:=List.filter_eq_self.2 fun k hk=>by have:=(hl1 k hk).1;simp;omega
    have f2:(i::l2).filter (fun k=>k !=i)=l2:=by
     rw[List.filter_cons];simp only[bne_self_eq_false,Bool.false_eq_true,if_false]
     exact List.filter_eq_self.2 fun k hk=>by
      have:=List.rel_of_pairwise_cons p2 hk;simp;omega
    rw[f1,f2]
   refine ih (cr.setIfInBounds i true) s β' a' w' (by simpa using hsz) ?_ ?_ (by rw[BI];exact h2) pI
   ·rw[BI];have:(bZ ops cr).length=(l1++i::l2).length:=(by rw[hl]);simp at this ⊢;omega
   ·intro j oj D8 hlj e he hb
    by_cases hji:j=i
    ·subst hji;rw[yM]at D8;simp at D8;subst D8;exact getD_set_true (DU e he hb)
    ·rw[getD_set_ne false (Ne.symm hji)]at hlj;exact getD_set_true (Ea j oj D8 hlj e he hb)
end
def xp(ops:Array Oper)(fs:List FP):Option (Option Prop):=match ov ops (su ops.toList []) fs ops.toList 0 with
 |some []=>some none
 |some l=>some (some (aqR l))
 |none=>none
theorem Eb{ops:Array Oper}{fs:List FP}{q:Option Prop}(h:xp ops fs=some q)(hq:eT q):∃l,ov ops (su ops.toList []) fs ops.toList 0=some l∧∀p∈l,p:=by
 unfold xp at h
 split at h
 ·rename_i h1;exact⟨[],h1,fun p hp=>by cases hp⟩
 ·rename_i l _ h1
  cases h
  exact⟨l,h1,fun p hp=>Iw hq hp⟩
 ·cases h
def Ec(P:Program)(G:yH)(ops:Array Oper)(Cn:List FP→Option (Option Prop))(W:World)(m:Hp)(β₀:Env)(R:Exit→St→Prop)(acc:List FP)(k n:Nat)(st:St):Prop:=
 ∃ (ids:Nat→Nat) (fs:List FP) (sf:St),fs.length=n∧sr P G ops ids (fun i=>fs.getD (i-k) none) (List.range' k n) st sf∧(∃q,Cn (acc++fs)=some q∧eT q)∧(∀β a w,Rel W m β₀ β sf a w→nO W m β₀ R .normal a w)
theorem wO{P:Program}{G:yH}{A:Alt}{m:Hp}{Cn:List FP→Option (Option Prop)}{ops:Array Oper}{W:World}{β₀:Env}:
  ∀ (l:List Oper) (k:Nat) (B:yI) (acc:List FP) (st:St) (R:Exit→St→Prop),(∀j,l[j]? =ops[k+j]?)→kh B st→(iD P G A m true Cn ops l B acc st).sat R→
   Ec P G ops Cn W m β₀ R acc k l.length st
 | [],k,B,acc,st,R,_,_,h=>by
  simp only[iD]at h
  split at h
  ·rename_i q hc;exact⟨fun _=>0,[],st,rfl,.nil,⟨q,by simpa using hc,(j7 h).1⟩,fun β a w hr=>⟨st,β,(j7 h).2,hr⟩⟩
  ·exact h.elim
 |o::rest,k,B,acc,st,R,hl,hB,h=>by
  have h0:ops[k]? =some o:=by simpa using(hl 0).symm
  have hl':∀j,rest[j]? =ops[k+1+j]? :=fun j=>by
   have:=hl (j+1);simpa [Nat.add_assoc,Nat.add_comm 1 j]using this
  have build:∀ (s:St) (f:FP),(∀ids fp,ids k=st.hp.length→fp k=f→so P G ops ids fp k st s)→
    ∀ (B:yI) (R':Exit→St→Prop),kh B s→(iD P G A m true Cn ops rest B (acc++ [f]) s).sat R'→(∀e a w,nO W m β₀ R' e a w→nO W m β₀ R e a w)→
    Ec P G ops Cn W m β₀ R acc k (o::rest).length st:=by
   intro s f Iy B R' hB hs hR;obtain⟨ids,fs,sf,e0,e1,e2,e3⟩:=wO rest (k+1) B (acc++ [f]) s R' hl' hB hs;refine⟨fun i=>if i=k then st.hp.length else ids i,f::fs,sf,by simp[e0],?_,by simpa using e2,fun β a w hr=>hR _ _ _ (e3 β a w hr)⟩;simp only[List.length_cons,List.range'_succ];refine .cons (Iy _ _ (if_pos rfl) (by simp)) ?_
   have key:∀ (l:List Nat) (x y:St),(∀i∈l,k+1≤i)→sr P G ops ids (fun i=>fs.getD (i-(k+1)) none) l x y→sr P G ops (fun i=>if i=k then st.hp.length else ids i) (fun i=>(f::fs).getD (i-k) none) l x y:=by
    intro l x y gz hx
    induction hx with
    |nil=>exact .nil
    |cons h t ih=>
     rename_i i l s1 s2 s3;refine .cons ?_ (ih fun i hi=>gz i (by simp[hi]));have hik:=gz i (by simp);unfold so at h ⊢
     have e1:(f::fs).getD (i-k) none=fs.getD (i-(k+1)) none:=by
      rw[show i-k=(i-(k+1))+1 by omega];rfl
     have e2:(fun i=>if i=k then st.hp.length else ids i) i=ids i:=if_neg (by omega);simp only[e2,e1];exact h
   exact key _ _ _ (fun i hi=>by have:=List.mem_range'_1.1 hi;omega) e1
  have eB:∀ (b:SB),dM st ops o=some b→b.val=true→∀ (B:yI) (R':Exit→St→Prop),kh B st→(((mg P G B st.hp.length (ev st) o.op).val st.hp).qM true fun v d=>
    iD P G A m true Cn ops rest (forget B o.dst) (acc++ [VL (mg P G B st.hp.length (ev st) o.op) st.hp v d]) (put st o.dst v (aI d st.hp))).sat R'→(∀e a w,nO W m β₀ R' e a w→nO W m β₀ R e a w)→Ec P G ops Cn W m β₀ R acc k (o::rest).length st:=by
   intro b hb hbv B R' hB hs hR;obtain⟨q,v,d,hst,n1,n2⟩:=M8 hs
   have hH:∃q',(gW P G (mQ B o.op) st.hp.length (ev st) o.op).val st.hp= .leaf q' v d∧eT q'∧(gW P G (mQ B o.op) st.hp.length (ev st) o.op).log st.hp=(mg P G B st.hp.length (ev st) o.op).log st.hp∧
     ∀f:FX,VL (mg P G B st.hp.length (ev st) o.op) st.hp v d=some f→avJ f (gW P G (mQ B o.op) st.hp.length (ev st) o.op):=by
    rcases Sy (P:=P) (G:=G) (id:=st.hp.length) (op:=o.op) hB with e|⟨v',p,e1,e2,hp⟩
    ·rw[← e];refine⟨q,hst,n1,rfl,fun f hf h=>?_⟩;simp only[VL,Option.some.injEq]at hf;subst hf;exact⟨rfl,fun v' hv=>⟨none,hv,trivial⟩⟩
    ·rw[e1]at hst;simp only[Ask.val]at hst
     cases hst
     refine⟨some p,by rw[e2];rfl,hp,by rw[e1,e2];rfl,fun f hf h=>?_⟩;simp only[VL,Option.some.injEq]at hf;subst hf;rw[e1,e2];refine⟨rfl,fun v' hv=>⟨some p,?_,hp⟩⟩;simp only[Ask.val,Out.leaf.injEq]at hv;rw[← hv.2.1];rfl
   obtain⟨q',k1,k2,k3,k4⟩:=hH;exact build _ _ (fun ids fp ajU hfp=>⟨o,b,h0,hb,.inl ⟨hbv,q',v,d,_,_,by rw[ajU];exact k1,k2,⟨hfp,by rw[ajU];exact k3.symm,rfl,rfl,by rw[ajU];exact k4 _ rfl⟩,by rw[ajU];exact sk _ _,rfl⟩⟩) _ R' hB.put n2 hR
  have Iu:∀ (b:SB),dM st ops o=some b→b.val=false→∀ (B:yI) (R':Exit→St→Prop),kh B st→(iD P G A m true Cn ops rest (forget B o.dst) (acc++ [none]) (put st o.dst (.c6 []) st.hp)).sat R'→
    (∀e a w,nO W m β₀ R' e a w→nO W m β₀ R e a w)→Ec P G ops Cn W m β₀ R acc k (o::rest).length st:=by
   intro b hb hbv B R' hB hs hR;exact build (put st o.dst (.c6 []) st.hp) none (fun ids fp _ hfp=>⟨o,b,h0,hb,.inr ⟨hbv,hfp,rfl⟩⟩) _ R' hB.put hs hR
  simp only[iD]at h
  cases hb0:mP B st ops o with
  |none=>simp only[hb0]at h;exact h.elim
  |some b=>
   obtain⟨b',hb,hbv⟩:=yK hB hb0;simp only[hb0]at h
   cases b with
   |lit b=>
    cases b with
    |true=>exact eB _ hb hbv B R hB h fun _ _ _ h=>h
    |false=>exact Iu _ hb hbv B R hB h fun _ _ _ h=>h
   |sym b=>
    cases b with
    |true=>
     obtain⟨R',h1,h2⟩:=A.yes (W:=W) (β₀:=β₀) h;exact eB _ hb hbv _ R' (sj hB hb0) h1 h2
    |false=>
     obtain⟨R',h1,h2⟩:=A.no (W:=W) (β₀:=β₀) h;exact Iu _ hb hbv _ R' (sj hB hb0) h1 h2
noncomputable section
variable {P:Program} {G:yH}
theorem yP(hG:GOk P G){A:Alt}(kO:P.follows .mixedOrders=true){m:Hp}{ops:Array Oper}{id:Nat}{st:St}(hd:sx ops.toList 0=true){R:Exit→St→Prop}
  (h:(iD P G A m true (xp ops) ops ops.toList [] [] st).sat R) {W:World} {β₀:Env} {Q:Exit→Act→World→Prop} (hq:∀e a w,nO W m β₀ R e a w→Q e a w) {β:Env} {a:Act} {w:World}
  (hr:Rel W m β₀ β st a w):(Code.region id ops true).wp P Q a w:=by
 obtain⟨ids,fs,sf,e0,e1,⟨q,e2,e2'⟩,e3⟩:=wO (W:=W) (β₀:=β₀) ops.toList 0 [] [] st R (fun j=>by simp) (fun _ _ h=>by simp[known]at h) h;obtain⟨hE,_⟩:=yN (ops:=ops) ops.toList [] [] (by simp) rfl hd;obtain⟨ps,p1,p2⟩:=Eb (by simpa using e2) e2'
 have hM:∀i o,ops[i]? =some o→aqS ops (fun i=>(su ops.toList []).getD i 0) (fun i=>fs.getD (i-0) none) i o:=by
  intro i o ho;obtain⟨k1,k2⟩:=hE _ (fun _=>rfl) i o (Nat.zero_le _) ho;exact⟨k1,fun j oj hj D8=>qN ops.toList 0 (fun j=>by simp) p1 p2 i o (Nat.zero_le _) ho j oj hj D8,k2⟩
 refine wp_region_any kO ?_
 have BI:bZ ops (Array.replicate ops.size false)=List.range' 0 ops.toList.length:=by
  unfold bZ;rw[List.filter_eq_self.2 fun i hi=>?_]
  ·rw[List.range_eq_range'];simp
  ·have:=List.mem_range.1 hi;simp[this]
 refine BW hG hM (ids:=ids) (sf:=sf) (fun β a w hr=>hq _ _ _ (e3 β a w hr)) ops.size _ st β a _ (by simp) (by rw[BI];simp) ?_ (by rw[BI];exact e1) ?_
 ·intro j oj _ hl;exfalso
  by_cases hj:j<ops.size
  ·simp[hj]at hl
  ·simp[hj]at hl
 ·exact⟨hr.defers,hr.fr,hr.heap.drew _ _⟩
end
def aaC:Nat→(St→aG)→St→aG
 |0,_,_=>.fail
 |k+1,f,st=>(f st).bind (aaC k f)
def aqT:Nat:=100000
def Ex(P:Program)(m:Hp)(c:Code)(st:St)(r:aG):Prop:=
 ∀ (W:World) (β₀:Env) (R:Exit→St→Prop) (Q:Exit→Act→World→Prop),r.sat R→(∀e a w,nO W m β₀ R e a w→Q e a w)→
  ∀β a w,Rel W m β₀ β st a w→c.wp P Q a w
abbrev df:=List (Nat×(St→aG))
def Cp:df→Nat→Option (St→aG)
 | [],_=>none
 |(i,f)::l,id=>if i=id then some f else Cp l id
def aK(P:Program)(m:Hp)(LT:df):Code→Prop
 | .seq a b| .cond _ a b=>aK P m LT a∧aK P m LT b
 | .block id c=>aK P m LT c∧∀f,Cp LT id=some f→∀st,Ex P m c st (f st)
 | .loop c| .scope c=>aK P m LT c
 |_=>True
theorem aK.nil{P:Program}{m:Hp}:∀c:Code,aK P m [] c:=by
 intro c
 induction c with
 |seq a b iha ihb=>exact⟨iha,ihb⟩
 |cond _ a b iha ihb=>exact⟨iha,ihb⟩
 |block id c ih=>exact⟨ih,fun f h=>by cases h⟩
 |loop c ih=>exact ih
 |scope c ih=>exact ih
 |_=>trivial
def BY:Code→List (Nat×Code)
 | .seq a b| .cond _ a b=>BY a++BY b
 | .block id c=>(id,c)::BY c
 | .loop c| .scope c=>BY c
 |_=> []
theorem aK.of{P:Program}{m:Hp}{LT:df}:∀ {c:Code},(∀id f c',Cp LT id=some f→(id,c')∈BY c→∀st,Ex P m c' st (f st))→aK P m LT c:=by
 intro c
 induction c with
 |seq a b iha ihb=>exact fun h=>⟨iha fun id f c' hf hm=>h id f c' hf (List.mem_append_left _ hm),ihb fun id f c' hf hm=>h id f c' hf (List.mem_append_right _ hm)⟩
 |cond _ a b iha ihb=>exact fun h=>⟨iha fun id f c' hf hm=>h id f c' hf (List.mem_append_left _ hm),ihb fun id f c' hf hm=>h id f c' hf (List.mem_append_right _ hm)⟩
 |block id c ih=>exact fun h=>⟨ih fun id f c' hf hm=>h id f c' hf (List.mem_cons_of_mem _ hm),fun f hf=>h id f c hf (by simp[BY])⟩
 |loop c ih=>exact fun h=>ih h
 |scope c ih=>exact fun h=>ih h
 |_=>exact fun _=>trivial
def exec(P:Program)(G:yH)(A:Alt)(m:Hp)(LT:df):Code→St→aG
 | .skip,st=>.leaf .normal st
 | .seq a b,st=>(exec P G A m LT a st).bind (exec P G A m LT b)
 | .cond c x y,st=>match ev st c with
  | .one (.sc (.bool (.lit true)))=>exec P G A m LT x st
  | .one (.sc (.bool (.lit false)))=>exec P G A m LT y st
  | .one (.sc (.bool (.sym b)))=>A.f b m (exec P G A m LT x st) (exec P G A m LT y st)
  |_=>.fail
 | .block id c,st=>match Cp LT id with
  |some f=>(f st).block id
  |none=>(exec P G A m LT c st).block id
 | .exit id,st=>.leaf (.exit id) st
 | .ret,st=>.leaf .ret st
 | .label _,st=>.leaf .normal st
 | .scope c,st=>(exec P G A m LT c st).scope
 | .loop c,st=>aaC aqT (exec P G A m LT c) st
 | .region _ ops false,st=>iD P G A m false (fun _=>some none) ops ops.toList [] [] st
 | .region _ ops true,st=>if sx ops.toList 0=true then iD P G A m true (xp ops) ops ops.toList [] [] st else .fail
 |_,_=>.fail
def avT(R:Exit→St→Prop)(f:St→aG):Exit→St→Prop
 | .normal,st=>(f st).sat R
 |e,st=>R e st
theorem mj{f:St→aG}{R:Exit→St→Prop}:∀ {r:aG},(r.bind f).sat R→r.sat (avT R f)
 | .leaf .normal _,h=>h
 | .leaf (.exit _) _,h=>h
 | .leaf (.goto _) _,h=>h
 | .leaf .ret _,h=>h
 | .leaf (.panic _) _,h=>h
 | .leaf .outgrown _,h=>h
 | .ite _ _ _,h=>⟨fun e=>mj (h.1 e),fun e=>mj (h.2 e)⟩
 | .need _ _,h=>⟨h.1,mj h.2⟩
 | .fail,h=>h
def Ed(R:Exit→St→Prop)(id:Nat):Exit→St→Prop
 | .exit i,st=>if i=id then R .normal st else R (.exit i) st
 |e,st=>R e st
theorem j8{id:Nat}{R:Exit→St→Prop}:∀ {r:aG},(r.block id).sat R→r.sat (Ed R id)
 | .leaf (.exit i) st,h=>by
  simp only[aG.block]at h;show if i=id then R .normal st else R (.exit i) st
  split at h
  ·rename_i hi;rw[if_pos hi];exact h
  ·rename_i hi;rw[if_neg hi];exact h
 | .leaf .normal _,h=>h
 | .leaf (.goto _) _,h=>h
 | .leaf .ret _,h=>h
 | .leaf (.panic _) _,h=>h
 | .leaf .outgrown _,h=>h
 | .ite _ _ _,h=>⟨fun e=>j8 (h.1 e),fun e=>j8 (h.2 e)⟩
 | .need _ _,h=>⟨h.1,j8 h.2⟩
 | .fail,h=>h
def aBc(R:Exit→St→Prop):Exit→St→Prop
 | .goto _,_=>False
 |e,st=>R e st
theorem pK{R:Exit→St→Prop}:∀ {r:aG},r.scope.sat R→r.sat (aBc R)
 | .leaf .normal _,h=>h
 | .leaf (.exit _) _,h=>h
 | .leaf (.goto _) _,h=>h
 | .leaf .ret _,h=>h
 | .leaf (.panic _) _,h=>h
 | .leaf .outgrown _,h=>h
 | .ite _ _ _,h=>⟨fun e=>pK (h.1 e),fun e=>pK (h.2 e)⟩
 | .need _ _,h=>⟨h.1,pK h.2⟩
 | .fail,h=>h
theorem ajW{P:Program}{G:yH}{A:Alt}(hG:GOk P G)(kO:P.follows .mixedOrders=true){W:World}{m:Hp}{LT:df}{β₀:Env}:
  ∀ (c:Code),aK P m LT c→∀ (st:St) (R:Exit→St→Prop) (Q:Exit→Act→World→Prop),(exec P G A m LT c st).sat R→(∀e a w,nO W m β₀ R e a w→Q e a w)→
   ∀β a w,Rel W m β₀ β st a w→c.wp P Q a w:=by
 intro c
 induction c with
 |skip=>intro hL st R Q h hq β a w hr;exact wp_skip (hq _ _ _ ⟨st,β,h,hr⟩)
 |exit id=>intro hL st R Q h hq β a w hr;exact wp_exit (hq _ _ _ ⟨st,β,h,hr⟩)
 |ret=>intro hL st R Q h hq β a w hr;exact wp_ret (hq _ _ _ ⟨st,β,h,hr⟩)
 |seq x y ihx ihy=>
  intro hL st R Q h hq β a w hr;refine wp_seq (ihx hL.1 st _ _ (mj h) ?_ β a w hr)
  rintro e a w ⟨s,β',h1,h2⟩
  cases e with
  |normal=>exact ihy hL.2 s R Q h1 hq β' a w h2
  |exit _=>exact hq _ _ _ ⟨s,β',h1,h2⟩
  |goto _=>exact hq _ _ _ ⟨s,β',h1,h2⟩
  |ret=>exact hq _ _ _ ⟨s,β',h1,h2⟩
  |panic _=>exact hq _ _ _ ⟨s,β',h1,h2⟩
  |outgrown=>exact hq _ _ _ ⟨s,β',h1,h2⟩
 |cond c x y ihx ihy=>
  intro hL st R Q h hq β a w hr;have hc:=aU hr c;simp only[exec]at h
  split at h
  ·rename_i he;rw[he]at hc;exact wp_cond_true hc (ihx hL.1 st R Q h hq β a w hr)
  ·rename_i he;rw[he]at hc;exact wp_cond_false hc (ihy hL.2 st R Q h hq β a w hr)
  ·rename_i b he;rw[he]at hc
   cases b with
   |true=>
    obtain⟨R',h1,h2⟩:=A.yes (W:=W) (β₀:=β₀) h;exact wp_cond_true hc (ihx hL.1 st R' Q h1 (fun e a w hp=>hq e a w (h2 e a w hp)) β a w hr)
   |false=>
    obtain⟨R',h1,h2⟩:=A.no (W:=W) (β₀:=β₀) h;exact wp_cond_false hc (ihy hL.2 st R' Q h1 (fun e a w hp=>hq e a w (h2 e a w hp)) β a w hr)
  ·exact h.elim
 |block id c ih=>
  intro hL st R Q h hq β a w hr
  have hin:∀Q',(∀e a w,nO W m β₀ (Ed R id) e a w→Q' e a w)→c.wp P Q' a w:=by
   intro Q' hq';simp only[exec]at h
   split at h
   ·rename_i f hf;exact hL.2 f hf st W β₀ _ _ (j8 h) hq' β a w hr
   ·exact ih hL.1 st _ _ (j8 h) hq' β a w hr
  refine wp_block (hin _ ?_)
  rintro e a w ⟨s,β',h1,h2⟩
  cases e with
  |exit i=>
   simp only[Ed]at h1;simp only[Exit.inBlock]
   split at h1
   ·rename_i hi;rw[if_pos hi];exact hq _ _ _ ⟨s,β',h1,h2⟩
   ·rename_i hi;rw[if_neg hi];exact hq _ _ _ ⟨s,β',h1,h2⟩
  |normal=>exact hq _ _ _ ⟨s,β',h1,h2⟩
  |goto _=>exact hq _ _ _ ⟨s,β',h1,h2⟩
  |ret=>exact hq _ _ _ ⟨s,β',h1,h2⟩
  |panic _=>exact hq _ _ _ ⟨s,β',h1,h2⟩
  |outgrown=>exact hq _ _ _ ⟨s,β',h1,h2⟩
 |loop c ih=>
  intro hL st R Q h hq β a w hr
  have key:∀ (n:Nat) (st:St),(aaC n (exec P G A m LT c) st).sat R→∀β a w,Rel W m β₀ β st a w→Code.rounds P c Q n a w:=by
   intro n
   induction n with
   |zero=>intro st h;exact h.elim
   |succ n ihn=>
    intro st h β a w hr;rw[rounds_succ];refine ih hL st _ _ (mj h) ?_ β a w hr
    rintro e a w ⟨s,β',h1,h2⟩
    cases e with
    |normal=>exact ihn s h1 β' a w h2
    |exit _=>exact hq _ _ _ ⟨s,β',h1,h2⟩
    |goto _=>exact hq _ _ _ ⟨s,β',h1,h2⟩
    |ret=>exact hq _ _ _ ⟨s,β',h1,h2⟩
    |panic _=>exact hq _ _ _ ⟨s,β',h1,h2⟩
    |outgrown=>exact hq _ _ _ ⟨s,β',h1,h2⟩
  exact wp_loop_rounds aqT (key aqT st h β a w hr)
 |label l=>intro hL st R Q h hq β a w hr;exact wp_label (hq _ _ _ ⟨st,β,h,hr⟩)
 |scope c ih=>
  intro hL st R Q h hq β a w hr;refine wp_scope_straight (ih hL st _ _ (pK h) ?_ β a w hr)
  rintro e a w ⟨s,β',h1,h2⟩
  cases e with
  |goto _=>exact h1.elim
  |normal=>exact hq _ _ _ ⟨s,β',h1,h2⟩
  |exit _=>exact hq _ _ _ ⟨s,β',h1,h2⟩
  |ret=>exact hq _ _ _ ⟨s,β',h1,h2⟩
  |panic _=>exact hq _ _ _ ⟨s,β',h1,h2⟩
  |outgrown=>exact hq _ _ _ ⟨s,β',h1,h2⟩
 |region id ops d=>
  intro hL st R Q h hq β a w hr
  cases d with
  |false=>exact wp_region_list (yL hG ops.toList [] [] st R (fun _ _ h=>by simp[known]at h) h hq β a w hr)
  |true=>
   simp only[exec]at h
   split at h
   ·rename_i hd;exact yP hG kO hd h hq hr
   ·exact h.elim
 |_=>intro hL st R Q h;exact h.elim
theorem Ex.SA{P:Program}{G:yH}{A:Alt}(hG:GOk P G)(kO:P.follows .mixedOrders=true){m:Hp}{LT:df}{c:Code}(hL:aK P m LT c){st:St}{r:aG}(h:exec P G A m LT c st=r):Ex P m c st r:=
 fun _ _ R Q hs hq β a w hr=>ajW hG kO c hL st R Q (h▸hs) hq β a w hr
theorem Ex.Vy{P:Program}{m:Hp}{c:Code}{st:St}{r r':aG}(h:Ex P m c st r)(hw:∀R,r'.sat R→r.sat R):Ex P m c st r':=
 fun W β₀ R Q hs hq β a w hr=>h W β₀ R Q (hw R hs) hq β a w hr
theorem Ex.bind{P:Program}{m:Hp}{x y:Code}{st:St}{r:aG}{f:St→aG}(h1:Ex P m x st r)(h2:∀s,Ex P m y s (f s)):Ex P m (.seq x y) st (r.bind f):=by
 intro W β₀ R Q hs hq β a w hr;refine wp_seq (h1 W β₀ _ _ (mj hs) ?_ β a w hr)
 rintro e a w ⟨t,β',h3,h4⟩
 cases e with
 |normal=>exact h2 t W β₀ R Q h3 hq β' a w h4
 |exit _=>exact hq _ _ _ ⟨t,β',h3,h4⟩
 |goto _=>exact hq _ _ _ ⟨t,β',h3,h4⟩
 |ret=>exact hq _ _ _ ⟨t,β',h3,h4⟩
 |panic _=>exact hq _ _ _ ⟨t,β',h3,h4⟩
 |outgrown=>exact hq _ _ _ ⟨t,β',h3,h4⟩
def aG.nor(R:St→Prop):aG→Prop:=aG.sat fun e s=>e= .normal→R s
theorem Ex.block{P:Program}{m:Hp}{id:Nat}{c:Code}{st:St}{r:aG}(h:Ex P m c st r):Ex P m (.block id c) st (r.block id):=by
 intro W β₀ R Q hs hq β a w hr;refine wp_block (h W β₀ _ _ (j8 hs) ?_ β a w hr)
 rintro e a w ⟨s,β',h1,h2⟩
 cases e with
 |exit i=>
  simp only[Ed]at h1;simp only[Exit.inBlock]
  split at h1
  ·rename_i hi;rw[if_pos hi];exact hq _ _ _ ⟨s,β',h1,h2⟩
  ·rename_i hi;rw[if_neg hi];exact hq _ _ _ ⟨s,β',h1,h2⟩
 |normal=>exact hq _ _ _ ⟨s,β',h1,h2⟩
 |goto _=>exact hq _ _ _ ⟨s,β',h1,h2⟩
 |ret=>exact hq _ _ _ ⟨s,β',h1,h2⟩
 |panic _=>exact hq _ _ _ ⟨s,β',h1,h2⟩
 |outgrown=>exact hq _ _ _ ⟨s,β',h1,h2⟩
theorem Ex.loop{P:Program}{m:Hp}{c:Code}{X:Type}(μ:X→Nat)(S:X→St)(I:X→Prop)(rnd:X→aG)(h:∀x,I x→Ex P m c (S x) (rnd x)){R:X→Exit→St→Prop}
  (hr:∀x,I x→(rnd x).sat fun e s=>(e= .normal∧∃y,s=S y∧I y∧μ y<μ x∧∀e s,R y e s→R x e s)∨(e≠ .normal∧R x e s)) {x:X} (hx:I x) {r:aG} (hR:∀R',r.sat R'→∀e s,R x e s→R' e s):Ex P m (.loop c) (S x) r:=by
 intro W β₀ R0 Q hs hq β a w aaF
 have key:∀ (n:Nat) (y:X),I y→μ y<n→(∀e s,R y e s→R0 e s)→∀β a w,Rel W m β₀ β (S y) a w→Code.rounds P c Q n a w:=by
  intro n
  induction n with
  |zero=>intro y _ h0;omega
  |succ n ih=>
   intro y hy hn hRy β a w pI;rw[rounds_succ];refine h y hy W β₀ _ _ (hr y hy) ?_ β a w pI
   rintro e a w ⟨t,β',h1,h2⟩
   rcases h1 with⟨rfl,z,rfl,hz,dQ,aaG⟩|⟨gz,h1⟩
   ·exact ih z hz (by omega) (fun e s h=>hRy e s (aaG e s h)) β' a w h2
   ·cases e with
    |normal=>exact absurd rfl gz
    |exit _=>exact hq _ _ _ ⟨t,β',hRy _ _ h1,h2⟩
    |goto _=>exact hq _ _ _ ⟨t,β',hRy _ _ h1,h2⟩
    |ret=>exact hq _ _ _ ⟨t,β',hRy _ _ h1,h2⟩
    |panic _=>exact hq _ _ _ ⟨t,β',hRy _ _ h1,h2⟩
    |outgrown=>exact hq _ _ _ ⟨t,β',hRy _ _ h1,h2⟩
 exact wp_loop_rounds (μ x+1) (key _ x hx (Nat.lt_succ_self _) (fun e s h=>hR R0 hs e s h) β a w aaF)
def u6(P:Program)(st:St):ResultVar→Option VV
 | .tmp t=>match ev st (.tmp t)with
  | .one x=>some x
  |_=>none
 | .cell a t=>match ev st (.tmp a)with
  | .one (.sc (.ptr b off))=>match bn st.hp b with
   |some (.ba cells _)=>eX P t cells off
   |_=>none
  |_=>none
def Iz(P:Program)(fn:Func)(st:St):Option LV:=
 match cN (u6 P st) fn.results.toList with
 |some [x]=>some (.one x)
 |some l=>some (.c6 l)
 |none=>none
def Ee(a:Act):ResultVar→Sem Value
 | .tmp t=>pure (a.tmps.getD t undef)
 | .cell b t=>do loadVar t (← asAddr (a.tmps.getD b undef))
theorem Nf(fn:Func)(a:Act):results fn a.tmps=(do let vs ← fn.results.mapM (Ee a);pure (if h:vs.size=1 then vs[0]else .tuple vs)):=by
 unfold results
 congr 2
theorem Ng{P:Program}{W:World}{aj:Hp}{β₀ β:Env}{st:St}{a:Act}{w:World}(hr:Rel W aj β₀ β st a w){r:ResultVar}{x:VV}(h:u6 P st r=some x):
  ∃v,(Ee a r).run P w= .ok v w∧x.den β (kd st.hp) v:=by
 cases r with
 |tmp t=>
  simp only[u6]at h
  split at h
  ·rename_i y hy;simp at h;subst h;have:=aU hr (.tmp t);rw[hy]at this;exact⟨_,rfl,this⟩
  ·simp at h
 |cell b t=>
  simp only[u6]at h
  split at h
  ·rename_i i off hy
   split at h
   ·rename_i cells elem hb;have:=aU hr (.tmp b);rw[hy]at this;obtain⟨_,e⟩:=this;have e':a.tmps.getD b undef= .pointer (some ⟨β.b i,off,none⟩):=e;obtain⟨c,fz,_,_,h3,h4⟩:=hr.heap.fL (aB hb);obtain⟨v,h5,h6⟩:=jW (P:=P) rfl h4 h3 h;rw[bK,Nat.zero_add]at h5;exact⟨v,by simp[Ee,e',asAddr,h5],h6⟩
   ·simp at h
  ·simp at h
theorem IA{P:Program}{fn:Func}{W:World}{aj:Hp}{β₀ β:Env}{st:St}{a:Act}{w:World}(hr:Rel W aj β₀ β st a w){r:LV}(h:Iz P fn st=some r):
  ∃v,(results fn a.tmps).run P w= .ok v w∧r.den β (kd st.hp) v:=by
 have key:∀ (l:List ResultVar) (xs:List VV),cN (u6 P st) l=some xs→∃vs:List Value,(l.mapM (Ee a)).run P w= .ok vs w∧bF (VV.den β (kd st.hp)) xs vs:=by
  intro l
  induction l with
  |nil=>intro xs h;simp[cN]at h;subst h;exact⟨[],by simp,.nil⟩
  |cons r l ih=>
   intro xs h;simp only[cN]at h
   split at h
   ·rename_i y m' h1 h2;simp at h;subst h;obtain⟨v,e1,e2⟩:=Ng hr h1;obtain⟨vs,e3,e4⟩:=ih _ h2;refine⟨v::vs,?_,.cons e2 e4⟩;simp only[List.mapM_cons,Sem.run_bind];rw[e1];simp only[Result.andThen_ok,Sem.run_pure,e3]
   ·simp at h
 unfold Iz at h
 have eB:∀ (vs:List Value) (xs:List VV),cN (u6 P st) fn.results.toList=some xs→(∀vs:List Value,bF (VV.den β (kd st.hp)) xs vs→∃v,(if h:vs.toArray.size=1 then vs.toArray[0]else .tuple vs.toArray)=v∧r.den β (kd st.hp) v)→
   ∃v,(results fn a.tmps).run P w= .ok v w∧r.den β (kd st.hp) v:=by
  intro _ xs hx hv;obtain⟨vs,e1,e2⟩:=key _ _ hx;obtain⟨v,e3,e4⟩:=hv vs e2;refine⟨v,?_,e4⟩;rw[Nf,Sem.run_bind,Array.mapM_eq_mapM_toList];simp only[Sem.run_map,e1,Result.andThen_ok];rw[← e3];rfl
 split at h
 ·rename_i x hx;simp at h;subst h;refine eB [] [x] hx fun vs hvs=>?_
  cases hvs with
  |cons h1 h2=>
   cases h2
   exact⟨_,rfl,h1⟩
 ·rename_i l gz hl;simp at h;subst h;refine eB [] l hl fun vs hvs=>?_;have hlen:=hvs.length
  have:vs.length≠1:=by
   intro e;rw[e]at hlen;obtain⟨x,hx⟩:=List.length_eq_one_iff.1 hlen;exact gz x hx
  refine⟨_,by rw[dif_neg (by simpa using this)],vs,rfl,hvs⟩
 ·simp at h
theorem bd.self{W:World}{aj:Hp}{β₀ β:Env}{hp:Hp}{w:World}(h:bd W aj β₀ β hp w):bd w hp β β hp w:=
 ⟨h.items,h.inj,bH.refl _ _,fun i x b hi ho=>.inr ⟨x,hi,ho⟩,rfl,rfl,Nat.le_refl _,fun _ _ _=>rfl,h.reads,fun pm v t l b h1 h2=>.inr ⟨pm,v,t,l,id,h1,h2⟩⟩
theorem bd.trans{W:World}{aj:Hp}{β₀ β β':Env}{hp dP:Hp}{w w':World}(h:bd W aj β₀ β hp w)(h':bd w hp β β' dP w'):bd W aj β₀ β' dP w' where
 items:=h'.items
 inj:=h'.inj
 first:=h.first.trans h'.first
 own i x b hi ho:=by
  rcases h'.own i x b hi ho with h1|⟨y,hj,h1⟩
  ·exact .inl (Nat.le_trans h.size h1)
  ·exact h.own i y b hj h1
 os:=h'.os.trans h.os
 output:=h'.output.trans h.output
 size:=Nat.le_trans h.size h'.size
 ak b hb gz:=by
  rw[h'.ak b (by have:=h.size;omega) fun⟨i,x,hi,ho⟩=>?_]
  ·exact h.ak b hb gz
  ·rcases h.own i x b hi ho with h1|⟨y,h1⟩
   ·omega
   ·exact gz ⟨i,y,h1⟩
 reads:=h'.reads
 from_ pm v t l b h1 h2:=by
  rcases h'.from_ pm v t l b h1 h2 with h3|⟨kN,v',t',l',h0,h3,h4⟩
  ·exact .inl (Nat.le_trans h.size h3)
  ·rcases h.from_ kN v' t' l' b h3 h4 with h5|⟨pm2,v2,t2,l2,h6,h7,h8⟩
   ·exact .inl h5
   ·exact .inr ⟨pm2,v2,t2,l2,fun e=>h6 (h0 e),h7,h8⟩
def g8(P:Program)(f:FuncId)(args:List LV)(hp:Hp)(R:LV→Hp→Prop):Prop:=
 ∀ (β:Env) (w:World) (vals:List Value),bd w hp β β hp w→bF (LV.den β (kd hp)) args vals→
  Calls P f vals.toArray w fun e w'=>∃val β' r dP,e= .returned val∧R r dP∧r.den β' (kd dP) val∧bd w hp β β' dP w'
def entry(fn:Func)(args:List LV)(hp:Hp):St:=⟨args++List.replicate (fn.ntmps-args.length) (.c6 []),hp⟩
inductive End where
 |leaf (v:LV) (hp:Hp)
 |ite (b:Bool) (x y:End)
 |need (p:Prop) (x:End)
 |fail
def End.sat(R:LV→Hp→Prop):End→Prop
 | .leaf v hp=>R v hp
 | .ite b x y=>(b=true→x.sat R)∧(b=false→y.sat R)
 | .need p x=>p∧x.sat R
 | .fail=>False
def aG.ends(P:Program)(fn:Func):aG→End
 | .leaf .normal st| .leaf .ret st=>match Iz P fn st with
  |some v=>.leaf v st.hp
  |none=>.fail
 | .leaf _ _=>.fail
 | .ite b x y=>.ite b (x.ends P fn) (y.ends P fn)
 | .need p x=>.need p (x.ends P fn)
 | .fail=>.fail
theorem sA{P:Program}{fn:Func}{R:LV→Hp→Prop}:∀ {r:aG},(r.ends P fn).sat R→r.sat fun e st=>(e= .normal∨e= .ret)∧∃v,Iz P fn st=some v∧R v st.hp
 | .leaf e st,h=>by
  cases e with
  |normal=>
   simp only[aG.ends]at h
   split at h
   ·rename_i v hv;exact⟨.inl rfl,v,hv,h⟩
   ·exact h.elim
  |ret=>
   simp only[aG.ends]at h
   split at h
   ·rename_i v hv;exact⟨.inr rfl,v,hv,h⟩
   ·exact h.elim
  |exit _=>exact h.elim
  |goto _=>exact h.elim
  |panic _=>exact h.elim
  |outgrown=>exact h.elim
 | .ite b x y,h=>⟨fun e=>sA (h.1 e),fun e=>sA (h.2 e)⟩
 | .need p x,h=>⟨h.1,sA h.2⟩
 | .fail,h=>h
def iO(P:Program)(f:FuncId)(args:List LV)(hp:Hp)(t:End):Prop:=∀R,t.sat R→g8 P f args hp R
theorem Nh{P:Program}{f:FuncId}{fn:Func}{c:Code}(hf:P.funcs[f]? =some fn)(hb:fn.body=some c){args:List LV}{hp:Hp}{r:aG}(hx:Ex P hp c (entry fn args hp) r):iO P f args hp (r.ends P fn):=by
 intro R h β w vals hh eE;refine calls_of_wp hf hb ?_
 have aaF:Rel w hp β β (entry fn args hp) {tmps:=vals.toArray++Array.replicate (fn.ntmps-vals.toArray.size) undef,defers:= []} w:=by
  refine⟨rfl,?_,hh⟩;show bF _ (args++List.replicate (fn.ntmps-args.length) (.c6 [])) (vals.toArray++Array.replicate (fn.ntmps-vals.toArray.size) undef).toList;have hl:=eE.length
  have e:(vals.toArray++Array.replicate (fn.ntmps-vals.toArray.size) undef).toList=vals++List.replicate (fn.ntmps-args.length) undef:=by
   simp[hl]
  rw[e];refine eE.append ?_;generalize fn.ntmps-args.length=k
  induction k with
  |zero=>exact .nil
  |succ k ih=>exact .cons ⟨[],rfl,.nil⟩ ih
 refine hx _ _ _ _ (sA h) ?_ β _ w aaF
 have key:∀ (a:Act) (w':World) (st:St) (β':Env) (x:LV),Iz P fn st=some x→R x st.hp→Rel w hp β β' st a w'→
   a.defers= []∧∃v,(results fn a.tmps).run P w'= .ok v w'∧(∃val β' r dP,Ending.returned v= .returned val∧R r dP∧r.den β' (kd dP) val∧bd w hp β β' dP w'):=by
  intro a w' st β' x ajX hR hr;obtain⟨v,h1,h2⟩:=IA hr ajX;exact⟨hr.defers,v,h1,v,β',x,st.hp,rfl,hR,h2,hr.heap⟩
 rintro e a w' ⟨st,β',⟨he,x,ajX,hR⟩,hr⟩
 rcases he with rfl|rfl
 ·exact key a w' st β' x ajX hR hr
 ·exact key a w' st β' x ajX hR hr
def u7(P:Program)(f:FuncId):Prop:=∀ (as:Array Value) (w:World),(callFunc f as).run P w= .ok (.enter f as) w
end Go.Ev
end
