/- What the laws lean on, part 4: a reader of code, plain facts, and what each function gives; no conditions. -/
import Derived.LoopN
import Derived.Orders
import Derived.Scope
import Derived.Test.YtnbkagglkajbkaaGreatB3
set_option linter.unusedVariables false
set_option linter.unusedSimpArgs false
noncomputable section
namespace Go.Ev
open Go
open Go.IntKind (bits i64 signed u16 u64 wrap)
noncomputable section
variable {P:Program} {W:World} {ai:Hp} {β₀ β:Env} {w:World} {st:St} {a:Act}
def ap2(P:Program)(W:World)(ai:Hp)(β₀ β:Env)(st:St)(w:World)(s:Sem Next)(v:LV)(d:List (Nat×Item)):Prop:=
 ∃ (β':Env) (w':World) (val:Value),s.run P w= .ok (.value val) w'∧v.den β' (kd (aF d st.hp)) val∧a9 W ai β₀ β' (aF d st.hp) w'∧bM β β' (kd st.hp) (kd (aF d st.hp))
theorem amu(hr:Rel W ai β₀ β st a w){t ty:TypeId}{x:SV}{n:SI}{v:Value}(hl:(amp P t x).val st.hp=some n)(hd:x.den β (kd st.hp) v):(Builtin.len_ #[t] ty #[v]).run P w= .ok (.int .i64 n.val) w:=by
 have hs:∀ {e:TypeId} {b:Option Addr} {k c:Nat},dU P t=some e→(Builtin.len_ #[t] ty #[.slice b k c]).run P w= .ok (goInt k) w:=fun he=>by
  have hu:=dJ he;simp[Builtin.len_,run_underlying hu]
 have ap3:∀ {s:ByteArray},P.underlying t=some .string→(Builtin.len_ #[t] ty #[.string s]).run P w= .ok (goInt s.size) w:=fun hu=>by
  simp[Builtin.len_,run_underlying hu]
 have ap4:∀ {α:Type} {x y:α},(if P.underlying t matches some .string then some x else none)=some y→P.underlying t=some .string∧x=y:=by
  intro α x y h
  split at h
  ·rename_i hm;refine⟨?_,by simpa using h⟩
   revert hm
   cases hu:P.underlying t with
   |none=>simp
   |some d=>cases d<;>simp
  ·cases h
 unfold amp at hl
 split at hl
 ·simp only[Ask.val]at hl;obtain⟨e,he,rfl⟩:=map_some hl;obtain⟨_,rfl⟩:=hd;exact hs he
 ·simp only[Ask.val]at hl;obtain⟨e,he,rfl⟩:=map_some hl;obtain⟨_,rfl⟩:=hd;exact hs he
 ·simp only[Ask.val]at hl;obtain⟨hu,rfl⟩:=ap4 hl;have e:v= .string _:=hd;rw[e,ap3 hu,rT];rfl
 ·simp only[Ask.val]at hl;obtain⟨hu,rfl⟩:=ap4 hl;obtain⟨_,rfl⟩:=hd;exact ap3 hu
 ·split at hl
  ·rename_i e he;rw[Ask.cM]at hl;obtain⟨⟨pm,vR,l⟩,hc,rfl⟩:=map_some hl;obtain⟨b,c,rfl⟩:=(kE hr.heap hc hd).len;exact hs he
  ·simp[Ask.val]at hl
theorem wc{f:Int→Int→Int}{g:Value→Value→Sem Value}{k:IntKind}(hg:∀x y:Int,(g (.int k x) (.int k y)).run P w= .ok (.int k (f x y)) w){β:Env}{L:Nat→Option Kd}:
  ∀ (l:List SV) (vs:List Value) (x n:SI),bP (SV.den β L) l vs→wa f k x l=some n→(vs.foldlM g (.int k x.val)).run P w= .ok (.int k n.val) w
 | [],vs,x,n,hd,h=>by
  cases hd
  simp[wa]at h;subst h;simp
 | .int k' y::l,_,x,n,.cons (b:=b) (m:=vs) h1 h2,h=>by
  simp only[wa]at h
  split at h
  ·rename_i hk;subst hk;have e:b= .int k' y.val:=h1;subst e;simp only[List.foldlM_cons,Sem.run_bind,hg,Result.andThen_ok];have:=wc hg l vs _ n h2 h;rw[map2_val]at this;exact this
  ·cases h
theorem zF{β:Env}{L:Nat→Option Kd}:∀ {xs:List LV} {ss:List SV} {vs:List Value},cX ji xs=some ss→bP (LV.den β L) xs vs→bP (SV.den β L) ss vs
 | [],_,_,h,hd=>by simp[cX]at h;subst h;cases hd;exact .nil
 |x::xs,ss,_,h,.cons h1 h2=>by
  simp only[cX]at h
  split at h
  ·rename_i s m hs hm;simp at h;subst h;exact .cons (ba hs h1) (zF hm h2)
  ·cases h
theorem Uw(hr:Rel W ai β₀ β st a w){id:Nat}{t u ty_:TypeId}{s x:SV}{q:Option Prop}{v:LV}{d:List (Nat×Item)}(h:(Yv P id t u s x).val st.hp=some (q,v,d))(hq:eZ q)(oE:(∃x,(id,x)∈d)→kd st.hp id=none)
  {sv xv:Value} (hs0:s.den β (kd st.hp) sv) (ti:x.den β (kd st.hp) xv):
  ∃ (β':Env) (w':World) (val:Value),(Builtin.append_ #[t,u] ty_ #[sv,xv]).run P w= .ok val w'∧v.den β' (kd (aF d st.hp)) val∧a9 W ai β₀ β' (aF d st.hp) w'∧bM β β' (kd st.hp) (kd (aF d st.hp)):=by
 unfold Yv at h
 split at h
 ·simp[Ask.val]at h
 rename_i el j3
 split at h
 rotate_left
 ·simp[Ask.val]at h
 rename_i ty sz z rD hty hs hz L9
 split at h
 rotate_left
 ·simp[Ask.val]at h
 rename_i kN;obtain⟨rfl,iT,Yo⟩:=kN;rw[Ask.dZ]at h
 split at h
 rotate_left
 ·simp[Ask.val]at h
 rename_i pm m hc
 split at h
 rotate_left
 ·simp[Ask.val]at h
 rename_i hf;obtain⟨news,CD,lM⟩:=Yw hr.heap hc hf ti
 split at h
 ·simp only[Ask.val]at h
  cases h
  have Yp:=oE ⟨_,by simp;rfl⟩;obtain⟨_,rfl⟩:=hs0;have Yk:m.length*rD≤70368744177664∧m.length≤70368744177664:=hq;have zG:dt β w (.slice none 0 0) ty []:=⟨none,0,0,rfl,rfl,Nat.le_refl _,fun _=>rfl,fun h=>absurd h (by omega)⟩;obtain⟨v',w',h1,h2,h3,h4,h5,h6,h7⟩:=zD (ty_:=ty_) j3 hs iT hz Yo L9 zG CD lM (by simpa using Yk.1) (by simpa using Yk.2);rw[List.nil_append]at h2;obtain⟨β',k1,k2,k3⟩:=hr.heap.rY Yp (ver:=0) h3 h4 h5 (fun b hb=>h6 b hb (by rintro⟨_,_,_,e,_⟩;simp at e)) h2 (fun a n c e h0=>(h7 a n c e h0).resolve_left (by rintro⟨_,_,e,_⟩;simp at e));refine⟨β',w',v',h1,⟨?_,0,?_,Nat.le_refl _,fun _=>k3.symm⟩,k1,k2⟩
  ·obtain⟨_,_,_,rfl,_⟩:=h2;rfl
  ·show kd (setAt st.hp id _) id=_;rw[dk,if_pos rfl];rfl
 ·rename_i i ver;simp only[Ask.val]at h
  split at h
  ·rename_i ver' vR l hi
   split at h
   ·rename_i e;subst e
    split at h
    ·rename_i e;subst e
     cases h
     obtain⟨oN,hh⟩:=hr.heap.o6 (p:=fun v=>sv=v) (aw hi) hs0.2;have Yk:(l.length+m.length)*rD≤70368744177664∧l.length+m.length≤70368744177664:=hq;obtain⟨v',w',h1,h2,h3,h4,h5,h6,h7⟩:=zD (ty_:=ty_) j3 hs iT hz Yo L9 oN CD lM Yk.1 Yk.2
     obtain⟨β',k1,k2,k3⟩:=hr.heap.v8 (aw hi) (ver':=ver+1) (l':=l++m) (v:=v') (w':=w') (.inl (Nat.lt_succ_self _)) h3 h4 h5 (fun b hb tm=>h6 b hb tm) h2
      (fun a n c e h0=>(h7 a n c e h0).imp (fun⟨n',c',e',h'⟩=>⟨a,n',c',e',h',rfl⟩) fun h=>h)
     refine⟨β',w',v',by rw[hh];exact h1,⟨?_,ver+1,?_,Nat.le_refl _,fun _=>k3.symm⟩,k1,k2⟩
     ·obtain⟨_,_,_,rfl,_⟩:=h2;rfl
     ·show kd (setAt st.hp i _) i=_;rw[dk,if_pos rfl];rfl
    ·cases h
   ·cases h
  ·cases h
 ·simp[Ask.val]at h
theorem agr(hr:Rel W ai β₀ β st a w){id:Nat}{t u ty_:TypeId}{s:SV}{k:IntKind}{n:Int}{q:Option Prop}{v:LV}{d:List (Nat×Item)}(h:(Mw P id t u s n).val st.hp=some (q,v,d))(hq:eZ q)(oE:(∃x,(id,x)∈d)→kd st.hp id=none)
  {sv:Value} (hs0:s.den β (kd st.hp) sv):
  ∃ (β':Env) (w':World) (val:Value),(Builtin.append_ #[t,u] ty_ #[sv,.int k n]).run P w= .ok val w'∧v.den β' (kd (aF d st.hp)) val∧a9 W ai β₀ β' (aF d st.hp) w'∧bM β β' (kd st.hp) (kd (aF d st.hp)):=by
 unfold Mw at h
 split at h
 rotate_left
 ·simp[Ask.val]at h
 rename_i el kn j3 hku
 split at h
 rotate_left
 ·simp[Ask.val]at h
 rename_i ty sz z rD hty hs hz L9
 split at h
 rotate_left
 ·simp[Ask.val]at h
 rename_i kN;obtain⟨rfl,iT,Yo⟩:=kN
 split at h
 rotate_left
 ·simp[Ask.val]at h
 rename_i z0 hz0
 split at h
 ·simp only[Ask.val]at h
  cases h
  have Yp:=oE ⟨_,by simp;rfl⟩;obtain⟨_,rfl⟩:=hs0;obtain⟨CA,hq1,hq2⟩:0≤n∧n.toNat*rD≤70368744177664∧n.toNat≤70368744177664:=hq;obtain⟨m,rfl⟩:=Int.eq_ofNat_of_zero_le CA;simp only[Int.toNat_natCast]at hq1 hq2 ⊢;have zG:dt β w (.slice none 0 0) ty []:=⟨none,0,0,rfl,rfl,Nat.le_refl _,fun _=>rfl,fun h=>absurd h (by omega)⟩;obtain⟨v',w',h1,h2,h3,h4,h5,h6,h7⟩:=tq (ty_:=ty_) (kq:=k) j3 hs iT hz Yo L9 zG hku hz0 m (by simpa using hq1) (by simpa using hq2);rw[List.nil_append]at h2;obtain⟨β',k1,k2,k3⟩:=hr.heap.rY Yp (ver:=0) h3 h4 h5 (fun b hb=>h6 b hb (by rintro⟨_,_,_,e,_⟩;simp at e)) h2 (fun a n c e h0=>(h7 a n c e h0).resolve_left (by rintro⟨_,_,e,_⟩;simp at e));refine⟨β',w',v',h1,⟨?_,0,?_,Nat.le_refl _,fun _=>k3.symm⟩,k1,k2⟩
  ·obtain⟨_,_,_,rfl,_⟩:=h2;rfl
  ·show kd (setAt st.hp id _) id=_;rw[dk,if_pos rfl];rfl
 ·rename_i i ver;simp only[Ask.val]at h
  split at h
  ·rename_i ver' vR l hi
   split at h
   ·rename_i e;subst e
    split at h
    ·rename_i e;subst e
     cases h
     obtain⟨oN,hh⟩:=hr.heap.o6 (p:=fun v=>sv=v) (aw hi) hs0.2;obtain⟨CA,hq1,hq2⟩:0≤n∧(l.length+n.toNat)*rD≤70368744177664∧l.length+n.toNat≤70368744177664:=hq;obtain⟨m,rfl⟩:=Int.eq_ofNat_of_zero_le CA;simp only[Int.toNat_natCast]at hq1 hq2 ⊢;obtain⟨v',w',h1,h2,h3,h4,h5,h6,h7⟩:=tq (ty_:=ty_) (kq:=k) j3 hs iT hz Yo L9 oN hku hz0 m hq1 hq2
     obtain⟨β',k1,k2,k3⟩:=hr.heap.v8 (aw hi) (ver':=ver+1) (l':=l++List.replicate m z0) (v:=v') (w':=w') (.inl (Nat.lt_succ_self _)) h3 h4 h5 (fun b hb tm=>h6 b hb tm) h2
      (fun a n c e h0=>(h7 a n c e h0).imp (fun⟨n',c',e',h'⟩=>⟨a,n',c',e',h',rfl⟩) fun h=>h)
     refine⟨β',w',v',by rw[hh];exact h1,⟨?_,ver+1,?_,Nat.le_refl _,fun _=>k3.symm⟩,k1,k2⟩
     ·obtain⟨_,_,_,rfl,_⟩:=h2;rfl
     ·show kd (setAt st.hp i _) i=_;rw[dk,if_pos rfl];rfl
    ·cases h
   ·cases h
  ·cases h
 ·simp[Ask.val]at h
theorem ap7(hr:Rel W ai β₀ β st a w){id:Nat}{b:Builtin}{ts:List TypeId}{xs:List LV}{vs:List Value}{q:Option Prop}{v:LV}{d:List (Nat×Item)}
  (h:(agm P id b ts xs).val st.hp=some (q,v,d)) (hq:eZ q) (oE:(∃x,(id,x)∈d)→kd st.hp id=none) (hd:bP (LV.den β (kd st.hp)) xs vs) (ty:TypeId) (cs:Array Bool):
  ap2 P W ai β₀ β st w (builtin b ts.toArray ty cs vs.toArray) v d:=by
 have Yy:∀ {s:Sem Value} {val:Value} {x:SV},s.run P w= .ok val w→x.den β (kd st.hp) val→ap2 P W ai β₀ β st w (do pure (.value (← s))) (.one (.sc x)) []:=by
  intro s val x h1 h2;exact⟨β,w,val,by rw[Sem.run_bind,h1];rfl,h2,hr.heap,bM.refl _ _⟩
 unfold agm at h
 split at h
 ·rename_i t x
  split at h
  ·rename_i s hs;rw[Ask.cM]at h;obtain⟨n,hn,he⟩:=map_some h
   cases he
   cases hd with
   |cons h1 h2=>
    cases h2
    exact Yy (amu hr hn (ba hs h1)) rfl
  ·simp[Ask.val]at h
 ·rename_i t u s x
  split at h
  ·rename_i s' k n hs hx
   cases hd with
   |cons h1 h2=>
    cases h2 with
    |cons h2 h3=>
     cases h3
     have e:=ba hx h2;simp only[SV.den]at e;subst e;obtain⟨β',w',val,k1,k2,k3,k4⟩:=agr (ty_:=ty) (k:=k) hr h hq oE (ba hs h1);exact⟨β',w',val,by show(do pure (Next.value (← Builtin.append_ #[t,u] ty _)):Sem Next).run P w=_;rw[Sem.run_bind,k1];rfl,k2,k3,k4⟩
  ·rename_i s' x' _ hs hx
   cases hd with
   |cons h1 h2=>
    cases h2 with
    |cons h2 h3=>
     cases h3
     obtain⟨β',w',val,k1,k2,k3,k4⟩:=Uw (ty_:=ty) hr h hq oE (ba hs h1) (ba hx h2);exact⟨β',w',val,by show(do pure (Next.value (← Builtin.append_ #[t,u] ty _)):Sem Next).run P w=_;rw[Sem.run_bind,k1];rfl,k2,k3,k4⟩
  ·simp[Ask.val]at h
 ·rename_i t u s x
  split at h
  ·rename_i s' x' hs hx
   cases hd with
   |cons h1 h2=>
    cases h2 with
    |cons h2 h3=>
     cases h3
     obtain⟨β',w',val,k1,k2,k3,k4⟩:=agq (ty_:=ty) hr h (ba hs h1) (ba hx h2);exact⟨β',w',val,by show(do pure (Next.value (← Builtin.copy_ #[t,u] ty _)):Sem Next).run P w=_;rw[Sem.run_bind,k1];rfl,k2,k3,k4⟩
  ·simp[Ask.val]at h
 ·rename_i x l;simp only[Ask.val]at h
  split at h
  ·rename_i k x0 l0 hx hl;obtain⟨n,hn,he⟩:=map_some h
   cases he
   cases hd with
   |cons h1 h2=>
    rename_i v0 vs0;have e:v0= .int k x0.val:=ba hx h1;subst e;have:=wc (P:=P) (w:=w) (f:=Yt) (g:=Builtin.min2) (k:=k) (fun x y=>by simp[Builtin.min2,Yt]) l0 vs0 x0 n (zF hl h2) hn;refine Yy (s:=Builtin.min_ ts.toArray ty (Value.int k x0.val::vs0).toArray) (val:=.int k n.val) ?_ rfl;simp only[Builtin.min_];exact this
  ·cases h
 ·rename_i x l;simp only[Ask.val]at h
  split at h
  ·rename_i k x0 l0 hx hl;obtain⟨n,hn,he⟩:=map_some h
   cases he
   cases hd with
   |cons h1 h2=>
    rename_i v0 vs0;have e:v0= .int k x0.val:=ba hx h1;subst e;have:=wc (P:=P) (w:=w) (f:=Yu) (g:=Builtin.max2) (k:=k) (fun x y=>by simp[Builtin.max2,Yu]) l0 vs0 x0 n (zF hl h2) hn;refine Yy (s:=Builtin.max_ ts.toArray ty (Value.int k x0.val::vs0).toArray) (val:=.int k n.val) ?_ rfl;simp only[Builtin.max_];exact this
  ·cases h
 ·simp[Ask.val]at h
end
inductive Out where
 |leaf (q:Option Prop) (v:LV) (d:List (Nat×Item))
 |ite (b:Bool) (x y:Out)
 |fail
def Out.of:Stp→Out
 |some (q,v,d)=>.leaf q v d
 |none=>.fail
def Out.holds(Q:LV→List (Nat×Item)→Prop):Out→Prop
 | .leaf q v d=>eZ q∧Q v d
 | .ite b x y=>(b=true→x.holds Q)∧(b=false→y.holds Q)
 | .fail=>False
def Rg(id:Nat)(hp:Hp)(d:List (Nat×Item)):Prop:=∀j x,(j,x)∈d→id≤j→kd hp j=none
def Out.fresh(id:Nat)(hp:Hp):Out→Prop
 | .leaf _ _ d=>Rg id hp d
 | .ite _ x y=>x.fresh id hp∧y.fresh id hp
 | .fail=>True
structure zH where
 run:FuncId→Nat→List LV→Ask Out
def Ux(P:Program)(f:FuncId)(vals:Array Value)(w:World)(Q:Ending→World→Prop):Prop:=
 (∃val,(callFunc f vals).run P w= .ok (.value val) w∧Q (.returned val) w)∨
  ((∀ (as:Array Value) (w:World),(callFunc f as).run P w= .ok (.enter f as) w)∧Calls P f vals w Q)
theorem Ux.mono{P:Program}{f:FuncId}{vals:Array Value}{w:World}{Q Q':Ending→World→Prop}(h:Ux P f vals w Q)(hq:∀e w',Q e w'→Q' e w'):Ux P f vals w Q':=
 h.imp (fun⟨v,h1,h2⟩=>⟨v,h1,hq _ _ h2⟩) fun⟨h1,h2⟩=>⟨h1,h2.mono hq⟩
structure GOk (P:Program) (G:zH):Prop where
 calls:∀f id args hp,((G.run f id args).val hp).fresh id hp→∀Q,((G.run f id args).val hp).holds Q→
  ∀ (W:World) (ai:Hp) (β₀ β:Env) (w:World) (vals:List Value),a9 W ai β₀ β hp w→bP (LV.den β (kd hp)) args vals→
   Ux P f vals.toArray w fun e w'=>∃v d val β',Q v d∧e= .returned val∧v.den β' (kd (aF d hp)) val∧a9 W ai β₀ β' (aF d hp) w'∧bM β β' (kd hp) (kd (aF d hp))
def put(st:St)(dst:Option Tmp)(v:LV)(hp:Hp):St:=
 match dst with
 |some d=>⟨st.fr.set d v,hp⟩
 |none=>⟨st.fr,hp⟩
theorem Rel.put{W:World}{ai:Hp}{β₀ β β':Env}{st:St}{a:Act}{w w':World}(h:Rel W ai β₀ β st a w){dst:Option Tmp}{v:LV}{val:Value}{hp:Hp}
  (hv:v.den β' (kd hp) val) (hh:a9 W ai β₀ β' hp w') (ha:bM β β' (kd st.hp) (kd hp)):
  Rel W ai β₀ β' (put st dst v hp) (a.put dst val) w':=by
 have hfr:bP (LV.den β' (kd hp)) st.fr a.tmps.toList:=h.fr.imp fun _ _=>LV.eM ha
 cases dst with
 |none=>exact⟨h.defers,hfr,hh⟩
 |some d=>exact⟨h.defers,by
   show bP (LV.den β' (kd hp)) (st.fr.set d v) (a.tmps.setIfInBounds d val).toList;rw[Array.toList_setIfInBounds];exact hfr.set d hv,hh⟩
def Ij:LV→Option FuncId
 | .one (.sc (.g9 (.func (.func f) fs cs)))=>if fs.isEmpty&&cs.isEmpty then some f else none
 |_=>none
def tu(P:Program)(G:zH)(id:Nat)(e:Operand→LV)(op:Op):Ask Out:=
 match op with
 | .call c=>match c.callee with
  | .builtin b=>(agm P id b c.argTypes.toList (c.args.toList.map e)).map Out.of
  | .value f=>match Ij (e f)with
   |some f=>G.run f id (c.args.toList.map e)
   |none=>.ret .fail
  |_=>.ret .fail
 |op=>(fS P id e op).map Out.of
def il(P:Program)(G:zH)(h:Option Bool)(id:Nat)(e:Operand→LV)(op:Op):Ask Out:=
 match h,op with
 |some v,.pick c x y=>match e c with
  | .one (.sc (.bool t))=>.ret (.leaf (some (t.val=v)) (if v then e x else e y) [])
  |_=>.ret .fail
 |_,op=>tu P G id e op
theorem Yz{P:Program}{G:zH}(hG:GOk P G){id:Nat}{st:St}{o:Oper}(hf:((tu P G id (ev st) o.op).val st.hp).fresh id st.hp){K:LV→List (Nat×Item)→Prop}(h:((tu P G id (ev st) o.op).val st.hp).holds K)
  {W:World} {ai:Hp} {β₀ β:Env} {a:Act} {w:World} (hr:Rel W ai β₀ β st a w) {next:Act→World→Prop} {Q:Exit→Act→World→Prop}
  (hn:∀v d β' a' w',K v d→Rel W ai β₀ β' (put st o.dst v (aF d st.hp)) a' w'→next a' w'):o.wp P a w next Q:=by
 unfold tu at h hf
 split at h
 ·rename_i c hc;have dM:bP (LV.den β (kd st.hp)) (c.args.toList.map (ev st)) (c.args.toList.map a.eval):=bP.of_map _ _ _ fun x _=>aM hr x;have e2:(c.args.toList.map a.eval).toArray=c.args.map a.eval:=by rw[← Array.toList_map,Array.toArray_toList]
  simp only[hc]at hf
  split at h
  ·rename_i b hb;simp only[hb]at hf;rw[Ask.cM]at h hf
   cases hs:(agm P id b c.argTypes.toList (c.args.toList.map (ev st))).val st.hp with
   |none=>rw[hs]at h;exact h.elim
   |some r=>
    obtain⟨q,v,d⟩:=r;rw[hs]at h hf;obtain⟨hq,hk⟩:=h;obtain⟨β',w',val,h1,h2,h3,h4⟩:=ap7 hr hs hq (fun⟨x,hx⟩=>hf id x hx (Nat.le_refl _)) dM o.type (c.args.map fun| .const _=>true|_=>false);rw[e2,Array.toArray_toList]at h1
    have dL:(execOp a.eval o).run P w= .ok (.value val) w':=by
     simp only[execOp,hc,resolve,hb,Sem.run_bind,Sem.run_pure,Result.andThen_ok,invoke];exact h1
    unfold Oper.wp;rw[dL];exact hn v d β' _ w' hk (hr.put (dst:=o.dst) h2 h3 h4)
  ·rename_i x hx;simp only[hx]at hf
   split at h
   ·rename_i f hfn;simp only[hfn]at hf;have ap8:=hG.calls f id _ _ hf K h W ai β₀ β w _ hr.heap dM;unfold Ij at hfn
    split at hfn
    ·rename_i g fs cs Mn
     split at hfn
     ·rename_i ap9;simp at hfn;subst hfn;have hd:=aM hr x;rw[Mn]at hd;have e:a.eval x= .func (.func g) fs cs:=hd.2;simp at ap9;obtain⟨rfl,rfl⟩:=ap9;unfold Oper.wp;rcases ap8 with⟨val,h1,v,d,ayp,β',hk,he,h3,h4,h5⟩|⟨h1,h2⟩
      ·have dL:(execOp a.eval o).run P w= .ok (.value val) w:=by
        rw[e2]at h1;simp only[execOp,hc,resolve,hx,e,Deferred.ofValue,Sem.run_bind,Sem.run_pure,Result.andThen_ok,invoke,Array.append_empty,Array.empty_append];exact h1
       rw[dL]
       cases he
       exact hn v d β' _ w hk (hr.put (dst:=o.dst) h3 h4 h5)
      ·have dL:(execOp a.eval o).run P w= .ok (.enter g (c.args.toList.map a.eval).toArray) w:=by
        simp only[execOp,hc,resolve,hx,e,Deferred.ofValue,Sem.run_bind,Sem.run_pure,Result.andThen_ok,invoke,h1,e2];simp
       rw[dL];refine h2.mono ?_
       rintro e w' ⟨v,d,val,β',hk,rfl,h3,h4,h5⟩
       exact hn v d β' _ w' hk (hr.put (dst:=o.dst) h3 h4 h5)
     ·cases hfn
    ·cases hfn
   ·exact h.elim
  ·exact h.elim
 ·rename_i tm
  have YA:((fS P id (ev st) o.op).map Out.of).val st.hp |>.fresh id st.hp:=by
   split at hf
   ·rename_i c hc;exact absurd hc (tm c)
   ·exact hf
  rw[Ask.cM]at h YA
  cases hs:(fS P id (ev st) o.op).val st.hp with
  |none=>rw[hs]at h;exact h.elim
  |some r=>
   obtain⟨q,v,d⟩:=r;rw[hs]at h YA;obtain⟨hq,hk⟩:=h;obtain⟨β',w',r,val,h1,h2,h3,h4,h5⟩:=agk hs (fun⟨x,hx⟩=>YA id x hx (Nat.le_refl _)) hq W ai β₀ β a w hr;have:=hn v d β' _ w' hk (hr.put (dst:=o.dst) h3 h4 h5);unfold Oper.wp;rw[h1];rcases h2 with rfl|⟨rfl,rfl⟩
   ·exact this
   ·exact this
theorem Ik{P:Program}{G:zH}(hG:GOk P G){g:Option Bool}{id:Nat}{st:St}{o:Oper}(hf:((il P G g id (ev st) o.op).val st.hp).fresh id st.hp){K:LV→List (Nat×Item)→Prop}(h:((il P G g id (ev st) o.op).val st.hp).holds K)
  {W:World} {ai:Hp} {β₀ β:Env} {a:Act} {w:World} (hr:Rel W ai β₀ β st a w) {next:Act→World→Prop} {Q:Exit→Act→World→Prop}
  (hn:∀v d β' a' w',K v d→Rel W ai β₀ β' (put st o.dst v (aF d st.hp)) a' w'→next a' w'):o.wp P a w next Q:=by
 unfold il at h hf
 split at h
 ·rename_i b c x y ho
  split at h
  ·rename_i t ht;obtain⟨hq,hk⟩:=h;have htb:t.val=b:=hq;have hc:=aM hr c;rw[ht]at hc;have e:a.eval c= .bool t.val:=hc
   have dL:(execOp a.eval o).run P w= .ok (.value (if b then a.eval x else a.eval y)) w:=by
    simp[execOp,ho,e,asBool,htb]
   unfold Oper.wp;rw[dL];refine hn _ _ β _ w hk (hr.put (dst:=o.dst) (hp:=st.hp) ?_ hr.heap (bM.refl _ _))
   cases b
   ·exact aM hr y
   ·exact aM hr x
  ·exact h.elim
 ·rename_i tm
  have YA:((tu P G id (ev st) o.op).val st.hp).fresh id st.hp:=by
   split at hf
   ·rename_i b c x y ho;exact absurd ho (tm b c x y rfl)
   ·exact hf
  exact Yz hG YA h hr hn
def dN(st:St)(ops:Array Oper)(o:Oper):Option SB:=
 match o.guard with
 |none=>some (.lit true)
 |some (j,want)=>match(ops[j]?).bind (·.dst)with
  |none=>some (.lit false)
  |some d=>match st.fr[d]? with
   |some (.one (.sc (.bool (.lit b))))=>some (.lit (b==want))
   |some (.one (.sc (.bool (.sym b))))=>some (.sym (b==want))
   |some (.cT _)=>some (.lit false)
   |some (.one (.sc (.int _ _)))=>some (.lit false)
   |none=>some (.lit false)
   |_=>none
theorem xG{W:World}{ai:Hp}{β₀ β:Env}{st:St}{a:Act}{w:World}(h:Rel W ai β₀ β st a w){ops:Array Oper}{o:Oper}{b:SB}
  (hb:dN st ops o=some b):Region.wanted o (yielded ops a.tmps)=b.val:=by
 unfold dN at hb;unfold Region.wanted
 split at hb
 ·rename_i hg;simp at hb;subst hb;simp[hg,SB.val]
 ·rename_i j want hg;simp only[hg];unfold yielded
  split at hb
  ·rename_i hd;simp at hb;subst hb;simp[hd,SB.val]
  ·rename_i d hd;simp only[hd,Option.bind_some];have hlen:=h.fr.length
   split at hb
   ·rename_i x hx;obtain⟨v,hv,My⟩:=h.fr.get hx;have Uy:a.tmps[d]? =some v:=(by simpa using hv);have e:v= .bool x:=My;simp at hb;subst hb;simp[Uy,e,SB.val]
   ·rename_i x hx;obtain⟨v,hv,My⟩:=h.fr.get hx;have Uy:a.tmps[d]? =some v:=(by simpa using hv);have e:v= .bool x:=My;simp at hb;subst hb;simp[Uy,e,SB.val]
   ·rename_i l hx;obtain⟨v,hv,vs,e,_⟩:=h.fr.get hx;have Uy:a.tmps[d]? =some v:=(by simpa using hv);simp at hb;subst hb;simp[Uy,e,SB.val]
   ·rename_i k i hx;obtain⟨v,hv,My⟩:=h.fr.get hx;have Uy:a.tmps[d]? =some v:=(by simpa using hv);have e:v= .int k i.val:=My;simp at hb;subst hb;simp[Uy,e,SB.val]
   ·rename_i hx
    have Uy:a.tmps[d]? =none:=by
     have:=List.getElem?_eq_none_iff.1 hx;rw[Array.getElem?_eq_none_iff,← Array.length_toList];omega
    simp at hb;subst hb;simp[Uy,SB.val]
   ·simp at hb
abbrev zI:=List (Tmp×Bool)
def known:zI→Tmp→Option Bool
 | [],_=>none
 |(d,v)::l,t=>if d=t then some v else known l t
def forget(a:zI):Option Tmp→zI
 |none=>a
 |some d=>a.filter fun p=>p.1!=d
def nC(a:zI)(st:St)(ops:Array Oper)(o:Oper):Option SB:=
 match o.guard with
 |none=>some (.lit true)
 |some (j,want)=>match(ops[j]?).bind (·.dst)with
  |none=>some (.lit false)
  |some d=>match known a d with
   |some v=>some (.lit (v==want))
   |none=>dN st ops o
def zJ(a:zI)(ops:Array Oper)(o:Oper)(v:Bool):zI:=
 match o.guard with
 |none=>a
 |some (j,want)=>match(ops[j]?).bind (·.dst)with
  |none=>a
  |some d=>(d,v==want)::a
def kO(a:zI)(st:St):Prop:=∀d v,known a d=some v→∃x:SB,st.fr[d]? =some (.one (.sc (.bool x)))∧x.val=v
theorem EA{a:zI}{e d:Tmp}{v:Bool}(h:known (forget a (some e)) d=some v):d≠e∧known a d=some v:=by
 induction a with
 |nil=>simp[forget,known]at h
 |cons p a ih=>
  obtain⟨t,u⟩:=p;simp only[forget,List.filter_cons]at h ih
  split at h
  ·rename_i gv;simp only[known]at h ⊢
   split at h
   ·rename_i htd;subst htd;simp at h gv;exact⟨gv,by simp[h]⟩
   ·rename_i htd;rw[if_neg htd];exact ih h
  ·rename_i gv;simp at gv;subst gv;obtain⟨h1,h2⟩:=ih h;exact⟨h1,by simp only[known,if_neg (Ne.symm h1)];exact h2⟩
theorem kO.put{a:zI}{st:St}(h:kO a st){dst:Option Tmp}{v:LV}{hp:Hp}:kO (forget a dst) (put st dst v hp):=by
 intro d u hd
 cases dst with
 |none=>exact h d u hd
 |some e=>
  obtain⟨h1,h2⟩:=EA hd;obtain⟨x,hx,hv⟩:=h d u h2;exact⟨x,by simp only[Ev.put];rw[List.getElem?_set_ne (Ne.symm h1)];exact hx,hv⟩
theorem zK{a:zI}{st:St}(h:kO a st){ops:Array Oper}{o:Oper}{b:SB}(hb:nC a st ops o=some b):∃b',dN st ops o=some b'∧b'.val=b.val:=by
 unfold nC at hb
 split at hb
 ·rename_i hg;simp at hb;subst hb;exact⟨.lit true,by simp[dN,hg],rfl⟩
 ·rename_i j want hg
  split at hb
  ·rename_i hd;simp at hb;subst hb;exact⟨.lit false,by simp[dN,hg,hd],rfl⟩
  ·rename_i d hd
   split at hb
   ·rename_i v hk;simp at hb;subst hb;obtain⟨x,hx,hv⟩:=h d v hk
    cases x with
    |lit x=>exact⟨.lit (x==want),by simp[dN,hg,hd,hx],by simp only[SB.val]at hv ⊢;rw[hv]⟩
    |sym x=>exact⟨.sym (x==want),by simp[dN,hg,hd,hx],by simp only[SB.val]at hv ⊢;rw[hv]⟩
   ·exact⟨b,hb,rfl⟩
theorem tv{a:zI}{st:St}(h:kO a st){ops:Array Oper}{o:Oper}{b:Bool}(hb:nC a st ops o=some (.sym b)):kO (zJ a ops o b) st:=by
 unfold nC at hb
 split at hb
 ·simp at hb
 ·rename_i j want hg
  split at hb
  ·simp at hb
  ·rename_i d hd;have hl:zJ a ops o b=(d,b==want)::a:=(by simp only[zJ,hg,hd]);rw[hl]
   split at hb
   ·simp at hb
   ·intro e v he;simp only[known]at he
    split at he
    ·rename_i hde;subst hde;simp at he;subst he;simp only[dN,hg,hd]at hb
     split at hb<;>simp at hb
     rename_i x hx;subst hb;exact⟨.sym x,hx,by cases x<;>cases want<;>rfl⟩
    ·exact h e v he
inductive aZ where
 |leaf (e:Exit) (st:St)
 |ite (b:Bool) (t e:aZ)
 |need (p:Prop) (r:aZ)
 |fail
def aZ.sat(Q:Exit→St→Prop):aZ→Prop
 | .leaf e st=>Q e st
 | .ite b t e=>(b=true→t.sat Q)∧(b=false→e.sat Q)
 | .need p r=>p∧r.sat Q
 | .fail=>False
def aZ.bind(f:St→aZ):aZ→aZ
 | .leaf .normal st=>f st
 | .leaf e st=>.leaf e st
 | .ite b t e=>.ite b (t.bind f) (e.bind f)
 | .need p r=>.need p (r.bind f)
 | .fail=>.fail
def aZ.block(id:Nat):aZ→aZ
 | .leaf (.exit i) st=>if i=id then .leaf .normal st else .leaf (.exit i) st
 | .leaf e st=>.leaf e st
 | .ite b t e=>.ite b (t.block id) (e.block id)
 | .need p r=>.need p (r.block id)
 | .fail=>.fail
def aZ.scope:aZ→aZ
 | .leaf (.goto _) _=>.fail
 | .leaf e st=>.leaf e st
 | .ite b t e=>.ite b t.scope e.scope
 | .need p r=>.need p r.scope
 | .fail=>.fail
def aZ.eZ(q:Option Prop)(r:aZ):aZ:=
 match q with
 |none=>r
 |some p=>.need p r
theorem aZ.pc{Q Q':Exit→St→Prop}(hq:∀e st,Q e st→Q' e st):∀ {r:aZ},r.sat Q→r.sat Q'
 | .leaf _ _,h=>hq _ _ h
 | .ite _ _ _,h=>⟨fun e=>aZ.pc hq (h.1 e),fun e=>aZ.pc hq (h.2 e)⟩
 | .need _ _,h=>⟨h.1,aZ.pc hq h.2⟩
 | .fail,h=>h
theorem kF{q:Option Prop}{r:aZ}{R:Exit→St→Prop}(h:(r.eZ q).sat R):eZ q∧r.sat R:=by
 cases q with
 |none=>exact⟨trivial,h⟩
 |some p=>exact h
def oG(W:World)(ai:Hp)(β₀:Env)(R:Exit→St→Prop):Exit→Act→World→Prop:=
 fun e a w=>∃st β,R e st∧Rel W ai β₀ β st a w
structure Alt where
 f:Bool→Hp→aZ→aZ→aZ
 yes:∀ {m:Hp} {t e:aZ} {R:Exit→St→Prop} {W:World} {β₀:Env},(f true m t e).sat R→∃R',t.sat R'∧∀e a w,oG W m β₀ R' e a w→oG W m β₀ R e a w
 no:∀ {m:Hp} {t e:aZ} {R:Exit→St→Prop} {W:World} {β₀:Env},(f false m t e).sat R→∃R',e.sat R'∧∀e a w,oG W m β₀ R' e a w→oG W m β₀ R e a w
def fork:Alt where
 f b _ t e:=.ite b t e
 yes h:=⟨_,h.1 rfl,fun _ _ _ h=>h⟩
 no h:=⟨_,h.2 rfl,fun _ _ _ h=>h⟩
structure FX where
 r:List Nat
 d:List (Nat×Item)
 v:LV
 re:Hp→Out×List Nat
abbrev FP:=Option FX
def FX.w(f:FX):List Nat:=f.d.map (·.1)
def Uz(a:Ask Out)(hp:Hp)(v:LV)(d:List (Nat×Item)):FP:=some ⟨a.log hp,d,v,fun h=>(a.val h,a.log h)⟩
def Out.rH(dr:Bool)(k:LV→List (Nat×Item)→aZ):Out→aZ
 | .leaf q v d=>(k v d).eZ q
 | .ite b x y=>if dr then .fail else .ite b (x.rH dr k) (y.rH dr k)
 | .fail=>.fail
def nD(k:zI):Op→Option Bool
 | .pick (.tmp d) _ _=>known k d
 |_=>none
def mN(P:Program)(G:zH)(k:zI)(id:Nat)(e:Operand→LV)(op:Op):Ask Out:=
 match nD k op,op with
 |some v,.pick _ x y=>.ret (.leaf none (if v then e x else e y) [])
 |_,_=>tu P G id e op
def iZ(P:Program)(G:zH)(A:Alt)(m:Hp)(dr:Bool)(C2:List FP→Option (Option Prop))(ops:Array Oper):List Oper→zI→List FP→St→aZ
 | [],_,acc,st=>match C2 acc with
  |some q=>(aZ.leaf .normal st).eZ q
  |none=>.fail
 |o::rest,k,acc,st=>
  match nC k st ops o with
  |some (.lit true)=>((mN P G k st.hp.length (ev st) o.op).val st.hp).rH dr fun v d=>
    iZ P G A m dr C2 ops rest (forget k o.dst) (acc++ [Uz (mN P G k st.hp.length (ev st) o.op) st.hp v d]) (put st o.dst v (aF d st.hp))
  |some (.lit false)=>iZ P G A m dr C2 ops rest (forget k o.dst) (acc++ [none]) (put st o.dst (.cT []) st.hp)
  |some (.sym b)=>A.f b m
    (((mN P G (zJ k ops o true) st.hp.length (ev st) o.op).val st.hp).rH dr fun v d=>
      iZ P G A m dr C2 ops rest (forget (zJ k ops o true) o.dst) (acc++ [Uz (mN P G (zJ k ops o true) st.hp.length (ev st) o.op) st.hp v d]) (put st o.dst v (aF d st.hp)))
    (iZ P G A m dr C2 ops rest (forget (zJ k ops o false) o.dst) (acc++ [none]) (put st o.dst (.cT []) st.hp))
  |none=>.fail
theorem gy{hp:Hp}{j:Nat}(h:hp.length≤j):kd hp j=none:=by
 unfold kd;rw[List.getElem?_eq_none h]
theorem tw(hp:Hp)(d:List (Nat×Item)):Rg hp.length hp d:=fun _ _ _ h=>gy h
theorem we(hp:Hp):∀o:Out,o.fresh hp.length hp
 | .leaf _ _ d=>tw hp d
 | .ite _ x y=>⟨we hp x,we hp y⟩
 | .fail=>trivial
theorem pd{dr:Bool}{k:LV→List (Nat×Item)→aZ}{R:Exit→St→Prop}:∀ {o:Out},(o.rH dr k).sat R→o.holds fun v d=>(k v d).sat R
 | .leaf q v d,h=>kF h
 | .ite b x y,h=>by
  simp only[Out.rH]at h
  split at h
  ·exact h.elim
  ·exact⟨fun e=>pd (h.1 e),fun e=>pd (h.2 e)⟩
 | .fail,h=>h
theorem Mz{k:LV→List (Nat×Item)→aZ}{R:Exit→St→Prop}{o:Out}(h:(o.rH true k).sat R):∃q v d,o= .leaf q v d∧eZ q∧(k v d).sat R:=by
 cases o with
 |leaf q v d=>exact⟨q,v,d,rfl,(kF h).1,(kF h).2⟩
 |ite b x y=>simp[Out.rH,aZ.sat]at h
 |fail=>exact h.elim
theorem Rh{P:Program}{G:zH}{k:zI}{id:Nat}{st:St}{op:Op}(hk:kO k st):
  (mN P G k id (ev st) op=il P G (nD k op) id (ev st) op)∨
  ∃v p,mN P G k id (ev st) op= .ret (.leaf none v [])∧il P G (nD k op) id (ev st) op= .ret (.leaf (some p) v [])∧p:=by
 unfold mN
 split
 ·rename_i v c x y hh;right;unfold nD at hh
  split at hh
  ·rename_i d x' y' e;simp at e;obtain⟨rfl,rfl,rfl⟩:=e;obtain⟨t,ht,hv⟩:=hk _ _ hh;have hev:ev st (.tmp d)= .one (.sc (.bool t)):=(by simp[ev,List.getD_eq_getElem?_getD,ht]);refine⟨_,t.val=v,rfl,?_,hv⟩;simp only[il,nD,hh,hev]
  ·cases hh
 ·rename_i tm;left;unfold il
  split
  ·rename_i v c x y hh;exact absurd hh (by intro h;exact tm v c x y h rfl)
  ·rfl
theorem YB{P:Program}{G:zH}(hG:GOk P G){k:zI}{id:Nat}{st:St}{o:Oper}(hk:kO k st)(hf:∀o:Out,o.fresh id st.hp){K:LV→List (Nat×Item)→Prop}(h:((mN P G k id (ev st) o.op).val st.hp).holds K)
  {W:World} {ai:Hp} {β₀ β:Env} {a:Act} {w:World} (hr:Rel W ai β₀ β st a w) {next:Act→World→Prop} {Q:Exit→Act→World→Prop}
  (hn:∀v d β' a' w',K v d→Rel W ai β₀ β' (put st o.dst v (aF d st.hp)) a' w'→next a' w'):o.wp P a w next Q:=by
 have hs:((il P G (nD k o.op) id (ev st) o.op).val st.hp).holds K:=by
  rcases Rh (P:=P) (G:=G) (id:=id) (op:=o.op) hk with e|⟨v,p,e1,e2,hp⟩
  ·rw[← e];exact h
  ·rw[e1]at h;rw[e2];exact⟨hp,h.2⟩
 exact Ik hG (hf _) hs hr hn
theorem zL{P:Program}{G:zH}{A:Alt}(hG:GOk P G){W:World}{m:Hp}{β₀:Env}{dr:Bool}{C2:List FP→Option (Option Prop)}{ops:Array Oper}{Q:Exit→Act→World→Prop}:
  ∀ (l:List Oper) (k:zI) (acc:List FP) (st:St) (R:Exit→St→Prop),kO k st→(iZ P G A m dr C2 ops l k acc st).sat R→(∀e a w,oG W m β₀ R e a w→Q e a w)→
   ∀β a w,Rel W m β₀ β st a w→wpList P ops Q l a w
 | [],k,acc,st,R,hk,h,hq,β,a,w,hr=>by
  simp only[iZ]at h
  split at h
  ·exact hq _ _ _ ⟨st,β,(kF h).2,hr⟩
  ·exact h.elim
 |o::rest,k,acc,st,R,hk,h,hq,β,a,w,hr=>by
  have dL:∀ (k:zI) (acc:LV→List (Nat×Item)→List FP),kO k st→∀ (R:Exit→St→Prop),(((mN P G k st.hp.length (ev st) o.op).val st.hp).rH dr fun v d=>
    iZ P G A m dr C2 ops rest (forget k o.dst) (acc v d) (put st o.dst v (aF d st.hp))).sat R→(∀e a w,oG W m β₀ R e a w→Q e a w)→o.wp P a w (wpList P ops Q rest) Q:=by
   intro k acc hk R h hq;exact YB hG hk (we _) (pd h) hr fun v d β' a' w' hkv qE=>zL hG rest _ _ _ R hk.put hkv hq β' a' w' qE
  have Il:∀ (k:zI) (acc:List FP),kO k st→∀ (R:Exit→St→Prop),(iZ P G A m dr C2 ops rest (forget k o.dst) acc (put st o.dst (.cT []) st.hp)).sat R→(∀e a w,oG W m β₀ R e a w→Q e a w)→
    wpList P ops Q rest (a.put o.dst undef) w:=by
   intro k acc hk R h hq;exact zL hG rest _ _ _ R hk.put h hq β _ w (hr.put (dst:=o.dst) ⟨[],rfl,.nil⟩ hr.heap (bM.refl _ _))
  simp only[iZ]at h
  cases hb:nC k st ops o with
  |none=>simp only[hb]at h;exact h.elim
  |some b=>
   obtain⟨b',j5,hbv⟩:=zK hk hb;have hw:=xG hr j5;rw[hbv]at hw;simp only[hb]at h;simp only[wpList,hw]
   cases b with
   |lit b=>
    cases b with
    |true=>exact .inl (dL k _ hk R h hq)
    |false=>exact Il k _ hk R h hq
   |sym b=>
    cases b with
    |true=>
     obtain⟨R',h1,h2⟩:=A.yes (W:=W) (β₀:=β₀) h;exact .inl (dL _ _ (tv hk hb) R' h1 fun e a w hp=>hq e a w (h2 e a w hp))
    |false=>
     obtain⟨R',h1,h2⟩:=A.no (W:=W) (β₀:=β₀) h;exact Il _ _ (tv hk hb) R' h1 fun e a w hp=>hq e a w (h2 e a w hp)
theorem put_comm(st:St){x y:Option Tmp}(v u:LV)(h1 h2 h:Hp)(gv:∀d,x=some d→y≠some d):put (put st x v h1) y u h=put (put st y u h2) x v h:=by
 cases x with
 |none=>cases y<;>rfl
 |some d=>
  cases y with
  |none=>rfl
  |some e=>
   have:d≠e:=fun he=>gv d rfl (he▸rfl);simp only[put];rw[List.set_comm _ _ this]
theorem UA{ops:Array Oper}{o:Oper}{t:Tmp}(h:Operand.tmp t∈o.op.operands):t∈o.looksAt ops:=by
 unfold Oper.looksAt;rw[List.mem_append];refine .inl (List.mem_filterMap.2 ⟨.tmp t,by simpa using h,rfl⟩)
theorem amw{st:St}{dst:Option Tmp}{v:LV}{hp:Hp}{x:Operand}(h:∀d,dst=some d→x≠ .tmp d):ev (put st dst v hp) x=ev st x:=by
 cases dst with
 |none=>cases x<;>rfl
 |some d=>
  cases x with
  |tmp t=>
   have gv:t≠d:=fun e=>h d rfl (e▸rfl);simp only[ev,put,List.getD_eq_getElem?_getD];rw[List.getElem?_set_ne (Ne.symm gv)]
  |_=>rfl
theorem mO{ops:Array Oper}{o:Oper}{dst:Option Tmp}(h:∀d,dst=some d→d∉o.looksAt ops){st:St}{v:LV}{hp:Hp}:∀x∈o.op.operands,ev (put st dst v hp) x=ev st x:=
 fun _x hx=>amw fun d hd e=>h d hd (UA (e▸hx))
theorem fo{ops:Array Oper}{o:Oper}{dst:Option Tmp}(h:∀d,dst=some d→d∉o.looksAt ops){st:St}{v:LV}{hp:Hp}:
  dN (put st dst v hp) ops o=dN st ops o:=by
 unfold dN
 cases hg:o.guard with
 |none=>rfl
 |some p=>
  obtain⟨j,want⟩:=p
  cases ht:(ops[j]?).bind (·.dst)with
  |none=>simp[ht]
  |some t=>
   have:(put st dst v hp).fr[t]? =st.fr[t]? :=by
    cases dst with
    |none=>rfl
    |some d=>
     have gv:d≠t:=fun e=>h d rfl (by subst e;simp[Oper.looksAt,hg,ht]);simp only[put];rw[List.getElem?_set_ne gv]
   simp only[ht,this]
theorem MA{P:Program}{id:Nat}{e e2:Operand→LV}{op:Op}(h:∀x∈op.operands,e2 x=e x):fS P id e2 op=fS P id e op:=by
 cases op<;>simp only[Op.operands]at h<;>(try rfl)
 case move x=>simp only[fS,h x (by simp)]
 case assign x=>simp only[fS,h x (by simp)]
 case pick c x y=>simp only[fS,h c (by simp),h x (by simp),h y (by simp)]
 case box t x=>simp only[fS,h x (by simp)]
 case build t parts=>
  have e:(parts.toList.map fun p=>(p.1,e2 p.2))=parts.toList.map fun p=>(p.1,e p.2):=List.map_congr_left fun p hp=>by
   rw[h p.2 (by rw[List.mem_toArray];exact List.mem_map.2 ⟨p,hp,rfl⟩)]
  simp only[fS,e]
 case buildSlice t len parts=>
  have e:(parts.toList.map fun p=>(p.1,e2 p.2))=parts.toList.map fun p=>(p.1,e p.2):=List.map_congr_left fun p hp=>by
   rw[h p.2 (by rw[List.mem_toArray];exact List.mem_map.2 ⟨p,hp,rfl⟩)]
  simp only[fS,e]
 case load t x=>simp only[fS,h x (by simp)]
 case store t x y=>simp only[fS,h x (by simp),h y (by simp)]
 case nilCheck x=>simp only[fS,h x (by simp)]
 case binOp op t x y yt=>simp only[fS,h x (by simp),h y (by simp)]
 case unOp op t x=>simp only[fS,h x (by simp)]
 case convert s d x=>simp only[fS,h x (by simp)]
 case sliceToArrayPointer t x=>simp only[fS,h x (by simp)]
 case makeSlice t x y=>simp only[fS,h x (by simp),h y (by simp)]
 case slice t x lo hi mx=>
  have e1:lo.map e2=lo.map e:=by cases lo<;>simp_all
  have e3:hi.map e2=hi.map e:=by cases hi<;>simp_all
  have e4:mx.map e2=mx.map e:=by cases mx<;>simp_all
  simp only[fS,h x (by simp),e1,e3,e4]
 case fieldAddr s x f=>simp only[fS,h x (by simp)]
 case field s x f=>simp only[fS,h x (by simp)]
 case indexAddr t x i=>simp only[fS,h x (by simp),h i (by simp)]
 case index t x i=>simp only[fS,h x (by simp),h i (by simp)]
 case extract x i=>simp only[fS,h x (by simp)]
theorem Im{P:Program}{G:zH}{id:Nat}{e e2:Operand→LV}{op:Op}(h:∀x∈op.operands,e2 x=e x):tu P G id e2 op=tu P G id e op:=by
 unfold tu
 split
 ·rename_i c;have dM:c.args.toList.map e2=c.args.toList.map e:=List.map_congr_left fun x hx=>h x (by simp only[Op.operands,Call.operands,Array.mem_append];exact .inr (by simpa using hx));rw[dM]
  split
  ·rfl
  ·rename_i f hf;rw[h f (by simp[Op.operands,Call.operands,hf])]
  ·rfl
 ·rw[MA h]
theorem cI{P:Program}{G:zH}{g:Option Bool}{id:Nat}{e e2:Operand→LV}{op:Op}(h:∀x∈op.operands,e2 x=e x):il P G g id e2 op=il P G g id e op:=by
 unfold il
 split
 ·rename_i v c x y;rw[h c (by simp[Op.operands]),h x (by simp[Op.operands]),h y (by simp[Op.operands])]
 ·exact Im h
theorem EB{hp:Hp}{i k:Nat}{x:Item}(h:k≠i):bq (setAt hp i x) k=bq hp k:=by
 unfold bq
 split
 ·rename_i y hy;rw[(cq hp i x k y h).1 hy]
 ·rename_i hn
  split
  ·rename_i y hy;exact absurd ((cq hp i x k y h).2 hy) (hn y)
  ·rfl
theorem eE:∀ {d:List (Nat×Item)} {hp:Hp} {k:Nat},k∉d.map (·.1)→bq (aF d hp) k=bq hp k
 | [],_,_,_=>rfl
 |(i,x)::d,hp,k,h=>by
  simp only[List.map_cons,List.mem_cons,not_or]at h;show bq (aF d (setAt hp i x)) k=_;rw[eE h.2,EB h.1]
theorem C3(hp:Hp)(k:Nat):kd hp k=(bq hp k).map Item.kd:=by
 unfold kd bq
 cases hp[k]? with
 |none=>rfl
 |some x=>cases x<;>rfl
theorem UB{d:List (Nat×Item)}{hp:Hp}{k:Nat}(h:k∉d.map (·.1)):kd (aF d hp) k=kd hp k:=by rw[C3,C3,eE h]
theorem pe:∀ {d:List (Nat×Item)} {hp:Hp} {k:Nat},kd (aF d hp) k=none→kd hp k=none
 | [],_,_,h=>h
 |(i,x)::d,hp,k,h=>by
  have:=pe (d:=d) (hp:=setAt hp i x) h;rw[dk]at this
  split at this
  ·cases this
  ·exact this
theorem rZ:∀ (hp:Hp) (i j:Nat) (a b:Item),i≠j→setAt (setAt hp i a) j b=setAt (setAt hp j b) i a
 | [],0,0,_,_,h=>absurd rfl h
 | [],0,j+1,a,b,_=>by simp[setAt]
 | [],i+1,0,a,b,_=>by simp[setAt]
 | [],i+1,j+1,a,b,h=>by simp only[setAt];rw[rZ [] i j a b (by omega)]
 |_::_,0,0,_,_,h=>absurd rfl h
 |_::_,0,j+1,_,_,_=>by simp[setAt]
 |_::_,i+1,0,_,_,_=>by simp[setAt]
 |_::l,i+1,j+1,a,b,h=>by simp only[setAt];rw[rZ l i j a b (by omega)]
theorem tx:∀ (d:List (Nat×Item)) (hp:Hp) (i:Nat) (x:Item),i∉d.map (·.1)→aF d (setAt hp i x)=setAt (aF d hp) i x
 | [],_,_,_,_=>rfl
 |(j,y)::d,hp,i,x,h=>by
  simp only[List.map_cons,List.mem_cons,not_or]at h;show aF d (setAt (setAt hp i x) j y)=setAt (aF d (setAt hp j y)) i x;rw[rZ _ _ _ _ _ h.1,tx d _ _ _ h.2]
theorem xH:∀ (d d2:List (Nat×Item)) (hp:Hp),(∀k∈d.map (·.1),k∉d2.map (·.1))→aF d2 (aF d hp)=aF d (aF d2 hp)
 | [],_,_,_=>rfl
 |(i,x)::d,d2,hp,h=>by
  show aF d2 (aF d (setAt hp i x))=aF d (setAt (aF d2 hp) i x);rw[xH d d2 (setAt hp i x) fun k hk=>h k (by simp[List.map_cons];exact .inr (by simpa using hk)),tx d2 _ _ _ (h i (by simp))]
def aqb(f:FX)(a:Ask Out):Prop:=∀h,(f.re h).2=a.log h∧∀v',(f.re h).1= .leaf none v' []→∃q',a.val h= .leaf q' v' []∧eZ q'
theorem xI:∀ {d:List (Nat×Item)} {hp hp2:Hp} {k:Nat},k∈d.map (·.1)→bq (aF d hp) k=bq (aF d hp2) k
 |(i,x)::d,hp,hp2,k,h=>by
  show bq (aF d (setAt hp i x)) k=bq (aF d (setAt hp2 i x)) k
  by_cases hk:k∈d.map (·.1)
  ·exact xI hk
  ·have e:k=i:=(by simpa [hk]using h);subst e;rw[eE hk,eE hk,qu (dw _ _ _),qu (dw _ _ _)]
def tz(P:Program)(G:zH)(ops:Array Oper)(ids:Nat→Nat)(fp:Nat→FP)(i:Nat)(st qF:St):Prop:=
 ∃o b,ops[i]? =some o∧dN st ops o=some b∧
  ((b.val=true∧∃q v d g f,(il P G g (ids i) (ev st) o.op).val st.hp= .leaf q v d∧eZ q∧(fp i=some f∧f.r=(il P G g (ids i) (ev st) o.op).log st.hp∧f.d=d∧f.v=v∧aqb f (il P G g (ids i) (ev st) o.op))∧Rg (ids i) st.hp d∧qF=put st o.dst v (aF d st.hp))∨
   (b.val=false∧fp i=none∧qF=put st o.dst (.cT []) st.hp))
def MB:FP→FP→Bool
 |some f1,some f2=>f1.w.all (fun k=> !(f2.r.contains k)&& !(f2.w.contains k))&&f2.w.all fun k=> !(f1.r.contains k)
 |_,_=>true
def YC(fj fi:FP):Prop:=∃a b,fj=some a∧fi=some b∧a.d= []∧(∀k∈a.r,k∈b.w)∧a.re (aF b.d [])=(.leaf none a.v [],a.r)
theorem dV{st:St}{dst:Option Tmp}{v:LV}{hp:Hp}:(put st dst v hp).hp=hp:=by cases dst<;>rfl
noncomputable section
variable {P:Program} {G:zH} {ops:Array Oper} {ids:Nat→Nat} {fp:Nat→FP}
theorem UC{i j:Nat}{oi oj:Oper}(zM:ops[i]? =some oi)(EC:ops[j]? =some oj)(hap:oj.apart ops oi=true)(MC:MB (fp j) (fp i)=true∨YC (fp j) (fp i))
  {st s1 s2:St} (h1:tz P G ops ids fp j st s1) (h2:tz P G ops ids fp i s1 s2):∃s1',tz P G ops ids fp i st s1'∧tz P G ops ids fp j s1' s2:=by
 obtain⟨a1,a2,a3⟩:=Oper.apart_spec hap;obtain⟨o,bj,ho,hwj,h1⟩:=h1;rw[EC]at ho;simp at ho;subst ho;obtain⟨o,bi,ho,hwi,h2⟩:=h2;rw[zM]at ho;simp at ho;subst ho;rcases h1 with⟨hbj,qj,vj,dj,gj,Fj,ej,nj,⟨fj,fj1,fj2,fj3,fj4⟩,rj,rfl⟩|⟨hbj,fj,rfl⟩
 ·rw[fo a1]at hwi;have evi:∀x∈oi.op.operands,ev (put st oj.dst vj (aF dj st.hp)) x=ev st x:=mO a1;rcases h2 with⟨hbi,qi,vi,di,gi,Fi,ei,ni,⟨fi,fi1,fi2,fi3,fi4⟩,ri,rfl⟩|⟨hbi,fi,rfl⟩
  ·rw[cI evi,dV]at ei fi1;rw[cI evi]at fi4;rw[dV]at ri;have evj:∀x∈oj.op.operands,ev (put st oi.dst vi (aF di st.hp)) x=ev st x:=mO a3;rw[fj,fi]at MC;rcases MC with MC|aqf
   ·simp only[MB,FX.w,Bool.and_eq_true,List.all_eq_true,Bool.not_eq_true',List.contains_eq_mem,decide_eq_false_iff_not,fj1,fj2,fi1,fi2]at MC;obtain⟨d1,d2⟩:=MC;have hli:∀k∈(il P G gi (ids i) (ev st) oi.op).log (aF dj st.hp),bq st.hp k=bq (aF dj st.hp) k:=fun k hk=>(eE fun hm=>(d1 k hm).1 hk).symm;obtain⟨k1,k2⟩:=Ask.Ek _ hli;have hlj:∀k∈(il P G gj (ids j) (ev st) oj.op).log st.hp,bq (aF di st.hp) k=bq st.hp k:=fun k hk=>eE fun hm=>d2 k hm hk;obtain⟨k3,k4⟩:=Ask.Ek _ hlj
    refine⟨put st oi.dst vi (aF di st.hp),⟨oi,bi,zM,hwi,.inl ⟨hbi,qi,vi,di,gi,Fi,by rw[k1];exact ei,ni,⟨fi,by rw[k2];exact fi1,fi2,fi3,fi4⟩,fun k x hk hle=>pe (ri k x hk hle),rfl⟩⟩,
     ⟨oj,bj,EC,by rw[fo a3];exact hwj,.inl ⟨hbj,qj,vj,dj,gj,Fj,by rw[cI evj,dV,k3];exact ej,nj,⟨fj,by rw[cI evj,dV,k4];exact fj1,fj2,fj3,by rw[cI evj];exact fj4⟩,?_,?_⟩⟩⟩
    ·intro k x hk hle;rw[dV,UB (fun hm=>(d1 k (List.mem_map.2 ⟨_,hk,rfl⟩)).2 hm)];exact rj k x hk hle
    ·rw[dV,dV,xH dj di st.hp (fun k hk=>(d1 k hk).2)];exact put_comm st vj vi _ _ _ a2
   ·obtain⟨a,b,e1,e2,h3,h4,h5⟩:=aqf;simp at e1 e2;subst e1 e2;rw[fj2]at h3;subst h3;simp only[FX.w,fi2]at h4 h5;rw[fj3]at h5;obtain⟨m1,m2⟩:=fj4 (aF di []);rw[h5]at m1 m2;obtain⟨q',m3,m4⟩:=m2 vj rfl;simp only at m1;have auv:∀k∈(il P G gj (ids j) (ev st) oj.op).log (aF di []),bq (aF di st.hp) k=bq (aF di []) k:=fun k hk=>xI (h4 k (by rw[m1];exact hk));obtain⟨k3,k4⟩:=Ask.Ek _ auv
    refine⟨put st oi.dst vi (aF di st.hp),⟨oi,bi,zM,hwi,.inl ⟨hbi,qi,vi,di,gi,Fi,ei,ni,⟨fi,fi1,fi2,fi3,fi4⟩,ri,rfl⟩⟩,
     ⟨oj,bj,EC,by rw[fo a3];exact hwj,.inl ⟨hbj,q',vj,[],gj,Fj,by rw[cI evj,dV,k3];exact m3,m4,⟨fj,by rw[cI evj,dV,k4];exact m1,fj2,fj3,by rw[cI evj];exact fj4⟩,fun k x hk=>(by cases hk),?_⟩⟩⟩
    rw[dV,dV];exact put_comm st vj vi _ _ _ a2
  ·refine⟨put st oi.dst (.cT []) st.hp,⟨oi,bi,zM,hwi,.inr ⟨hbi,fi,rfl⟩⟩,⟨oj,bj,EC,by rw[fo a3];exact hwj,.inl ⟨hbj,qj,vj,dj,gj,Fj,?_,nj,⟨fj,?_,fj2,fj3,?_⟩,?_,?_⟩⟩⟩
   ·rw[cI (mO a3),dV];exact ej
   ·rw[cI (mO a3),dV];exact fj1
   ·rw[cI (mO a3)];exact fj4
   ·rw[dV];exact rj
   ·rw[dV,dV];exact put_comm st vj _ _ _ _ a2
 ·rw[fo a1]at hwi;have evi:∀x∈oi.op.operands,ev (put st oj.dst (.cT []) st.hp) x=ev st x:=mO a1;rcases h2 with⟨hbi,qi,vi,di,gi,Fi,ei,ni,⟨fi,fi1,fi2,fi3,fi4⟩,ri,rfl⟩|⟨hbi,fi,rfl⟩
  ·rw[cI evi,dV]at ei fi1;rw[cI evi]at fi4;rw[dV]at ri;refine⟨put st oi.dst vi (aF di st.hp),⟨oi,bi,zM,hwi,.inl ⟨hbi,qi,vi,di,gi,Fi,ei,ni,⟨fi,fi1,fi2,fi3,fi4⟩,ri,rfl⟩⟩,⟨oj,bj,EC,by rw[fo a3];exact hwj,.inr ⟨hbj,fj,?_⟩⟩⟩;rw[dV,dV];exact put_comm st _ vi _ _ _ a2
  ·refine⟨put st oi.dst (.cT []) st.hp,⟨oi,bi,zM,hwi,.inr ⟨hbi,fi,rfl⟩⟩,⟨oj,bj,EC,by rw[fo a3];exact hwj,.inr ⟨hbj,fj,?_⟩⟩⟩;rw[dV,dV];exact put_comm st _ _ _ _ _ a2
end
inductive tA (P:Program) (G:zH) (ops:Array Oper) (ids:Nat→Nat) (fp:Nat→FP):List Nat→St→St→Prop where
 |nil {st}:tA P G ops ids fp [] st st
 |cons {i l st s s'} (h:tz P G ops ids fp i st s) (t:tA P G ops ids fp l s s'):tA P G ops ids fp (i::l) st s'
def mP(acc:List Nat)(o:Oper):Nat:=
 o.after.toList.foldr (fun e s=>if Region.binds .any e then s|||2 ^ e.on|||acc.getD e.on 0 else s) 0
def tB:List Oper→List Nat→List Nat
 | [],acc=>acc
 |o::l,acc=>tB l (acc++ [mP acc o])
theorem CE{acc:List Nat}{o:Oper}{j:Nat}(h:Nat.testBit (mP acc o) j=true):
  ∃e∈o.after,Region.binds .any e=true∧(e.on=j∨Nat.testBit (acc.getD e.on 0) j=true):=by
 unfold mP at h
 have key:∀l:List Edge,Nat.testBit (l.foldr (fun e s=>if Region.binds .any e then s|||2 ^ e.on|||acc.getD e.on 0 else s) 0) j=true→
   ∃e∈l,Region.binds .any e=true∧(e.on=j∨Nat.testBit (acc.getD e.on 0) j=true):=by
  intro l
  induction l with
  |nil=>intro h;simp at h
  |cons e l ih=>
   intro h;simp only[List.foldr_cons]at h
   split at h
   ·rename_i hb;simp only[Nat.testBit_or,Bool.or_eq_true,Nat.testBit_two_pow,decide_eq_true_eq]at h;rcases h with(h|h)|h
    ·obtain⟨e',h1,h2⟩:=ih h;exact⟨e',by simp[h1],h2⟩
    ·exact⟨e,by simp,hb,.inl h⟩
    ·exact⟨e,by simp,hb,.inr h⟩
   ·obtain⟨e',h1,h2⟩:=ih h;exact⟨e',by simp[h1],h2⟩
 obtain⟨e,h1,h2⟩:=key _ h;exact⟨e,by simpa using h1,h2⟩
def tC:List Oper→Nat→Bool
 | [],_=>true
 |o::l,n=>(o.after.all fun e=> !Region.binds .any e||decide (e.on<n))&&tC l (n+1)
def MD(ops:Array Oper)(oj oi:Oper)(bit:Bool)(fj fi:FP):Option (List Prop):=
 if bit||(oj.apart ops oi&&MB fj fi)then some []
 else if oj.apart ops oi then match fj,fi with
  |some a,some b=>if a.d.isEmpty&&a.r.all (fun k=>b.w.contains k)then some [a.re (aF b.d [])=(.leaf none a.v [],a.r)]else none
  |_,_=>none
 else none
def amz:List Prop→Prop
 | []=>True
 | [p]=>p
 |p::l=>p∧amz l
theorem Io:∀ {l:List Prop} {p:Prop},amz l→p∈l→p
 | [x],p,h,hp=>by
  rcases List.mem_cons.1 hp with rfl|hp
  ·exact h
  ·cases hp
 |x::y::l,p,h,hp=>by
  rcases List.mem_cons.1 hp with rfl|hp
  ·exact h.1
  ·exact Io (l:=y::l) h.2 hp
theorem Ip{ops:Array Oper}{oj oi:Oper}{bit:Bool}{fj fi:FP}{l:List Prop}(h:MD ops oj oi bit fj fi=some l)(hp:∀p∈l,p):bit=true∨(oj.apart ops oi=true∧(MB fj fi=true∨YC fj fi)):=by
 unfold MD at h
 split at h
 ·rename_i hc;simp only[Bool.or_eq_true,Bool.and_eq_true]at hc;exact hc.imp id fun hc=>⟨hc.1,.inl hc.2⟩
 ·split at h
  ·rename_i ha
   split at h
   ·rename_i a b _
    split at h
    ·rename_i hc;simp only[Bool.and_eq_true,List.all_eq_true,List.contains_eq_mem,decide_eq_true_eq,List.isEmpty_iff]at hc
     cases h
     exact .inr ⟨ha,.inr ⟨a,b,rfl,rfl,hc.1,hc.2,hp _ (List.mem_cons_self ..)⟩⟩
    ·cases h
   ·cases h
  ·cases h
def yi(ops:Array Oper)(oi:Oper)(mask:Nat)(fi:FP):List Oper→List FP→Nat→Option (List Prop)
 | [],_,_=>some []
 |oj::l,fs,j=>match MD ops oj oi (Nat.testBit mask j) (fs.headD none) fi with
  |some a=>match yi ops oi mask fi l fs.tail (j+1)with
   |some b=>some (a++b)
   |none=>none
  |none=>none
def pg(ops:Array Oper)(ms:List Nat)(fs:List FP):List Oper→Nat→Option (List Prop)
 | [],_=>some []
 |o::l,i=>match yi ops o (ms.getD i 0) (fs.getD i none) (ops.toList.take i) fs 0 with
  |some a=>match pg ops ms fs l (i+1)with
   |some b=>some (a++b)
   |none=>none
  |none=>none
structure amA (ops:Array Oper) (M:Nat→Nat) (fp:Nat→FP) (i:Nat) (o:Oper):Prop where
 early:∀e∈o.after,Region.binds .any e=true→e.on<i
 aqg:∀j oj,j<i→ops[j]? =some oj→Nat.testBit (M i) j=true∨(oj.apart ops o=true∧(MB (fp j) (fp i)=true∨YC (fp j) (fp i)))
 waits:∀j,Nat.testBit (M i) j=true→∃e∈o.after,Region.binds .any e=true∧(e.on=j∨Nat.testBit (M e.on) j=true)
theorem tD{ops:Array Oper}{oi:Oper}{mask:Nat}{fi:FP}:∀ (l:List Oper) (fs:List FP) (k:Nat) {ps:List Prop},yi ops oi mask fi l fs k=some ps→(∀p∈ps,p)→∀j oj,l[j]? =some oj→Nat.testBit mask (k+j)=true∨(oj.apart ops oi=true∧(MB (fs.getD j none) fi=true∨YC (fs.getD j none) fi))
 | [],_,_,_,_,_,j,oj,hj=>by simp at hj
 |o::l,fs,k,ps,h,hp,j,oj,hj=>by
  simp only[yi]at h
  split at h
  ·rename_i a ha
   split at h
   ·rename_i b hb
    cases h
    cases j with
    |zero=>
     simp at hj;subst hj;have e:fs.headD none=fs.getD 0 none:=(by cases fs<;>rfl);rw[← e];exact Ip ha fun p hm=>hp p (by simp[hm])
    |succ j=>
     have:=tD l fs.tail (k+1) hb (fun p hm=>hp p (by simp[hm])) j oj (by simpa using hj);have e:fs.tail.getD j none=fs.getD (j+1) none:=(by cases fs<;>simp[List.getD]);rw[e]at this;rwa [show k+1+j=k+(j+1) by omega]at this
   ·cases h
  ·cases h
theorem rI{ops:Array Oper}{ms:List Nat}{fs:List FP}:∀ (l:List Oper) (k:Nat) {ps:List Prop},(∀j,l[j]? =ops[k+j]?)→pg ops ms fs l k=some ps→(∀p∈ps,p)→∀i o,k≤i→ops[i]? =some o→∀j oj,j<i→ops[j]? =some oj→Nat.testBit (ms.getD i 0) j=true∨(oj.apart ops o=true∧(MB (fs.getD j none) (fs.getD i none)=true∨YC (fs.getD j none) (fs.getD i none)))
 | [],k,_,hl,_,_,i,o,hi,ho,_,_,_,_=>by
  have:=hl (i-k);rw[show k+(i-k)=i by omega,ho]at this;simp at this
 |x::l,k,ps,hl,h,hp,i,o,hi,ho,j,oj,hj,EC=>by
  simp only[pg]at h
  split at h
  ·rename_i a ha
   split at h
   ·rename_i b hb
    cases h
    by_cases e:i=k
    ·subst e
     have hx:o=x:=by
      have:=hl 0;rw[Nat.add_zero,ho]at this;simpa using this.symm
     subst hx;have:=tD _ _ 0 ha (fun p hm=>hp p (by simp[hm])) j oj (by rw[List.getElem?_take];simp[hj,EC]);rwa [Nat.zero_add]at this
    ·exact rI l (k+1) (fun j=>by have:=hl (j+1);simpa [Nat.add_assoc,Nat.add_comm 1 j]using this) hb (fun p hm=>hp p (by simp[hm])) i o (by omega) ho j oj hj EC
   ·cases h
  ·cases h
theorem zN{ops:Array Oper}:∀ (l before:List Oper) (acc:List Nat),before++l=ops.toList→acc.length=before.length→tC l before.length=true→
  (∀M:Nat→Nat,(∀i,M i=(tB l acc).getD i 0)→∀i o,before.length≤i→ops[i]? =some o→(∀e∈o.after,Region.binds .any e=true→e.on<i)∧
   (∀j,Nat.testBit (M i) j=true→∃e∈o.after,Region.binds .any e=true∧(e.on=j∨Nat.testBit (M e.on) j=true)))∧(∀i,i<acc.length→(tB l acc).getD i 0=acc.getD i 0)
 | [],before,acc,hb,ha,_=>by
  have hs:before.length=ops.size:=by
   have:=congrArg List.length hb;simpa using this
  refine⟨fun M hM i o hi ho=>?_,fun _ _=>rfl⟩;have:=(Array.getElem?_eq_some_iff.1 ho).1;omega
 |o::l,before,acc,hb,ha,h=>by
  simp only[tC,Bool.and_eq_true]at h;obtain⟨h1,h4⟩:=h;obtain⟨i1,i3⟩:=zN l (before++ [o]) (acc++ [mP acc o]) (by simpa using hb) (by simp[ha]) (by simpa using h4);have hmk:tB (o::l) acc=tB l (acc++ [mP acc o]):=rfl
  have aqh:∀i,i<acc.length→(tB (o::l) acc).getD i 0=acc.getD i 0:=fun i hi=>by
   rw[hmk,i3 i (by simp;omega)];simp only[List.getD_eq_getElem?_getD];rw[List.getElem?_append_left hi]
  refine⟨fun M hM i oi hi ho=>?_,aqh⟩
  by_cases hie:i=before.length
  ·subst hie
   have hoo:oi=o:=by
    have e:ops.toList[before.length]? =some oi:=(by simpa using ho);rw[← hb]at e;simp at e;exact e.symm
   subst hoo
   have hMi:M before.length=mP acc oi:=by
    rw[hM,hmk,i3 _ (by simp[ha])];simp only[List.getD_eq_getElem?_getD];rw[← ha];simp
   have YD:∀e∈oi.after,Region.binds .any e=true→e.on<before.length:=by
    intro e he Ri;have:=Array.all_eq_true'.1 h1 e he;simpa [Ri]using this
   refine⟨YD,fun j hj=>?_⟩;rw[hMi]at hj;obtain⟨e,he,Ri,hor⟩:=CE hj;refine⟨e,he,Ri,hor.imp id fun ht=>?_⟩;rw[hM,aqh _ (by rw[ha];exact YD e he Ri)];exact ht
  ·exact i1 M (fun i=>hM i) i oi (by simp;omega) ho
noncomputable section
variable {P:Program} {G:zH} {ops:Array Oper} {ids:Nat→Nat} {M:Nat→Nat} {fp:Nat→FP}
theorem zO(hM:∀i o,ops[i]? =some o→amA ops M fp i o){i:Nat}{oi:Oper}(zM:ops[i]? =some oi):
  ∀ (l1 l2:List Nat) (st sf:St),(∀j∈l1,j<i∧Nat.testBit (M i) j=false)→tA P G ops ids fp (l1++i::l2) st sf→∃s,tz P G ops ids fp i st s∧tA P G ops ids fp (l1++l2) s sf
 | [],l2,st,sf,_,h=>by
  cases h with
  |cons h t=>exact⟨_,h,t⟩
 |j::l1,l2,st,sf,hl,h=>by
  cases h with
  |cons h t=>
   rename_i s;obtain⟨s1,h1,h2⟩:=zO hM zM l1 l2 s sf (fun k hk=>hl k (by simp[hk])) t;obtain⟨hji,UD⟩:=hl j (by simp);have auy:=h;obtain⟨oj,_,EC,_⟩:=auy;have hp:=((hM i oi zM).aqg j oj hji EC).resolve_left (by rw[UD];simp);obtain⟨s1',k1,k2⟩:=UC zM EC hp.1 hp.2 h h1;exact⟨s1',k1,.cons k2 h2⟩
theorem YE(hG:GOk P G){i:Nat}{st s:St}(h:tz P G ops ids fp i st s){W:World}{ai:Hp}{β₀ β:Env}{a:Act}{w:World}(hr:Rel W ai β₀ β st a w)
  {K:Act→World→Prop} {Q:Exit→Act→World→Prop} (hK:∀β' a' w',Rel W ai β₀ β' s a' w'→K a' w'):wpOp P ops Q i K a w:=by
 obtain⟨o,b,ho,hw,h⟩:=h;unfold wpOp;simp only[ho,xG hr hw];rcases h with⟨hb,q,v,d,g,_,e,hq,_,hf,rfl⟩|⟨hb,_,rfl⟩
 ·rw[if_pos hb]
  exact .inl (Ik hG (K:=fun v' d'=>v'=v∧d'=d) (by rw[e];exact hf) (by rw[e];exact⟨hq,rfl,rfl⟩) hr fun v' d' β' a' w' hk qE=>by
   obtain⟨rfl,rfl⟩:=hk;exact hK β' a' w' qE)
 ·rw[if_neg (by rw[hb];simp)];exact hK β _ w (hr.put (dst:=o.dst) ⟨[],rfl,.nil⟩ hr.heap (bM.refl _ _))
def cr(ops:Array Oper)(cF:Array Bool):List Nat:=(List.range ops.size).filter fun i=> !cF.getD i true
theorem CF(hG:GOk P G)(hM:∀i o,ops[i]? =some o→amA ops M fp i o)
  {W:World} {ai:Hp} {β₀:Env} {Q:Exit→Act→World→Prop} {sf:St} (hQ:∀β a w,Rel W ai β₀ β sf a w→Q .normal a w):
  ∀ (fuel:Nat) (cF:Array Bool) (st:St) (β:Env) (a:Act) (w:World),cF.size=ops.size→(cr ops cF).length=fuel→
   (∀j oj,ops[j]? =some oj→cF.getD j false=true→∀e∈oj.after,Region.binds .any e=true→cF.getD e.on false=true)→
   tA P G ops ids fp (cr ops cF) st sf→Rel W ai β₀ β st a w→wpAny P .any ops Q fuel cF a w:=by
 intro fuel
 induction fuel with
 |zero=>
  intro cF st β a w Yj hlen ED hex hr;have h0:cr ops cF= []:=List.eq_nil_of_length_eq_zero hlen;rw[h0]at hex
  cases hex
  refine⟨?_,hQ β a w hr⟩;refine List.eq_nil_iff_forall_not_mem.2 fun i hi=>?_
  have:i∈cr ops cF:=by
   simp only[Region.ready,List.mem_filter,Bool.and_eq_true]at hi;simp only[cr,List.mem_filter];exact⟨hi.1,hi.2.1⟩
  rw[h0]at this;cases this
 |succ fuel ih=>
  intro cF st β a w Yj hlen ED hex hr;constructor
  ·intro iY;exfalso
   cases hu:cr ops cF with
   |nil=>rw[hu]at hlen;simp at hlen
   |cons i l=>
    have Iq:i∈cr ops cF:=by rw[hu];simp
    have hi:i<ops.size∧(!cF.getD i true)=true:=by
     simpa [cr]using Iq
    have ME:∀j,j<i→cF.getD j true=true:=by
     intro j hj;refine Classical.byContradiction fun tm=>?_
     have UE:j∈cr ops cF:=by
      simp only[cr,List.mem_filter,List.mem_range];exact⟨by omega,by simpa using tm⟩
     have hpw:(cr ops cF).Pairwise (· < ·):=(List.pairwise_lt_range (n:=ops.size)).filter _;rw[hu]at hpw UE;rcases List.mem_cons.1 UE with rfl|UE
     ·omega
     ·have:=List.rel_of_pairwise_cons hpw UE;omega
    have qE:i∈Region.ready .any ops cF:=by
     rw[mem_ready];obtain⟨oi,zM⟩:∃oi,ops[i]? =some oi:=⟨ops[i]'hi.1,by simp[hi.1]⟩;refine⟨by simpa using hi.2,oi,zM,fun e he hb=>?_⟩;have eV:=(hM i oi zM).early e he hb;have h1:=ME e.on eV;have:e.on<cF.size:=(by omega);simp[this]at h1 ⊢;exact h1
    rw[iY]at qE;cases qE
  ·intro i hi;obtain⟨hun,oi,zM,El⟩:=mem_ready.1 hi;have auz:i<ops.size:=(Array.getElem?_eq_some_iff.1 zM).1
   have aqi:i∈cr ops cF:=by
    simp only[cr,List.mem_filter,List.mem_range];exact⟨auz,by simpa using hun⟩
   obtain⟨l1,l2,hl⟩:=List.append_of_mem aqi;have hpw:(cr ops cF).Pairwise (· < ·):=(List.pairwise_lt_range (n:=ops.size)).filter _;rw[hl]at hpw hex;obtain⟨p1,p2,p3⟩:=List.pairwise_append.1 hpw
   have aqj:∀j,cF.getD j false=false→∀i oi,ops[i]? =some oi→(∀e∈oi.after,Region.binds .any e=true→cF.getD e.on false=true)→Nat.testBit (M i) j=false:=by
    intro j hj i
    induction i using Nat.strongRecOn with
    |_ i ih2=>
     intro oi zM El;refine Bool.eq_false_iff.2 fun ht=>?_;obtain⟨e,he,hb,hor⟩:=(hM i oi zM).waits j ht;have hle:=El e he hb;rcases hor with rfl|ht'
     ·rw[hj]at hle;cases hle
     ·have eV:=(hM i oi zM).early e he hb
      obtain⟨oe,hoe⟩:∃oe,ops[e.on]? =some oe:=⟨ops[e.on]'(by have:=(Array.getElem?_eq_some_iff.1 zM).1;omega),by
       have:=(Array.getElem?_eq_some_iff.1 zM).1;simp[show e.on<ops.size by omega]⟩
      have:=ih2 e.on eV oe hoe (ED e.on oe hoe hle);rw[this]at ht';cases ht'
   have hl1:∀j∈l1,j<i∧Nat.testBit (M i) j=false:=by
    intro j hj;refine⟨p3 j hj i (by simp),aqj j ?_ i oi zM El⟩;have UE:j∈cr ops cF:=(by rw[hl];simp[hj]);simp only[cr,List.mem_filter,List.mem_range]at UE;have:j<cF.size:=(by omega);simp[this]at UE ⊢;exact UE.2
   obtain⟨s,h1,h2⟩:=zO hM zM l1 l2 st sf hl1 hex;refine YE hG h1 hr fun β' a' w' qE=>?_
   have Ct:cr ops (cF.setIfInBounds i true)=l1++l2:=by
    have e1:cr ops (cF.setIfInBounds i true)=(cr ops cF).filter (fun k=>k !=i):=by
     unfold cr;rw[List.filter_filter]
     apply List.filter_congr
     intro k hk;have l9:k<ops.size:=List.mem_range.1 hk
     by_cases XW:k=i
     ·subst XW;simp[Array.getD_eq_getD_getElem?,Yj,l9]
     ·rw[getD_set_ne true (Ne.symm XW)];simp[XW]
    rw[e1,hl,List.filter_append];have f1:l1.filter (fun k=>k !=i)=l1:=List.filter_eq_self.2 fun k hk=>by have:=(hl1 k hk).1;simp;omega
    have f2:(i::l2).filter (fun k=>k !=i)=l2:=by
     rw[List.filter_cons];simp only[bne_self_eq_false,Bool.false_eq_true,if_false]
     exact List.filter_eq_self.2 fun k hk=>by
      have:=List.rel_of_pairwise_cons p2 hk;simp;omega
    rw[f1,f2]
   refine ih (cF.setIfInBounds i true) s β' a' w' (by simpa using Yj) ?_ ?_ (by rw[Ct];exact h2) qE
   ·rw[Ct];have:(cr ops cF).length=(l1++i::l2).length:=(by rw[hl]);simp at this ⊢;omega
   ·intro j oj EC hlj e he hb
    by_cases hji:j=i
    ·subst hji;rw[zM]at EC;simp at EC;subst EC;exact getD_set_true (El e he hb)
    ·rw[getD_set_ne false (Ne.symm hji)]at hlj;exact getD_set_true (ED j oj EC hlj e he hb)
end
def yj(ops:Array Oper)(fs:List FP):Option (Option Prop):=match pg ops (tB ops.toList []) fs ops.toList 0 with
 |some []=>some none
 |some l=>some (some (amz l))
 |none=>none
theorem EE{ops:Array Oper}{fs:List FP}{q:Option Prop}(h:yj ops fs=some q)(hq:eZ q):∃l,pg ops (tB ops.toList []) fs ops.toList 0=some l∧∀p∈l,p:=by
 unfold yj at h
 split at h
 ·rename_i h1;exact⟨[],h1,fun p hp=>by cases hp⟩
 ·rename_i l _ h1
  cases h
  exact⟨l,h1,fun p hp=>Io hq hp⟩
 ·cases h
def EF(P:Program)(G:zH)(ops:Array Oper)(C2:List FP→Option (Option Prop))(W:World)(m:Hp)(β₀:Env)(R:Exit→St→Prop)(acc:List FP)(k n:Nat)(st:St):Prop:=
 ∃ (ids:Nat→Nat) (fs:List FP) (sf:St),fs.length=n∧tA P G ops ids (fun i=>fs.getD (i-k) none) (List.range' k n) st sf∧(∃q,C2 (acc++fs)=some q∧eZ q)∧(∀β a w,Rel W m β₀ β sf a w→oG W m β₀ R .normal a w)
theorem xJ{P:Program}{G:zH}{A:Alt}{m:Hp}{C2:List FP→Option (Option Prop)}{ops:Array Oper}{W:World}{β₀:Env}:
  ∀ (l:List Oper) (k:Nat) (B:zI) (acc:List FP) (st:St) (R:Exit→St→Prop),(∀j,l[j]? =ops[k+j]?)→kO B st→(iZ P G A m true C2 ops l B acc st).sat R→
   EF P G ops C2 W m β₀ R acc k l.length st
 | [],k,B,acc,st,R,_,_,h=>by
  simp only[iZ]at h
  split at h
  ·rename_i q hc;exact⟨fun _=>0,[],st,rfl,.nil,⟨q,by simpa using hc,(kF h).1⟩,fun β a w hr=>⟨st,β,(kF h).2,hr⟩⟩
  ·exact h.elim
 |o::rest,k,B,acc,st,R,hl,hB,h=>by
  have h0:ops[k]? =some o:=by simpa using(hl 0).symm
  have hl':∀j,rest[j]? =ops[k+1+j]? :=fun j=>by
   have:=hl (j+1);simpa [Nat.add_assoc,Nat.add_comm 1 j]using this
  have build:∀ (s:St) (f:FP),(∀ids fp,ids k=st.hp.length→fp k=f→tz P G ops ids fp k st s)→
    ∀ (B:zI) (R':Exit→St→Prop),kO B s→(iZ P G A m true C2 ops rest B (acc++ [f]) s).sat R'→(∀e a w,oG W m β₀ R' e a w→oG W m β₀ R e a w)→
    EF P G ops C2 W m β₀ R acc k (o::rest).length st:=by
   intro s f Ir B R' hB hs hR;obtain⟨ids,fs,sf,e0,e1,e2,e3⟩:=xJ rest (k+1) B (acc++ [f]) s R' hl' hB hs;refine⟨fun i=>if i=k then st.hp.length else ids i,f::fs,sf,by simp[e0],?_,by simpa using e2,fun β a w hr=>hR _ _ _ (e3 β a w hr)⟩;simp only[List.length_cons,List.range'_succ];refine .cons (Ir _ _ (if_pos rfl) (by simp)) ?_
   have key:∀ (l:List Nat) (x y:St),(∀i∈l,k+1≤i)→tA P G ops ids (fun i=>fs.getD (i-(k+1)) none) l x y→tA P G ops (fun i=>if i=k then st.hp.length else ids i) (fun i=>(f::fs).getD (i-k) none) l x y:=by
    intro l x y gv hx
    induction hx with
    |nil=>exact .nil
    |cons h t ih=>
     rename_i i l s1 s2 s3;refine .cons ?_ (ih fun i hi=>gv i (by simp[hi]));have hik:=gv i (by simp);unfold tz at h ⊢
     have e1:(f::fs).getD (i-k) none=fs.getD (i-(k+1)) none:=by
      rw[show i-k=(i-(k+1))+1 by omega];rfl
     have e2:(fun i=>if i=k then st.hp.length else ids i) i=ids i:=if_neg (by omega);simp only[e2,e1];exact h
   exact key _ _ _ (fun i hi=>by have:=List.mem_range'_1.1 hi;omega) e1
  have dL:∀ (b:SB),dN st ops o=some b→b.val=true→∀ (B:zI) (R':Exit→St→Prop),kO B st→(((mN P G B st.hp.length (ev st) o.op).val st.hp).rH true fun v d=>
    iZ P G A m true C2 ops rest (forget B o.dst) (acc++ [Uz (mN P G B st.hp.length (ev st) o.op) st.hp v d]) (put st o.dst v (aF d st.hp))).sat R'→(∀e a w,oG W m β₀ R' e a w→oG W m β₀ R e a w)→EF P G ops C2 W m β₀ R acc k (o::rest).length st:=by
   intro b hb hbv B R' hB hs hR;obtain⟨q,v,d,hst,n1,n2⟩:=Mz hs
   have hH:∃q',(il P G (nD B o.op) st.hp.length (ev st) o.op).val st.hp= .leaf q' v d∧eZ q'∧(il P G (nD B o.op) st.hp.length (ev st) o.op).log st.hp=(mN P G B st.hp.length (ev st) o.op).log st.hp∧
     ∀f:FX,Uz (mN P G B st.hp.length (ev st) o.op) st.hp v d=some f→aqb f (il P G (nD B o.op) st.hp.length (ev st) o.op):=by
    rcases Rh (P:=P) (G:=G) (id:=st.hp.length) (op:=o.op) hB with e|⟨v',p,e1,e2,hp⟩
    ·rw[← e];refine⟨q,hst,n1,rfl,fun f hf h=>?_⟩;simp only[Uz,Option.some.injEq]at hf;subst hf;exact⟨rfl,fun v' hv=>⟨none,hv,trivial⟩⟩
    ·rw[e1]at hst;simp only[Ask.val]at hst
     cases hst
     refine⟨some p,by rw[e2];rfl,hp,by rw[e1,e2];rfl,fun f hf h=>?_⟩;simp only[Uz,Option.some.injEq]at hf;subst hf;rw[e1,e2];refine⟨rfl,fun v' hv=>⟨some p,?_,hp⟩⟩;simp only[Ask.val,Out.leaf.injEq]at hv;rw[← hv.2.1];rfl
   obtain⟨q',k1,k2,k3,k4⟩:=hH;exact build _ _ (fun ids fp agu hfp=>⟨o,b,h0,hb,.inl ⟨hbv,q',v,d,_,_,by rw[agu];exact k1,k2,⟨hfp,by rw[agu];exact k3.symm,rfl,rfl,by rw[agu];exact k4 _ rfl⟩,by rw[agu];exact tw _ _,rfl⟩⟩) _ R' hB.put n2 hR
  have Il:∀ (b:SB),dN st ops o=some b→b.val=false→∀ (B:zI) (R':Exit→St→Prop),kO B st→(iZ P G A m true C2 ops rest (forget B o.dst) (acc++ [none]) (put st o.dst (.cT []) st.hp)).sat R'→
    (∀e a w,oG W m β₀ R' e a w→oG W m β₀ R e a w)→EF P G ops C2 W m β₀ R acc k (o::rest).length st:=by
   intro b hb hbv B R' hB hs hR;exact build (put st o.dst (.cT []) st.hp) none (fun ids fp _ hfp=>⟨o,b,h0,hb,.inr ⟨hbv,hfp,rfl⟩⟩) _ R' hB.put hs hR
  simp only[iZ]at h
  cases MF:nC B st ops o with
  |none=>simp only[MF]at h;exact h.elim
  |some b=>
   obtain⟨b',hb,hbv⟩:=zK hB MF;simp only[MF]at h
   cases b with
   |lit b=>
    cases b with
    |true=>exact dL _ hb hbv B R hB h fun _ _ _ h=>h
    |false=>exact Il _ hb hbv B R hB h fun _ _ _ h=>h
   |sym b=>
    cases b with
    |true=>
     obtain⟨R',h1,h2⟩:=A.yes (W:=W) (β₀:=β₀) h;exact dL _ hb hbv _ R' (tv hB MF) h1 h2
    |false=>
     obtain⟨R',h1,h2⟩:=A.no (W:=W) (β₀:=β₀) h;exact Il _ hb hbv _ R' (tv hB MF) h1 h2
noncomputable section
variable {P:Program} {G:zH}
theorem zP(hG:GOk P G){A:Alt}(lB:P.follows .mixedOrders=true){m:Hp}{ops:Array Oper}{id:Nat}{st:St}(hd:tC ops.toList 0=true){R:Exit→St→Prop}
  (h:(iZ P G A m true (yj ops) ops ops.toList [] [] st).sat R) {W:World} {β₀:Env} {Q:Exit→Act→World→Prop} (hq:∀e a w,oG W m β₀ R e a w→Q e a w) {β:Env} {a:Act} {w:World}
  (hr:Rel W m β₀ β st a w):(Code.region id ops true).wp P Q a w:=by
 obtain⟨ids,fs,sf,e0,e1,⟨q,e2,e2'⟩,e3⟩:=xJ (W:=W) (β₀:=β₀) ops.toList 0 [] [] st R (fun j=>by simp) (fun _ _ h=>by simp[known]at h) h;obtain⟨hE,_⟩:=zN (ops:=ops) ops.toList [] [] (by simp) rfl hd;obtain⟨ps,p1,p2⟩:=EE (by simpa using e2) e2'
 have hM:∀i o,ops[i]? =some o→amA ops (fun i=>(tB ops.toList []).getD i 0) (fun i=>fs.getD (i-0) none) i o:=by
  intro i o ho;obtain⟨k1,k2⟩:=hE _ (fun _=>rfl) i o (Nat.zero_le _) ho;exact⟨k1,fun j oj hj EC=>rI ops.toList 0 (fun j=>by simp) p1 p2 i o (Nat.zero_le _) ho j oj hj EC,k2⟩
 refine wp_region_any lB ?_
 have Ct:cr ops (Array.replicate ops.size false)=List.range' 0 ops.toList.length:=by
  unfold cr;rw[List.filter_eq_self.2 fun i hi=>?_]
  ·rw[List.range_eq_range'];simp
  ·have:=List.mem_range.1 hi;simp[this]
 refine CF hG hM (ids:=ids) (sf:=sf) (fun β a w hr=>hq _ _ _ (e3 β a w hr)) ops.size _ st β a _ (by simp) (by rw[Ct];simp) ?_ (by rw[Ct];exact e1) ?_
 ·intro j oj _ hl;exfalso
  by_cases hj:j<ops.size
  ·simp[hj]at hl
  ·simp[hj]at hl
 ·exact⟨hr.defers,hr.fr,hr.heap.drew _ _⟩
end
def YF:Nat→(St→aZ)→St→aZ
 |0,_,_=>.fail
 |k+1,f,st=>(f st).bind (YF k f)
def amB:Nat:=100000
def Ex(P:Program)(m:Hp)(c:Code)(st:St)(r:aZ):Prop:=
 ∀ (W:World) (β₀:Env) (R:Exit→St→Prop) (Q:Exit→Act→World→Prop),r.sat R→(∀e a w,oG W m β₀ R e a w→Q e a w)→
  ∀β a w,Rel W m β₀ β st a w→c.wp P Q a w
abbrev fq:=List (Nat×(St→aZ))
def C4:fq→Nat→Option (St→aZ)
 | [],_=>none
 |(i,f)::l,id=>if i=id then some f else C4 l id
def aO(P:Program)(m:Hp)(LT:fq):Code→Prop
 | .seq a b| .cond _ a b=>aO P m LT a∧aO P m LT b
 | .block id c=>aO P m LT c∧∀f,C4 LT id=some f→∀st,Ex P m c st (f st)
 | .loop c| .scope c=>aO P m LT c
 |_=>True
theorem aO.nil{P:Program}{m:Hp}:∀c:Code,aO P m [] c:=by
 intro c
 induction c with
 |seq a b YG YH=>exact⟨YG,YH⟩
 |cond _ a b YG YH=>exact⟨YG,YH⟩
 |block id c ih=>exact⟨ih,fun f h=>by cases h⟩
 |loop c ih=>exact ih
 |scope c ih=>exact ih
 |_=>trivial
def CG:Code→List (Nat×Code)
 | .seq a b| .cond _ a b=>CG a++CG b
 | .block id c=>(id,c)::CG c
 | .loop c| .scope c=>CG c
 |_=> []
theorem aO.of{P:Program}{m:Hp}{LT:fq}:∀ {c:Code},(∀id f c',C4 LT id=some f→(id,c')∈CG c→∀st,Ex P m c' st (f st))→aO P m LT c:=by
 intro c
 induction c with
 |seq a b YG YH=>exact fun h=>⟨YG fun id f c' hf hm=>h id f c' hf (List.mem_append_left _ hm),YH fun id f c' hf hm=>h id f c' hf (List.mem_append_right _ hm)⟩
 |cond _ a b YG YH=>exact fun h=>⟨YG fun id f c' hf hm=>h id f c' hf (List.mem_append_left _ hm),YH fun id f c' hf hm=>h id f c' hf (List.mem_append_right _ hm)⟩
 |block id c ih=>exact fun h=>⟨ih fun id f c' hf hm=>h id f c' hf (List.mem_cons_of_mem _ hm),fun f hf=>h id f c hf (by simp[CG])⟩
 |loop c ih=>exact fun h=>ih h
 |scope c ih=>exact fun h=>ih h
 |_=>exact fun _=>trivial
def exec(P:Program)(G:zH)(A:Alt)(m:Hp)(LT:fq):Code→St→aZ
 | .skip,st=>.leaf .normal st
 | .seq a b,st=>(exec P G A m LT a st).bind (exec P G A m LT b)
 | .cond c x y,st=>match ev st c with
  | .one (.sc (.bool (.lit true)))=>exec P G A m LT x st
  | .one (.sc (.bool (.lit false)))=>exec P G A m LT y st
  | .one (.sc (.bool (.sym b)))=>A.f b m (exec P G A m LT x st) (exec P G A m LT y st)
  |_=>.fail
 | .block id c,st=>match C4 LT id with
  |some f=>(f st).block id
  |none=>(exec P G A m LT c st).block id
 | .exit id,st=>.leaf (.exit id) st
 | .ret,st=>.leaf .ret st
 | .label _,st=>.leaf .normal st
 | .scope c,st=>(exec P G A m LT c st).scope
 | .loop c,st=>YF amB (exec P G A m LT c) st
 | .region _ ops false,st=>iZ P G A m false (fun _=>some none) ops ops.toList [] [] st
 | .region _ ops true,st=>if tC ops.toList 0=true then iZ P G A m true (yj ops) ops ops.toList [] [] st else .fail
 |_,_=>.fail
def aqk(R:Exit→St→Prop)(f:St→aZ):Exit→St→Prop
 | .normal,st=>(f st).sat R
 |e,st=>R e st
theorem ph{f:St→aZ}{R:Exit→St→Prop}:∀ {r:aZ},(r.bind f).sat R→r.sat (aqk R f)
 | .leaf .normal _,h=>h
 | .leaf (.exit _) _,h=>h
 | .leaf (.goto _) _,h=>h
 | .leaf .ret _,h=>h
 | .leaf (.panic _) _,h=>h
 | .leaf .outgrown _,h=>h
 | .ite _ _ _,h=>⟨fun e=>ph (h.1 e),fun e=>ph (h.2 e)⟩
 | .need _ _,h=>⟨h.1,ph h.2⟩
 | .fail,h=>h
def MG(R:Exit→St→Prop)(id:Nat):Exit→St→Prop
 | .exit i,st=>if i=id then R .normal st else R (.exit i) st
 |e,st=>R e st
theorem mQ{id:Nat}{R:Exit→St→Prop}:∀ {r:aZ},(r.block id).sat R→r.sat (MG R id)
 | .leaf (.exit i) st,h=>by
  simp only[aZ.block]at h;show if i=id then R .normal st else R (.exit i) st
  split at h
  ·rename_i hi;rw[if_pos hi];exact h
  ·rename_i hi;rw[if_neg hi];exact h
 | .leaf .normal _,h=>h
 | .leaf (.goto _) _,h=>h
 | .leaf .ret _,h=>h
 | .leaf (.panic _) _,h=>h
 | .leaf .outgrown _,h=>h
 | .ite _ _ _,h=>⟨fun e=>mQ (h.1 e),fun e=>mQ (h.2 e)⟩
 | .need _ _,h=>⟨h.1,mQ h.2⟩
 | .fail,h=>h
def auB(R:Exit→St→Prop):Exit→St→Prop
 | .goto _,_=>False
 |e,st=>R e st
theorem qG{R:Exit→St→Prop}:∀ {r:aZ},r.scope.sat R→r.sat (auB R)
 | .leaf .normal _,h=>h
 | .leaf (.exit _) _,h=>h
 | .leaf (.goto _) _,h=>h
 | .leaf .ret _,h=>h
 | .leaf (.panic _) _,h=>h
 | .leaf .outgrown _,h=>h
 | .ite _ _ _,h=>⟨fun e=>qG (h.1 e),fun e=>qG (h.2 e)⟩
 | .need _ _,h=>⟨h.1,qG h.2⟩
 | .fail,h=>h
theorem agv{P:Program}{G:zH}{A:Alt}(hG:GOk P G)(lB:P.follows .mixedOrders=true){W:World}{m:Hp}{LT:fq}{β₀:Env}:
  ∀ (c:Code),aO P m LT c→∀ (st:St) (R:Exit→St→Prop) (Q:Exit→Act→World→Prop),(exec P G A m LT c st).sat R→(∀e a w,oG W m β₀ R e a w→Q e a w)→
   ∀β a w,Rel W m β₀ β st a w→c.wp P Q a w:=by
 intro c
 induction c with
 |skip=>intro hL st R Q h hq β a w hr;exact wp_skip (hq _ _ _ ⟨st,β,h,hr⟩)
 |exit id=>intro hL st R Q h hq β a w hr;exact wp_exit (hq _ _ _ ⟨st,β,h,hr⟩)
 |ret=>intro hL st R Q h hq β a w hr;exact wp_ret (hq _ _ _ ⟨st,β,h,hr⟩)
 |seq x y ihx ihy=>
  intro hL st R Q h hq β a w hr;refine wp_seq (ihx hL.1 st _ _ (ph h) ?_ β a w hr)
  rintro e a w ⟨s,β',h1,h2⟩
  cases e with
  |normal=>exact ihy hL.2 s R Q h1 hq β' a w h2
  |exit _=>exact hq _ _ _ ⟨s,β',h1,h2⟩
  |goto _=>exact hq _ _ _ ⟨s,β',h1,h2⟩
  |ret=>exact hq _ _ _ ⟨s,β',h1,h2⟩
  |panic _=>exact hq _ _ _ ⟨s,β',h1,h2⟩
  |outgrown=>exact hq _ _ _ ⟨s,β',h1,h2⟩
 |cond c x y ihx ihy=>
  intro hL st R Q h hq β a w hr;have hc:=aM hr c;simp only[exec]at h
  split at h
  ·rename_i he;rw[he]at hc;exact wp_cond_true hc (ihx hL.1 st R Q h hq β a w hr)
  ·rename_i he;rw[he]at hc;exact wp_cond_false hc (ihy hL.2 st R Q h hq β a w hr)
  ·rename_i b he;rw[he]at hc
   cases b with
   |true=>
    obtain⟨R',h1,h2⟩:=A.yes (W:=W) (β₀:=β₀) h;exact wp_cond_true hc (ihx hL.1 st R' Q h1 (fun e a w hp=>hq e a w (h2 e a w hp)) β a w hr)
   |false=>
    obtain⟨R',h1,h2⟩:=A.no (W:=W) (β₀:=β₀) h;exact wp_cond_false hc (ihy hL.2 st R' Q h1 (fun e a w hp=>hq e a w (h2 e a w hp)) β a w hr)
  ·exact h.elim
 |block id c ih=>
  intro hL st R Q h hq β a w hr
  have hin:∀Q',(∀e a w,oG W m β₀ (MG R id) e a w→Q' e a w)→c.wp P Q' a w:=by
   intro Q' Yk;simp only[exec]at h
   split at h
   ·rename_i f hf;exact hL.2 f hf st W β₀ _ _ (mQ h) Yk β a w hr
   ·exact ih hL.1 st _ _ (mQ h) Yk β a w hr
  refine wp_block (hin _ ?_)
  rintro e a w ⟨s,β',h1,h2⟩
  cases e with
  |exit i=>
   simp only[MG]at h1;simp only[Exit.inBlock]
   split at h1
   ·rename_i hi;rw[if_pos hi];exact hq _ _ _ ⟨s,β',h1,h2⟩
   ·rename_i hi;rw[if_neg hi];exact hq _ _ _ ⟨s,β',h1,h2⟩
  |normal=>exact hq _ _ _ ⟨s,β',h1,h2⟩
  |goto _=>exact hq _ _ _ ⟨s,β',h1,h2⟩
  |ret=>exact hq _ _ _ ⟨s,β',h1,h2⟩
  |panic _=>exact hq _ _ _ ⟨s,β',h1,h2⟩
  |outgrown=>exact hq _ _ _ ⟨s,β',h1,h2⟩
 |loop c ih=>
  intro hL st R Q h hq β a w hr
  have key:∀ (n:Nat) (st:St),(YF n (exec P G A m LT c) st).sat R→∀β a w,Rel W m β₀ β st a w→Code.rounds P c Q n a w:=by
   intro n
   induction n with
   |zero=>intro st h;exact h.elim
   |succ n ihn=>
    intro st h β a w hr;rw[rounds_succ];refine ih hL st _ _ (ph h) ?_ β a w hr
    rintro e a w ⟨s,β',h1,h2⟩
    cases e with
    |normal=>exact ihn s h1 β' a w h2
    |exit _=>exact hq _ _ _ ⟨s,β',h1,h2⟩
    |goto _=>exact hq _ _ _ ⟨s,β',h1,h2⟩
    |ret=>exact hq _ _ _ ⟨s,β',h1,h2⟩
    |panic _=>exact hq _ _ _ ⟨s,β',h1,h2⟩
    |outgrown=>exact hq _ _ _ ⟨s,β',h1,h2⟩
  exact wp_loop_rounds amB (key amB st h β a w hr)
 |label l=>intro hL st R Q h hq β a w hr;exact wp_label (hq _ _ _ ⟨st,β,h,hr⟩)
 |scope c ih=>
  intro hL st R Q h hq β a w hr;refine wp_scope_straight (ih hL st _ _ (qG h) ?_ β a w hr)
  rintro e a w ⟨s,β',h1,h2⟩
  cases e with
  |goto _=>exact h1.elim
  |normal=>exact hq _ _ _ ⟨s,β',h1,h2⟩
  |exit _=>exact hq _ _ _ ⟨s,β',h1,h2⟩
  |ret=>exact hq _ _ _ ⟨s,β',h1,h2⟩
  |panic _=>exact hq _ _ _ ⟨s,β',h1,h2⟩
  |outgrown=>exact hq _ _ _ ⟨s,β',h1,h2⟩
 |region id ops d=>
  intro hL st R Q h hq β a w hr
  cases d with
  |false=>exact wp_region_list (zL hG ops.toList [] [] st R (fun _ _ h=>by simp[known]at h) h hq β a w hr)
  |true=>
   simp only[exec]at h
   split at h
   ·rename_i hd;exact zP hG lB hd h hq hr
   ·exact h.elim
 |_=>intro hL st R Q h;exact h.elim
theorem Ex.Rj{P:Program}{G:zH}{A:Alt}(hG:GOk P G)(lB:P.follows .mixedOrders=true){m:Hp}{LT:fq}{c:Code}(hL:aO P m LT c){st:St}{r:aZ}(h:exec P G A m LT c st=r):Ex P m c st r:=
 fun _ _ R Q hs hq β a w hr=>agv hG lB c hL st R Q (h▸hs) hq β a w hr
theorem Ex.Un{P:Program}{m:Hp}{c:Code}{st:St}{r r':aZ}(h:Ex P m c st r)(hw:∀R,r'.sat R→r.sat R):Ex P m c st r':=
 fun W β₀ R Q hs hq β a w hr=>h W β₀ R Q (hw R hs) hq β a w hr
def aZ.nor(R:St→Prop):aZ→Prop:=aZ.sat fun e s=>e= .normal→R s
def wg(P:Program)(st:St):ResultVar→Option VV
 | .tmp t=>match ev st (.tmp t)with
  | .one x=>some x
  |_=>none
 | .cell a t=>match ev st (.tmp a)with
  | .one (.sc (.ptr b off))=>match bq st.hp b with
   |some (.bm cells _)=>fk P t cells off
   |_=>none
  |_=>none
def It(P:Program)(fn:Func)(st:St):Option LV:=
 match cX (wg P st) fn.results.toList with
 |some [x]=>some (.one x)
 |some l=>some (.cT l)
 |none=>none
def EG(a:Act):ResultVar→Sem Value
 | .tmp t=>pure (a.tmps.getD t undef)
 | .cell b t=>do loadVar t (← asAddr (a.tmps.getD b undef))
theorem MH(fn:Func)(a:Act):results fn a.tmps=(do let vs ← fn.results.mapM (EG a);pure (if h:vs.size=1 then vs[0]else .tuple vs)):=by
 unfold results
 congr 2
theorem MI{P:Program}{W:World}{ai:Hp}{β₀ β:Env}{st:St}{a:Act}{w:World}(hr:Rel W ai β₀ β st a w){r:ResultVar}{x:VV}(h:wg P st r=some x):
  ∃v,(EG a r).run P w= .ok v w∧x.den β (kd st.hp) v:=by
 cases r with
 |tmp t=>
  simp only[wg]at h
  split at h
  ·rename_i y hy;simp at h;subst h;have:=aM hr (.tmp t);rw[hy]at this;exact⟨_,rfl,this⟩
  ·simp at h
 |cell b t=>
  simp only[wg]at h
  split at h
  ·rename_i i off hy
   split at h
   ·rename_i cells elem hb;have:=aM hr (.tmp b);rw[hy]at this;obtain⟨_,e⟩:=this;have e':a.tmps.getD b undef= .pointer (some ⟨β.b i,off,none⟩):=e;obtain⟨c,fz,_,_,h3,h4⟩:=hr.heap.gf (aw hb);obtain⟨v,h5,h6⟩:=ki (P:=P) rfl h4 h3 h;rw[bW,Nat.zero_add]at h5;exact⟨v,by simp[EG,e',asAddr,h5],h6⟩
   ·simp at h
  ·simp at h
theorem Iu{P:Program}{fn:Func}{W:World}{ai:Hp}{β₀ β:Env}{st:St}{a:Act}{w:World}(hr:Rel W ai β₀ β st a w){r:LV}(h:It P fn st=some r):
  ∃v,(results fn a.tmps).run P w= .ok v w∧r.den β (kd st.hp) v:=by
 have key:∀ (l:List ResultVar) (xs:List VV),cX (wg P st) l=some xs→∃vs:List Value,(l.mapM (EG a)).run P w= .ok vs w∧bP (VV.den β (kd st.hp)) xs vs:=by
  intro l
  induction l with
  |nil=>intro xs h;simp[cX]at h;subst h;exact⟨[],by simp,.nil⟩
  |cons r l ih=>
   intro xs h;simp only[cX]at h
   split at h
   ·rename_i y m' h1 h2;simp at h;subst h;obtain⟨v,e1,e2⟩:=MI hr h1;obtain⟨vs,e3,e4⟩:=ih _ h2;refine⟨v::vs,?_,.cons e2 e4⟩;simp only[List.mapM_cons,Sem.run_bind];rw[e1];simp only[Result.andThen_ok,Sem.run_pure,e3]
   ·simp at h
 unfold It at h
 have dL:∀ (vs:List Value) (xs:List VV),cX (wg P st) fn.results.toList=some xs→(∀vs:List Value,bP (VV.den β (kd st.hp)) xs vs→∃v,(if h:vs.toArray.size=1 then vs.toArray[0]else .tuple vs.toArray)=v∧r.den β (kd st.hp) v)→
   ∃v,(results fn a.tmps).run P w= .ok v w∧r.den β (kd st.hp) v:=by
  intro _ xs hx hv;obtain⟨vs,e1,e2⟩:=key _ _ hx;obtain⟨v,e3,e4⟩:=hv vs e2;refine⟨v,?_,e4⟩;rw[MH,Sem.run_bind,Array.mapM_eq_mapM_toList];simp only[Sem.run_map,e1,Result.andThen_ok];rw[← e3];rfl
 split at h
 ·rename_i x hx;simp at h;subst h;refine dL [] [x] hx fun vs hvs=>?_
  cases hvs with
  |cons h1 h2=>
   cases h2
   exact⟨_,rfl,h1⟩
 ·rename_i l gv hl;simp at h;subst h;refine dL [] l hl fun vs hvs=>?_;have hlen:=hvs.length
  have:vs.length≠1:=by
   intro e;rw[e]at hlen;obtain⟨x,hx⟩:=List.length_eq_one_iff.1 hlen;exact gv x hx
  refine⟨_,by rw[dif_neg (by simpa using this)],vs,rfl,hvs⟩
 ·simp at h
theorem a9.self{W:World}{ai:Hp}{β₀ β:Env}{hp:Hp}{w:World}(h:a9 W ai β₀ β hp w):a9 w hp β β hp w:=
 ⟨h.items,h.inj,bM.refl _ _,fun i x b hi ho=>.inr ⟨x,hi,ho⟩,rfl,rfl,Nat.le_refl _,fun _ _ _=>rfl,h.reads,fun pm v t l b h1 h2=>.inr ⟨pm,v,t,l,id,h1,h2⟩⟩
theorem a9.trans{W:World}{ai:Hp}{β₀ β β':Env}{hp eK:Hp}{w w':World}(h:a9 W ai β₀ β hp w)(h':a9 w hp β β' eK w'):a9 W ai β₀ β' eK w' where
 items:=h'.items
 inj:=h'.inj
 first:=h.first.trans h'.first
 own i x b hi ho:=by
  rcases h'.own i x b hi ho with h1|⟨y,hj,h1⟩
  ·exact .inl (Nat.le_trans h.size h1)
  ·exact h.own i y b hj h1
 os:=h'.os.trans h.os
 output:=h'.output.trans h.output
 size:=Nat.le_trans h.size h'.size
 an b hb gv:=by
  rw[h'.an b (by have:=h.size;omega) fun⟨i,x,hi,ho⟩=>?_]
  ·exact h.an b hb gv
  ·rcases h.own i x b hi ho with h1|⟨y,h1⟩
   ·omega
   ·exact gv ⟨i,y,h1⟩
 reads:=h'.reads
 from_ pm v t l b h1 h2:=by
  rcases h'.from_ pm v t l b h1 h2 with h3|⟨lA,v',t',l',h0,h3,h4⟩
  ·exact .inl (Nat.le_trans h.size h3)
  ·rcases h.from_ lA v' t' l' b h3 h4 with h5|⟨pm2,v2,t2,l2,h6,h7,h8⟩
   ·exact .inl h5
   ·exact .inr ⟨pm2,v2,t2,l2,fun e=>h6 (h0 e),h7,h8⟩
def iD(P:Program)(f:FuncId)(args:List LV)(hp:Hp)(R:LV→Hp→Prop):Prop:=
 ∀ (β:Env) (w:World) (vals:List Value),a9 w hp β β hp w→bP (LV.den β (kd hp)) args vals→
  Calls P f vals.toArray w fun e w'=>∃val β' r eK,e= .returned val∧R r eK∧r.den β' (kd eK) val∧a9 w hp β β' eK w'
def entry(fn:Func)(args:List LV)(hp:Hp):St:=⟨args++List.replicate (fn.ntmps-args.length) (.cT []),hp⟩
inductive End where
 |leaf (v:LV) (hp:Hp)
 |ite (b:Bool) (x y:End)
 |need (p:Prop) (x:End)
 |fail
def End.sat(R:LV→Hp→Prop):End→Prop
 | .leaf v hp=>R v hp
 | .ite b x y=>(b=true→x.sat R)∧(b=false→y.sat R)
 | .need p x=>p∧x.sat R
 | .fail=>False
def aZ.ends(P:Program)(fn:Func):aZ→End
 | .leaf .normal st| .leaf .ret st=>match It P fn st with
  |some v=>.leaf v st.hp
  |none=>.fail
 | .leaf _ _=>.fail
 | .ite b x y=>.ite b (x.ends P fn) (y.ends P fn)
 | .need p x=>.need p (x.ends P fn)
 | .fail=>.fail
theorem tE{P:Program}{fn:Func}{R:LV→Hp→Prop}:∀ {r:aZ},(r.ends P fn).sat R→r.sat fun e st=>(e= .normal∨e= .ret)∧∃v,It P fn st=some v∧R v st.hp
 | .leaf e st,h=>by
  cases e with
  |normal=>
   simp only[aZ.ends]at h
   split at h
   ·rename_i v hv;exact⟨.inl rfl,v,hv,h⟩
   ·exact h.elim
  |ret=>
   simp only[aZ.ends]at h
   split at h
   ·rename_i v hv;exact⟨.inr rfl,v,hv,h⟩
   ·exact h.elim
  |exit _=>exact h.elim
  |goto _=>exact h.elim
  |panic _=>exact h.elim
  |outgrown=>exact h.elim
 | .ite b x y,h=>⟨fun e=>tE (h.1 e),fun e=>tE (h.2 e)⟩
 | .need p x,h=>⟨h.1,tE h.2⟩
 | .fail,h=>h
def j6(P:Program)(f:FuncId)(args:List LV)(hp:Hp)(t:End):Prop:=∀R,t.sat R→iD P f args hp R
theorem MJ{P:Program}{f:FuncId}{fn:Func}{c:Code}(hf:P.funcs[f]? =some fn)(hb:fn.body=some c){args:List LV}{hp:Hp}{r:aZ}(hx:Ex P hp c (entry fn args hp) r):j6 P f args hp (r.ends P fn):=by
 intro R h β w vals hh dM;refine calls_of_wp hf hb ?_
 have amC:Rel w hp β β (entry fn args hp) {tmps:=vals.toArray++Array.replicate (fn.ntmps-vals.toArray.size) undef,defers:= []} w:=by
  refine⟨rfl,?_,hh⟩;show bP _ (args++List.replicate (fn.ntmps-args.length) (.cT [])) (vals.toArray++Array.replicate (fn.ntmps-vals.toArray.size) undef).toList;have hl:=dM.length
  have e:(vals.toArray++Array.replicate (fn.ntmps-vals.toArray.size) undef).toList=vals++List.replicate (fn.ntmps-args.length) undef:=by
   simp[hl]
  rw[e];refine dM.append ?_;generalize fn.ntmps-args.length=k
  induction k with
  |zero=>exact .nil
  |succ k ih=>exact .cons ⟨[],rfl,.nil⟩ ih
 refine hx _ _ _ _ (tE h) ?_ β _ w amC
 have key:∀ (a:Act) (w':World) (st:St) (β':Env) (x:LV),It P fn st=some x→R x st.hp→Rel w hp β β' st a w'→
   a.defers= []∧∃v,(results fn a.tmps).run P w'= .ok v w'∧(∃val β' r eK,Ending.returned v= .returned val∧R r eK∧r.den β' (kd eK) val∧a9 w hp β β' eK w'):=by
  intro a w' st β' x agw hR hr;obtain⟨v,h1,h2⟩:=Iu hr agw;exact⟨hr.defers,v,h1,v,β',x,st.hp,rfl,hR,h2,hr.heap⟩
 rintro e a w' ⟨st,β',⟨he,x,agw,hR⟩,hr⟩
 rcases he with rfl|rfl
 ·exact key a w' st β' x agw hR hr
 ·exact key a w' st β' x agw hR hr
def wh(P:Program)(f:FuncId):Prop:=∀ (as:Array Value) (w:World),(callFunc f as).run P w= .ok (.enter f as) w
end Go.Ev
end
