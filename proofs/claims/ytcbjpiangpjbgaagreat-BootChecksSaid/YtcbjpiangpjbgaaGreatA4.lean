/- What the laws lean on, part 4: a reader of code, plain facts, and what each function gives; no conditions. -/
import Derived.LoopN
import Derived.Orders
import Derived.Scope
import Derived.Test.YtcbjpiangpjbgaaGreatA3
set_option linter.unusedVariables false
set_option linter.unusedSimpArgs false
noncomputable section
namespace Go.Ev
open Go
open Go.IntKind (i64 signed u32 u64 wrap wrap_u32)
noncomputable section
variable {P:Program} {W:World} {an:Hp} {β₀ β:Env} {w:World} {st:St} {a:Act}
def aBk(P:Program)(W:World)(an:Hp)(β₀ β:Env)(st:St)(w:World)(s:Sem Next)(v:LV)(d:List (Nat×Item)):Prop:=
 ∃ (β':Env) (w':World) (val:Value),s.run P w= .ok (.value val) w'∧v.den β' (kd (aV d st.hp)) val∧bB W an β₀ β' (aV d st.hp) w'∧cb β β' (kd st.hp) (kd (aV d st.hp))
theorem avR(hr:Rel W an β₀ β st a w){t ty:TypeId}{x:SV}{n:SI}{v:Value}(hl:(avM P t x).val st.hp=some n)(hd:x.den β (kd st.hp) v):(Builtin.len_ #[t] ty #[v]).run P w= .ok (.int .i64 n.val) w:=by
 have hs:∀ {e:TypeId} {b:Option Addr} {k c:Nat},eE P t=some e→(Builtin.len_ #[t] ty #[.slice b k c]).run P w= .ok (goInt k) w:=fun he=>by
  have hu:=dY he;simp[Builtin.len_,run_underlying hu]
 have aBl:∀ {s:ByteArray},P.underlying t=some .string→(Builtin.len_ #[t] ty #[.string s]).run P w= .ok (goInt s.size) w:=fun hu=>by
  simp[Builtin.len_,run_underlying hu]
 have aBm:∀ {α:Type} {x y:α},(if P.underlying t matches some .string then some x else none)=some y→P.underlying t=some .string∧x=y:=by
  intro α x y h
  split at h
  ·rename_i hm;refine⟨?_,by simpa using h⟩
   revert hm
   cases hu:P.underlying t with
   |none=>simp
   |some d=>cases d<;>simp
  ·cases h
 unfold avM at hl
 split at hl
 ·simp only[Ask.val]at hl;obtain⟨e,he,rfl⟩:=map_some hl;obtain⟨_,rfl⟩:=hd;exact hs he
 ·simp only[Ask.val]at hl;obtain⟨e,he,rfl⟩:=map_some hl;obtain⟨_,rfl⟩:=hd;exact hs he
 ·simp only[Ask.val]at hl;obtain⟨hu,rfl⟩:=aBm hl;have e:v= .string _:=hd;rw[e,aBl hu,rv];rfl
 ·simp only[Ask.val]at hl;obtain⟨hu,rfl⟩:=aBm hl;obtain⟨_,rfl⟩:=hd;exact aBl hu
 ·split at hl
  ·rename_i e he;rw[Ask.dc]at hl;obtain⟨⟨pm,u3,l⟩,hc,rfl⟩:=map_some hl;obtain⟨b,c,rfl⟩:=(kN hr.heap hc hd).len;exact hs he
  ·simp[Ask.val]at hl
theorem vp{f:Int→Int→Int}{g:Value→Value→Sem Value}{k:IntKind}(hg:∀x y:Int,(g (.int k x) (.int k y)).run P w= .ok (.int k (f x y)) w){β:Env}{L:Nat→Option Kd}:
  ∀ (l:List SV) (vs:List Value) (x n:SI),bX (SV.den β L) l vs→vm f k x l=some n→(vs.foldlM g (.int k x.val)).run P w= .ok (.int k n.val) w
 | [],vs,x,n,hd,h=>by
  cases hd
  simp[vm]at h;subst h;simp
 | .int k' y::l,_,x,n,.cons (b:=b) (m:=vs) h1 h2,h=>by
  simp only[vm]at h
  split at h
  ·rename_i hk;subst hk;have e:b= .int k' y.val:=h1;subst e;simp only[List.foldlM_cons,Sem.run_bind,hg,Result.andThen_ok];have:=vp hg l vs _ n h2 h;rw[map2_val]at this;exact this
  ·cases h
theorem yZ{β:Env}{L:Nat→Option Kd}:∀ {xs:List LV} {ss:List SV} {vs:List Value},dn jr xs=some ss→bX (LV.den β L) xs vs→bX (SV.den β L) ss vs
 | [],_,_,h,hd=>by simp[dn]at h;subst h;cases hd;exact .nil
 |x::xs,ss,_,h,.cons h1 h2=>by
  simp only[dn]at h
  split at h
  ·rename_i s m hs hm;simp at h;subst h;exact .cons (bD hs h1) (yZ hm h2)
  ·cases h
theorem Vh(hr:Rel W an β₀ β st a w){id:Nat}{t u ty_:TypeId}{s x:SV}{q:Option Prop}{v:LV}{d:List (Nat×Item)}(h:(aas P id t u s x).val st.hp=some (q,v,d))(hq:fo q)(og:(∃x,(id,x)∈d)→kd st.hp id=none)
  {sv xv:Value} (hs0:s.den β (kd st.hp) sv) (vl:x.den β (kd st.hp) xv):
  ∃ (β':Env) (w':World) (val:Value),(Builtin.append_ #[t,u] ty_ #[sv,xv]).run P w= .ok val w'∧v.den β' (kd (aV d st.hp)) val∧bB W an β₀ β' (aV d st.hp) w'∧cb β β' (kd st.hp) (kd (aV d st.hp)):=by
 unfold aas at h
 split at h
 ·simp[Ask.val]at h
 rename_i el n7
 split at h
 rotate_left
 ·simp[Ask.val]at h
 rename_i ty sz z by_ hty hs hz L9
 split at h
 rotate_left
 ·simp[Ask.val]at h
 rename_i mG;obtain⟨rfl,jn,Vc⟩:=mG;rw[Ask.eJ]at h
 split at h
 rotate_left
 ·simp[Ask.val]at h
 rename_i pm m hc
 split at h
 rotate_left
 ·simp[Ask.val]at h
 rename_i hf;obtain⟨news,vn,jT⟩:=aat hr.heap hc hf vl
 split at h
 ·simp only[Ask.val]at h
  cases h
  have aam:=og ⟨_,by simp;rfl⟩;obtain⟨_,rfl⟩:=hs0;have U9:m.length*by_≤70368744177664∧m.length≤70368744177664:=hq;have sS:da β w (.slice none 0 0) ty []:=⟨none,0,0,rfl,rfl,Nat.le_refl _,fun _=>rfl,fun h=>absurd h (by omega)⟩;obtain⟨v',w',h1,h2,h3,h4,h5,h6,h7⟩:=rC (ty_:=ty_) n7 hs jn hz Vc L9 sS vn jT (by simpa using U9.1) (by simpa using U9.2);rw[List.nil_append]at h2;obtain⟨β',k1,k2,k3⟩:=hr.heap.oL aam (ver:=0) h3 h4 h5 (fun b hb=>h6 b hb (by rintro⟨_,_,_,e,_⟩;simp at e)) h2 (fun a n c e h0=>(h7 a n c e h0).resolve_left (by rintro⟨_,_,e,_⟩;simp at e));refine⟨β',w',v',h1,⟨?_,0,?_,Nat.le_refl _,fun _=>k3.symm⟩,k1,k2⟩
  ·obtain⟨_,_,_,rfl,_⟩:=h2;rfl
  ·show kd (setAt st.hp id _) id=_;rw[dt,if_pos rfl];rfl
 ·rename_i i ver;simp only[Ask.val]at h
  split at h
  ·rename_i ver' u3 l hi
   split at h
   ·rename_i e;subst e
    split at h
    ·rename_i e;subst e
     cases h
     obtain⟨qP,hh⟩:=hr.heap.oK (p:=fun v=>sv=v) (aB hi) hs0.2;have U9:(l.length+m.length)*by_≤70368744177664∧l.length+m.length≤70368744177664:=hq;obtain⟨v',w',h1,h2,h3,h4,h5,h6,h7⟩:=rC (ty_:=ty_) n7 hs jn hz Vc L9 qP vn jT U9.1 U9.2
     obtain⟨β',k1,k2,k3⟩:=hr.heap.vk (aB hi) (ver':=ver+1) (l':=l++m) (v:=v') (w':=w') (.inl (Nat.lt_succ_self _)) h3 h4 h5 (fun b hb sO=>h6 b hb sO) h2
      (fun a n c e h0=>(h7 a n c e h0).imp (fun⟨n',c',e',h'⟩=>⟨a,n',c',e',h',rfl⟩) fun h=>h)
     refine⟨β',w',v',by rw[hh];exact h1,⟨?_,ver+1,?_,Nat.le_refl _,fun _=>k3.symm⟩,k1,k2⟩
     ·obtain⟨_,_,_,rfl,_⟩:=h2;rfl
     ·show kd (setAt st.hp i _) i=_;rw[dt,if_pos rfl];rfl
    ·cases h
   ·cases h
  ·cases h
 ·simp[Ask.val]at h
theorem amh(hr:Rel W an β₀ β st a w){id:Nat}{t u ty_:TypeId}{s:SV}{k:IntKind}{n:Int}{q:Option Prop}{v:LV}{d:List (Nat×Item)}(h:(Mv P id t u s n).val st.hp=some (q,v,d))(hq:fo q)(og:(∃x,(id,x)∈d)→kd st.hp id=none)
  {sv:Value} (hs0:s.den β (kd st.hp) sv):
  ∃ (β':Env) (w':World) (val:Value),(Builtin.append_ #[t,u] ty_ #[sv,.int k n]).run P w= .ok val w'∧v.den β' (kd (aV d st.hp)) val∧bB W an β₀ β' (aV d st.hp) w'∧cb β β' (kd st.hp) (kd (aV d st.hp)):=by
 unfold Mv at h
 split at h
 rotate_left
 ·simp[Ask.val]at h
 rename_i el kn n7 hku
 split at h
 rotate_left
 ·simp[Ask.val]at h
 rename_i ty sz z by_ hty hs hz L9
 split at h
 rotate_left
 ·simp[Ask.val]at h
 rename_i mG;obtain⟨rfl,jn,Vc⟩:=mG
 split at h
 rotate_left
 ·simp[Ask.val]at h
 rename_i z0 hz0
 split at h
 ·simp only[Ask.val]at h
  cases h
  have aam:=og ⟨_,by simp;rfl⟩;obtain⟨_,rfl⟩:=hs0;obtain⟨xB,hq1,hq2⟩:0≤n∧n.toNat*by_≤70368744177664∧n.toNat≤70368744177664:=hq;obtain⟨m,rfl⟩:=Int.eq_ofNat_of_zero_le xB;simp only[Int.toNat_natCast]at hq1 hq2 ⊢;have sS:da β w (.slice none 0 0) ty []:=⟨none,0,0,rfl,rfl,Nat.le_refl _,fun _=>rfl,fun h=>absurd h (by omega)⟩;obtain⟨v',w',h1,h2,h3,h4,h5,h6,h7⟩:=sQ (ty_:=ty_) (kq:=k) n7 hs jn hz Vc L9 sS hku hz0 m (by simpa using hq1) (by simpa using hq2);rw[List.nil_append]at h2;obtain⟨β',k1,k2,k3⟩:=hr.heap.oL aam (ver:=0) h3 h4 h5 (fun b hb=>h6 b hb (by rintro⟨_,_,_,e,_⟩;simp at e)) h2 (fun a n c e h0=>(h7 a n c e h0).resolve_left (by rintro⟨_,_,e,_⟩;simp at e));refine⟨β',w',v',h1,⟨?_,0,?_,Nat.le_refl _,fun _=>k3.symm⟩,k1,k2⟩
  ·obtain⟨_,_,_,rfl,_⟩:=h2;rfl
  ·show kd (setAt st.hp id _) id=_;rw[dt,if_pos rfl];rfl
 ·rename_i i ver;simp only[Ask.val]at h
  split at h
  ·rename_i ver' u3 l hi
   split at h
   ·rename_i e;subst e
    split at h
    ·rename_i e;subst e
     cases h
     obtain⟨qP,hh⟩:=hr.heap.oK (p:=fun v=>sv=v) (aB hi) hs0.2;obtain⟨xB,hq1,hq2⟩:0≤n∧(l.length+n.toNat)*by_≤70368744177664∧l.length+n.toNat≤70368744177664:=hq;obtain⟨m,rfl⟩:=Int.eq_ofNat_of_zero_le xB;simp only[Int.toNat_natCast]at hq1 hq2 ⊢;obtain⟨v',w',h1,h2,h3,h4,h5,h6,h7⟩:=sQ (ty_:=ty_) (kq:=k) n7 hs jn hz Vc L9 qP hku hz0 m hq1 hq2
     obtain⟨β',k1,k2,k3⟩:=hr.heap.vk (aB hi) (ver':=ver+1) (l':=l++List.replicate m z0) (v:=v') (w':=w') (.inl (Nat.lt_succ_self _)) h3 h4 h5 (fun b hb sO=>h6 b hb sO) h2
      (fun a n c e h0=>(h7 a n c e h0).imp (fun⟨n',c',e',h'⟩=>⟨a,n',c',e',h',rfl⟩) fun h=>h)
     refine⟨β',w',v',by rw[hh];exact h1,⟨?_,ver+1,?_,Nat.le_refl _,fun _=>k3.symm⟩,k1,k2⟩
     ·obtain⟨_,_,_,rfl,_⟩:=h2;rfl
     ·show kd (setAt st.hp i _) i=_;rw[dt,if_pos rfl];rfl
    ·cases h
   ·cases h
  ·cases h
 ·simp[Ask.val]at h
theorem aBp(hr:Rel W an β₀ β st a w){id:Nat}{b:Builtin}{ts:List TypeId}{xs:List LV}{vs:List Value}{q:Option Prop}{v:LV}{d:List (Nat×Item)}
  (h:(amd P id b ts xs).val st.hp=some (q,v,d)) (hq:fo q) (og:(∃x,(id,x)∈d)→kd st.hp id=none) (hd:bX (LV.den β (kd st.hp)) xs vs) (ty:TypeId) (cs:Array Bool):
  aBk P W an β₀ β st w (builtin b ts.toArray ty cs vs.toArray) v d:=by
 have aav:∀ {s:Sem Value} {val:Value} {x:SV},s.run P w= .ok val w→x.den β (kd st.hp) val→aBk P W an β₀ β st w (do pure (.value (← s))) (.one (.sc x)) []:=by
  intro s val x h1 h2;exact⟨β,w,val,by rw[Sem.run_bind,h1];rfl,h2,hr.heap,cb.refl _ _⟩
 unfold amd at h
 split at h
 ·rename_i t x
  split at h
  ·rename_i s hs;rw[Ask.dc]at h;obtain⟨n,hn,he⟩:=map_some h
   cases he
   cases hd with
   |cons h1 h2=>
    cases h2
    exact aav (avR hr hn (bD hs h1)) rfl
  ·simp[Ask.val]at h
 ·rename_i t u s x
  split at h
  ·rename_i s' k n hs hx
   cases hd with
   |cons h1 h2=>
    cases h2 with
    |cons h2 h3=>
     cases h3
     have e:=bD hx h2;simp only[SV.den]at e;subst e;obtain⟨β',w',val,k1,k2,k3,k4⟩:=amh (ty_:=ty) (k:=k) hr h hq og (bD hs h1);exact⟨β',w',val,by show(do pure (Next.value (← Builtin.append_ #[t,u] ty _)):Sem Next).run P w=_;rw[Sem.run_bind,k1];rfl,k2,k3,k4⟩
  ·rename_i s' x' _ hs hx
   cases hd with
   |cons h1 h2=>
    cases h2 with
    |cons h2 h3=>
     cases h3
     obtain⟨β',w',val,k1,k2,k3,k4⟩:=Vh (ty_:=ty) hr h hq og (bD hs h1) (bD hx h2);exact⟨β',w',val,by show(do pure (Next.value (← Builtin.append_ #[t,u] ty _)):Sem Next).run P w=_;rw[Sem.run_bind,k1];rfl,k2,k3,k4⟩
  ·simp[Ask.val]at h
 ·rename_i t u s x
  split at h
  ·rename_i s' x' hs hx
   cases hd with
   |cons h1 h2=>
    cases h2 with
    |cons h2 h3=>
     cases h3
     obtain⟨β',w',val,k1,k2,k3,k4⟩:=amg (ty_:=ty) hr h (bD hs h1) (bD hx h2);exact⟨β',w',val,by show(do pure (Next.value (← Builtin.copy_ #[t,u] ty _)):Sem Next).run P w=_;rw[Sem.run_bind,k1];rfl,k2,k3,k4⟩
  ·simp[Ask.val]at h
 ·rename_i x l;simp only[Ask.val]at h
  split at h
  ·rename_i k x0 l0 hx hl;obtain⟨n,hn,he⟩:=map_some h
   cases he
   cases hd with
   |cons h1 h2=>
    rename_i v0 vs0;have e:v0= .int k x0.val:=bD hx h1;subst e;have:=vp (P:=P) (w:=w) (f:=aaq) (g:=Builtin.min2) (k:=k) (fun x y=>by simp[Builtin.min2,aaq]) l0 vs0 x0 n (yZ hl h2) hn;refine aav (s:=Builtin.min_ ts.toArray ty (Value.int k x0.val::vs0).toArray) (val:=.int k n.val) ?_ rfl;simp only[Builtin.min_];exact this
  ·cases h
 ·rename_i x l;simp only[Ask.val]at h
  split at h
  ·rename_i k x0 l0 hx hl;obtain⟨n,hn,he⟩:=map_some h
   cases he
   cases hd with
   |cons h1 h2=>
    rename_i v0 vs0;have e:v0= .int k x0.val:=bD hx h1;subst e;have:=vp (P:=P) (w:=w) (f:=aar) (g:=Builtin.max2) (k:=k) (fun x y=>by simp[Builtin.max2,aar]) l0 vs0 x0 n (yZ hl h2) hn;refine aav (s:=Builtin.max_ ts.toArray ty (Value.int k x0.val::vs0).toArray) (val:=.int k n.val) ?_ rfl;simp only[Builtin.max_];exact this
  ·cases h
 ·simp[Ask.val]at h
end
inductive Out where
 |leaf (q:Option Prop) (v:LV) (d:List (Nat×Item))
 |ite (b:Bool) (x y:Out)
 |fail
def Out.of:Stp→Out
 |some (q,v,d)=>.leaf q v d
 |none=>.fail
def Out.holds(Q:LV→List (Nat×Item)→Prop):Out→Prop
 | .leaf q v d=>fo q∧Q v d
 | .ite b x y=>(b=true→x.holds Q)∧(b=false→y.holds Q)
 | .fail=>False
def Rl(id:Nat)(hp:Hp)(d:List (Nat×Item)):Prop:=∀j x,(j,x)∈d→id≤j→kd hp j=none
def Out.fresh(id:Nat)(hp:Hp):Out→Prop
 | .leaf _ _ d=>Rl id hp d
 | .ite _ x y=>x.fresh id hp∧y.fresh id hp
 | .fail=>True
structure y5 where
 run:FuncId→Nat→List LV→Ask Out
def Vi(P:Program)(f:FuncId)(vals:Array Value)(w:World)(Q:Ending→World→Prop):Prop:=
 (∃val,(callFunc f vals).run P w= .ok (.value val) w∧Q (.returned val) w)∨
  ((∀ (as:Array Value) (w:World),(callFunc f as).run P w= .ok (.enter f as) w)∧Calls P f vals w Q)
theorem Vi.mono{P:Program}{f:FuncId}{vals:Array Value}{w:World}{Q Q':Ending→World→Prop}(h:Vi P f vals w Q)(hq:∀e w',Q e w'→Q' e w'):Vi P f vals w Q':=
 h.imp (fun⟨v,h1,h2⟩=>⟨v,h1,hq _ _ h2⟩) fun⟨h1,h2⟩=>⟨h1,h2.mono hq⟩
structure GOk (P:Program) (G:y5):Prop where
 calls:∀f id args hp,((G.run f id args).val hp).fresh id hp→∀Q,((G.run f id args).val hp).holds Q→
  ∀ (W:World) (an:Hp) (β₀ β:Env) (w:World) (vals:List Value),bB W an β₀ β hp w→bX (LV.den β (kd hp)) args vals→
   Vi P f vals.toArray w fun e w'=>∃v d val β',Q v d∧e= .returned val∧v.den β' (kd (aV d hp)) val∧bB W an β₀ β' (aV d hp) w'∧cb β β' (kd hp) (kd (aV d hp))
def put(st:St)(dst:Option Tmp)(v:LV)(hp:Hp):St:=
 match dst with
 |some d=>⟨st.fr.set d v,hp⟩
 |none=>⟨st.fr,hp⟩
theorem Rel.put{W:World}{an:Hp}{β₀ β β':Env}{st:St}{a:Act}{w w':World}(h:Rel W an β₀ β st a w){dst:Option Tmp}{v:LV}{val:Value}{hp:Hp}
  (hv:v.den β' (kd hp) val) (hh:bB W an β₀ β' hp w') (ha:cb β β' (kd st.hp) (kd hp)):
  Rel W an β₀ β' (put st dst v hp) (a.put dst val) w':=by
 have hfr:bX (LV.den β' (kd hp)) st.fr a.tmps.toList:=h.fr.imp fun _ _=>LV.eW ha
 cases dst with
 |none=>exact⟨h.defers,hfr,hh⟩
 |some d=>exact⟨h.defers,by
   show bX (LV.den β' (kd hp)) (st.fr.set d v) (a.tmps.setIfInBounds d val).toList;rw[Array.toList_setIfInBounds];exact hfr.set d hv,hh⟩
def Hr:LV→Option FuncId
 | .one (.sc (.fO (.func (.func f) fs cs)))=>if fs.isEmpty&&cs.isEmpty then some f else none
 |_=>none
def sT(P:Program)(G:y5)(id:Nat)(e:Operand→LV)(op:Op):Ask Out:=
 match op with
 | .call c=>match c.callee with
  | .builtin b=>(amd P id b c.argTypes.toList (c.args.toList.map e)).map Out.of
  | .value f=>match Hr (e f)with
   |some f=>G.run f id (c.args.toList.map e)
   |none=>.ret .fail
  |_=>.ret .fail
 |op=>(gd P id e op).map Out.of
def ij(P:Program)(G:y5)(h:Option Bool)(id:Nat)(e:Operand→LV)(op:Op):Ask Out:=
 match h,op with
 |some v,.pick c x y=>match e c with
  | .one (.sc (.bool t))=>.ret (.leaf (some (t.val=v)) (if v then e x else e y) [])
  |_=>.ret .fail
 |_,op=>sT P G id e op
theorem aaw{P:Program}{G:y5}(hG:GOk P G){id:Nat}{st:St}{o:Oper}(hf:((sT P G id (ev st) o.op).val st.hp).fresh id st.hp){K:LV→List (Nat×Item)→Prop}(h:((sT P G id (ev st) o.op).val st.hp).holds K)
  {W:World} {an:Hp} {β₀ β:Env} {a:Act} {w:World} (hr:Rel W an β₀ β st a w) {next:Act→World→Prop} {Q:Exit→Act→World→Prop}
  (hn:∀v d β' a' w',K v d→Rel W an β₀ β' (put st o.dst v (aV d st.hp)) a' w'→next a' w'):o.wp P a w next Q:=by
 unfold sT at h hf
 split at h
 ·rename_i c hc;have eA:bX (LV.den β (kd st.hp)) (c.args.toList.map (ev st)) (c.args.toList.map a.eval):=bX.of_map _ _ _ fun x _=>bh hr x;have e2:(c.args.toList.map a.eval).toArray=c.args.map a.eval:=by rw[← Array.toList_map,Array.toArray_toList]
  simp only[hc]at hf
  split at h
  ·rename_i b hb;simp only[hb]at hf;rw[Ask.dc]at h hf
   cases hs:(amd P id b c.argTypes.toList (c.args.toList.map (ev st))).val st.hp with
   |none=>rw[hs]at h;exact h.elim
   |some r=>
    obtain⟨q,v,d⟩:=r;rw[hs]at h hf;obtain⟨hq,hk⟩:=h;obtain⟨β',w',val,h1,h2,h3,h4⟩:=aBp hr hs hq (fun⟨x,hx⟩=>hf id x hx (Nat.le_refl _)) eA o.type (c.args.map fun| .const _=>true|_=>false);rw[e2,Array.toArray_toList]at h1
    have et:(execOp a.eval o).run P w= .ok (.value val) w':=by
     simp only[execOp,hc,resolve,hb,Sem.run_bind,Sem.run_pure,Result.andThen_ok,invoke];exact h1
    unfold Oper.wp;rw[et];exact hn v d β' _ w' hk (hr.put (dst:=o.dst) h2 h3 h4)
  ·rename_i x hx;simp only[hx]at hf
   split at h
   ·rename_i f hfn;simp only[hfn]at hf;have aBq:=hG.calls f id _ _ hf K h W an β₀ β w _ hr.heap eA;unfold Hr at hfn
    split at hfn
    ·rename_i g fs cs Rb
     split at hfn
     ·rename_i aBr;simp at hfn;subst hfn;have hd:=bh hr x;rw[Rb]at hd;have e:a.eval x= .func (.func g) fs cs:=hd.2;simp at aBr;obtain⟨rfl,rfl⟩:=aBr;unfold Oper.wp;rcases aBq with⟨val,h1,v,d,aLi,β',hk,he,h3,h4,h5⟩|⟨h1,h2⟩
      ·have et:(execOp a.eval o).run P w= .ok (.value val) w:=by
        rw[e2]at h1;simp only[execOp,hc,resolve,hx,e,Deferred.ofValue,Sem.run_bind,Sem.run_pure,Result.andThen_ok,invoke,Array.append_empty,Array.empty_append];exact h1
       rw[et]
       cases he
       exact hn v d β' _ w hk (hr.put (dst:=o.dst) h3 h4 h5)
      ·have et:(execOp a.eval o).run P w= .ok (.enter g (c.args.toList.map a.eval).toArray) w:=by
        simp only[execOp,hc,resolve,hx,e,Deferred.ofValue,Sem.run_bind,Sem.run_pure,Result.andThen_ok,invoke,h1,e2];simp
       rw[et];refine h2.mono ?_
       rintro e w' ⟨v,d,val,β',hk,rfl,h3,h4,h5⟩
       exact hn v d β' _ w' hk (hr.put (dst:=o.dst) h3 h4 h5)
     ·cases hfn
    ·cases hfn
   ·exact h.elim
  ·exact h.elim
 ·rename_i sO
  have hf':((gd P id (ev st) o.op).map Out.of).val st.hp |>.fresh id st.hp:=by
   split at hf
   ·rename_i c hc;exact absurd hc (sO c)
   ·exact hf
  rw[Ask.dc]at h hf'
  cases hs:(gd P id (ev st) o.op).val st.hp with
  |none=>rw[hs]at h;exact h.elim
  |some r=>
   obtain⟨q,v,d⟩:=r;rw[hs]at h hf';obtain⟨hq,hk⟩:=h;obtain⟨β',w',r,val,h1,h2,h3,h4,h5⟩:=amb hs (fun⟨x,hx⟩=>hf' id x hx (Nat.le_refl _)) hq W an β₀ β a w hr;have:=hn v d β' _ w' hk (hr.put (dst:=o.dst) h3 h4 h5);unfold Oper.wp;rw[h1];rcases h2 with rfl|⟨rfl,rfl⟩
   ·exact this
   ·exact this
theorem Hs{P:Program}{G:y5}(hG:GOk P G){g:Option Bool}{id:Nat}{st:St}{o:Oper}(hf:((ij P G g id (ev st) o.op).val st.hp).fresh id st.hp){K:LV→List (Nat×Item)→Prop}(h:((ij P G g id (ev st) o.op).val st.hp).holds K)
  {W:World} {an:Hp} {β₀ β:Env} {a:Act} {w:World} (hr:Rel W an β₀ β st a w) {next:Act→World→Prop} {Q:Exit→Act→World→Prop}
  (hn:∀v d β' a' w',K v d→Rel W an β₀ β' (put st o.dst v (aV d st.hp)) a' w'→next a' w'):o.wp P a w next Q:=by
 unfold ij at h hf
 split at h
 ·rename_i b c x y ho
  split at h
  ·rename_i t ht;obtain⟨hq,hk⟩:=h;have htb:t.val=b:=hq;have hc:=bh hr c;rw[ht]at hc;have e:a.eval c= .bool t.val:=hc
   have et:(execOp a.eval o).run P w= .ok (.value (if b then a.eval x else a.eval y)) w:=by
    simp[execOp,ho,e,asBool,htb]
   unfold Oper.wp;rw[et];refine hn _ _ β _ w hk (hr.put (dst:=o.dst) (hp:=st.hp) ?_ hr.heap (cb.refl _ _))
   cases b
   ·exact bh hr y
   ·exact bh hr x
  ·exact h.elim
 ·rename_i sO
  have hf':((sT P G id (ev st) o.op).val st.hp).fresh id st.hp:=by
   split at hf
   ·rename_i b c x y ho;exact absurd ho (sO b c x y rfl)
   ·exact hf
  exact aaw hG hf' h hr hn
def dZ(st:St)(ops:Array Oper)(o:Oper):Option SB:=
 match o.guard with
 |none=>some (.lit true)
 |some (j,want)=>match(ops[j]?).bind (·.dst)with
  |none=>some (.lit false)
  |some d=>match st.fr[d]? with
   |some (.one (.sc (.bool (.lit b))))=>some (.lit (b==want))
   |some (.one (.sc (.bool (.sym b))))=>some (.sym (b==want))
   |some (.cG _)=>some (.lit false)
   |some (.one (.sc (.int _ _)))=>some (.lit false)
   |none=>some (.lit false)
   |_=>none
theorem wR{W:World}{an:Hp}{β₀ β:Env}{st:St}{a:Act}{w:World}(h:Rel W an β₀ β st a w){ops:Array Oper}{o:Oper}{b:SB}
  (hb:dZ st ops o=some b):Region.wanted o (yielded ops a.tmps)=b.val:=by
 unfold dZ at hb;unfold Region.wanted
 split at hb
 ·rename_i hg;simp at hb;subst hb;simp[hg,SB.val]
 ·rename_i j want hg;simp only[hg];unfold yielded
  split at hb
  ·rename_i hd;simp at hb;subst hb;simp[hd,SB.val]
  ·rename_i d hd;simp only[hd,Option.bind_some];have hlen:=h.fr.length
   split at hb
   ·rename_i x hx;obtain⟨v,hv,Mx⟩:=h.fr.get hx;have Vj:a.tmps[d]? =some v:=(by simpa using hv);have e:v= .bool x:=Mx;simp at hb;subst hb;simp[Vj,e,SB.val]
   ·rename_i x hx;obtain⟨v,hv,Mx⟩:=h.fr.get hx;have Vj:a.tmps[d]? =some v:=(by simpa using hv);have e:v= .bool x:=Mx;simp at hb;subst hb;simp[Vj,e,SB.val]
   ·rename_i l hx;obtain⟨v,hv,vs,e,_⟩:=h.fr.get hx;have Vj:a.tmps[d]? =some v:=(by simpa using hv);simp at hb;subst hb;simp[Vj,e,SB.val]
   ·rename_i k i hx;obtain⟨v,hv,Mx⟩:=h.fr.get hx;have Vj:a.tmps[d]? =some v:=(by simpa using hv);have e:v= .int k i.val:=Mx;simp at hb;subst hb;simp[Vj,e,SB.val]
   ·rename_i hx
    have Vj:a.tmps[d]? =none:=by
     have:=List.getElem?_eq_none_iff.1 hx;rw[Array.getElem?_eq_none_iff,← Array.length_toList];omega
    simp at hb;subst hb;simp[Vj,SB.val]
   ·simp at hb
abbrev y6:=List (Tmp×Bool)
def known:y6→Tmp→Option Bool
 | [],_=>none
 |(d,v)::l,t=>if d=t then some v else known l t
def forget(a:y6):Option Tmp→y6
 |none=>a
 |some d=>a.filter fun p=>p.1!=d
def np(a:y6)(st:St)(ops:Array Oper)(o:Oper):Option SB:=
 match o.guard with
 |none=>some (.lit true)
 |some (j,want)=>match(ops[j]?).bind (·.dst)with
  |none=>some (.lit false)
  |some d=>match known a d with
   |some v=>some (.lit (v==want))
   |none=>dZ st ops o
def y7(a:y6)(ops:Array Oper)(o:Oper)(v:Bool):y6:=
 match o.guard with
 |none=>a
 |some (j,want)=>match(ops[j]?).bind (·.dst)with
  |none=>a
  |some d=>(d,v==want)::a
def kX(a:y6)(st:St):Prop:=∀d v,known a d=some v→∃x:SB,st.fr[d]? =some (.one (.sc (.bool x)))∧x.val=v
theorem Dc{a:y6}{e d:Tmp}{v:Bool}(h:known (forget a (some e)) d=some v):d≠e∧known a d=some v:=by
 induction a with
 |nil=>simp[forget,known]at h
 |cons p a ih=>
  obtain⟨t,u⟩:=p;simp only[forget,List.filter_cons]at h ih
  split at h
  ·rename_i gD;simp only[known]at h ⊢
   split at h
   ·rename_i htd;subst htd;simp at h gD;exact⟨gD,by simp[h]⟩
   ·rename_i htd;rw[if_neg htd];exact ih h
  ·rename_i gD;simp at gD;subst gD;obtain⟨h1,h2⟩:=ih h;exact⟨h1,by simp only[known,if_neg (Ne.symm h1)];exact h2⟩
theorem kX.put{a:y6}{st:St}(h:kX a st){dst:Option Tmp}{v:LV}{hp:Hp}:kX (forget a dst) (put st dst v hp):=by
 intro d u hd
 cases dst with
 |none=>exact h d u hd
 |some e=>
  obtain⟨h1,h2⟩:=Dc hd;obtain⟨x,hx,hv⟩:=h d u h2;exact⟨x,by simp only[Ev.put];rw[List.getElem?_set_ne (Ne.symm h1)];exact hx,hv⟩
theorem y8{a:y6}{st:St}(h:kX a st){ops:Array Oper}{o:Oper}{b:SB}(hb:np a st ops o=some b):∃b',dZ st ops o=some b'∧b'.val=b.val:=by
 unfold np at hb
 split at hb
 ·rename_i hg;simp at hb;subst hb;exact⟨.lit true,by simp[dZ,hg],rfl⟩
 ·rename_i j want hg
  split at hb
  ·rename_i hd;simp at hb;subst hb;exact⟨.lit false,by simp[dZ,hg,hd],rfl⟩
  ·rename_i d hd
   split at hb
   ·rename_i v hk;simp at hb;subst hb;obtain⟨x,hx,hv⟩:=h d v hk
    cases x with
    |lit x=>exact⟨.lit (x==want),by simp[dZ,hg,hd,hx],by simp only[SB.val]at hv ⊢;rw[hv]⟩
    |sym x=>exact⟨.sym (x==want),by simp[dZ,hg,hd,hx],by simp only[SB.val]at hv ⊢;rw[hv]⟩
   ·exact⟨b,hb,rfl⟩
theorem sU{a:y6}{st:St}(h:kX a st){ops:Array Oper}{o:Oper}{b:Bool}(hb:np a st ops o=some (.sym b)):kX (y7 a ops o b) st:=by
 unfold np at hb
 split at hb
 ·simp at hb
 ·rename_i j want hg
  split at hb
  ·simp at hb
  ·rename_i d hd;have hl:y7 a ops o b=(d,b==want)::a:=(by simp only[y7,hg,hd]);rw[hl]
   split at hb
   ·simp at hb
   ·intro e v he;simp only[known]at he
    split at he
    ·rename_i hde;subst hde;simp at he;subst he;simp only[dZ,hg,hd]at hb
     split at hb<;>simp at hb
     rename_i x hx;subst hb;exact⟨.sym x,hx,by cases x<;>cases want<;>rfl⟩
    ·exact h e v he
inductive aW where
 |leaf (e:Exit) (st:St)
 |ite (b:Bool) (t e:aW)
 |need (p:Prop) (r:aW)
 |fail
def aW.sat(Q:Exit→St→Prop):aW→Prop
 | .leaf e st=>Q e st
 | .ite b t e=>(b=true→t.sat Q)∧(b=false→e.sat Q)
 | .need p r=>p∧r.sat Q
 | .fail=>False
def aW.bind(f:St→aW):aW→aW
 | .leaf .normal st=>f st
 | .leaf e st=>.leaf e st
 | .ite b t e=>.ite b (t.bind f) (e.bind f)
 | .need p r=>.need p (r.bind f)
 | .fail=>.fail
def aW.block(id:Nat):aW→aW
 | .leaf (.exit i) st=>if i=id then .leaf .normal st else .leaf (.exit i) st
 | .leaf e st=>.leaf e st
 | .ite b t e=>.ite b (t.block id) (e.block id)
 | .need p r=>.need p (r.block id)
 | .fail=>.fail
def aW.scope:aW→aW
 | .leaf (.goto _) _=>.fail
 | .leaf e st=>.leaf e st
 | .ite b t e=>.ite b t.scope e.scope
 | .need p r=>.need p r.scope
 | .fail=>.fail
def aW.fo(q:Option Prop)(r:aW):aW:=
 match q with
 |none=>r
 |some p=>.need p r
theorem aW.oP{Q Q':Exit→St→Prop}(hq:∀e st,Q e st→Q' e st):∀ {r:aW},r.sat Q→r.sat Q'
 | .leaf _ _,h=>hq _ _ h
 | .ite _ _ _,h=>⟨fun e=>aW.oP hq (h.1 e),fun e=>aW.oP hq (h.2 e)⟩
 | .need _ _,h=>⟨h.1,aW.oP hq h.2⟩
 | .fail,h=>h
theorem kO{q:Option Prop}{r:aW}{R:Exit→St→Prop}(h:(r.fo q).sat R):fo q∧r.sat R:=by
 cases q with
 |none=>exact⟨trivial,h⟩
 |some p=>exact h
def om(W:World)(an:Hp)(β₀:Env)(R:Exit→St→Prop):Exit→Act→World→Prop:=
 fun e a w=>∃st β,R e st∧Rel W an β₀ β st a w
structure Alt where
 f:Bool→Hp→aW→aW→aW
 yes:∀ {m:Hp} {t e:aW} {R:Exit→St→Prop} {W:World} {β₀:Env},(f true m t e).sat R→∃R',t.sat R'∧∀e a w,om W m β₀ R' e a w→om W m β₀ R e a w
 no:∀ {m:Hp} {t e:aW} {R:Exit→St→Prop} {W:World} {β₀:Env},(f false m t e).sat R→∃R',e.sat R'∧∀e a w,om W m β₀ R' e a w→om W m β₀ R e a w
def fork:Alt where
 f b _ t e:=.ite b t e
 yes h:=⟨_,h.1 rfl,fun _ _ _ h=>h⟩
 no h:=⟨_,h.2 rfl,fun _ _ _ h=>h⟩
structure FX where
 r:List Nat
 d:List (Nat×Item)
 v:LV
 re:Hp→Out×List Nat
abbrev FP:=Option FX
def FX.w(f:FX):List Nat:=f.d.map (·.1)
def Vk(a:Ask Out)(hp:Hp)(v:LV)(d:List (Nat×Item)):FP:=some ⟨a.log hp,d,v,fun h=>(a.val h,a.log h)⟩
def Out.q7(dr:Bool)(k:LV→List (Nat×Item)→aW):Out→aW
 | .leaf q v d=>(k v d).fo q
 | .ite b x y=>if dr then .fail else .ite b (x.q7 dr k) (y.q7 dr k)
 | .fail=>.fail
def nq(k:y6):Op→Option Bool
 | .pick (.tmp d) _ _=>known k d
 |_=>none
def mI(P:Program)(G:y5)(k:y6)(id:Nat)(e:Operand→LV)(op:Op):Ask Out:=
 match nq k op,op with
 |some v,.pick _ x y=>.ret (.leaf none (if v then e x else e y) [])
 |_,_=>sT P G id e op
def jg(P:Program)(G:y5)(A:Alt)(m:Hp)(dr:Bool)(BF:List FP→Option (Option Prop))(ops:Array Oper):List Oper→y6→List FP→St→aW
 | [],_,acc,st=>match BF acc with
  |some q=>(aW.leaf .normal st).fo q
  |none=>.fail
 |o::rest,k,acc,st=>
  match np k st ops o with
  |some (.lit true)=>((mI P G k st.hp.length (ev st) o.op).val st.hp).q7 dr fun v d=>
    jg P G A m dr BF ops rest (forget k o.dst) (acc++ [Vk (mI P G k st.hp.length (ev st) o.op) st.hp v d]) (put st o.dst v (aV d st.hp))
  |some (.lit false)=>jg P G A m dr BF ops rest (forget k o.dst) (acc++ [none]) (put st o.dst (.cG []) st.hp)
  |some (.sym b)=>A.f b m
    (((mI P G (y7 k ops o true) st.hp.length (ev st) o.op).val st.hp).q7 dr fun v d=>
      jg P G A m dr BF ops rest (forget (y7 k ops o true) o.dst) (acc++ [Vk (mI P G (y7 k ops o true) st.hp.length (ev st) o.op) st.hp v d]) (put st o.dst v (aV d st.hp)))
    (jg P G A m dr BF ops rest (forget (y7 k ops o false) o.dst) (acc++ [none]) (put st o.dst (.cG []) st.hp))
  |none=>.fail
theorem gF{hp:Hp}{j:Nat}(h:hp.length≤j):kd hp j=none:=by
 unfold kd;rw[List.getElem?_eq_none h]
theorem sV(hp:Hp)(d:List (Nat×Item)):Rl hp.length hp d:=fun _ _ _ h=>gF h
theorem vq(hp:Hp):∀o:Out,o.fresh hp.length hp
 | .leaf _ _ d=>sV hp d
 | .ite _ x y=>⟨vq hp x,vq hp y⟩
 | .fail=>trivial
theorem oQ{dr:Bool}{k:LV→List (Nat×Item)→aW}{R:Exit→St→Prop}:∀ {o:Out},(o.q7 dr k).sat R→o.holds fun v d=>(k v d).sat R
 | .leaf q v d,h=>kO h
 | .ite b x y,h=>by
  simp only[Out.q7]at h
  split at h
  ·exact h.elim
  ·exact⟨fun e=>oQ (h.1 e),fun e=>oQ (h.2 e)⟩
 | .fail,h=>h
theorem My{k:LV→List (Nat×Item)→aW}{R:Exit→St→Prop}{o:Out}(h:(o.q7 true k).sat R):∃q v d,o= .leaf q v d∧fo q∧(k v d).sat R:=by
 cases o with
 |leaf q v d=>exact⟨q,v,d,rfl,(kO h).1,(kO h).2⟩
 |ite b x y=>simp[Out.q7,aW.sat]at h
 |fail=>exact h.elim
theorem Rm{P:Program}{G:y5}{k:y6}{id:Nat}{st:St}{op:Op}(hk:kX k st):
  (mI P G k id (ev st) op=ij P G (nq k op) id (ev st) op)∨
  ∃v p,mI P G k id (ev st) op= .ret (.leaf none v [])∧ij P G (nq k op) id (ev st) op= .ret (.leaf (some p) v [])∧p:=by
 unfold mI
 split
 ·rename_i v c x y hh;right;unfold nq at hh
  split at hh
  ·rename_i d x' y' e;simp at e;obtain⟨rfl,rfl,rfl⟩:=e;obtain⟨t,ht,hv⟩:=hk _ _ hh;have hev:ev st (.tmp d)= .one (.sc (.bool t)):=(by simp[ev,List.getD_eq_getElem?_getD,ht]);refine⟨_,t.val=v,rfl,?_,hv⟩;simp only[ij,nq,hh,hev]
  ·cases hh
 ·rename_i sO;left;unfold ij
  split
  ·rename_i v c x y hh;exact absurd hh (by intro h;exact sO v c x y h rfl)
  ·rfl
theorem aax{P:Program}{G:y5}(hG:GOk P G){k:y6}{id:Nat}{st:St}{o:Oper}(hk:kX k st)(hf:∀o:Out,o.fresh id st.hp){K:LV→List (Nat×Item)→Prop}(h:((mI P G k id (ev st) o.op).val st.hp).holds K)
  {W:World} {an:Hp} {β₀ β:Env} {a:Act} {w:World} (hr:Rel W an β₀ β st a w) {next:Act→World→Prop} {Q:Exit→Act→World→Prop}
  (hn:∀v d β' a' w',K v d→Rel W an β₀ β' (put st o.dst v (aV d st.hp)) a' w'→next a' w'):o.wp P a w next Q:=by
 have hs:((ij P G (nq k o.op) id (ev st) o.op).val st.hp).holds K:=by
  rcases Rm (P:=P) (G:=G) (id:=id) (op:=o.op) hk with e|⟨v,p,e1,e2,hp⟩
  ·rw[← e];exact h
  ·rw[e1]at h;rw[e2];exact⟨hp,h.2⟩
 exact Hs hG (hf _) hs hr hn
theorem y9{P:Program}{G:y5}{A:Alt}(hG:GOk P G){W:World}{m:Hp}{β₀:Env}{dr:Bool}{BF:List FP→Option (Option Prop)}{ops:Array Oper}{Q:Exit→Act→World→Prop}:
  ∀ (l:List Oper) (k:y6) (acc:List FP) (st:St) (R:Exit→St→Prop),kX k st→(jg P G A m dr BF ops l k acc st).sat R→(∀e a w,om W m β₀ R e a w→Q e a w)→
   ∀β a w,Rel W m β₀ β st a w→wpList P ops Q l a w
 | [],k,acc,st,R,hk,h,hq,β,a,w,hr=>by
  simp only[jg]at h
  split at h
  ·exact hq _ _ _ ⟨st,β,(kO h).2,hr⟩
  ·exact h.elim
 |o::rest,k,acc,st,R,hk,h,hq,β,a,w,hr=>by
  have et:∀ (k:y6) (acc:LV→List (Nat×Item)→List FP),kX k st→∀ (R:Exit→St→Prop),(((mI P G k st.hp.length (ev st) o.op).val st.hp).q7 dr fun v d=>
    jg P G A m dr BF ops rest (forget k o.dst) (acc v d) (put st o.dst v (aV d st.hp))).sat R→(∀e a w,om W m β₀ R e a w→Q e a w)→o.wp P a w (wpList P ops Q rest) Q:=by
   intro k acc hk R h hq;exact aax hG hk (vq _) (oQ h) hr fun v d β' a' w' hkv ov=>y9 hG rest _ _ _ R hk.put hkv hq β' a' w' ov
  have Ht:∀ (k:y6) (acc:List FP),kX k st→∀ (R:Exit→St→Prop),(jg P G A m dr BF ops rest (forget k o.dst) acc (put st o.dst (.cG []) st.hp)).sat R→(∀e a w,om W m β₀ R e a w→Q e a w)→
    wpList P ops Q rest (a.put o.dst undef) w:=by
   intro k acc hk R h hq;exact y9 hG rest _ _ _ R hk.put h hq β _ w (hr.put (dst:=o.dst) ⟨[],rfl,.nil⟩ hr.heap (cb.refl _ _))
  simp only[jg]at h
  cases hb:np k st ops o with
  |none=>simp only[hb]at h;exact h.elim
  |some b=>
   obtain⟨b',gR,hbv⟩:=y8 hk hb;have hw:=wR hr gR;rw[hbv]at hw;simp only[hb]at h;simp only[wpList,hw]
   cases b with
   |lit b=>
    cases b with
    |true=>exact .inl (et k _ hk R h hq)
    |false=>exact Ht k _ hk R h hq
   |sym b=>
    cases b with
    |true=>
     obtain⟨R',h1,h2⟩:=A.yes (W:=W) (β₀:=β₀) h;exact .inl (et _ _ (sU hk hb) R' h1 fun e a w hp=>hq e a w (h2 e a w hp))
    |false=>
     obtain⟨R',h1,h2⟩:=A.no (W:=W) (β₀:=β₀) h;exact Ht _ _ (sU hk hb) R' h1 fun e a w hp=>hq e a w (h2 e a w hp)
theorem put_comm(st:St){x y:Option Tmp}(v u:LV)(h1 h2 h:Hp)(gD:∀d,x=some d→y≠some d):put (put st x v h1) y u h=put (put st y u h2) x v h:=by
 cases x with
 |none=>cases y<;>rfl
 |some d=>
  cases y with
  |none=>rfl
  |some e=>
   have:d≠e:=fun he=>gD d rfl (he▸rfl);simp only[put];rw[List.set_comm _ _ this]
theorem Vl{ops:Array Oper}{o:Oper}{t:Tmp}(h:Operand.tmp t∈o.op.operands):t∈o.looksAt ops:=by
 unfold Oper.looksAt;rw[List.mem_append];refine .inl (List.mem_filterMap.2 ⟨.tmp t,by simpa using h,rfl⟩)
theorem avT{st:St}{dst:Option Tmp}{v:LV}{hp:Hp}{x:Operand}(h:∀d,dst=some d→x≠ .tmp d):ev (put st dst v hp) x=ev st x:=by
 cases dst with
 |none=>cases x<;>rfl
 |some d=>
  cases x with
  |tmp t=>
   have gD:t≠d:=fun e=>h d rfl (e▸rfl);simp only[ev,put,List.getD_eq_getElem?_getD];rw[List.getElem?_set_ne (Ne.symm gD)]
  |_=>rfl
theorem mJ{ops:Array Oper}{o:Oper}{dst:Option Tmp}(h:∀d,dst=some d→d∉o.looksAt ops){st:St}{v:LV}{hp:Hp}:∀x∈o.op.operands,ev (put st dst v hp) x=ev st x:=
 fun _x hx=>avT fun d hd e=>h d hd (Vl (e▸hx))
theorem fA{ops:Array Oper}{o:Oper}{dst:Option Tmp}(h:∀d,dst=some d→d∉o.looksAt ops){st:St}{v:LV}{hp:Hp}:
  dZ (put st dst v hp) ops o=dZ st ops o:=by
 unfold dZ
 cases hg:o.guard with
 |none=>rfl
 |some p=>
  obtain⟨j,want⟩:=p
  cases ht:(ops[j]?).bind (·.dst)with
  |none=>simp[ht]
  |some t=>
   have:(put st dst v hp).fr[t]? =st.fr[t]? :=by
    cases dst with
    |none=>rfl
    |some d=>
     have gD:d≠t:=fun e=>h d rfl (by subst e;simp[Oper.looksAt,hg,ht]);simp only[put];rw[List.getElem?_set_ne gD]
   simp only[ht,this]
theorem Mz{P:Program}{id:Nat}{e e2:Operand→LV}{op:Op}(h:∀x∈op.operands,e2 x=e x):gd P id e2 op=gd P id e op:=by
 cases op<;>simp only[Op.operands]at h<;>(try rfl)
 case move x=>simp only[gd,h x (by simp)]
 case assign x=>simp only[gd,h x (by simp)]
 case pick c x y=>simp only[gd,h c (by simp),h x (by simp),h y (by simp)]
 case box t x=>simp only[gd,h x (by simp)]
 case build t parts=>
  have e:(parts.toList.map fun p=>(p.1,e2 p.2))=parts.toList.map fun p=>(p.1,e p.2):=List.map_congr_left fun p hp=>by
   rw[h p.2 (by rw[List.mem_toArray];exact List.mem_map.2 ⟨p,hp,rfl⟩)]
  simp only[gd,e]
 case buildSlice t len parts=>
  have e:(parts.toList.map fun p=>(p.1,e2 p.2))=parts.toList.map fun p=>(p.1,e p.2):=List.map_congr_left fun p hp=>by
   rw[h p.2 (by rw[List.mem_toArray];exact List.mem_map.2 ⟨p,hp,rfl⟩)]
  simp only[gd,e]
 case load t x=>simp only[gd,h x (by simp)]
 case store t x y=>simp only[gd,h x (by simp),h y (by simp)]
 case nilCheck x=>simp only[gd,h x (by simp)]
 case binOp op t x y yt=>simp only[gd,h x (by simp),h y (by simp)]
 case unOp op t x=>simp only[gd,h x (by simp)]
 case convert s d x=>simp only[gd,h x (by simp)]
 case sliceToArrayPointer t x=>simp only[gd,h x (by simp)]
 case makeSlice t x y=>simp only[gd,h x (by simp),h y (by simp)]
 case slice t x lo hi mx=>
  have e1:lo.map e2=lo.map e:=by cases lo<;>simp_all
  have e3:hi.map e2=hi.map e:=by cases hi<;>simp_all
  have e4:mx.map e2=mx.map e:=by cases mx<;>simp_all
  simp only[gd,h x (by simp),e1,e3,e4]
 case fieldAddr s x f=>simp only[gd,h x (by simp)]
 case field s x f=>simp only[gd,h x (by simp)]
 case indexAddr t x i=>simp only[gd,h x (by simp),h i (by simp)]
 case index t x i=>simp only[gd,h x (by simp),h i (by simp)]
 case extract x i=>simp only[gd,h x (by simp)]
theorem Hu{P:Program}{G:y5}{id:Nat}{e e2:Operand→LV}{op:Op}(h:∀x∈op.operands,e2 x=e x):sT P G id e2 op=sT P G id e op:=by
 unfold sT
 split
 ·rename_i c;have eA:c.args.toList.map e2=c.args.toList.map e:=List.map_congr_left fun x hx=>h x (by simp only[Op.operands,Call.operands,Array.mem_append];exact .inr (by simpa using hx));rw[eA]
  split
  ·rfl
  ·rename_i f hf;rw[h f (by simp[Op.operands,Call.operands,hf])]
  ·rfl
 ·rw[Mz h]
theorem cX{P:Program}{G:y5}{g:Option Bool}{id:Nat}{e e2:Operand→LV}{op:Op}(h:∀x∈op.operands,e2 x=e x):ij P G g id e2 op=ij P G g id e op:=by
 unfold ij
 split
 ·rename_i v c x y;rw[h c (by simp[Op.operands]),h x (by simp[Op.operands]),h y (by simp[Op.operands])]
 ·exact Hu h
theorem Dd{hp:Hp}{i k:Nat}{x:Item}(h:k≠i):bJ (setAt hp i x) k=bJ hp k:=by
 unfold bJ
 split
 ·rename_i y hy;rw[(cE hp i x k y h).1 hy]
 ·rename_i hn
  split
  ·rename_i y hy;exact absurd ((cE hp i x k y h).2 hy) (hn y)
  ·rfl
theorem eR:∀ {d:List (Nat×Item)} {hp:Hp} {k:Nat},k∉d.map (·.1)→bJ (aV d hp) k=bJ hp k
 | [],_,_,_=>rfl
 |(i,x)::d,hp,k,h=>by
  simp only[List.map_cons,List.mem_cons,not_or]at h;show bJ (aV d (setAt hp i x)) k=_;rw[eR h.2,Dd h.1]
theorem BG(hp:Hp)(k:Nat):kd hp k=(bJ hp k).map Item.kd:=by
 unfold kd bJ
 cases hp[k]? with
 |none=>rfl
 |some x=>cases x<;>rfl
theorem Vm{d:List (Nat×Item)}{hp:Hp}{k:Nat}(h:k∉d.map (·.1)):kd (aV d hp) k=kd hp k:=by rw[BG,BG,eR h]
theorem oR:∀ {d:List (Nat×Item)} {hp:Hp} {k:Nat},kd (aV d hp) k=none→kd hp k=none
 | [],_,_,h=>h
 |(i,x)::d,hp,k,h=>by
  have:=oR (d:=d) (hp:=setAt hp i x) h;rw[dt]at this
  split at this
  ·cases this
  ·exact this
theorem rD:∀ (hp:Hp) (i j:Nat) (a b:Item),i≠j→setAt (setAt hp i a) j b=setAt (setAt hp j b) i a
 | [],0,0,_,_,h=>absurd rfl h
 | [],0,j+1,a,b,_=>by simp[setAt]
 | [],i+1,0,a,b,_=>by simp[setAt]
 | [],i+1,j+1,a,b,h=>by simp only[setAt];rw[rD [] i j a b (by omega)]
 |_::_,0,0,_,_,h=>absurd rfl h
 |_::_,0,j+1,_,_,_=>by simp[setAt]
 |_::_,i+1,0,_,_,_=>by simp[setAt]
 |_::l,i+1,j+1,a,b,h=>by simp only[setAt];rw[rD l i j a b (by omega)]
theorem sW:∀ (d:List (Nat×Item)) (hp:Hp) (i:Nat) (x:Item),i∉d.map (·.1)→aV d (setAt hp i x)=setAt (aV d hp) i x
 | [],_,_,_,_=>rfl
 |(j,y)::d,hp,i,x,h=>by
  simp only[List.map_cons,List.mem_cons,not_or]at h;show aV d (setAt (setAt hp i x) j y)=setAt (aV d (setAt hp j y)) i x;rw[rD _ _ _ _ _ h.1,sW d _ _ _ h.2]
theorem wS:∀ (d d2:List (Nat×Item)) (hp:Hp),(∀k∈d.map (·.1),k∉d2.map (·.1))→aV d2 (aV d hp)=aV d (aV d2 hp)
 | [],_,_,_=>rfl
 |(i,x)::d,d2,hp,h=>by
  show aV d2 (aV d (setAt hp i x))=aV d (setAt (aV d2 hp) i x);rw[wS d d2 (setAt hp i x) fun k hk=>h k (by simp[List.map_cons];exact .inr (by simpa using hk)),sW d2 _ _ _ (h i (by simp))]
def aBt(f:FX)(a:Ask Out):Prop:=∀h,(f.re h).2=a.log h∧∀v',(f.re h).1= .leaf none v' []→∃q',a.val h= .leaf q' v' []∧fo q'
theorem wT:∀ {d:List (Nat×Item)} {hp hp2:Hp} {k:Nat},k∈d.map (·.1)→bJ (aV d hp) k=bJ (aV d hp2) k
 |(i,x)::d,hp,hp2,k,h=>by
  show bJ (aV d (setAt hp i x)) k=bJ (aV d (setAt hp2 i x)) k
  by_cases hk:k∈d.map (·.1)
  ·exact wT hk
  ·have e:k=i:=(by simpa [hk]using h);subst e;rw[eR hk,eR hk,pO (dJ _ _ _),pO (dJ _ _ _)]
def sX(P:Program)(G:y5)(ops:Array Oper)(ids:Nat→Nat)(fp:Nat→FP)(i:Nat)(st pW:St):Prop:=
 ∃o b,ops[i]? =some o∧dZ st ops o=some b∧
  ((b.val=true∧∃q v d g f,(ij P G g (ids i) (ev st) o.op).val st.hp= .leaf q v d∧fo q∧(fp i=some f∧f.r=(ij P G g (ids i) (ev st) o.op).log st.hp∧f.d=d∧f.v=v∧aBt f (ij P G g (ids i) (ev st) o.op))∧Rl (ids i) st.hp d∧pW=put st o.dst v (aV d st.hp))∨
   (b.val=false∧fp i=none∧pW=put st o.dst (.cG []) st.hp))
def MA:FP→FP→Bool
 |some f1,some f2=>f1.w.all (fun k=> !(f2.r.contains k)&& !(f2.w.contains k))&&f2.w.all fun k=> !(f1.r.contains k)
 |_,_=>true
def aay(fj fi:FP):Prop:=∃a b,fj=some a∧fi=some b∧a.d= []∧(∀k∈a.r,k∈b.w)∧a.re (aV b.d [])=(.leaf none a.v [],a.r)
theorem eF{st:St}{dst:Option Tmp}{v:LV}{hp:Hp}:(put st dst v hp).hp=hp:=by cases dst<;>rfl
noncomputable section
variable {P:Program} {G:y5} {ops:Array Oper} {ids:Nat→Nat} {fp:Nat→FP}
theorem Vn{i j:Nat}{oi oj:Oper}(za:ops[i]? =some oi)(De:ops[j]? =some oj)(hap:oj.apart ops oi=true)(MB:MA (fp j) (fp i)=true∨aay (fp j) (fp i))
  {st s1 s2:St} (h1:sX P G ops ids fp j st s1) (h2:sX P G ops ids fp i s1 s2):∃s1',sX P G ops ids fp i st s1'∧sX P G ops ids fp j s1' s2:=by
 obtain⟨a1,a2,a3⟩:=Oper.apart_spec hap;obtain⟨o,bj,ho,hwj,h1⟩:=h1;rw[De]at ho;simp at ho;subst ho;obtain⟨o,bi,ho,hwi,h2⟩:=h2;rw[za]at ho;simp at ho;subst ho;rcases h1 with⟨hbj,qj,vj,dj,gj,Fj,ej,nj,⟨fj,fj1,fj2,fj3,fj4⟩,rj,rfl⟩|⟨hbj,fj,rfl⟩
 ·rw[fA a1]at hwi;have evi:∀x∈oi.op.operands,ev (put st oj.dst vj (aV dj st.hp)) x=ev st x:=mJ a1;rcases h2 with⟨hbi,qi,vi,di,gi,Fi,ei,ni,⟨fi,fi1,fi2,fi3,fi4⟩,ri,rfl⟩|⟨hbi,fi,rfl⟩
  ·rw[cX evi,eF]at ei fi1;rw[cX evi]at fi4;rw[eF]at ri;have evj:∀x∈oj.op.operands,ev (put st oi.dst vi (aV di st.hp)) x=ev st x:=mJ a3;rw[fj,fi]at MB;rcases MB with MB|aBx
   ·simp only[MA,FX.w,Bool.and_eq_true,List.all_eq_true,Bool.not_eq_true',List.contains_eq_mem,decide_eq_false_iff_not,fj1,fj2,fi1,fi2]at MB;obtain⟨d1,d2⟩:=MB;have hli:∀k∈(ij P G gi (ids i) (ev st) oi.op).log (aV dj st.hp),bJ st.hp k=bJ (aV dj st.hp) k:=fun k hk=>(eR fun hm=>(d1 k hm).1 hk).symm;obtain⟨k1,k2⟩:=Ask.CY _ hli;have hlj:∀k∈(ij P G gj (ids j) (ev st) oj.op).log st.hp,bJ (aV di st.hp) k=bJ st.hp k:=fun k hk=>eR fun hm=>d2 k hm hk;obtain⟨k3,k4⟩:=Ask.CY _ hlj
    refine⟨put st oi.dst vi (aV di st.hp),⟨oi,bi,za,hwi,.inl ⟨hbi,qi,vi,di,gi,Fi,by rw[k1];exact ei,ni,⟨fi,by rw[k2];exact fi1,fi2,fi3,fi4⟩,fun k x hk hle=>oR (ri k x hk hle),rfl⟩⟩,
     ⟨oj,bj,De,by rw[fA a3];exact hwj,.inl ⟨hbj,qj,vj,dj,gj,Fj,by rw[cX evj,eF,k3];exact ej,nj,⟨fj,by rw[cX evj,eF,k4];exact fj1,fj2,fj3,by rw[cX evj];exact fj4⟩,?_,?_⟩⟩⟩
    ·intro k x hk hle;rw[eF,Vm (fun hm=>(d1 k (List.mem_map.2 ⟨_,hk,rfl⟩)).2 hm)];exact rj k x hk hle
    ·rw[eF,eF,wS dj di st.hp (fun k hk=>(d1 k hk).2)];exact put_comm st vj vi _ _ _ a2
   ·obtain⟨a,b,e1,e2,h3,h4,h5⟩:=aBx;simp at e1 e2;subst e1 e2;rw[fj2]at h3;subst h3;simp only[FX.w,fi2]at h4 h5;rw[fj3]at h5;obtain⟨m1,m2⟩:=fj4 (aV di []);rw[h5]at m1 m2;obtain⟨q',m3,m4⟩:=m2 vj rfl;simp only at m1;have aGR:∀k∈(ij P G gj (ids j) (ev st) oj.op).log (aV di []),bJ (aV di st.hp) k=bJ (aV di []) k:=fun k hk=>wT (h4 k (by rw[m1];exact hk));obtain⟨k3,k4⟩:=Ask.CY _ aGR
    refine⟨put st oi.dst vi (aV di st.hp),⟨oi,bi,za,hwi,.inl ⟨hbi,qi,vi,di,gi,Fi,ei,ni,⟨fi,fi1,fi2,fi3,fi4⟩,ri,rfl⟩⟩,
     ⟨oj,bj,De,by rw[fA a3];exact hwj,.inl ⟨hbj,q',vj,[],gj,Fj,by rw[cX evj,eF,k3];exact m3,m4,⟨fj,by rw[cX evj,eF,k4];exact m1,fj2,fj3,by rw[cX evj];exact fj4⟩,fun k x hk=>(by cases hk),?_⟩⟩⟩
    rw[eF,eF];exact put_comm st vj vi _ _ _ a2
  ·refine⟨put st oi.dst (.cG []) st.hp,⟨oi,bi,za,hwi,.inr ⟨hbi,fi,rfl⟩⟩,⟨oj,bj,De,by rw[fA a3];exact hwj,.inl ⟨hbj,qj,vj,dj,gj,Fj,?_,nj,⟨fj,?_,fj2,fj3,?_⟩,?_,?_⟩⟩⟩
   ·rw[cX (mJ a3),eF];exact ej
   ·rw[cX (mJ a3),eF];exact fj1
   ·rw[cX (mJ a3)];exact fj4
   ·rw[eF];exact rj
   ·rw[eF,eF];exact put_comm st vj _ _ _ _ a2
 ·rw[fA a1]at hwi;have evi:∀x∈oi.op.operands,ev (put st oj.dst (.cG []) st.hp) x=ev st x:=mJ a1;rcases h2 with⟨hbi,qi,vi,di,gi,Fi,ei,ni,⟨fi,fi1,fi2,fi3,fi4⟩,ri,rfl⟩|⟨hbi,fi,rfl⟩
  ·rw[cX evi,eF]at ei fi1;rw[cX evi]at fi4;rw[eF]at ri;refine⟨put st oi.dst vi (aV di st.hp),⟨oi,bi,za,hwi,.inl ⟨hbi,qi,vi,di,gi,Fi,ei,ni,⟨fi,fi1,fi2,fi3,fi4⟩,ri,rfl⟩⟩,⟨oj,bj,De,by rw[fA a3];exact hwj,.inr ⟨hbj,fj,?_⟩⟩⟩;rw[eF,eF];exact put_comm st _ vi _ _ _ a2
  ·refine⟨put st oi.dst (.cG []) st.hp,⟨oi,bi,za,hwi,.inr ⟨hbi,fi,rfl⟩⟩,⟨oj,bj,De,by rw[fA a3];exact hwj,.inr ⟨hbj,fj,?_⟩⟩⟩;rw[eF,eF];exact put_comm st _ _ _ _ _ a2
end
inductive sY (P:Program) (G:y5) (ops:Array Oper) (ids:Nat→Nat) (fp:Nat→FP):List Nat→St→St→Prop where
 |nil {st}:sY P G ops ids fp [] st st
 |cons {i l st s s'} (h:sX P G ops ids fp i st s) (t:sY P G ops ids fp l s s'):sY P G ops ids fp (i::l) st s'
def mK(acc:List Nat)(o:Oper):Nat:=
 o.after.toList.foldr (fun e s=>if Region.binds .any e then s|||2 ^ e.on|||acc.getD e.on 0 else s) 0
def sZ:List Oper→List Nat→List Nat
 | [],acc=>acc
 |o::l,acc=>sZ l (acc++ [mK acc o])
theorem Bb{acc:List Nat}{o:Oper}{j:Nat}(h:Nat.testBit (mK acc o) j=true):
  ∃e∈o.after,Region.binds .any e=true∧(e.on=j∨Nat.testBit (acc.getD e.on 0) j=true):=by
 unfold mK at h
 have key:∀l:List Edge,Nat.testBit (l.foldr (fun e s=>if Region.binds .any e then s|||2 ^ e.on|||acc.getD e.on 0 else s) 0) j=true→
   ∃e∈l,Region.binds .any e=true∧(e.on=j∨Nat.testBit (acc.getD e.on 0) j=true):=by
  intro l
  induction l with
  |nil=>intro h;simp at h
  |cons e l ih=>
   intro h;simp only[List.foldr_cons]at h
   split at h
   ·rename_i hb;simp only[Nat.testBit_or,Bool.or_eq_true,Nat.testBit_two_pow,decide_eq_true_eq]at h;rcases h with(h|h)|h
    ·obtain⟨e',h1,h2⟩:=ih h;exact⟨e',by simp[h1],h2⟩
    ·exact⟨e,by simp,hb,.inl h⟩
    ·exact⟨e,by simp,hb,.inr h⟩
   ·obtain⟨e',h1,h2⟩:=ih h;exact⟨e',by simp[h1],h2⟩
 obtain⟨e,h1,h2⟩:=key _ h;exact⟨e,by simpa using h1,h2⟩
def s5:List Oper→Nat→Bool
 | [],_=>true
 |o::l,n=>(o.after.all fun e=> !Region.binds .any e||decide (e.on<n))&&s5 l (n+1)
def MC(ops:Array Oper)(oj oi:Oper)(bit:Bool)(fj fi:FP):Option (List Prop):=
 if bit||(oj.apart ops oi&&MA fj fi)then some []
 else if oj.apart ops oi then match fj,fi with
  |some a,some b=>if a.d.isEmpty&&a.r.all (fun k=>b.w.contains k)then some [a.re (aV b.d [])=(.leaf none a.v [],a.r)]else none
  |_,_=>none
 else none
def avW:List Prop→Prop
 | []=>True
 | [p]=>p
 |p::l=>p∧avW l
theorem Hv:∀ {l:List Prop} {p:Prop},avW l→p∈l→p
 | [x],p,h,hp=>by
  rcases List.mem_cons.1 hp with rfl|hp
  ·exact h
  ·cases hp
 |x::y::l,p,h,hp=>by
  rcases List.mem_cons.1 hp with rfl|hp
  ·exact h.1
  ·exact Hv (l:=y::l) h.2 hp
theorem Hw{ops:Array Oper}{oj oi:Oper}{bit:Bool}{fj fi:FP}{l:List Prop}(h:MC ops oj oi bit fj fi=some l)(hp:∀p∈l,p):bit=true∨(oj.apart ops oi=true∧(MA fj fi=true∨aay fj fi)):=by
 unfold MC at h
 split at h
 ·rename_i hc;simp only[Bool.or_eq_true,Bool.and_eq_true]at hc;exact hc.imp id fun hc=>⟨hc.1,.inl hc.2⟩
 ·split at h
  ·rename_i ha
   split at h
   ·rename_i a b _
    split at h
    ·rename_i hc;simp only[Bool.and_eq_true,List.all_eq_true,List.contains_eq_mem,decide_eq_true_eq,List.isEmpty_iff]at hc
     cases h
     exact .inr ⟨ha,.inr ⟨a,b,rfl,rfl,hc.1,hc.2,hp _ (List.mem_cons_self ..)⟩⟩
    ·cases h
   ·cases h
  ·cases h
def xC(ops:Array Oper)(oi:Oper)(mask:Nat)(fi:FP):List Oper→List FP→Nat→Option (List Prop)
 | [],_,_=>some []
 |oj::l,fs,j=>match MC ops oj oi (Nat.testBit mask j) (fs.headD none) fi with
  |some a=>match xC ops oi mask fi l fs.tail (j+1)with
   |some b=>some (a++b)
   |none=>none
  |none=>none
def oS(ops:Array Oper)(ms:List Nat)(fs:List FP):List Oper→Nat→Option (List Prop)
 | [],_=>some []
 |o::l,i=>match xC ops o (ms.getD i 0) (fs.getD i none) (ops.toList.take i) fs 0 with
  |some a=>match oS ops ms fs l (i+1)with
   |some b=>some (a++b)
   |none=>none
  |none=>none
structure avX (ops:Array Oper) (M:Nat→Nat) (fp:Nat→FP) (i:Nat) (o:Oper):Prop where
 early:∀e∈o.after,Region.binds .any e=true→e.on<i
 aBy:∀j oj,j<i→ops[j]? =some oj→Nat.testBit (M i) j=true∨(oj.apart ops o=true∧(MA (fp j) (fp i)=true∨aay (fp j) (fp i)))
 waits:∀j,Nat.testBit (M i) j=true→∃e∈o.after,Region.binds .any e=true∧(e.on=j∨Nat.testBit (M e.on) j=true)
theorem s6{ops:Array Oper}{oi:Oper}{mask:Nat}{fi:FP}:∀ (l:List Oper) (fs:List FP) (k:Nat) {ps:List Prop},xC ops oi mask fi l fs k=some ps→(∀p∈ps,p)→∀j oj,l[j]? =some oj→Nat.testBit mask (k+j)=true∨(oj.apart ops oi=true∧(MA (fs.getD j none) fi=true∨aay (fs.getD j none) fi))
 | [],_,_,_,_,_,j,oj,hj=>by simp at hj
 |o::l,fs,k,ps,h,hp,j,oj,hj=>by
  simp only[xC]at h
  split at h
  ·rename_i a ha
   split at h
   ·rename_i b hb
    cases h
    cases j with
    |zero=>
     simp at hj;subst hj;have e:fs.headD none=fs.getD 0 none:=(by cases fs<;>rfl);rw[← e];exact Hw ha fun p hm=>hp p (by simp[hm])
    |succ j=>
     have:=s6 l fs.tail (k+1) hb (fun p hm=>hp p (by simp[hm])) j oj (by simpa using hj);have e:fs.tail.getD j none=fs.getD (j+1) none:=(by cases fs<;>simp[List.getD]);rw[e]at this;rwa [show k+1+j=k+(j+1) by omega]at this
   ·cases h
  ·cases h
theorem q8{ops:Array Oper}{ms:List Nat}{fs:List FP}:∀ (l:List Oper) (k:Nat) {ps:List Prop},(∀j,l[j]? =ops[k+j]?)→oS ops ms fs l k=some ps→(∀p∈ps,p)→∀i o,k≤i→ops[i]? =some o→∀j oj,j<i→ops[j]? =some oj→Nat.testBit (ms.getD i 0) j=true∨(oj.apart ops o=true∧(MA (fs.getD j none) (fs.getD i none)=true∨aay (fs.getD j none) (fs.getD i none)))
 | [],k,_,hl,_,_,i,o,hi,ho,_,_,_,_=>by
  have:=hl (i-k);rw[show k+(i-k)=i by omega,ho]at this;simp at this
 |x::l,k,ps,hl,h,hp,i,o,hi,ho,j,oj,hj,De=>by
  simp only[oS]at h
  split at h
  ·rename_i a ha
   split at h
   ·rename_i b hb
    cases h
    by_cases e:i=k
    ·subst e
     have hx:o=x:=by
      have:=hl 0;rw[Nat.add_zero,ho]at this;simpa using this.symm
     subst hx;have:=s6 _ _ 0 ha (fun p hm=>hp p (by simp[hm])) j oj (by rw[List.getElem?_take];simp[hj,De]);rwa [Nat.zero_add]at this
    ·exact q8 l (k+1) (fun j=>by have:=hl (j+1);simpa [Nat.add_assoc,Nat.add_comm 1 j]using this) hb (fun p hm=>hp p (by simp[hm])) i o (by omega) ho j oj hj De
   ·cases h
  ·cases h
theorem zb{ops:Array Oper}:∀ (l before:List Oper) (acc:List Nat),before++l=ops.toList→acc.length=before.length→s5 l before.length=true→
  (∀M:Nat→Nat,(∀i,M i=(sZ l acc).getD i 0)→∀i o,before.length≤i→ops[i]? =some o→(∀e∈o.after,Region.binds .any e=true→e.on<i)∧
   (∀j,Nat.testBit (M i) j=true→∃e∈o.after,Region.binds .any e=true∧(e.on=j∨Nat.testBit (M e.on) j=true)))∧(∀i,i<acc.length→(sZ l acc).getD i 0=acc.getD i 0)
 | [],before,acc,hb,ha,_=>by
  have hs:before.length=ops.size:=by
   have:=congrArg List.length hb;simpa using this
  refine⟨fun M hM i o hi ho=>?_,fun _ _=>rfl⟩;have:=(Array.getElem?_eq_some_iff.1 ho).1;omega
 |o::l,before,acc,hb,ha,h=>by
  simp only[s5,Bool.and_eq_true]at h;obtain⟨h1,h4⟩:=h;obtain⟨i1,i3⟩:=zb l (before++ [o]) (acc++ [mK acc o]) (by simpa using hb) (by simp[ha]) (by simpa using h4);have hmk:sZ (o::l) acc=sZ l (acc++ [mK acc o]):=rfl
  have aBz:∀i,i<acc.length→(sZ (o::l) acc).getD i 0=acc.getD i 0:=fun i hi=>by
   rw[hmk,i3 i (by simp;omega)];simp only[List.getD_eq_getElem?_getD];rw[List.getElem?_append_left hi]
  refine⟨fun M hM i oi hi ho=>?_,aBz⟩
  by_cases hie:i=before.length
  ·subst hie
   have hoo:oi=o:=by
    have e:ops.toList[before.length]? =some oi:=(by simpa using ho);rw[← hb]at e;simp at e;exact e.symm
   subst hoo
   have hMi:M before.length=mK acc oi:=by
    rw[hM,hmk,i3 _ (by simp[ha])];simp only[List.getD_eq_getElem?_getD];rw[← ha];simp
   have aaz:∀e∈oi.after,Region.binds .any e=true→e.on<before.length:=by
    intro e he Rn;have:=Array.all_eq_true'.1 h1 e he;simpa [Rn]using this
   refine⟨aaz,fun j hj=>?_⟩;rw[hMi]at hj;obtain⟨e,he,Rn,hor⟩:=Bb hj;refine⟨e,he,Rn,hor.imp id fun ht=>?_⟩;rw[hM,aBz _ (by rw[ha];exact aaz e he Rn)];exact ht
  ·exact i1 M (fun i=>hM i) i oi (by simp;omega) ho
noncomputable section
variable {P:Program} {G:y5} {ops:Array Oper} {ids:Nat→Nat} {M:Nat→Nat} {fp:Nat→FP}
theorem zd(hM:∀i o,ops[i]? =some o→avX ops M fp i o){i:Nat}{oi:Oper}(za:ops[i]? =some oi):
  ∀ (l1 l2:List Nat) (st sf:St),(∀j∈l1,j<i∧Nat.testBit (M i) j=false)→sY P G ops ids fp (l1++i::l2) st sf→∃s,sX P G ops ids fp i st s∧sY P G ops ids fp (l1++l2) s sf
 | [],l2,st,sf,_,h=>by
  cases h with
  |cons h t=>exact⟨_,h,t⟩
 |j::l1,l2,st,sf,hl,h=>by
  cases h with
  |cons h t=>
   rename_i s;obtain⟨s1,h1,h2⟩:=zd hM za l1 l2 s sf (fun k hk=>hl k (by simp[hk])) t;obtain⟨hji,Df⟩:=hl j (by simp);have aGT:=h;obtain⟨oj,_,De,_⟩:=aGT;have hp:=((hM i oi za).aBy j oj hji De).resolve_left (by rw[Df];simp);obtain⟨s1',k1,k2⟩:=Vn za De hp.1 hp.2 h h1;exact⟨s1',k1,.cons k2 h2⟩
theorem aaA(hG:GOk P G){i:Nat}{st s:St}(h:sX P G ops ids fp i st s){W:World}{an:Hp}{β₀ β:Env}{a:Act}{w:World}(hr:Rel W an β₀ β st a w)
  {K:Act→World→Prop} {Q:Exit→Act→World→Prop} (hK:∀β' a' w',Rel W an β₀ β' s a' w'→K a' w'):wpOp P ops Q i K a w:=by
 obtain⟨o,b,ho,hw,h⟩:=h;unfold wpOp;simp only[ho,wR hr hw];rcases h with⟨hb,q,v,d,g,_,e,hq,_,hf,rfl⟩|⟨hb,_,rfl⟩
 ·rw[if_pos hb]
  exact .inl (Hs hG (K:=fun v' d'=>v'=v∧d'=d) (by rw[e];exact hf) (by rw[e];exact⟨hq,rfl,rfl⟩) hr fun v' d' β' a' w' hk ov=>by
   obtain⟨rfl,rfl⟩:=hk;exact hK β' a' w' ov)
 ·rw[if_neg (by rw[hb];simp)];exact hK β _ w (hr.put (dst:=o.dst) ⟨[],rfl,.nil⟩ hr.heap (cb.refl _ _))
def cF(ops:Array Oper)(cU:Array Bool):List Nat:=(List.range ops.size).filter fun i=> !cU.getD i true
theorem Bc(hG:GOk P G)(hM:∀i o,ops[i]? =some o→avX ops M fp i o)
  {W:World} {an:Hp} {β₀:Env} {Q:Exit→Act→World→Prop} {sf:St} (hQ:∀β a w,Rel W an β₀ β sf a w→Q .normal a w):
  ∀ (fuel:Nat) (cU:Array Bool) (st:St) (β:Env) (a:Act) (w:World),cU.size=ops.size→(cF ops cU).length=fuel→
   (∀j oj,ops[j]? =some oj→cU.getD j false=true→∀e∈oj.after,Region.binds .any e=true→cU.getD e.on false=true)→
   sY P G ops ids fp (cF ops cU) st sf→Rel W an β₀ β st a w→wpAny P .any ops Q fuel cU a w:=by
 intro fuel
 induction fuel with
 |zero=>
  intro cU st β a w ZU hlen Dg hex hr;have h0:cF ops cU= []:=List.eq_nil_of_length_eq_zero hlen;rw[h0]at hex
  cases hex
  refine⟨?_,hQ β a w hr⟩;refine List.eq_nil_iff_forall_not_mem.2 fun i hi=>?_
  have:i∈cF ops cU:=by
   simp only[Region.ready,List.mem_filter,Bool.and_eq_true]at hi;simp only[cF,List.mem_filter];exact⟨hi.1,hi.2.1⟩
  rw[h0]at this;cases this
 |succ fuel ih=>
  intro cU st β a w ZU hlen Dg hex hr;constructor
  ·intro jf;exfalso
   cases hu:cF ops cU with
   |nil=>rw[hu]at hlen;simp at hlen
   |cons i l=>
    have Vo:i∈cF ops cU:=by rw[hu];simp
    have hi:i<ops.size∧(!cU.getD i true)=true:=by
     simpa [cF]using Vo
    have MD:∀j,j<i→cU.getD j true=true:=by
     intro j hj;refine Classical.byContradiction fun sO=>?_
     have Vp:j∈cF ops cU:=by
      simp only[cF,List.mem_filter,List.mem_range];exact⟨by omega,by simpa using sO⟩
     have hpw:(cF ops cU).Pairwise (· < ·):=(List.pairwise_lt_range (n:=ops.size)).filter _;rw[hu]at hpw Vp;rcases List.mem_cons.1 Vp with rfl|Vp
     ·omega
     ·have:=List.rel_of_pairwise_cons hpw Vp;omega
    have ov:i∈Region.ready .any ops cU:=by
     rw[mem_ready];obtain⟨oi,za⟩:∃oi,ops[i]? =some oi:=⟨ops[i]'hi.1,by simp[hi.1]⟩;refine⟨by simpa using hi.2,oi,za,fun e he hb=>?_⟩;have dU:=(hM i oi za).early e he hb;have h1:=MD e.on dU;have:e.on<cU.size:=(by omega);simp[this]at h1 ⊢;exact h1
    rw[jf]at ov;cases ov
  ·intro i hi;obtain⟨hun,oi,za,CZ⟩:=mem_ready.1 hi;have aGU:i<ops.size:=(Array.getElem?_eq_some_iff.1 za).1
   have aBA:i∈cF ops cU:=by
    simp only[cF,List.mem_filter,List.mem_range];exact⟨aGU,by simpa using hun⟩
   obtain⟨l1,l2,hl⟩:=List.append_of_mem aBA;have hpw:(cF ops cU).Pairwise (· < ·):=(List.pairwise_lt_range (n:=ops.size)).filter _;rw[hl]at hpw hex;obtain⟨p1,p2,p3⟩:=List.pairwise_append.1 hpw
   have aBB:∀j,cU.getD j false=false→∀i oi,ops[i]? =some oi→(∀e∈oi.after,Region.binds .any e=true→cU.getD e.on false=true)→Nat.testBit (M i) j=false:=by
    intro j hj i
    induction i using Nat.strongRecOn with
    |_ i ih2=>
     intro oi za CZ;refine Bool.eq_false_iff.2 fun ht=>?_;obtain⟨e,he,hb,hor⟩:=(hM i oi za).waits j ht;have hle:=CZ e he hb;rcases hor with rfl|ht'
     ·rw[hj]at hle;cases hle
     ·have dU:=(hM i oi za).early e he hb
      obtain⟨oe,hoe⟩:∃oe,ops[e.on]? =some oe:=⟨ops[e.on]'(by have:=(Array.getElem?_eq_some_iff.1 za).1;omega),by
       have:=(Array.getElem?_eq_some_iff.1 za).1;simp[show e.on<ops.size by omega]⟩
      have:=ih2 e.on dU oe hoe (Dg e.on oe hoe hle);rw[this]at ht';cases ht'
   have hl1:∀j∈l1,j<i∧Nat.testBit (M i) j=false:=by
    intro j hj;refine⟨p3 j hj i (by simp),aBB j ?_ i oi za CZ⟩;have Vp:j∈cF ops cU:=(by rw[hl];simp[hj]);simp only[cF,List.mem_filter,List.mem_range]at Vp;have:j<cU.size:=(by omega);simp[this]at Vp ⊢;exact Vp.2
   obtain⟨s,h1,h2⟩:=zd hM za l1 l2 st sf hl1 hex;refine aaA hG h1 hr fun β' a' w' ov=>?_
   have A3:cF ops (cU.setIfInBounds i true)=l1++l2:=by
    have e1:cF ops (cU.setIfInBounds i true)=(cF ops cU).filter (fun k=>k !=i):=by
     unfold cF;rw[List.filter_filter]
     apply List.filter_congr
     intro k hk;have jl:k<ops.size:=List.mem_range.1 hk
     by_cases ZW:k=i
     ·subst ZW;simp[Array.getD_eq_getD_getElem?,ZU,jl]
     ·rw[getD_set_ne true (Ne.symm ZW)];simp[ZW]
    rw[e1,hl,List.filter_append];have f1:l1.filter (fun k=>k !=i)=l1:=List.filter_eq_self.2 fun k hk=>by have:=(hl1 k hk).1;simp;omega
    have f2:(i::l2).filter (fun k=>k !=i)=l2:=by
     rw[List.filter_cons];simp only[bne_self_eq_false,Bool.false_eq_true,if_false]
     exact List.filter_eq_self.2 fun k hk=>by
      have:=List.rel_of_pairwise_cons p2 hk;simp;omega
    rw[f1,f2]
   refine ih (cU.setIfInBounds i true) s β' a' w' (by simpa using ZU) ?_ ?_ (by rw[A3];exact h2) ov
   ·rw[A3];have:(cF ops cU).length=(l1++i::l2).length:=(by rw[hl]);simp at this ⊢;omega
   ·intro j oj De hlj e he hb
    by_cases hji:j=i
    ·subst hji;rw[za]at De;simp at De;subst De;exact getD_set_true (CZ e he hb)
    ·rw[getD_set_ne false (Ne.symm hji)]at hlj;exact getD_set_true (Dg j oj De hlj e he hb)
end
def xD(ops:Array Oper)(fs:List FP):Option (Option Prop):=match oS ops (sZ ops.toList []) fs ops.toList 0 with
 |some []=>some none
 |some l=>some (some (avW l))
 |none=>none
theorem Dh{ops:Array Oper}{fs:List FP}{q:Option Prop}(h:xD ops fs=some q)(hq:fo q):∃l,oS ops (sZ ops.toList []) fs ops.toList 0=some l∧∀p∈l,p:=by
 unfold xD at h
 split at h
 ·rename_i h1;exact⟨[],h1,fun p hp=>by cases hp⟩
 ·rename_i l _ h1
  cases h
  exact⟨l,h1,fun p hp=>Hv hq hp⟩
 ·cases h
def Di(P:Program)(G:y5)(ops:Array Oper)(BF:List FP→Option (Option Prop))(W:World)(m:Hp)(β₀:Env)(R:Exit→St→Prop)(acc:List FP)(k n:Nat)(st:St):Prop:=
 ∃ (ids:Nat→Nat) (fs:List FP) (sf:St),fs.length=n∧sY P G ops ids (fun i=>fs.getD (i-k) none) (List.range' k n) st sf∧(∃q,BF (acc++fs)=some q∧fo q)∧(∀β a w,Rel W m β₀ β sf a w→om W m β₀ R .normal a w)
theorem wU{P:Program}{G:y5}{A:Alt}{m:Hp}{BF:List FP→Option (Option Prop)}{ops:Array Oper}{W:World}{β₀:Env}:
  ∀ (l:List Oper) (k:Nat) (B:y6) (acc:List FP) (st:St) (R:Exit→St→Prop),(∀j,l[j]? =ops[k+j]?)→kX B st→(jg P G A m true BF ops l B acc st).sat R→
   Di P G ops BF W m β₀ R acc k l.length st
 | [],k,B,acc,st,R,_,_,h=>by
  simp only[jg]at h
  split at h
  ·rename_i q hc;exact⟨fun _=>0,[],st,rfl,.nil,⟨q,by simpa using hc,(kO h).1⟩,fun β a w hr=>⟨st,β,(kO h).2,hr⟩⟩
  ·exact h.elim
 |o::rest,k,B,acc,st,R,hl,hB,h=>by
  have h0:ops[k]? =some o:=by simpa using(hl 0).symm
  have Ro:∀j,rest[j]? =ops[k+1+j]? :=fun j=>by
   have:=hl (j+1);simpa [Nat.add_assoc,Nat.add_comm 1 j]using this
  have build:∀ (s:St) (f:FP),(∀ids fp,ids k=st.hp.length→fp k=f→sX P G ops ids fp k st s)→
    ∀ (B:y6) (R':Exit→St→Prop),kX B s→(jg P G A m true BF ops rest B (acc++ [f]) s).sat R'→(∀e a w,om W m β₀ R' e a w→om W m β₀ R e a w)→
    Di P G ops BF W m β₀ R acc k (o::rest).length st:=by
   intro s f Hx B R' hB hs hR;obtain⟨ids,fs,sf,e0,e1,e2,e3⟩:=wU rest (k+1) B (acc++ [f]) s R' Ro hB hs;refine⟨fun i=>if i=k then st.hp.length else ids i,f::fs,sf,by simp[e0],?_,by simpa using e2,fun β a w hr=>hR _ _ _ (e3 β a w hr)⟩;simp only[List.length_cons,List.range'_succ];refine .cons (Hx _ _ (if_pos rfl) (by simp)) ?_
   have key:∀ (l:List Nat) (x y:St),(∀i∈l,k+1≤i)→sY P G ops ids (fun i=>fs.getD (i-(k+1)) none) l x y→sY P G ops (fun i=>if i=k then st.hp.length else ids i) (fun i=>(f::fs).getD (i-k) none) l x y:=by
    intro l x y gD hx
    induction hx with
    |nil=>exact .nil
    |cons h t ih=>
     rename_i i l s1 s2 s3;refine .cons ?_ (ih fun i hi=>gD i (by simp[hi]));have hik:=gD i (by simp);unfold sX at h ⊢
     have e1:(f::fs).getD (i-k) none=fs.getD (i-(k+1)) none:=by
      rw[show i-k=(i-(k+1))+1 by omega];rfl
     have e2:(fun i=>if i=k then st.hp.length else ids i) i=ids i:=if_neg (by omega);simp only[e2,e1];exact h
   exact key _ _ _ (fun i hi=>by have:=List.mem_range'_1.1 hi;omega) e1
  have et:∀ (b:SB),dZ st ops o=some b→b.val=true→∀ (B:y6) (R':Exit→St→Prop),kX B st→(((mI P G B st.hp.length (ev st) o.op).val st.hp).q7 true fun v d=>
    jg P G A m true BF ops rest (forget B o.dst) (acc++ [Vk (mI P G B st.hp.length (ev st) o.op) st.hp v d]) (put st o.dst v (aV d st.hp))).sat R'→(∀e a w,om W m β₀ R' e a w→om W m β₀ R e a w)→Di P G ops BF W m β₀ R acc k (o::rest).length st:=by
   intro b hb hbv B R' hB hs hR;obtain⟨q,v,d,hst,n1,n2⟩:=My hs
   have hH:∃q',(ij P G (nq B o.op) st.hp.length (ev st) o.op).val st.hp= .leaf q' v d∧fo q'∧(ij P G (nq B o.op) st.hp.length (ev st) o.op).log st.hp=(mI P G B st.hp.length (ev st) o.op).log st.hp∧
     ∀f:FX,Vk (mI P G B st.hp.length (ev st) o.op) st.hp v d=some f→aBt f (ij P G (nq B o.op) st.hp.length (ev st) o.op):=by
    rcases Rm (P:=P) (G:=G) (id:=st.hp.length) (op:=o.op) hB with e|⟨v',p,e1,e2,hp⟩
    ·rw[← e];refine⟨q,hst,n1,rfl,fun f hf h=>?_⟩;simp only[Vk,Option.some.injEq]at hf;subst hf;exact⟨rfl,fun v' hv=>⟨none,hv,trivial⟩⟩
    ·rw[e1]at hst;simp only[Ask.val]at hst
     cases hst
     refine⟨some p,by rw[e2];rfl,hp,by rw[e1,e2];rfl,fun f hf h=>?_⟩;simp only[Vk,Option.some.injEq]at hf;subst hf;rw[e1,e2];refine⟨rfl,fun v' hv=>⟨some p,?_,hp⟩⟩;simp only[Ask.val,Out.leaf.injEq]at hv;rw[← hv.2.1];rfl
   obtain⟨q',k1,k2,k3,k4⟩:=hH;exact build _ _ (fun ids fp amj hfp=>⟨o,b,h0,hb,.inl ⟨hbv,q',v,d,_,_,by rw[amj];exact k1,k2,⟨hfp,by rw[amj];exact k3.symm,rfl,rfl,by rw[amj];exact k4 _ rfl⟩,by rw[amj];exact sV _ _,rfl⟩⟩) _ R' hB.put n2 hR
  have Ht:∀ (b:SB),dZ st ops o=some b→b.val=false→∀ (B:y6) (R':Exit→St→Prop),kX B st→(jg P G A m true BF ops rest (forget B o.dst) (acc++ [none]) (put st o.dst (.cG []) st.hp)).sat R'→
    (∀e a w,om W m β₀ R' e a w→om W m β₀ R e a w)→Di P G ops BF W m β₀ R acc k (o::rest).length st:=by
   intro b hb hbv B R' hB hs hR;exact build (put st o.dst (.cG []) st.hp) none (fun ids fp _ hfp=>⟨o,b,h0,hb,.inr ⟨hbv,hfp,rfl⟩⟩) _ R' hB.put hs hR
  simp only[jg]at h
  cases hb0:np B st ops o with
  |none=>simp only[hb0]at h;exact h.elim
  |some b=>
   obtain⟨b',hb,hbv⟩:=y8 hB hb0;simp only[hb0]at h
   cases b with
   |lit b=>
    cases b with
    |true=>exact et _ hb hbv B R hB h fun _ _ _ h=>h
    |false=>exact Ht _ hb hbv B R hB h fun _ _ _ h=>h
   |sym b=>
    cases b with
    |true=>
     obtain⟨R',h1,h2⟩:=A.yes (W:=W) (β₀:=β₀) h;exact et _ hb hbv _ R' (sU hB hb0) h1 h2
    |false=>
     obtain⟨R',h1,h2⟩:=A.no (W:=W) (β₀:=β₀) h;exact Ht _ hb hbv _ R' (sU hB hb0) h1 h2
noncomputable section
variable {P:Program} {G:y5}
theorem ze(hG:GOk P G){A:Alt}(lz:P.follows .mixedOrders=true){m:Hp}{ops:Array Oper}{id:Nat}{st:St}(hd:s5 ops.toList 0=true){R:Exit→St→Prop}
  (h:(jg P G A m true (xD ops) ops ops.toList [] [] st).sat R) {W:World} {β₀:Env} {Q:Exit→Act→World→Prop} (hq:∀e a w,om W m β₀ R e a w→Q e a w) {β:Env} {a:Act} {w:World}
  (hr:Rel W m β₀ β st a w):(Code.region id ops true).wp P Q a w:=by
 obtain⟨ids,fs,sf,e0,e1,⟨q,e2,e2'⟩,e3⟩:=wU (W:=W) (β₀:=β₀) ops.toList 0 [] [] st R (fun j=>by simp) (fun _ _ h=>by simp[known]at h) h;obtain⟨hE,_⟩:=zb (ops:=ops) ops.toList [] [] (by simp) rfl hd;obtain⟨ps,p1,p2⟩:=Dh (by simpa using e2) e2'
 have hM:∀i o,ops[i]? =some o→avX ops (fun i=>(sZ ops.toList []).getD i 0) (fun i=>fs.getD (i-0) none) i o:=by
  intro i o ho;obtain⟨k1,k2⟩:=hE _ (fun _=>rfl) i o (Nat.zero_le _) ho;exact⟨k1,fun j oj hj De=>q8 ops.toList 0 (fun j=>by simp) p1 p2 i o (Nat.zero_le _) ho j oj hj De,k2⟩
 refine wp_region_any lz ?_
 have A3:cF ops (Array.replicate ops.size false)=List.range' 0 ops.toList.length:=by
  unfold cF;rw[List.filter_eq_self.2 fun i hi=>?_]
  ·rw[List.range_eq_range'];simp
  ·have:=List.mem_range.1 hi;simp[this]
 refine Bc hG hM (ids:=ids) (sf:=sf) (fun β a w hr=>hq _ _ _ (e3 β a w hr)) ops.size _ st β a _ (by simp) (by rw[A3];simp) ?_ (by rw[A3];exact e1) ?_
 ·intro j oj _ hl;exfalso
  by_cases hj:j<ops.size
  ·simp[hj]at hl
  ·simp[hj]at hl
 ·exact⟨hr.defers,hr.fr,hr.heap.drew _ _⟩
end
def aaB:Nat→(St→aW)→St→aW
 |0,_,_=>.fail
 |k+1,f,st=>(f st).bind (aaB k f)
def avY:Nat:=100000
def Ex(P:Program)(m:Hp)(c:Code)(st:St)(r:aW):Prop:=
 ∀ (W:World) (β₀:Env) (R:Exit→St→Prop) (Q:Exit→Act→World→Prop),r.sat R→(∀e a w,om W m β₀ R e a w→Q e a w)→
  ∀β a w,Rel W m β₀ β st a w→c.wp P Q a w
abbrev dL:=List (Nat×(St→aW))
def BH:dL→Nat→Option (St→aW)
 | [],_=>none
 |(i,f)::l,id=>if i=id then some f else BH l id
def aJ(P:Program)(m:Hp)(LT:dL):Code→Prop
 | .seq a b| .cond _ a b=>aJ P m LT a∧aJ P m LT b
 | .block id c=>aJ P m LT c∧∀f,BH LT id=some f→∀st,Ex P m c st (f st)
 | .loop c| .scope c=>aJ P m LT c
 |_=>True
theorem aJ.nil{P:Program}{m:Hp}:∀c:Code,aJ P m [] c:=by
 intro c
 induction c with
 |seq a b iha ihb=>exact⟨iha,ihb⟩
 |cond _ a b iha ihb=>exact⟨iha,ihb⟩
 |block id c ih=>exact⟨ih,fun f h=>by cases h⟩
 |loop c ih=>exact ih
 |scope c ih=>exact ih
 |_=>trivial
def ME:Code→List (Nat×Code)
 | .seq a b| .cond _ a b=>ME a++ME b
 | .block id c=>(id,c)::ME c
 | .loop c| .scope c=>ME c
 |_=> []
theorem aJ.of{P:Program}{m:Hp}{LT:dL}:∀ {c:Code},(∀id f c',BH LT id=some f→(id,c')∈ME c→∀st,Ex P m c' st (f st))→aJ P m LT c:=by
 intro c
 induction c with
 |seq a b iha ihb=>exact fun h=>⟨iha fun id f c' hf hm=>h id f c' hf (List.mem_append_left _ hm),ihb fun id f c' hf hm=>h id f c' hf (List.mem_append_right _ hm)⟩
 |cond _ a b iha ihb=>exact fun h=>⟨iha fun id f c' hf hm=>h id f c' hf (List.mem_append_left _ hm),ihb fun id f c' hf hm=>h id f c' hf (List.mem_append_right _ hm)⟩
 |block id c ih=>exact fun h=>⟨ih fun id f c' hf hm=>h id f c' hf (List.mem_cons_of_mem _ hm),fun f hf=>h id f c hf (by simp[ME])⟩
 |loop c ih=>exact fun h=>ih h
 |scope c ih=>exact fun h=>ih h
 |_=>exact fun _=>trivial
def exec(P:Program)(G:y5)(A:Alt)(m:Hp)(LT:dL):Code→St→aW
 | .skip,st=>.leaf .normal st
 | .seq a b,st=>(exec P G A m LT a st).bind (exec P G A m LT b)
 | .cond c x y,st=>match ev st c with
  | .one (.sc (.bool (.lit true)))=>exec P G A m LT x st
  | .one (.sc (.bool (.lit false)))=>exec P G A m LT y st
  | .one (.sc (.bool (.sym b)))=>A.f b m (exec P G A m LT x st) (exec P G A m LT y st)
  |_=>.fail
 | .block id c,st=>match BH LT id with
  |some f=>(f st).block id
  |none=>(exec P G A m LT c st).block id
 | .exit id,st=>.leaf (.exit id) st
 | .ret,st=>.leaf .ret st
 | .label _,st=>.leaf .normal st
 | .scope c,st=>(exec P G A m LT c st).scope
 | .loop c,st=>aaB avY (exec P G A m LT c) st
 | .region _ ops false,st=>jg P G A m false (fun _=>some none) ops ops.toList [] [] st
 | .region _ ops true,st=>if s5 ops.toList 0=true then jg P G A m true (xD ops) ops ops.toList [] [] st else .fail
 |_,_=>.fail
def aBC(R:Exit→St→Prop)(f:St→aW):Exit→St→Prop
 | .normal,st=>(f st).sat R
 |e,st=>R e st
theorem mL{f:St→aW}{R:Exit→St→Prop}:∀ {r:aW},(r.bind f).sat R→r.sat (aBC R f)
 | .leaf .normal _,h=>h
 | .leaf (.exit _) _,h=>h
 | .leaf (.goto _) _,h=>h
 | .leaf .ret _,h=>h
 | .leaf (.panic _) _,h=>h
 | .leaf .outgrown _,h=>h
 | .ite _ _ _,h=>⟨fun e=>mL (h.1 e),fun e=>mL (h.2 e)⟩
 | .need _ _,h=>⟨h.1,mL h.2⟩
 | .fail,h=>h
def Dj(R:Exit→St→Prop)(id:Nat):Exit→St→Prop
 | .exit i,st=>if i=id then R .normal st else R (.exit i) st
 |e,st=>R e st
theorem kP{id:Nat}{R:Exit→St→Prop}:∀ {r:aW},(r.block id).sat R→r.sat (Dj R id)
 | .leaf (.exit i) st,h=>by
  simp only[aW.block]at h;show if i=id then R .normal st else R (.exit i) st
  split at h
  ·rename_i hi;rw[if_pos hi];exact h
  ·rename_i hi;rw[if_neg hi];exact h
 | .leaf .normal _,h=>h
 | .leaf (.goto _) _,h=>h
 | .leaf .ret _,h=>h
 | .leaf (.panic _) _,h=>h
 | .leaf .outgrown _,h=>h
 | .ite _ _ _,h=>⟨fun e=>kP (h.1 e),fun e=>kP (h.2 e)⟩
 | .need _ _,h=>⟨h.1,kP h.2⟩
 | .fail,h=>h
def aGW(R:Exit→St→Prop):Exit→St→Prop
 | .goto _,_=>False
 |e,st=>R e st
theorem pX{R:Exit→St→Prop}:∀ {r:aW},r.scope.sat R→r.sat (aGW R)
 | .leaf .normal _,h=>h
 | .leaf (.exit _) _,h=>h
 | .leaf (.goto _) _,h=>h
 | .leaf .ret _,h=>h
 | .leaf (.panic _) _,h=>h
 | .leaf .outgrown _,h=>h
 | .ite _ _ _,h=>⟨fun e=>pX (h.1 e),fun e=>pX (h.2 e)⟩
 | .need _ _,h=>⟨h.1,pX h.2⟩
 | .fail,h=>h
theorem aml{P:Program}{G:y5}{A:Alt}(hG:GOk P G)(lz:P.follows .mixedOrders=true){W:World}{m:Hp}{LT:dL}{β₀:Env}:
  ∀ (c:Code),aJ P m LT c→∀ (st:St) (R:Exit→St→Prop) (Q:Exit→Act→World→Prop),(exec P G A m LT c st).sat R→(∀e a w,om W m β₀ R e a w→Q e a w)→
   ∀β a w,Rel W m β₀ β st a w→c.wp P Q a w:=by
 intro c
 induction c with
 |skip=>intro hL st R Q h hq β a w hr;exact wp_skip (hq _ _ _ ⟨st,β,h,hr⟩)
 |exit id=>intro hL st R Q h hq β a w hr;exact wp_exit (hq _ _ _ ⟨st,β,h,hr⟩)
 |ret=>intro hL st R Q h hq β a w hr;exact wp_ret (hq _ _ _ ⟨st,β,h,hr⟩)
 |seq x y ihx ihy=>
  intro hL st R Q h hq β a w hr;refine wp_seq (ihx hL.1 st _ _ (mL h) ?_ β a w hr)
  rintro e a w ⟨s,β',h1,h2⟩
  cases e with
  |normal=>exact ihy hL.2 s R Q h1 hq β' a w h2
  |exit _=>exact hq _ _ _ ⟨s,β',h1,h2⟩
  |goto _=>exact hq _ _ _ ⟨s,β',h1,h2⟩
  |ret=>exact hq _ _ _ ⟨s,β',h1,h2⟩
  |panic _=>exact hq _ _ _ ⟨s,β',h1,h2⟩
  |outgrown=>exact hq _ _ _ ⟨s,β',h1,h2⟩
 |cond c x y ihx ihy=>
  intro hL st R Q h hq β a w hr;have hc:=bh hr c;simp only[exec]at h
  split at h
  ·rename_i he;rw[he]at hc;exact wp_cond_true hc (ihx hL.1 st R Q h hq β a w hr)
  ·rename_i he;rw[he]at hc;exact wp_cond_false hc (ihy hL.2 st R Q h hq β a w hr)
  ·rename_i b he;rw[he]at hc
   cases b with
   |true=>
    obtain⟨R',h1,h2⟩:=A.yes (W:=W) (β₀:=β₀) h;exact wp_cond_true hc (ihx hL.1 st R' Q h1 (fun e a w hp=>hq e a w (h2 e a w hp)) β a w hr)
   |false=>
    obtain⟨R',h1,h2⟩:=A.no (W:=W) (β₀:=β₀) h;exact wp_cond_false hc (ihy hL.2 st R' Q h1 (fun e a w hp=>hq e a w (h2 e a w hp)) β a w hr)
  ·exact h.elim
 |block id c ih=>
  intro hL st R Q h hq β a w hr
  have hin:∀Q',(∀e a w,om W m β₀ (Dj R id) e a w→Q' e a w)→c.wp P Q' a w:=by
   intro Q' U9;simp only[exec]at h
   split at h
   ·rename_i f hf;exact hL.2 f hf st W β₀ _ _ (kP h) U9 β a w hr
   ·exact ih hL.1 st _ _ (kP h) U9 β a w hr
  refine wp_block (hin _ ?_)
  rintro e a w ⟨s,β',h1,h2⟩
  cases e with
  |exit i=>
   simp only[Dj]at h1;simp only[Exit.inBlock]
   split at h1
   ·rename_i hi;rw[if_pos hi];exact hq _ _ _ ⟨s,β',h1,h2⟩
   ·rename_i hi;rw[if_neg hi];exact hq _ _ _ ⟨s,β',h1,h2⟩
  |normal=>exact hq _ _ _ ⟨s,β',h1,h2⟩
  |goto _=>exact hq _ _ _ ⟨s,β',h1,h2⟩
  |ret=>exact hq _ _ _ ⟨s,β',h1,h2⟩
  |panic _=>exact hq _ _ _ ⟨s,β',h1,h2⟩
  |outgrown=>exact hq _ _ _ ⟨s,β',h1,h2⟩
 |loop c ih=>
  intro hL st R Q h hq β a w hr
  have key:∀ (n:Nat) (st:St),(aaB n (exec P G A m LT c) st).sat R→∀β a w,Rel W m β₀ β st a w→Code.rounds P c Q n a w:=by
   intro n
   induction n with
   |zero=>intro st h;exact h.elim
   |succ n ihn=>
    intro st h β a w hr;rw[rounds_succ];refine ih hL st _ _ (mL h) ?_ β a w hr
    rintro e a w ⟨s,β',h1,h2⟩
    cases e with
    |normal=>exact ihn s h1 β' a w h2
    |exit _=>exact hq _ _ _ ⟨s,β',h1,h2⟩
    |goto _=>exact hq _ _ _ ⟨s,β',h1,h2⟩
    |ret=>exact hq _ _ _ ⟨s,β',h1,h2⟩
    |panic _=>exact hq _ _ _ ⟨s,β',h1,h2⟩
    |outgrown=>exact hq _ _ _ ⟨s,β',h1,h2⟩
  exact wp_loop_rounds avY (key avY st h β a w hr)
 |label l=>intro hL st R Q h hq β a w hr;exact wp_label (hq _ _ _ ⟨st,β,h,hr⟩)
 |scope c ih=>
  intro hL st R Q h hq β a w hr;refine wp_scope_straight (ih hL st _ _ (pX h) ?_ β a w hr)
  rintro e a w ⟨s,β',h1,h2⟩
  cases e with
  |goto _=>exact h1.elim
  |normal=>exact hq _ _ _ ⟨s,β',h1,h2⟩
  |exit _=>exact hq _ _ _ ⟨s,β',h1,h2⟩
  |ret=>exact hq _ _ _ ⟨s,β',h1,h2⟩
  |panic _=>exact hq _ _ _ ⟨s,β',h1,h2⟩
  |outgrown=>exact hq _ _ _ ⟨s,β',h1,h2⟩
 |region id ops d=>
  intro hL st R Q h hq β a w hr
  cases d with
  |false=>exact wp_region_list (y9 hG ops.toList [] [] st R (fun _ _ h=>by simp[known]at h) h hq β a w hr)
  |true=>
   simp only[exec]at h
   split at h
   ·rename_i hd;exact ze hG lz hd h hq hr
   ·exact h.elim
 |_=>intro hL st R Q h;exact h.elim
theorem Ex.Rp{P:Program}{G:y5}{A:Alt}(hG:GOk P G)(lz:P.follows .mixedOrders=true){m:Hp}{LT:dL}{c:Code}(hL:aJ P m LT c){st:St}{r:aW}(h:exec P G A m LT c st=r):Ex P m c st r:=
 fun _ _ R Q hs hq β a w hr=>aml hG lz c hL st R Q (h▸hs) hq β a w hr
theorem Ex.U6{P:Program}{m:Hp}{c:Code}{st:St}{r r':aW}(h:Ex P m c st r)(hw:∀R,r'.sat R→r.sat R):Ex P m c st r':=
 fun W β₀ R Q hs hq β a w hr=>h W β₀ R Q (hw R hs) hq β a w hr
theorem Ex.bind{P:Program}{m:Hp}{x y:Code}{st:St}{r:aW}{f:St→aW}(h1:Ex P m x st r)(h2:∀s,Ex P m y s (f s)):Ex P m (.seq x y) st (r.bind f):=by
 intro W β₀ R Q hs hq β a w hr;refine wp_seq (h1 W β₀ _ _ (mL hs) ?_ β a w hr)
 rintro e a w ⟨t,β',h3,h4⟩
 cases e with
 |normal=>exact h2 t W β₀ R Q h3 hq β' a w h4
 |exit _=>exact hq _ _ _ ⟨t,β',h3,h4⟩
 |goto _=>exact hq _ _ _ ⟨t,β',h3,h4⟩
 |ret=>exact hq _ _ _ ⟨t,β',h3,h4⟩
 |panic _=>exact hq _ _ _ ⟨t,β',h3,h4⟩
 |outgrown=>exact hq _ _ _ ⟨t,β',h3,h4⟩
def aW.nor(R:St→Prop):aW→Prop:=aW.sat fun e s=>e= .normal→R s
theorem Ex.block{P:Program}{m:Hp}{id:Nat}{c:Code}{st:St}{r:aW}(h:Ex P m c st r):Ex P m (.block id c) st (r.block id):=by
 intro W β₀ R Q hs hq β a w hr;refine wp_block (h W β₀ _ _ (kP hs) ?_ β a w hr)
 rintro e a w ⟨s,β',h1,h2⟩
 cases e with
 |exit i=>
  simp only[Dj]at h1;simp only[Exit.inBlock]
  split at h1
  ·rename_i hi;rw[if_pos hi];exact hq _ _ _ ⟨s,β',h1,h2⟩
  ·rename_i hi;rw[if_neg hi];exact hq _ _ _ ⟨s,β',h1,h2⟩
 |normal=>exact hq _ _ _ ⟨s,β',h1,h2⟩
 |goto _=>exact hq _ _ _ ⟨s,β',h1,h2⟩
 |ret=>exact hq _ _ _ ⟨s,β',h1,h2⟩
 |panic _=>exact hq _ _ _ ⟨s,β',h1,h2⟩
 |outgrown=>exact hq _ _ _ ⟨s,β',h1,h2⟩
theorem Ex.loop{P:Program}{m:Hp}{c:Code}{X:Type}(μ:X→Nat)(S:X→St)(I:X→Prop)(rnd:X→aW)(h:∀x,I x→Ex P m c (S x) (rnd x)){R:X→Exit→St→Prop}
  (hr:∀x,I x→(rnd x).sat fun e s=>(e= .normal∧∃y,s=S y∧I y∧μ y<μ x∧∀e s,R y e s→R x e s)∨(e≠ .normal∧R x e s)) {x:X} (hx:I x) {r:aW} (hR:∀R',r.sat R'→∀e s,R x e s→R' e s):Ex P m (.loop c) (S x) r:=by
 intro W β₀ R0 Q hs hq β a w aaC
 have key:∀ (n:Nat) (y:X),I y→μ y<n→(∀e s,R y e s→R0 e s)→∀β a w,Rel W m β₀ β (S y) a w→Code.rounds P c Q n a w:=by
  intro n
  induction n with
  |zero=>intro y _ h0;omega
  |succ n ih=>
   intro y hy hn hRy β a w ov;rw[rounds_succ];refine h y hy W β₀ _ _ (hr y hy) ?_ β a w ov
   rintro e a w ⟨t,β',h1,h2⟩
   rcases h1 with⟨rfl,z,rfl,hz,dU,aaD⟩|⟨gD,h1⟩
   ·exact ih z hz (by omega) (fun e s h=>hRy e s (aaD e s h)) β' a w h2
   ·cases e with
    |normal=>exact absurd rfl gD
    |exit _=>exact hq _ _ _ ⟨t,β',hRy _ _ h1,h2⟩
    |goto _=>exact hq _ _ _ ⟨t,β',hRy _ _ h1,h2⟩
    |ret=>exact hq _ _ _ ⟨t,β',hRy _ _ h1,h2⟩
    |panic _=>exact hq _ _ _ ⟨t,β',hRy _ _ h1,h2⟩
    |outgrown=>exact hq _ _ _ ⟨t,β',hRy _ _ h1,h2⟩
 exact wp_loop_rounds (μ x+1) (key _ x hx (Nat.lt_succ_self _) (fun e s h=>hR R0 hs e s h) β a w aaC)
def vr(P:Program)(st:St):ResultVar→Option VV
 | .tmp t=>match ev st (.tmp t)with
  | .one x=>some x
  |_=>none
 | .cell a t=>match ev st (.tmp a)with
  | .one (.sc (.ptr b off))=>match bJ st.hp b with
   |some (.bH cells _)=>fy P t cells off
   |_=>none
  |_=>none
def Hy(P:Program)(fn:Func)(st:St):Option LV:=
 match dn (vr P st) fn.results.toList with
 |some [x]=>some (.one x)
 |some l=>some (.cG l)
 |none=>none
def Dk(a:Act):ResultVar→Sem Value
 | .tmp t=>pure (a.tmps.getD t undef)
 | .cell b t=>do loadVar t (← asAddr (a.tmps.getD b undef))
theorem MF(fn:Func)(a:Act):results fn a.tmps=(do let vs ← fn.results.mapM (Dk a);pure (if h:vs.size=1 then vs[0]else .tuple vs)):=by
 unfold results
 congr 2
theorem MG{P:Program}{W:World}{an:Hp}{β₀ β:Env}{st:St}{a:Act}{w:World}(hr:Rel W an β₀ β st a w){r:ResultVar}{x:VV}(h:vr P st r=some x):
  ∃v,(Dk a r).run P w= .ok v w∧x.den β (kd st.hp) v:=by
 cases r with
 |tmp t=>
  simp only[vr]at h
  split at h
  ·rename_i y hy;simp at h;subst h;have:=bh hr (.tmp t);rw[hy]at this;exact⟨_,rfl,this⟩
  ·simp at h
 |cell b t=>
  simp only[vr]at h
  split at h
  ·rename_i i off hy
   split at h
   ·rename_i cells elem hb;have:=bh hr (.tmp b);rw[hy]at this;obtain⟨_,e⟩:=this;have e':a.tmps.getD b undef= .pointer (some ⟨β.b i,off,none⟩):=e;obtain⟨c,fz,_,_,h3,h4⟩:=hr.heap.je (aB hb);obtain⟨v,h5,h6⟩:=kv (P:=P) rfl h4 h3 h;rw[cj,Nat.zero_add]at h5;exact⟨v,by simp[Dk,e',asAddr,h5],h6⟩
   ·simp at h
  ·simp at h
theorem Hz{P:Program}{fn:Func}{W:World}{an:Hp}{β₀ β:Env}{st:St}{a:Act}{w:World}(hr:Rel W an β₀ β st a w){r:LV}(h:Hy P fn st=some r):
  ∃v,(results fn a.tmps).run P w= .ok v w∧r.den β (kd st.hp) v:=by
 have key:∀ (l:List ResultVar) (xs:List VV),dn (vr P st) l=some xs→∃vs:List Value,(l.mapM (Dk a)).run P w= .ok vs w∧bX (VV.den β (kd st.hp)) xs vs:=by
  intro l
  induction l with
  |nil=>intro xs h;simp[dn]at h;subst h;exact⟨[],by simp,.nil⟩
  |cons r l ih=>
   intro xs h;simp only[dn]at h
   split at h
   ·rename_i y m' h1 h2;simp at h;subst h;obtain⟨v,e1,e2⟩:=MG hr h1;obtain⟨vs,e3,e4⟩:=ih _ h2;refine⟨v::vs,?_,.cons e2 e4⟩;simp only[List.mapM_cons,Sem.run_bind];rw[e1];simp only[Result.andThen_ok,Sem.run_pure,e3]
   ·simp at h
 unfold Hy at h
 have et:∀ (vs:List Value) (xs:List VV),dn (vr P st) fn.results.toList=some xs→(∀vs:List Value,bX (VV.den β (kd st.hp)) xs vs→∃v,(if h:vs.toArray.size=1 then vs.toArray[0]else .tuple vs.toArray)=v∧r.den β (kd st.hp) v)→
   ∃v,(results fn a.tmps).run P w= .ok v w∧r.den β (kd st.hp) v:=by
  intro _ xs hx hv;obtain⟨vs,e1,e2⟩:=key _ _ hx;obtain⟨v,e3,e4⟩:=hv vs e2;refine⟨v,?_,e4⟩;rw[MF,Sem.run_bind,Array.mapM_eq_mapM_toList];simp only[Sem.run_map,e1,Result.andThen_ok];rw[← e3];rfl
 split at h
 ·rename_i x hx;simp at h;subst h;refine et [] [x] hx fun vs hvs=>?_
  cases hvs with
  |cons h1 h2=>
   cases h2
   exact⟨_,rfl,h1⟩
 ·rename_i l gD hl;simp at h;subst h;refine et [] l hl fun vs hvs=>?_;have hlen:=hvs.length
  have:vs.length≠1:=by
   intro e;rw[e]at hlen;obtain⟨x,hx⟩:=List.length_eq_one_iff.1 hlen;exact gD x hx
  refine⟨_,by rw[dif_neg (by simpa using this)],vs,rfl,hvs⟩
 ·simp at h
theorem bB.self{W:World}{an:Hp}{β₀ β:Env}{hp:Hp}{w:World}(h:bB W an β₀ β hp w):bB w hp β β hp w:=
 ⟨h.items,h.inj,cb.refl _ _,fun i x b hi ho=>.inr ⟨x,hi,ho⟩,rfl,rfl,Nat.le_refl _,fun _ _ _=>rfl,h.reads,fun pm v t l b h1 h2=>.inr ⟨pm,v,t,l,id,h1,h2⟩⟩
theorem bB.trans{W:World}{an:Hp}{β₀ β β':Env}{hp dI:Hp}{w w':World}(h:bB W an β₀ β hp w)(h':bB w hp β β' dI w'):bB W an β₀ β' dI w' where
 items:=h'.items
 inj:=h'.inj
 first:=h.first.trans h'.first
 own i x b hi ho:=by
  rcases h'.own i x b hi ho with h1|⟨y,hj,h1⟩
  ·exact .inl (Nat.le_trans h.size h1)
  ·exact h.own i y b hj h1
 os:=h'.os.trans h.os
 output:=h'.output.trans h.output
 size:=Nat.le_trans h.size h'.size
 al b hb gD:=by
  rw[h'.al b (by have:=h.size;omega) fun⟨i,x,hi,ho⟩=>?_]
  ·exact h.al b hb gD
  ·rcases h.own i x b hi ho with h1|⟨y,h1⟩
   ·omega
   ·exact gD ⟨i,y,h1⟩
 reads:=h'.reads
 from_ pm v t l b h1 h2:=by
  rcases h'.from_ pm v t l b h1 h2 with h3|⟨ly,v',t',l',h0,h3,h4⟩
  ·exact .inl (Nat.le_trans h.size h3)
  ·rcases h.from_ ly v' t' l' b h3 h4 with h5|⟨pm2,v2,t2,l2,h6,h7,h8⟩
   ·exact .inl h5
   ·exact .inr ⟨pm2,v2,t2,l2,fun e=>h6 (h0 e),h7,h8⟩
def iA(P:Program)(f:FuncId)(args:List LV)(hp:Hp)(R:LV→Hp→Prop):Prop:=
 ∀ (β:Env) (w:World) (vals:List Value),bB w hp β β hp w→bX (LV.den β (kd hp)) args vals→
  Calls P f vals.toArray w fun e w'=>∃val β' r dI,e= .returned val∧R r dI∧r.den β' (kd dI) val∧bB w hp β β' dI w'
def entry(fn:Func)(args:List LV)(hp:Hp):St:=⟨args++List.replicate (fn.ntmps-args.length) (.cG []),hp⟩
inductive End where
 |leaf (v:LV) (hp:Hp)
 |ite (b:Bool) (x y:End)
 |need (p:Prop) (x:End)
 |fail
def End.sat(R:LV→Hp→Prop):End→Prop
 | .leaf v hp=>R v hp
 | .ite b x y=>(b=true→x.sat R)∧(b=false→y.sat R)
 | .need p x=>p∧x.sat R
 | .fail=>False
def aW.ends(P:Program)(fn:Func):aW→End
 | .leaf .normal st| .leaf .ret st=>match Hy P fn st with
  |some v=>.leaf v st.hp
  |none=>.fail
 | .leaf _ _=>.fail
 | .ite b x y=>.ite b (x.ends P fn) (y.ends P fn)
 | .need p x=>.need p (x.ends P fn)
 | .fail=>.fail
theorem s7{P:Program}{fn:Func}{R:LV→Hp→Prop}:∀ {r:aW},(r.ends P fn).sat R→r.sat fun e st=>(e= .normal∨e= .ret)∧∃v,Hy P fn st=some v∧R v st.hp
 | .leaf e st,h=>by
  cases e with
  |normal=>
   simp only[aW.ends]at h
   split at h
   ·rename_i v hv;exact⟨.inl rfl,v,hv,h⟩
   ·exact h.elim
  |ret=>
   simp only[aW.ends]at h
   split at h
   ·rename_i v hv;exact⟨.inr rfl,v,hv,h⟩
   ·exact h.elim
  |exit _=>exact h.elim
  |goto _=>exact h.elim
  |panic _=>exact h.elim
  |outgrown=>exact h.elim
 | .ite b x y,h=>⟨fun e=>s7 (h.1 e),fun e=>s7 (h.2 e)⟩
 | .need p x,h=>⟨h.1,s7 h.2⟩
 | .fail,h=>h
def gI(P:Program)(f:FuncId)(args:List LV)(hp:Hp)(t:End):Prop:=∀R,t.sat R→iA P f args hp R
theorem MH{P:Program}{f:FuncId}{fn:Func}{c:Code}(hf:P.funcs[f]? =some fn)(hb:fn.body=some c){args:List LV}{hp:Hp}{r:aW}(hx:Ex P hp c (entry fn args hp) r):gI P f args hp (r.ends P fn):=by
 intro R h β w vals hh eA;refine calls_of_wp hf hb ?_
 have aaC:Rel w hp β β (entry fn args hp) {tmps:=vals.toArray++Array.replicate (fn.ntmps-vals.toArray.size) undef,defers:= []} w:=by
  refine⟨rfl,?_,hh⟩;show bX _ (args++List.replicate (fn.ntmps-args.length) (.cG [])) (vals.toArray++Array.replicate (fn.ntmps-vals.toArray.size) undef).toList;have hl:=eA.length
  have e:(vals.toArray++Array.replicate (fn.ntmps-vals.toArray.size) undef).toList=vals++List.replicate (fn.ntmps-args.length) undef:=by
   simp[hl]
  rw[e];refine eA.append ?_;generalize fn.ntmps-args.length=k
  induction k with
  |zero=>exact .nil
  |succ k ih=>exact .cons ⟨[],rfl,.nil⟩ ih
 refine hx _ _ _ _ (s7 h) ?_ β _ w aaC
 have key:∀ (a:Act) (w':World) (st:St) (β':Env) (x:LV),Hy P fn st=some x→R x st.hp→Rel w hp β β' st a w'→
   a.defers= []∧∃v,(results fn a.tmps).run P w'= .ok v w'∧(∃val β' r dI,Ending.returned v= .returned val∧R r dI∧r.den β' (kd dI) val∧bB w hp β β' dI w'):=by
  intro a w' st β' x amm hR hr;obtain⟨v,h1,h2⟩:=Hz hr amm;exact⟨hr.defers,v,h1,v,β',x,st.hp,rfl,hR,h2,hr.heap⟩
 rintro e a w' ⟨st,β',⟨he,x,amm,hR⟩,hr⟩
 rcases he with rfl|rfl
 ·exact key a w' st β' x amm hR hr
 ·exact key a w' st β' x amm hR hr
def vt(P:Program)(f:FuncId):Prop:=∀ (as:Array Value) (w:World),(callFunc f as).run P w= .ok (.enter f as) w
end Go.Ev
end
