/- What the laws lean on, part 4: a reader of code, plain facts, and what each function gives; no conditions. -/
import Derived.LoopN
import Derived.Orders
import Derived.Scope
import Derived.Test.YtnbkagglkajbkaaGreatA3
set_option linter.unusedVariables false
set_option linter.unusedSimpArgs false
noncomputable section
namespace Go.Ev
open Go
open Go.IntKind (i64 signed u16 u64 wrap)
noncomputable section
variable {P:Program} {W:World} {ak:Hp} {β₀ β:Env} {w:World} {st:St} {a:Act}
def azT(P:Program)(W:World)(ak:Hp)(β₀ β:Env)(st:St)(w:World)(s:Sem Next)(v:LV)(d:List (Nat×Item)):Prop:=
 ∃ (β':Env) (w':World) (val:Value),s.run P w= .ok (.value val) w'∧v.den β' (kd (aJ d st.hp)) val∧bb W ak β₀ β' (aJ d st.hp) w'∧bO β β' (kd st.hp) (kd (aJ d st.hp))
theorem avl(hr:Rel W ak β₀ β st a w){t ty:TypeId}{x:SV}{n:SI}{v:Value}(hl:(avg P t x).val st.hp=some n)(hd:x.den β (kd st.hp) v):(Builtin.len_ #[t] ty #[v]).run P w= .ok (.int .i64 n.val) w:=by
 have hs:∀ {e:TypeId} {b:Option Addr} {k c:Nat},eu P t=some e→(Builtin.len_ #[t] ty #[.slice b k c]).run P w= .ok (goInt k) w:=fun he=>by
  have hu:=dV he;simp[Builtin.len_,run_underlying hu]
 have azU:∀ {s:ByteArray},P.underlying t=some .string→(Builtin.len_ #[t] ty #[.string s]).run P w= .ok (goInt s.size) w:=fun hu=>by
  simp[Builtin.len_,run_underlying hu]
 have azV:∀ {α:Type} {x y:α},(if P.underlying t matches some .string then some x else none)=some y→P.underlying t=some .string∧x=y:=by
  intro α x y h
  split at h
  ·rename_i hm;refine⟨?_,by simpa using h⟩
   revert hm
   cases hu:P.underlying t with
   |none=>simp
   |some d=>cases d<;>simp
  ·cases h
 unfold avg at hl
 split at hl
 ·simp only[Ask.val]at hl;obtain⟨e,he,rfl⟩:=map_some hl;obtain⟨_,rfl⟩:=hd;exact hs he
 ·simp only[Ask.val]at hl;obtain⟨e,he,rfl⟩:=map_some hl;obtain⟨_,rfl⟩:=hd;exact hs he
 ·simp only[Ask.val]at hl;obtain⟨hu,rfl⟩:=azV hl;have e:v= .string _:=hd;rw[e,azU hu,sN];rfl
 ·simp only[Ask.val]at hl;obtain⟨hu,rfl⟩:=azV hl;obtain⟨_,rfl⟩:=hd;exact azU hu
 ·split at hl
  ·rename_i e he;rw[Ask.cU]at hl;obtain⟨⟨pm,w6,l⟩,hc,rfl⟩:=map_some hl;obtain⟨b,c,rfl⟩:=(lr hr.heap hc hd).len;exact hs he
  ·simp[Ask.val]at hl
theorem xk{f:Int→Int→Int}{g:Value→Value→Sem Value}{k:IntKind}(hg:∀x y:Int,(g (.int k x) (.int k y)).run P w= .ok (.int k (f x y)) w){β:Env}{L:Nat→Option Kd}:
  ∀ (l:List SV) (vs:List Value) (x n:SI),bM (SV.den β L) l vs→xi f k x l=some n→(vs.foldlM g (.int k x.val)).run P w= .ok (.int k n.val) w
 | [],vs,x,n,hd,h=>by
  cases hd
  simp[xi]at h;subst h;simp
 | .int k' y::l,_,x,n,.cons (b:=b) (m:=vs) h1 h2,h=>by
  simp only[xi]at h
  split at h
  ·rename_i hk;subst hk;have e:b= .int k' y.val:=h1;subst e;simp only[List.foldlM_cons,Sem.run_bind,hg,Result.andThen_ok];have:=xk hg l vs _ n h2 h;rw[map2_val]at this;exact this
  ·cases h
theorem A4{β:Env}{L:Nat→Option Kd}:∀ {xs:List LV} {ss:List SV} {vs:List Value},c7 jD xs=some ss→bM (LV.den β L) xs vs→bM (SV.den β L) ss vs
 | [],_,_,h,hd=>by simp[c7]at h;subst h;cases hd;exact .nil
 |x::xs,ss,_,h,.cons h1 h2=>by
  simp only[c7]at h
  split at h
  ·rename_i s m hs hm;simp at h;subst h;exact .cons (bg hs h1) (A4 hm h2)
  ·cases h
theorem Zi(hr:Rel W ak β₀ β st a w){id:Nat}{t u ty_:TypeId}{s x:SV}{q:Option Prop}{v:LV}{d:List (Nat×Item)}(h:(aep P id t u s x).val st.hp=some (q,v,d))(hq:fo q)(pA:(∃x,(id,x)∈d)→kd st.hp id=none)
  {sv xv:Value} (hs0:s.den β (kd st.hp) sv) (xh:x.den β (kd st.hp) xv):
  ∃ (β':Env) (w':World) (val:Value),(Builtin.append_ #[t,u] ty_ #[sv,xv]).run P w= .ok val w'∧v.den β' (kd (aJ d st.hp)) val∧bb W ak β₀ β' (aJ d st.hp) w'∧bO β β' (kd st.hp) (kd (aJ d st.hp)):=by
 unfold aep at h
 split at h
 ·simp[Ask.val]at h
 rename_i el pe
 split at h
 rotate_left
 ·simp[Ask.val]at h
 rename_i ty sz z w7 hty hs hz PB
 split at h
 rotate_left
 ·simp[Ask.val]at h
 rename_i nq;obtain⟨rfl,jB,hwz⟩:=nq;rw[Ask.eF]at h
 split at h
 rotate_left
 ·simp[Ask.val]at h
 rename_i pm m hc
 split at h
 rotate_left
 ·simp[Ask.val]at h
 rename_i hf;obtain⟨news,Et,mf⟩:=aeq hr.heap hc hf xh
 split at h
 ·simp only[Ask.val]at h
  cases h
  have aej:=pA ⟨_,by simp;rfl⟩;obtain⟨_,rfl⟩:=hs0;have hq':m.length*w7≤70368744177664∧m.length≤70368744177664:=hq;have A5:dE β w (.slice none 0 0) ty []:=⟨none,0,0,rfl,rfl,Nat.le_refl _,fun _=>rfl,fun h=>absurd h (by omega)⟩;obtain⟨v',w',h1,h2,h3,h4,h5,h6,h7⟩:=A2 (ty_:=ty_) pe hs jB hz hwz PB A5 Et mf (by simpa using hq'.1) (by simpa using hq'.2);rw[List.nil_append]at h2;obtain⟨β',k1,k2,k3⟩:=hr.heap.sS aej (ver:=0) h3 h4 h5 (fun b hb=>h6 b hb (by rintro⟨_,_,_,e,_⟩;simp at e)) h2 (fun a n c e h0=>(h7 a n c e h0).resolve_left (by rintro⟨_,_,e,_⟩;simp at e));refine⟨β',w',v',h1,⟨?_,0,?_,Nat.le_refl _,fun _=>k3.symm⟩,k1,k2⟩
  ·obtain⟨_,_,_,rfl,_⟩:=h2;rfl
  ·show kd (setAt st.hp id _) id=_;rw[dq,if_pos rfl];rfl
 ·rename_i i ver;simp only[Ask.val]at h
  split at h
  ·rename_i ver' w6 l hi
   split at h
   ·rename_i e;subst e
    split at h
    ·rename_i e;subst e
     cases h
     obtain⟨sk,hh⟩:=hr.heap.pX (p:=fun v=>sv=v) (aB hi) hs0.2;have hq':(l.length+m.length)*w7≤70368744177664∧l.length+m.length≤70368744177664:=hq;obtain⟨v',w',h1,h2,h3,h4,h5,h6,h7⟩:=A2 (ty_:=ty_) pe hs jB hz hwz PB sk Et mf hq'.1 hq'.2
     obtain⟨β',k1,k2,k3⟩:=hr.heap.xg (aB hi) (ver':=ver+1) (l':=l++m) (v:=v') (w':=w') (.inl (Nat.lt_succ_self _)) h3 h4 h5 (fun b hb sC=>h6 b hb sC) h2
      (fun a n c e h0=>(h7 a n c e h0).imp (fun⟨n',c',e',h'⟩=>⟨a,n',c',e',h',rfl⟩) fun h=>h)
     refine⟨β',w',v',by rw[hh];exact h1,⟨?_,ver+1,?_,Nat.le_refl _,fun _=>k3.symm⟩,k1,k2⟩
     ·obtain⟨_,_,_,rfl,_⟩:=h2;rfl
     ·show kd (setAt st.hp i _) i=_;rw[dq,if_pos rfl];rfl
    ·cases h
   ·cases h
  ·cases h
 ·simp[Ask.val]at h
theorem an3(hr:Rel W ak β₀ β st a w){id:Nat}{t u ty_:TypeId}{s:SV}{k:IntKind}{n:Int}{q:Option Prop}{v:LV}{d:List (Nat×Item)}(h:(PZ P id t u s n).val st.hp=some (q,v,d))(hq:fo q)(pA:(∃x,(id,x)∈d)→kd st.hp id=none)
  {sv:Value} (hs0:s.den β (kd st.hp) sv):
  ∃ (β':Env) (w':World) (val:Value),(Builtin.append_ #[t,u] ty_ #[sv,.int k n]).run P w= .ok val w'∧v.den β' (kd (aJ d st.hp)) val∧bb W ak β₀ β' (aJ d st.hp) w'∧bO β β' (kd st.hp) (kd (aJ d st.hp)):=by
 unfold PZ at h
 split at h
 rotate_left
 ·simp[Ask.val]at h
 rename_i el kn pe hku
 split at h
 rotate_left
 ·simp[Ask.val]at h
 rename_i ty sz z w7 hty hs hz PB
 split at h
 rotate_left
 ·simp[Ask.val]at h
 rename_i nq;obtain⟨rfl,jB,hwz⟩:=nq
 split at h
 rotate_left
 ·simp[Ask.val]at h
 rename_i z0 hz0
 split at h
 ·simp only[Ask.val]at h
  cases h
  have aej:=pA ⟨_,by simp;rfl⟩;obtain⟨_,rfl⟩:=hs0;obtain⟨Ep,hq1,hq2⟩:0≤n∧n.toNat*w7≤70368744177664∧n.toNat≤70368744177664:=hq;obtain⟨m,rfl⟩:=Int.eq_ofNat_of_zero_le Ep;simp only[Int.toNat_natCast]at hq1 hq2 ⊢;have A5:dE β w (.slice none 0 0) ty []:=⟨none,0,0,rfl,rfl,Nat.le_refl _,fun _=>rfl,fun h=>absurd h (by omega)⟩;obtain⟨v',w',h1,h2,h3,h4,h5,h6,h7⟩:=ue (ty_:=ty_) (kq:=k) pe hs jB hz hwz PB A5 hku hz0 m (by simpa using hq1) (by simpa using hq2);rw[List.nil_append]at h2;obtain⟨β',k1,k2,k3⟩:=hr.heap.sS aej (ver:=0) h3 h4 h5 (fun b hb=>h6 b hb (by rintro⟨_,_,_,e,_⟩;simp at e)) h2 (fun a n c e h0=>(h7 a n c e h0).resolve_left (by rintro⟨_,_,e,_⟩;simp at e));refine⟨β',w',v',h1,⟨?_,0,?_,Nat.le_refl _,fun _=>k3.symm⟩,k1,k2⟩
  ·obtain⟨_,_,_,rfl,_⟩:=h2;rfl
  ·show kd (setAt st.hp id _) id=_;rw[dq,if_pos rfl];rfl
 ·rename_i i ver;simp only[Ask.val]at h
  split at h
  ·rename_i ver' w6 l hi
   split at h
   ·rename_i e;subst e
    split at h
    ·rename_i e;subst e
     cases h
     obtain⟨sk,hh⟩:=hr.heap.pX (p:=fun v=>sv=v) (aB hi) hs0.2;obtain⟨Ep,hq1,hq2⟩:0≤n∧(l.length+n.toNat)*w7≤70368744177664∧l.length+n.toNat≤70368744177664:=hq;obtain⟨m,rfl⟩:=Int.eq_ofNat_of_zero_le Ep;simp only[Int.toNat_natCast]at hq1 hq2 ⊢;obtain⟨v',w',h1,h2,h3,h4,h5,h6,h7⟩:=ue (ty_:=ty_) (kq:=k) pe hs jB hz hwz PB sk hku hz0 m hq1 hq2
     obtain⟨β',k1,k2,k3⟩:=hr.heap.xg (aB hi) (ver':=ver+1) (l':=l++List.replicate m z0) (v:=v') (w':=w') (.inl (Nat.lt_succ_self _)) h3 h4 h5 (fun b hb sC=>h6 b hb sC) h2
      (fun a n c e h0=>(h7 a n c e h0).imp (fun⟨n',c',e',h'⟩=>⟨a,n',c',e',h',rfl⟩) fun h=>h)
     refine⟨β',w',v',by rw[hh];exact h1,⟨?_,ver+1,?_,Nat.le_refl _,fun _=>k3.symm⟩,k1,k2⟩
     ·obtain⟨_,_,_,rfl,_⟩:=h2;rfl
     ·show kd (setAt st.hp i _) i=_;rw[dq,if_pos rfl];rfl
    ·cases h
   ·cases h
  ·cases h
 ·simp[Ask.val]at h
theorem azY(hr:Rel W ak β₀ β st a w){id:Nat}{b:Builtin}{ts:List TypeId}{xs:List LV}{vs:List Value}{q:Option Prop}{v:LV}{d:List (Nat×Item)}
  (h:(anZ P id b ts xs).val st.hp=some (q,v,d)) (hq:fo q) (pA:(∃x,(id,x)∈d)→kd st.hp id=none) (hd:bM (LV.den β (kd st.hp)) xs vs) (ty:TypeId) (cs:Array Bool):
  azT P W ak β₀ β st w (builtin b ts.toArray ty cs vs.toArray) v d:=by
 have aes:∀ {s:Sem Value} {val:Value} {x:SV},s.run P w= .ok val w→x.den β (kd st.hp) val→azT P W ak β₀ β st w (do pure (.value (← s))) (.one (.sc x)) []:=by
  intro s val x h1 h2;exact⟨β,w,val,by rw[Sem.run_bind,h1];rfl,h2,hr.heap,bO.refl _ _⟩
 unfold anZ at h
 split at h
 ·rename_i t x
  split at h
  ·rename_i s hs;rw[Ask.cU]at h;obtain⟨n,hn,he⟩:=map_some h
   cases he
   cases hd with
   |cons h1 h2=>
    cases h2
    exact aes (avl hr hn (bg hs h1)) rfl
  ·simp[Ask.val]at h
 ·rename_i t u s x
  split at h
  ·rename_i s' k n hs hx
   cases hd with
   |cons h1 h2=>
    cases h2 with
    |cons h2 h3=>
     cases h3
     have e:=bg hx h2;simp only[SV.den]at e;subst e;obtain⟨β',w',val,k1,k2,k3,k4⟩:=an3 (ty_:=ty) (k:=k) hr h hq pA (bg hs h1);exact⟨β',w',val,by show(do pure (Next.value (← Builtin.append_ #[t,u] ty _)):Sem Next).run P w=_;rw[Sem.run_bind,k1];rfl,k2,k3,k4⟩
  ·rename_i s' x' _ hs hx
   cases hd with
   |cons h1 h2=>
    cases h2 with
    |cons h2 h3=>
     cases h3
     obtain⟨β',w',val,k1,k2,k3,k4⟩:=Zi (ty_:=ty) hr h hq pA (bg hs h1) (bg hx h2);exact⟨β',w',val,by show(do pure (Next.value (← Builtin.append_ #[t,u] ty _)):Sem Next).run P w=_;rw[Sem.run_bind,k1];rfl,k2,k3,k4⟩
  ·simp[Ask.val]at h
 ·rename_i t u s x
  split at h
  ·rename_i s' x' hs hx
   cases hd with
   |cons h1 h2=>
    cases h2 with
    |cons h2 h3=>
     cases h3
     obtain⟨β',w',val,k1,k2,k3,k4⟩:=an2 (ty_:=ty) hr h (bg hs h1) (bg hx h2);exact⟨β',w',val,by show(do pure (Next.value (← Builtin.copy_ #[t,u] ty _)):Sem Next).run P w=_;rw[Sem.run_bind,k1];rfl,k2,k3,k4⟩
  ·simp[Ask.val]at h
 ·rename_i x l;simp only[Ask.val]at h
  split at h
  ·rename_i k x0 l0 hx hl;obtain⟨n,hn,he⟩:=map_some h
   cases he
   cases hd with
   |cons h1 h2=>
    rename_i v0 vs0;have e:v0= .int k x0.val:=bg hx h1;subst e;have:=xk (P:=P) (w:=w) (f:=aen) (g:=Builtin.min2) (k:=k) (fun x y=>by simp[Builtin.min2,aen]) l0 vs0 x0 n (A4 hl h2) hn;refine aes (s:=Builtin.min_ ts.toArray ty (Value.int k x0.val::vs0).toArray) (val:=.int k n.val) ?_ rfl;simp only[Builtin.min_];exact this
  ·cases h
 ·rename_i x l;simp only[Ask.val]at h
  split at h
  ·rename_i k x0 l0 hx hl;obtain⟨n,hn,he⟩:=map_some h
   cases he
   cases hd with
   |cons h1 h2=>
    rename_i v0 vs0;have e:v0= .int k x0.val:=bg hx h1;subst e;have:=xk (P:=P) (w:=w) (f:=aeo) (g:=Builtin.max2) (k:=k) (fun x y=>by simp[Builtin.max2,aeo]) l0 vs0 x0 n (A4 hl h2) hn;refine aes (s:=Builtin.max_ ts.toArray ty (Value.int k x0.val::vs0).toArray) (val:=.int k n.val) ?_ rfl;simp only[Builtin.max_];exact this
  ·cases h
 ·simp[Ask.val]at h
end
inductive Out where
 |leaf (q:Option Prop) (v:LV) (d:List (Nat×Item))
 |ite (b:Bool) (x y:Out)
 |fail
def Out.of:Stp→Out
 |some (q,v,d)=>.leaf q v d
 |none=>.fail
def Out.holds(Q:LV→List (Nat×Item)→Prop):Out→Prop
 | .leaf q v d=>fo q∧Q v d
 | .ite b x y=>(b=true→x.holds Q)∧(b=false→y.holds Q)
 | .fail=>False
def VH(id:Nat)(hp:Hp)(d:List (Nat×Item)):Prop:=∀j x,(j,x)∈d→id≤j→kd hp j=none
def Out.fresh(id:Nat)(hp:Hp):Out→Prop
 | .leaf _ _ d=>VH id hp d
 | .ite _ x y=>x.fresh id hp∧y.fresh id hp
 | .fail=>True
structure A6 where
 run:FuncId→Nat→List LV→Ask Out
def Zj(P:Program)(f:FuncId)(vals:Array Value)(w:World)(Q:Ending→World→Prop):Prop:=
 (∃val,(callFunc f vals).run P w= .ok (.value val) w∧Q (.returned val) w)∨
  ((∀ (as:Array Value) (w:World),(callFunc f as).run P w= .ok (.enter f as) w)∧Calls P f vals w Q)
theorem Zj.mono{P:Program}{f:FuncId}{vals:Array Value}{w:World}{Q Q':Ending→World→Prop}(h:Zj P f vals w Q)(hq:∀e w',Q e w'→Q' e w'):Zj P f vals w Q':=
 h.imp (fun⟨v,h1,h2⟩=>⟨v,h1,hq _ _ h2⟩) fun⟨h1,h2⟩=>⟨h1,h2.mono hq⟩
structure GOk (P:Program) (G:A6):Prop where
 calls:∀f id args hp,((G.run f id args).val hp).fresh id hp→∀Q,((G.run f id args).val hp).holds Q→
  ∀ (W:World) (ak:Hp) (β₀ β:Env) (w:World) (vals:List Value),bb W ak β₀ β hp w→bM (LV.den β (kd hp)) args vals→
   Zj P f vals.toArray w fun e w'=>∃v d val β',Q v d∧e= .returned val∧v.den β' (kd (aJ d hp)) val∧bb W ak β₀ β' (aJ d hp) w'∧bO β β' (kd hp) (kd (aJ d hp))
def put(st:St)(dst:Option Tmp)(v:LV)(hp:Hp):St:=
 match dst with
 |some d=>⟨st.fr.set d v,hp⟩
 |none=>⟨st.fr,hp⟩
theorem Rel.put{W:World}{ak:Hp}{β₀ β β':Env}{st:St}{a:Act}{w w':World}(h:Rel W ak β₀ β st a w){dst:Option Tmp}{v:LV}{val:Value}{hp:Hp}
  (hv:v.den β' (kd hp) val) (hh:bb W ak β₀ β' hp w') (ha:bO β β' (kd st.hp) (kd hp)):
  Rel W ak β₀ β' (put st dst v hp) (a.put dst val) w':=by
 have hfr:bM (LV.den β' (kd hp)) st.fr a.tmps.toList:=h.fr.imp fun _ _=>LV.eZ ha
 cases dst with
 |none=>exact⟨h.defers,hfr,hh⟩
 |some d=>exact⟨h.defers,by
   show bM (LV.den β' (kd hp)) (st.fr.set d v) (a.tmps.setIfInBounds d val).toList;rw[Array.toList_setIfInBounds];exact hfr.set d hv,hh⟩
def KW:LV→Option FuncId
 | .one (.sc (.iM (.func (.func f) fs cs)))=>if fs.isEmpty&&cs.isEmpty then some f else none
 |_=>none
def ug(P:Program)(G:A6)(id:Nat)(e:Operand→LV)(op:Op):Ask Out:=
 match op with
 | .call c=>match c.callee with
  | .builtin b=>(anZ P id b c.argTypes.toList (c.args.toList.map e)).map Out.of
  | .value f=>match KW (e f)with
   |some f=>G.run f id (c.args.toList.map e)
   |none=>.ret .fail
  |_=>.ret .fail
 |op=>(ga P id e op).map Out.of
def iD(P:Program)(G:A6)(h:Option Bool)(id:Nat)(e:Operand→LV)(op:Op):Ask Out:=
 match h,op with
 |some v,.pick c x y=>match e c with
  | .one (.sc (.bool t))=>.ret (.leaf (some (t.val=v)) (if v then e x else e y) [])
  |_=>.ret .fail
 |_,op=>ug P G id e op
theorem aet{P:Program}{G:A6}(hG:GOk P G){id:Nat}{st:St}{o:Oper}(hf:((ug P G id (ev st) o.op).val st.hp).fresh id st.hp){K:LV→List (Nat×Item)→Prop}(h:((ug P G id (ev st) o.op).val st.hp).holds K)
  {W:World} {ak:Hp} {β₀ β:Env} {a:Act} {w:World} (hr:Rel W ak β₀ β st a w) {next:Act→World→Prop} {Q:Exit→Act→World→Prop}
  (hn:∀v d β' a' w',K v d→Rel W ak β₀ β' (put st o.dst v (aJ d st.hp)) a' w'→next a' w'):o.wp P a w next Q:=by
 unfold ug at h hf
 split at h
 ·rename_i c hc;have eh:bM (LV.den β (kd st.hp)) (c.args.toList.map (ev st)) (c.args.toList.map a.eval):=bM.of_map _ _ _ fun x _=>aT hr x;have e2:(c.args.toList.map a.eval).toArray=c.args.map a.eval:=by rw[← Array.toList_map,Array.toArray_toList]
  simp only[hc]at hf
  split at h
  ·rename_i b hb;simp only[hb]at hf;rw[Ask.cU]at h hf
   cases hs:(anZ P id b c.argTypes.toList (c.args.toList.map (ev st))).val st.hp with
   |none=>rw[hs]at h;exact h.elim
   |some r=>
    obtain⟨q,v,d⟩:=r;rw[hs]at h hf;obtain⟨hq,hk⟩:=h;obtain⟨β',w',val,h1,h2,h3,h4⟩:=azY hr hs hq (fun⟨x,hx⟩=>hf id x hx (Nat.le_refl _)) eh o.type (c.args.map fun| .const _=>true|_=>false);rw[e2,Array.toArray_toList]at h1
    have eR:(execOp a.eval o).run P w= .ok (.value val) w':=by
     simp only[execOp,hc,resolve,hb,Sem.run_bind,Sem.run_pure,Result.andThen_ok,invoke];exact h1
    unfold Oper.wp;rw[eR];exact hn v d β' _ w' hk (hr.put (dst:=o.dst) h2 h3 h4)
  ·rename_i x hx;simp only[hx]at hf
   split at h
   ·rename_i f hfn;simp only[hfn]at hf;have azZ:=hG.calls f id _ _ hf K h W ak β₀ β w _ hr.heap eh;unfold KW at hfn
    split at hfn
    ·rename_i g fs cs Vw
     split at hfn
     ·rename_i az0;simp at hfn;subst hfn;have hd:=aT hr x;rw[Vw]at hd;have e:a.eval x= .func (.func g) fs cs:=hd.2;simp at az0;obtain⟨rfl,rfl⟩:=az0;unfold Oper.wp;rcases azZ with⟨val,h1,v,d,aI5,β',hk,he,h3,h4,h5⟩|⟨h1,h2⟩
      ·have eR:(execOp a.eval o).run P w= .ok (.value val) w:=by
        rw[e2]at h1;simp only[execOp,hc,resolve,hx,e,Deferred.ofValue,Sem.run_bind,Sem.run_pure,Result.andThen_ok,invoke,Array.append_empty,Array.empty_append];exact h1
       rw[eR]
       cases he
       exact hn v d β' _ w hk (hr.put (dst:=o.dst) h3 h4 h5)
      ·have eR:(execOp a.eval o).run P w= .ok (.enter g (c.args.toList.map a.eval).toArray) w:=by
        simp only[execOp,hc,resolve,hx,e,Deferred.ofValue,Sem.run_bind,Sem.run_pure,Result.andThen_ok,invoke,h1,e2];simp
       rw[eR];refine h2.mono ?_
       rintro e w' ⟨v,d,val,β',hk,rfl,h3,h4,h5⟩
       exact hn v d β' _ w' hk (hr.put (dst:=o.dst) h3 h4 h5)
     ·cases hfn
    ·cases hfn
   ·exact h.elim
  ·exact h.elim
 ·rename_i sC
  have hf':((ga P id (ev st) o.op).map Out.of).val st.hp |>.fresh id st.hp:=by
   split at hf
   ·rename_i c hc;exact absurd hc (sC c)
   ·exact hf
  rw[Ask.cU]at h hf'
  cases hs:(ga P id (ev st) o.op).val st.hp with
  |none=>rw[hs]at h;exact h.elim
  |some r=>
   obtain⟨q,v,d⟩:=r;rw[hs]at h hf';obtain⟨hq,hk⟩:=h;obtain⟨β',w',r,val,h1,h2,h3,h4,h5⟩:=anV hs (fun⟨x,hx⟩=>hf' id x hx (Nat.le_refl _)) hq W ak β₀ β a w hr;have:=hn v d β' _ w' hk (hr.put (dst:=o.dst) h3 h4 h5);unfold Oper.wp;rw[h1];rcases h2 with rfl|⟨rfl,rfl⟩
   ·exact this
   ·exact this
theorem KX{P:Program}{G:A6}(hG:GOk P G){g:Option Bool}{id:Nat}{st:St}{o:Oper}(hf:((iD P G g id (ev st) o.op).val st.hp).fresh id st.hp){K:LV→List (Nat×Item)→Prop}(h:((iD P G g id (ev st) o.op).val st.hp).holds K)
  {W:World} {ak:Hp} {β₀ β:Env} {a:Act} {w:World} (hr:Rel W ak β₀ β st a w) {next:Act→World→Prop} {Q:Exit→Act→World→Prop}
  (hn:∀v d β' a' w',K v d→Rel W ak β₀ β' (put st o.dst v (aJ d st.hp)) a' w'→next a' w'):o.wp P a w next Q:=by
 unfold iD at h hf
 split at h
 ·rename_i b c x y ho
  split at h
  ·rename_i t ht;obtain⟨hq,hk⟩:=h;have htb:t.val=b:=hq;have hc:=aT hr c;rw[ht]at hc;have e:a.eval c= .bool t.val:=hc
   have eR:(execOp a.eval o).run P w= .ok (.value (if b then a.eval x else a.eval y)) w:=by
    simp[execOp,ho,e,asBool,htb]
   unfold Oper.wp;rw[eR];refine hn _ _ β _ w hk (hr.put (dst:=o.dst) (hp:=st.hp) ?_ hr.heap (bO.refl _ _))
   cases b
   ·exact aT hr y
   ·exact aT hr x
  ·exact h.elim
 ·rename_i sC
  have hf':((ug P G id (ev st) o.op).val st.hp).fresh id st.hp:=by
   split at hf
   ·rename_i b c x y ho;exact absurd ho (sC b c x y rfl)
   ·exact hf
  exact aet hG hf' h hr hn
def dY(st:St)(ops:Array Oper)(o:Oper):Option SB:=
 match o.guard with
 |none=>some (.lit true)
 |some (j,want)=>match(ops[j]?).bind (·.dst)with
  |none=>some (.lit false)
  |some d=>match st.fr[d]? with
   |some (.one (.sc (.bool (.lit b))))=>some (.lit (b==want))
   |some (.one (.sc (.bool (.sym b))))=>some (.sym (b==want))
   |some (.cj _)=>some (.lit false)
   |some (.one (.sc (.int _ _)))=>some (.lit false)
   |none=>some (.lit false)
   |_=>none
theorem yP{W:World}{ak:Hp}{β₀ β:Env}{st:St}{a:Act}{w:World}(h:Rel W ak β₀ β st a w){ops:Array Oper}{o:Oper}{b:SB}
  (hb:dY st ops o=some b):Region.wanted o (yielded ops a.tmps)=b.val:=by
 unfold dY at hb;unfold Region.wanted
 split at hb
 ·rename_i hg;simp at hb;subst hb;simp[hg,SB.val]
 ·rename_i j want hg;simp only[hg];unfold yielded
  split at hb
  ·rename_i hd;simp at hb;subst hb;simp[hd,SB.val]
  ·rename_i d hd;simp only[hd,Option.bind_some];have hlen:=h.fr.length
   split at hb
   ·rename_i x hx;obtain⟨v,hv,P1⟩:=h.fr.get hx;have Zk:a.tmps[d]? =some v:=(by simpa using hv);have e:v= .bool x:=P1;simp at hb;subst hb;simp[Zk,e,SB.val]
   ·rename_i x hx;obtain⟨v,hv,P1⟩:=h.fr.get hx;have Zk:a.tmps[d]? =some v:=(by simpa using hv);have e:v= .bool x:=P1;simp at hb;subst hb;simp[Zk,e,SB.val]
   ·rename_i l hx;obtain⟨v,hv,vs,e,_⟩:=h.fr.get hx;have Zk:a.tmps[d]? =some v:=(by simpa using hv);simp at hb;subst hb;simp[Zk,e,SB.val]
   ·rename_i k i hx;obtain⟨v,hv,P1⟩:=h.fr.get hx;have Zk:a.tmps[d]? =some v:=(by simpa using hv);have e:v= .int k i.val:=P1;simp at hb;subst hb;simp[Zk,e,SB.val]
   ·rename_i hx
    have Zk:a.tmps[d]? =none:=by
     have:=List.getElem?_eq_none_iff.1 hx;rw[Array.getElem?_eq_none_iff,← Array.length_toList];omega
    simp at hb;subst hb;simp[Zk,SB.val]
   ·simp at hb
abbrev A7:=List (Tmp×Bool)
def known:A7→Tmp→Option Bool
 | [],_=>none
 |(d,v)::l,t=>if d=t then some v else known l t
def forget(a:A7):Option Tmp→A7
 |none=>a
 |some d=>a.filter fun p=>p.1!=d
def oh(a:A7)(st:St)(ops:Array Oper)(o:Oper):Option SB:=
 match o.guard with
 |none=>some (.lit true)
 |some (j,want)=>match(ops[j]?).bind (·.dst)with
  |none=>some (.lit false)
  |some d=>match known a d with
   |some v=>some (.lit (v==want))
   |none=>dY st ops o
def A8(a:A7)(ops:Array Oper)(o:Oper)(v:Bool):A7:=
 match o.guard with
 |none=>a
 |some (j,want)=>match(ops[j]?).bind (·.dst)with
  |none=>a
  |some d=>(d,v==want)::a
def lH(a:A7)(st:St):Prop:=∀d v,known a d=some v→∃x:SB,st.fr[d]? =some (.one (.sc (.bool x)))∧x.val=v
theorem GK{a:A7}{e d:Tmp}{v:Bool}(h:known (forget a (some e)) d=some v):d≠e∧known a d=some v:=by
 induction a with
 |nil=>simp[forget,known]at h
 |cons p a ih=>
  obtain⟨t,u⟩:=p;simp only[forget,List.filter_cons]at h ih
  split at h
  ·rename_i gJ;simp only[known]at h ⊢
   split at h
   ·rename_i htd;subst htd;simp at h gJ;exact⟨gJ,by simp[h]⟩
   ·rename_i htd;rw[if_neg htd];exact ih h
  ·rename_i gJ;simp at gJ;subst gJ;obtain⟨h1,h2⟩:=ih h;exact⟨h1,by simp only[known,if_neg (Ne.symm h1)];exact h2⟩
theorem lH.put{a:A7}{st:St}(h:lH a st){dst:Option Tmp}{v:LV}{hp:Hp}:lH (forget a dst) (put st dst v hp):=by
 intro d u hd
 cases dst with
 |none=>exact h d u hd
 |some e=>
  obtain⟨h1,h2⟩:=GK hd;obtain⟨x,hx,hv⟩:=h d u h2;exact⟨x,by simp only[Ev.put];rw[List.getElem?_set_ne (Ne.symm h1)];exact hx,hv⟩
theorem A9{a:A7}{st:St}(h:lH a st){ops:Array Oper}{o:Oper}{b:SB}(hb:oh a st ops o=some b):∃b',dY st ops o=some b'∧b'.val=b.val:=by
 unfold oh at hb
 split at hb
 ·rename_i hg;simp at hb;subst hb;exact⟨.lit true,by simp[dY,hg],rfl⟩
 ·rename_i j want hg
  split at hb
  ·rename_i hd;simp at hb;subst hb;exact⟨.lit false,by simp[dY,hg,hd],rfl⟩
  ·rename_i d hd
   split at hb
   ·rename_i v hk;simp at hb;subst hb;obtain⟨x,hx,hv⟩:=h d v hk
    cases x with
    |lit x=>exact⟨.lit (x==want),by simp[dY,hg,hd,hx],by simp only[SB.val]at hv ⊢;rw[hv]⟩
    |sym x=>exact⟨.sym (x==want),by simp[dY,hg,hd,hx],by simp only[SB.val]at hv ⊢;rw[hv]⟩
   ·exact⟨b,hb,rfl⟩
theorem uh{a:A7}{st:St}(h:lH a st){ops:Array Oper}{o:Oper}{b:Bool}(hb:oh a st ops o=some (.sym b)):lH (A8 a ops o b) st:=by
 unfold oh at hb
 split at hb
 ·simp at hb
 ·rename_i j want hg
  split at hb
  ·simp at hb
  ·rename_i d hd;have hl:A8 a ops o b=(d,b==want)::a:=(by simp only[A8,hg,hd]);rw[hl]
   split at hb
   ·simp at hb
   ·intro e v he;simp only[known]at he
    split at he
    ·rename_i hde;subst hde;simp at he;subst he;simp only[dY,hg,hd]at hb
     split at hb<;>simp at hb
     rename_i x hx;subst hb;exact⟨.sym x,hx,by cases x<;>cases want<;>rfl⟩
    ·exact h e v he
inductive aK where
 |leaf (e:Exit) (st:St)
 |ite (b:Bool) (t e:aK)
 |need (p:Prop) (r:aK)
 |fail
def aK.sat(Q:Exit→St→Prop):aK→Prop
 | .leaf e st=>Q e st
 | .ite b t e=>(b=true→t.sat Q)∧(b=false→e.sat Q)
 | .need p r=>p∧r.sat Q
 | .fail=>False
def aK.bind(f:St→aK):aK→aK
 | .leaf .normal st=>f st
 | .leaf e st=>.leaf e st
 | .ite b t e=>.ite b (t.bind f) (e.bind f)
 | .need p r=>.need p (r.bind f)
 | .fail=>.fail
def aK.block(id:Nat):aK→aK
 | .leaf (.exit i) st=>if i=id then .leaf .normal st else .leaf (.exit i) st
 | .leaf e st=>.leaf e st
 | .ite b t e=>.ite b (t.block id) (e.block id)
 | .need p r=>.need p (r.block id)
 | .fail=>.fail
def aK.scope:aK→aK
 | .leaf (.goto _) _=>.fail
 | .leaf e st=>.leaf e st
 | .ite b t e=>.ite b t.scope e.scope
 | .need p r=>.need p r.scope
 | .fail=>.fail
def aK.fo(q:Option Prop)(r:aK):aK:=
 match q with
 |none=>r
 |some p=>.need p r
theorem aK.qa{Q Q':Exit→St→Prop}(hq:∀e st,Q e st→Q' e st):∀ {r:aK},r.sat Q→r.sat Q'
 | .leaf _ _,h=>hq _ _ h
 | .ite _ _ _,h=>⟨fun e=>aK.qa hq (h.1 e),fun e=>aK.qa hq (h.2 e)⟩
 | .need _ _,h=>⟨h.1,aK.qa hq h.2⟩
 | .fail,h=>h
theorem lu{q:Option Prop}{r:aK}{R:Exit→St→Prop}(h:(r.fo q).sat R):fo q∧r.sat R:=by
 cases q with
 |none=>exact⟨trivial,h⟩
 |some p=>exact h
def pC(W:World)(ak:Hp)(β₀:Env)(R:Exit→St→Prop):Exit→Act→World→Prop:=
 fun e a w=>∃st β,R e st∧Rel W ak β₀ β st a w
structure Alt where
 f:Bool→Hp→aK→aK→aK
 yes:∀ {m:Hp} {t e:aK} {R:Exit→St→Prop} {W:World} {β₀:Env},(f true m t e).sat R→∃R',t.sat R'∧∀e a w,pC W m β₀ R' e a w→pC W m β₀ R e a w
 no:∀ {m:Hp} {t e:aK} {R:Exit→St→Prop} {W:World} {β₀:Env},(f false m t e).sat R→∃R',e.sat R'∧∀e a w,pC W m β₀ R' e a w→pC W m β₀ R e a w
def fork:Alt where
 f b _ t e:=.ite b t e
 yes h:=⟨_,h.1 rfl,fun _ _ _ h=>h⟩
 no h:=⟨_,h.2 rfl,fun _ _ _ h=>h⟩
structure FX where
 r:List Nat
 d:List (Nat×Item)
 v:LV
 re:Hp→Out×List Nat
abbrev FP:=Option FX
def FX.w(f:FX):List Nat:=f.d.map (·.1)
def Zl(a:Ask Out)(hp:Hp)(v:LV)(d:List (Nat×Item)):FP:=some ⟨a.log hp,d,v,fun h=>(a.val h,a.log h)⟩
def Out.sD(dr:Bool)(k:LV→List (Nat×Item)→aK):Out→aK
 | .leaf q v d=>(k v d).fo q
 | .ite b x y=>if dr then .fail else .ite b (x.sD dr k) (y.sD dr k)
 | .fail=>.fail
def om(k:A7):Op→Option Bool
 | .pick (.tmp d) _ _=>known k d
 |_=>none
def nu(P:Program)(G:A6)(k:A7)(id:Nat)(e:Operand→LV)(op:Op):Ask Out:=
 match om k op,op with
 |some v,.pick _ x y=>.ret (.leaf none (if v then e x else e y) [])
 |_,_=>ug P G id e op
def jx(P:Program)(G:A6)(A:Alt)(m:Hp)(dr:Bool)(EX:List FP→Option (Option Prop))(ops:Array Oper):List Oper→A7→List FP→St→aK
 | [],_,acc,st=>match EX acc with
  |some q=>(aK.leaf .normal st).fo q
  |none=>.fail
 |o::rest,k,acc,st=>
  match oh k st ops o with
  |some (.lit true)=>((nu P G k st.hp.length (ev st) o.op).val st.hp).sD dr fun v d=>
    jx P G A m dr EX ops rest (forget k o.dst) (acc++ [Zl (nu P G k st.hp.length (ev st) o.op) st.hp v d]) (put st o.dst v (aJ d st.hp))
  |some (.lit false)=>jx P G A m dr EX ops rest (forget k o.dst) (acc++ [none]) (put st o.dst (.cj []) st.hp)
  |some (.sym b)=>A.f b m
    (((nu P G (A8 k ops o true) st.hp.length (ev st) o.op).val st.hp).sD dr fun v d=>
      jx P G A m dr EX ops rest (forget (A8 k ops o true) o.dst) (acc++ [Zl (nu P G (A8 k ops o true) st.hp.length (ev st) o.op) st.hp v d]) (put st o.dst v (aJ d st.hp)))
    (jx P G A m dr EX ops rest (forget (A8 k ops o false) o.dst) (acc++ [none]) (put st o.dst (.cj []) st.hp))
  |none=>.fail
theorem gF{hp:Hp}{j:Nat}(h:hp.length≤j):kd hp j=none:=by
 unfold kd;rw[List.getElem?_eq_none h]
theorem ui(hp:Hp)(d:List (Nat×Item)):VH hp.length hp d:=fun _ _ _ h=>gF h
theorem xl(hp:Hp):∀o:Out,o.fresh hp.length hp
 | .leaf _ _ d=>ui hp d
 | .ite _ x y=>⟨xl hp x,xl hp y⟩
 | .fail=>trivial
theorem qb{dr:Bool}{k:LV→List (Nat×Item)→aK}{R:Exit→St→Prop}:∀ {o:Out},(o.sD dr k).sat R→o.holds fun v d=>(k v d).sat R
 | .leaf q v d,h=>lu h
 | .ite b x y,h=>by
  simp only[Out.sD]at h
  split at h
  ·exact h.elim
  ·exact⟨fun e=>qb (h.1 e),fun e=>qb (h.2 e)⟩
 | .fail,h=>h
theorem P2{k:LV→List (Nat×Item)→aK}{R:Exit→St→Prop}{o:Out}(h:(o.sD true k).sat R):∃q v d,o= .leaf q v d∧fo q∧(k v d).sat R:=by
 cases o with
 |leaf q v d=>exact⟨q,v,d,rfl,(lu h).1,(lu h).2⟩
 |ite b x y=>simp[Out.sD,aK.sat]at h
 |fail=>exact h.elim
theorem VI{P:Program}{G:A6}{k:A7}{id:Nat}{st:St}{op:Op}(hk:lH k st):
  (nu P G k id (ev st) op=iD P G (om k op) id (ev st) op)∨
  ∃v p,nu P G k id (ev st) op= .ret (.leaf none v [])∧iD P G (om k op) id (ev st) op= .ret (.leaf (some p) v [])∧p:=by
 unfold nu
 split
 ·rename_i v c x y hh;right;unfold om at hh
  split at hh
  ·rename_i d x' y' e;simp at e;obtain⟨rfl,rfl,rfl⟩:=e;obtain⟨t,ht,hv⟩:=hk _ _ hh;have hev:ev st (.tmp d)= .one (.sc (.bool t)):=(by simp[ev,List.getD_eq_getElem?_getD,ht]);refine⟨_,t.val=v,rfl,?_,hv⟩;simp only[iD,om,hh,hev]
  ·cases hh
 ·rename_i sC;left;unfold iD
  split
  ·rename_i v c x y hh;exact absurd hh (by intro h;exact sC v c x y h rfl)
  ·rfl
theorem aeu{P:Program}{G:A6}(hG:GOk P G){k:A7}{id:Nat}{st:St}{o:Oper}(hk:lH k st)(hf:∀o:Out,o.fresh id st.hp){K:LV→List (Nat×Item)→Prop}(h:((nu P G k id (ev st) o.op).val st.hp).holds K)
  {W:World} {ak:Hp} {β₀ β:Env} {a:Act} {w:World} (hr:Rel W ak β₀ β st a w) {next:Act→World→Prop} {Q:Exit→Act→World→Prop}
  (hn:∀v d β' a' w',K v d→Rel W ak β₀ β' (put st o.dst v (aJ d st.hp)) a' w'→next a' w'):o.wp P a w next Q:=by
 have hs:((iD P G (om k o.op) id (ev st) o.op).val st.hp).holds K:=by
  rcases VI (P:=P) (G:=G) (id:=id) (op:=o.op) hk with e|⟨v,p,e1,e2,hp⟩
  ·rw[← e];exact h
  ·rw[e1]at h;rw[e2];exact⟨hp,h.2⟩
 exact KX hG (hf _) hs hr hn
theorem Ba{P:Program}{G:A6}{A:Alt}(hG:GOk P G){W:World}{m:Hp}{β₀:Env}{dr:Bool}{EX:List FP→Option (Option Prop)}{ops:Array Oper}{Q:Exit→Act→World→Prop}:
  ∀ (l:List Oper) (k:A7) (acc:List FP) (st:St) (R:Exit→St→Prop),lH k st→(jx P G A m dr EX ops l k acc st).sat R→(∀e a w,pC W m β₀ R e a w→Q e a w)→
   ∀β a w,Rel W m β₀ β st a w→wpList P ops Q l a w
 | [],k,acc,st,R,hk,h,hq,β,a,w,hr=>by
  simp only[jx]at h
  split at h
  ·exact hq _ _ _ ⟨st,β,(lu h).2,hr⟩
  ·exact h.elim
 |o::rest,k,acc,st,R,hk,h,hq,β,a,w,hr=>by
  have eR:∀ (k:A7) (acc:LV→List (Nat×Item)→List FP),lH k st→∀ (R:Exit→St→Prop),(((nu P G k st.hp.length (ev st) o.op).val st.hp).sD dr fun v d=>
    jx P G A m dr EX ops rest (forget k o.dst) (acc v d) (put st o.dst v (aJ d st.hp))).sat R→(∀e a w,pC W m β₀ R e a w→Q e a w)→o.wp P a w (wpList P ops Q rest) Q:=by
   intro k acc hk R h hq;exact aeu hG hk (xl _) (qb h) hr fun v d β' a' w' hkv rp=>Ba hG rest _ _ _ R hk.put hkv hq β' a' w' rp
  have KY:∀ (k:A7) (acc:List FP),lH k st→∀ (R:Exit→St→Prop),(jx P G A m dr EX ops rest (forget k o.dst) acc (put st o.dst (.cj []) st.hp)).sat R→(∀e a w,pC W m β₀ R e a w→Q e a w)→
    wpList P ops Q rest (a.put o.dst undef) w:=by
   intro k acc hk R h hq;exact Ba hG rest _ _ _ R hk.put h hq β _ w (hr.put (dst:=o.dst) ⟨[],rfl,.nil⟩ hr.heap (bO.refl _ _))
  simp only[jx]at h
  cases hb:oh k st ops o with
  |none=>simp only[hb]at h;exact h.elim
  |some b=>
   obtain⟨b',gV,hbv⟩:=A9 hk hb;have hw:=yP hr gV;rw[hbv]at hw;simp only[hb]at h;simp only[wpList,hw]
   cases b with
   |lit b=>
    cases b with
    |true=>exact .inl (eR k _ hk R h hq)
    |false=>exact KY k _ hk R h hq
   |sym b=>
    cases b with
    |true=>
     obtain⟨R',h1,h2⟩:=A.yes (W:=W) (β₀:=β₀) h;exact .inl (eR _ _ (uh hk hb) R' h1 fun e a w hp=>hq e a w (h2 e a w hp))
    |false=>
     obtain⟨R',h1,h2⟩:=A.no (W:=W) (β₀:=β₀) h;exact KY _ _ (uh hk hb) R' h1 fun e a w hp=>hq e a w (h2 e a w hp)
theorem put_comm(st:St){x y:Option Tmp}(v u:LV)(h1 h2 h:Hp)(gJ:∀d,x=some d→y≠some d):put (put st x v h1) y u h=put (put st y u h2) x v h:=by
 cases x with
 |none=>cases y<;>rfl
 |some d=>
  cases y with
  |none=>rfl
  |some e=>
   have:d≠e:=fun he=>gJ d rfl (he▸rfl);simp only[put];rw[List.set_comm _ _ this]
theorem Zm{ops:Array Oper}{o:Oper}{t:Tmp}(h:Operand.tmp t∈o.op.operands):t∈o.looksAt ops:=by
 unfold Oper.looksAt;rw[List.mem_append];refine .inl (List.mem_filterMap.2 ⟨.tmp t,by simpa using h,rfl⟩)
theorem avn{st:St}{dst:Option Tmp}{v:LV}{hp:Hp}{x:Operand}(h:∀d,dst=some d→x≠ .tmp d):ev (put st dst v hp) x=ev st x:=by
 cases dst with
 |none=>cases x<;>rfl
 |some d=>
  cases x with
  |tmp t=>
   have gJ:t≠d:=fun e=>h d rfl (e▸rfl);simp only[ev,put,List.getD_eq_getElem?_getD];rw[List.getElem?_set_ne (Ne.symm gJ)]
  |_=>rfl
theorem nv{ops:Array Oper}{o:Oper}{dst:Option Tmp}(h:∀d,dst=some d→d∉o.looksAt ops){st:St}{v:LV}{hp:Hp}:∀x∈o.op.operands,ev (put st dst v hp) x=ev st x:=
 fun _x hx=>avn fun d hd e=>h d hd (Zm (e▸hx))
theorem fB{ops:Array Oper}{o:Oper}{dst:Option Tmp}(h:∀d,dst=some d→d∉o.looksAt ops){st:St}{v:LV}{hp:Hp}:
  dY (put st dst v hp) ops o=dY st ops o:=by
 unfold dY
 cases hg:o.guard with
 |none=>rfl
 |some p=>
  obtain⟨j,want⟩:=p
  cases ht:(ops[j]?).bind (·.dst)with
  |none=>simp[ht]
  |some t=>
   have:(put st dst v hp).fr[t]? =st.fr[t]? :=by
    cases dst with
    |none=>rfl
    |some d=>
     have gJ:d≠t:=fun e=>h d rfl (by subst e;simp[Oper.looksAt,hg,ht]);simp only[put];rw[List.getElem?_set_ne gJ]
   simp only[ht,this]
theorem P3{P:Program}{id:Nat}{e e2:Operand→LV}{op:Op}(h:∀x∈op.operands,e2 x=e x):ga P id e2 op=ga P id e op:=by
 cases op<;>simp only[Op.operands]at h<;>(try rfl)
 case move x=>simp only[ga,h x (by simp)]
 case assign x=>simp only[ga,h x (by simp)]
 case pick c x y=>simp only[ga,h c (by simp),h x (by simp),h y (by simp)]
 case box t x=>simp only[ga,h x (by simp)]
 case build t parts=>
  have e:(parts.toList.map fun p=>(p.1,e2 p.2))=parts.toList.map fun p=>(p.1,e p.2):=List.map_congr_left fun p hp=>by
   rw[h p.2 (by rw[List.mem_toArray];exact List.mem_map.2 ⟨p,hp,rfl⟩)]
  simp only[ga,e]
 case buildSlice t len parts=>
  have e:(parts.toList.map fun p=>(p.1,e2 p.2))=parts.toList.map fun p=>(p.1,e p.2):=List.map_congr_left fun p hp=>by
   rw[h p.2 (by rw[List.mem_toArray];exact List.mem_map.2 ⟨p,hp,rfl⟩)]
  simp only[ga,e]
 case load t x=>simp only[ga,h x (by simp)]
 case store t x y=>simp only[ga,h x (by simp),h y (by simp)]
 case nilCheck x=>simp only[ga,h x (by simp)]
 case binOp op t x y yt=>simp only[ga,h x (by simp),h y (by simp)]
 case unOp op t x=>simp only[ga,h x (by simp)]
 case convert s d x=>simp only[ga,h x (by simp)]
 case sliceToArrayPointer t x=>simp only[ga,h x (by simp)]
 case makeSlice t x y=>simp only[ga,h x (by simp),h y (by simp)]
 case slice t x lo hi mx=>
  have e1:lo.map e2=lo.map e:=by cases lo<;>simp_all
  have e3:hi.map e2=hi.map e:=by cases hi<;>simp_all
  have e4:mx.map e2=mx.map e:=by cases mx<;>simp_all
  simp only[ga,h x (by simp),e1,e3,e4]
 case fieldAddr s x f=>simp only[ga,h x (by simp)]
 case field s x f=>simp only[ga,h x (by simp)]
 case indexAddr t x i=>simp only[ga,h x (by simp),h i (by simp)]
 case index t x i=>simp only[ga,h x (by simp),h i (by simp)]
 case extract x i=>simp only[ga,h x (by simp)]
theorem KZ{P:Program}{G:A6}{id:Nat}{e e2:Operand→LV}{op:Op}(h:∀x∈op.operands,e2 x=e x):ug P G id e2 op=ug P G id e op:=by
 unfold ug
 split
 ·rename_i c;have eh:c.args.toList.map e2=c.args.toList.map e:=List.map_congr_left fun x hx=>h x (by simp only[Op.operands,Call.operands,Array.mem_append];exact .inr (by simpa using hx));rw[eh]
  split
  ·rfl
  ·rename_i f hf;rw[h f (by simp[Op.operands,Call.operands,hf])]
  ·rfl
 ·rw[P3 h]
theorem cQ{P:Program}{G:A6}{g:Option Bool}{id:Nat}{e e2:Operand→LV}{op:Op}(h:∀x∈op.operands,e2 x=e x):iD P G g id e2 op=iD P G g id e op:=by
 unfold iD
 split
 ·rename_i v c x y;rw[h c (by simp[Op.operands]),h x (by simp[Op.operands]),h y (by simp[Op.operands])]
 ·exact KZ h
theorem GL{hp:Hp}{i k:Nat}{x:Item}(h:k≠i):bo (setAt hp i x) k=bo hp k:=by
 unfold bo
 split
 ·rename_i y hy;rw[(cm hp i x k y h).1 hy]
 ·rename_i hn
  split
  ·rename_i y hy;exact absurd ((cm hp i x k y h).2 hy) (hn y)
  ·rfl
theorem eS:∀ {d:List (Nat×Item)} {hp:Hp} {k:Nat},k∉d.map (·.1)→bo (aJ d hp) k=bo hp k
 | [],_,_,_=>rfl
 |(i,x)::d,hp,k,h=>by
  simp only[List.map_cons,List.mem_cons,not_or]at h;show bo (aJ d (setAt hp i x)) k=_;rw[eS h.2,GL h.1]
theorem EY(hp:Hp)(k:Nat):kd hp k=(bo hp k).map Item.kd:=by
 unfold kd bo
 cases hp[k]? with
 |none=>rfl
 |some x=>cases x<;>rfl
theorem Zn{d:List (Nat×Item)}{hp:Hp}{k:Nat}(h:k∉d.map (·.1)):kd (aJ d hp) k=kd hp k:=by rw[EY,EY,eS h]
theorem qc:∀ {d:List (Nat×Item)} {hp:Hp} {k:Nat},kd (aJ d hp) k=none→kd hp k=none
 | [],_,_,h=>h
 |(i,x)::d,hp,k,h=>by
  have:=qc (d:=d) (hp:=setAt hp i x) h;rw[dq]at this
  split at this
  ·cases this
  ·exact this
theorem sT:∀ (hp:Hp) (i j:Nat) (a b:Item),i≠j→setAt (setAt hp i a) j b=setAt (setAt hp j b) i a
 | [],0,0,_,_,h=>absurd rfl h
 | [],0,j+1,a,b,_=>by simp[setAt]
 | [],i+1,0,a,b,_=>by simp[setAt]
 | [],i+1,j+1,a,b,h=>by simp only[setAt];rw[sT [] i j a b (by omega)]
 |_::_,0,0,_,_,h=>absurd rfl h
 |_::_,0,j+1,_,_,_=>by simp[setAt]
 |_::_,i+1,0,_,_,_=>by simp[setAt]
 |_::l,i+1,j+1,a,b,h=>by simp only[setAt];rw[sT l i j a b (by omega)]
theorem uj:∀ (d:List (Nat×Item)) (hp:Hp) (i:Nat) (x:Item),i∉d.map (·.1)→aJ d (setAt hp i x)=setAt (aJ d hp) i x
 | [],_,_,_,_=>rfl
 |(j,y)::d,hp,i,x,h=>by
  simp only[List.map_cons,List.mem_cons,not_or]at h;show aJ d (setAt (setAt hp i x) j y)=setAt (aJ d (setAt hp j y)) i x;rw[sT _ _ _ _ _ h.1,uj d _ _ _ h.2]
theorem yQ:∀ (d d2:List (Nat×Item)) (hp:Hp),(∀k∈d.map (·.1),k∉d2.map (·.1))→aJ d2 (aJ d hp)=aJ d (aJ d2 hp)
 | [],_,_,_=>rfl
 |(i,x)::d,d2,hp,h=>by
  show aJ d2 (aJ d (setAt hp i x))=aJ d (setAt (aJ d2 hp) i x);rw[yQ d d2 (setAt hp i x) fun k hk=>h k (by simp[List.map_cons];exact .inr (by simpa using hk)),uj d2 _ _ _ (h i (by simp))]
def az2(f:FX)(a:Ask Out):Prop:=∀h,(f.re h).2=a.log h∧∀v',(f.re h).1= .leaf none v' []→∃q',a.val h= .leaf q' v' []∧fo q'
theorem yR:∀ {d:List (Nat×Item)} {hp hp2:Hp} {k:Nat},k∈d.map (·.1)→bo (aJ d hp) k=bo (aJ d hp2) k
 |(i,x)::d,hp,hp2,k,h=>by
  show bo (aJ d (setAt hp i x)) k=bo (aJ d (setAt hp2 i x)) k
  by_cases hk:k∈d.map (·.1)
  ·exact yR hk
  ·have e:k=i:=(by simpa [hk]using h);subst e;rw[eS hk,eS hk,ra (dF _ _ _),ra (dF _ _ _)]
def uk(P:Program)(G:A6)(ops:Array Oper)(ids:Nat→Nat)(fp:Nat→FP)(i:Nat)(st rq:St):Prop:=
 ∃o b,ops[i]? =some o∧dY st ops o=some b∧
  ((b.val=true∧∃q v d g f,(iD P G g (ids i) (ev st) o.op).val st.hp= .leaf q v d∧fo q∧(fp i=some f∧f.r=(iD P G g (ids i) (ev st) o.op).log st.hp∧f.d=d∧f.v=v∧az2 f (iD P G g (ids i) (ev st) o.op))∧VH (ids i) st.hp d∧rq=put st o.dst v (aJ d st.hp))∨
   (b.val=false∧fp i=none∧rq=put st o.dst (.cj []) st.hp))
def P4:FP→FP→Bool
 |some f1,some f2=>f1.w.all (fun k=> !(f2.r.contains k)&& !(f2.w.contains k))&&f2.w.all fun k=> !(f1.r.contains k)
 |_,_=>true
def aev(fj fi:FP):Prop:=∃a b,fj=some a∧fi=some b∧a.d= []∧(∀k∈a.r,k∈b.w)∧a.re (aJ b.d [])=(.leaf none a.v [],a.r)
theorem ez{st:St}{dst:Option Tmp}{v:LV}{hp:Hp}:(put st dst v hp).hp=hp:=by cases dst<;>rfl
noncomputable section
variable {P:Program} {G:A6} {ops:Array Oper} {ids:Nat→Nat} {fp:Nat→FP}
theorem Zo{i j:Nat}{oi oj:Oper}(Bb:ops[i]? =some oi)(GM:ops[j]? =some oj)(hap:oj.apart ops oi=true)(P5:P4 (fp j) (fp i)=true∨aev (fp j) (fp i))
  {st s1 s2:St} (h1:uk P G ops ids fp j st s1) (h2:uk P G ops ids fp i s1 s2):∃s1',uk P G ops ids fp i st s1'∧uk P G ops ids fp j s1' s2:=by
 obtain⟨a1,a2,a3⟩:=Oper.apart_spec hap;obtain⟨o,bj,ho,hwj,h1⟩:=h1;rw[GM]at ho;simp at ho;subst ho;obtain⟨o,bi,ho,hwi,h2⟩:=h2;rw[Bb]at ho;simp at ho;subst ho;rcases h1 with⟨hbj,qj,vj,dj,gj,Fj,ej,nj,⟨fj,fj1,fj2,fj3,fj4⟩,rj,rfl⟩|⟨hbj,fj,rfl⟩
 ·rw[fB a1]at hwi;have evi:∀x∈oi.op.operands,ev (put st oj.dst vj (aJ dj st.hp)) x=ev st x:=nv a1;rcases h2 with⟨hbi,qi,vi,di,gi,Fi,ei,ni,⟨fi,fi1,fi2,fi3,fi4⟩,ri,rfl⟩|⟨hbi,fi,rfl⟩
  ·rw[cQ evi,ez]at ei fi1;rw[cQ evi]at fi4;rw[ez]at ri;have evj:∀x∈oj.op.operands,ev (put st oi.dst vi (aJ di st.hp)) x=ev st x:=nv a3;rw[fj,fi]at P5;rcases P5 with P5|az6
   ·simp only[P4,FX.w,Bool.and_eq_true,List.all_eq_true,Bool.not_eq_true',List.contains_eq_mem,decide_eq_false_iff_not,fj1,fj2,fi1,fi2]at P5;obtain⟨d1,d2⟩:=P5;have hli:∀k∈(iD P G gi (ids i) (ev st) oi.op).log (aJ dj st.hp),bo st.hp k=bo (aJ dj st.hp) k:=fun k hk=>(eS fun hm=>(d1 k hm).1 hk).symm;obtain⟨k1,k2⟩:=Ask.Gu _ hli;have hlj:∀k∈(iD P G gj (ids j) (ev st) oj.op).log st.hp,bo (aJ di st.hp) k=bo st.hp k:=fun k hk=>eS fun hm=>d2 k hm hk;obtain⟨k3,k4⟩:=Ask.Gu _ hlj
    refine⟨put st oi.dst vi (aJ di st.hp),⟨oi,bi,Bb,hwi,.inl ⟨hbi,qi,vi,di,gi,Fi,by rw[k1];exact ei,ni,⟨fi,by rw[k2];exact fi1,fi2,fi3,fi4⟩,fun k x hk hle=>qc (ri k x hk hle),rfl⟩⟩,
     ⟨oj,bj,GM,by rw[fB a3];exact hwj,.inl ⟨hbj,qj,vj,dj,gj,Fj,by rw[cQ evj,ez,k3];exact ej,nj,⟨fj,by rw[cQ evj,ez,k4];exact fj1,fj2,fj3,by rw[cQ evj];exact fj4⟩,?_,?_⟩⟩⟩
    ·intro k x hk hle;rw[ez,Zn (fun hm=>(d1 k (List.mem_map.2 ⟨_,hk,rfl⟩)).2 hm)];exact rj k x hk hle
    ·rw[ez,ez,yQ dj di st.hp (fun k hk=>(d1 k hk).2)];exact put_comm st vj vi _ _ _ a2
   ·obtain⟨a,b,e1,e2,h3,h4,h5⟩:=az6;simp at e1 e2;subst e1 e2;rw[fj2]at h3;subst h3;simp only[FX.w,fi2]at h4 h5;rw[fj3]at h5;obtain⟨m1,m2⟩:=fj4 (aJ di []);rw[h5]at m1 m2;obtain⟨q',m3,m4⟩:=m2 vj rfl;simp only at m1;have aEF:∀k∈(iD P G gj (ids j) (ev st) oj.op).log (aJ di []),bo (aJ di st.hp) k=bo (aJ di []) k:=fun k hk=>yR (h4 k (by rw[m1];exact hk));obtain⟨k3,k4⟩:=Ask.Gu _ aEF
    refine⟨put st oi.dst vi (aJ di st.hp),⟨oi,bi,Bb,hwi,.inl ⟨hbi,qi,vi,di,gi,Fi,ei,ni,⟨fi,fi1,fi2,fi3,fi4⟩,ri,rfl⟩⟩,
     ⟨oj,bj,GM,by rw[fB a3];exact hwj,.inl ⟨hbj,q',vj,[],gj,Fj,by rw[cQ evj,ez,k3];exact m3,m4,⟨fj,by rw[cQ evj,ez,k4];exact m1,fj2,fj3,by rw[cQ evj];exact fj4⟩,fun k x hk=>(by cases hk),?_⟩⟩⟩
    rw[ez,ez];exact put_comm st vj vi _ _ _ a2
  ·refine⟨put st oi.dst (.cj []) st.hp,⟨oi,bi,Bb,hwi,.inr ⟨hbi,fi,rfl⟩⟩,⟨oj,bj,GM,by rw[fB a3];exact hwj,.inl ⟨hbj,qj,vj,dj,gj,Fj,?_,nj,⟨fj,?_,fj2,fj3,?_⟩,?_,?_⟩⟩⟩
   ·rw[cQ (nv a3),ez];exact ej
   ·rw[cQ (nv a3),ez];exact fj1
   ·rw[cQ (nv a3)];exact fj4
   ·rw[ez];exact rj
   ·rw[ez,ez];exact put_comm st vj _ _ _ _ a2
 ·rw[fB a1]at hwi;have evi:∀x∈oi.op.operands,ev (put st oj.dst (.cj []) st.hp) x=ev st x:=nv a1;rcases h2 with⟨hbi,qi,vi,di,gi,Fi,ei,ni,⟨fi,fi1,fi2,fi3,fi4⟩,ri,rfl⟩|⟨hbi,fi,rfl⟩
  ·rw[cQ evi,ez]at ei fi1;rw[cQ evi]at fi4;rw[ez]at ri;refine⟨put st oi.dst vi (aJ di st.hp),⟨oi,bi,Bb,hwi,.inl ⟨hbi,qi,vi,di,gi,Fi,ei,ni,⟨fi,fi1,fi2,fi3,fi4⟩,ri,rfl⟩⟩,⟨oj,bj,GM,by rw[fB a3];exact hwj,.inr ⟨hbj,fj,?_⟩⟩⟩;rw[ez,ez];exact put_comm st _ vi _ _ _ a2
  ·refine⟨put st oi.dst (.cj []) st.hp,⟨oi,bi,Bb,hwi,.inr ⟨hbi,fi,rfl⟩⟩,⟨oj,bj,GM,by rw[fB a3];exact hwj,.inr ⟨hbj,fj,?_⟩⟩⟩;rw[ez,ez];exact put_comm st _ _ _ _ _ a2
end
inductive um (P:Program) (G:A6) (ops:Array Oper) (ids:Nat→Nat) (fp:Nat→FP):List Nat→St→St→Prop where
 |nil {st}:um P G ops ids fp [] st st
 |cons {i l st s s'} (h:uk P G ops ids fp i st s) (t:um P G ops ids fp l s s'):um P G ops ids fp (i::l) st s'
def nw(acc:List Nat)(o:Oper):Nat:=
 o.after.toList.foldr (fun e s=>if Region.binds .any e then s|||2 ^ e.on|||acc.getD e.on 0 else s) 0
def uo:List Oper→List Nat→List Nat
 | [],acc=>acc
 |o::l,acc=>uo l (acc++ [nw acc o])
theorem Eu{acc:List Nat}{o:Oper}{j:Nat}(h:Nat.testBit (nw acc o) j=true):
  ∃e∈o.after,Region.binds .any e=true∧(e.on=j∨Nat.testBit (acc.getD e.on 0) j=true):=by
 unfold nw at h
 have key:∀l:List Edge,Nat.testBit (l.foldr (fun e s=>if Region.binds .any e then s|||2 ^ e.on|||acc.getD e.on 0 else s) 0) j=true→
   ∃e∈l,Region.binds .any e=true∧(e.on=j∨Nat.testBit (acc.getD e.on 0) j=true):=by
  intro l
  induction l with
  |nil=>intro h;simp at h
  |cons e l ih=>
   intro h;simp only[List.foldr_cons]at h
   split at h
   ·rename_i hb;simp only[Nat.testBit_or,Bool.or_eq_true,Nat.testBit_two_pow,decide_eq_true_eq]at h;rcases h with(h|h)|h
    ·obtain⟨e',h1,h2⟩:=ih h;exact⟨e',by simp[h1],h2⟩
    ·exact⟨e,by simp,hb,.inl h⟩
    ·exact⟨e,by simp,hb,.inr h⟩
   ·obtain⟨e',h1,h2⟩:=ih h;exact⟨e',by simp[h1],h2⟩
 obtain⟨e,h1,h2⟩:=key _ h;exact⟨e,by simpa using h1,h2⟩
def uq:List Oper→Nat→Bool
 | [],_=>true
 |o::l,n=>(o.after.all fun e=> !Region.binds .any e||decide (e.on<n))&&uq l (n+1)
def P6(ops:Array Oper)(oj oi:Oper)(bit:Bool)(fj fi:FP):Option (List Prop):=
 if bit||(oj.apart ops oi&&P4 fj fi)then some []
 else if oj.apart ops oi then match fj,fi with
  |some a,some b=>if a.d.isEmpty&&a.r.all (fun k=>b.w.contains k)then some [a.re (aJ b.d [])=(.leaf none a.v [],a.r)]else none
  |_,_=>none
 else none
def avq:List Prop→Prop
 | []=>True
 | [p]=>p
 |p::l=>p∧avq l
theorem K0:∀ {l:List Prop} {p:Prop},avq l→p∈l→p
 | [x],p,h,hp=>by
  rcases List.mem_cons.1 hp with rfl|hp
  ·exact h
  ·cases hp
 |x::y::l,p,h,hp=>by
  rcases List.mem_cons.1 hp with rfl|hp
  ·exact h.1
  ·exact K0 (l:=y::l) h.2 hp
theorem K1{ops:Array Oper}{oj oi:Oper}{bit:Bool}{fj fi:FP}{l:List Prop}(h:P6 ops oj oi bit fj fi=some l)(hp:∀p∈l,p):bit=true∨(oj.apart ops oi=true∧(P4 fj fi=true∨aev fj fi)):=by
 unfold P6 at h
 split at h
 ·rename_i hc;simp only[Bool.or_eq_true,Bool.and_eq_true]at hc;exact hc.imp id fun hc=>⟨hc.1,.inl hc.2⟩
 ·split at h
  ·rename_i ha
   split at h
   ·rename_i a b _
    split at h
    ·rename_i hc;simp only[Bool.and_eq_true,List.all_eq_true,List.contains_eq_mem,decide_eq_true_eq,List.isEmpty_iff]at hc
     cases h
     exact .inr ⟨ha,.inr ⟨a,b,rfl,rfl,hc.1,hc.2,hp _ (List.mem_cons_self ..)⟩⟩
    ·cases h
   ·cases h
  ·cases h
def zx(ops:Array Oper)(oi:Oper)(mask:Nat)(fi:FP):List Oper→List FP→Nat→Option (List Prop)
 | [],_,_=>some []
 |oj::l,fs,j=>match P6 ops oj oi (Nat.testBit mask j) (fs.headD none) fi with
  |some a=>match zx ops oi mask fi l fs.tail (j+1)with
   |some b=>some (a++b)
   |none=>none
  |none=>none
def qd(ops:Array Oper)(ms:List Nat)(fs:List FP):List Oper→Nat→Option (List Prop)
 | [],_=>some []
 |o::l,i=>match zx ops o (ms.getD i 0) (fs.getD i none) (ops.toList.take i) fs 0 with
  |some a=>match qd ops ms fs l (i+1)with
   |some b=>some (a++b)
   |none=>none
  |none=>none
structure avr (ops:Array Oper) (M:Nat→Nat) (fp:Nat→FP) (i:Nat) (o:Oper):Prop where
 early:∀e∈o.after,Region.binds .any e=true→e.on<i
 az7:∀j oj,j<i→ops[j]? =some oj→Nat.testBit (M i) j=true∨(oj.apart ops o=true∧(P4 (fp j) (fp i)=true∨aev (fp j) (fp i)))
 waits:∀j,Nat.testBit (M i) j=true→∃e∈o.after,Region.binds .any e=true∧(e.on=j∨Nat.testBit (M e.on) j=true)
theorem uu{ops:Array Oper}{oi:Oper}{mask:Nat}{fi:FP}:∀ (l:List Oper) (fs:List FP) (k:Nat) {ps:List Prop},zx ops oi mask fi l fs k=some ps→(∀p∈ps,p)→∀j oj,l[j]? =some oj→Nat.testBit mask (k+j)=true∨(oj.apart ops oi=true∧(P4 (fs.getD j none) fi=true∨aev (fs.getD j none) fi))
 | [],_,_,_,_,_,j,oj,hj=>by simp at hj
 |o::l,fs,k,ps,h,hp,j,oj,hj=>by
  simp only[zx]at h
  split at h
  ·rename_i a ha
   split at h
   ·rename_i b hb
    cases h
    cases j with
    |zero=>
     simp at hj;subst hj;have e:fs.headD none=fs.getD 0 none:=(by cases fs<;>rfl);rw[← e];exact K1 ha fun p hm=>hp p (by simp[hm])
    |succ j=>
     have:=uu l fs.tail (k+1) hb (fun p hm=>hp p (by simp[hm])) j oj (by simpa using hj);have e:fs.tail.getD j none=fs.getD (j+1) none:=(by cases fs<;>simp[List.getD]);rw[e]at this;rwa [show k+1+j=k+(j+1) by omega]at this
   ·cases h
  ·cases h
theorem sE{ops:Array Oper}{ms:List Nat}{fs:List FP}:∀ (l:List Oper) (k:Nat) {ps:List Prop},(∀j,l[j]? =ops[k+j]?)→qd ops ms fs l k=some ps→(∀p∈ps,p)→∀i o,k≤i→ops[i]? =some o→∀j oj,j<i→ops[j]? =some oj→Nat.testBit (ms.getD i 0) j=true∨(oj.apart ops o=true∧(P4 (fs.getD j none) (fs.getD i none)=true∨aev (fs.getD j none) (fs.getD i none)))
 | [],k,_,hl,_,_,i,o,hi,ho,_,_,_,_=>by
  have:=hl (i-k);rw[show k+(i-k)=i by omega,ho]at this;simp at this
 |x::l,k,ps,hl,h,hp,i,o,hi,ho,j,oj,hj,GM=>by
  simp only[qd]at h
  split at h
  ·rename_i a ha
   split at h
   ·rename_i b hb
    cases h
    by_cases e:i=k
    ·subst e
     have hx:o=x:=by
      have:=hl 0;rw[Nat.add_zero,ho]at this;simpa using this.symm
     subst hx;have:=uu _ _ 0 ha (fun p hm=>hp p (by simp[hm])) j oj (by rw[List.getElem?_take];simp[hj,GM]);rwa [Nat.zero_add]at this
    ·exact sE l (k+1) (fun j=>by have:=hl (j+1);simpa [Nat.add_assoc,Nat.add_comm 1 j]using this) hb (fun p hm=>hp p (by simp[hm])) i o (by omega) ho j oj hj GM
   ·cases h
  ·cases h
theorem Bc{ops:Array Oper}:∀ (l before:List Oper) (acc:List Nat),before++l=ops.toList→acc.length=before.length→uq l before.length=true→
  (∀M:Nat→Nat,(∀i,M i=(uo l acc).getD i 0)→∀i o,before.length≤i→ops[i]? =some o→(∀e∈o.after,Region.binds .any e=true→e.on<i)∧
   (∀j,Nat.testBit (M i) j=true→∃e∈o.after,Region.binds .any e=true∧(e.on=j∨Nat.testBit (M e.on) j=true)))∧(∀i,i<acc.length→(uo l acc).getD i 0=acc.getD i 0)
 | [],before,acc,hb,ha,_=>by
  have hs:before.length=ops.size:=by
   have:=congrArg List.length hb;simpa using this
  refine⟨fun M hM i o hi ho=>?_,fun _ _=>rfl⟩;have:=(Array.getElem?_eq_some_iff.1 ho).1;omega
 |o::l,before,acc,hb,ha,h=>by
  simp only[uq,Bool.and_eq_true]at h;obtain⟨h1,h4⟩:=h;obtain⟨i1,i3⟩:=Bc l (before++ [o]) (acc++ [nw acc o]) (by simpa using hb) (by simp[ha]) (by simpa using h4);have hmk:uo (o::l) acc=uo l (acc++ [nw acc o]):=rfl
  have az8:∀i,i<acc.length→(uo (o::l) acc).getD i 0=acc.getD i 0:=fun i hi=>by
   rw[hmk,i3 i (by simp;omega)];simp only[List.getD_eq_getElem?_getD];rw[List.getElem?_append_left hi]
  refine⟨fun M hM i oi hi ho=>?_,az8⟩
  by_cases hie:i=before.length
  ·subst hie
   have hoo:oi=o:=by
    have e:ops.toList[before.length]? =some oi:=(by simpa using ho);rw[← hb]at e;simp at e;exact e.symm
   subst hoo
   have hMi:M before.length=nw acc oi:=by
    rw[hM,hmk,i3 _ (by simp[ha])];simp only[List.getD_eq_getElem?_getD];rw[← ha];simp
   have aew:∀e∈oi.after,Region.binds .any e=true→e.on<before.length:=by
    intro e he VJ;have:=Array.all_eq_true'.1 h1 e he;simpa [VJ]using this
   refine⟨aew,fun j hj=>?_⟩;rw[hMi]at hj;obtain⟨e,he,VJ,hor⟩:=Eu hj;refine⟨e,he,VJ,hor.imp id fun ht=>?_⟩;rw[hM,az8 _ (by rw[ha];exact aew e he VJ)];exact ht
  ·exact i1 M (fun i=>hM i) i oi (by simp;omega) ho
noncomputable section
variable {P:Program} {G:A6} {ops:Array Oper} {ids:Nat→Nat} {M:Nat→Nat} {fp:Nat→FP}
theorem Be(hM:∀i o,ops[i]? =some o→avr ops M fp i o){i:Nat}{oi:Oper}(Bb:ops[i]? =some oi):
  ∀ (l1 l2:List Nat) (st sf:St),(∀j∈l1,j<i∧Nat.testBit (M i) j=false)→um P G ops ids fp (l1++i::l2) st sf→∃s,uk P G ops ids fp i st s∧um P G ops ids fp (l1++l2) s sf
 | [],l2,st,sf,_,h=>by
  cases h with
  |cons h t=>exact⟨_,h,t⟩
 |j::l1,l2,st,sf,hl,h=>by
  cases h with
  |cons h t=>
   rename_i s;obtain⟨s1,h1,h2⟩:=Be hM Bb l1 l2 s sf (fun k hk=>hl k (by simp[hk])) t;obtain⟨hji,GN⟩:=hl j (by simp);have aEH:=h;obtain⟨oj,_,GM,_⟩:=aEH;have hp:=((hM i oi Bb).az7 j oj hji GM).resolve_left (by rw[GN];simp);obtain⟨s1',k1,k2⟩:=Zo Bb GM hp.1 hp.2 h h1;exact⟨s1',k1,.cons k2 h2⟩
theorem aex(hG:GOk P G){i:Nat}{st s:St}(h:uk P G ops ids fp i st s){W:World}{ak:Hp}{β₀ β:Env}{a:Act}{w:World}(hr:Rel W ak β₀ β st a w)
  {K:Act→World→Prop} {Q:Exit→Act→World→Prop} (hK:∀β' a' w',Rel W ak β₀ β' s a' w'→K a' w'):wpOp P ops Q i K a w:=by
 obtain⟨o,b,ho,hw,h⟩:=h;unfold wpOp;simp only[ho,yP hr hw];rcases h with⟨hb,q,v,d,g,_,e,hq,_,hf,rfl⟩|⟨hb,_,rfl⟩
 ·rw[if_pos hb]
  exact .inl (KX hG (K:=fun v' d'=>v'=v∧d'=d) (by rw[e];exact hf) (by rw[e];exact⟨hq,rfl,rfl⟩) hr fun v' d' β' a' w' hk rp=>by
   obtain⟨rfl,rfl⟩:=hk;exact hK β' a' w' rp)
 ·rw[if_neg (by rw[hb];simp)];exact hK β _ w (hr.put (dst:=o.dst) ⟨[],rfl,.nil⟩ hr.heap (bO.refl _ _))
def cn(ops:Array Oper)(cN:Array Bool):List Nat:=(List.range ops.size).filter fun i=> !cN.getD i true
theorem Ew(hG:GOk P G)(hM:∀i o,ops[i]? =some o→avr ops M fp i o)
  {W:World} {ak:Hp} {β₀:Env} {Q:Exit→Act→World→Prop} {sf:St} (hQ:∀β a w,Rel W ak β₀ β sf a w→Q .normal a w):
  ∀ (fuel:Nat) (cN:Array Bool) (st:St) (β:Env) (a:Act) (w:World),cN.size=ops.size→(cn ops cN).length=fuel→
   (∀j oj,ops[j]? =some oj→cN.getD j false=true→∀e∈oj.after,Region.binds .any e=true→cN.getD e.on false=true)→
   um P G ops ids fp (cn ops cN) st sf→Rel W ak β₀ β st a w→wpAny P .any ops Q fuel cN a w:=by
 intro fuel
 induction fuel with
 |zero=>
  intro cN st β a w hsz hlen GO hex hr;have h0:cn ops cN= []:=List.eq_nil_of_length_eq_zero hlen;rw[h0]at hex
  cases hex
  refine⟨?_,hQ β a w hr⟩;refine List.eq_nil_iff_forall_not_mem.2 fun i hi=>?_
  have:i∈cn ops cN:=by
   simp only[Region.ready,List.mem_filter,Bool.and_eq_true]at hi;simp only[cn,List.mem_filter];exact⟨hi.1,hi.2.1⟩
  rw[h0]at this;cases this
 |succ fuel ih=>
  intro cN st β a w hsz hlen GO hex hr;constructor
  ·intro jw;exfalso
   cases hu:cn ops cN with
   |nil=>rw[hu]at hlen;simp at hlen
   |cons i l=>
    have Ey:i∈cn ops cN:=by rw[hu];simp
    have hi:i<ops.size∧(!cN.getD i true)=true:=by
     simpa [cn]using Ey
    have P7:∀j,j<i→cN.getD j true=true:=by
     intro j hj;refine Classical.byContradiction fun sC=>?_
     have Zp:j∈cn ops cN:=by
      simp only[cn,List.mem_filter,List.mem_range];exact⟨by omega,by simpa using sC⟩
     have hpw:(cn ops cN).Pairwise (· < ·):=(List.pairwise_lt_range (n:=ops.size)).filter _;rw[hu]at hpw Zp;rcases List.mem_cons.1 Zp with rfl|Zp
     ·omega
     ·have:=List.rel_of_pairwise_cons hpw Zp;omega
    have rp:i∈Region.ready .any ops cN:=by
     rw[mem_ready];obtain⟨oi,Bb⟩:∃oi,ops[i]? =some oi:=⟨ops[i]'hi.1,by simp[hi.1]⟩;refine⟨by simpa using hi.2,oi,Bb,fun e he hb=>?_⟩;have dL:=(hM i oi Bb).early e he hb;have h1:=P7 e.on dL;have:e.on<cN.size:=(by omega);simp[this]at h1 ⊢;exact h1
    rw[jw]at rp;cases rp
  ·intro i hi;obtain⟨hun,oi,Bb,Gv⟩:=mem_ready.1 hi;have aEI:i<ops.size:=(Array.getElem?_eq_some_iff.1 Bb).1
   have az9:i∈cn ops cN:=by
    simp only[cn,List.mem_filter,List.mem_range];exact⟨aEI,by simpa using hun⟩
   obtain⟨l1,l2,hl⟩:=List.append_of_mem az9;have hpw:(cn ops cN).Pairwise (· < ·):=(List.pairwise_lt_range (n:=ops.size)).filter _;rw[hl]at hpw hex;obtain⟨p1,p2,p3⟩:=List.pairwise_append.1 hpw
   have aAa:∀j,cN.getD j false=false→∀i oi,ops[i]? =some oi→(∀e∈oi.after,Region.binds .any e=true→cN.getD e.on false=true)→Nat.testBit (M i) j=false:=by
    intro j hj i
    induction i using Nat.strongRecOn with
    |_ i ih2=>
     intro oi Bb Gv;refine Bool.eq_false_iff.2 fun ht=>?_;obtain⟨e,he,hb,hor⟩:=(hM i oi Bb).waits j ht;have hle:=Gv e he hb;rcases hor with rfl|ht'
     ·rw[hj]at hle;cases hle
     ·have dL:=(hM i oi Bb).early e he hb
      obtain⟨oe,hoe⟩:∃oe,ops[e.on]? =some oe:=⟨ops[e.on]'(by have:=(Array.getElem?_eq_some_iff.1 Bb).1;omega),by
       have:=(Array.getElem?_eq_some_iff.1 Bb).1;simp[show e.on<ops.size by omega]⟩
      have:=ih2 e.on dL oe hoe (GO e.on oe hoe hle);rw[this]at ht';cases ht'
   have hl1:∀j∈l1,j<i∧Nat.testBit (M i) j=false:=by
    intro j hj;refine⟨p3 j hj i (by simp),aAa j ?_ i oi Bb Gv⟩;have Zp:j∈cn ops cN:=(by rw[hl];simp[hj]);simp only[cn,List.mem_filter,List.mem_range]at Zp;have:j<cN.size:=(by omega);simp[this]at Zp ⊢;exact Zp.2
   obtain⟨s,h1,h2⟩:=Be hM Bb l1 l2 st sf hl1 hex;refine aex hG h1 hr fun β' a' w' rp=>?_
   have Ei:cn ops (cN.setIfInBounds i true)=l1++l2:=by
    have e1:cn ops (cN.setIfInBounds i true)=(cn ops cN).filter (fun k=>k !=i):=by
     unfold cn;rw[List.filter_filter]
     apply List.filter_congr
     intro k hk;have jz:k<ops.size:=List.mem_range.1 hk
     by_cases hki:k=i
     ·subst hki;simp[Array.getD_eq_getD_getElem?,hsz,jz]
     ·rw[getD_set_ne true (Ne.symm hki)];simp[hki]
    rw[e1,hl,List.filter_append];have f1:l1.filter (fun k=>k !=i)=l1:=List.filter_eq_self.2 fun k hk=>by have:=(hl1 k hk).1;simp;omega
    have f2:(i::l2).filter (fun k=>k !=i)=l2:=by
     rw[List.filter_cons];simp only[bne_self_eq_false,Bool.false_eq_true,if_false]
     exact List.filter_eq_self.2 fun k hk=>by
      have:=List.rel_of_pairwise_cons p2 hk;simp;omega
    rw[f1,f2]
   refine ih (cN.setIfInBounds i true) s β' a' w' (by simpa using hsz) ?_ ?_ (by rw[Ei];exact h2) rp
   ·rw[Ei];have:(cn ops cN).length=(l1++i::l2).length:=(by rw[hl]);simp at this ⊢;omega
   ·intro j oj GM hlj e he hb
    by_cases hji:j=i
    ·subst hji;rw[Bb]at GM;simp at GM;subst GM;exact getD_set_true (Gv e he hb)
    ·rw[getD_set_ne false (Ne.symm hji)]at hlj;exact getD_set_true (GO j oj GM hlj e he hb)
end
def zy(ops:Array Oper)(fs:List FP):Option (Option Prop):=match qd ops (uo ops.toList []) fs ops.toList 0 with
 |some []=>some none
 |some l=>some (some (avq l))
 |none=>none
theorem GP{ops:Array Oper}{fs:List FP}{q:Option Prop}(h:zy ops fs=some q)(hq:fo q):∃l,qd ops (uo ops.toList []) fs ops.toList 0=some l∧∀p∈l,p:=by
 unfold zy at h
 split at h
 ·rename_i h1;exact⟨[],h1,fun p hp=>by cases hp⟩
 ·rename_i l _ h1
  cases h
  exact⟨l,h1,fun p hp=>K0 hq hp⟩
 ·cases h
def GQ(P:Program)(G:A6)(ops:Array Oper)(EX:List FP→Option (Option Prop))(W:World)(m:Hp)(β₀:Env)(R:Exit→St→Prop)(acc:List FP)(k n:Nat)(st:St):Prop:=
 ∃ (ids:Nat→Nat) (fs:List FP) (sf:St),fs.length=n∧um P G ops ids (fun i=>fs.getD (i-k) none) (List.range' k n) st sf∧(∃q,EX (acc++fs)=some q∧fo q)∧(∀β a w,Rel W m β₀ β sf a w→pC W m β₀ R .normal a w)
theorem yS{P:Program}{G:A6}{A:Alt}{m:Hp}{EX:List FP→Option (Option Prop)}{ops:Array Oper}{W:World}{β₀:Env}:
  ∀ (l:List Oper) (k:Nat) (B:A7) (acc:List FP) (st:St) (R:Exit→St→Prop),(∀j,l[j]? =ops[k+j]?)→lH B st→(jx P G A m true EX ops l B acc st).sat R→
   GQ P G ops EX W m β₀ R acc k l.length st
 | [],k,B,acc,st,R,_,_,h=>by
  simp only[jx]at h
  split at h
  ·rename_i q hc;exact⟨fun _=>0,[],st,rfl,.nil,⟨q,by simpa using hc,(lu h).1⟩,fun β a w hr=>⟨st,β,(lu h).2,hr⟩⟩
  ·exact h.elim
 |o::rest,k,B,acc,st,R,hl,hB,h=>by
  have h0:ops[k]? =some o:=by simpa using(hl 0).symm
  have PC:∀j,rest[j]? =ops[k+1+j]? :=fun j=>by
   have:=hl (j+1);simpa [Nat.add_assoc,Nat.add_comm 1 j]using this
  have build:∀ (s:St) (f:FP),(∀ids fp,ids k=st.hp.length→fp k=f→uk P G ops ids fp k st s)→
    ∀ (B:A7) (R':Exit→St→Prop),lH B s→(jx P G A m true EX ops rest B (acc++ [f]) s).sat R'→(∀e a w,pC W m β₀ R' e a w→pC W m β₀ R e a w)→
    GQ P G ops EX W m β₀ R acc k (o::rest).length st:=by
   intro s f K2 B R' hB hs hR;obtain⟨ids,fs,sf,e0,e1,e2,e3⟩:=yS rest (k+1) B (acc++ [f]) s R' PC hB hs;refine⟨fun i=>if i=k then st.hp.length else ids i,f::fs,sf,by simp[e0],?_,by simpa using e2,fun β a w hr=>hR _ _ _ (e3 β a w hr)⟩;simp only[List.length_cons,List.range'_succ];refine .cons (K2 _ _ (if_pos rfl) (by simp)) ?_
   have key:∀ (l:List Nat) (x y:St),(∀i∈l,k+1≤i)→um P G ops ids (fun i=>fs.getD (i-(k+1)) none) l x y→um P G ops (fun i=>if i=k then st.hp.length else ids i) (fun i=>(f::fs).getD (i-k) none) l x y:=by
    intro l x y gJ hx
    induction hx with
    |nil=>exact .nil
    |cons h t ih=>
     rename_i i l s1 s2 s3;refine .cons ?_ (ih fun i hi=>gJ i (by simp[hi]));have hik:=gJ i (by simp);unfold uk at h ⊢
     have e1:(f::fs).getD (i-k) none=fs.getD (i-(k+1)) none:=by
      rw[show i-k=(i-(k+1))+1 by omega];rfl
     have e2:(fun i=>if i=k then st.hp.length else ids i) i=ids i:=if_neg (by omega);simp only[e2,e1];exact h
   exact key _ _ _ (fun i hi=>by have:=List.mem_range'_1.1 hi;omega) e1
  have eR:∀ (b:SB),dY st ops o=some b→b.val=true→∀ (B:A7) (R':Exit→St→Prop),lH B st→(((nu P G B st.hp.length (ev st) o.op).val st.hp).sD true fun v d=>
    jx P G A m true EX ops rest (forget B o.dst) (acc++ [Zl (nu P G B st.hp.length (ev st) o.op) st.hp v d]) (put st o.dst v (aJ d st.hp))).sat R'→(∀e a w,pC W m β₀ R' e a w→pC W m β₀ R e a w)→GQ P G ops EX W m β₀ R acc k (o::rest).length st:=by
   intro b hb hbv B R' hB hs hR;obtain⟨q,v,d,hst,n1,n2⟩:=P2 hs
   have hH:∃q',(iD P G (om B o.op) st.hp.length (ev st) o.op).val st.hp= .leaf q' v d∧fo q'∧(iD P G (om B o.op) st.hp.length (ev st) o.op).log st.hp=(nu P G B st.hp.length (ev st) o.op).log st.hp∧
     ∀f:FX,Zl (nu P G B st.hp.length (ev st) o.op) st.hp v d=some f→az2 f (iD P G (om B o.op) st.hp.length (ev st) o.op):=by
    rcases VI (P:=P) (G:=G) (id:=st.hp.length) (op:=o.op) hB with e|⟨v',p,e1,e2,hp⟩
    ·rw[← e];refine⟨q,hst,n1,rfl,fun f hf h=>?_⟩;simp only[Zl,Option.some.injEq]at hf;subst hf;exact⟨rfl,fun v' hv=>⟨none,hv,trivial⟩⟩
    ·rw[e1]at hst;simp only[Ask.val]at hst
     cases hst
     refine⟨some p,by rw[e2];rfl,hp,by rw[e1,e2];rfl,fun f hf h=>?_⟩;simp only[Zl,Option.some.injEq]at hf;subst hf;rw[e1,e2];refine⟨rfl,fun v' hv=>⟨some p,?_,hp⟩⟩;simp only[Ask.val,Out.leaf.injEq]at hv;rw[← hv.2.1];rfl
   obtain⟨q',k1,k2,k3,k4⟩:=hH;exact build _ _ (fun ids fp an5 hfp=>⟨o,b,h0,hb,.inl ⟨hbv,q',v,d,_,_,by rw[an5];exact k1,k2,⟨hfp,by rw[an5];exact k3.symm,rfl,rfl,by rw[an5];exact k4 _ rfl⟩,by rw[an5];exact ui _ _,rfl⟩⟩) _ R' hB.put n2 hR
  have KY:∀ (b:SB),dY st ops o=some b→b.val=false→∀ (B:A7) (R':Exit→St→Prop),lH B st→(jx P G A m true EX ops rest (forget B o.dst) (acc++ [none]) (put st o.dst (.cj []) st.hp)).sat R'→
    (∀e a w,pC W m β₀ R' e a w→pC W m β₀ R e a w)→GQ P G ops EX W m β₀ R acc k (o::rest).length st:=by
   intro b hb hbv B R' hB hs hR;exact build (put st o.dst (.cj []) st.hp) none (fun ids fp _ hfp=>⟨o,b,h0,hb,.inr ⟨hbv,hfp,rfl⟩⟩) _ R' hB.put hs hR
  simp only[jx]at h
  cases hb0:oh B st ops o with
  |none=>simp only[hb0]at h;exact h.elim
  |some b=>
   obtain⟨b',hb,hbv⟩:=A9 hB hb0;simp only[hb0]at h
   cases b with
   |lit b=>
    cases b with
    |true=>exact eR _ hb hbv B R hB h fun _ _ _ h=>h
    |false=>exact KY _ hb hbv B R hB h fun _ _ _ h=>h
   |sym b=>
    cases b with
    |true=>
     obtain⟨R',h1,h2⟩:=A.yes (W:=W) (β₀:=β₀) h;exact eR _ hb hbv _ R' (uh hB hb0) h1 h2
    |false=>
     obtain⟨R',h1,h2⟩:=A.no (W:=W) (β₀:=β₀) h;exact KY _ hb hbv _ R' (uh hB hb0) h1 h2
noncomputable section
variable {P:Program} {G:A6}
theorem Bf(hG:GOk P G){A:Alt}(lX:P.follows .mixedOrders=true){m:Hp}{ops:Array Oper}{id:Nat}{st:St}(hd:uq ops.toList 0=true){R:Exit→St→Prop}
  (h:(jx P G A m true (zy ops) ops ops.toList [] [] st).sat R) {W:World} {β₀:Env} {Q:Exit→Act→World→Prop} (hq:∀e a w,pC W m β₀ R e a w→Q e a w) {β:Env} {a:Act} {w:World}
  (hr:Rel W m β₀ β st a w):(Code.region id ops true).wp P Q a w:=by
 obtain⟨ids,fs,sf,e0,e1,⟨q,e2,e2'⟩,e3⟩:=yS (W:=W) (β₀:=β₀) ops.toList 0 [] [] st R (fun j=>by simp) (fun _ _ h=>by simp[known]at h) h;obtain⟨hE,_⟩:=Bc (ops:=ops) ops.toList [] [] (by simp) rfl hd;obtain⟨ps,p1,p2⟩:=GP (by simpa using e2) e2'
 have hM:∀i o,ops[i]? =some o→avr ops (fun i=>(uo ops.toList []).getD i 0) (fun i=>fs.getD (i-0) none) i o:=by
  intro i o ho;obtain⟨k1,k2⟩:=hE _ (fun _=>rfl) i o (Nat.zero_le _) ho;exact⟨k1,fun j oj hj GM=>sE ops.toList 0 (fun j=>by simp) p1 p2 i o (Nat.zero_le _) ho j oj hj GM,k2⟩
 refine wp_region_any lX ?_
 have Ei:cn ops (Array.replicate ops.size false)=List.range' 0 ops.toList.length:=by
  unfold cn;rw[List.filter_eq_self.2 fun i hi=>?_]
  ·rw[List.range_eq_range'];simp
  ·have:=List.mem_range.1 hi;simp[this]
 refine Ew hG hM (ids:=ids) (sf:=sf) (fun β a w hr=>hq _ _ _ (e3 β a w hr)) ops.size _ st β a _ (by simp) (by rw[Ei];simp) ?_ (by rw[Ei];exact e1) ?_
 ·intro j oj _ hl;exfalso
  by_cases hj:j<ops.size
  ·simp[hj]at hl
  ·simp[hj]at hl
 ·exact⟨hr.defers,hr.fr,hr.heap.drew _ _⟩
end
def aey:Nat→(St→aK)→St→aK
 |0,_,_=>.fail
 |k+1,f,st=>(f st).bind (aey k f)
def avs:Nat:=100000
def Ex(P:Program)(m:Hp)(c:Code)(st:St)(r:aK):Prop:=
 ∀ (W:World) (β₀:Env) (R:Exit→St→Prop) (Q:Exit→Act→World→Prop),r.sat R→(∀e a w,pC W m β₀ R e a w→Q e a w)→
  ∀β a w,Rel W m β₀ β st a w→c.wp P Q a w
abbrev dG:=List (Nat×(St→aK))
def EZ:dG→Nat→Option (St→aK)
 | [],_=>none
 |(i,f)::l,id=>if i=id then some f else EZ l id
def aH(P:Program)(m:Hp)(LT:dG):Code→Prop
 | .seq a b| .cond _ a b=>aH P m LT a∧aH P m LT b
 | .block id c=>aH P m LT c∧∀f,EZ LT id=some f→∀st,Ex P m c st (f st)
 | .loop c| .scope c=>aH P m LT c
 |_=>True
theorem aH.nil{P:Program}{m:Hp}:∀c:Code,aH P m [] c:=by
 intro c
 induction c with
 |seq a b iha ihb=>exact⟨iha,ihb⟩
 |cond _ a b iha ihb=>exact⟨iha,ihb⟩
 |block id c ih=>exact⟨ih,fun f h=>by cases h⟩
 |loop c ih=>exact ih
 |scope c ih=>exact ih
 |_=>trivial
def Ez:Code→List (Nat×Code)
 | .seq a b| .cond _ a b=>Ez a++Ez b
 | .block id c=>(id,c)::Ez c
 | .loop c| .scope c=>Ez c
 |_=> []
theorem aH.of{P:Program}{m:Hp}{LT:dG}:∀ {c:Code},(∀id f c',EZ LT id=some f→(id,c')∈Ez c→∀st,Ex P m c' st (f st))→aH P m LT c:=by
 intro c
 induction c with
 |seq a b iha ihb=>exact fun h=>⟨iha fun id f c' hf hm=>h id f c' hf (List.mem_append_left _ hm),ihb fun id f c' hf hm=>h id f c' hf (List.mem_append_right _ hm)⟩
 |cond _ a b iha ihb=>exact fun h=>⟨iha fun id f c' hf hm=>h id f c' hf (List.mem_append_left _ hm),ihb fun id f c' hf hm=>h id f c' hf (List.mem_append_right _ hm)⟩
 |block id c ih=>exact fun h=>⟨ih fun id f c' hf hm=>h id f c' hf (List.mem_cons_of_mem _ hm),fun f hf=>h id f c hf (by simp[Ez])⟩
 |loop c ih=>exact fun h=>ih h
 |scope c ih=>exact fun h=>ih h
 |_=>exact fun _=>trivial
def exec(P:Program)(G:A6)(A:Alt)(m:Hp)(LT:dG):Code→St→aK
 | .skip,st=>.leaf .normal st
 | .seq a b,st=>(exec P G A m LT a st).bind (exec P G A m LT b)
 | .cond c x y,st=>match ev st c with
  | .one (.sc (.bool (.lit true)))=>exec P G A m LT x st
  | .one (.sc (.bool (.lit false)))=>exec P G A m LT y st
  | .one (.sc (.bool (.sym b)))=>A.f b m (exec P G A m LT x st) (exec P G A m LT y st)
  |_=>.fail
 | .block id c,st=>match EZ LT id with
  |some f=>(f st).block id
  |none=>(exec P G A m LT c st).block id
 | .exit id,st=>.leaf (.exit id) st
 | .ret,st=>.leaf .ret st
 | .label _,st=>.leaf .normal st
 | .scope c,st=>(exec P G A m LT c st).scope
 | .loop c,st=>aey avs (exec P G A m LT c) st
 | .region _ ops false,st=>jx P G A m false (fun _=>some none) ops ops.toList [] [] st
 | .region _ ops true,st=>if uq ops.toList 0=true then jx P G A m true (zy ops) ops ops.toList [] [] st else .fail
 |_,_=>.fail
def aAb(R:Exit→St→Prop)(f:St→aK):Exit→St→Prop
 | .normal,st=>(f st).sat R
 |e,st=>R e st
theorem qe{f:St→aK}{R:Exit→St→Prop}:∀ {r:aK},(r.bind f).sat R→r.sat (aAb R f)
 | .leaf .normal _,h=>h
 | .leaf (.exit _) _,h=>h
 | .leaf (.goto _) _,h=>h
 | .leaf .ret _,h=>h
 | .leaf (.panic _) _,h=>h
 | .leaf .outgrown _,h=>h
 | .ite _ _ _,h=>⟨fun e=>qe (h.1 e),fun e=>qe (h.2 e)⟩
 | .need _ _,h=>⟨h.1,qe h.2⟩
 | .fail,h=>h
def P8(R:Exit→St→Prop)(id:Nat):Exit→St→Prop
 | .exit i,st=>if i=id then R .normal st else R (.exit i) st
 |e,st=>R e st
theorem nx{id:Nat}{R:Exit→St→Prop}:∀ {r:aK},(r.block id).sat R→r.sat (P8 R id)
 | .leaf (.exit i) st,h=>by
  simp only[aK.block]at h;show if i=id then R .normal st else R (.exit i) st
  split at h
  ·rename_i hi;rw[if_pos hi];exact h
  ·rename_i hi;rw[if_neg hi];exact h
 | .leaf .normal _,h=>h
 | .leaf (.goto _) _,h=>h
 | .leaf .ret _,h=>h
 | .leaf (.panic _) _,h=>h
 | .leaf .outgrown _,h=>h
 | .ite _ _ _,h=>⟨fun e=>nx (h.1 e),fun e=>nx (h.2 e)⟩
 | .need _ _,h=>⟨h.1,nx h.2⟩
 | .fail,h=>h
def aEK(R:Exit→St→Prop):Exit→St→Prop
 | .goto _,_=>False
 |e,st=>R e st
theorem rr{R:Exit→St→Prop}:∀ {r:aK},r.scope.sat R→r.sat (aEK R)
 | .leaf .normal _,h=>h
 | .leaf (.exit _) _,h=>h
 | .leaf (.goto _) _,h=>h
 | .leaf .ret _,h=>h
 | .leaf (.panic _) _,h=>h
 | .leaf .outgrown _,h=>h
 | .ite _ _ _,h=>⟨fun e=>rr (h.1 e),fun e=>rr (h.2 e)⟩
 | .need _ _,h=>⟨h.1,rr h.2⟩
 | .fail,h=>h
theorem an7{P:Program}{G:A6}{A:Alt}(hG:GOk P G)(lX:P.follows .mixedOrders=true){W:World}{m:Hp}{LT:dG}{β₀:Env}:
  ∀ (c:Code),aH P m LT c→∀ (st:St) (R:Exit→St→Prop) (Q:Exit→Act→World→Prop),(exec P G A m LT c st).sat R→(∀e a w,pC W m β₀ R e a w→Q e a w)→
   ∀β a w,Rel W m β₀ β st a w→c.wp P Q a w:=by
 intro c
 induction c with
 |skip=>intro hL st R Q h hq β a w hr;exact wp_skip (hq _ _ _ ⟨st,β,h,hr⟩)
 |exit id=>intro hL st R Q h hq β a w hr;exact wp_exit (hq _ _ _ ⟨st,β,h,hr⟩)
 |ret=>intro hL st R Q h hq β a w hr;exact wp_ret (hq _ _ _ ⟨st,β,h,hr⟩)
 |seq x y ihx ihy=>
  intro hL st R Q h hq β a w hr;refine wp_seq (ihx hL.1 st _ _ (qe h) ?_ β a w hr)
  rintro e a w ⟨s,β',h1,h2⟩
  cases e with
  |normal=>exact ihy hL.2 s R Q h1 hq β' a w h2
  |exit _=>exact hq _ _ _ ⟨s,β',h1,h2⟩
  |goto _=>exact hq _ _ _ ⟨s,β',h1,h2⟩
  |ret=>exact hq _ _ _ ⟨s,β',h1,h2⟩
  |panic _=>exact hq _ _ _ ⟨s,β',h1,h2⟩
  |outgrown=>exact hq _ _ _ ⟨s,β',h1,h2⟩
 |cond c x y ihx ihy=>
  intro hL st R Q h hq β a w hr;have hc:=aT hr c;simp only[exec]at h
  split at h
  ·rename_i he;rw[he]at hc;exact wp_cond_true hc (ihx hL.1 st R Q h hq β a w hr)
  ·rename_i he;rw[he]at hc;exact wp_cond_false hc (ihy hL.2 st R Q h hq β a w hr)
  ·rename_i b he;rw[he]at hc
   cases b with
   |true=>
    obtain⟨R',h1,h2⟩:=A.yes (W:=W) (β₀:=β₀) h;exact wp_cond_true hc (ihx hL.1 st R' Q h1 (fun e a w hp=>hq e a w (h2 e a w hp)) β a w hr)
   |false=>
    obtain⟨R',h1,h2⟩:=A.no (W:=W) (β₀:=β₀) h;exact wp_cond_false hc (ihy hL.2 st R' Q h1 (fun e a w hp=>hq e a w (h2 e a w hp)) β a w hr)
  ·exact h.elim
 |block id c ih=>
  intro hL st R Q h hq β a w hr
  have hin:∀Q',(∀e a w,pC W m β₀ (P8 R id) e a w→Q' e a w)→c.wp P Q' a w:=by
   intro Q' hq';simp only[exec]at h
   split at h
   ·rename_i f hf;exact hL.2 f hf st W β₀ _ _ (nx h) hq' β a w hr
   ·exact ih hL.1 st _ _ (nx h) hq' β a w hr
  refine wp_block (hin _ ?_)
  rintro e a w ⟨s,β',h1,h2⟩
  cases e with
  |exit i=>
   simp only[P8]at h1;simp only[Exit.inBlock]
   split at h1
   ·rename_i hi;rw[if_pos hi];exact hq _ _ _ ⟨s,β',h1,h2⟩
   ·rename_i hi;rw[if_neg hi];exact hq _ _ _ ⟨s,β',h1,h2⟩
  |normal=>exact hq _ _ _ ⟨s,β',h1,h2⟩
  |goto _=>exact hq _ _ _ ⟨s,β',h1,h2⟩
  |ret=>exact hq _ _ _ ⟨s,β',h1,h2⟩
  |panic _=>exact hq _ _ _ ⟨s,β',h1,h2⟩
  |outgrown=>exact hq _ _ _ ⟨s,β',h1,h2⟩
 |loop c ih=>
  intro hL st R Q h hq β a w hr
  have key:∀ (n:Nat) (st:St),(aey n (exec P G A m LT c) st).sat R→∀β a w,Rel W m β₀ β st a w→Code.rounds P c Q n a w:=by
   intro n
   induction n with
   |zero=>intro st h;exact h.elim
   |succ n ihn=>
    intro st h β a w hr;rw[rounds_succ];refine ih hL st _ _ (qe h) ?_ β a w hr
    rintro e a w ⟨s,β',h1,h2⟩
    cases e with
    |normal=>exact ihn s h1 β' a w h2
    |exit _=>exact hq _ _ _ ⟨s,β',h1,h2⟩
    |goto _=>exact hq _ _ _ ⟨s,β',h1,h2⟩
    |ret=>exact hq _ _ _ ⟨s,β',h1,h2⟩
    |panic _=>exact hq _ _ _ ⟨s,β',h1,h2⟩
    |outgrown=>exact hq _ _ _ ⟨s,β',h1,h2⟩
  exact wp_loop_rounds avs (key avs st h β a w hr)
 |label l=>intro hL st R Q h hq β a w hr;exact wp_label (hq _ _ _ ⟨st,β,h,hr⟩)
 |scope c ih=>
  intro hL st R Q h hq β a w hr;refine wp_scope_straight (ih hL st _ _ (rr h) ?_ β a w hr)
  rintro e a w ⟨s,β',h1,h2⟩
  cases e with
  |goto _=>exact h1.elim
  |normal=>exact hq _ _ _ ⟨s,β',h1,h2⟩
  |exit _=>exact hq _ _ _ ⟨s,β',h1,h2⟩
  |ret=>exact hq _ _ _ ⟨s,β',h1,h2⟩
  |panic _=>exact hq _ _ _ ⟨s,β',h1,h2⟩
  |outgrown=>exact hq _ _ _ ⟨s,β',h1,h2⟩
 |region id ops d=>
  intro hL st R Q h hq β a w hr
  cases d with
  |false=>exact wp_region_list (Ba hG ops.toList [] [] st R (fun _ _ h=>by simp[known]at h) h hq β a w hr)
  |true=>
   simp only[exec]at h
   split at h
   ·rename_i hd;exact Bf hG lX hd h hq hr
   ·exact h.elim
 |_=>intro hL st R Q h;exact h.elim
theorem Ex.VK{P:Program}{G:A6}{A:Alt}(hG:GOk P G)(lX:P.follows .mixedOrders=true){m:Hp}{LT:dG}{c:Code}(hL:aH P m LT c){st:St}{r:aK}(h:exec P G A m LT c st=r):Ex P m c st r:=
 fun _ _ R Q hs hq β a w hr=>an7 hG lX c hL st R Q (h▸hs) hq β a w hr
def xm(P:Program)(st:St):ResultVar→Option VV
 | .tmp t=>match ev st (.tmp t)with
  | .one x=>some x
  |_=>none
 | .cell a t=>match ev st (.tmp a)with
  | .one (.sc (.ptr b off))=>match bo st.hp b with
   |some (.aW cells _)=>fA P t cells off
   |_=>none
  |_=>none
def K3(P:Program)(fn:Func)(st:St):Option LV:=
 match c7 (xm P st) fn.results.toList with
 |some [x]=>some (.one x)
 |some l=>some (.cj l)
 |none=>none
def GR(a:Act):ResultVar→Sem Value
 | .tmp t=>pure (a.tmps.getD t undef)
 | .cell b t=>do loadVar t (← asAddr (a.tmps.getD b undef))
theorem P9(fn:Func)(a:Act):results fn a.tmps=(do let vs ← fn.results.mapM (GR a);pure (if h:vs.size=1 then vs[0]else .tuple vs)):=by
 unfold results
 congr 2
theorem Qa{P:Program}{W:World}{ak:Hp}{β₀ β:Env}{st:St}{a:Act}{w:World}(hr:Rel W ak β₀ β st a w){r:ResultVar}{x:VV}(h:xm P st r=some x):
  ∃v,(GR a r).run P w= .ok v w∧x.den β (kd st.hp) v:=by
 cases r with
 |tmp t=>
  simp only[xm]at h
  split at h
  ·rename_i y hy;simp at h;subst h;have:=aT hr (.tmp t);rw[hy]at this;exact⟨_,rfl,this⟩
  ·simp at h
 |cell b t=>
  simp only[xm]at h
  split at h
  ·rename_i i off hy
   split at h
   ·rename_i cells elem hb;have:=aT hr (.tmp b);rw[hy]at this;obtain⟨_,e⟩:=this;have e':a.tmps.getD b undef= .pointer (some ⟨β.b i,off,none⟩):=e;obtain⟨c,fz,_,_,h3,h4⟩:=hr.heap.gI (aB hb);obtain⟨v,h5,h6⟩:=kV (P:=P) rfl h4 h3 h;rw[bT,Nat.zero_add]at h5;exact⟨v,by simp[GR,e',asAddr,h5],h6⟩
   ·simp at h
  ·simp at h
theorem K4{P:Program}{fn:Func}{W:World}{ak:Hp}{β₀ β:Env}{st:St}{a:Act}{w:World}(hr:Rel W ak β₀ β st a w){r:LV}(h:K3 P fn st=some r):
  ∃v,(results fn a.tmps).run P w= .ok v w∧r.den β (kd st.hp) v:=by
 have key:∀ (l:List ResultVar) (xs:List VV),c7 (xm P st) l=some xs→∃vs:List Value,(l.mapM (GR a)).run P w= .ok vs w∧bM (VV.den β (kd st.hp)) xs vs:=by
  intro l
  induction l with
  |nil=>intro xs h;simp[c7]at h;subst h;exact⟨[],by simp,.nil⟩
  |cons r l ih=>
   intro xs h;simp only[c7]at h
   split at h
   ·rename_i y m' h1 h2;simp at h;subst h;obtain⟨v,e1,e2⟩:=Qa hr h1;obtain⟨vs,e3,e4⟩:=ih _ h2;refine⟨v::vs,?_,.cons e2 e4⟩;simp only[List.mapM_cons,Sem.run_bind];rw[e1];simp only[Result.andThen_ok,Sem.run_pure,e3]
   ·simp at h
 unfold K3 at h
 have eR:∀ (vs:List Value) (xs:List VV),c7 (xm P st) fn.results.toList=some xs→(∀vs:List Value,bM (VV.den β (kd st.hp)) xs vs→∃v,(if h:vs.toArray.size=1 then vs.toArray[0]else .tuple vs.toArray)=v∧r.den β (kd st.hp) v)→
   ∃v,(results fn a.tmps).run P w= .ok v w∧r.den β (kd st.hp) v:=by
  intro _ xs hx hv;obtain⟨vs,e1,e2⟩:=key _ _ hx;obtain⟨v,e3,e4⟩:=hv vs e2;refine⟨v,?_,e4⟩;rw[P9,Sem.run_bind,Array.mapM_eq_mapM_toList];simp only[Sem.run_map,e1,Result.andThen_ok];rw[← e3];rfl
 split at h
 ·rename_i x hx;simp at h;subst h;refine eR [] [x] hx fun vs hvs=>?_
  cases hvs with
  |cons h1 h2=>
   cases h2
   exact⟨_,rfl,h1⟩
 ·rename_i l gJ hl;simp at h;subst h;refine eR [] l hl fun vs hvs=>?_;have hlen:=hvs.length
  have:vs.length≠1:=by
   intro e;rw[e]at hlen;obtain⟨x,hx⟩:=List.length_eq_one_iff.1 hlen;exact gJ x hx
  refine⟨_,by rw[dif_neg (by simpa using this)],vs,rfl,hvs⟩
 ·simp at h
theorem bb.self{W:World}{ak:Hp}{β₀ β:Env}{hp:Hp}{w:World}(h:bb W ak β₀ β hp w):bb w hp β β hp w:=
 ⟨h.items,h.inj,bO.refl _ _,fun i x b hi ho=>.inr ⟨x,hi,ho⟩,rfl,rfl,Nat.le_refl _,fun _ _ _=>rfl,h.reads,fun pm v t l b h1 h2=>.inr ⟨pm,v,t,l,id,h1,h2⟩⟩
theorem bb.trans{W:World}{ak:Hp}{β₀ β β':Env}{hp dB:Hp}{w w':World}(h:bb W ak β₀ β hp w)(h':bb w hp β β' dB w'):bb W ak β₀ β' dB w' where
 items:=h'.items
 inj:=h'.inj
 first:=h.first.trans h'.first
 own i x b hi ho:=by
  rcases h'.own i x b hi ho with h1|⟨y,hj,h1⟩
  ·exact .inl (Nat.le_trans h.size h1)
  ·exact h.own i y b hj h1
 os:=h'.os.trans h.os
 output:=h'.output.trans h.output
 size:=Nat.le_trans h.size h'.size
 al b hb gJ:=by
  rw[h'.al b (by have:=h.size;omega) fun⟨i,x,hi,ho⟩=>?_]
  ·exact h.al b hb gJ
  ·rcases h.own i x b hi ho with h1|⟨y,h1⟩
   ·omega
   ·exact gJ ⟨i,y,h1⟩
 reads:=h'.reads
 from_ pm v t l b h1 h2:=by
  rcases h'.from_ pm v t l b h1 h2 with h3|⟨lW,v',t',l',h0,h3,h4⟩
  ·exact .inl (Nat.le_trans h.size h3)
  ·rcases h.from_ lW v' t' l' b h3 h4 with h5|⟨pm2,v2,t2,l2,h6,h7,h8⟩
   ·exact .inl h5
   ·exact .inr ⟨pm2,v2,t2,l2,fun e=>h6 (h0 e),h7,h8⟩
def iQ(P:Program)(f:FuncId)(args:List LV)(hp:Hp)(R:LV→Hp→Prop):Prop:=
 ∀ (β:Env) (w:World) (vals:List Value),bb w hp β β hp w→bM (LV.den β (kd hp)) args vals→
  Calls P f vals.toArray w fun e w'=>∃val β' r dB,e= .returned val∧R r dB∧r.den β' (kd dB) val∧bb w hp β β' dB w'
def entry(fn:Func)(args:List LV)(hp:Hp):St:=⟨args++List.replicate (fn.ntmps-args.length) (.cj []),hp⟩
inductive End where
 |leaf (v:LV) (hp:Hp)
 |ite (b:Bool) (x y:End)
 |need (p:Prop) (x:End)
 |fail
def End.sat(R:LV→Hp→Prop):End→Prop
 | .leaf v hp=>R v hp
 | .ite b x y=>(b=true→x.sat R)∧(b=false→y.sat R)
 | .need p x=>p∧x.sat R
 | .fail=>False
def aK.ends(P:Program)(fn:Func):aK→End
 | .leaf .normal st| .leaf .ret st=>match K3 P fn st with
  |some v=>.leaf v st.hp
  |none=>.fail
 | .leaf _ _=>.fail
 | .ite b x y=>.ite b (x.ends P fn) (y.ends P fn)
 | .need p x=>.need p (x.ends P fn)
 | .fail=>.fail
theorem uv{P:Program}{fn:Func}{R:LV→Hp→Prop}:∀ {r:aK},(r.ends P fn).sat R→r.sat fun e st=>(e= .normal∨e= .ret)∧∃v,K3 P fn st=some v∧R v st.hp
 | .leaf e st,h=>by
  cases e with
  |normal=>
   simp only[aK.ends]at h
   split at h
   ·rename_i v hv;exact⟨.inl rfl,v,hv,h⟩
   ·exact h.elim
  |ret=>
   simp only[aK.ends]at h
   split at h
   ·rename_i v hv;exact⟨.inr rfl,v,hv,h⟩
   ·exact h.elim
  |exit _=>exact h.elim
  |goto _=>exact h.elim
  |panic _=>exact h.elim
  |outgrown=>exact h.elim
 | .ite b x y,h=>⟨fun e=>uv (h.1 e),fun e=>uv (h.2 e)⟩
 | .need p x,h=>⟨h.1,uv h.2⟩
 | .fail,h=>h
def iq(P:Program)(f:FuncId)(args:List LV)(hp:Hp)(t:End):Prop:=∀R,t.sat R→iQ P f args hp R
theorem Qb{P:Program}{f:FuncId}{fn:Func}{c:Code}(hf:P.funcs[f]? =some fn)(hb:fn.body=some c){args:List LV}{hp:Hp}{r:aK}(hx:Ex P hp c (entry fn args hp) r):iq P f args hp (r.ends P fn):=by
 intro R h β w vals hh eh;refine calls_of_wp hf hb ?_
 have avt:Rel w hp β β (entry fn args hp) {tmps:=vals.toArray++Array.replicate (fn.ntmps-vals.toArray.size) undef,defers:= []} w:=by
  refine⟨rfl,?_,hh⟩;show bM _ (args++List.replicate (fn.ntmps-args.length) (.cj [])) (vals.toArray++Array.replicate (fn.ntmps-vals.toArray.size) undef).toList;have hl:=eh.length
  have e:(vals.toArray++Array.replicate (fn.ntmps-vals.toArray.size) undef).toList=vals++List.replicate (fn.ntmps-args.length) undef:=by
   simp[hl]
  rw[e];refine eh.append ?_;generalize fn.ntmps-args.length=k
  induction k with
  |zero=>exact .nil
  |succ k ih=>exact .cons ⟨[],rfl,.nil⟩ ih
 refine hx _ _ _ _ (uv h) ?_ β _ w avt
 have key:∀ (a:Act) (w':World) (st:St) (β':Env) (x:LV),K3 P fn st=some x→R x st.hp→Rel w hp β β' st a w'→
   a.defers= []∧∃v,(results fn a.tmps).run P w'= .ok v w'∧(∃val β' r dB,Ending.returned v= .returned val∧R r dB∧r.den β' (kd dB) val∧bb w hp β β' dB w'):=by
  intro a w' st β' x an8 hR hr;obtain⟨v,h1,h2⟩:=K4 hr an8;exact⟨hr.defers,v,h1,v,β',x,st.hp,rfl,hR,h2,hr.heap⟩
 rintro e a w' ⟨st,β',⟨he,x,an8,hR⟩,hr⟩
 rcases he with rfl|rfl
 ·exact key a w' st β' x an8 hR hr
 ·exact key a w' st β' x an8 hR hr
def xn(P:Program)(f:FuncId):Prop:=∀ (as:Array Value) (w:World),(callFunc f as).run P w= .ok (.enter f as) w
end Go.Ev
end
