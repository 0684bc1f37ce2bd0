/- What the laws lean on, part 4: a reader of code, plain facts, and what each function gives; no conditions. -/
import Derived.LoopN
import Derived.Orders
import Derived.Scope
import Derived.Test.YtjalaohajcpllaaGreatA3
section
set_option linter.unusedVariables false
set_option linter.unusedSimpArgs false
namespace Go.Ev
open Go
section
variable {P:Program} {W:World} {al:Hp} {β₀ β:Env} {w:World} {st:St} {a:Act}
def aqW (P:Program) (W:World) (al:Hp) (β₀ β:Env) (st:St) (w:World) (s:Sem Next) (v:LV) (d:List (Nat×Item)):Prop:=
 ∃ (β':Env) (w':World) (val:Value),s.run P w= .ok (.value val) w'∧v.den β' (kd (aK d st.hp)) val∧bd W al β₀ β' (aK d st.hp) w'∧bU β β' (kd st.hp) (kd (aK d st.hp))
theorem anl (hr:Rel W al β₀ β st a w) {t ty:TypeId} {x:SV} {n:SI} {v:Value} (hl:(ang P t x).val st.hp=some n) (hd:x.den β (kd st.hp) v):(Builtin.len_ #[t] ty #[v]).run P w= .ok (.int .i64 n.val) w:=by
 have hs: ∀ {e:TypeId} {b:Option Addr} {k c:Nat},dL P t=some e→(Builtin.len_ #[t] ty #[.slice b k c]).run P w= .ok (goInt k) w:=fun he=>by
  have hu:=dD he
  simp[Builtin.len_,run_underlying hu]
 have aqX: ∀ {s:ByteArray},P.underlying t=some .string→(Builtin.len_ #[t] ty #[.string s]).run P w= .ok (goInt s.size) w:=fun hu=>by
  simp[Builtin.len_,run_underlying hu]
 have aqY: ∀ {α:Type} {x y:α},(if P.underlying t matches some .string then some x else none)=some y→P.underlying t=some .string∧x=y:=by
  intro α x y h
  split at h
  ·rename_i hm
   refine ⟨?_,by simpa using h⟩
   revert hm
   cases hu:P.underlying t with
   |none=>simp
   |some d=>cases d<;>simp
  ·cases h
 unfold ang at hl
 split at hl
 ·simp only[Ask.val] at hl
  obtain ⟨e,he,rfl⟩:=map_some hl
  obtain ⟨_,rfl⟩:=hd
  exact hs he
 ·simp only[Ask.val] at hl
  obtain ⟨e,he,rfl⟩:=map_some hl
  obtain ⟨_,rfl⟩:=hd
  exact hs he
 ·simp only[Ask.val] at hl
  obtain ⟨hu,rfl⟩:=aqY hl
  have e:v= .string _:=hd
  rw[e,aqX hu,r9];rfl
 ·simp only[Ask.val] at hl
  obtain ⟨hu,rfl⟩:=aqY hl
  obtain ⟨_,rfl⟩:=hd
  exact aqX hu
 ·split at hl
  ·rename_i e he
   rw[Ask.cZ] at hl
   obtain ⟨⟨pm,w8,l⟩,hc,rfl⟩:=map_some hl
   obtain ⟨b,c,rfl⟩:=(j6 hr.heap hc hd).len
   exact hs he
  ·simp[Ask.val] at hl
theorem xo {f:Int→Int→Int} {g:Value→Value→Sem Value} {k:IntKind} (hg: ∀ x y:Int,(g (.int k x) (.int k y)).run P w= .ok (.int k (f x y)) w) {β:Env} {L:Nat→Option Kd}:
  ∀ (l:List SV) (vs:List Value) (x n:SI),b8 (SV.den β L) l vs→xm f k x l=some n→(vs.foldlM g (.int k x.val)).run P w= .ok (.int k n.val) w
 | [],vs,x,n,hd,h=>by
  cases hd
  simp[xm] at h;subst h
  simp
 | .int k' y::l,_,x,n,.cons (b:=b) (m:=vs) h1 h2,h=>by
  simp only[xm] at h
  split at h
  ·rename_i hk;subst hk
   have e:b= .int k' y.val:=h1
   subst e
   simp only[List.foldlM_cons,Sem.run_bind,hg,Result.andThen_ok]
   have:=xo hg l vs _ n h2 h
   rw[map2_val] at this
   exact this
  ·cases h
theorem AT {β:Env} {L:Nat→Option Kd}: ∀ {xs:List LV} {ss:List SV} {vs:List Value},c9 iQ xs=some ss→b8 (LV.den β L) xs vs→b8 (SV.den β L) ss vs
 | [],_,_,h,hd=>by simp[c9] at h;subst h;cases hd;exact .nil
 |x::xs,ss,_,h,.cons h1 h2=>by
  simp only[c9] at h
  split at h
  ·rename_i s m hs hm
   simp at h;subst h
   exact .cons (bm hs h1) (AT hm h2)
  ·cases h
theorem VC (hr:Rel W al β₀ β st a w) {id:Nat} {t u ty_:TypeId} {s x:SV} {q:Option Prop} {v:LV} {d:List (Nat×Item)} (h:(ZN P id t u s x).val st.hp=some (q,v,d)) (hq:eH q) (oD:(∃ x,(id,x)∈d)→kd st.hp id=none)
  {sv xv:Value} (hs0:s.den β (kd st.hp) sv) (xa:x.den β (kd st.hp) xv):
  ∃ (β':Env) (w':World) (val:Value),(Builtin.append_ #[t,u] ty_ #[sv,xv]).run P w= .ok val w'∧v.den β' (kd (aK d st.hp)) val∧bd W al β₀ β' (aK d st.hp) w'∧bU β β' (kd st.hp) (kd (aK d st.hp)):=by
 unfold ZN at h
 split at h
 ·simp[Ask.val] at h
 rename_i el nb
 split at h
 rotate_left
 ·simp[Ask.val] at h
 rename_i ty sz z w9 hty hs hz MZ
 split at h
 rotate_left
 ·simp[Ask.val] at h
 rename_i kh
 obtain ⟨rfl,iO,ZG⟩:=kh
 rw[Ask.dR] at h
 split at h
 rotate_left
 ·simp[Ask.val] at h
 rename_i pm m hc
 split at h
 rotate_left
 ·simp[Ask.val] at h
 rename_i hf
 obtain ⟨news,DI,ln⟩:=ZO hr.heap hc hf xa
 split at h
 ·simp only[Ask.val] at h
  cases h
  have ZH:=oD ⟨_,by simp;rfl⟩
  obtain ⟨_,rfl⟩:=hs0
  have ZC:m.length*w9≤70368744177664∧m.length≤70368744177664:=hq
  have tx:dt β w (.slice none 0 0) ty []:=⟨none,0,0,rfl,rfl,Nat.le_refl _,fun _=>rfl,fun h=>absurd h (by omega)⟩
  obtain ⟨v',w',h1,h2,h3,h4,h5,h6,h7⟩:=AR (ty_:=ty_) nb hs iO hz ZG MZ tx DI ln (by simpa using ZC.1) (by simpa using ZC.2)
  rw[List.nil_append] at h2
  obtain ⟨β',k1,k2,k3⟩:=hr.heap.sj ZH (ver:=0) h3 h4 h5 (fun b hb=>h6 b hb (by rintro ⟨_,_,_,e,_⟩;simp at e)) h2 (fun a n c e h0=>(h7 a n c e h0).resolve_left (by rintro ⟨_,_,e,_⟩;simp at e))
  refine ⟨β',w',v',h1,⟨?_,0,?_,Nat.le_refl _,fun _=>k3.symm⟩,k1,k2⟩
  ·obtain ⟨_,_,_,rfl,_⟩:=h2;rfl
  ·show kd (setAt st.hp id _) id=_
   rw[dn,if_pos rfl];rfl
 ·rename_i i ver
  simp only[Ask.val] at h
  split at h
  ·rename_i ver' w8 l hi
   split at h
   ·rename_i e;subst e
    split at h
    ·rename_i e;subst e
     cases h
     obtain ⟨oK,hh⟩:=hr.heap.oW (p:=fun v=>sv=v) (aB hi) hs0.2
     have ZC:(l.length+m.length)*w9≤70368744177664∧l.length+m.length≤70368744177664:=hq
     obtain ⟨v',w',h1,h2,h3,h4,h5,h6,h7⟩:=AR (ty_:=ty_) nb hs iO hz ZG MZ oK DI ln ZC.1 ZC.2
     obtain ⟨β',k1,k2,k3⟩:=hr.heap.xl (aB hi) (ver':=ver+1) (l':=l++m) (v:=v') (w':=w') (.inl (Nat.lt_succ_self _)) h3 h4 h5 (fun b hb rO=>h6 b hb rO) h2
      (fun a n c e h0=>(h7 a n c e h0).imp (fun ⟨n',c',e',h'⟩=>⟨a,n',c',e',h',rfl⟩) fun h=>h)
     refine ⟨β',w',v',by rw[hh];exact h1,⟨?_,ver+1,?_,Nat.le_refl _,fun _=>k3.symm⟩,k1,k2⟩
     ·obtain ⟨_,_,_,rfl,_⟩:=h2;rfl
     ·show kd (setAt st.hp i _) i=_
      rw[dn,if_pos rfl];rfl
    ·cases h
   ·cases h
  ·cases h
 ·simp[Ask.val] at h
theorem ahY (hr:Rel W al β₀ β st a w) {id:Nat} {t u ty_:TypeId} {s:SV} {k:IntKind} {n:Int} {q:Option Prop} {v:LV} {d:List (Nat×Item)} (h:(Nk P id t u s n).val st.hp=some (q,v,d)) (hq:eH q) (oD:(∃ x,(id,x)∈d)→kd st.hp id=none)
  {sv:Value} (hs0:s.den β (kd st.hp) sv):
  ∃ (β':Env) (w':World) (val:Value),(Builtin.append_ #[t,u] ty_ #[sv,.int k n]).run P w= .ok val w'∧v.den β' (kd (aK d st.hp)) val∧bd W al β₀ β' (aK d st.hp) w'∧bU β β' (kd st.hp) (kd (aK d st.hp)):=by
 unfold Nk at h
 split at h
 rotate_left
 ·simp[Ask.val] at h
 rename_i el kn nb hku
 split at h
 rotate_left
 ·simp[Ask.val] at h
 rename_i ty sz z w9 hty hs hz MZ
 split at h
 rotate_left
 ·simp[Ask.val] at h
 rename_i kh
 obtain ⟨rfl,iO,ZG⟩:=kh
 split at h
 rotate_left
 ·simp[Ask.val] at h
 rename_i z0 hz0
 split at h
 ·simp only[Ask.val] at h
  cases h
  have ZH:=oD ⟨_,by simp;rfl⟩
  obtain ⟨_,rfl⟩:=hs0
  obtain ⟨DF,hq1,hq2⟩:0≤n∧n.toNat*w9≤70368744177664∧n.toNat≤70368744177664:=hq
  obtain ⟨m,rfl⟩:=Int.eq_ofNat_of_zero_le DF
  simp only[Int.toNat_natCast] at hq1 hq2 ⊢
  have tx:dt β w (.slice none 0 0) ty []:=⟨none,0,0,rfl,rfl,Nat.le_refl _,fun _=>rfl,fun h=>absurd h (by omega)⟩
  obtain ⟨v',w',h1,h2,h3,h4,h5,h6,h7⟩:=tv (ty_:=ty_) (kq:=k) nb hs iO hz ZG MZ tx hku hz0 m (by simpa using hq1) (by simpa using hq2)
  rw[List.nil_append] at h2
  obtain ⟨β',k1,k2,k3⟩:=hr.heap.sj ZH (ver:=0) h3 h4 h5 (fun b hb=>h6 b hb (by rintro ⟨_,_,_,e,_⟩;simp at e)) h2 (fun a n c e h0=>(h7 a n c e h0).resolve_left (by rintro ⟨_,_,e,_⟩;simp at e))
  refine ⟨β',w',v',h1,⟨?_,0,?_,Nat.le_refl _,fun _=>k3.symm⟩,k1,k2⟩
  ·obtain ⟨_,_,_,rfl,_⟩:=h2;rfl
  ·show kd (setAt st.hp id _) id=_
   rw[dn,if_pos rfl];rfl
 ·rename_i i ver
  simp only[Ask.val] at h
  split at h
  ·rename_i ver' w8 l hi
   split at h
   ·rename_i e;subst e
    split at h
    ·rename_i e;subst e
     cases h
     obtain ⟨oK,hh⟩:=hr.heap.oW (p:=fun v=>sv=v) (aB hi) hs0.2
     obtain ⟨DF,hq1,hq2⟩:0≤n∧(l.length+n.toNat)*w9≤70368744177664∧l.length+n.toNat≤70368744177664:=hq
     obtain ⟨m,rfl⟩:=Int.eq_ofNat_of_zero_le DF
     simp only[Int.toNat_natCast] at hq1 hq2 ⊢
     obtain ⟨v',w',h1,h2,h3,h4,h5,h6,h7⟩:=tv (ty_:=ty_) (kq:=k) nb hs iO hz ZG MZ oK hku hz0 m hq1 hq2
     obtain ⟨β',k1,k2,k3⟩:=hr.heap.xl (aB hi) (ver':=ver+1) (l':=l++List.replicate m z0) (v:=v') (w':=w') (.inl (Nat.lt_succ_self _)) h3 h4 h5 (fun b hb rO=>h6 b hb rO) h2
      (fun a n c e h0=>(h7 a n c e h0).imp (fun ⟨n',c',e',h'⟩=>⟨a,n',c',e',h',rfl⟩) fun h=>h)
     refine ⟨β',w',v',by rw[hh];exact h1,⟨?_,ver+1,?_,Nat.le_refl _,fun _=>k3.symm⟩,k1,k2⟩
     ·obtain ⟨_,_,_,rfl,_⟩:=h2;rfl
     ·show kd (setAt st.hp i _) i=_
      rw[dn,if_pos rfl];rfl
    ·cases h
   ·cases h
  ·cases h
 ·simp[Ask.val] at h
theorem aq1 (hr:Rel W al β₀ β st a w) {id:Nat} {b:Builtin} {ts:List TypeId} {xs:List LV} {vs:List Value} {q:Option Prop} {v:LV} {d:List (Nat×Item)}
  (h:(ahU P id b ts xs).val st.hp=some (q,v,d)) (hq:eH q) (oD:(∃ x,(id,x)∈d)→kd st.hp id=none) (hd:b8 (LV.den β (kd st.hp)) xs vs) (ty:TypeId) (cs:Array Bool):
  aqW P W al β₀ β st w (builtin b ts.toArray ty cs vs.toArray) v d:=by
 have ZQ: ∀ {s:Sem Value} {val:Value} {x:SV},s.run P w= .ok val w→x.den β (kd st.hp) val→aqW P W al β₀ β st w (do pure (.value (← s))) (.one (.sc x)) []:=by
  intro s val x h1 h2
  exact ⟨β,w,val,by rw[Sem.run_bind,h1];rfl,h2,hr.heap,bU.refl _ _⟩
 unfold ahU at h
 split at h
 ·rename_i t x
  split at h
  ·rename_i s hs
   rw[Ask.cZ] at h
   obtain ⟨n,hn,he⟩:=map_some h
   cases he
   cases hd with
   |cons h1 h2=>
    cases h2
    exact ZQ (anl hr hn (bm hs h1)) rfl
  ·simp[Ask.val] at h
 ·rename_i t u s x
  split at h
  ·rename_i s' k n hs hx
   cases hd with
   |cons h1 h2=>
    cases h2 with
    |cons h2 h3=>
     cases h3
     have e:=bm hx h2
     simp only[SV.den] at e
     subst e
     obtain ⟨β',w',val,k1,k2,k3,k4⟩:=ahY (ty_:=ty) (k:=k) hr h hq oD (bm hs h1)
     exact ⟨β',w',val,by show (do pure (Next.value (← Builtin.append_ #[t,u] ty _)):Sem Next).run P w=_;rw[Sem.run_bind,k1];rfl,k2,k3,k4⟩
  ·rename_i s' x' _ hs hx
   cases hd with
   |cons h1 h2=>
    cases h2 with
    |cons h2 h3=>
     cases h3
     obtain ⟨β',w',val,k1,k2,k3,k4⟩:=VC (ty_:=ty) hr h hq oD (bm hs h1) (bm hx h2)
     exact ⟨β',w',val,by show (do pure (Next.value (← Builtin.append_ #[t,u] ty _)):Sem Next).run P w=_;rw[Sem.run_bind,k1];rfl,k2,k3,k4⟩
  ·simp[Ask.val] at h
 ·rename_i t u s x
  split at h
  ·rename_i s' x' hs hx
   cases hd with
   |cons h1 h2=>
    cases h2 with
    |cons h2 h3=>
     cases h3
     obtain ⟨β',w',val,k1,k2,k3,k4⟩:=ahX (ty_:=ty) hr h (bm hs h1) (bm hx h2)
     exact ⟨β',w',val,by show (do pure (Next.value (← Builtin.copy_ #[t,u] ty _)):Sem Next).run P w=_;rw[Sem.run_bind,k1];rfl,k2,k3,k4⟩
  ·simp[Ask.val] at h
 ·rename_i x l
  simp only[Ask.val] at h
  split at h
  ·rename_i k x0 l0 hx hl
   obtain ⟨n,hn,he⟩:=map_some h
   cases he
   cases hd with
   |cons h1 h2=>
    rename_i v0 vs0
    have e:v0= .int k x0.val:=bm hx h1
    subst e
    have:=xo (P:=P) (w:=w) (f:=ZL) (g:=Builtin.min2) (k:=k) (fun x y=>by simp[Builtin.min2,ZL]) l0 vs0 x0 n (AT hl h2) hn
    refine ZQ (s:=Builtin.min_ ts.toArray ty (Value.int k x0.val::vs0).toArray) (val:= .int k n.val) ?_ rfl
    simp only[Builtin.min_]
    exact this
  ·cases h
 ·rename_i x l
  simp only[Ask.val] at h
  split at h
  ·rename_i k x0 l0 hx hl
   obtain ⟨n,hn,he⟩:=map_some h
   cases he
   cases hd with
   |cons h1 h2=>
    rename_i v0 vs0
    have e:v0= .int k x0.val:=bm hx h1
    subst e
    have:=xo (P:=P) (w:=w) (f:=ZM) (g:=Builtin.max2) (k:=k) (fun x y=>by simp[Builtin.max2,ZM]) l0 vs0 x0 n (AT hl h2) hn
    refine ZQ (s:=Builtin.max_ ts.toArray ty (Value.int k x0.val::vs0).toArray) (val:= .int k n.val) ?_ rfl
    simp only[Builtin.max_]
    exact this
  ·cases h
 ·simp[Ask.val] at h
end
inductive Out where
 |leaf (q:Option Prop) (v:LV) (d:List (Nat×Item))
 |ite (b:Bool) (x y:Out)
 |fail
def Out.of:Stp→Out
 |some (q,v,d)=> .leaf q v d
 |none=> .fail
def Out.holds (Q:LV→List (Nat×Item)→Prop):Out→Prop
 | .leaf q v d=>eH q∧Q v d
 | .ite b x y=>(b=true→x.holds Q)∧(b=false→y.holds Q)
 | .fail=>False
def SZ (id:Nat) (hp:Hp) (d:List (Nat×Item)):Prop:= ∀ j x,(j,x)∈d→id≤j→kd hp j=none
def Out.fresh (id:Nat) (hp:Hp):Out→Prop
 | .leaf _ _ d=>SZ id hp d
 | .ite _ x y=>x.fresh id hp∧y.fresh id hp
 | .fail=>True
structure AU where
 run:FuncId→Nat→List LV→Ask Out
def VD (P:Program) (f:FuncId) (vals:Array Value) (w:World) (Q:Ending→World→Prop):Prop:=
 (∃ val,(callFunc f vals).run P w= .ok (.value val) w∧Q (.returned val) w)∨
  ((∀ (as:Array Value) (w:World),(callFunc f as).run P w= .ok (.enter f as) w)∧Calls P f vals w Q)
theorem VD.mono {P:Program} {f:FuncId} {vals:Array Value} {w:World} {Q Q':Ending→World→Prop} (h:VD P f vals w Q) (hq: ∀ e w',Q e w'→Q' e w'):VD P f vals w Q':=
 h.imp (fun ⟨v,h1,h2⟩=>⟨v,h1,hq _ _ h2⟩) fun ⟨h1,h2⟩=>⟨h1,h2.mono hq⟩
structure GOk (P:Program) (G:AU):Prop where
 calls: ∀ f id args hp,((G.run f id args).val hp).fresh id hp→ ∀ Q,((G.run f id args).val hp).holds Q→
  ∀ (W:World) (al:Hp) (β₀ β:Env) (w:World) (vals:List Value),bd W al β₀ β hp w→b8 (LV.den β (kd hp)) args vals→
   VD P f vals.toArray w fun e w'=> ∃ v d val β',Q v d∧e= .returned val∧v.den β' (kd (aK d hp)) val∧bd W al β₀ β' (aK d hp) w'∧bU β β' (kd hp) (kd (aK d hp))
def put (st:St) (dst:Option Tmp) (v:LV) (hp:Hp):St:=
 match dst with
 |some d=>⟨st.fr.set d v,hp⟩
 |none=>⟨st.fr,hp⟩
theorem Rel.put {W:World} {al:Hp} {β₀ β β':Env} {st:St} {a:Act} {w w':World} (h:Rel W al β₀ β st a w) {dst:Option Tmp} {v:LV} {val:Value} {hp:Hp}
  (hv:v.den β' (kd hp) val) (hh:bd W al β₀ β' hp w') (ha:bU β β' (kd st.hp) (kd hp)):
  Rel W al β₀ β' (put st dst v hp) (a.put dst val) w':=by
 have hfr:b8 (LV.den β' (kd hp)) st.fr a.tmps.toList:=h.fr.imp fun _ _=>LV.eA ha
 cases dst with
 |none=>exact ⟨h.defers,hfr,hh⟩
 |some d=>exact ⟨h.defers,by
   show b8 (LV.den β' (kd hp)) (st.fr.set d v) (a.tmps.setIfInBounds d val).toList
   rw[Array.toList_setIfInBounds]
   exact hfr.set d hv,hh⟩
def Jv:LV→Option FuncId
 | .one (.sc (.gz (.func (.func f) fs cs)))=>if fs.isEmpty&&cs.isEmpty then some f else none
 |_=>none
def tz (P:Program) (G:AU) (id:Nat) (e:Operand→LV) (op:Op):Ask Out:=
 match op with
 | .call c=>match c.callee with
  | .builtin b=>(ahU P id b c.argTypes.toList (c.args.toList.map e)).map Out.of
  | .value f=>match Jv (e f) with
   |some f=>G.run f id (c.args.toList.map e)
   |none=> .ret .fail
  |_=> .ret .fail
 |op=>(fK P id e op).map Out.of
def gU (P:Program) (G:AU) (h:Option Bool) (id:Nat) (e:Operand→LV) (op:Op):Ask Out:=
 match h,op with
 |some v,.pick c x y=>match e c with
  | .one (.sc (.bool t))=> .ret (.leaf (some (t.val=v)) (if v then e x else e y) [])
  |_=> .ret .fail
 |_,op=>tz P G id e op
theorem ZR {P:Program} {G:AU} (hG:GOk P G) {id:Nat} {st:St} {o:Oper} (hf:((tz P G id (ev st) o.op).val st.hp).fresh id st.hp) {K:LV→List (Nat×Item)→Prop} (h:((tz P G id (ev st) o.op).val st.hp).holds K)
  {W:World} {al:Hp} {β₀ β:Env} {a:Act} {w:World} (hr:Rel W al β₀ β st a w) {next:Act→World→Prop} {Q:Exit→Act→World→Prop}
  (hn: ∀ v d β' a' w',K v d→Rel W al β₀ β' (put st o.dst v (aK d st.hp)) a' w'→next a' w'):o.wp P a w next Q:=by
 unfold tz at h hf
 split at h
 ·rename_i c hc
  have dG:b8 (LV.den β (kd st.hp)) (c.args.toList.map (ev st)) (c.args.toList.map a.eval):=b8.of_map _ _ _ fun x _=>aV hr x
  have e2:(c.args.toList.map a.eval).toArray=c.args.map a.eval:=by rw[← Array.toList_map,Array.toArray_toList]
  simp only[hc] at hf
  split at h
  ·rename_i b hb
   simp only[hb] at hf
   rw[Ask.cZ] at h hf
   cases hs:(ahU P id b c.argTypes.toList (c.args.toList.map (ev st))).val st.hp with
   |none=>rw[hs] at h;exact h.elim
   |some r=>
    obtain ⟨q,v,d⟩:=r
    rw[hs] at h hf
    obtain ⟨hq,hk⟩:=h
    obtain ⟨β',w',val,h1,h2,h3,h4⟩:=aq1 hr hs hq (fun ⟨x,hx⟩=>hf id x hx (Nat.le_refl _)) dG o.type (c.args.map fun| .const _=>true|_=>false)
    rw[e2,Array.toArray_toList] at h1
    have dY:(execOp a.eval o).run P w= .ok (.value val) w':=by
     simp only[execOp,hc,resolve,hb,Sem.run_bind,Sem.run_pure,Result.andThen_ok,invoke]
     exact h1
    unfold Oper.wp
    rw[dY]
    exact hn v d β' _ w' hk (hr.put (dst:=o.dst) h2 h3 h4)
  ·rename_i x hx
   simp only[hx] at hf
   split at h
   ·rename_i f hfn
    simp only[hfn] at hf
    have aq2:=hG.calls f id _ _ hf K h W al β₀ β w _ hr.heap dG
    unfold Jv at hfn
    split at hfn
    ·rename_i g fs cs Nc
     split at hfn
     ·rename_i aq3
      simp at hfn;subst hfn
      have hd:=aV hr x
      rw[Nc] at hd
      have e:a.eval x= .func (.func g) fs cs:=hd.2
      simp at aq3
      obtain ⟨rfl,rfl⟩:=aq3
      unfold Oper.wp
      rcases aq2 with ⟨val,h1,v,d,ayQ,β',hk,he,h3,h4,h5⟩|⟨h1,h2⟩
      ·have dY:(execOp a.eval o).run P w= .ok (.value val) w:=by
        rw[e2] at h1
        simp only[execOp,hc,resolve,hx,e,Deferred.ofValue,Sem.run_bind,Sem.run_pure,Result.andThen_ok,invoke,Array.append_empty,Array.empty_append]
        exact h1
       rw[dY]
       cases he
       exact hn v d β' _ w hk (hr.put (dst:=o.dst) h3 h4 h5)
      ·have dY:(execOp a.eval o).run P w= .ok (.enter g (c.args.toList.map a.eval).toArray) w:=by
        simp only[execOp,hc,resolve,hx,e,Deferred.ofValue,Sem.run_bind,Sem.run_pure,Result.andThen_ok,invoke,h1,e2]
        simp
       rw[dY]
       refine h2.mono ?_
       rintro e w' ⟨v,d,val,β',hk,rfl,h3,h4,h5⟩
       exact hn v d β' _ w' hk (hr.put (dst:=o.dst) h3 h4 h5)
     ·cases hfn
    ·cases hfn
   ·exact h.elim
  ·exact h.elim
 ·rename_i rO
  have ZS:((fK P id (ev st) o.op).map Out.of).val st.hp |>.fresh id st.hp:=by
   split at hf
   ·rename_i c hc;exact absurd hc (rO c)
   ·exact hf
  rw[Ask.cZ] at h ZS
  cases hs:(fK P id (ev st) o.op).val st.hp with
  |none=>rw[hs] at h;exact h.elim
  |some r=>
   obtain ⟨q,v,d⟩:=r
   rw[hs] at h ZS
   obtain ⟨hq,hk⟩:=h
   obtain ⟨β',w',r,val,h1,h2,h3,h4,h5⟩:=ahS hs (fun ⟨x,hx⟩=>ZS id x hx (Nat.le_refl _)) hq W al β₀ β a w hr
   have:=hn v d β' _ w' hk (hr.put (dst:=o.dst) h3 h4 h5)
   unfold Oper.wp
   rw[h1]
   rcases h2 with rfl|⟨rfl,rfl⟩
   ·exact this
   ·exact this
theorem Jw {P:Program} {G:AU} (hG:GOk P G) {g:Option Bool} {id:Nat} {st:St} {o:Oper} (hf:((gU P G g id (ev st) o.op).val st.hp).fresh id st.hp) {K:LV→List (Nat×Item)→Prop} (h:((gU P G g id (ev st) o.op).val st.hp).holds K)
  {W:World} {al:Hp} {β₀ β:Env} {a:Act} {w:World} (hr:Rel W al β₀ β st a w) {next:Act→World→Prop} {Q:Exit→Act→World→Prop}
  (hn: ∀ v d β' a' w',K v d→Rel W al β₀ β' (put st o.dst v (aK d st.hp)) a' w'→next a' w'):o.wp P a w next Q:=by
 unfold gU at h hf
 split at h
 ·rename_i b c x y ho
  split at h
  ·rename_i t ht
   obtain ⟨hq,hk⟩:=h
   have htb:t.val=b:=hq
   have hc:=aV hr c;rw[ht] at hc
   have e:a.eval c= .bool t.val:=hc
   have dY:(execOp a.eval o).run P w= .ok (.value (if b then a.eval x else a.eval y)) w:=by
    simp[execOp,ho,e,asBool,htb]
   unfold Oper.wp
   rw[dY]
   refine hn _ _ β _ w hk (hr.put (dst:=o.dst) (hp:=st.hp) ?_ hr.heap (bU.refl _ _))
   cases b
   ·exact aV hr y
   ·exact aV hr x
  ·exact h.elim
 ·rename_i rO
  have ZS:((tz P G id (ev st) o.op).val st.hp).fresh id st.hp:=by
   split at hf
   ·rename_i b c x y ho;exact absurd ho (rO b c x y rfl)
   ·exact hf
  exact ZR hG ZS h hr hn
def dH (st:St) (ops:Array Oper) (o:Oper):Option SB:=
 match o.guard with
 |none=>some (.lit true)
 |some (j,want)=>match (ops[j]?).bind (·.dst) with
  |none=>some (.lit false)
  |some d=>match st.fr[d]? with
   |some (.one (.sc (.bool (.lit b))))=>some (.lit (b==want))
   |some (.one (.sc (.bool (.sym b))))=>some (.sym (b==want))
   |some (.cV _)=>some (.lit false)
   |some (.one (.sc (.int _ _)))=>some (.lit false)
   |none=>some (.lit false)
   |_=>none
theorem yN {W:World} {al:Hp} {β₀ β:Env} {st:St} {a:Act} {w:World} (h:Rel W al β₀ β st a w) {ops:Array Oper} {o:Oper} {b:SB}
  (hb:dH st ops o=some b):Region.wanted o (yielded ops a.tmps)=b.val:=by
 unfold dH at hb
 unfold Region.wanted
 split at hb
 ·rename_i hg;simp at hb;subst hb;simp[hg,SB.val]
 ·rename_i j want hg
  simp only[hg]
  unfold yielded
  split at hb
  ·rename_i hd;simp at hb;subst hb;simp[hd,SB.val]
  ·rename_i d hd
   simp only[hd,Option.bind_some]
   have hlen:=h.fr.length
   split at hb
   ·rename_i x hx
    obtain ⟨v,hv,Nm⟩:=h.fr.get hx
    have VE:a.tmps[d]? =some v:=by simpa using hv
    have e:v= .bool x:=Nm
    simp at hb;subst hb;simp[VE,e,SB.val]
   ·rename_i x hx
    obtain ⟨v,hv,Nm⟩:=h.fr.get hx
    have VE:a.tmps[d]? =some v:=by simpa using hv
    have e:v= .bool x:=Nm
    simp at hb;subst hb;simp[VE,e,SB.val]
   ·rename_i l hx
    obtain ⟨v,hv,vs,e,_⟩:=h.fr.get hx
    have VE:a.tmps[d]? =some v:=by simpa using hv
    simp at hb;subst hb;simp[VE,e,SB.val]
   ·rename_i k i hx
    obtain ⟨v,hv,Nm⟩:=h.fr.get hx
    have VE:a.tmps[d]? =some v:=by simpa using hv
    have e:v= .int k i.val:=Nm
    simp at hb;subst hb;simp[VE,e,SB.val]
   ·rename_i hx
    have VE:a.tmps[d]? =none:=by
     have:=List.getElem?_eq_none_iff.1 hx
     rw[Array.getElem?_eq_none_iff,← Array.length_toList]
     omega
    simp at hb;subst hb;simp[VE,SB.val]
   ·simp at hb
abbrev AV:=List (Tmp×Bool)
def known:AV→Tmp→Option Bool
 | [],_=>none
 |(d,v)::l,t=>if d=t then some v else known l t
def forget (a:AV):Option Tmp→AV
 |none=>a
 |some d=>a.filter fun p=>p.1!=d
def nm (a:AV) (st:St) (ops:Array Oper) (o:Oper):Option SB:=
 match o.guard with
 |none=>some (.lit true)
 |some (j,want)=>match (ops[j]?).bind (·.dst) with
  |none=>some (.lit false)
  |some d=>match known a d with
   |some v=>some (.lit (v==want))
   |none=>dH st ops o
def AW (a:AV) (ops:Array Oper) (o:Oper) (v:Bool):AV:=
 match o.guard with
 |none=>a
 |some (j,want)=>match (ops[j]?).bind (·.dst) with
  |none=>a
  |some d=>(d,v==want)::a
def ki (a:AV) (st:St):Prop:= ∀ d v,known a d=some v→ ∃ x:SB,st.fr[d]? =some (.one (.sc (.bool x)))∧x.val=v
theorem FD {a:AV} {e d:Tmp} {v:Bool} (h:known (forget a (some e)) d=some v):d≠e∧known a d=some v:=by
 induction a with
 |nil=>simp[forget,known] at h
 |cons p a ih=>
  obtain ⟨t,u⟩:=p
  simp only[forget,List.filter_cons] at h ih
  split at h
  ·rename_i gk
   simp only[known] at h ⊢
   split at h
   ·rename_i htd;subst htd
    simp at h gk;exact ⟨gk,by simp[h]⟩
   ·rename_i htd
    rw[if_neg htd];exact ih h
  ·rename_i gk
   simp at gk;subst gk
   obtain ⟨h1,h2⟩:=ih h
   exact ⟨h1,by simp only[known,if_neg (Ne.symm h1)];exact h2⟩
theorem ki.put {a:AV} {st:St} (h:ki a st) {dst:Option Tmp} {v:LV} {hp:Hp}:ki (forget a dst) (put st dst v hp):=by
 intro d u hd
 cases dst with
 |none=>exact h d u hd
 |some e=>
  obtain ⟨h1,h2⟩:=FD hd
  obtain ⟨x,hx,hv⟩:=h d u h2
  exact ⟨x,by simp only[Ev.put];rw[List.getElem?_set_ne (Ne.symm h1)];exact hx,hv⟩
theorem AX {a:AV} {st:St} (h:ki a st) {ops:Array Oper} {o:Oper} {b:SB} (hb:nm a st ops o=some b): ∃ b',dH st ops o=some b'∧b'.val=b.val:=by
 unfold nm at hb
 split at hb
 ·rename_i hg;simp at hb;subst hb;exact ⟨.lit true,by simp[dH,hg],rfl⟩
 ·rename_i j want hg
  split at hb
  ·rename_i hd;simp at hb;subst hb;exact ⟨.lit false,by simp[dH,hg,hd],rfl⟩
  ·rename_i d hd
   split at hb
   ·rename_i v hk
    simp at hb;subst hb
    obtain ⟨x,hx,hv⟩:=h d v hk
    cases x with
    |lit x=>exact ⟨.lit (x==want),by simp[dH,hg,hd,hx],by simp only[SB.val] at hv ⊢;rw[hv]⟩
    |sym x=>exact ⟨.sym (x==want),by simp[dH,hg,hd,hx],by simp only[SB.val] at hv ⊢;rw[hv]⟩
   ·exact ⟨b,hb,rfl⟩
theorem tA {a:AV} {st:St} (h:ki a st) {ops:Array Oper} {o:Oper} {b:Bool} (hb:nm a st ops o=some (.sym b)):ki (AW a ops o b) st:=by
 unfold nm at hb
 split at hb
 ·simp at hb
 ·rename_i j want hg
  split at hb
  ·simp at hb
  ·rename_i d hd
   have hl:AW a ops o b=(d,b==want)::a:=by simp only[AW,hg,hd]
   rw[hl]
   split at hb
   ·simp at hb
   ·intro e v he
    simp only[known] at he
    split at he
    ·rename_i hde;subst hde
     simp at he;subst he
     simp only[dH,hg,hd] at hb
     split at hb<;>simp at hb
     rename_i x hx
     subst hb
     exact ⟨.sym x,hx,by cases x<;>cases want<;>rfl⟩
    ·exact h e v he
end Go.Ev
end
section
set_option linter.unusedVariables false
set_option linter.unusedSimpArgs false
namespace Go.Ev
open Go
inductive a6 where
 |leaf (e:Exit) (st:St)
 |ite (b:Bool) (t e:a6)
 |need (p:Prop) (r:a6)
 |fail
def a6.sat (Q:Exit→St→Prop):a6→Prop
 | .leaf e st=>Q e st
 | .ite b t e=>(b=true→t.sat Q)∧(b=false→e.sat Q)
 | .need p r=>p∧r.sat Q
 | .fail=>False
def a6.bind (f:St→a6):a6→a6
 | .leaf .normal st=>f st
 | .leaf e st=> .leaf e st
 | .ite b t e=> .ite b (t.bind f) (e.bind f)
 | .need p r=> .need p (r.bind f)
 | .fail=> .fail
def a6.block (id:Nat):a6→a6
 | .leaf (.exit i) st=>if i=id then .leaf .normal st else .leaf (.exit i) st
 | .leaf e st=> .leaf e st
 | .ite b t e=> .ite b (t.block id) (e.block id)
 | .need p r=> .need p (r.block id)
 | .fail=> .fail
def a6.scope:a6→a6
 | .leaf (.goto _) _=> .fail
 | .leaf e st=> .leaf e st
 | .ite b t e=> .ite b t.scope e.scope
 | .need p r=> .need p r.scope
 | .fail=> .fail
def a6.eH (q:Option Prop) (r:a6):a6:=
 match q with
 |none=>r
 |some p=> .need p r
theorem a6.o6 {Q Q':Exit→St→Prop} (hq: ∀ e st,Q e st→Q' e st): ∀ {r:a6},r.sat Q→r.sat Q'
 | .leaf _ _,h=>hq _ _ h
 | .ite _ _ _,h=>⟨fun e=>a6.o6 hq (h.1 e),fun e=>a6.o6 hq (h.2 e)⟩
 | .need _ _,h=>⟨h.1,a6.o6 hq h.2⟩
 | .fail,h=>h
theorem j7 {q:Option Prop} {r:a6} {R:Exit→St→Prop} (h:(r.eH q).sat R):eH q∧r.sat R:=by
 cases q with
 |none=>exact ⟨trivial,h⟩
 |some p=>exact h
def oG (W:World) (al:Hp) (β₀:Env) (R:Exit→St→Prop):Exit→Act→World→Prop:=
 fun e a w=> ∃ st β,R e st∧Rel W al β₀ β st a w
structure Alt where
 f:Bool→Hp→a6→a6→a6
 yes: ∀ {m:Hp} {t e:a6} {R:Exit→St→Prop} {W:World} {β₀:Env},(f true m t e).sat R→ ∃ R',t.sat R'∧ ∀ e a w,oG W m β₀ R' e a w→oG W m β₀ R e a w
 no: ∀ {m:Hp} {t e:a6} {R:Exit→St→Prop} {W:World} {β₀:Env},(f false m t e).sat R→ ∃ R',e.sat R'∧ ∀ e a w,oG W m β₀ R' e a w→oG W m β₀ R e a w
def fork:Alt where
 f b _ t e:= .ite b t e
 yes h:=⟨_,h.1 rfl,fun _ _ _ h=>h⟩
 no h:=⟨_,h.2 rfl,fun _ _ _ h=>h⟩
structure FX where
 r:List Nat
 d:List (Nat×Item)
 v:LV
 re:Hp→Out×List Nat
abbrev FP:=Option FX
def FX.w (f:FX):List Nat:=f.d.map (·.1)
def VF (a:Ask Out) (hp:Hp) (v:LV) (d:List (Nat×Item)):FP:=some ⟨a.log hp,d,v,fun h=>(a.val h,a.log h)⟩
def Out.rP (dr:Bool) (k:LV→List (Nat×Item)→a6):Out→a6
 | .leaf q v d=>(k v d).eH q
 | .ite b x y=>if dr then .fail else .ite b (x.rP dr k) (y.rP dr k)
 | .fail=> .fail
def np (k:AV):Op→Option Bool
 | .pick (.tmp d) _ _=>known k d
 |_=>none
def mq (P:Program) (G:AU) (k:AV) (id:Nat) (e:Operand→LV) (op:Op):Ask Out:=
 match np k op,op with
 |some v,.pick _ x y=> .ret (.leaf none (if v then e x else e y) [])
 |_,_=>tz P G id e op
def iI (P:Program) (G:AU) (A:Alt) (m:Hp) (dr:Bool) (D6:List FP→Option (Option Prop)) (ops:Array Oper):List Oper→AV→List FP→St→a6
 | [],_,acc,st=>match D6 acc with
  |some q=>(a6.leaf .normal st).eH q
  |none=> .fail
 |o::rest,k,acc,st=>
  match nm k st ops o with
  |some (.lit true)=>((mq P G k st.hp.length (ev st) o.op).val st.hp).rP dr fun v d=>
    iI P G A m dr D6 ops rest (forget k o.dst) (acc++ [VF (mq P G k st.hp.length (ev st) o.op) st.hp v d]) (put st o.dst v (aK d st.hp))
  |some (.lit false)=>iI P G A m dr D6 ops rest (forget k o.dst) (acc++ [none]) (put st o.dst (.cV []) st.hp)
  |some (.sym b)=>A.f b m
    (((mq P G (AW k ops o true) st.hp.length (ev st) o.op).val st.hp).rP dr fun v d=>
      iI P G A m dr D6 ops rest (forget (AW k ops o true) o.dst) (acc++ [VF (mq P G (AW k ops o true) st.hp.length (ev st) o.op) st.hp v d]) (put st o.dst v (aK d st.hp)))
    (iI P G A m dr D6 ops rest (forget (AW k ops o false) o.dst) (acc++ [none]) (put st o.dst (.cV []) st.hp))
  |none=> .fail
theorem gn {hp:Hp} {j:Nat} (h:hp.length≤j):kd hp j=none:=by
 unfold kd
 rw[List.getElem?_eq_none h]
theorem tB (hp:Hp) (d:List (Nat×Item)):SZ hp.length hp d:=fun _ _ _ h=>gn h
theorem xp (hp:Hp): ∀ o:Out,o.fresh hp.length hp
 | .leaf _ _ d=>tB hp d
 | .ite _ x y=>⟨xp hp x,xp hp y⟩
 | .fail=>trivial
theorem o7 {dr:Bool} {k:LV→List (Nat×Item)→a6} {R:Exit→St→Prop}: ∀ {o:Out},(o.rP dr k).sat R→o.holds fun v d=>(k v d).sat R
 | .leaf q v d,h=>j7 h
 | .ite b x y,h=>by
  simp only[Out.rP] at h
  split at h
  ·exact h.elim
  ·exact ⟨fun e=>o7 (h.1 e),fun e=>o7 (h.2 e)⟩
 | .fail,h=>h
theorem Nn {k:LV→List (Nat×Item)→a6} {R:Exit→St→Prop} {o:Out} (h:(o.rP true k).sat R): ∃ q v d,o= .leaf q v d∧eH q∧(k v d).sat R:=by
 cases o with
 |leaf q v d=>exact ⟨q,v,d,rfl,(j7 h).1,(j7 h).2⟩
 |ite b x y=>simp[Out.rP,a6.sat] at h
 |fail=>exact h.elim
theorem S0 {P:Program} {G:AU} {k:AV} {id:Nat} {st:St} {op:Op} (hk:ki k st):
  (mq P G k id (ev st) op=gU P G (np k op) id (ev st) op)∨
  ∃ v p,mq P G k id (ev st) op= .ret (.leaf none v [])∧gU P G (np k op) id (ev st) op= .ret (.leaf (some p) v [])∧p:=by
 unfold mq
 split
 ·rename_i v c x y hh
  right
  unfold np at hh
  split at hh
  ·rename_i d x' y' e
   simp at e;obtain ⟨rfl,rfl,rfl⟩:=e
   obtain ⟨t,ht,hv⟩:=hk _ _ hh
   have hev:ev st (.tmp d)= .one (.sc (.bool t)):=by simp[ev,List.getD_eq_getElem?_getD,ht]
   refine ⟨_,t.val=v,rfl,?_,hv⟩
   simp only[gU,np,hh,hev]
  ·cases hh
 ·rename_i rO
  left
  unfold gU
  split
  ·rename_i v c x y hh
   exact absurd hh (by intro h;exact rO v c x y h rfl)
  ·rfl
theorem ZT {P:Program} {G:AU} (hG:GOk P G) {k:AV} {id:Nat} {st:St} {o:Oper} (hk:ki k st) (hf: ∀ o:Out,o.fresh id st.hp) {K:LV→List (Nat×Item)→Prop} (h:((mq P G k id (ev st) o.op).val st.hp).holds K)
  {W:World} {al:Hp} {β₀ β:Env} {a:Act} {w:World} (hr:Rel W al β₀ β st a w) {next:Act→World→Prop} {Q:Exit→Act→World→Prop}
  (hn: ∀ v d β' a' w',K v d→Rel W al β₀ β' (put st o.dst v (aK d st.hp)) a' w'→next a' w'):o.wp P a w next Q:=by
 have hs:((gU P G (np k o.op) id (ev st) o.op).val st.hp).holds K:=by
  rcases S0 (P:=P) (G:=G) (id:=id) (op:=o.op) hk with e|⟨v,p,e1,e2,hp⟩
  ·rw[← e];exact h
  ·rw[e1] at h;rw[e2];exact ⟨hp,h.2⟩
 exact Jw hG (hf _) hs hr hn
theorem AY {P:Program} {G:AU} {A:Alt} (hG:GOk P G) {W:World} {m:Hp} {β₀:Env} {dr:Bool} {D6:List FP→Option (Option Prop)} {ops:Array Oper} {Q:Exit→Act→World→Prop}:
  ∀ (l:List Oper) (k:AV) (acc:List FP) (st:St) (R:Exit→St→Prop),ki k st→(iI P G A m dr D6 ops l k acc st).sat R→(∀ e a w,oG W m β₀ R e a w→Q e a w)→
   ∀ β a w,Rel W m β₀ β st a w→wpList P ops Q l a w
 | [],k,acc,st,R,hk,h,hq,β,a,w,hr=>by
  simp only[iI] at h
  split at h
  ·exact hq _ _ _ ⟨st,β,(j7 h).2,hr⟩
  ·exact h.elim
 |o::rest,k,acc,st,R,hk,h,hq,β,a,w,hr=>by
  have dY: ∀ (k:AV) (acc:LV→List (Nat×Item)→List FP),ki k st→ ∀ (R:Exit→St→Prop),(((mq P G k st.hp.length (ev st) o.op).val st.hp).rP dr fun v d=>
    iI P G A m dr D6 ops rest (forget k o.dst) (acc v d) (put st o.dst v (aK d st.hp))).sat R→(∀ e a w,oG W m β₀ R e a w→Q e a w)→o.wp P a w (wpList P ops Q rest) Q:=by
   intro k acc hk R h hq
   exact ZT hG hk (xp _) (o7 h) hr fun v d β' a' w' hkv qB=>AY hG rest _ _ _ R hk.put hkv hq β' a' w' qB
  have Jx: ∀ (k:AV) (acc:List FP),ki k st→ ∀ (R:Exit→St→Prop),(iI P G A m dr D6 ops rest (forget k o.dst) acc (put st o.dst (.cV []) st.hp)).sat R→(∀ e a w,oG W m β₀ R e a w→Q e a w)→
    wpList P ops Q rest (a.put o.dst undef) w:=by
   intro k acc hk R h hq
   exact AY hG rest _ _ _ R hk.put h hq β _ w (hr.put (dst:=o.dst) ⟨[],rfl,.nil⟩ hr.heap (bU.refl _ _))
  simp only[iI] at h
  cases hb:nm k st ops o with
  |none=>simp only[hb] at h;exact h.elim
  |some b=>
   obtain ⟨b',kU,hbv⟩:=AX hk hb
   have hw:=yN hr kU
   rw[hbv] at hw
   simp only[hb] at h
   simp only[wpList,hw]
   cases b with
   |lit b=>
    cases b with
    |true=>exact .inl (dY k _ hk R h hq)
    |false=>exact Jx k _ hk R h hq
   |sym b=>
    cases b with
    |true=>
     obtain ⟨R',h1,h2⟩:=A.yes (W:=W) (β₀:=β₀) h
     exact .inl (dY _ _ (tA hk hb) R' h1 fun e a w hp=>hq e a w (h2 e a w hp))
    |false=>
     obtain ⟨R',h1,h2⟩:=A.no (W:=W) (β₀:=β₀) h
     exact Jx _ _ (tA hk hb) R' h1 fun e a w hp=>hq e a w (h2 e a w hp)
theorem put_comm (st:St) {x y:Option Tmp} (v u:LV) (h1 h2 h:Hp) (gk: ∀ d,x=some d→y≠some d):put (put st x v h1) y u h=put (put st y u h2) x v h:=by
 cases x with
 |none=>cases y<;>rfl
 |some d=>
  cases y with
  |none=>rfl
  |some e=>
   have:d≠e:=fun he=>gk d rfl (he▸rfl)
   simp only[put]
   rw[List.set_comm _ _ this]
theorem VG {ops:Array Oper} {o:Oper} {t:Tmp} (h:Operand.tmp t∈o.op.operands):t∈o.looksAt ops:=by
 unfold Oper.looksAt
 rw[List.mem_append]
 refine .inl (List.mem_filterMap.2 ⟨.tmp t,by simpa using h,rfl⟩)
theorem ano {st:St} {dst:Option Tmp} {v:LV} {hp:Hp} {x:Operand} (h: ∀ d,dst=some d→x≠ .tmp d):ev (put st dst v hp) x=ev st x:=by
 cases dst with
 |none=>cases x<;>rfl
 |some d=>
  cases x with
  |tmp t=>
   have gk:t≠d:=fun e=>h d rfl (e▸rfl)
   simp only[ev,put,List.getD_eq_getElem?_getD]
   rw[List.getElem?_set_ne (Ne.symm gk)]
  |_=>rfl
theorem mr {ops:Array Oper} {o:Oper} {dst:Option Tmp} (h: ∀ d,dst=some d→d∉o.looksAt ops) {st:St} {v:LV} {hp:Hp}: ∀ x∈o.op.operands,ev (put st dst v hp) x=ev st x:=
 fun _x hx=>ano fun d hd e=>h d hd (VG (e▸hx))
theorem eV {ops:Array Oper} {o:Oper} {dst:Option Tmp} (h: ∀ d,dst=some d→d∉o.looksAt ops) {st:St} {v:LV} {hp:Hp}:
  dH (put st dst v hp) ops o=dH st ops o:=by
 unfold dH
 cases hg:o.guard with
 |none=>rfl
 |some p=>
  obtain ⟨j,want⟩:=p
  cases ht:(ops[j]?).bind (·.dst) with
  |none=>simp[ht]
  |some t=>
   have:(put st dst v hp).fr[t]? =st.fr[t]? :=by
    cases dst with
    |none=>rfl
    |some d=>
     have gk:d≠t:=fun e=>h d rfl (by subst e;simp[Oper.looksAt,hg,ht])
     simp only[put]
     rw[List.getElem?_set_ne gk]
   simp only[ht,this]
theorem No {P:Program} {id:Nat} {e e2:Operand→LV} {op:Op} (h: ∀ x∈op.operands,e2 x=e x):fK P id e2 op=fK P id e op:=by
 cases op<;>simp only[Op.operands] at h<;>(try rfl)
 case move x=>simp only[fK,h x (by simp)]
 case assign x=>simp only[fK,h x (by simp)]
 case pick c x y=>simp only[fK,h c (by simp),h x (by simp),h y (by simp)]
 case box t x=>simp only[fK,h x (by simp)]
 case build t parts=>
  have e:(parts.toList.map fun p=>(p.1,e2 p.2))=parts.toList.map fun p=>(p.1,e p.2):=List.map_congr_left fun p hp=>by
   rw[h p.2 (by rw[List.mem_toArray];exact List.mem_map.2 ⟨p,hp,rfl⟩)]
  simp only[fK,e]
 case buildSlice t len parts=>
  have e:(parts.toList.map fun p=>(p.1,e2 p.2))=parts.toList.map fun p=>(p.1,e p.2):=List.map_congr_left fun p hp=>by
   rw[h p.2 (by rw[List.mem_toArray];exact List.mem_map.2 ⟨p,hp,rfl⟩)]
  simp only[fK,e]
 case load t x=>simp only[fK,h x (by simp)]
 case store t x y=>simp only[fK,h x (by simp),h y (by simp)]
 case nilCheck x=>simp only[fK,h x (by simp)]
 case binOp op t x y yt=>simp only[fK,h x (by simp),h y (by simp)]
 case unOp op t x=>simp only[fK,h x (by simp)]
 case convert s d x=>simp only[fK,h x (by simp)]
 case sliceToArrayPointer t x=>simp only[fK,h x (by simp)]
 case makeSlice t x y=>simp only[fK,h x (by simp),h y (by simp)]
 case slice t x lo hi mx=>
  have e1:lo.map e2=lo.map e:=by cases lo<;>simp_all
  have e3:hi.map e2=hi.map e:=by cases hi<;>simp_all
  have e4:mx.map e2=mx.map e:=by cases mx<;>simp_all
  simp only[fK,h x (by simp),e1,e3,e4]
 case fieldAddr s x f=>simp only[fK,h x (by simp)]
 case field s x f=>simp only[fK,h x (by simp)]
 case indexAddr t x i=>simp only[fK,h x (by simp),h i (by simp)]
 case index t x i=>simp only[fK,h x (by simp),h i (by simp)]
 case extract x i=>simp only[fK,h x (by simp)]
theorem Jy {P:Program} {G:AU} {id:Nat} {e e2:Operand→LV} {op:Op} (h: ∀ x∈op.operands,e2 x=e x):tz P G id e2 op=tz P G id e op:=by
 unfold tz
 split
 ·rename_i c
  have dG:c.args.toList.map e2=c.args.toList.map e:=List.map_congr_left fun x hx=>h x (by simp only[Op.operands,Call.operands,Array.mem_append];exact .inr (by simpa using hx))
  rw[dG]
  split
  ·rfl
  ·rename_i f hf
   rw[h f (by simp[Op.operands,Call.operands,hf])]
  ·rfl
 ·rw[No h]
theorem cX {P:Program} {G:AU} {g:Option Bool} {id:Nat} {e e2:Operand→LV} {op:Op} (h: ∀ x∈op.operands,e2 x=e x):gU P G g id e2 op=gU P G g id e op:=by
 unfold gU
 split
 ·rename_i v c x y
  rw[h c (by simp[Op.operands]),h x (by simp[Op.operands]),h y (by simp[Op.operands])]
 ·exact Jy h
theorem FE {hp:Hp} {i k:Nat} {x:Item} (h:k≠i):br (setAt hp i x) k=br hp k:=by
 unfold br
 split
 ·rename_i y hy
  rw[(cG hp i x k y h).1 hy]
 ·rename_i hn
  split
  ·rename_i y hy;exact absurd ((cG hp i x k y h).2 hy) (hn y)
  ·rfl
theorem dZ: ∀ {d:List (Nat×Item)} {hp:Hp} {k:Nat},k∉d.map (·.1)→br (aK d hp) k=br hp k
 | [],_,_,_=>rfl
 |(i,x)::d,hp,k,h=>by
  simp only[List.map_cons,List.mem_cons,not_or] at h
  show br (aK d (setAt hp i x)) k=_
  rw[dZ h.2,FE h.1]
theorem D7 (hp:Hp) (k:Nat):kd hp k=(br hp k).map Item.kd:=by
 unfold kd br
 cases hp[k]? with
 |none=>rfl
 |some x=>cases x<;>rfl
theorem VH {d:List (Nat×Item)} {hp:Hp} {k:Nat} (h:k∉d.map (·.1)):kd (aK d hp) k=kd hp k:=by rw[D7,D7,dZ h]
theorem o8: ∀ {d:List (Nat×Item)} {hp:Hp} {k:Nat},kd (aK d hp) k=none→kd hp k=none
 | [],_,_,h=>h
 |(i,x)::d,hp,k,h=>by
  have:=o8 (d:=d) (hp:=setAt hp i x) h
  rw[dn] at this
  split at this
  ·cases this
  ·exact this
theorem sk: ∀ (hp:Hp) (i j:Nat) (a b:Item),i≠j→setAt (setAt hp i a) j b=setAt (setAt hp j b) i a
 | [],0,0,_,_,h=>absurd rfl h
 | [],0,j+1,a,b,_=>by simp[setAt]
 | [],i+1,0,a,b,_=>by simp[setAt]
 | [],i+1,j+1,a,b,h=>by simp only[setAt];rw[sk [] i j a b (by omega)]
 |_::_,0,0,_,_,h=>absurd rfl h
 |_::_,0,j+1,_,_,_=>by simp[setAt]
 |_::_,i+1,0,_,_,_=>by simp[setAt]
 |_::l,i+1,j+1,a,b,h=>by simp only[setAt];rw[sk l i j a b (by omega)]
theorem tC: ∀ (d:List (Nat×Item)) (hp:Hp) (i:Nat) (x:Item),i∉d.map (·.1)→aK d (setAt hp i x)=setAt (aK d hp) i x
 | [],_,_,_,_=>rfl
 |(j,y)::d,hp,i,x,h=>by
  simp only[List.map_cons,List.mem_cons,not_or] at h
  show aK d (setAt (setAt hp i x) j y)=setAt (aK d (setAt hp j y)) i x
  rw[sk _ _ _ _ _ h.1,tC d _ _ _ h.2]
theorem yO: ∀ (d d2:List (Nat×Item)) (hp:Hp),(∀ k∈d.map (·.1),k∉d2.map (·.1))→aK d2 (aK d hp)=aK d (aK d2 hp)
 | [],_,_,_=>rfl
 |(i,x)::d,d2,hp,h=>by
  show aK d2 (aK d (setAt hp i x))=aK d (setAt (aK d2 hp) i x)
  rw[yO d d2 (setAt hp i x) fun k hk=>h k (by simp[List.map_cons];exact .inr (by simpa using hk)),tC d2 _ _ _ (h i (by simp))]
def aq5 (f:FX) (a:Ask Out):Prop:= ∀ h,(f.re h).2=a.log h∧ ∀ v',(f.re h).1= .leaf none v' []→ ∃ q',a.val h= .leaf q' v' []∧eH q'
theorem yP: ∀ {d:List (Nat×Item)} {hp hp2:Hp} {k:Nat},k∈d.map (·.1)→br (aK d hp) k=br (aK d hp2) k
 |(i,x)::d,hp,hp2,k,h=>by
  show br (aK d (setAt hp i x)) k=br (aK d (setAt hp2 i x)) k
  by_cases hk:k∈d.map (·.1)
  ·exact yP hk
  ·have e:k=i:=by simpa [hk] using h
   subst e
   rw[dZ hk,dZ hk,qo (du _ _ _),qo (du _ _ _)]
def tD (P:Program) (G:AU) (ops:Array Oper) (ids:Nat→Nat) (fp:Nat→FP) (i:Nat) (st qC:St):Prop:=
 ∃ o b,ops[i]? =some o∧dH st ops o=some b∧
  ((b.val=true∧ ∃ q v d g f,(gU P G g (ids i) (ev st) o.op).val st.hp= .leaf q v d∧eH q∧(fp i=some f∧f.r=(gU P G g (ids i) (ev st) o.op).log st.hp∧f.d=d∧f.v=v∧aq5 f (gU P G g (ids i) (ev st) o.op))∧SZ (ids i) st.hp d∧qC=put st o.dst v (aK d st.hp))∨
   (b.val=false∧fp i=none∧qC=put st o.dst (.cV []) st.hp))
def Np:FP→FP→Bool
 |some f1,some f2=>f1.w.all (fun k=> !(f2.r.contains k)&& !(f2.w.contains k))&&f2.w.all fun k=> !(f1.r.contains k)
 |_,_=>true
def ZU (fj fi:FP):Prop:= ∃ a b,fj=some a∧fi=some b∧a.d= []∧(∀ k∈a.r,k∈b.w)∧a.re (aK b.d [])=(.leaf none a.v [],a.r)
theorem dM {st:St} {dst:Option Tmp} {v:LV} {hp:Hp}:(put st dst v hp).hp=hp:=by cases dst<;>rfl
section
variable {P:Program} {G:AU} {ops:Array Oper} {ids:Nat→Nat} {fp:Nat→FP}
theorem VI {i j:Nat} {oi oj:Oper} (AZ:ops[i]? =some oi) (FF:ops[j]? =some oj) (hap:oj.apart ops oi=true) (Nq:Np (fp j) (fp i)=true∨ZU (fp j) (fp i))
  {st s1 s2:St} (h1:tD P G ops ids fp j st s1) (h2:tD P G ops ids fp i s1 s2): ∃ s1',tD P G ops ids fp i st s1'∧tD P G ops ids fp j s1' s2:=by
 obtain ⟨a1,a2,a3⟩:=Oper.apart_spec hap
 obtain ⟨o,bj,ho,hwj,h1⟩:=h1
 rw[FF] at ho;simp at ho;subst ho
 obtain ⟨o,bi,ho,hwi,h2⟩:=h2
 rw[AZ] at ho;simp at ho;subst ho
 rcases h1 with ⟨hbj,qj,vj,dj,gj,Fj,ej,nj,⟨fj,fj1,fj2,fj3,fj4⟩,rj,rfl⟩|⟨hbj,fj,rfl⟩
 ·rw[eV a1] at hwi
  have evi: ∀ x∈oi.op.operands,ev (put st oj.dst vj (aK dj st.hp)) x=ev st x:=mr a1
  rcases h2 with ⟨hbi,qi,vi,di,gi,Fi,ei,ni,⟨fi,fi1,fi2,fi3,fi4⟩,ri,rfl⟩|⟨hbi,fi,rfl⟩
  ·rw[cX evi,dM] at ei fi1
   rw[cX evi] at fi4
   rw[dM] at ri
   have evj: ∀ x∈oj.op.operands,ev (put st oi.dst vi (aK di st.hp)) x=ev st x:=mr a3
   rw[fj,fi] at Nq
   rcases Nq with Nq|aq9
   ·simp only[Np,FX.w,Bool.and_eq_true,List.all_eq_true,Bool.not_eq_true',List.contains_eq_mem,decide_eq_false_iff_not,fj1,fj2,fi1,fi2] at Nq
    obtain ⟨d1,d2⟩:=Nq
    have hli: ∀ k∈(gU P G gi (ids i) (ev st) oi.op).log (aK dj st.hp),br st.hp k=br (aK dj st.hp) k:=fun k hk=>(dZ fun hm=>(d1 k hm).1 hk).symm
    obtain ⟨k1,k2⟩:=Ask.Fo _ hli
    have hlj: ∀ k∈(gU P G gj (ids j) (ev st) oj.op).log st.hp,br (aK di st.hp) k=br st.hp k:=fun k hk=>dZ fun hm=>d2 k hm hk
    obtain ⟨k3,k4⟩:=Ask.Fo _ hlj
    refine ⟨put st oi.dst vi (aK di st.hp),⟨oi,bi,AZ,hwi,.inl ⟨hbi,qi,vi,di,gi,Fi,by rw[k1];exact ei,ni,⟨fi,by rw[k2];exact fi1,fi2,fi3,fi4⟩,fun k x hk hle=>o8 (ri k x hk hle),rfl⟩⟩,
     ⟨oj,bj,FF,by rw[eV a3];exact hwj,.inl ⟨hbj,qj,vj,dj,gj,Fj,by rw[cX evj,dM,k3];exact ej,nj,⟨fj,by rw[cX evj,dM,k4];exact fj1,fj2,fj3,by rw[cX evj];exact fj4⟩,?_,?_⟩⟩⟩
    ·intro k x hk hle
     rw[dM,VH (fun hm=>(d1 k (List.mem_map.2 ⟨_,hk,rfl⟩)).2 hm)]
     exact rj k x hk hle
    ·rw[dM,dM,yO dj di st.hp (fun k hk=>(d1 k hk).2)]
     exact put_comm st vj vi _ _ _ a2
   ·obtain ⟨a,b,e1,e2,h3,h4,h5⟩:=aq9
    simp at e1 e2;subst e1 e2
    rw[fj2] at h3;subst h3
    simp only[FX.w,fi2] at h4 h5
    rw[fj3] at h5
    obtain ⟨m1,m2⟩:=fj4 (aK di [])
    rw[h5] at m1 m2
    obtain ⟨q',m3,m4⟩:=m2 vj rfl
    simp only at m1
    have avk: ∀ k∈(gU P G gj (ids j) (ev st) oj.op).log (aK di []),br (aK di st.hp) k=br (aK di []) k:=fun k hk=>yP (h4 k (by rw[m1];exact hk))
    obtain ⟨k3,k4⟩:=Ask.Fo _ avk
    refine ⟨put st oi.dst vi (aK di st.hp),⟨oi,bi,AZ,hwi,.inl ⟨hbi,qi,vi,di,gi,Fi,ei,ni,⟨fi,fi1,fi2,fi3,fi4⟩,ri,rfl⟩⟩,
     ⟨oj,bj,FF,by rw[eV a3];exact hwj,.inl ⟨hbj,q',vj,[],gj,Fj,by rw[cX evj,dM,k3];exact m3,m4,⟨fj,by rw[cX evj,dM,k4];exact m1,fj2,fj3,by rw[cX evj];exact fj4⟩,fun k x hk=>(by cases hk),?_⟩⟩⟩
    rw[dM,dM]
    exact put_comm st vj vi _ _ _ a2
  ·refine ⟨put st oi.dst (.cV []) st.hp,⟨oi,bi,AZ,hwi,.inr ⟨hbi,fi,rfl⟩⟩,⟨oj,bj,FF,by rw[eV a3];exact hwj,.inl ⟨hbj,qj,vj,dj,gj,Fj,?_,nj,⟨fj,?_,fj2,fj3,?_⟩,?_,?_⟩⟩⟩
   ·rw[cX (mr a3),dM];exact ej
   ·rw[cX (mr a3),dM];exact fj1
   ·rw[cX (mr a3)];exact fj4
   ·rw[dM];exact rj
   ·rw[dM,dM];exact put_comm st vj _ _ _ _ a2
 ·rw[eV a1] at hwi
  have evi: ∀ x∈oi.op.operands,ev (put st oj.dst (.cV []) st.hp) x=ev st x:=mr a1
  rcases h2 with ⟨hbi,qi,vi,di,gi,Fi,ei,ni,⟨fi,fi1,fi2,fi3,fi4⟩,ri,rfl⟩|⟨hbi,fi,rfl⟩
  ·rw[cX evi,dM] at ei fi1
   rw[cX evi] at fi4
   rw[dM] at ri
   refine ⟨put st oi.dst vi (aK di st.hp),⟨oi,bi,AZ,hwi,.inl ⟨hbi,qi,vi,di,gi,Fi,ei,ni,⟨fi,fi1,fi2,fi3,fi4⟩,ri,rfl⟩⟩,⟨oj,bj,FF,by rw[eV a3];exact hwj,.inr ⟨hbj,fj,?_⟩⟩⟩
   rw[dM,dM];exact put_comm st _ vi _ _ _ a2
  ·refine ⟨put st oi.dst (.cV []) st.hp,⟨oi,bi,AZ,hwi,.inr ⟨hbi,fi,rfl⟩⟩,⟨oj,bj,FF,by rw[eV a3];exact hwj,.inr ⟨hbj,fj,?_⟩⟩⟩
   rw[dM,dM];exact put_comm st _ _ _ _ _ a2
end
inductive tE (P:Program) (G:AU) (ops:Array Oper) (ids:Nat→Nat) (fp:Nat→FP):List Nat→St→St→Prop where
 |nil {st}:tE P G ops ids fp [] st st
 |cons {i l st s s'} (h:tD P G ops ids fp i st s) (t:tE P G ops ids fp l s s'):tE P G ops ids fp (i::l) st s'
def mw (acc:List Nat) (o:Oper):Nat:=
 o.after.toList.foldr (fun e s=>if Region.binds .any e then s|||2 ^ e.on|||acc.getD e.on 0 else s) 0
def tF:List Oper→List Nat→List Nat
 | [],acc=>acc
 |o::l,acc=>tF l (acc++ [mw acc o])
theorem DJ {acc:List Nat} {o:Oper} {j:Nat} (h:Nat.testBit (mw acc o) j=true):
  ∃ e∈o.after,Region.binds .any e=true∧(e.on=j∨Nat.testBit (acc.getD e.on 0) j=true):=by
 unfold mw at h
 have key: ∀ l:List Edge,Nat.testBit (l.foldr (fun e s=>if Region.binds .any e then s|||2 ^ e.on|||acc.getD e.on 0 else s) 0) j=true→
   ∃ e∈l,Region.binds .any e=true∧(e.on=j∨Nat.testBit (acc.getD e.on 0) j=true):=by
  intro l
  induction l with
  |nil=>intro h;simp at h
  |cons e l ih=>
   intro h
   simp only[List.foldr_cons] at h
   split at h
   ·rename_i hb
    simp only[Nat.testBit_or,Bool.or_eq_true,Nat.testBit_two_pow,decide_eq_true_eq] at h
    rcases h with (h|h)|h
    ·obtain ⟨e',h1,h2⟩:=ih h;exact ⟨e',by simp[h1],h2⟩
    ·exact ⟨e,by simp,hb,.inl h⟩
    ·exact ⟨e,by simp,hb,.inr h⟩
   ·obtain ⟨e',h1,h2⟩:=ih h;exact ⟨e',by simp[h1],h2⟩
 obtain ⟨e,h1,h2⟩:=key _ h
 exact ⟨e,by simpa using h1,h2⟩
def tG:List Oper→Nat→Bool
 | [],_=>true
 |o::l,n=>(o.after.all fun e=> !Region.binds .any e||decide (e.on<n))&&tG l (n+1)
def Nr (ops:Array Oper) (oj oi:Oper) (bit:Bool) (fj fi:FP):Option (List Prop):=
 if bit||(oj.apart ops oi&&Np fj fi) then some []
 else if oj.apart ops oi then match fj,fi with
  |some a,some b=>if a.d.isEmpty&&a.r.all (fun k=>b.w.contains k) then some [a.re (aK b.d [])=(.leaf none a.v [],a.r)] else none
  |_,_=>none
 else none
def anr:List Prop→Prop
 | []=>True
 | [p]=>p
 |p::l=>p∧anr l
theorem Jz: ∀ {l:List Prop} {p:Prop},anr l→p∈l→p
 | [x],p,h,hp=>by
  rcases List.mem_cons.1 hp with rfl|hp
  ·exact h
  ·cases hp
 |x::y::l,p,h,hp=>by
  rcases List.mem_cons.1 hp with rfl|hp
  ·exact h.1
  ·exact Jz (l:=y::l) h.2 hp
theorem JA {ops:Array Oper} {oj oi:Oper} {bit:Bool} {fj fi:FP} {l:List Prop} (h:Nr ops oj oi bit fj fi=some l) (hp: ∀ p∈l,p):bit=true∨(oj.apart ops oi=true∧(Np fj fi=true∨ZU fj fi)):=by
 unfold Nr at h
 split at h
 ·rename_i hc
  simp only[Bool.or_eq_true,Bool.and_eq_true] at hc
  exact hc.imp id fun hc=>⟨hc.1,.inl hc.2⟩
 ·split at h
  ·rename_i ha
   split at h
   ·rename_i a b _
    split at h
    ·rename_i hc
     simp only[Bool.and_eq_true,List.all_eq_true,List.contains_eq_mem,decide_eq_true_eq,List.isEmpty_iff] at hc
     cases h
     exact .inr ⟨ha,.inr ⟨a,b,rfl,rfl,hc.1,hc.2,hp _ (List.mem_cons_self ..)⟩⟩
    ·cases h
   ·cases h
  ·cases h
def zq (ops:Array Oper) (oi:Oper) (mask:Nat) (fi:FP):List Oper→List FP→Nat→Option (List Prop)
 | [],_,_=>some []
 |oj::l,fs,j=>match Nr ops oj oi (Nat.testBit mask j) (fs.headD none) fi with
  |some a=>match zq ops oi mask fi l fs.tail (j+1) with
   |some b=>some (a++b)
   |none=>none
  |none=>none
def o9 (ops:Array Oper) (ms:List Nat) (fs:List FP):List Oper→Nat→Option (List Prop)
 | [],_=>some []
 |o::l,i=>match zq ops o (ms.getD i 0) (fs.getD i none) (ops.toList.take i) fs 0 with
  |some a=>match o9 ops ms fs l (i+1) with
   |some b=>some (a++b)
   |none=>none
  |none=>none
structure ans (ops:Array Oper) (M:Nat→Nat) (fp:Nat→FP) (i:Nat) (o:Oper):Prop where
 early: ∀ e∈o.after,Region.binds .any e=true→e.on<i
 ara: ∀ j oj,j<i→ops[j]? =some oj→Nat.testBit (M i) j=true∨(oj.apart ops o=true∧(Np (fp j) (fp i)=true∨ZU (fp j) (fp i)))
 waits: ∀ j,Nat.testBit (M i) j=true→ ∃ e∈o.after,Region.binds .any e=true∧(e.on=j∨Nat.testBit (M e.on) j=true)
theorem tH {ops:Array Oper} {oi:Oper} {mask:Nat} {fi:FP}: ∀ (l:List Oper) (fs:List FP) (k:Nat) {ps:List Prop},zq ops oi mask fi l fs k=some ps→(∀ p∈ps,p)→ ∀ j oj,l[j]? =some oj→Nat.testBit mask (k+j)=true∨(oj.apart ops oi=true∧(Np (fs.getD j none) fi=true∨ZU (fs.getD j none) fi))
 | [],_,_,_,_,_,j,oj,hj=>by simp at hj
 |o::l,fs,k,ps,h,hp,j,oj,hj=>by
  simp only[zq] at h
  split at h
  ·rename_i a ha
   split at h
   ·rename_i b hb
    cases h
    cases j with
    |zero=>
     simp at hj;subst hj
     have e:fs.headD none=fs.getD 0 none:=by cases fs<;>rfl
     rw[← e]
     exact JA ha fun p hm=>hp p (by simp[hm])
    |succ j=>
     have:=tH l fs.tail (k+1) hb (fun p hm=>hp p (by simp[hm])) j oj (by simpa using hj)
     have e:fs.tail.getD j none=fs.getD (j+1) none:=by cases fs<;>simp[List.getD]
     rw[e] at this
     rwa [show k+1+j=k+(j+1) by omega] at this
   ·cases h
  ·cases h
theorem rQ {ops:Array Oper} {ms:List Nat} {fs:List FP}: ∀ (l:List Oper) (k:Nat) {ps:List Prop},(∀ j,l[j]? =ops[k+j]?)→o9 ops ms fs l k=some ps→(∀ p∈ps,p)→ ∀ i o,k≤i→ops[i]? =some o→ ∀ j oj,j<i→ops[j]? =some oj→Nat.testBit (ms.getD i 0) j=true∨(oj.apart ops o=true∧(Np (fs.getD j none) (fs.getD i none)=true∨ZU (fs.getD j none) (fs.getD i none)))
 | [],k,_,hl,_,_,i,o,hi,ho,_,_,_,_=>by
  have:=hl (i-k)
  rw[show k+(i-k)=i by omega,ho] at this
  simp at this
 |x::l,k,ps,hl,h,hp,i,o,hi,ho,j,oj,hj,FF=>by
  simp only[o9] at h
  split at h
  ·rename_i a ha
   split at h
   ·rename_i b hb
    cases h
    by_cases e:i=k
    ·subst e
     have hx:o=x:=by
      have:=hl 0
      rw[Nat.add_zero,ho] at this
      simpa using this.symm
     subst hx
     have:=tH _ _ 0 ha (fun p hm=>hp p (by simp[hm])) j oj (by rw[List.getElem?_take];simp[hj,FF])
     rwa [Nat.zero_add] at this
    ·exact rQ l (k+1) (fun j=>by have:=hl (j+1);simpa [Nat.add_assoc,Nat.add_comm 1 j] using this) hb (fun p hm=>hp p (by simp[hm])) i o (by omega) ho j oj hj FF
   ·cases h
  ·cases h
theorem A0 {ops:Array Oper}: ∀ (l before:List Oper) (acc:List Nat),before++l=ops.toList→acc.length=before.length→tG l before.length=true→
  (∀ M:Nat→Nat,(∀ i,M i=(tF l acc).getD i 0)→ ∀ i o,before.length≤i→ops[i]? =some o→(∀ e∈o.after,Region.binds .any e=true→e.on<i)∧
   (∀ j,Nat.testBit (M i) j=true→ ∃ e∈o.after,Region.binds .any e=true∧(e.on=j∨Nat.testBit (M e.on) j=true)))∧(∀ i,i<acc.length→(tF l acc).getD i 0=acc.getD i 0)
 | [],before,acc,hb,ha,_=>by
  have hs:before.length=ops.size:=by
   have:=congrArg List.length hb;simpa using this
  refine ⟨fun M hM i o hi ho=>?_,fun _ _=>rfl⟩
  have:=(Array.getElem?_eq_some_iff.1 ho).1;omega
 |o::l,before,acc,hb,ha,h=>by
  simp only[tG,Bool.and_eq_true] at h
  obtain ⟨h1,h4⟩:=h
  obtain ⟨i1,i3⟩:=A0 l (before++ [o]) (acc++ [mw acc o]) (by simpa using hb) (by simp[ha]) (by simpa using h4)
  have hmk:tF (o::l) acc=tF l (acc++ [mw acc o]):=rfl
  have arb: ∀ i,i<acc.length→(tF (o::l) acc).getD i 0=acc.getD i 0:=fun i hi=>by
   rw[hmk,i3 i (by simp;omega)]
   simp only[List.getD_eq_getElem?_getD]
   rw[List.getElem?_append_left hi]
  refine ⟨fun M hM i oi hi ho=>?_,arb⟩
  by_cases hie:i=before.length
  ·subst hie
   have hoo:oi=o:=by
    have e:ops.toList[before.length]? =some oi:=by simpa using ho
    rw[← hb] at e
    simp at e;exact e.symm
   subst hoo
   have hMi:M before.length=mw acc oi:=by
    rw[hM,hmk,i3 _ (by simp[ha])]
    simp only[List.getD_eq_getElem?_getD]
    rw[← ha];simp
   have ZV: ∀ e∈oi.after,Region.binds .any e=true→e.on<before.length:=by
    intro e he S1
    have:=Array.all_eq_true'.1 h1 e he
    simpa [S1] using this
   refine ⟨ZV,fun j hj=>?_⟩
   rw[hMi] at hj
   obtain ⟨e,he,S1,hor⟩:=DJ hj
   refine ⟨e,he,S1,hor.imp id fun ht=>?_⟩
   rw[hM,arb _ (by rw[ha];exact ZV e he S1)]
   exact ht
  ·exact i1 M (fun i=>hM i) i oi (by simp;omega) ho
section
variable {P:Program} {G:AU} {ops:Array Oper} {ids:Nat→Nat} {M:Nat→Nat} {fp:Nat→FP}
theorem A1 (hM: ∀ i o,ops[i]? =some o→ans ops M fp i o) {i:Nat} {oi:Oper} (AZ:ops[i]? =some oi):
  ∀ (l1 l2:List Nat) (st sf:St),(∀ j∈l1,j<i∧Nat.testBit (M i) j=false)→tE P G ops ids fp (l1++i::l2) st sf→ ∃ s,tD P G ops ids fp i st s∧tE P G ops ids fp (l1++l2) s sf
 | [],l2,st,sf,_,h=>by
  cases h with
  |cons h t=>exact ⟨_,h,t⟩
 |j::l1,l2,st,sf,hl,h=>by
  cases h with
  |cons h t=>
   rename_i s
   obtain ⟨s1,h1,h2⟩:=A1 hM AZ l1 l2 s sf (fun k hk=>hl k (by simp[hk])) t
   obtain ⟨hji,VJ⟩:=hl j (by simp)
   have avm:=h
   obtain ⟨oj,_,FF,_⟩:=avm
   have hp:=((hM i oi AZ).ara j oj hji FF).resolve_left (by rw[VJ];simp)
   obtain ⟨s1',k1,k2⟩:=VI AZ FF hp.1 hp.2 h h1
   exact ⟨s1',k1,.cons k2 h2⟩
theorem ZW (hG:GOk P G) {i:Nat} {st s:St} (h:tD P G ops ids fp i st s) {W:World} {al:Hp} {β₀ β:Env} {a:Act} {w:World} (hr:Rel W al β₀ β st a w)
  {K:Act→World→Prop} {Q:Exit→Act→World→Prop} (hK: ∀ β' a' w',Rel W al β₀ β' s a' w'→K a' w'):wpOp P ops Q i K a w:=by
 obtain ⟨o,b,ho,hw,h⟩:=h
 unfold wpOp
 simp only[ho,yN hr hw]
 rcases h with ⟨hb,q,v,d,g,_,e,hq,_,hf,rfl⟩|⟨hb,_,rfl⟩
 ·rw[if_pos hb]
  exact .inl (Jw hG (K:=fun v' d'=>v'=v∧d'=d) (by rw[e];exact hf) (by rw[e];exact ⟨hq,rfl,rfl⟩) hr fun v' d' β' a' w' hk qB=>by
   obtain ⟨rfl,rfl⟩:=hk
   exact hK β' a' w' qB)
 ·rw[if_neg (by rw[hb];simp)]
  exact hK β _ w (hr.put (dst:=o.dst) ⟨[],rfl,.nil⟩ hr.heap (bU.refl _ _))
def cH (ops:Array Oper) (cU:Array Bool):List Nat:=(List.range ops.size).filter fun i=> !cU.getD i true
theorem DK (hG:GOk P G) (hM: ∀ i o,ops[i]? =some o→ans ops M fp i o)
  {W:World} {al:Hp} {β₀:Env} {Q:Exit→Act→World→Prop} {sf:St} (hQ: ∀ β a w,Rel W al β₀ β sf a w→Q .normal a w):
  ∀ (fuel:Nat) (cU:Array Bool) (st:St) (β:Env) (a:Act) (w:World),cU.size=ops.size→(cH ops cU).length=fuel→
   (∀ j oj,ops[j]? =some oj→cU.getD j false=true→ ∀ e∈oj.after,Region.binds .any e=true→cU.getD e.on false=true)→
   tE P G ops ids fp (cH ops cU) st sf→Rel W al β₀ β st a w→wpAny P .any ops Q fuel cU a w:=by
 intro fuel
 induction fuel with
 |zero=>
  intro cU st β a w ZB hlen FG hex hr
  have h0:cH ops cU= []:=List.eq_nil_of_length_eq_zero hlen
  rw[h0] at hex
  cases hex
  refine ⟨?_,hQ β a w hr⟩
  refine List.eq_nil_iff_forall_not_mem.2 fun i hi=>?_
  have:i∈cH ops cU:=by
   simp only[Region.ready,List.mem_filter,Bool.and_eq_true] at hi
   simp only[cH,List.mem_filter]
   exact ⟨hi.1,hi.2.1⟩
  rw[h0] at this;cases this
 |succ fuel ih=>
  intro cU st β a w ZB hlen FG hex hr
  constructor
  ·intro oY
   exfalso
   cases hu:cH ops cU with
   |nil=>rw[hu] at hlen;simp at hlen
   |cons i l=>
    have DL:i∈cH ops cU:=by rw[hu];simp
    have hi:i<ops.size∧(!cU.getD i true)=true:=by
     simpa [cH] using DL
    have Ns: ∀ j,j<i→cU.getD j true=true:=by
     intro j hj
     refine Classical.byContradiction fun rO=>?_
     have VK:j∈cH ops cU:=by
      simp only[cH,List.mem_filter,List.mem_range]
      exact ⟨by omega,by simpa using rO⟩
     have hpw:(cH ops cU).Pairwise (· < ·):=(List.pairwise_lt_range (n:=ops.size)).filter _
     rw[hu] at hpw VK
     rcases List.mem_cons.1 VK with rfl|VK
     ·omega
     ·have:=List.rel_of_pairwise_cons hpw VK;omega
    have qB:i∈Region.ready .any ops cU:=by
     rw[mem_ready]
     obtain ⟨oi,AZ⟩: ∃ oi,ops[i]? =some oi:=⟨ops[i]'hi.1,by simp[hi.1]⟩
     refine ⟨by simpa using hi.2,oi,AZ,fun e he hb=>?_⟩
     have fq:=(hM i oi AZ).early e he hb
     have h1:=Ns e.on fq
     have:e.on<cU.size:=by omega
     simp[this] at h1 ⊢
     exact h1
    rw[oY] at qB;cases qB
  ·intro i hi
   obtain ⟨hun,oi,AZ,zb⟩:=mem_ready.1 hi
   have avn:i<ops.size:=(Array.getElem?_eq_some_iff.1 AZ).1
   have ard:i∈cH ops cU:=by
    simp only[cH,List.mem_filter,List.mem_range]
    exact ⟨avn,by simpa using hun⟩
   obtain ⟨l1,l2,hl⟩:=List.append_of_mem ard
   have hpw:(cH ops cU).Pairwise (· < ·):=(List.pairwise_lt_range (n:=ops.size)).filter _
   rw[hl] at hpw hex
   obtain ⟨p1,p2,p3⟩:=List.pairwise_append.1 hpw
   have are: ∀ j,cU.getD j false=false→ ∀ i oi,ops[i]? =some oi→(∀ e∈oi.after,Region.binds .any e=true→cU.getD e.on false=true)→Nat.testBit (M i) j=false:=by
    intro j hj i
    induction i using Nat.strongRecOn with
    |_ i ih2=>
     intro oi AZ zb
     refine Bool.eq_false_iff.2 fun ht=>?_
     obtain ⟨e,he,hb,hor⟩:=(hM i oi AZ).waits j ht
     have hle:=zb e he hb
     rcases hor with rfl|ht'
     ·rw[hj] at hle;cases hle
     ·have fq:=(hM i oi AZ).early e he hb
      obtain ⟨oe,hoe⟩: ∃ oe,ops[e.on]? =some oe:=⟨ops[e.on]'(by have:=(Array.getElem?_eq_some_iff.1 AZ).1;omega),by
       have:=(Array.getElem?_eq_some_iff.1 AZ).1
       simp[show e.on<ops.size by omega]⟩
      have:=ih2 e.on fq oe hoe (FG e.on oe hoe hle)
      rw[this] at ht';cases ht'
   have hl1: ∀ j∈l1,j<i∧Nat.testBit (M i) j=false:=by
    intro j hj
    refine ⟨p3 j hj i (by simp),are j ?_ i oi AZ zb⟩
    have VK:j∈cH ops cU:=by rw[hl];simp[hj]
    simp only[cH,List.mem_filter,List.mem_range] at VK
    have:j<cU.size:=by omega
    simp[this] at VK ⊢
    exact VK.2
   obtain ⟨s,h1,h2⟩:=A1 hM AZ l1 l2 st sf hl1 hex
   refine ZW hG h1 hr fun β' a' w' qB=>?_
   have Dy:cH ops (cU.setIfInBounds i true)=l1++l2:=by
    have e1:cH ops (cU.setIfInBounds i true)=(cH ops cU).filter (fun k=>k !=i):=by
     unfold cH
     rw[List.filter_filter]
     apply List.filter_congr
     intro k hk
     have oq:k<ops.size:=List.mem_range.1 hk
     by_cases Zf:k=i
     ·subst Zf
      simp[Array.getD_eq_getD_getElem?,ZB,oq]
     ·rw[getD_set_ne true (Ne.symm Zf)]
      simp[Zf]
    rw[e1,hl,List.filter_append]
    have f1:l1.filter (fun k=>k !=i)=l1:=List.filter_eq_self.2 fun k hk=>by have:=(hl1 k hk).1;simp;omega
    have f2:(i::l2).filter (fun k=>k !=i)=l2:=by
     rw[List.filter_cons]
     simp only[bne_self_eq_false,Bool.false_eq_true,if_false]
     exact List.filter_eq_self.2 fun k hk=>by
      have:=List.rel_of_pairwise_cons p2 hk;simp;omega
    rw[f1,f2]
   refine ih (cU.setIfInBounds i true) s β' a' w' (by simpa using ZB) ?_ ?_ (by rw[Dy];exact h2) qB
   ·rw[Dy]
    have:(cH ops cU).length=(l1++i::l2).length:=by rw[hl]
    simp at this ⊢
    omega
   ·intro j oj FF hlj e he hb
    by_cases hji:j=i
    ·subst hji
     rw[AZ] at FF;simp at FF;subst FF
     exact getD_set_true (zb e he hb)
    ·rw[getD_set_ne false (Ne.symm hji)] at hlj
     exact getD_set_true (FG j oj FF hlj e he hb)
end
def zr (ops:Array Oper) (fs:List FP):Option (Option Prop):=match o9 ops (tF ops.toList []) fs ops.toList 0 with
 |some []=>some none
 |some l=>some (some (anr l))
 |none=>none
theorem FH {ops:Array Oper} {fs:List FP} {q:Option Prop} (h:zr ops fs=some q) (hq:eH q): ∃ l,o9 ops (tF ops.toList []) fs ops.toList 0=some l∧ ∀ p∈l,p:=by
 unfold zr at h
 split at h
 ·rename_i h1;exact ⟨[],h1,fun p hp=>by cases hp⟩
 ·rename_i l _ h1
  cases h
  exact ⟨l,h1,fun p hp=>Jz hq hp⟩
 ·cases h
def FI (P:Program) (G:AU) (ops:Array Oper) (D6:List FP→Option (Option Prop)) (W:World) (m:Hp) (β₀:Env) (R:Exit→St→Prop) (acc:List FP) (k n:Nat) (st:St):Prop:=
 ∃ (ids:Nat→Nat) (fs:List FP) (sf:St),fs.length=n∧tE P G ops ids (fun i=>fs.getD (i-k) none) (List.range' k n) st sf∧(∃ q,D6 (acc++fs)=some q∧eH q)∧(∀ β a w,Rel W m β₀ β sf a w→oG W m β₀ R .normal a w)
theorem yQ {P:Program} {G:AU} {A:Alt} {m:Hp} {D6:List FP→Option (Option Prop)} {ops:Array Oper} {W:World} {β₀:Env}:
  ∀ (l:List Oper) (k:Nat) (B:AV) (acc:List FP) (st:St) (R:Exit→St→Prop),(∀ j,l[j]? =ops[k+j]?)→ki B st→(iI P G A m true D6 ops l B acc st).sat R→
   FI P G ops D6 W m β₀ R acc k l.length st
 | [],k,B,acc,st,R,_,_,h=>by
  simp only[iI] at h
  split at h
  ·rename_i q hc
   exact ⟨fun _=>0,[],st,rfl,.nil,⟨q,by simpa using hc,(j7 h).1⟩,fun β a w hr=>⟨st,β,(j7 h).2,hr⟩⟩
  ·exact h.elim
 |o::rest,k,B,acc,st,R,hl,hB,h=>by
  have h0:ops[k]? =some o:=by simpa using (hl 0).symm
  have hl': ∀ j,rest[j]? =ops[k+1+j]? :=fun j=>by
   have:=hl (j+1)
   simpa [Nat.add_assoc,Nat.add_comm 1 j] using this
  have build: ∀ (s:St) (f:FP),(∀ ids fp,ids k=st.hp.length→fp k=f→tD P G ops ids fp k st s)→
    ∀ (B:AV) (R':Exit→St→Prop),ki B s→(iI P G A m true D6 ops rest B (acc++ [f]) s).sat R'→(∀ e a w,oG W m β₀ R' e a w→oG W m β₀ R e a w)→
    FI P G ops D6 W m β₀ R acc k (o::rest).length st:=by
   intro s f JB B R' hB hs hR
   obtain ⟨ids,fs,sf,e0,e1,e2,e3⟩:=yQ rest (k+1) B (acc++ [f]) s R' hl' hB hs
   refine ⟨fun i=>if i=k then st.hp.length else ids i,f::fs,sf,by simp[e0],?_,by simpa using e2,fun β a w hr=>hR _ _ _ (e3 β a w hr)⟩
   simp only[List.length_cons,List.range'_succ]
   refine .cons (JB _ _ (if_pos rfl) (by simp)) ?_
   have key: ∀ (l:List Nat) (x y:St),(∀ i∈l,k+1≤i)→tE P G ops ids (fun i=>fs.getD (i-(k+1)) none) l x y→tE P G ops (fun i=>if i=k then st.hp.length else ids i) (fun i=>(f::fs).getD (i-k) none) l x y:=by
    intro l x y gk hx
    induction hx with
    |nil=>exact .nil
    |cons h t ih=>
     rename_i i l s1 s2 s3
     refine .cons ?_ (ih fun i hi=>gk i (by simp[hi]))
     have hik:=gk i (by simp)
     unfold tD at h ⊢
     have e1:(f::fs).getD (i-k) none=fs.getD (i-(k+1)) none:=by
      rw[show i-k=(i-(k+1))+1 by omega];rfl
     have e2:(fun i=>if i=k then st.hp.length else ids i) i=ids i:=if_neg (by omega)
     simp only[e2,e1]
     exact h
   exact key _ _ _ (fun i hi=>by have:=List.mem_range'_1.1 hi;omega) e1
  have dY: ∀ (b:SB),dH st ops o=some b→b.val=true→ ∀ (B:AV) (R':Exit→St→Prop),ki B st→(((mq P G B st.hp.length (ev st) o.op).val st.hp).rP true fun v d=>
    iI P G A m true D6 ops rest (forget B o.dst) (acc++ [VF (mq P G B st.hp.length (ev st) o.op) st.hp v d]) (put st o.dst v (aK d st.hp))).sat R'→(∀ e a w,oG W m β₀ R' e a w→oG W m β₀ R e a w)→FI P G ops D6 W m β₀ R acc k (o::rest).length st:=by
   intro b hb hbv B R' hB hs hR
   obtain ⟨q,v,d,hst,n1,n2⟩:=Nn hs
   have hH: ∃ q',(gU P G (np B o.op) st.hp.length (ev st) o.op).val st.hp= .leaf q' v d∧eH q'∧(gU P G (np B o.op) st.hp.length (ev st) o.op).log st.hp=(mq P G B st.hp.length (ev st) o.op).log st.hp∧
     ∀ f:FX,VF (mq P G B st.hp.length (ev st) o.op) st.hp v d=some f→aq5 f (gU P G (np B o.op) st.hp.length (ev st) o.op):=by
    rcases S0 (P:=P) (G:=G) (id:=st.hp.length) (op:=o.op) hB with e|⟨v',p,e1,e2,hp⟩
    ·rw[← e]
     refine ⟨q,hst,n1,rfl,fun f hf h=>?_⟩
     simp only[VF,Option.some.injEq] at hf
     subst hf
     exact ⟨rfl,fun v' hv=>⟨none,hv,trivial⟩⟩
    ·rw[e1] at hst
     simp only[Ask.val] at hst
     cases hst
     refine ⟨some p,by rw[e2];rfl,hp,by rw[e1,e2];rfl,fun f hf h=>?_⟩
     simp only[VF,Option.some.injEq] at hf
     subst hf
     rw[e1,e2]
     refine ⟨rfl,fun v' hv=>⟨some p,?_,hp⟩⟩
     simp only[Ask.val,Out.leaf.injEq] at hv
     rw[← hv.2.1];rfl
   obtain ⟨q',k1,k2,k3,k4⟩:=hH
   exact build _ _ (fun ids fp ah0 hfp=>⟨o,b,h0,hb,.inl ⟨hbv,q',v,d,_,_,by rw[ah0];exact k1,k2,⟨hfp,by rw[ah0];exact k3.symm,rfl,rfl,by rw[ah0];exact k4 _ rfl⟩,by rw[ah0];exact tB _ _,rfl⟩⟩) _ R' hB.put n2 hR
  have Jx: ∀ (b:SB),dH st ops o=some b→b.val=false→ ∀ (B:AV) (R':Exit→St→Prop),ki B st→(iI P G A m true D6 ops rest (forget B o.dst) (acc++ [none]) (put st o.dst (.cV []) st.hp)).sat R'→
    (∀ e a w,oG W m β₀ R' e a w→oG W m β₀ R e a w)→FI P G ops D6 W m β₀ R acc k (o::rest).length st:=by
   intro b hb hbv B R' hB hs hR
   exact build (put st o.dst (.cV []) st.hp) none (fun ids fp _ hfp=>⟨o,b,h0,hb,.inr ⟨hbv,hfp,rfl⟩⟩) _ R' hB.put hs hR
  simp only[iI] at h
  cases ZX:nm B st ops o with
  |none=>simp only[ZX] at h;exact h.elim
  |some b=>
   obtain ⟨b',hb,hbv⟩:=AX hB ZX
   simp only[ZX] at h
   cases b with
   |lit b=>
    cases b with
    |true=>exact dY _ hb hbv B R hB h fun _ _ _ h=>h
    |false=>exact Jx _ hb hbv B R hB h fun _ _ _ h=>h
   |sym b=>
    cases b with
    |true=>
     obtain ⟨R',h1,h2⟩:=A.yes (W:=W) (β₀:=β₀) h
     exact dY _ hb hbv _ R' (tA hB ZX) h1 h2
    |false=>
     obtain ⟨R',h1,h2⟩:=A.no (W:=W) (β₀:=β₀) h
     exact Jx _ hb hbv _ R' (tA hB ZX) h1 h2
section
variable {P:Program} {G:AU}
theorem A2 (hG:GOk P G) {A:Alt} (kV:P.follows .mixedOrders=true) {m:Hp} {ops:Array Oper} {id:Nat} {st:St} (hd:tG ops.toList 0=true) {R:Exit→St→Prop}
  (h:(iI P G A m true (zr ops) ops ops.toList [] [] st).sat R) {W:World} {β₀:Env} {Q:Exit→Act→World→Prop} (hq: ∀ e a w,oG W m β₀ R e a w→Q e a w) {β:Env} {a:Act} {w:World}
  (hr:Rel W m β₀ β st a w):(Code.region id ops true).wp P Q a w:=by
 obtain ⟨ids,fs,sf,e0,e1,⟨q,e2,e2'⟩,e3⟩:=yQ (W:=W) (β₀:=β₀) ops.toList 0 [] [] st R (fun j=>by simp) (fun _ _ h=>by simp[known] at h) h
 obtain ⟨hE,_⟩:=A0 (ops:=ops) ops.toList [] [] (by simp) rfl hd
 obtain ⟨ps,p1,p2⟩:=FH (by simpa using e2) e2'
 have hM: ∀ i o,ops[i]? =some o→ans ops (fun i=>(tF ops.toList []).getD i 0) (fun i=>fs.getD (i-0) none) i o:=by
  intro i o ho
  obtain ⟨k1,k2⟩:=hE _ (fun _=>rfl) i o (Nat.zero_le _) ho
  exact ⟨k1,fun j oj hj FF=>rQ ops.toList 0 (fun j=>by simp) p1 p2 i o (Nat.zero_le _) ho j oj hj FF,k2⟩
 refine wp_region_any kV ?_
 have Dy:cH ops (Array.replicate ops.size false)=List.range' 0 ops.toList.length:=by
  unfold cH
  rw[List.filter_eq_self.2 fun i hi=>?_]
  ·rw[List.range_eq_range'];simp
  ·have:=List.mem_range.1 hi
   simp[this]
 refine DK hG hM (ids:=ids) (sf:=sf) (fun β a w hr=>hq _ _ _ (e3 β a w hr)) ops.size _ st β a _ (by simp) (by rw[Dy];simp) ?_ (by rw[Dy];exact e1) ?_
 ·intro j oj _ hl
  exfalso
  by_cases hj:j<ops.size
  ·simp[hj] at hl
  ·simp[hj] at hl
 ·exact ⟨hr.defers,hr.fr,hr.heap.drew _ _⟩
end
end Go.Ev
end
section
set_option linter.unusedVariables false
set_option linter.unusedSimpArgs false
namespace Go.Ev
open Go
def ZY:Nat→(St→a6)→St→a6
 |0,_,_=> .fail
 |k+1,f,st=>(f st).bind (ZY k f)
def ant:Nat:=100000
def Ex (P:Program) (m:Hp) (c:Code) (st:St) (r:a6):Prop:=
 ∀ (W:World) (β₀:Env) (R:Exit→St→Prop) (Q:Exit→Act→World→Prop),r.sat R→(∀ e a w,oG W m β₀ R e a w→Q e a w)→
  ∀ β a w,Rel W m β₀ β st a w→c.wp P Q a w
abbrev eW:=List (Nat×(St→a6))
def D8:eW→Nat→Option (St→a6)
 | [],_=>none
 |(i,f)::l,id=>if i=id then some f else D8 l id
def aP (P:Program) (m:Hp) (LT:eW):Code→Prop
 | .seq a b| .cond _ a b=>aP P m LT a∧aP P m LT b
 | .block id c=>aP P m LT c∧ ∀ f,D8 LT id=some f→ ∀ st,Ex P m c st (f st)
 | .loop c| .scope c=>aP P m LT c
 |_=>True
theorem aP.nil {P:Program} {m:Hp}: ∀ c:Code,aP P m [] c:=by
 intro c
 induction c with
 |seq a b ZZ Z0=>exact ⟨ZZ,Z0⟩
 |cond _ a b ZZ Z0=>exact ⟨ZZ,Z0⟩
 |block id c ih=>exact ⟨ih,fun f h=>by cases h⟩
 |loop c ih=>exact ih
 |scope c ih=>exact ih
 |_=>trivial
def DM:Code→List (Nat×Code)
 | .seq a b| .cond _ a b=>DM a++DM b
 | .block id c=>(id,c)::DM c
 | .loop c| .scope c=>DM c
 |_=> []
theorem aP.of {P:Program} {m:Hp} {LT:eW}: ∀ {c:Code},(∀ id f c',D8 LT id=some f→(id,c')∈DM c→ ∀ st,Ex P m c' st (f st))→aP P m LT c:=by
 intro c
 induction c with
 |seq a b ZZ Z0=>exact fun h=>⟨ZZ fun id f c' hf hm=>h id f c' hf (List.mem_append_left _ hm),Z0 fun id f c' hf hm=>h id f c' hf (List.mem_append_right _ hm)⟩
 |cond _ a b ZZ Z0=>exact fun h=>⟨ZZ fun id f c' hf hm=>h id f c' hf (List.mem_append_left _ hm),Z0 fun id f c' hf hm=>h id f c' hf (List.mem_append_right _ hm)⟩
 |block id c ih=>exact fun h=>⟨ih fun id f c' hf hm=>h id f c' hf (List.mem_cons_of_mem _ hm),fun f hf=>h id f c hf (by simp[DM])⟩
 |loop c ih=>exact fun h=>ih h
 |scope c ih=>exact fun h=>ih h
 |_=>exact fun _=>trivial
def exec (P:Program) (G:AU) (A:Alt) (m:Hp) (LT:eW):Code→St→a6
 | .skip,st=> .leaf .normal st
 | .seq a b,st=>(exec P G A m LT a st).bind (exec P G A m LT b)
 | .cond c x y,st=>match ev st c with
  | .one (.sc (.bool (.lit true)))=>exec P G A m LT x st
  | .one (.sc (.bool (.lit false)))=>exec P G A m LT y st
  | .one (.sc (.bool (.sym b)))=>A.f b m (exec P G A m LT x st) (exec P G A m LT y st)
  |_=> .fail
 | .block id c,st=>match D8 LT id with
  |some f=>(f st).block id
  |none=>(exec P G A m LT c st).block id
 | .exit id,st=> .leaf (.exit id) st
 | .ret,st=> .leaf .ret st
 | .label _,st=> .leaf .normal st
 | .scope c,st=>(exec P G A m LT c st).scope
 | .loop c,st=>ZY ant (exec P G A m LT c) st
 | .region _ ops false,st=>iI P G A m false (fun _=>some none) ops ops.toList [] [] st
 | .region _ ops true,st=>if tG ops.toList 0=true then iI P G A m true (zr ops) ops ops.toList [] [] st else .fail
 |_,_=> .fail
def Z3 (R:Exit→St→Prop) (f:St→a6):Exit→St→Prop
 | .normal,st=>(f st).sat R
 |e,st=>R e st
theorem kj {f:St→a6} {R:Exit→St→Prop}: ∀ {r:a6},(r.bind f).sat R→r.sat (Z3 R f)
 | .leaf .normal _,h=>h
 | .leaf (.exit _) _,h=>h
 | .leaf (.goto _) _,h=>h
 | .leaf .ret _,h=>h
 | .leaf (.panic _) _,h=>h
 | .leaf .outgrown _,h=>h
 | .ite _ _ _,h=>⟨fun e=>kj (h.1 e),fun e=>kj (h.2 e)⟩
 | .need _ _,h=>⟨h.1,kj h.2⟩
 | .fail,h=>h
def FJ (R:Exit→St→Prop) (id:Nat):Exit→St→Prop
 | .exit i,st=>if i=id then R .normal st else R (.exit i) st
 |e,st=>R e st
theorem j8 {id:Nat} {R:Exit→St→Prop}: ∀ {r:a6},(r.block id).sat R→r.sat (FJ R id)
 | .leaf (.exit i) st,h=>by
  simp only[a6.block] at h
  show if i=id then R .normal st else R (.exit i) st
  split at h
  ·rename_i hi;rw[if_pos hi];exact h
  ·rename_i hi;rw[if_neg hi];exact h
 | .leaf .normal _,h=>h
 | .leaf (.goto _) _,h=>h
 | .leaf .ret _,h=>h
 | .leaf (.panic _) _,h=>h
 | .leaf .outgrown _,h=>h
 | .ite _ _ _,h=>⟨fun e=>j8 (h.1 e),fun e=>j8 (h.2 e)⟩
 | .need _ _,h=>⟨h.1,j8 h.2⟩
 | .fail,h=>h
def avp (R:Exit→St→Prop):Exit→St→Prop
 | .goto _,_=>False
 |e,st=>R e st
theorem qD {R:Exit→St→Prop}: ∀ {r:a6},r.scope.sat R→r.sat (avp R)
 | .leaf .normal _,h=>h
 | .leaf (.exit _) _,h=>h
 | .leaf (.goto _) _,h=>h
 | .leaf .ret _,h=>h
 | .leaf (.panic _) _,h=>h
 | .leaf .outgrown _,h=>h
 | .ite _ _ _,h=>⟨fun e=>qD (h.1 e),fun e=>qD (h.2 e)⟩
 | .need _ _,h=>⟨h.1,qD h.2⟩
 | .fail,h=>h
theorem ah1 {P:Program} {G:AU} {A:Alt} (hG:GOk P G) (kV:P.follows .mixedOrders=true) {W:World} {m:Hp} {LT:eW} {β₀:Env}:
  ∀ (c:Code),aP P m LT c→ ∀ (st:St) (R:Exit→St→Prop) (Q:Exit→Act→World→Prop),(exec P G A m LT c st).sat R→(∀ e a w,oG W m β₀ R e a w→Q e a w)→
   ∀ β a w,Rel W m β₀ β st a w→c.wp P Q a w:=by
 intro c
 induction c with
 |skip=>intro hL st R Q h hq β a w hr;exact wp_skip (hq _ _ _ ⟨st,β,h,hr⟩)
 |exit id=>intro hL st R Q h hq β a w hr;exact wp_exit (hq _ _ _ ⟨st,β,h,hr⟩)
 |ret=>intro hL st R Q h hq β a w hr;exact wp_ret (hq _ _ _ ⟨st,β,h,hr⟩)
 |seq x y ihx ihy=>
  intro hL st R Q h hq β a w hr
  refine wp_seq (ihx hL.1 st _ _ (kj h) ?_ β a w hr)
  rintro e a w ⟨s,β',h1,h2⟩
  cases e with
  |normal=>exact ihy hL.2 s R Q h1 hq β' a w h2
  |exit _=>exact hq _ _ _ ⟨s,β',h1,h2⟩
  |goto _=>exact hq _ _ _ ⟨s,β',h1,h2⟩
  |ret=>exact hq _ _ _ ⟨s,β',h1,h2⟩
  |panic _=>exact hq _ _ _ ⟨s,β',h1,h2⟩
  |outgrown=>exact hq _ _ _ ⟨s,β',h1,h2⟩
 |cond c x y ihx ihy=>
  intro hL st R Q h hq β a w hr
  have hc:=aV hr c
  simp only[exec] at h
  split at h
  ·rename_i he
   rw[he] at hc
   exact wp_cond_true hc (ihx hL.1 st R Q h hq β a w hr)
  ·rename_i he
   rw[he] at hc
   exact wp_cond_false hc (ihy hL.2 st R Q h hq β a w hr)
  ·rename_i b he
   rw[he] at hc
   cases b with
   |true=>
    obtain ⟨R',h1,h2⟩:=A.yes (W:=W) (β₀:=β₀) h
    exact wp_cond_true hc (ihx hL.1 st R' Q h1 (fun e a w hp=>hq e a w (h2 e a w hp)) β a w hr)
   |false=>
    obtain ⟨R',h1,h2⟩:=A.no (W:=W) (β₀:=β₀) h
    exact wp_cond_false hc (ihy hL.2 st R' Q h1 (fun e a w hp=>hq e a w (h2 e a w hp)) β a w hr)
  ·exact h.elim
 |block id c ih=>
  intro hL st R Q h hq β a w hr
  have hin: ∀ Q',(∀ e a w,oG W m β₀ (FJ R id) e a w→Q' e a w)→c.wp P Q' a w:=by
   intro Q' ZC
   simp only[exec] at h
   split at h
   ·rename_i f hf
    exact hL.2 f hf st W β₀ _ _ (j8 h) ZC β a w hr
   ·exact ih hL.1 st _ _ (j8 h) ZC β a w hr
  refine wp_block (hin _ ?_)
  rintro e a w ⟨s,β',h1,h2⟩
  cases e with
  |exit i=>
   simp only[FJ] at h1
   simp only[Exit.inBlock]
   split at h1
   ·rename_i hi;rw[if_pos hi];exact hq _ _ _ ⟨s,β',h1,h2⟩
   ·rename_i hi;rw[if_neg hi];exact hq _ _ _ ⟨s,β',h1,h2⟩
  |normal=>exact hq _ _ _ ⟨s,β',h1,h2⟩
  |goto _=>exact hq _ _ _ ⟨s,β',h1,h2⟩
  |ret=>exact hq _ _ _ ⟨s,β',h1,h2⟩
  |panic _=>exact hq _ _ _ ⟨s,β',h1,h2⟩
  |outgrown=>exact hq _ _ _ ⟨s,β',h1,h2⟩
 |loop c ih=>
  intro hL st R Q h hq β a w hr
  have key: ∀ (n:Nat) (st:St),(ZY n (exec P G A m LT c) st).sat R→ ∀ β a w,Rel W m β₀ β st a w→Code.rounds P c Q n a w:=by
   intro n
   induction n with
   |zero=>intro st h;exact h.elim
   |succ n ihn=>
    intro st h β a w hr
    rw[rounds_succ]
    refine ih hL st _ _ (kj h) ?_ β a w hr
    rintro e a w ⟨s,β',h1,h2⟩
    cases e with
    |normal=>exact ihn s h1 β' a w h2
    |exit _=>exact hq _ _ _ ⟨s,β',h1,h2⟩
    |goto _=>exact hq _ _ _ ⟨s,β',h1,h2⟩
    |ret=>exact hq _ _ _ ⟨s,β',h1,h2⟩
    |panic _=>exact hq _ _ _ ⟨s,β',h1,h2⟩
    |outgrown=>exact hq _ _ _ ⟨s,β',h1,h2⟩
  exact wp_loop_rounds ant (key ant st h β a w hr)
 |label l=>intro hL st R Q h hq β a w hr;exact wp_label (hq _ _ _ ⟨st,β,h,hr⟩)
 |scope c ih=>
  intro hL st R Q h hq β a w hr
  refine wp_scope_straight (ih hL st _ _ (qD h) ?_ β a w hr)
  rintro e a w ⟨s,β',h1,h2⟩
  cases e with
  |goto _=>exact h1.elim
  |normal=>exact hq _ _ _ ⟨s,β',h1,h2⟩
  |exit _=>exact hq _ _ _ ⟨s,β',h1,h2⟩
  |ret=>exact hq _ _ _ ⟨s,β',h1,h2⟩
  |panic _=>exact hq _ _ _ ⟨s,β',h1,h2⟩
  |outgrown=>exact hq _ _ _ ⟨s,β',h1,h2⟩
 |region id ops d=>
  intro hL st R Q h hq β a w hr
  cases d with
  |false=>exact wp_region_list (AY hG ops.toList [] [] st R (fun _ _ h=>by simp[known] at h) h hq β a w hr)
  |true=>
   simp only[exec] at h
   split at h
   ·rename_i hd;exact A2 hG kV hd h hq hr
   ·exact h.elim
 |_=>intro hL st R Q h;exact h.elim
theorem Ex.S2 {P:Program} {G:AU} {A:Alt} (hG:GOk P G) (kV:P.follows .mixedOrders=true) {m:Hp} {LT:eW} {c:Code} (hL:aP P m LT c) {st:St} {r:a6} (h:exec P G A m LT c st=r):Ex P m c st r:=
 fun _ _ R Q hs hq β a w hr=>ah1 hG kV c hL st R Q (h▸hs) hq β a w hr
theorem Ex.Vu {P:Program} {m:Hp} {c:Code} {st:St} {r r':a6} (h:Ex P m c st r) (hw: ∀ R,r'.sat R→r.sat R):Ex P m c st r':=
 fun W β₀ R Q hs hq β a w hr=>h W β₀ R Q (hw R hs) hq β a w hr
theorem Ex.bind {P:Program} {m:Hp} {x y:Code} {st:St} {r:a6} {f:St→a6} (h1:Ex P m x st r) (h2: ∀ s,Ex P m y s (f s)):Ex P m (.seq x y) st (r.bind f):=by
 intro W β₀ R Q hs hq β a w hr
 refine wp_seq (h1 W β₀ _ _ (kj hs) ?_ β a w hr)
 rintro e a w ⟨t,β',h3,h4⟩
 cases e with
 |normal=>exact h2 t W β₀ R Q h3 hq β' a w h4
 |exit _=>exact hq _ _ _ ⟨t,β',h3,h4⟩
 |goto _=>exact hq _ _ _ ⟨t,β',h3,h4⟩
 |ret=>exact hq _ _ _ ⟨t,β',h3,h4⟩
 |panic _=>exact hq _ _ _ ⟨t,β',h3,h4⟩
 |outgrown=>exact hq _ _ _ ⟨t,β',h3,h4⟩
def a6.nor (R:St→Prop):a6→Prop:=a6.sat fun e s=>e= .normal→R s
theorem Ex.anu {P:Program} {m:Hp} {x y:Code} {st:St} {r:a6} {f:St→a6} (S:St→Prop) (h1:Ex P m x st r) (h2: ∀ s,S s→Ex P m y s (f s)) (hS:r.nor S):Ex P m (.seq x y) st (r.bind f):=by
 intro W β₀ R Q hs hq β a w hr
 have arf: ∀ {r:a6},r.sat (Z3 R f)→r.nor S→r.sat fun e s=>Z3 R f e s∧(e= .normal→S s):=by
  intro r
  induction r with
  |leaf e s=>exact fun h1 h2=>⟨h1,h2⟩
  |ite b t e iht ihe=>exact fun h1 h2=>⟨fun hb=>iht (h1.1 hb) (h2.1 hb),fun hb=>ihe (h1.2 hb) (h2.2 hb)⟩
  |need p r ih=>exact fun h1 h2=>⟨h1.1,ih h1.2 h2.2⟩
  |fail=>exact fun h1 _=>h1
 refine wp_seq (h1 W β₀ _ _ (arf (kj hs) hS) ?_ β a w hr)
 rintro e a w ⟨t,β',⟨h3,h5⟩,h4⟩
 cases e with
 |normal=>exact h2 t (h5 rfl) W β₀ R Q h3 hq β' a w h4
 |exit _=>exact hq _ _ _ ⟨t,β',h3,h4⟩
 |goto _=>exact hq _ _ _ ⟨t,β',h3,h4⟩
 |ret=>exact hq _ _ _ ⟨t,β',h3,h4⟩
 |panic _=>exact hq _ _ _ ⟨t,β',h3,h4⟩
 |outgrown=>exact hq _ _ _ ⟨t,β',h3,h4⟩
theorem Ex.seq {P:Program} {m:Hp} {x y:Code} {st s:St} {r:a6} (h1:Ex P m x st (.leaf .normal s)) (h2:Ex P m y s r):Ex P m (.seq x y) st r:=by
 have:=Ex.anu (f:=fun _=>r) (fun t=>t=s) h1 (fun t ht=>ht▸h2) (fun _=>rfl)
 exact this
theorem Ex.block {P:Program} {m:Hp} {id:Nat} {c:Code} {st:St} {r:a6} (h:Ex P m c st r):Ex P m (.block id c) st (r.block id):=by
 intro W β₀ R Q hs hq β a w hr
 refine wp_block (h W β₀ _ _ (j8 hs) ?_ β a w hr)
 rintro e a w ⟨s,β',h1,h2⟩
 cases e with
 |exit i=>
  simp only[FJ] at h1
  simp only[Exit.inBlock]
  split at h1
  ·rename_i hi;rw[if_pos hi];exact hq _ _ _ ⟨s,β',h1,h2⟩
  ·rename_i hi;rw[if_neg hi];exact hq _ _ _ ⟨s,β',h1,h2⟩
 |normal=>exact hq _ _ _ ⟨s,β',h1,h2⟩
 |goto _=>exact hq _ _ _ ⟨s,β',h1,h2⟩
 |ret=>exact hq _ _ _ ⟨s,β',h1,h2⟩
 |panic _=>exact hq _ _ _ ⟨s,β',h1,h2⟩
 |outgrown=>exact hq _ _ _ ⟨s,β',h1,h2⟩
theorem Ex.loop {P:Program} {m:Hp} {c:Code} {X:Type} (μ:X→Nat) (S:X→St) (I:X→Prop) (rnd:X→a6) (h: ∀ x,I x→Ex P m c (S x) (rnd x)) {R:X→Exit→St→Prop}
  (hr: ∀ x,I x→(rnd x).sat fun e s=>(e= .normal∧ ∃ y,s=S y∧I y∧μ y<μ x∧ ∀ e s,R y e s→R x e s)∨(e≠ .normal∧R x e s)) {x:X} (hx:I x) {r:a6} (hR: ∀ R',r.sat R'→ ∀ e s,R x e s→R' e s):Ex P m (.loop c) (S x) r:=by
 intro W β₀ R0 Q hs hq β a w Z4
 have key: ∀ (n:Nat) (y:X),I y→μ y<n→(∀ e s,R y e s→R0 e s)→ ∀ β a w,Rel W m β₀ β (S y) a w→Code.rounds P c Q n a w:=by
  intro n
  induction n with
  |zero=>intro y _ h0;omega
  |succ n ih=>
   intro y hy hn hRy β a w qB
   rw[rounds_succ]
   refine h y hy W β₀ _ _ (hr y hy) ?_ β a w qB
   rintro e a w ⟨t,β',h1,h2⟩
   rcases h1 with ⟨rfl,z,rfl,hz,fq,Z5⟩|⟨gk,h1⟩
   ·exact ih z hz (by omega) (fun e s h=>hRy e s (Z5 e s h)) β' a w h2
   ·cases e with
    |normal=>exact absurd rfl gk
    |exit _=>exact hq _ _ _ ⟨t,β',hRy _ _ h1,h2⟩
    |goto _=>exact hq _ _ _ ⟨t,β',hRy _ _ h1,h2⟩
    |ret=>exact hq _ _ _ ⟨t,β',hRy _ _ h1,h2⟩
    |panic _=>exact hq _ _ _ ⟨t,β',hRy _ _ h1,h2⟩
    |outgrown=>exact hq _ _ _ ⟨t,β',hRy _ _ h1,h2⟩
 exact wp_loop_rounds (μ x+1) (key _ x hx (Nat.lt_succ_self _) (fun e s h=>hR R0 hs e s h) β a w Z4)
def xq (P:Program) (st:St):ResultVar→Option VV
 | .tmp t=>match ev st (.tmp t) with
  | .one x=>some x
  |_=>none
 | .cell a t=>match ev st (.tmp a) with
  | .one (.sc (.ptr b off))=>match br st.hp b with
   |some (.a8 cells _)=>eT P t cells off
   |_=>none
  |_=>none
def JD (P:Program) (fn:Func) (st:St):Option LV:=
 match c9 (xq P st) fn.results.toList with
 |some [x]=>some (.one x)
 |some l=>some (.cV l)
 |none=>none
def FK (a:Act):ResultVar→Sem Value
 | .tmp t=>pure (a.tmps.getD t undef)
 | .cell b t=>do loadVar t (← asAddr (a.tmps.getD b undef))
theorem Nt (fn:Func) (a:Act):results fn a.tmps=(do let vs ← fn.results.mapM (FK a);pure (if h:vs.size=1 then vs[0] else .tuple vs)):=by
 unfold results
 congr 2
theorem Nu {P:Program} {W:World} {al:Hp} {β₀ β:Env} {st:St} {a:Act} {w:World} (hr:Rel W al β₀ β st a w) {r:ResultVar} {x:VV} (h:xq P st r=some x):
  ∃ v,(FK a r).run P w= .ok v w∧x.den β (kd st.hp) v:=by
 cases r with
 |tmp t=>
  simp only[xq] at h
  split at h
  ·rename_i y hy
   simp at h;subst h
   have:=aV hr (.tmp t);rw[hy] at this
   exact ⟨_,rfl,this⟩
  ·simp at h
 |cell b t=>
  simp only[xq] at h
  split at h
  ·rename_i i off hy
   split at h
   ·rename_i cells elem hb
    have:=aV hr (.tmp b);rw[hy] at this
    obtain ⟨_,e⟩:=this
    have e':a.tmps.getD b undef= .pointer (some ⟨β.b i,off,none⟩):=e
    obtain ⟨c,fz,_,_,h3,h4⟩:=hr.heap.fT (aB hb)
    obtain ⟨v,h5,h6⟩:=jU (P:=P) rfl h4 h3 h
    rw[b9,Nat.zero_add] at h5
    exact ⟨v,by simp[FK,e',asAddr,h5],h6⟩
   ·simp at h
  ·simp at h
theorem JE {P:Program} {fn:Func} {W:World} {al:Hp} {β₀ β:Env} {st:St} {a:Act} {w:World} (hr:Rel W al β₀ β st a w) {r:LV} (h:JD P fn st=some r):
  ∃ v,(results fn a.tmps).run P w= .ok v w∧r.den β (kd st.hp) v:=by
 have key: ∀ (l:List ResultVar) (xs:List VV),c9 (xq P st) l=some xs→ ∃ vs:List Value,(l.mapM (FK a)).run P w= .ok vs w∧b8 (VV.den β (kd st.hp)) xs vs:=by
  intro l
  induction l with
  |nil=>intro xs h;simp[c9] at h;subst h;exact ⟨[],by simp,.nil⟩
  |cons r l ih=>
   intro xs h
   simp only[c9] at h
   split at h
   ·rename_i y m' h1 h2
    simp at h;subst h
    obtain ⟨v,e1,e2⟩:=Nu hr h1
    obtain ⟨vs,e3,e4⟩:=ih _ h2
    refine ⟨v::vs,?_,.cons e2 e4⟩
    simp only[List.mapM_cons,Sem.run_bind]
    rw[e1]
    simp only[Result.andThen_ok,Sem.run_pure,e3]
   ·simp at h
 unfold JD at h
 have dY: ∀ (vs:List Value) (xs:List VV),c9 (xq P st) fn.results.toList=some xs→(∀ vs:List Value,b8 (VV.den β (kd st.hp)) xs vs→ ∃ v,(if h:vs.toArray.size=1 then vs.toArray[0] else .tuple vs.toArray)=v∧r.den β (kd st.hp) v)→
   ∃ v,(results fn a.tmps).run P w= .ok v w∧r.den β (kd st.hp) v:=by
  intro _ xs hx hv
  obtain ⟨vs,e1,e2⟩:=key _ _ hx
  obtain ⟨v,e3,e4⟩:=hv vs e2
  refine ⟨v,?_,e4⟩
  rw[Nt,Sem.run_bind,Array.mapM_eq_mapM_toList]
  simp only[Sem.run_map,e1,Result.andThen_ok]
  rw[← e3];rfl
 split at h
 ·rename_i x hx
  simp at h;subst h
  refine dY [] [x] hx fun vs hvs=>?_
  cases hvs with
  |cons h1 h2=>
   cases h2
   exact ⟨_,rfl,h1⟩
 ·rename_i l gk hl
  simp at h;subst h
  refine dY [] l hl fun vs hvs=>?_
  have hlen:=hvs.length
  have:vs.length≠1:=by
   intro e
   rw[e] at hlen
   obtain ⟨x,hx⟩:=List.length_eq_one_iff.1 hlen
   exact gk x hx
  refine ⟨_,by rw[dif_neg (by simpa using this)],vs,rfl,hvs⟩
 ·simp at h
theorem bd.self {W:World} {al:Hp} {β₀ β:Env} {hp:Hp} {w:World} (h:bd W al β₀ β hp w):bd w hp β β hp w:=
 ⟨h.items,h.inj,bU.refl _ _,fun i x b hi ho=> .inr ⟨x,hi,ho⟩,rfl,rfl,Nat.le_refl _,fun _ _ _=>rfl,h.reads,fun pm v t l b h1 h2=> .inr ⟨pm,v,t,l,id,h1,h2⟩⟩
theorem bd.trans {W:World} {al:Hp} {β₀ β β':Env} {hp ft:Hp} {w w':World} (h:bd W al β₀ β hp w) (h':bd w hp β β' ft w'):bd W al β₀ β' ft w' where
 items:=h'.items
 inj:=h'.inj
 first:=h.first.trans h'.first
 own i x b hi ho:=by
  rcases h'.own i x b hi ho with h1|⟨y,hj,h1⟩
  ·exact .inl (Nat.le_trans h.size h1)
  ·exact h.own i y b hj h1
 os:=h'.os.trans h.os
 output:=h'.output.trans h.output
 size:=Nat.le_trans h.size h'.size
 an b hb gk:=by
  rw[h'.an b (by have:=h.size;omega) fun ⟨i,x,hi,ho⟩=>?_]
  ·exact h.an b hb gk
  ·rcases h.own i x b hi ho with h1|⟨y,h1⟩
   ·omega
   ·exact gk ⟨i,y,h1⟩
 reads:=h'.reads
 from_ pm v t l b h1 h2:=by
  rcases h'.from_ pm v t l b h1 h2 with h3|⟨kT,v',t',l',h0,h3,h4⟩
  ·exact .inl (Nat.le_trans h.size h3)
  ·rcases h.from_ kT v' t' l' b h3 h4 with h5|⟨pm2,v2,t2,l2,h6,h7,h8⟩
   ·exact .inl h5
   ·exact .inr ⟨pm2,v2,t2,l2,fun e=>h6 (h0 e),h7,h8⟩
def hX (P:Program) (f:FuncId) (args:List LV) (hp:Hp) (R:LV→Hp→Prop):Prop:=
 ∀ (β:Env) (w:World) (vals:List Value),bd w hp β β hp w→b8 (LV.den β (kd hp)) args vals→
  Calls P f vals.toArray w fun e w'=> ∃ val β' r ft,e= .returned val∧R r ft∧r.den β' (kd ft) val∧bd w hp β β' ft w'
def entry (fn:Func) (args:List LV) (hp:Hp):St:=⟨args++List.replicate (fn.ntmps-args.length) (.cV []),hp⟩
inductive End where
 |leaf (v:LV) (hp:Hp)
 |ite (b:Bool) (x y:End)
 |need (p:Prop) (x:End)
 |fail
def End.sat (R:LV→Hp→Prop):End→Prop
 | .leaf v hp=>R v hp
 | .ite b x y=>(b=true→x.sat R)∧(b=false→y.sat R)
 | .need p x=>p∧x.sat R
 | .fail=>False
def a6.ends (P:Program) (fn:Func):a6→End
 | .leaf .normal st| .leaf .ret st=>match JD P fn st with
  |some v=> .leaf v st.hp
  |none=> .fail
 | .leaf _ _=> .fail
 | .ite b x y=> .ite b (x.ends P fn) (y.ends P fn)
 | .need p x=> .need p (x.ends P fn)
 | .fail=> .fail
theorem tI {P:Program} {fn:Func} {R:LV→Hp→Prop}: ∀ {r:a6},(r.ends P fn).sat R→r.sat fun e st=>(e= .normal∨e= .ret)∧ ∃ v,JD P fn st=some v∧R v st.hp
 | .leaf e st,h=>by
  cases e with
  |normal=>
   simp only[a6.ends] at h
   split at h
   ·rename_i v hv;exact ⟨.inl rfl,v,hv,h⟩
   ·exact h.elim
  |ret=>
   simp only[a6.ends] at h
   split at h
   ·rename_i v hv;exact ⟨.inr rfl,v,hv,h⟩
   ·exact h.elim
  |exit _=>exact h.elim
  |goto _=>exact h.elim
  |panic _=>exact h.elim
  |outgrown=>exact h.elim
 | .ite b x y,h=>⟨fun e=>tI (h.1 e),fun e=>tI (h.2 e)⟩
 | .need p x,h=>⟨h.1,tI h.2⟩
 | .fail,h=>h
def nq (P:Program) (f:FuncId) (args:List LV) (hp:Hp) (t:End):Prop:= ∀ R,t.sat R→hX P f args hp R
theorem Nv {P:Program} {f:FuncId} {fn:Func} {c:Code} (hf:P.funcs[f]? =some fn) (hb:fn.body=some c) {args:List LV} {hp:Hp} {r:a6} (hx:Ex P hp c (entry fn args hp) r):nq P f args hp (r.ends P fn):=by
 intro R h β w vals hh dG
 refine calls_of_wp hf hb ?_
 have Z4:Rel w hp β β (entry fn args hp) {tmps:=vals.toArray++Array.replicate (fn.ntmps-vals.toArray.size) undef,defers:= []} w:=by
  refine ⟨rfl,?_,hh⟩
  show b8 _ (args++List.replicate (fn.ntmps-args.length) (.cV [])) (vals.toArray++Array.replicate (fn.ntmps-vals.toArray.size) undef).toList
  have hl:=dG.length
  have e:(vals.toArray++Array.replicate (fn.ntmps-vals.toArray.size) undef).toList=vals++List.replicate (fn.ntmps-args.length) undef:=by
   simp[hl]
  rw[e]
  refine dG.append ?_
  generalize fn.ntmps-args.length=k
  induction k with
  |zero=>exact .nil
  |succ k ih=>exact .cons ⟨[],rfl,.nil⟩ ih
 refine hx _ _ _ _ (tI h) ?_ β _ w Z4
 have key: ∀ (a:Act) (w':World) (st:St) (β':Env) (x:LV),JD P fn st=some x→R x st.hp→Rel w hp β β' st a w'→
   a.defers= []∧ ∃ v,(results fn a.tmps).run P w'= .ok v w'∧(∃ val β' r ft,Ending.returned v= .returned val∧R r ft∧r.den β' (kd ft) val∧bd w hp β β' ft w'):=by
  intro a w' st β' x ah2 hR hr
  obtain ⟨v,h1,h2⟩:=JE hr ah2
  exact ⟨hr.defers,v,h1,v,β',x,st.hp,rfl,hR,h2,hr.heap⟩
 rintro e a w' ⟨st,β',⟨he,x,ah2,hR⟩,hr⟩
 rcases he with rfl|rfl
 ·exact key a w' st β' x ah2 hR hr
 ·exact key a w' st β' x ah2 hR hr
def xr (P:Program) (f:FuncId):Prop:= ∀ (as:Array Value) (w:World),(callFunc f as).run P w= .ok (.enter f as) w
end Go.Ev
end
