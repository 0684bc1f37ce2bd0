/- What the laws lean on, part 4: a reader of code, plain facts, and what each function gives; no conditions. -/
import Derived.LoopN
import Derived.Orders
import Derived.Scope
import Derived.Test.YtliehnnljilacaaGreatA3
noncomputable section
open Go.IntKind (i64 signed u16 u32 u64 wrap wrap_u32)
set_option linter.unusedVariables false
set_option linter.unusedSimpArgs false
namespace Go.Ev
open Go
noncomputable section
variable {P:Program} {W:World} {bP:Hp} {β₀ β:Env} {w:World} {st:St} {a:Act}
def aMh(P:Program)(W:World)(bP:Hp)(β₀ β:Env)(st:St)(w:World)(s:Sem Next)(v:LV)(d:List (Nat×bE)):Prop:=∃ (β':Env) (w':World) (val:Value),s.run P w= .ok (.value val) w'∧v.den β' (kd (cq d st.hp)) val∧cN W bP β₀ β' (cq d st.hp) w'∧dx β β' (kd st.hp) (kd (cq d st.hp))
theorem aD4(hr:Rel W bP β₀ β st a w){t ty:TypeId}{x:SV}{n:SI}{v:Value}(hl:(aDY P t x).val st.hp=some n)(hd:x.den β (kd st.hp) v):(Builtin.len_ #[t] ty #[v]).run P w= .ok (.int .i64 n.val) w:=by
 have hs:∀ {e:TypeId} {b:Option Addr} {k c:Nat},gv P t=some e→(Builtin.len_ #[t] ty #[.slice b k c]).run P w= .ok (goInt k) w:=fun he=>by
  have hu:=fZ he;simp[Builtin.len_,run_underlying hu]
 have aMi:∀ {s:ByteArray},P.underlying t=some .string→(Builtin.len_ #[t] ty #[.string s]).run P w= .ok (goInt s.size) w:=fun hu=>by
  simp[Builtin.len_,run_underlying hu]
 have aMj:∀ {α:Type} {x y:α},(if P.underlying t matches some .string then some x else none)=some y→P.underlying t=some .string∧x=y:=by
  intro α x y h;split at h
  ·rename_i hm;refine⟨?_,by simpa using h⟩;revert hm;cases hu:P.underlying t with
   |none=>simp
   |some d=>cases d<;>simp
  ·cases h
 unfold aDY at hl;split at hl
 ·simp only[Ask.val]at hl;obtain⟨e,he,rfl⟩:=map_some hl;obtain⟨_,rfl⟩:=hd;exact hs he
 ·simp only[Ask.val]at hl;obtain⟨e,he,rfl⟩:=map_some hl;obtain⟨_,rfl⟩:=hd;exact hs he
 ·simp only[Ask.val]at hl;obtain⟨hu,rfl⟩:=aMj hl;have e:v= .string _:=hd;rw[e,aMi hu,uH];rfl
 ·simp only[Ask.val]at hl;obtain⟨hu,rfl⟩:=aMj hl;obtain⟨_,rfl⟩:=hd;exact aMi hu
 ·split at hl
  ·rename_i e he;rw[Ask.fc]at hl;obtain⟨⟨pm,yO,l⟩,hc,rfl⟩:=map_some hl;obtain⟨b,c,rfl⟩:=(na hr.heap hc hd).len;exact hs he
  ·simp[Ask.val]at hl
theorem y7{f:Int→Int→Int}{g:Value→Value→Sem Value}{k:IntKind}(hg:∀x y:Int,(g (.int k x) (.int k y)).run P w= .ok (.int k (f x y)) w){β:Env}{L:Nat→Option Kd}:
  ∀ (l:List SV) (vs:List Value) (x n:SI),dC (SV.den β L) l vs→y4 f k x l=some n→(vs.foldlM g (.int k x.val)).run P w= .ok (.int k n.val) w
 | [],vs,x,n,hd,h=>by
  cases hd;simp[y4]at h;subst h;simp
 | .int k' y::l,_,x,n,.cons (b:=b) (m:=vs) h1 h2,h=>by
  simp only[y4]at h;split at h
  ·rename_i hk;subst hk;have e:b= .int k' y.val:=h1;subst e;simp only[List.foldlM_cons,Sem.run_bind,hg,Result.andThen_ok];have:=y7 hg l vs _ n h2 h;rw[map2_val]at this;exact this
  ·cases h
theorem C0{β:Env}{L:Nat→Option Kd}:∀ {xs:List LV} {ss:List SV} {vs:List Value},ft lr xs=some ss→dC (LV.den β L) xs vs→dC (SV.den β L) ss vs
 | [],_,_,h,hd=>by simp[ft]at h;subst h;cases hd;exact .nil
 |x::xs,ss,_,h,.cons h1 h2=>by
  simp only[ft]at h;split at h
  ·rename_i s m hs hm;simp at h;subst h;exact .cons (cX hs h1) (C0 hm h2)
  ·cases h
theorem ab4(hr:Rel W bP β₀ β st a w){id:Nat}{t u ty_:TypeId}{s x:SV}{q:Option Prop}{v:LV}{d:List (Nat×bE)}(h:(afs P id t u s x).val st.hp=some (q,v,d))(hq:iC q)(rA:(∃x,(id,x)∈d)→kd st.hp id=none) {sv xv:Value} (hs0:s.den β (kd st.hp) sv) (W0:x.den β (kd st.hp) xv):∃ (β':Env) (w':World) (val:Value),(Builtin.append_ #[t,u] ty_ #[sv,xv]).run P w= .ok val w'∧v.den β' (kd (cq d st.hp)) val∧cN W bP β₀ β' (cq d st.hp) w'∧dx β β' (kd st.hp) (kd (cq d st.hp)):=by
 unfold afs at h;split at h
 ·simp[Ask.val]at h
 rename_i el ru;split at h
 rotate_left
 ·simp[Ask.val]at h
 rename_i ty sz z by_ hty hs hz H8;split at h
 rotate_left
 ·simp[Ask.val]at h
 rename_i pE;obtain⟨rfl,lp,hwz⟩:=pE;rw[Ask.gC]at h;split at h
 rotate_left
 ·simp[Ask.val]at h
 rename_i pm m hc;split at h
 rotate_left
 ·simp[Ask.val]at h
 rename_i hf;obtain⟨news,y5,lZ⟩:=afu hr.heap hc hf W0;split at h
 ·simp only[Ask.val]at h;cases h;have afl:=rA ⟨_,by simp;rfl⟩;obtain⟨_,rfl⟩:=hs0;have hq':m.length*by_≤70368744177664∧m.length≤70368744177664:=hq;have vU:eY β w (.slice none 0 0) ty []:=⟨none,0,0,rfl,rfl,Nat.le_refl _,fun _=>rfl,fun h=>absurd h (by omega)⟩;obtain⟨v',w',h1,h2,h3,h4,h5,h6,h7⟩:=uN (ty_:=ty_) ru hs lp hz hwz H8 vU y5 lZ (by simpa using hq'.1) (by simpa using hq'.2);rw[List.nil_append]at h2;obtain⟨β',k1,k2,k3⟩:=hr.heap.rZ afl (ver:=0) h3 h4 h5 (fun b hb=>h6 b hb (by rintro⟨_,_,_,e,_⟩;simp at e)) h2 (fun a n c e h0=>(h7 a n c e h0).resolve_left (by rintro⟨_,_,e,_⟩;simp at e));refine⟨β',w',v',h1,⟨?_,0,?_,Nat.le_refl _,fun _=>k3.symm⟩,k1,k2⟩
  ·obtain⟨_,_,_,rfl,_⟩:=h2;rfl
  ·show kd (cL st.hp id _) id=_;rw[fB,if_pos rfl];rfl
 ·rename_i i ver;simp only[Ask.val]at h;split at h
  ·rename_i ver' yO l hi;split at h
   ·rename_i e;subst e;split at h
    ·rename_i e;subst e;cases h;obtain⟨tZ,hh⟩:=hr.heap.rY (p:=fun v=>sv=v) (cf hi) hs0.2;have hq':(l.length+m.length)*by_≤70368744177664∧l.length+m.length≤70368744177664:=hq;obtain⟨v',w',h1,h2,h3,h4,h5,h6,h7⟩:=uN (ty_:=ty_) ru hs lp hz hwz H8 tZ y5 lZ hq'.1 hq'.2
     obtain⟨β',k1,k2,k3⟩:=hr.heap.yZ (cf hi) (ver':=ver+1) (l':=l++m) (v:=v') (w':=w') (.inl (Nat.lt_succ_self _)) h3 h4 h5 (fun b hb rC=>h6 b hb rC) h2
      (fun a n c e h0=>(h7 a n c e h0).imp (fun⟨n',c',e',h'⟩=>⟨a,n',c',e',h',rfl⟩) fun h=>h)
     refine⟨β',w',v',by rw[hh];exact h1,⟨?_,ver+1,?_,Nat.le_refl _,fun _=>k3.symm⟩,k1,k2⟩
     ·obtain⟨_,_,_,rfl,_⟩:=h2;rfl
     ·show kd (cL st.hp i _) i=_;rw[fB,if_pos rfl];rfl
    ·cases h
   ·cases h
  ·cases h
 ·simp[Ask.val]at h
theorem arf(hr:Rel W bP β₀ β st a w){id:Nat}{t u ty_:TypeId}{s:SV}{k:IntKind}{n:Int}{q:Option Prop}{v:LV}{d:List (Nat×bE)}(h:(Sc P id t u s n).val st.hp=some (q,v,d))(hq:iC q)(rA:(∃x,(id,x)∈d)→kd st.hp id=none) {sv:Value} (hs0:s.den β (kd st.hp) sv):∃ (β':Env) (w':World) (val:Value),(Builtin.append_ #[t,u] ty_ #[sv,.int k n]).run P w= .ok val w'∧v.den β' (kd (cq d st.hp)) val∧cN W bP β₀ β' (cq d st.hp) w'∧dx β β' (kd st.hp) (kd (cq d st.hp)):=by
 unfold Sc at h;split at h
 rotate_left
 ·simp[Ask.val]at h
 rename_i el kn ru hku;split at h
 rotate_left
 ·simp[Ask.val]at h
 rename_i ty sz z by_ hty hs hz H8;split at h
 rotate_left
 ·simp[Ask.val]at h
 rename_i pE;obtain⟨rfl,lp,hwz⟩:=pE;split at h
 rotate_left
 ·simp[Ask.val]at h
 rename_i z0 hz0;split at h
 ·simp only[Ask.val]at h;cases h;have afl:=rA ⟨_,by simp;rfl⟩;obtain⟨_,rfl⟩:=hs0;obtain⟨AU,hq1,hq2⟩:0≤n∧n.toNat*by_≤70368744177664∧n.toNat≤70368744177664:=hq;obtain⟨m,rfl⟩:=Int.eq_ofNat_of_zero_le AU;simp only[Int.toNat_natCast]at hq1 hq2 ⊢;have vU:eY β w (.slice none 0 0) ty []:=⟨none,0,0,rfl,rfl,Nat.le_refl _,fun _=>rfl,fun h=>absurd h (by omega)⟩;obtain⟨v',w',h1,h2,h3,h4,h5,h6,h7⟩:=vS (ty_:=ty_) (kq:=k) ru hs lp hz hwz H8 vU hku hz0 m (by simpa using hq1) (by simpa using hq2);rw[List.nil_append]at h2;obtain⟨β',k1,k2,k3⟩:=hr.heap.rZ afl (ver:=0) h3 h4 h5 (fun b hb=>h6 b hb (by rintro⟨_,_,_,e,_⟩;simp at e)) h2 (fun a n c e h0=>(h7 a n c e h0).resolve_left (by rintro⟨_,_,e,_⟩;simp at e));refine⟨β',w',v',h1,⟨?_,0,?_,Nat.le_refl _,fun _=>k3.symm⟩,k1,k2⟩
  ·obtain⟨_,_,_,rfl,_⟩:=h2;rfl
  ·show kd (cL st.hp id _) id=_;rw[fB,if_pos rfl];rfl
 ·rename_i i ver;simp only[Ask.val]at h;split at h
  ·rename_i ver' yO l hi;split at h
   ·rename_i e;subst e;split at h
    ·rename_i e;subst e;cases h;obtain⟨tZ,hh⟩:=hr.heap.rY (p:=fun v=>sv=v) (cf hi) hs0.2;obtain⟨AU,hq1,hq2⟩:0≤n∧(l.length+n.toNat)*by_≤70368744177664∧l.length+n.toNat≤70368744177664:=hq;obtain⟨m,rfl⟩:=Int.eq_ofNat_of_zero_le AU;simp only[Int.toNat_natCast]at hq1 hq2 ⊢;obtain⟨v',w',h1,h2,h3,h4,h5,h6,h7⟩:=vS (ty_:=ty_) (kq:=k) ru hs lp hz hwz H8 tZ hku hz0 m hq1 hq2
     obtain⟨β',k1,k2,k3⟩:=hr.heap.yZ (cf hi) (ver':=ver+1) (l':=l++List.replicate m z0) (v:=v') (w':=w') (.inl (Nat.lt_succ_self _)) h3 h4 h5 (fun b hb rC=>h6 b hb rC) h2
      (fun a n c e h0=>(h7 a n c e h0).imp (fun⟨n',c',e',h'⟩=>⟨a,n',c',e',h',rfl⟩) fun h=>h)
     refine⟨β',w',v',by rw[hh];exact h1,⟨?_,ver+1,?_,Nat.le_refl _,fun _=>k3.symm⟩,k1,k2⟩
     ·obtain⟨_,_,_,rfl,_⟩:=h2;rfl
     ·show kd (cL st.hp i _) i=_;rw[fB,if_pos rfl];rfl
    ·cases h
   ·cases h
  ·cases h
 ·simp[Ask.val]at h
theorem aMn(hr:Rel W bP β₀ β st a w){id:Nat}{b:Builtin}{ts:List TypeId}{xs:List LV}{vs:List Value}{q:Option Prop}{v:LV}{d:List (Nat×bE)} (h:(arb P id b ts xs).val st.hp=some (q,v,d)) (hq:iC q) (rA:(∃x,(id,x)∈d)→kd st.hp id=none) (hd:dC (LV.den β (kd st.hp)) xs vs) (ty:TypeId) (cs:Array Bool):aMh P W bP β₀ β st w (builtin b ts.toArray ty cs vs.toArray) v d:=by
 have afx:∀ {s:Sem Value} {val:Value} {x:SV},s.run P w= .ok val w→x.den β (kd st.hp) val→aMh P W bP β₀ β st w (do pure (.value (← s))) (.one (.sc x)) []:=by
  intro s val x h1 h2;exact⟨β,w,val,by rw[Sem.run_bind,h1];rfl,h2,hr.heap,dx.refl _ _⟩
 unfold arb at h;split at h
 ·rename_i t x;split at h
  ·rename_i s hs;rw[Ask.fc]at h;obtain⟨n,hn,he⟩:=map_some h;cases he;cases hd with
   |cons h1 h2=>
    cases h2;exact afx (aD4 hr hn (cX hs h1)) rfl
  ·simp[Ask.val]at h
 ·rename_i t u s x;split at h
  ·rename_i s' k n hs hx;cases hd with
   |cons h1 h2=>
    cases h2 with
    |cons h2 h3=>
     cases h3;have e:=cX hx h2;simp only[SV.den]at e;subst e;obtain⟨β',w',val,k1,k2,k3,k4⟩:=arf (ty_:=ty) (k:=k) hr h hq rA (cX hs h1);exact⟨β',w',val,by show(do pure (Next.value (← Builtin.append_ #[t,u] ty _)):Sem Next).run P w=_;rw[Sem.run_bind,k1];rfl,k2,k3,k4⟩
  ·rename_i s' x' _ hs hx;cases hd with
   |cons h1 h2=>
    cases h2 with
    |cons h2 h3=>
     cases h3;obtain⟨β',w',val,k1,k2,k3,k4⟩:=ab4 (ty_:=ty) hr h hq rA (cX hs h1) (cX hx h2);exact⟨β',w',val,by show(do pure (Next.value (← Builtin.append_ #[t,u] ty _)):Sem Next).run P w=_;rw[Sem.run_bind,k1];rfl,k2,k3,k4⟩
  ·simp[Ask.val]at h
 ·rename_i t u s x;split at h
  ·rename_i s' x' hs hx;cases hd with
   |cons h1 h2=>
    cases h2 with
    |cons h2 h3=>
     cases h3;obtain⟨β',w',val,k1,k2,k3,k4⟩:=are (ty_:=ty) hr h (cX hs h1) (cX hx h2);exact⟨β',w',val,by show(do pure (Next.value (← Builtin.copy_ #[t,u] ty _)):Sem Next).run P w=_;rw[Sem.run_bind,k1];rfl,k2,k3,k4⟩
  ·simp[Ask.val]at h
 ·rename_i x l;simp only[Ask.val]at h;split at h
  ·rename_i k x0 l0 hx hl;obtain⟨n,hn,he⟩:=map_some h;cases he;cases hd with
   |cons h1 h2=>
    rename_i v0 vs0;have e:v0= .int k x0.val:=cX hx h1;subst e;have:=y7 (P:=P) (w:=w) (f:=afq) (g:=Builtin.min2) (k:=k) (fun x y=>by simp[Builtin.min2,afq]) l0 vs0 x0 n (C0 hl h2) hn;refine afx (s:=Builtin.min_ ts.toArray ty (Value.int k x0.val::vs0).toArray) (val:=.int k n.val) ?_ rfl;simp only[Builtin.min_];exact this
  ·cases h
 ·rename_i x l;simp only[Ask.val]at h;split at h
  ·rename_i k x0 l0 hx hl;obtain⟨n,hn,he⟩:=map_some h;cases he;cases hd with
   |cons h1 h2=>
    rename_i v0 vs0;have e:v0= .int k x0.val:=cX hx h1;subst e;have:=y7 (P:=P) (w:=w) (f:=afr) (g:=Builtin.max2) (k:=k) (fun x y=>by simp[Builtin.max2,afr]) l0 vs0 x0 n (C0 hl h2) hn;refine afx (s:=Builtin.max_ ts.toArray ty (Value.int k x0.val::vs0).toArray) (val:=.int k n.val) ?_ rfl;simp only[Builtin.max_];exact this
  ·cases h
 ·simp[Ask.val]at h
end
inductive Out where
 |bN (q:Option Prop) (v:LV) (d:List (Nat×bE))
 |ite (b:Bool) (x y:Out)
 |fail
def Out.of:Stp→Out
 |some (q,v,d)=>.bN q v d
 |none=>.fail
def Out.holds(Q:LV→List (Nat×bE)→Prop):Out→Prop
 | .bN q v d=>iC q∧Q v d
 | .ite b x y=>(b=true→x.holds Q)∧(b=false→y.holds Q)
 | .fail=>False
def W6(id:Nat)(hp:Hp)(d:List (Nat×bE)):Prop:=∀j x,(j,x)∈d→id≤j→kd hp j=none
def Out.fresh(id:Nat)(hp:Hp):Out→Prop
 | .bN _ _ d=>W6 id hp d
 | .ite _ x y=>x.fresh id hp∧y.fresh id hp
 | .fail=>True
structure C1 where
 run:FuncId→Nat→List LV→Ask Out
def ab5(P:Program)(f:FuncId)(vals:Array Value)(w:World)(Q:Ending→World→Prop):Prop:=(∃val,(callFunc f vals).run P w= .ok (.value val) w∧Q (.returned val) w)∨((∀ (as:Array Value) (w:World),(callFunc f as).run P w= .ok (.enter f as) w)∧Calls P f vals w Q)
theorem ab5.mono{P:Program}{f:FuncId}{vals:Array Value}{w:World}{Q Q':Ending→World→Prop}(h:ab5 P f vals w Q)(hq:∀e w',Q e w'→Q' e w'):ab5 P f vals w Q':=h.imp (fun⟨v,h1,h2⟩=>⟨v,h1,hq _ _ h2⟩) fun⟨h1,h2⟩=>⟨h1,h2.mono hq⟩
structure GOk (P:Program) (G:C1):Prop where
 calls:∀f id args hp,((G.run f id args).val hp).fresh id hp→∀Q,((G.run f id args).val hp).holds Q→
  ∀ (W:World) (bP:Hp) (β₀ β:Env) (w:World) (vals:List Value),cN W bP β₀ β hp w→dC (LV.den β (kd hp)) args vals→
   ab5 P f vals.toArray w fun e w'=>∃v d val β',Q v d∧e= .returned val∧v.den β' (kd (cq d hp)) val∧cN W bP β₀ β' (cq d hp) w'∧dx β β' (kd hp) (kd (cq d hp))
def put(st:St)(dst:Option Tmp)(v:LV)(hp:Hp):St:=match dst with
 |some d=>⟨st.fr.set d v,hp⟩
 |none=>⟨st.fr,hp⟩
theorem Rel.put{W:World}{bP:Hp}{β₀ β β':Env}{st:St}{a:Act}{w w':World}(h:Rel W bP β₀ β st a w){dst:Option Tmp}{v:LV}{val:Value}{hp:Hp} (hv:v.den β' (kd hp) val) (hh:cN W bP β₀ β' hp w') (ha:dx β β' (kd st.hp) (kd hp)):Rel W bP β₀ β' (put st dst v hp) (a.put dst val) w':=by
 have hfr:dC (LV.den β' (kd hp)) st.fr a.tmps.toList:=h.fr.imp fun _ _=>LV.gB ha;cases dst with
 |none=>exact⟨h.defers,hfr,hh⟩
 |some d=>exact⟨h.defers,by
   show dC (LV.den β' (kd hp)) (st.fr.set d v) (a.tmps.setIfInBounds d val).toList;rw[Array.toList_setIfInBounds];exact hfr.set d hv,hh⟩
def C2:LV→Option (FuncId×List LV)
 | .one (.sc (.gm (.func (.func f) fs cs)))=>if fs.isEmpty&&cs.isEmpty then some (f,[])else none
 | .one (.sc (.WR g b o))=>some (g,[.one (.sc (.ptr b o))])
 |_=>none
theorem Se{β:Env}{L:Nat→Option Kd}{x:LV}{v:Value}{f:FuncId}{ex:List LV}(h:C2 x=some (f,ex))(hd:x.den β L v):∃cs:List Value,v= .func (.func f) #[] cs.toArray∧dC (LV.den β L) ex cs:=by
 unfold C2 at h;split at h
 ·split at h
  ·rename_i aMo;simp only[Option.some.injEq,Prod.mk.injEq]at h;obtain⟨rfl,rfl⟩:=h;simp at aMo;obtain⟨rfl,rfl⟩:=aMo;exact⟨[],hd.2,.nil⟩
  ·cases h
 ·simp only[Option.some.injEq,Prod.mk.injEq]at h;obtain⟨rfl,rfl⟩:=h;exact⟨[_],hd.2,.cons ⟨hd.1,rfl⟩ .nil⟩
 ·cases h
def vV(P:Program)(G:C1)(id:Nat)(e:Operand→LV)(op:Op):Ask Out:=match op with
 | .call c=>match c.callee with
  | .builtin b=>(arb P id b c.argTypes.toList (c.args.toList.map e)).map Out.of
  | .value f=>match C2 (e f)with
   |some (f,ex)=>G.run f id (c.args.toList.map e++ex)
   |none=>.ret .fail
  |_=>.ret .fail
 |op=>(iD P id e op).map Out.of
def ka(P:Program)(G:C1)(h:Option Bool)(id:Nat)(e:Operand→LV)(op:Op):Ask Out:=match h,op with
 |some v,.pick c x y=>match e c with
  | .one (.sc (.bool t))=>.ret (.bN (some (t.val=v)) (if v then e x else e y) [])
  |_=>.ret .fail
 |_,op=>vV P G id e op
theorem afy{P:Program}{G:C1}(hG:GOk P G){id:Nat}{st:St}{o:Oper}(hf:((vV P G id (ev st) o.op).val st.hp).fresh id st.hp){K:LV→List (Nat×bE)→Prop}(h:((vV P G id (ev st) o.op).val st.hp).holds K) {W:World} {bP:Hp} {β₀ β:Env} {a:Act} {w:World} (hr:Rel W bP β₀ β st a w) {next:Act→World→Prop} {Q:Exit→Act→World→Prop} (hn:∀v d β' a' w',K v d→Rel W bP β₀ β' (put st o.dst v (cq d st.hp)) a' w'→next a' w'):o.wp P a w next Q:=by
 unfold vV at h hf;split at h
 ·rename_i c hc;have dt:dC (LV.den β (kd st.hp)) (c.args.toList.map (ev st)) (c.args.toList.map a.eval):=dC.of_map _ _ _ fun x _=>cF hr x;have e2:(c.args.toList.map a.eval).toArray=c.args.map a.eval:=by rw[← Array.toList_map,Array.toArray_toList]
  simp only[hc]at hf;split at h
  ·rename_i b hb;simp only[hb]at hf;rw[Ask.fc]at h hf;cases hs:(arb P id b c.argTypes.toList (c.args.toList.map (ev st))).val st.hp with
   |none=>rw[hs]at h;exact h.elim
   |some r=>
    obtain⟨q,v,d⟩:=r;rw[hs]at h hf;obtain⟨hq,hk⟩:=h;obtain⟨β',w',val,h1,h2,h3,h4⟩:=aMn hr hs hq (fun⟨x,hx⟩=>hf id x hx (Nat.le_refl _)) dt o.type (c.args.map fun| .const _=>true|_=>false);rw[e2,Array.toArray_toList]at h1;have gp:(execOp a.eval o).run P w= .ok (.value val) w':=by
     simp only[execOp,hc,resolve,hb,Sem.run_bind,Sem.run_pure,Result.andThen_ok,invoke];exact h1
    unfold Oper.wp;rw[gp];exact hn v d β' _ w' hk (hr.put (dst:=o.dst) h2 h3 h4)
  ·rename_i x hx;simp only[hx]at hf;split at h
   ·rename_i f ex hfn;simp only[hfn]at hf;obtain⟨cs,e,hex⟩:=Se hfn (cF hr x);have azI:=hG.calls f id _ _ hf K h W bP β₀ β w _ hr.heap (dt.append hex);have e3:(c.args.toList.map a.eval++cs).toArray=c.args.map a.eval++cs.toArray:=(by rw[← List.append_toArray,e2]);rw[e3]at azI;unfold Oper.wp;rcases azI with⟨val,h1,v,d,a2H,β',hk,he,h3,h4,h5⟩|⟨h1,h2⟩
    ·have gp:(execOp a.eval o).run P w= .ok (.value val) w:=by
      simp only[execOp,hc,resolve,hx,e,Deferred.ofValue,Sem.run_bind,Sem.run_pure,Result.andThen_ok,invoke,Array.empty_append];exact h1
     rw[gp];cases he;exact hn v d β' _ w hk (hr.put (dst:=o.dst) h3 h4 h5)
    ·have gp:(execOp a.eval o).run P w= .ok (.enter f (c.args.map a.eval++cs.toArray)) w:=by
      simp only[execOp,hc,resolve,hx,e,Deferred.ofValue,Sem.run_bind,Sem.run_pure,Result.andThen_ok,invoke,Array.empty_append,h1]
     rw[gp];refine h2.mono ?_;rintro e w' ⟨v,d,val,β',hk,rfl,h3,h4,h5⟩;exact hn v d β' _ w' hk (hr.put (dst:=o.dst) h3 h4 h5)
   ·exact h.elim
  ·exact h.elim
 ·rename_i rC;have hf':((iD P id (ev st) o.op).map Out.of).val st.hp |>.fresh id st.hp:=by
   split at hf
   ·rename_i c hc;exact absurd hc (rC c)
   ·exact hf
  rw[Ask.fc]at h hf';cases hs:(iD P id (ev st) o.op).val st.hp with
  |none=>rw[hs]at h;exact h.elim
  |some r=>
   obtain⟨q,v,d⟩:=r;rw[hs]at h hf';obtain⟨hq,hk⟩:=h;obtain⟨β',w',r,val,h1,h2,h3,h4,h5⟩:=aq9 hs (fun⟨x,hx⟩=>hf' id x hx (Nat.le_refl _)) hq W bP β₀ β a w hr;have:=hn v d β' _ w' hk (hr.put (dst:=o.dst) h3 h4 h5);unfold Oper.wp;rw[h1];rcases h2 with rfl|⟨rfl,rfl⟩
   ·exact this
   ·exact this
theorem OB{P:Program}{G:C1}(hG:GOk P G){g:Option Bool}{id:Nat}{st:St}{o:Oper}(hf:((ka P G g id (ev st) o.op).val st.hp).fresh id st.hp){K:LV→List (Nat×bE)→Prop}(h:((ka P G g id (ev st) o.op).val st.hp).holds K) {W:World} {bP:Hp} {β₀ β:Env} {a:Act} {w:World} (hr:Rel W bP β₀ β st a w) {next:Act→World→Prop} {Q:Exit→Act→World→Prop} (hn:∀v d β' a' w',K v d→Rel W bP β₀ β' (put st o.dst v (cq d st.hp)) a' w'→next a' w'):o.wp P a w next Q:=by
 unfold ka at h hf;split at h
 ·rename_i b c x y ho;split at h
  ·rename_i t ht;obtain⟨hq,hk⟩:=h;have htb:t.val=b:=hq;have hc:=cF hr c;rw[ht]at hc;have e:a.eval c= .bool t.val:=hc;have gp:(execOp a.eval o).run P w= .ok (.value (if b then a.eval x else a.eval y)) w:=by
    simp[execOp,ho,e,asBool,htb]
   unfold Oper.wp;rw[gp];refine hn _ _ β _ w hk (hr.put (dst:=o.dst) (hp:=st.hp) ?_ hr.heap (dx.refl _ _));cases b
   ·exact cF hr y
   ·exact cF hr x
  ·exact h.elim
 ·rename_i rC;have hf':((vV P G id (ev st) o.op).val st.hp).fresh id st.hp:=by
   split at hf
   ·rename_i b c x y ho;exact absurd ho (rC b c x y rfl)
   ·exact hf
  exact afy hG hf' h hr hn
def gd(st:St)(ops:Array Oper)(o:Oper):Option SB:=match o.guard with
 |none=>some (.lit true)
 |some (j,cS)=>match(ops[j]?).bind (·.dst)with
  |none=>some (.lit false)
  |some d=>match st.fr[d]? with
   |some (.one (.sc (.bool (.lit b))))=>some (.lit (b==cS))
   |some (.one (.sc (.bool (.sym b))))=>some (.sym (b==cS))
   |some (.dB _)=>some (.lit false)
   |some (.one (.sc (.int _ _)))=>some (.lit false)
   |none=>some (.lit false)
   |_=>none
theorem Aj{W:World}{bP:Hp}{β₀ β:Env}{st:St}{a:Act}{w:World}(h:Rel W bP β₀ β st a w){ops:Array Oper}{o:Oper}{b:SB} (hb:gd st ops o=some b):Region.wanted o (yielded ops a.tmps)=b.val:=by
 unfold gd at hb;unfold Region.wanted;split at hb
 ·rename_i hg;simp at hb;subst hb;simp[hg,SB.val]
 ·rename_i j cS hg;simp only[hg];unfold yielded;split at hb
  ·rename_i hd;simp at hb;subst hb;simp[hd,SB.val]
  ·rename_i d hd;simp only[hd,Option.bind_some];have hlen:=h.fr.length;split at hb
   ·rename_i x hx;obtain⟨v,hv,C3⟩:=h.fr.get hx;have hv':a.tmps[d]? =some v:=(by simpa using hv);have e:v= .bool x:=C3;simp at hb;subst hb;simp[hv',e,SB.val]
   ·rename_i x hx;obtain⟨v,hv,C3⟩:=h.fr.get hx;have hv':a.tmps[d]? =some v:=(by simpa using hv);have e:v= .bool x:=C3;simp at hb;subst hb;simp[hv',e,SB.val]
   ·rename_i l hx;obtain⟨v,hv,vs,e,_⟩:=h.fr.get hx;have hv':a.tmps[d]? =some v:=(by simpa using hv);simp at hb;subst hb;simp[hv',e,SB.val]
   ·rename_i k i hx;obtain⟨v,hv,C3⟩:=h.fr.get hx;have hv':a.tmps[d]? =some v:=(by simpa using hv);have e:v= .int k i.val:=C3;simp at hb;subst hb;simp[hv',e,SB.val]
   ·rename_i hx;have hv':a.tmps[d]? =none:=by
     have:=List.getElem?_eq_none_iff.1 hx;rw[Array.getElem?_eq_none_iff,← Array.length_toList];omega
    simp at hb;subst hb;simp[hv',SB.val]
   ·simp at hb
abbrev C4:=List (Tmp×Bool)
def known:C4→Tmp→Option Bool
 | [],_=>none
 |(d,v)::l,t=>if d=t then some v else known l t
def forget(a:C4):Option Tmp→C4
 |none=>a
 |some d=>a.filter fun p=>p.1!=d
def qs(a:C4)(st:St)(ops:Array Oper)(o:Oper):Option SB:=match o.guard with
 |none=>some (.lit true)
 |some (j,cS)=>match(ops[j]?).bind (·.dst)with
  |none=>some (.lit false)
  |some d=>match known a d with
   |some v=>some (.lit (v==cS))
   |none=>gd st ops o
def C5(a:C4)(ops:Array Oper)(o:Oper)(v:Bool):C4:=match o.guard with
 |none=>a
 |some (j,cS)=>match(ops[j]?).bind (·.dst)with
  |none=>a
  |some d=>(d,v==cS)::a
def nt(a:C4)(st:St):Prop:=∀d v,known a d=some v→∃x:SB,st.fr[d]? =some (.one (.sc (.bool x)))∧x.val=v
theorem Ib{a:C4}{e d:Tmp}{v:Bool}(h:known (forget a (some e)) d=some v):d≠e∧known a d=some v:=by
 induction a with
 |nil=>simp[forget,known]at h
 |cons p a ih=>
  obtain⟨t,u⟩:=p;simp only[forget,List.filter_cons]at h ih;split at h
  ·rename_i ko;simp only[known]at h ⊢;split at h
   ·rename_i htd;subst htd;simp at h ko;exact⟨ko,by simp[h]⟩
   ·rename_i htd;rw[if_neg htd];exact ih h
  ·rename_i ko;simp at ko;subst ko;obtain⟨h1,h2⟩:=ih h;exact⟨h1,by simp only[known,if_neg (Ne.symm h1)];exact h2⟩
theorem nt.put{a:C4}{st:St}(h:nt a st){dst:Option Tmp}{v:LV}{hp:Hp}:nt (forget a dst) (put st dst v hp):=by
 intro d u hd;cases dst with
 |none=>exact h d u hd
 |some e=>
  obtain⟨h1,h2⟩:=Ib hd;obtain⟨x,hx,hv⟩:=h d u h2;exact⟨x,by simp only[Ev.put];rw[List.getElem?_set_ne (Ne.symm h1)];exact hx,hv⟩
theorem C6{a:C4}{st:St}(h:nt a st){ops:Array Oper}{o:Oper}{b:SB}(hb:qs a st ops o=some b):∃b',gd st ops o=some b'∧b'.val=b.val:=by
 unfold qs at hb;split at hb
 ·rename_i hg;simp at hb;subst hb;exact⟨.lit true,by simp[gd,hg],rfl⟩
 ·rename_i j cS hg;split at hb
  ·rename_i hd;simp at hb;subst hb;exact⟨.lit false,by simp[gd,hg,hd],rfl⟩
  ·rename_i d hd;split at hb
   ·rename_i v hk;simp at hb;subst hb;obtain⟨x,hx,hv⟩:=h d v hk;cases x with
    |lit x=>exact⟨.lit (x==cS),by simp[gd,hg,hd,hx],by simp only[SB.val]at hv ⊢;rw[hv]⟩
    |sym x=>exact⟨.sym (x==cS),by simp[gd,hg,hd,hx],by simp only[SB.val]at hv ⊢;rw[hv]⟩
   ·exact⟨b,hb,rfl⟩
theorem vW{a:C4}{st:St}(h:nt a st){ops:Array Oper}{o:Oper}{b:Bool}(hb:qs a st ops o=some (.sym b)):nt (C5 a ops o b) st:=by
 unfold qs at hb;split at hb
 ·simp at hb
 ·rename_i j cS hg;split at hb
  ·simp at hb
  ·rename_i d hd;have hl:C5 a ops o b=(d,b==cS)::a:=(by simp only[C5,hg,hd]);rw[hl];split at hb
   ·simp at hb
   ·intro e v he;simp only[known]at he;split at he
    ·rename_i hde;subst hde;simp at he;subst he;simp only[gd,hg,hd]at hb;split at hb<;>simp at hb;rename_i x hx;subst hb;exact⟨.sym x,hx,by cases x<;>cases cS<;>rfl⟩
    ·exact h e v he
inductive cT where
 |bN (e:Exit) (st:St)
 |ite (b:Bool) (t e:cT)
 |need (p:Prop) (r:cT)
 |fail
def cT.sat(Q:Exit→St→Prop):cT→Prop
 | .bN e st=>Q e st
 | .ite b t e=>(b=true→t.sat Q)∧(b=false→e.sat Q)
 | .need p r=>p∧r.sat Q
 | .fail=>False
def cT.bind(f:St→cT):cT→cT
 | .bN .normal st=>f st
 | .bN e st=>.bN e st
 | .ite b t e=>.ite b (t.bind f) (e.bind f)
 | .need p r=>.need p (r.bind f)
 | .fail=>.fail
def cT.block(id:Nat):cT→cT
 | .bN (.exit i) st=>if i=id then .bN .normal st else .bN (.exit i) st
 | .bN e st=>.bN e st
 | .ite b t e=>.ite b (t.block id) (e.block id)
 | .need p r=>.need p (r.block id)
 | .fail=>.fail
def cT.scope:cT→cT
 | .bN (.goto _) _=>.fail
 | .bN e st=>.bN e st
 | .ite b t e=>.ite b t.scope e.scope
 | .need p r=>.need p r.scope
 | .fail=>.fail
def cT.iC(q:Option Prop)(r:cT):cT:=match q with
 |none=>r
 |some p=>.need p r
theorem cT.gf{Q Q':Exit→St→Prop}(hq:∀e st,Q e st→Q' e st):∀ {r:cT},r.sat Q→r.sat Q'
 | .bN _ _,h=>hq _ _ h
 | .ite _ _ _,h=>⟨fun e=>cT.gf hq (h.1 e),fun e=>cT.gf hq (h.2 e)⟩
 | .need _ _,h=>⟨h.1,cT.gf hq h.2⟩
 | .fail,h=>h
theorem nb{q:Option Prop}{r:cT}{R:Exit→St→Prop}(h:(r.iC q).sat R):iC q∧r.sat R:=by
 cases q with
 |none=>exact⟨trivial,h⟩
 |some p=>exact h
def rE(W:World)(bP:Hp)(β₀:Env)(R:Exit→St→Prop):Exit→Act→World→Prop:=fun e a w=>∃st β,R e st∧Rel W bP β₀ β st a w
structure Alt where
 f:Bool→Hp→cT→cT→cT
 yes:∀ {m:Hp} {t e:cT} {R:Exit→St→Prop} {W:World} {β₀:Env},(f true m t e).sat R→∃R',t.sat R'∧∀e a w,rE W m β₀ R' e a w→rE W m β₀ R e a w
 no:∀ {m:Hp} {t e:cT} {R:Exit→St→Prop} {W:World} {β₀:Env},(f false m t e).sat R→∃R',e.sat R'∧∀e a w,rE W m β₀ R' e a w→rE W m β₀ R e a w
def fork:Alt where
 f b _ t e:=.ite b t e
 yes h:=⟨_,h.1 rfl,fun _ _ _ h=>h⟩
 no h:=⟨_,h.2 rfl,fun _ _ _ h=>h⟩
structure FX where
 r:List Nat
 d:List (Nat×bE)
 v:LV
 re:Hp→Out×List Nat
abbrev FP:=Option FX
def FX.w(f:FX):List Nat:=f.d.map (·.1)
def ab7(a:Ask Out)(hp:Hp)(v:LV)(d:List (Nat×bE)):FP:=some ⟨a.log hp,d,v,fun h=>(a.val h,a.log h)⟩
def Out.tocT(dr:Bool)(k:LV→List (Nat×bE)→cT):Out→cT
 | .bN q v d=>(k v d).iC q
 | .ite b x y=>if dr then .fail else .ite b (x.tocT dr k) (y.tocT dr k)
 | .fail=>.fail
def qt(k:C4):Op→Option Bool
 | .pick (.tmp d) _ _=>known k d
 |_=>none
def pG(P:Program)(G:C1)(k:C4)(id:Nat)(e:Operand→LV)(op:Op):Ask Out:=match qt k op,op with
 |some v,.pick _ x y=>.ret (.bN none (if v then e x else e y) [])
 |_,_=>vV P G id e op
def lf(P:Program)(G:C1)(A:Alt)(m:Hp)(dr:Bool)(C7:List FP→Option (Option Prop))(ops:Array Oper):List Oper→C4→List FP→St→cT
 | [],_,acc,st=>match C7 acc with
  |some q=>(cT.bN .normal st).iC q
  |none=>.fail
 |o::rest,k,acc,st=>
  match qs k st ops o with
  |some (.lit true)=>((pG P G k st.hp.length (ev st) o.op).val st.hp).tocT dr fun v d=>
    lf P G A m dr C7 ops rest (forget k o.dst) (acc++ [ab7 (pG P G k st.hp.length (ev st) o.op) st.hp v d]) (put st o.dst v (cq d st.hp))
  |some (.lit false)=>lf P G A m dr C7 ops rest (forget k o.dst) (acc++ [none]) (put st o.dst (.dB []) st.hp)
  |some (.sym b)=>A.f b m
    (((pG P G (C5 k ops o true) st.hp.length (ev st) o.op).val st.hp).tocT dr fun v d=>
      lf P G A m dr C7 ops rest (forget (C5 k ops o true) o.dst) (acc++ [ab7 (pG P G (C5 k ops o true) st.hp.length (ev st) o.op) st.hp v d]) (put st o.dst v (cq d st.hp)))
    (lf P G A m dr C7 ops rest (forget (C5 k ops o false) o.dst) (acc++ [none]) (put st o.dst (.dB []) st.hp))
  |none=>.fail
theorem je{hp:Hp}{j:Nat}(h:hp.length≤j):kd hp j=none:=by
 unfold kd;rw[List.getElem?_eq_none h]
theorem vX(hp:Hp)(d:List (Nat×bE)):W6 hp.length hp d:=fun _ _ _ h=>je h
theorem y8(hp:Hp):∀o:Out,o.fresh hp.length hp
 | .bN _ _ d=>vX hp d
 | .ite _ x y=>⟨y8 hp x,y8 hp y⟩
 | .fail=>trivial
theorem sd{dr:Bool}{k:LV→List (Nat×bE)→cT}{R:Exit→St→Prop}:∀ {o:Out},(o.tocT dr k).sat R→o.holds fun v d=>(k v d).sat R
 | .bN q v d,h=>nb h
 | .ite b x y,h=>by
  simp only[Out.tocT]at h;split at h
  ·exact h.elim
  ·exact⟨fun e=>sd (h.1 e),fun e=>sd (h.2 e)⟩
 | .fail,h=>h
theorem Sf{k:LV→List (Nat×bE)→cT}{R:Exit→St→Prop}{o:Out}(h:(o.tocT true k).sat R):∃q v d,o= .bN q v d∧iC q∧(k v d).sat R:=by
 cases o with
 |bN q v d=>exact⟨q,v,d,rfl,(nb h).1,(nb h).2⟩
 |ite b x y=>simp[Out.tocT,cT.sat]at h
 |fail=>exact h.elim
theorem W7{P:Program}{G:C1}{k:C4}{id:Nat}{st:St}{op:Op}(hk:nt k st):(pG P G k id (ev st) op=ka P G (qt k op) id (ev st) op)∨∃v p,pG P G k id (ev st) op= .ret (.bN none v [])∧ka P G (qt k op) id (ev st) op= .ret (.bN (some p) v [])∧p:=by
 unfold pG;split
 ·rename_i v c x y hh;right;unfold qt at hh;split at hh
  ·rename_i d x' y' e;simp at e;obtain⟨rfl,rfl,rfl⟩:=e;obtain⟨t,ht,hv⟩:=hk _ _ hh;have hev:ev st (.tmp d)= .one (.sc (.bool t)):=(by simp[ev,List.getD_eq_getElem?_getD,ht]);refine⟨_,t.val=v,rfl,?_,hv⟩;simp only[ka,qt,hh,hev]
  ·cases hh
 ·rename_i rC;left;unfold ka;split
  ·rename_i v c x y hh;exact absurd hh (by intro h;exact rC v c x y h rfl)
  ·rfl
theorem afz{P:Program}{G:C1}(hG:GOk P G){k:C4}{id:Nat}{st:St}{o:Oper}(hk:nt k st)(hf:∀o:Out,o.fresh id st.hp){K:LV→List (Nat×bE)→Prop}(h:((pG P G k id (ev st) o.op).val st.hp).holds K) {W:World} {bP:Hp} {β₀ β:Env} {a:Act} {w:World} (hr:Rel W bP β₀ β st a w) {next:Act→World→Prop} {Q:Exit→Act→World→Prop} (hn:∀v d β' a' w',K v d→Rel W bP β₀ β' (put st o.dst v (cq d st.hp)) a' w'→next a' w'):o.wp P a w next Q:=by
 have hs:((ka P G (qt k o.op) id (ev st) o.op).val st.hp).holds K:=by
  rcases W7 (P:=P) (G:=G) (id:=id) (op:=o.op) hk with e|⟨v,p,e1,e2,hp⟩
  ·rw[← e];exact h
  ·rw[e1]at h;rw[e2];exact⟨hp,h.2⟩
 exact OB hG (hf _) hs hr hn
theorem C8{P:Program}{G:C1}{A:Alt}(hG:GOk P G){W:World}{m:Hp}{β₀:Env}{dr:Bool}{C7:List FP→Option (Option Prop)}{ops:Array Oper}{Q:Exit→Act→World→Prop}:
  ∀ (l:List Oper) (k:C4) (acc:List FP) (st:St) (R:Exit→St→Prop),nt k st→(lf P G A m dr C7 ops l k acc st).sat R→(∀e a w,rE W m β₀ R e a w→Q e a w)→
   ∀β a w,Rel W m β₀ β st a w→wpList P ops Q l a w
 | [],k,acc,st,R,hk,h,hq,β,a,w,hr=>by
  simp only[lf]at h;split at h
  ·exact hq _ _ _ ⟨st,β,(nb h).2,hr⟩
  ·exact h.elim
 |o::rest,k,acc,st,R,hk,h,hq,β,a,w,hr=>by
  have gp:∀ (k:C4) (acc:LV→List (Nat×bE)→List FP),nt k st→∀ (R:Exit→St→Prop),(((pG P G k st.hp.length (ev st) o.op).val st.hp).tocT dr fun v d=>
    lf P G A m dr C7 ops rest (forget k o.dst) (acc v d) (put st o.dst v (cq d st.hp))).sat R→(∀e a w,rE W m β₀ R e a w→Q e a w)→o.wp P a w (wpList P ops Q rest) Q:=by
   intro k acc hk R h hq;exact afz hG hk (y8 _) (sd h) hr fun v d β' a' w' hkv rL=>C8 hG rest _ _ _ R hk.put hkv hq β' a' w' rL
  have OC:∀ (k:C4) (acc:List FP),nt k st→∀ (R:Exit→St→Prop),(lf P G A m dr C7 ops rest (forget k o.dst) acc (put st o.dst (.dB []) st.hp)).sat R→(∀e a w,rE W m β₀ R e a w→Q e a w)→
    wpList P ops Q rest (a.put o.dst undef) w:=by
   intro k acc hk R h hq;exact C8 hG rest _ _ _ R hk.put h hq β _ w (hr.put (dst:=o.dst) ⟨[],rfl,.nil⟩ hr.heap (dx.refl _ _))
  simp only[lf]at h;cases hb:qs k st ops o with
  |none=>simp only[hb]at h;exact h.elim
  |some b=>
   obtain⟨b',mw,hbv⟩:=C6 hk hb;have hw:=Aj hr mw;rw[hbv]at hw;simp only[hb]at h;simp only[wpList,hw];cases b with
   |lit b=>
    cases b with
    |true=>exact .inl (gp k _ hk R h hq)
    |false=>exact OC k _ hk R h hq
   |sym b=>
    cases b with
    |true=>
     obtain⟨R',h1,h2⟩:=A.yes (W:=W) (β₀:=β₀) h;exact .inl (gp _ _ (vW hk hb) R' h1 fun e a w hp=>hq e a w (h2 e a w hp))
    |false=>
     obtain⟨R',h1,h2⟩:=A.no (W:=W) (β₀:=β₀) h;exact OC _ _ (vW hk hb) R' h1 fun e a w hp=>hq e a w (h2 e a w hp)
theorem put_comm(st:St){x y:Option Tmp}(v u:LV)(h1 h2 h:Hp)(ko:∀d,x=some d→y≠some d):put (put st x v h1) y u h=put (put st y u h2) x v h:=by
 cases x with
 |none=>cases y<;>rfl
 |some d=>
  cases y with
  |none=>rfl
  |some e=>
   have:d≠e:=fun he=>ko d rfl (he▸rfl);simp only[put];rw[List.set_comm _ _ this]
theorem ab8{ops:Array Oper}{o:Oper}{t:Tmp}(h:Operand.tmp t∈o.op.operands):t∈o.looksAt ops:=by
 unfold Oper.looksAt;rw[List.mem_append];refine .inl (List.mem_filterMap.2 ⟨.tmp t,by simpa using h,rfl⟩)
theorem aD5{st:St}{dst:Option Tmp}{v:LV}{hp:Hp}{x:Operand}(h:∀d,dst=some d→x≠ .tmp d):ev (put st dst v hp) x=ev st x:=by
 cases dst with
 |none=>cases x<;>rfl
 |some d=>
  cases x with
  |tmp t=>
   have ko:t≠d:=fun e=>h d rfl (e▸rfl);simp only[ev,put,List.getD_eq_getElem?_getD];rw[List.getElem?_set_ne (Ne.symm ko)]
  |_=>rfl
theorem pH{ops:Array Oper}{o:Oper}{dst:Option Tmp}(h:∀d,dst=some d→d∉o.looksAt ops){st:St}{v:LV}{hp:Hp}:∀x∈o.op.operands,ev (put st dst v hp) x=ev st x:=fun _x hx=>aD5 fun d hd e=>h d hd (ab8 (e▸hx))
theorem ik{ops:Array Oper}{o:Oper}{dst:Option Tmp}(h:∀d,dst=some d→d∉o.looksAt ops){st:St}{v:LV}{hp:Hp}:gd (put st dst v hp) ops o=gd st ops o:=by
 unfold gd;cases hg:o.guard with
 |none=>rfl
 |some p=>
  obtain⟨j,cS⟩:=p;cases ht:(ops[j]?).bind (·.dst)with
  |none=>simp[ht]
  |some t=>
   have:(put st dst v hp).fr[t]? =st.fr[t]? :=by
    cases dst with
    |none=>rfl
    |some d=>
     have ko:d≠t:=fun e=>h d rfl (by subst e;simp[Oper.looksAt,hg,ht]);simp only[put];rw[List.getElem?_set_ne ko]
   simp only[ht,this]
theorem Sh{P:Program}{id:Nat}{e e2:Operand→LV}{op:Op}(h:∀x∈op.operands,e2 x=e x):iD P id e2 op=iD P id e op:=by
 cases op<;>simp only[Op.operands]at h<;>(try rfl)
 case move x=>simp only[iD,h x (by simp)]
 case assign x=>simp only[iD,h x (by simp)]
 case pick c x y=>simp only[iD,h c (by simp),h x (by simp),h y (by simp)]
 case makeFunc fn fs cs=>
  have e':cs.toList.map e2=cs.toList.map e:=List.map_congr_left fun x hx=>h x (Array.mem_append.2 (.inr (Array.mem_toList_iff.1 hx)));cases fn<;>simp only[iD,e']
 case box t x=>simp only[iD,h x (by simp)]
 case build t parts=>
  have e:(parts.toList.map fun p=>(p.1,e2 p.2))=parts.toList.map fun p=>(p.1,e p.2):=List.map_congr_left fun p hp=>by
   rw[h p.2 (by rw[List.mem_toArray];exact List.mem_map.2 ⟨p,hp,rfl⟩)]
  simp only[iD,e]
 case buildSlice t len parts=>
  have e:(parts.toList.map fun p=>(p.1,e2 p.2))=parts.toList.map fun p=>(p.1,e p.2):=List.map_congr_left fun p hp=>by
   rw[h p.2 (by rw[List.mem_toArray];exact List.mem_map.2 ⟨p,hp,rfl⟩)]
  simp only[iD,e]
 case load t x=>simp only[iD,h x (by simp)]
 case store t x y=>simp only[iD,h x (by simp),h y (by simp)]
 case nilCheck x=>simp only[iD,h x (by simp)]
 case binOp op t x y yt=>simp only[iD,h x (by simp),h y (by simp)]
 case unOp op t x=>simp only[iD,h x (by simp)]
 case convert s d x=>simp only[iD,h x (by simp)]
 case sliceToArrayPointer t x=>simp only[iD,h x (by simp)]
 case makeSlice t x y=>simp only[iD,h x (by simp),h y (by simp)]
 case slice t x lo hi mx=>
  have e1:lo.map e2=lo.map e:=by cases lo<;>simp_all
  have e3:hi.map e2=hi.map e:=by cases hi<;>simp_all
  have e4:mx.map e2=mx.map e:=by cases mx<;>simp_all
  simp only[iD,h x (by simp),e1,e3,e4]
 case fieldAddr s x f=>simp only[iD,h x (by simp)]
 case field s x f=>simp only[iD,h x (by simp)]
 case indexAddr t x i=>simp only[iD,h x (by simp),h i (by simp)]
 case index t x i=>simp only[iD,h x (by simp),h i (by simp)]
 case extract x i=>simp only[iD,h x (by simp)]
theorem OD{P:Program}{G:C1}{id:Nat}{e e2:Operand→LV}{op:Op}(h:∀x∈op.operands,e2 x=e x):vV P G id e2 op=vV P G id e op:=by
 unfold vV;split
 ·rename_i c;have dt:c.args.toList.map e2=c.args.toList.map e:=List.map_congr_left fun x hx=>h x (by simp only[Op.operands,Call.operands,Array.mem_append];exact .inr (by simpa using hx));rw[dt];split
  ·rfl
  ·rename_i f hf;rw[h f (by simp[Op.operands,Call.operands,hf])]
  ·rfl
 ·rw[Sh h]
theorem eT{P:Program}{G:C1}{g:Option Bool}{id:Nat}{e e2:Operand→LV}{op:Op}(h:∀x∈op.operands,e2 x=e x):ka P G g id e2 op=ka P G g id e op:=by
 unfold ka;split
 ·rename_i v c x y;rw[h c (by simp[Op.operands]),h x (by simp[Op.operands]),h y (by simp[Op.operands])]
 ·exact OD h
theorem Ic{hp:Hp}{i k:Nat}{x:bE}(h:k≠i):dp (cL hp i x) k=dp hp k:=by
 unfold dp;split
 ·rename_i y hy;rw[(eh hp i x k y h).1 hy]
 ·rename_i hn;split
  ·rename_i y hy;exact absurd ((eh hp i x k y h).2 hy) (hn y)
  ·rfl
theorem gJ:∀ {d:List (Nat×bE)} {hp:Hp} {k:Nat},k∉d.map (·.1)→dp (cq d hp) k=dp hp k
 | [],_,_,_=>rfl
 |(i,x)::d,hp,k,h=>by
  simp only[List.map_cons,List.mem_cons,not_or]at h;show dp (cq d (cL hp i x)) k=_;rw[gJ h.2,Ic h.1]
theorem GJ(hp:Hp)(k:Nat):kd hp k=(dp hp k).map bE.kd:=by
 unfold kd dp;cases hp[k]? with
 |none=>rfl
 |some x=>cases x<;>rfl
theorem ab9{d:List (Nat×bE)}{hp:Hp}{k:Nat}(h:k∉d.map (·.1)):kd (cq d hp) k=kd hp k:=by rw[GJ,GJ,gJ h]
theorem sg:∀ {d:List (Nat×bE)} {hp:Hp} {k:Nat},kd (cq d hp) k=none→kd hp k=none
 | [],_,_,h=>h
 |(i,x)::d,hp,k,h=>by
  have:=sg (d:=d) (hp:=cL hp i x) h;rw[fB]at this;split at this
  ·cases this
  ·exact this
theorem uO:∀ (hp:Hp) (i j:Nat) (a b:bE),i≠j→cL (cL hp i a) j b=cL (cL hp j b) i a
 | [],0,0,_,_,h=>absurd rfl h
 | [],0,j+1,a,b,_=>by simp[cL]
 | [],i+1,0,a,b,_=>by simp[cL]
 | [],i+1,j+1,a,b,h=>by simp only[cL];rw[uO [] i j a b (by omega)]
 |_::_,0,0,_,_,h=>absurd rfl h
 |_::_,0,j+1,_,_,_=>by simp[cL]
 |_::_,i+1,0,_,_,_=>by simp[cL]
 |_::l,i+1,j+1,a,b,h=>by simp only[cL];rw[uO l i j a b (by omega)]
theorem vY:∀ (d:List (Nat×bE)) (hp:Hp) (i:Nat) (x:bE),i∉d.map (·.1)→cq d (cL hp i x)=cL (cq d hp) i x
 | [],_,_,_,_=>rfl
 |(j,y)::d,hp,i,x,h=>by
  simp only[List.map_cons,List.mem_cons,not_or]at h;show cq d (cL (cL hp i x) j y)=cL (cq d (cL hp j y)) i x;rw[uO _ _ _ _ _ h.1,vY d _ _ _ h.2]
theorem Ak:∀ (d d2:List (Nat×bE)) (hp:Hp),(∀k∈d.map (·.1),k∉d2.map (·.1))→cq d2 (cq d hp)=cq d (cq d2 hp)
 | [],_,_,_=>rfl
 |(i,x)::d,d2,hp,h=>by
  show cq d2 (cq d (cL hp i x))=cq d (cL (cq d2 hp) i x);rw[Ak d d2 (cL hp i x) fun k hk=>h k (by simp[List.map_cons];exact .inr (by simpa using hk)),vY d2 _ _ _ (h i (by simp))]
def aMq(f:FX)(a:Ask Out):Prop:=∀h,(f.re h).2=a.log h∧∀v',(f.re h).1= .bN none v' []→∃q',a.val h= .bN q' v' []∧iC q'
theorem Al:∀ {d:List (Nat×bE)} {hp hp2:Hp} {k:Nat},k∈d.map (·.1)→dp (cq d hp) k=dp (cq d hp2) k
 |(i,x)::d,hp,hp2,k,h=>by
  show dp (cq d (cL hp i x)) k=dp (cq d (cL hp2 i x)) k;by_cases hk:k∈d.map (·.1)
  ·exact Al hk
  ·have e:k=i:=(by simpa [hk]using h);subst e;rw[gJ hk,gJ hk,tf (fR _ _ _),tf (fR _ _ _)]
def vZ(P:Program)(G:C1)(ops:Array Oper)(ids:Nat→Nat)(fp:Nat→FP)(i:Nat)(st tm:St):Prop:=∃o b,ops[i]? =some o∧gd st ops o=some b∧((b.val=true∧∃q v d g f,(ka P G g (ids i) (ev st) o.op).val st.hp= .bN q v d∧iC q∧(fp i=some f∧f.r=(ka P G g (ids i) (ev st) o.op).log st.hp∧f.d=d∧f.v=v∧aMq f (ka P G g (ids i) (ev st) o.op))∧W6 (ids i) st.hp d∧tm=put st o.dst v (cq d st.hp))∨(b.val=false∧fp i=none∧tm=put st o.dst (.dB []) st.hp))
def Si:FP→FP→Bool
 |some f1,some f2=>f1.w.all (fun k=> !(f2.r.contains k)&& !(f2.w.contains k))&&f2.w.all fun k=> !(f1.r.contains k)
 |_,_=>true
def afA(fj fi:FP):Prop:=∃a b,fj=some a∧fi=some b∧a.d= []∧(∀k∈a.r,k∈b.w)∧a.re (cq b.d [])=(.bN none a.v [],a.r)
theorem gw{st:St}{dst:Option Tmp}{v:LV}{hp:Hp}:(put st dst v hp).hp=hp:=by cases dst<;>rfl
noncomputable section
variable {P:Program} {G:C1} {ops:Array Oper} {ids:Nat→Nat} {fp:Nat→FP}
theorem aca{i j:Nat}{oi oj:Oper}(C9:ops[i]? =some oi)(Ie:ops[j]? =some oj)(hap:oj.apart ops oi=true)(Sj:Si (fp j) (fp i)=true∨afA (fp j) (fp i)) {st s1 s2:St} (h1:vZ P G ops ids fp j st s1) (h2:vZ P G ops ids fp i s1 s2):∃s1',vZ P G ops ids fp i st s1'∧vZ P G ops ids fp j s1' s2:=by
 obtain⟨a1,a2,a3⟩:=Oper.apart_spec hap;obtain⟨o,bj,ho,hwj,h1⟩:=h1;rw[Ie]at ho;simp at ho;subst ho;obtain⟨o,bi,ho,hwi,h2⟩:=h2;rw[C9]at ho;simp at ho;subst ho;rcases h1 with⟨hbj,qj,vj,dj,gj,Fj,ej,nj,⟨fj,fj1,fj2,fj3,fj4⟩,rj,rfl⟩|⟨hbj,fj,rfl⟩
 ·rw[ik a1]at hwi;have evi:∀x∈oi.op.operands,ev (put st oj.dst vj (cq dj st.hp)) x=ev st x:=pH a1;rcases h2 with⟨hbi,qi,vi,di,gi,Fi,ei,ni,⟨fi,fi1,fi2,fi3,fi4⟩,ri,rfl⟩|⟨hbi,fi,rfl⟩
  ·rw[eT evi,gw]at ei fi1;rw[eT evi]at fi4;rw[gw]at ri;have evj:∀x∈oj.op.operands,ev (put st oi.dst vi (cq di st.hp)) x=ev st x:=pH a3;rw[fj,fi]at Sj;rcases Sj with Sj|aMu
   ·simp only[Si,FX.w,Bool.and_eq_true,List.all_eq_true,Bool.not_eq_true',List.contains_eq_mem,decide_eq_false_iff_not,fj1,fj2,fi1,fi2]at Sj;obtain⟨d1,d2⟩:=Sj;have hli:∀k∈(ka P G gi (ids i) (ev st) oi.op).log (cq dj st.hp),dp st.hp k=dp (cq dj st.hp) k:=fun k hk=>(gJ fun hm=>(d1 k hm).1 hk).symm;obtain⟨k1,k2⟩:=Ask.HV _ hli;have hlj:∀k∈(ka P G gj (ids j) (ev st) oj.op).log st.hp,dp (cq di st.hp) k=dp st.hp k:=fun k hk=>gJ fun hm=>d2 k hm hk;obtain⟨k3,k4⟩:=Ask.HV _ hlj
    refine⟨put st oi.dst vi (cq di st.hp),⟨oi,bi,C9,hwi,.inl ⟨hbi,qi,vi,di,gi,Fi,by rw[k1];exact ei,ni,⟨fi,by rw[k2];exact fi1,fi2,fi3,fi4⟩,fun k x hk hle=>sg (ri k x hk hle),rfl⟩⟩,
     ⟨oj,bj,Ie,by rw[ik a3];exact hwj,.inl ⟨hbj,qj,vj,dj,gj,Fj,by rw[eT evj,gw,k3];exact ej,nj,⟨fj,by rw[eT evj,gw,k4];exact fj1,fj2,fj3,by rw[eT evj];exact fj4⟩,?_,?_⟩⟩⟩
    ·intro k x hk hle;rw[gw,ab9 (fun hm=>(d1 k (List.mem_map.2 ⟨_,hk,rfl⟩)).2 hm)];exact rj k x hk hle
    ·rw[gw,gw,Ak dj di st.hp (fun k hk=>(d1 k hk).2)];exact put_comm st vj vi _ _ _ a2
   ·obtain⟨a,b,e1,e2,h3,h4,h5⟩:=aMu;simp at e1 e2;subst e1 e2;rw[fj2]at h3;subst h3;simp only[FX.w,fi2]at h4 h5;rw[fj3]at h5;obtain⟨m1,m2⟩:=fj4 (cq di []);rw[h5]at m1 m2;obtain⟨q',m3,m4⟩:=m2 vj rfl;simp only at m1;have aXv:∀k∈(ka P G gj (ids j) (ev st) oj.op).log (cq di []),dp (cq di st.hp) k=dp (cq di []) k:=fun k hk=>Al (h4 k (by rw[m1];exact hk));obtain⟨k3,k4⟩:=Ask.HV _ aXv
    refine⟨put st oi.dst vi (cq di st.hp),⟨oi,bi,C9,hwi,.inl ⟨hbi,qi,vi,di,gi,Fi,ei,ni,⟨fi,fi1,fi2,fi3,fi4⟩,ri,rfl⟩⟩,
     ⟨oj,bj,Ie,by rw[ik a3];exact hwj,.inl ⟨hbj,q',vj,[],gj,Fj,by rw[eT evj,gw,k3];exact m3,m4,⟨fj,by rw[eT evj,gw,k4];exact m1,fj2,fj3,by rw[eT evj];exact fj4⟩,fun k x hk=>(by cases hk),?_⟩⟩⟩
    rw[gw,gw];exact put_comm st vj vi _ _ _ a2
  ·refine⟨put st oi.dst (.dB []) st.hp,⟨oi,bi,C9,hwi,.inr ⟨hbi,fi,rfl⟩⟩,⟨oj,bj,Ie,by rw[ik a3];exact hwj,.inl ⟨hbj,qj,vj,dj,gj,Fj,?_,nj,⟨fj,?_,fj2,fj3,?_⟩,?_,?_⟩⟩⟩
   ·rw[eT (pH a3),gw];exact ej
   ·rw[eT (pH a3),gw];exact fj1
   ·rw[eT (pH a3)];exact fj4
   ·rw[gw];exact rj
   ·rw[gw,gw];exact put_comm st vj _ _ _ _ a2
 ·rw[ik a1]at hwi;have evi:∀x∈oi.op.operands,ev (put st oj.dst (.dB []) st.hp) x=ev st x:=pH a1;rcases h2 with⟨hbi,qi,vi,di,gi,Fi,ei,ni,⟨fi,fi1,fi2,fi3,fi4⟩,ri,rfl⟩|⟨hbi,fi,rfl⟩
  ·rw[eT evi,gw]at ei fi1;rw[eT evi]at fi4;rw[gw]at ri;refine⟨put st oi.dst vi (cq di st.hp),⟨oi,bi,C9,hwi,.inl ⟨hbi,qi,vi,di,gi,Fi,ei,ni,⟨fi,fi1,fi2,fi3,fi4⟩,ri,rfl⟩⟩,⟨oj,bj,Ie,by rw[ik a3];exact hwj,.inr ⟨hbj,fj,?_⟩⟩⟩;rw[gw,gw];exact put_comm st _ vi _ _ _ a2
  ·refine⟨put st oi.dst (.dB []) st.hp,⟨oi,bi,C9,hwi,.inr ⟨hbi,fi,rfl⟩⟩,⟨oj,bj,Ie,by rw[ik a3];exact hwj,.inr ⟨hbj,fj,?_⟩⟩⟩;rw[gw,gw];exact put_comm st _ _ _ _ _ a2
end
inductive v5 (P:Program) (G:C1) (ops:Array Oper) (ids:Nat→Nat) (fp:Nat→FP):List Nat→St→St→Prop where
 |nil {st}:v5 P G ops ids fp [] st st
 |cons {i l st s s'} (h:vZ P G ops ids fp i st s) (t:v5 P G ops ids fp l s s'):v5 P G ops ids fp (i::l) st s'
def pJ(acc:List Nat)(o:Oper):Nat:=o.after.toList.foldr (fun e s=>if Region.binds .any e then s|||2 ^ e.on|||acc.getD e.on 0 else s) 0
def v7:List Oper→List Nat→List Nat
 | [],acc=>acc
 |o::l,acc=>v7 l (acc++ [pJ acc o])
theorem Gd{acc:List Nat}{o:Oper}{j:Nat}(h:Nat.testBit (pJ acc o) j=true):∃e∈o.after,Region.binds .any e=true∧(e.on=j∨Nat.testBit (acc.getD e.on 0) j=true):=by
 unfold pJ at h
 have key:∀l:List Edge,Nat.testBit (l.foldr (fun e s=>if Region.binds .any e then s|||2 ^ e.on|||acc.getD e.on 0 else s) 0) j=true→
   ∃e∈l,Region.binds .any e=true∧(e.on=j∨Nat.testBit (acc.getD e.on 0) j=true):=by
  intro l;induction l with
  |nil=>intro h;simp at h
  |cons e l ih=>
   intro h;simp only[List.foldr_cons]at h;split at h
   ·rename_i hb;simp only[Nat.testBit_or,Bool.or_eq_true,Nat.testBit_two_pow,decide_eq_true_eq]at h;rcases h with(h|h)|h
    ·obtain⟨e',h1,h2⟩:=ih h;exact⟨e',by simp[h1],h2⟩
    ·exact⟨e,by simp,hb,.inl h⟩
    ·exact⟨e,by simp,hb,.inr h⟩
   ·obtain⟨e',h1,h2⟩:=ih h;exact⟨e',by simp[h1],h2⟩
 obtain⟨e,h1,h2⟩:=key _ h;exact⟨e,by simpa using h1,h2⟩
def v8:List Oper→Nat→Bool
 | [],_=>true
 |o::l,n=>(o.after.all fun e=> !Region.binds .any e||decide (e.on<n))&&v8 l (n+1)
def Sk(ops:Array Oper)(oj oi:Oper)(bit:Bool)(fj fi:FP):Option (List Prop):=if bit||(oj.apart ops oi&&Si fj fi)then some []
 else if oj.apart ops oi then match fj,fi with
  |some a,some b=>if a.d.isEmpty&&a.r.all (fun k=>b.w.contains k)then some [a.re (cq b.d [])=(.bN none a.v [],a.r)]else none
  |_,_=>none
 else none
def aD8:List Prop→Prop
 | []=>True
 | [p]=>p
 |p::l=>p∧aD8 l
theorem OE:∀ {l:List Prop} {p:Prop},aD8 l→p∈l→p
 | [x],p,h,hp=>by
  rcases List.mem_cons.1 hp with rfl|hp
  ·exact h
  ·cases hp
 |x::y::l,p,h,hp=>by
  rcases List.mem_cons.1 hp with rfl|hp
  ·exact h.1
  ·exact OE (l:=y::l) h.2 hp
theorem OF{ops:Array Oper}{oj oi:Oper}{bit:Bool}{fj fi:FP}{l:List Prop}(h:Sk ops oj oi bit fj fi=some l)(hp:∀p∈l,p):bit=true∨(oj.apart ops oi=true∧(Si fj fi=true∨afA fj fi)):=by
 unfold Sk at h;split at h
 ·rename_i hc;simp only[Bool.or_eq_true,Bool.and_eq_true]at hc;exact hc.imp id fun hc=>⟨hc.1,.inl hc.2⟩
 ·split at h
  ·rename_i ha;split at h
   ·rename_i a b _;split at h
    ·rename_i hc;simp only[Bool.and_eq_true,List.all_eq_true,List.contains_eq_mem,decide_eq_true_eq,List.isEmpty_iff]at hc;cases h;exact .inr ⟨ha,.inr ⟨a,b,rfl,rfl,hc.1,hc.2,hp _ (List.mem_cons_self ..)⟩⟩
    ·cases h
   ·cases h
  ·cases h
def AV(ops:Array Oper)(oi:Oper)(mask:Nat)(fi:FP):List Oper→List FP→Nat→Option (List Prop)
 | [],_,_=>some []
 |oj::l,fs,j=>match Sk ops oj oi (Nat.testBit mask j) (fs.headD none) fi with
  |some a=>match AV ops oi mask fi l fs.tail (j+1)with
   |some b=>some (a++b)
   |none=>none
  |none=>none
def sh(ops:Array Oper)(ms:List Nat)(fs:List FP):List Oper→Nat→Option (List Prop)
 | [],_=>some []
 |o::l,i=>match AV ops o (ms.getD i 0) (fs.getD i none) (ops.toList.take i) fs 0 with
  |some a=>match sh ops ms fs l (i+1)with
   |some b=>some (a++b)
   |none=>none
  |none=>none
structure aD9 (ops:Array Oper) (M:Nat→Nat) (fp:Nat→FP) (i:Nat) (o:Oper):Prop where
 early:∀e∈o.after,Region.binds .any e=true→e.on<i
 aMv:∀j oj,j<i→ops[j]? =some oj→Nat.testBit (M i) j=true∨(oj.apart ops o=true∧(Si (fp j) (fp i)=true∨afA (fp j) (fp i)))
 waits:∀j,Nat.testBit (M i) j=true→∃e∈o.after,Region.binds .any e=true∧(e.on=j∨Nat.testBit (M e.on) j=true)
theorem v9{ops:Array Oper}{oi:Oper}{mask:Nat}{fi:FP}:∀ (l:List Oper) (fs:List FP) (k:Nat) {ps:List Prop},AV ops oi mask fi l fs k=some ps→(∀p∈ps,p)→∀j oj,l[j]? =some oj→Nat.testBit mask (k+j)=true∨(oj.apart ops oi=true∧(Si (fs.getD j none) fi=true∨afA (fs.getD j none) fi))
 | [],_,_,_,_,_,j,oj,hj=>by simp at hj
 |o::l,fs,k,ps,h,hp,j,oj,hj=>by
  simp only[AV]at h;split at h
  ·rename_i a ha;split at h
   ·rename_i b hb;cases h;cases j with
    |zero=>
     simp at hj;subst hj;have e:fs.headD none=fs.getD 0 none:=(by cases fs<;>rfl);rw[← e];exact OF ha fun p hm=>hp p (by simp[hm])
    |succ j=>
     have:=v9 l fs.tail (k+1) hb (fun p hm=>hp p (by simp[hm])) j oj (by simpa using hj);have e:fs.tail.getD j none=fs.getD (j+1) none:=(by cases fs<;>simp[List.getD]);rw[e]at this;rwa [show k+1+j=k+(j+1) by omega]at this
   ·cases h
  ·cases h
theorem uq{ops:Array Oper}{ms:List Nat}{fs:List FP}:∀ (l:List Oper) (k:Nat) {ps:List Prop},(∀j,l[j]? =ops[k+j]?)→sh ops ms fs l k=some ps→(∀p∈ps,p)→∀i o,k≤i→ops[i]? =some o→∀j oj,j<i→ops[j]? =some oj→Nat.testBit (ms.getD i 0) j=true∨(oj.apart ops o=true∧(Si (fs.getD j none) (fs.getD i none)=true∨afA (fs.getD j none) (fs.getD i none)))
 | [],k,_,hl,_,_,i,o,hi,ho,_,_,_,_=>by
  have:=hl (i-k);rw[show k+(i-k)=i by omega,ho]at this;simp at this
 |x::l,k,ps,hl,h,hp,i,o,hi,ho,j,oj,hj,Ie=>by
  simp only[sh]at h;split at h
  ·rename_i a ha;split at h
   ·rename_i b hb;cases h;by_cases e:i=k
    ·subst e;have hx:o=x:=by
      have:=hl 0;rw[Nat.add_zero,ho]at this;simpa using this.symm
     subst hx;have:=v9 _ _ 0 ha (fun p hm=>hp p (by simp[hm])) j oj (by rw[List.getElem?_take];simp[hj,Ie]);rwa [Nat.zero_add]at this
    ·exact uq l (k+1) (fun j=>by have:=hl (j+1);simpa [Nat.add_assoc,Nat.add_comm 1 j]using this) hb (fun p hm=>hp p (by simp[hm])) i o (by omega) ho j oj hj Ie
   ·cases h
  ·cases h
theorem Da{ops:Array Oper}:∀ (l before:List Oper) (acc:List Nat),before++l=ops.toList→acc.length=before.length→v8 l before.length=true→
  (∀M:Nat→Nat,(∀i,M i=(v7 l acc).getD i 0)→∀i o,before.length≤i→ops[i]? =some o→(∀e∈o.after,Region.binds .any e=true→e.on<i)∧
   (∀j,Nat.testBit (M i) j=true→∃e∈o.after,Region.binds .any e=true∧(e.on=j∨Nat.testBit (M e.on) j=true)))∧(∀i,i<acc.length→(v7 l acc).getD i 0=acc.getD i 0)
 | [],before,acc,hb,ha,_=>by
  have hs:before.length=ops.size:=by
   have:=congrArg List.length hb;simpa using this
  refine⟨fun M hM i o hi ho=>?_,fun _ _=>rfl⟩;have:=(Array.getElem?_eq_some_iff.1 ho).1;omega
 |o::l,before,acc,hb,ha,h=>by
  simp only[v8,Bool.and_eq_true]at h;obtain⟨h1,h4⟩:=h;obtain⟨i1,i3⟩:=Da l (before++ [o]) (acc++ [pJ acc o]) (by simpa using hb) (by simp[ha]) (by simpa using h4);have hmk:v7 (o::l) acc=v7 l (acc++ [pJ acc o]):=rfl
  have aMw:∀i,i<acc.length→(v7 (o::l) acc).getD i 0=acc.getD i 0:=fun i hi=>by
   rw[hmk,i3 i (by simp;omega)];simp only[List.getD_eq_getElem?_getD];rw[List.getElem?_append_left hi]
  refine⟨fun M hM i oi hi ho=>?_,aMw⟩;by_cases hie:i=before.length
  ·subst hie;have hoo:oi=o:=by
    have e:ops.toList[before.length]? =some oi:=(by simpa using ho);rw[← hb]at e;simp at e;exact e.symm
   subst hoo;have hMi:M before.length=pJ acc oi:=by
    rw[hM,hmk,i3 _ (by simp[ha])];simp only[List.getD_eq_getElem?_getD];rw[← ha];simp
   have afB:∀e∈oi.after,Region.binds .any e=true→e.on<before.length:=by
    intro e he W8;have:=Array.all_eq_true'.1 h1 e he;simpa [W8]using this
   refine⟨afB,fun j hj=>?_⟩;rw[hMi]at hj;obtain⟨e,he,W8,hor⟩:=Gd hj;refine⟨e,he,W8,hor.imp id fun ht=>?_⟩;rw[hM,aMw _ (by rw[ha];exact afB e he W8)];exact ht
  ·exact i1 M (fun i=>hM i) i oi (by simp;omega) ho
noncomputable section
variable {P:Program} {G:C1} {ops:Array Oper} {ids:Nat→Nat} {M:Nat→Nat} {fp:Nat→FP}
theorem Dd(hM:∀i o,ops[i]? =some o→aD9 ops M fp i o){i:Nat}{oi:Oper}(C9:ops[i]? =some oi):
  ∀ (l1 l2:List Nat) (st sf:St),(∀j∈l1,j<i∧Nat.testBit (M i) j=false)→v5 P G ops ids fp (l1++i::l2) st sf→∃s,vZ P G ops ids fp i st s∧v5 P G ops ids fp (l1++l2) s sf
 | [],l2,st,sf,_,h=>by
  cases h with
  |cons h t=>exact⟨_,h,t⟩
 |j::l1,l2,st,sf,hl,h=>by
  cases h with
  |cons h t=>
   rename_i s;obtain⟨s1,h1,h2⟩:=Dd hM C9 l1 l2 s sf (fun k hk=>hl k (by simp[hk])) t;obtain⟨hji,arh⟩:=hl j (by simp);have aXx:=h;obtain⟨oj,_,Ie,_⟩:=aXx;have hp:=((hM i oi C9).aMv j oj hji Ie).resolve_left (by rw[arh];simp);obtain⟨s1',k1,k2⟩:=aca C9 Ie hp.1 hp.2 h h1;exact⟨s1',k1,.cons k2 h2⟩
theorem afC(hG:GOk P G){i:Nat}{st s:St}(h:vZ P G ops ids fp i st s){W:World}{bP:Hp}{β₀ β:Env}{a:Act}{w:World}(hr:Rel W bP β₀ β st a w) {K:Act→World→Prop} {Q:Exit→Act→World→Prop} (hK:∀β' a' w',Rel W bP β₀ β' s a' w'→K a' w'):wpOp P ops Q i K a w:=by
 obtain⟨o,b,ho,hw,h⟩:=h;unfold wpOp;simp only[ho,Aj hr hw];rcases h with⟨hb,q,v,d,g,_,e,hq,_,hf,rfl⟩|⟨hb,_,rfl⟩
 ·rw[if_pos hb]
  exact .inl (OB hG (K:=fun v' d'=>v'=v∧d'=d) (by rw[e];exact hf) (by rw[e];exact⟨hq,rfl,rfl⟩) hr fun v' d' β' a' w' hk rL=>by
   obtain⟨rfl,rfl⟩:=hk;exact hK β' a' w' rL)
 ·rw[if_neg (by rw[hb];simp)];exact hK β _ w (hr.put (dst:=o.dst) ⟨[],rfl,.nil⟩ hr.heap (dx.refl _ _))
def et(ops:Array Oper)(eR:Array Bool):List Nat:=(List.range ops.size).filter fun i=> !eR.getD i true
theorem Ge(hG:GOk P G)(hM:∀i o,ops[i]? =some o→aD9 ops M fp i o) {W:World} {bP:Hp} {β₀:Env} {Q:Exit→Act→World→Prop} {sf:St} (hQ:∀β a w,Rel W bP β₀ β sf a w→Q .normal a w):∀ (fuel:Nat) (eR:Array Bool) (st:St) (β:Env) (a:Act) (w:World),eR.size=ops.size→(et ops eR).length=fuel→(∀j oj,ops[j]? =some oj→eR.getD j false=true→∀e∈oj.after,Region.binds .any e=true→eR.getD e.on false=true)→v5 P G ops ids fp (et ops eR) st sf→Rel W bP β₀ β st a w→wpAny P .any ops Q fuel eR a w:=by
 intro fuel;induction fuel with
 |zero=>
  intro eR st β a w hsz hlen Ig hex hr;have h0:et ops eR= []:=List.eq_nil_of_length_eq_zero hlen;rw[h0]at hex;cases hex;refine⟨?_,hQ β a w hr⟩;refine List.eq_nil_iff_forall_not_mem.2 fun i hi=>?_;have:i∈et ops eR:=by
   simp only[Region.ready,List.mem_filter,Bool.and_eq_true]at hi;simp only[et,List.mem_filter];exact⟨hi.1,hi.2.1⟩
  rw[h0]at this;cases this
 |succ fuel ih=>
  intro eR st β a w hsz hlen Ig hex hr;constructor
  ·intro ns;exfalso;cases hu:et ops eR with
   |nil=>rw[hu]at hlen;simp at hlen
   |cons i l=>
    have aXy:i∈et ops eR:=(by rw[hu];simp);have hi:i<ops.size∧(!eR.getD i true)=true:=by
     simpa [et]using aXy
    have Sl:∀j,j<i→eR.getD j true=true:=by
     intro j hj;refine Classical.byContradiction fun rC=>?_;have hjm:j∈et ops eR:=by
      simp only[et,List.mem_filter,List.mem_range];exact⟨by omega,by simpa using rC⟩
     have hpw:(et ops eR).Pairwise (· < ·):=(List.pairwise_lt_range (n:=ops.size)).filter _;rw[hu]at hpw hjm;rcases List.mem_cons.1 hjm with rfl|hjm
     ·omega
     ·have:=List.rel_of_pairwise_cons hpw hjm;omega
    have rL:i∈Region.ready .any ops eR:=by
     rw[mem_ready];obtain⟨oi,C9⟩:∃oi,ops[i]? =some oi:=⟨ops[i]'hi.1,by simp[hi.1]⟩;refine⟨by simpa using hi.2,oi,C9,fun e he hb=>?_⟩;have iZ:=(hM i oi C9).early e he hb;have h1:=Sl e.on iZ;have:e.on<eR.size:=(by omega);simp[this]at h1 ⊢;exact h1
    rw[ns]at rL;cases rL
  ·intro i hi;obtain⟨hun,oi,C9,HW⟩:=mem_ready.1 hi;have aXz:i<ops.size:=(Array.getElem?_eq_some_iff.1 C9).1;have aMx:i∈et ops eR:=by
    simp only[et,List.mem_filter,List.mem_range];exact⟨aXz,by simpa using hun⟩
   obtain⟨l1,l2,hl⟩:=List.append_of_mem aMx;have hpw:(et ops eR).Pairwise (· < ·):=(List.pairwise_lt_range (n:=ops.size)).filter _;rw[hl]at hpw hex;obtain⟨p1,p2,p3⟩:=List.pairwise_append.1 hpw;have aMy:∀j,eR.getD j false=false→∀i oi,ops[i]? =some oi→(∀e∈oi.after,Region.binds .any e=true→eR.getD e.on false=true)→Nat.testBit (M i) j=false:=by
    intro j hj i;induction i using Nat.strongRecOn with
    |_ i ih2=>
     intro oi C9 HW;refine Bool.eq_false_iff.2 fun ht=>?_;obtain⟨e,he,hb,hor⟩:=(hM i oi C9).waits j ht;have hle:=HW e he hb;rcases hor with rfl|ht'
     ·rw[hj]at hle;cases hle
     ·have iZ:=(hM i oi C9).early e he hb
      obtain⟨oe,hoe⟩:∃oe,ops[e.on]? =some oe:=⟨ops[e.on]'(by have:=(Array.getElem?_eq_some_iff.1 C9).1;omega),by
       have:=(Array.getElem?_eq_some_iff.1 C9).1;simp[show e.on<ops.size by omega]⟩
      have:=ih2 e.on iZ oe hoe (Ig e.on oe hoe hle);rw[this]at ht';cases ht'
   have hl1:∀j∈l1,j<i∧Nat.testBit (M i) j=false:=by
    intro j hj;refine⟨p3 j hj i (by simp),aMy j ?_ i oi C9 HW⟩;have hjm:j∈et ops eR:=(by rw[hl];simp[hj]);simp only[et,List.mem_filter,List.mem_range]at hjm;have:j<eR.size:=(by omega);simp[this]at hjm ⊢;exact hjm.2
   obtain⟨s,h1,h2⟩:=Dd hM C9 l1 l2 st sf hl1 hex;refine afC hG h1 hr fun β' a' w' rL=>?_;have F2:et ops (eR.setIfInBounds i true)=l1++l2:=by
    have e1:et ops (eR.setIfInBounds i true)=(et ops eR).filter (fun k=>k !=i):=by
     unfold et;rw[List.filter_filter];apply List.filter_congr;intro k hk;have px:k<ops.size:=List.mem_range.1 hk;by_cases hki:k=i
     ·subst hki;simp[Array.getD_eq_getD_getElem?,hsz,px]
     ·rw[getD_set_ne true (Ne.symm hki)];simp[hki]
    rw[e1,hl,List.filter_append];have f1:l1.filter (fun k=>k !=i)=l1:=List.filter_eq_self.2 fun k hk=>(by have:=(hl1 k hk).1;simp;omega);have f2:(i::l2).filter (fun k=>k !=i)=l2:=by
     rw[List.filter_cons];simp only[bne_self_eq_false,Bool.false_eq_true,if_false]
     exact List.filter_eq_self.2 fun k hk=>by
      have:=List.rel_of_pairwise_cons p2 hk;simp;omega
    rw[f1,f2]
   refine ih (eR.setIfInBounds i true) s β' a' w' (by simpa using hsz) ?_ ?_ (by rw[F2];exact h2) rL
   ·rw[F2];have:(et ops eR).length=(l1++i::l2).length:=(by rw[hl]);simp at this ⊢;omega
   ·intro j oj Ie hlj e he hb;by_cases hji:j=i
    ·subst hji;rw[C9]at Ie;simp at Ie;subst Ie;exact getD_set_true (HW e he hb)
    ·rw[getD_set_ne false (Ne.symm hji)]at hlj;exact getD_set_true (Ig j oj Ie hlj e he hb)
end
def AW(ops:Array Oper)(fs:List FP):Option (Option Prop):=match sh ops (v7 ops.toList []) fs ops.toList 0 with
 |some []=>some none
 |some l=>some (some (aD8 l))
 |none=>none
theorem Ih{ops:Array Oper}{fs:List FP}{q:Option Prop}(h:AW ops fs=some q)(hq:iC q):∃l,sh ops (v7 ops.toList []) fs ops.toList 0=some l∧∀p∈l,p:=by
 unfold AW at h;split at h
 ·rename_i h1;exact⟨[],h1,fun p hp=>by cases hp⟩
 ·rename_i l _ h1;cases h;exact⟨l,h1,fun p hp=>OE hq hp⟩
 ·cases h
def Ii(P:Program)(G:C1)(ops:Array Oper)(C7:List FP→Option (Option Prop))(W:World)(m:Hp)(β₀:Env)(R:Exit→St→Prop)(acc:List FP)(k n:Nat)(st:St):Prop:=∃ (ids:Nat→Nat) (fs:List FP) (sf:St),fs.length=n∧v5 P G ops ids (fun i=>fs.getD (i-k) none) (List.range' k n) st sf∧(∃q,C7 (acc++fs)=some q∧iC q)∧(∀β a w,Rel W m β₀ β sf a w→rE W m β₀ R .normal a w)
theorem Am{P:Program}{G:C1}{A:Alt}{m:Hp}{C7:List FP→Option (Option Prop)}{ops:Array Oper}{W:World}{β₀:Env}:
  ∀ (l:List Oper) (k:Nat) (B:C4) (acc:List FP) (st:St) (R:Exit→St→Prop),(∀j,l[j]? =ops[k+j]?)→nt B st→(lf P G A m true C7 ops l B acc st).sat R→
   Ii P G ops C7 W m β₀ R acc k l.length st
 | [],k,B,acc,st,R,_,_,h=>by
  simp only[lf]at h;split at h
  ·rename_i q hc;exact⟨fun _=>0,[],st,rfl,.nil,⟨q,by simpa using hc,(nb h).1⟩,fun β a w hr=>⟨st,β,(nb h).2,hr⟩⟩
  ·exact h.elim
 |o::rest,k,B,acc,st,R,hl,hB,h=>by
  have h0:ops[k]? =some o:=by simpa using(hl 0).symm
  have hl':∀j,rest[j]? =ops[k+1+j]? :=fun j=>by
   have:=hl (j+1);simpa [Nat.add_assoc,Nat.add_comm 1 j]using this
  have build:∀ (s:St) (f:FP),(∀ids fp,ids k=st.hp.length→fp k=f→vZ P G ops ids fp k st s)→
    ∀ (B:C4) (R':Exit→St→Prop),nt B s→(lf P G A m true C7 ops rest B (acc++ [f]) s).sat R'→(∀e a w,rE W m β₀ R' e a w→rE W m β₀ R e a w)→
    Ii P G ops C7 W m β₀ R acc k (o::rest).length st:=by
   intro s f De B R' hB hs hR;obtain⟨ids,fs,sf,e0,e1,e2,e3⟩:=Am rest (k+1) B (acc++ [f]) s R' hl' hB hs;refine⟨fun i=>if i=k then st.hp.length else ids i,f::fs,sf,by simp[e0],?_,by simpa using e2,fun β a w hr=>hR _ _ _ (e3 β a w hr)⟩;simp only[List.length_cons,List.range'_succ];refine .cons (De _ _ (if_pos rfl) (by simp)) ?_;have key:∀ (l:List Nat) (x y:St),(∀i∈l,k+1≤i)→v5 P G ops ids (fun i=>fs.getD (i-(k+1)) none) l x y→v5 P G ops (fun i=>if i=k then st.hp.length else ids i) (fun i=>(f::fs).getD (i-k) none) l x y:=by
    intro l x y ko hx;induction hx with
    |nil=>exact .nil
    |cons h t ih=>
     rename_i i l s1 s2 s3;refine .cons ?_ (ih fun i hi=>ko i (by simp[hi]));have hik:=ko i (by simp);unfold vZ at h ⊢;have e1:(f::fs).getD (i-k) none=fs.getD (i-(k+1)) none:=by
      rw[show i-k=(i-(k+1))+1 by omega];rfl
     have e2:(fun i=>if i=k then st.hp.length else ids i) i=ids i:=if_neg (by omega);simp only[e2,e1];exact h
   exact key _ _ _ (fun i hi=>by have:=List.mem_range'_1.1 hi;omega) e1
  have gp:∀ (b:SB),gd st ops o=some b→b.val=true→∀ (B:C4) (R':Exit→St→Prop),nt B st→(((pG P G B st.hp.length (ev st) o.op).val st.hp).tocT true fun v d=>
    lf P G A m true C7 ops rest (forget B o.dst) (acc++ [ab7 (pG P G B st.hp.length (ev st) o.op) st.hp v d]) (put st o.dst v (cq d st.hp))).sat R'→(∀e a w,rE W m β₀ R' e a w→rE W m β₀ R e a w)→Ii P G ops C7 W m β₀ R acc k (o::rest).length st:=by
   intro b hb hbv B R' hB hs hR;obtain⟨q,v,d,hst,n1,n2⟩:=Sf hs
   have hH:∃q',(ka P G (qt B o.op) st.hp.length (ev st) o.op).val st.hp= .bN q' v d∧iC q'∧(ka P G (qt B o.op) st.hp.length (ev st) o.op).log st.hp=(pG P G B st.hp.length (ev st) o.op).log st.hp∧
     ∀f:FX,ab7 (pG P G B st.hp.length (ev st) o.op) st.hp v d=some f→aMq f (ka P G (qt B o.op) st.hp.length (ev st) o.op):=by
    rcases W7 (P:=P) (G:=G) (id:=st.hp.length) (op:=o.op) hB with e|⟨v',p,e1,e2,hp⟩
    ·rw[← e];refine⟨q,hst,n1,rfl,fun f hf h=>?_⟩;simp only[ab7,Option.some.injEq]at hf;subst hf;exact⟨rfl,fun v' hv=>⟨none,hv,trivial⟩⟩
    ·rw[e1]at hst;simp only[Ask.val]at hst;cases hst;refine⟨some p,by rw[e2];rfl,hp,by rw[e1,e2];rfl,fun f hf h=>?_⟩;simp only[ab7,Option.some.injEq]at hf;subst hf;rw[e1,e2];refine⟨rfl,fun v' hv=>⟨some p,?_,hp⟩⟩;simp only[Ask.val,Out.bN.injEq]at hv;rw[← hv.2.1];rfl
   obtain⟨q',k1,k2,k3,k4⟩:=hH;exact build _ _ (fun ids fp arj hfp=>⟨o,b,h0,hb,.inl ⟨hbv,q',v,d,_,_,by rw[arj];exact k1,k2,⟨hfp,by rw[arj];exact k3.symm,rfl,rfl,by rw[arj];exact k4 _ rfl⟩,by rw[arj];exact vX _ _,rfl⟩⟩) _ R' hB.put n2 hR
  have OC:∀ (b:SB),gd st ops o=some b→b.val=false→∀ (B:C4) (R':Exit→St→Prop),nt B st→(lf P G A m true C7 ops rest (forget B o.dst) (acc++ [none]) (put st o.dst (.dB []) st.hp)).sat R'→
    (∀e a w,rE W m β₀ R' e a w→rE W m β₀ R e a w)→Ii P G ops C7 W m β₀ R acc k (o::rest).length st:=by
   intro b hb hbv B R' hB hs hR;exact build (put st o.dst (.dB []) st.hp) none (fun ids fp _ hfp=>⟨o,b,h0,hb,.inr ⟨hbv,hfp,rfl⟩⟩) _ R' hB.put hs hR
  simp only[lf]at h;cases hb0:qs B st ops o with
  |none=>simp only[hb0]at h;exact h.elim
  |some b=>
   obtain⟨b',hb,hbv⟩:=C6 hB hb0;simp only[hb0]at h;cases b with
   |lit b=>
    cases b with
    |true=>exact gp _ hb hbv B R hB h fun _ _ _ h=>h
    |false=>exact OC _ hb hbv B R hB h fun _ _ _ h=>h
   |sym b=>
    cases b with
    |true=>
     obtain⟨R',h1,h2⟩:=A.yes (W:=W) (β₀:=β₀) h;exact gp _ hb hbv _ R' (vW hB hb0) h1 h2
    |false=>
     obtain⟨R',h1,h2⟩:=A.no (W:=W) (β₀:=β₀) h;exact OC _ hb hbv _ R' (vW hB hb0) h1 h2
noncomputable section
variable {P:Program} {G:C1}
theorem Df(hG:GOk P G){A:Alt}(jy:P.follows .mixedOrders=true){m:Hp}{ops:Array Oper}{id:Nat}{st:St}(hd:v8 ops.toList 0=true){R:Exit→St→Prop} (h:(lf P G A m true (AW ops) ops ops.toList [] [] st).sat R) {W:World} {β₀:Env} {Q:Exit→Act→World→Prop} (hq:∀e a w,rE W m β₀ R e a w→Q e a w) {β:Env} {a:Act} {w:World} (hr:Rel W m β₀ β st a w):(Code.region id ops true).wp P Q a w:=by
 obtain⟨ids,fs,sf,e0,e1,⟨q,e2,e2'⟩,e3⟩:=Am (W:=W) (β₀:=β₀) ops.toList 0 [] [] st R (fun j=>by simp) (fun _ _ h=>by simp[known]at h) h;obtain⟨hE,_⟩:=Da (ops:=ops) ops.toList [] [] (by simp) rfl hd;obtain⟨ps,p1,p2⟩:=Ih (by simpa using e2) e2';have hM:∀i o,ops[i]? =some o→aD9 ops (fun i=>(v7 ops.toList []).getD i 0) (fun i=>fs.getD (i-0) none) i o:=by
  intro i o ho;obtain⟨k1,k2⟩:=hE _ (fun _=>rfl) i o (Nat.zero_le _) ho;exact⟨k1,fun j oj hj Ie=>uq ops.toList 0 (fun j=>by simp) p1 p2 i o (Nat.zero_le _) ho j oj hj Ie,k2⟩
 refine wp_region_any jy ?_;have F2:et ops (Array.replicate ops.size false)=List.range' 0 ops.toList.length:=by
  unfold et;rw[List.filter_eq_self.2 fun i hi=>?_]
  ·rw[List.range_eq_range'];simp
  ·have:=List.mem_range.1 hi;simp[this]
 refine Ge hG hM (ids:=ids) (sf:=sf) (fun β a w hr=>hq _ _ _ (e3 β a w hr)) ops.size _ st β a _ (by simp) (by rw[F2];simp) ?_ (by rw[F2];exact e1) ?_
 ·intro j oj _ hl;exfalso;by_cases hj:j<ops.size
  ·simp[hj]at hl
  ·simp[hj]at hl
 ·exact⟨hr.defers,hr.fr,hr.heap.drew _ _⟩
end
def afD:Nat→(St→cT)→St→cT
 |0,_,_=>.fail
 |k+1,f,st=>(f st).bind (afD k f)
def aEa:Nat:=100000
def Ex(P:Program)(m:Hp)(c:Code)(st:St)(r:cT):Prop:=∀ (W:World) (β₀:Env) (R:Exit→St→Prop) (Q:Exit→Act→World→Prop),r.sat R→(∀e a w,rE W m β₀ R e a w→Q e a w)→∀β a w,Rel W m β₀ β st a w→c.wp P Q a w
abbrev gW:=List (Nat×(St→cT))
def GK:gW→Nat→Option (St→cT)
 | [],_=>none
 |(i,f)::l,id=>if i=id then some f else GK l id
def cn(P:Program)(m:Hp)(LT:gW):Code→Prop
 | .seq a b| .cond _ a b=>cn P m LT a∧cn P m LT b
 | .block id c=>cn P m LT c∧∀f,GK LT id=some f→∀st,Ex P m c st (f st)
 | .loop c| .scope c=>cn P m LT c
 |_=>True
theorem cn.nil{P:Program}{m:Hp}:∀c:Code,cn P m [] c:=by
 intro c;induction c with
 |seq a b iha ihb=>exact⟨iha,ihb⟩
 |cond _ a b iha ihb=>exact⟨iha,ihb⟩
 |block id c ih=>exact⟨ih,fun f h=>by cases h⟩
 |loop c ih=>exact ih
 |scope c ih=>exact ih
 |_=>trivial
def Sm:Code→List (Nat×Code)
 | .seq a b| .cond _ a b=>Sm a++Sm b
 | .block id c=>(id,c)::Sm c
 | .loop c| .scope c=>Sm c
 |_=> []
theorem cn.of{P:Program}{m:Hp}{LT:gW}:∀ {c:Code},(∀id f c',GK LT id=some f→(id,c')∈Sm c→∀st,Ex P m c' st (f st))→cn P m LT c:=by
 intro c;induction c with
 |seq a b iha ihb=>exact fun h=>⟨iha fun id f c' hf hm=>h id f c' hf (List.mem_append_left _ hm),ihb fun id f c' hf hm=>h id f c' hf (List.mem_append_right _ hm)⟩
 |cond _ a b iha ihb=>exact fun h=>⟨iha fun id f c' hf hm=>h id f c' hf (List.mem_append_left _ hm),ihb fun id f c' hf hm=>h id f c' hf (List.mem_append_right _ hm)⟩
 |block id c ih=>exact fun h=>⟨ih fun id f c' hf hm=>h id f c' hf (List.mem_cons_of_mem _ hm),fun f hf=>h id f c hf (by simp[Sm])⟩
 |loop c ih=>exact fun h=>ih h
 |scope c ih=>exact fun h=>ih h
 |_=>exact fun _=>trivial
def exec(P:Program)(G:C1)(A:Alt)(m:Hp)(LT:gW):Code→St→cT
 | .skip,st=>.bN .normal st
 | .seq a b,st=>(exec P G A m LT a st).bind (exec P G A m LT b)
 | .cond c x y,st=>match ev st c with
  | .one (.sc (.bool (.lit true)))=>exec P G A m LT x st
  | .one (.sc (.bool (.lit false)))=>exec P G A m LT y st
  | .one (.sc (.bool (.sym b)))=>A.f b m (exec P G A m LT x st) (exec P G A m LT y st)
  |_=>.fail
 | .block id c,st=>match GK LT id with
  |some f=>(f st).block id
  |none=>(exec P G A m LT c st).block id
 | .exit id,st=>.bN (.exit id) st
 | .ret,st=>.bN .ret st
 | .label _,st=>.bN .normal st
 | .scope c,st=>(exec P G A m LT c st).scope
 | .loop c,st=>afD aEa (exec P G A m LT c) st
 | .region _ ops false,st=>lf P G A m false (fun _=>some none) ops ops.toList [] [] st
 | .region _ ops true,st=>if v8 ops.toList 0=true then lf P G A m true (AW ops) ops ops.toList [] [] st else .fail
 |_,_=>.fail
def aMz(R:Exit→St→Prop)(f:St→cT):Exit→St→Prop
 | .normal,st=>(f st).sat R
 |e,st=>R e st
theorem pK{f:St→cT}{R:Exit→St→Prop}:∀ {r:cT},(r.bind f).sat R→r.sat (aMz R f)
 | .bN .normal _,h=>h
 | .bN (.exit _) _,h=>h
 | .bN (.goto _) _,h=>h
 | .bN .ret _,h=>h
 | .bN (.panic _) _,h=>h
 | .bN .outgrown _,h=>h
 | .ite _ _ _,h=>⟨fun e=>pK (h.1 e),fun e=>pK (h.2 e)⟩
 | .need _ _,h=>⟨h.1,pK h.2⟩
 | .fail,h=>h
def Ij(R:Exit→St→Prop)(id:Nat):Exit→St→Prop
 | .exit i,st=>if i=id then R .normal st else R (.exit i) st
 |e,st=>R e st
theorem nc{id:Nat}{R:Exit→St→Prop}:∀ {r:cT},(r.block id).sat R→r.sat (Ij R id)
 | .bN (.exit i) st,h=>by
  simp only[cT.block]at h;show if i=id then R .normal st else R (.exit i) st
  split at h
  ·rename_i hi;rw[if_pos hi];exact h
  ·rename_i hi;rw[if_neg hi];exact h
 | .bN .normal _,h=>h
 | .bN (.goto _) _,h=>h
 | .bN .ret _,h=>h
 | .bN (.panic _) _,h=>h
 | .bN .outgrown _,h=>h
 | .ite _ _ _,h=>⟨fun e=>nc (h.1 e),fun e=>nc (h.2 e)⟩
 | .need _ _,h=>⟨h.1,nc h.2⟩
 | .fail,h=>h
def aXB(R:Exit→St→Prop):Exit→St→Prop
 | .goto _,_=>False
 |e,st=>R e st
theorem tn{R:Exit→St→Prop}:∀ {r:cT},r.scope.sat R→r.sat (aXB R)
 | .bN .normal _,h=>h
 | .bN (.exit _) _,h=>h
 | .bN (.goto _) _,h=>h
 | .bN .ret _,h=>h
 | .bN (.panic _) _,h=>h
 | .bN .outgrown _,h=>h
 | .ite _ _ _,h=>⟨fun e=>tn (h.1 e),fun e=>tn (h.2 e)⟩
 | .need _ _,h=>⟨h.1,tn h.2⟩
 | .fail,h=>h
theorem ark{P:Program}{G:C1}{A:Alt}(hG:GOk P G)(jy:P.follows .mixedOrders=true){W:World}{m:Hp}{LT:gW}{β₀:Env}:∀ (c:Code),cn P m LT c→∀ (st:St) (R:Exit→St→Prop) (Q:Exit→Act→World→Prop),(exec P G A m LT c st).sat R→(∀e a w,rE W m β₀ R e a w→Q e a w)→∀β a w,Rel W m β₀ β st a w→c.wp P Q a w:=by
 intro c;induction c with
 |skip=>intro hL st R Q h hq β a w hr;exact wp_skip (hq _ _ _ ⟨st,β,h,hr⟩)
 |exit id=>intro hL st R Q h hq β a w hr;exact wp_exit (hq _ _ _ ⟨st,β,h,hr⟩)
 |ret=>intro hL st R Q h hq β a w hr;exact wp_ret (hq _ _ _ ⟨st,β,h,hr⟩)
 |seq x y ihx ihy=>
  intro hL st R Q h hq β a w hr;refine wp_seq (ihx hL.1 st _ _ (pK h) ?_ β a w hr);rintro e a w ⟨s,β',h1,h2⟩;cases e with
  |normal=>exact ihy hL.2 s R Q h1 hq β' a w h2
  |exit _=>exact hq _ _ _ ⟨s,β',h1,h2⟩
  |goto _=>exact hq _ _ _ ⟨s,β',h1,h2⟩
  |ret=>exact hq _ _ _ ⟨s,β',h1,h2⟩
  |panic _=>exact hq _ _ _ ⟨s,β',h1,h2⟩
  |outgrown=>exact hq _ _ _ ⟨s,β',h1,h2⟩
 |cond c x y ihx ihy=>
  intro hL st R Q h hq β a w hr;have hc:=cF hr c;simp only[exec]at h;split at h
  ·rename_i he;rw[he]at hc;exact wp_cond_true hc (ihx hL.1 st R Q h hq β a w hr)
  ·rename_i he;rw[he]at hc;exact wp_cond_false hc (ihy hL.2 st R Q h hq β a w hr)
  ·rename_i b he;rw[he]at hc;cases b with
   |true=>
    obtain⟨R',h1,h2⟩:=A.yes (W:=W) (β₀:=β₀) h;exact wp_cond_true hc (ihx hL.1 st R' Q h1 (fun e a w hp=>hq e a w (h2 e a w hp)) β a w hr)
   |false=>
    obtain⟨R',h1,h2⟩:=A.no (W:=W) (β₀:=β₀) h;exact wp_cond_false hc (ihy hL.2 st R' Q h1 (fun e a w hp=>hq e a w (h2 e a w hp)) β a w hr)
  ·exact h.elim
 |block id c ih=>
  intro hL st R Q h hq β a w hr;have hin:∀Q',(∀e a w,rE W m β₀ (Ij R id) e a w→Q' e a w)→c.wp P Q' a w:=by
   intro Q' hq';simp only[exec]at h;split at h
   ·rename_i f hf;exact hL.2 f hf st W β₀ _ _ (nc h) hq' β a w hr
   ·exact ih hL.1 st _ _ (nc h) hq' β a w hr
  refine wp_block (hin _ ?_);rintro e a w ⟨s,β',h1,h2⟩;cases e with
  |exit i=>
   simp only[Ij]at h1;simp only[Exit.inBlock];split at h1
   ·rename_i hi;rw[if_pos hi];exact hq _ _ _ ⟨s,β',h1,h2⟩
   ·rename_i hi;rw[if_neg hi];exact hq _ _ _ ⟨s,β',h1,h2⟩
  |normal=>exact hq _ _ _ ⟨s,β',h1,h2⟩
  |goto _=>exact hq _ _ _ ⟨s,β',h1,h2⟩
  |ret=>exact hq _ _ _ ⟨s,β',h1,h2⟩
  |panic _=>exact hq _ _ _ ⟨s,β',h1,h2⟩
  |outgrown=>exact hq _ _ _ ⟨s,β',h1,h2⟩
 |loop c ih=>
  intro hL st R Q h hq β a w hr;have key:∀ (n:Nat) (st:St),(afD n (exec P G A m LT c) st).sat R→∀β a w,Rel W m β₀ β st a w→Code.rounds P c Q n a w:=by
   intro n;induction n with
   |zero=>intro st h;exact h.elim
   |succ n ihn=>
    intro st h β a w hr;rw[rounds_succ];refine ih hL st _ _ (pK h) ?_ β a w hr;rintro e a w ⟨s,β',h1,h2⟩;cases e with
    |normal=>exact ihn s h1 β' a w h2
    |exit _=>exact hq _ _ _ ⟨s,β',h1,h2⟩
    |goto _=>exact hq _ _ _ ⟨s,β',h1,h2⟩
    |ret=>exact hq _ _ _ ⟨s,β',h1,h2⟩
    |panic _=>exact hq _ _ _ ⟨s,β',h1,h2⟩
    |outgrown=>exact hq _ _ _ ⟨s,β',h1,h2⟩
  exact wp_loop_rounds aEa (key aEa st h β a w hr)
 |label l=>intro hL st R Q h hq β a w hr;exact wp_label (hq _ _ _ ⟨st,β,h,hr⟩)
 |scope c ih=>
  intro hL st R Q h hq β a w hr;refine wp_scope_straight (ih hL st _ _ (tn h) ?_ β a w hr);rintro e a w ⟨s,β',h1,h2⟩;cases e with
  |goto _=>exact h1.elim
  |normal=>exact hq _ _ _ ⟨s,β',h1,h2⟩
  |exit _=>exact hq _ _ _ ⟨s,β',h1,h2⟩
  |ret=>exact hq _ _ _ ⟨s,β',h1,h2⟩
  |panic _=>exact hq _ _ _ ⟨s,β',h1,h2⟩
  |outgrown=>exact hq _ _ _ ⟨s,β',h1,h2⟩
 |region id ops d=>
  intro hL st R Q h hq β a w hr;cases d with
  |false=>exact wp_region_list (C8 hG ops.toList [] [] st R (fun _ _ h=>by simp[known]at h) h hq β a w hr)
  |true=>
   simp only[exec]at h;split at h
   ·rename_i hd;exact Df hG jy hd h hq hr
   ·exact h.elim
 |_=>intro hL st R Q h;exact h.elim
theorem Ex.W9{P:Program}{G:C1}{A:Alt}(hG:GOk P G)(jy:P.follows .mixedOrders=true){m:Hp}{LT:gW}{c:Code}(hL:cn P m LT c){st:St}{r:cT}(h:exec P G A m LT c st=r):Ex P m c st r:=fun _ _ R Q hs hq β a w hr=>ark hG jy c hL st R Q (h▸hs) hq β a w hr
theorem Ex.abV{P:Program}{m:Hp}{c:Code}{st:St}{r r':cT}(h:Ex P m c st r)(hw:∀R,r'.sat R→r.sat R):Ex P m c st r':=fun W β₀ R Q hs hq β a w hr=>h W β₀ R Q (hw R hs) hq β a w hr
theorem Ex.bind{P:Program}{m:Hp}{x y:Code}{st:St}{r:cT}{f:St→cT}(h1:Ex P m x st r)(h2:∀s,Ex P m y s (f s)):Ex P m (.seq x y) st (r.bind f):=by
 intro W β₀ R Q hs hq β a w hr;refine wp_seq (h1 W β₀ _ _ (pK hs) ?_ β a w hr);rintro e a w ⟨t,β',h3,h4⟩;cases e with
 |normal=>exact h2 t W β₀ R Q h3 hq β' a w h4
 |exit _=>exact hq _ _ _ ⟨t,β',h3,h4⟩
 |goto _=>exact hq _ _ _ ⟨t,β',h3,h4⟩
 |ret=>exact hq _ _ _ ⟨t,β',h3,h4⟩
 |panic _=>exact hq _ _ _ ⟨t,β',h3,h4⟩
 |outgrown=>exact hq _ _ _ ⟨t,β',h3,h4⟩
def cT.nor(R:St→Prop):cT→Prop:=cT.sat fun e s=>e= .normal→R s
theorem Ex.block{P:Program}{m:Hp}{id:Nat}{c:Code}{st:St}{r:cT}(h:Ex P m c st r):Ex P m (.block id c) st (r.block id):=by
 intro W β₀ R Q hs hq β a w hr;refine wp_block (h W β₀ _ _ (nc hs) ?_ β a w hr);rintro e a w ⟨s,β',h1,h2⟩;cases e with
 |exit i=>
  simp only[Ij]at h1;simp only[Exit.inBlock];split at h1
  ·rename_i hi;rw[if_pos hi];exact hq _ _ _ ⟨s,β',h1,h2⟩
  ·rename_i hi;rw[if_neg hi];exact hq _ _ _ ⟨s,β',h1,h2⟩
 |normal=>exact hq _ _ _ ⟨s,β',h1,h2⟩
 |goto _=>exact hq _ _ _ ⟨s,β',h1,h2⟩
 |ret=>exact hq _ _ _ ⟨s,β',h1,h2⟩
 |panic _=>exact hq _ _ _ ⟨s,β',h1,h2⟩
 |outgrown=>exact hq _ _ _ ⟨s,β',h1,h2⟩
def y9(P:Program)(st:St):ResultVar→Option VV
 | .tmp t=>match ev st (.tmp t)with
  | .one x=>some x
  |_=>none
 | .cell a t=>match ev st (.tmp a)with
  | .one (.sc (.ptr b off))=>match dp st.hp b with
   |some (.cK cells _)=>ij P t cells off
   |_=>none
  |_=>none
def OG(P:Program)(fn:Func)(st:St):Option LV:=match ft (y9 P st) fn.results.toList with
 |some [x]=>some (.one x)
 |some l=>some (.dB l)
 |none=>none
def Ik(a:Act):ResultVar→Sem Value
 | .tmp t=>pure (a.tmps.getD t undef)
 | .cell b t=>do loadVar t (← asAddr (a.tmps.getD b undef))
theorem Sn(fn:Func)(a:Act):results fn a.tmps=(do let vs ← fn.results.mapM (Ik a);pure (if h:vs.size=1 then vs[0]else .tuple vs)):=by
 unfold results;congr 2
theorem So{P:Program}{W:World}{bP:Hp}{β₀ β:Env}{st:St}{a:Act}{w:World}(hr:Rel W bP β₀ β st a w){r:ResultVar}{x:VV}(h:y9 P st r=some x):∃v,(Ik a r).run P w= .ok v w∧x.den β (kd st.hp) v:=by
 cases r with
 |tmp t=>
  simp only[y9]at h;split at h
  ·rename_i y hy;simp at h;subst h;have:=cF hr (.tmp t);rw[hy]at this;exact⟨_,rfl,this⟩
  ·simp at h
 |cell b t=>
  simp only[y9]at h;split at h
  ·rename_i i off hy;split at h
   ·rename_i cells elem hb;have:=cF hr (.tmp b);rw[hy]at this;obtain⟨_,e⟩:=this;have e':a.tmps.getD b undef= .pointer (some ⟨β.b i,off,none⟩):=e;obtain⟨c,fz,_,_,h3,h4⟩:=hr.heap.k9 (cf hb);obtain⟨v,h5,h6⟩:=mP (P:=P) rfl h4 h3 h;rw[dN,Nat.zero_add]at h5;exact⟨v,by simp[Ik,e',asAddr,h5],h6⟩
   ·simp at h
  ·simp at h
theorem OH{P:Program}{fn:Func}{W:World}{bP:Hp}{β₀ β:Env}{st:St}{a:Act}{w:World}(hr:Rel W bP β₀ β st a w){r:LV}(h:OG P fn st=some r):∃v,(results fn a.tmps).run P w= .ok v w∧r.den β (kd st.hp) v:=by
 have key:∀ (l:List ResultVar) (xs:List VV),ft (y9 P st) l=some xs→∃vs:List Value,(l.mapM (Ik a)).run P w= .ok vs w∧dC (VV.den β (kd st.hp)) xs vs:=by
  intro l;induction l with
  |nil=>intro xs h;simp[ft]at h;subst h;exact⟨[],by simp,.nil⟩
  |cons r l ih=>
   intro xs h;simp only[ft]at h;split at h
   ·rename_i y m' h1 h2;simp at h;subst h;obtain⟨v,e1,e2⟩:=So hr h1;obtain⟨vs,e3,e4⟩:=ih _ h2;refine⟨v::vs,?_,.cons e2 e4⟩;simp only[List.mapM_cons,Sem.run_bind];rw[e1];simp only[Result.andThen_ok,Sem.run_pure,e3]
   ·simp at h
 unfold OG at h
 have gp:∀ (vs:List Value) (xs:List VV),ft (y9 P st) fn.results.toList=some xs→(∀vs:List Value,dC (VV.den β (kd st.hp)) xs vs→∃v,(if h:vs.toArray.size=1 then vs.toArray[0]else .tuple vs.toArray)=v∧r.den β (kd st.hp) v)→
   ∃v,(results fn a.tmps).run P w= .ok v w∧r.den β (kd st.hp) v:=by
  intro _ xs hx hv;obtain⟨vs,e1,e2⟩:=key _ _ hx;obtain⟨v,e3,e4⟩:=hv vs e2;refine⟨v,?_,e4⟩;rw[Sn,Sem.run_bind,Array.mapM_eq_mapM_toList];simp only[Sem.run_map,e1,Result.andThen_ok];rw[← e3];rfl
 split at h
 ·rename_i x hx;simp at h;subst h;refine gp [] [x] hx fun vs hvs=>?_;cases hvs with
  |cons h1 h2=>
   cases h2;exact⟨_,rfl,h1⟩
 ·rename_i l ko hl;simp at h;subst h;refine gp [] l hl fun vs hvs=>?_;have hlen:=hvs.length;have:vs.length≠1:=by
   intro e;rw[e]at hlen;obtain⟨x,hx⟩:=List.length_eq_one_iff.1 hlen;exact ko x hx
  refine⟨_,by rw[dif_neg (by simpa using this)],vs,rfl,hvs⟩
 ·simp at h
theorem cN.self{W:World}{bP:Hp}{β₀ β:Env}{hp:Hp}{w:World}(h:cN W bP β₀ β hp w):cN w hp β β hp w:=⟨h.items,h.inj,dx.refl _ _,fun i x b hi ho=>.inr ⟨x,hi,ho⟩,rfl,rfl,Nat.le_refl _,fun _ _ _=>rfl,h.reads,fun pm v t l b h1 h2=>.inr ⟨pm,v,t,l,id,h1,h2⟩⟩
theorem cN.trans{W:World}{bP:Hp}{β₀ β β':Env}{hp dZ:Hp}{w w':World}(h:cN W bP β₀ β hp w)(h':cN w hp β β' dZ w'):cN W bP β₀ β' dZ w' where
 items:=h'.items
 inj:=h'.inj
 first:=h.first.trans h'.first
 own i x b hi ho:=by
  rcases h'.own i x b hi ho with h1|⟨y,hj,h1⟩
  ·exact .inl (Nat.le_trans h.size h1)
  ·exact h.own i y b hj h1
 os:=h'.os.trans h.os
 output:=h'.output.trans h.output
 size:=Nat.le_trans h.size h'.size
 bV b hb ko:=by
  rw[h'.bV b (by have:=h.size;omega) fun⟨i,x,hi,ho⟩=>?_]
  ·exact h.bV b hb ko
  ·rcases h.own i x b hi ho with h1|⟨y,h1⟩
   ·omega
   ·exact ko ⟨i,y,h1⟩
 reads:=h'.reads
 from_ pm v t l b h1 h2:=by
  rcases h'.from_ pm v t l b h1 h2 with h3|⟨nm,v',t',l',h0,h3,h4⟩
  ·exact .inl (Nat.le_trans h.size h3)
  ·rcases h.from_ nm v' t' l' b h3 h4 with h5|⟨pm2,v2,t2,l2,h6,h7,h8⟩
   ·exact .inl h5
   ·exact .inr ⟨pm2,v2,t2,l2,fun e=>h6 (h0 e),h7,h8⟩
def il(P:Program)(f:FuncId)(args:List LV)(hp:Hp)(R:LV→Hp→Prop):Prop:=∀ (β:Env) (w:World) (vals:List Value),cN w hp β β hp w→dC (LV.den β (kd hp)) args vals→Calls P f vals.toArray w fun e w'=>∃val β' r dZ,e= .returned val∧R r dZ∧r.den β' (kd dZ) val∧cN w hp β β' dZ w'
def entry(fn:Func)(args:List LV)(hp:Hp):St:=⟨args++List.replicate (fn.ntmps-args.length) (.dB []),hp⟩
inductive End where
 |bN (v:LV) (hp:Hp)
 |ite (b:Bool) (x y:End)
 |need (p:Prop) (x:End)
 |fail
def End.sat(R:LV→Hp→Prop):End→Prop
 | .bN v hp=>R v hp
 | .ite b x y=>(b=true→x.sat R)∧(b=false→y.sat R)
 | .need p x=>p∧x.sat R
 | .fail=>False
def cT.ends(P:Program)(fn:Func):cT→End
 | .bN .normal st| .bN .ret st=>match OG P fn st with
  |some v=>.bN v st.hp
  |none=>.fail
 | .bN _ _=>.fail
 | .ite b x y=>.ite b (x.ends P fn) (y.ends P fn)
 | .need p x=>.need p (x.ends P fn)
 | .fail=>.fail
theorem wa{P:Program}{fn:Func}{R:LV→Hp→Prop}:∀ {r:cT},(r.ends P fn).sat R→r.sat fun e st=>(e= .normal∨e= .ret)∧∃v,OG P fn st=some v∧R v st.hp
 | .bN e st,h=>by
  cases e with
  |normal=>
   simp only[cT.ends]at h;split at h
   ·rename_i v hv;exact⟨.inl rfl,v,hv,h⟩
   ·exact h.elim
  |ret=>
   simp only[cT.ends]at h;split at h
   ·rename_i v hv;exact⟨.inr rfl,v,hv,h⟩
   ·exact h.elim
  |exit _=>exact h.elim
  |goto _=>exact h.elim
  |panic _=>exact h.elim
  |outgrown=>exact h.elim
 | .ite b x y,h=>⟨fun e=>wa (h.1 e),fun e=>wa (h.2 e)⟩
 | .need p x,h=>⟨h.1,wa h.2⟩
 | .fail,h=>h
def my(P:Program)(f:FuncId)(args:List LV)(hp:Hp)(t:End):Prop:=∀R,t.sat R→il P f args hp R
theorem Sp{P:Program}{f:FuncId}{fn:Func}{c:Code}(hf:P.funcs[f]? =some fn)(hb:fn.body=some c){args:List LV}{hp:Hp}{r:cT}(hx:Ex P hp c (entry fn args hp) r):my P f args hp (r.ends P fn):=by
 intro R h β w vals hh dt;refine calls_of_wp hf hb ?_;have Sq:Rel w hp β β (entry fn args hp) {tmps:=vals.toArray++Array.replicate (fn.ntmps-vals.toArray.size) undef,defers:= []} w:=by
  refine⟨rfl,?_,hh⟩;show dC _ (args++List.replicate (fn.ntmps-args.length) (.dB [])) (vals.toArray++Array.replicate (fn.ntmps-vals.toArray.size) undef).toList;have hl:=dt.length;have e:(vals.toArray++Array.replicate (fn.ntmps-vals.toArray.size) undef).toList=vals++List.replicate (fn.ntmps-args.length) undef:=by
   simp[hl]
  rw[e];refine dt.append ?_;generalize fn.ntmps-args.length=k;induction k with
  |zero=>exact .nil
  |succ k ih=>exact .cons ⟨[],rfl,.nil⟩ ih
 refine hx _ _ _ _ (wa h) ?_ β _ w Sq
 have key:∀ (a:Act) (w':World) (st:St) (β':Env) (x:LV),OG P fn st=some x→R x st.hp→Rel w hp β β' st a w'→
   a.defers= []∧∃v,(results fn a.tmps).run P w'= .ok v w'∧(∃val β' r dZ,Ending.returned v= .returned val∧R r dZ∧r.den β' (kd dZ) val∧cN w hp β β' dZ w'):=by
  intro a w' st β' x arl hR hr;obtain⟨v,h1,h2⟩:=OH hr arl;exact⟨hr.defers,v,h1,v,β',x,st.hp,rfl,hR,h2,hr.heap⟩
 rintro e a w' ⟨st,β',⟨he,x,arl,hR⟩,hr⟩;rcases he with rfl|rfl
 ·exact key a w' st β' x arl hR hr
 ·exact key a w' st β' x arl hR hr
def oT(P:Program)(f:FuncId):Prop:=∀ (as:Array Value) (w:World),(callFunc f as).run P w= .ok (.enter f as) w
end Go.Ev
