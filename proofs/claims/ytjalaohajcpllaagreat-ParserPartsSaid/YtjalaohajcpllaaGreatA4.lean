/- What the laws lean on, part 4: a reader of code, plain facts, and what each function gives; no conditions. -/
import Derived.LoopN
import Derived.Orders
import Derived.Scope
import Derived.Test.YtjalaohajcpllaaGreatA3
section
set_option linter.unusedVariables false
set_option linter.unusedSimpArgs false
namespace Go.Ev
open Go
section
variable {P:Program} {W:World} {ah:Hp} {β₀ β:Env} {w:World} {st:St} {a:Act}
def ajd (P:Program) (W:World) (ah:Hp) (β₀ β:Env) (st:St) (w:World) (s:Sem Next) (v:LV) (d:List (Nat×Item)):Prop:=
 ∃ (β':Env) (w':World) (val:Value),s.run P w= .ok (.value val) w'∧v.den β' (kd (aE d st.hp)) val∧aV W ah β₀ β' (aE d st.hp) w'∧bD β β' (kd st.hp) (kd (aE d st.hp))
theorem afX (hr:Rel W ah β₀ β st a w) {t ty:TypeId} {x:SV} {n:SI} {v:Value} (hl:(afS P t x).val st.hp=some n) (hd:x.den β (kd st.hp) v):(Builtin.len_ #[t] ty #[v]).run P w= .ok (.int .i64 n.val) w:=by
 have hs: ∀ {e:TypeId} {b:Option Addr} {k c:Nat},du P t=some e→(Builtin.len_ #[t] ty #[.slice b k c]).run P w= .ok (goInt k) w:=fun he=>by
  have hu:=dh he
  simp[Builtin.len_,run_underlying hu]
 have aje: ∀ {s:ByteArray},P.underlying t=some .string→(Builtin.len_ #[t] ty #[.string s]).run P w= .ok (goInt s.size) w:=fun hu=>by
  simp[Builtin.len_,run_underlying hu]
 have ajf: ∀ {α:Type} {x y:α},(if P.underlying t matches some .string then some x else none)=some y→P.underlying t=some .string∧x=y:=by
  intro α x y h
  split at h
  ·rename_i hm
   refine ⟨?_,by simpa using h⟩
   revert hm
   cases hu:P.underlying t with
   |none=>simp
   |some d=>cases d<;>simp
  ·cases h
 unfold afS at hl
 split at hl
 ·simp only[Ask.val] at hl
  obtain ⟨e,he,rfl⟩:=map_some hl
  obtain ⟨_,rfl⟩:=hd
  exact hs he
 ·simp only[Ask.val] at hl
  obtain ⟨e,he,rfl⟩:=map_some hl
  obtain ⟨_,rfl⟩:=hd
  exact hs he
 ·simp only[Ask.val] at hl
  obtain ⟨hu,rfl⟩:=ajf hl
  have e:v= .string _:=hd
  rw[e,aje hu,qB];rfl
 ·simp only[Ask.val] at hl
  obtain ⟨hu,rfl⟩:=ajf hl
  obtain ⟨_,rfl⟩:=hd
  exact aje hu
 ·split at hl
  ·rename_i e he
   rw[Ask.cy] at hl
   obtain ⟨⟨pm,uC,l⟩,hc,rfl⟩:=map_some hl
   obtain ⟨b,c,rfl⟩:=(jw hr.heap hc hd).len
   exact hs he
  ·simp[Ask.val] at hl
theorem uS {f:Int→Int→Int} {g:Value→Value→Sem Value} {k:IntKind} (hg: ∀ x y:Int,(g (.int k x) (.int k y)).run P w= .ok (.int k (f x y)) w) {β:Env} {L:Nat→Option Kd}:
  ∀ (l:List SV) (vs:List Value) (x n:SI),bB (SV.den β L) l vs→uQ f k x l=some n→(vs.foldlM g (.int k x.val)).run P w= .ok (.int k n.val) w
 | [],vs,x,n,hd,h=>by
  cases hd
  simp[uQ] at h;subst h
  simp
 | .int k' y::l,_,x,n,.cons (b:=b) (m:=vs) h1 h2,h=>by
  simp only[uQ] at h
  split at h
  ·rename_i hk;subst hk
   have e:b= .int k' y.val:=h1
   subst e
   simp only[List.foldlM_cons,Sem.run_bind,hg,Result.andThen_ok]
   have:=uS hg l vs _ n h2 h
   rw[map2_val] at this
   exact this
  ·cases h
theorem yn {β:Env} {L:Nat→Option Kd}: ∀ {xs:List LV} {ss:List SV} {vs:List Value},cE ie xs=some ss→bB (LV.den β L) xs vs→bB (SV.den β L) ss vs
 | [],_,_,h,hd=>by simp[cE] at h;subst h;cases hd;exact .nil
 |x::xs,ss,_,h,.cons h1 h2=>by
  simp only[cE] at h
  split at h
  ·rename_i s m hs hm
   simp at h;subst h
   exact .cons (a6 hs h1) (yn hm h2)
  ·cases h
theorem QA (hr:Rel W ah β₀ β st a w) {id:Nat} {t u ty_:TypeId} {s x:SV} {q:Option Prop} {v:LV} {d:List (Nat×Item)} (h:(Uk P id t u s x).val st.hp=some (q,v,d)) (hq:ef q) (nq:(∃ x,(id,x)∈d)→kd st.hp id=none)
  {sv xv:Value} (hs0:s.den β (kd st.hp) sv) (uE:x.den β (kd st.hp) xv):
  ∃ (β':Env) (w':World) (val:Value),(Builtin.append_ #[t,u] ty_ #[sv,xv]).run P w= .ok val w'∧v.den β' (kd (aE d st.hp)) val∧aV W ah β₀ β' (aE d st.hp) w'∧bD β β' (kd st.hp) (kd (aE d st.hp)):=by
 unfold Uk at h
 split at h
 ·simp[Ask.val] at h
 rename_i el jF
 split at h
 rotate_left
 ·simp[Ask.val] at h
 rename_i ty sz z uD hty hs hz C6
 split at h
 rotate_left
 ·simp[Ask.val] at h
 rename_i gZ
 obtain ⟨rfl,ib,Ud⟩:=gZ
 rw[Ask.dB] at h
 split at h
 rotate_left
 ·simp[Ask.val] at h
 rename_i pm m hc
 split at h
 rotate_left
 ·simp[Ask.val] at h
 rename_i hf
 obtain ⟨news,Bl,ko⟩:=Ul hr.heap hc hf uE
 split at h
 ·simp only[Ask.val] at h
  cases h
  have Ue:=nq ⟨_,by simp;rfl⟩
  obtain ⟨_,rfl⟩:=hs0
  have T9:m.length*uD≤70368744177664∧m.length≤70368744177664:=hq
  have rH:cU β w (.slice none 0 0) ty []:=⟨none,0,0,rfl,rfl,Nat.le_refl _,fun _=>rfl,fun h=>absurd h (by omega)⟩
  obtain ⟨v',w',h1,h2,h3,h4,h5,h6,h7⟩:=yl (ty_:=ty_) jF hs ib hz Ud C6 rH Bl ko (by simpa using T9.1) (by simpa using T9.2)
  rw[List.nil_append] at h2
  obtain ⟨β',k1,k2,k3⟩:=hr.heap.qF Ue (ver:=0) h3 h4 h5 (fun b hb=>h6 b hb (by rintro ⟨_,_,_,e,_⟩;simp at e)) h2 (fun a n c e h0=>(h7 a n c e h0).resolve_left (by rintro ⟨_,_,e,_⟩;simp at e))
  refine ⟨β',w',v',h1,⟨?_,0,?_,Nat.le_refl _,fun _=>k3.symm⟩,k1,k2⟩
  ·obtain ⟨_,_,_,rfl,_⟩:=h2;rfl
  ·show kd (setAt st.hp id _) id=_
   rw[cN,if_pos rfl];rfl
 ·rename_i i ver
  simp only[Ask.val] at h
  split at h
  ·rename_i ver' uC l hi
   split at h
   ·rename_i e;subst e
    split at h
    ·rename_i e;subst e
     cases h
     obtain ⟨kZ,hh⟩:=hr.heap.nM (p:=fun v=>sv=v) (aw hi) hs0.2
     have T9:(l.length+m.length)*uD≤70368744177664∧l.length+m.length≤70368744177664:=hq
     obtain ⟨v',w',h1,h2,h3,h4,h5,h6,h7⟩:=yl (ty_:=ty_) jF hs ib hz Ud C6 kZ Bl ko T9.1 T9.2
     obtain ⟨β',k1,k2,k3⟩:=hr.heap.uP (aw hi) (ver':=ver+1) (l':=l++m) (v:=v') (w':=w') (.inl (Nat.lt_succ_self _)) h3 h4 h5 (fun b hb rD=>h6 b hb rD) h2
      (fun a n c e h0=>(h7 a n c e h0).imp (fun ⟨n',c',e',h'⟩=>⟨a,n',c',e',h',rfl⟩) fun h=>h)
     refine ⟨β',w',v',by rw[hh];exact h1,⟨?_,ver+1,?_,Nat.le_refl _,fun _=>k3.symm⟩,k1,k2⟩
     ·obtain ⟨_,_,_,rfl,_⟩:=h2;rfl
     ·show kd (setAt st.hp i _) i=_
      rw[cN,if_pos rfl];rfl
    ·cases h
   ·cases h
  ·cases h
 ·simp[Ask.val] at h
theorem aa5 (hr:Rel W ah β₀ β st a w) {id:Nat} {t u ty_:TypeId} {s:SV} {k:IntKind} {n:Int} {q:Option Prop} {v:LV} {d:List (Nat×Item)} (h:(Ki P id t u s n).val st.hp=some (q,v,d)) (hq:ef q) (nq:(∃ x,(id,x)∈d)→kd st.hp id=none)
  {sv:Value} (hs0:s.den β (kd st.hp) sv):
  ∃ (β':Env) (w':World) (val:Value),(Builtin.append_ #[t,u] ty_ #[sv,.int k n]).run P w= .ok val w'∧v.den β' (kd (aE d st.hp)) val∧aV W ah β₀ β' (aE d st.hp) w'∧bD β β' (kd st.hp) (kd (aE d st.hp)):=by
 unfold Ki at h
 split at h
 rotate_left
 ·simp[Ask.val] at h
 rename_i el kn jF hku
 split at h
 rotate_left
 ·simp[Ask.val] at h
 rename_i ty sz z uD hty hs hz C6
 split at h
 rotate_left
 ·simp[Ask.val] at h
 rename_i gZ
 obtain ⟨rfl,ib,Ud⟩:=gZ
 split at h
 rotate_left
 ·simp[Ask.val] at h
 rename_i z0 hz0
 split at h
 ·simp only[Ask.val] at h
  cases h
  have Ue:=nq ⟨_,by simp;rfl⟩
  obtain ⟨_,rfl⟩:=hs0
  obtain ⟨Bi,hq1,hq2⟩:0≤n∧n.toNat*uD≤70368744177664∧n.toNat≤70368744177664:=hq
  obtain ⟨m,rfl⟩:=Int.eq_ofNat_of_zero_le Bi
  simp only[Int.toNat_natCast] at hq1 hq2 ⊢
  have rH:cU β w (.slice none 0 0) ty []:=⟨none,0,0,rfl,rfl,Nat.le_refl _,fun _=>rfl,fun h=>absurd h (by omega)⟩
  obtain ⟨v',w',h1,h2,h3,h4,h5,h6,h7⟩:=rF (ty_:=ty_) (kq:=k) jF hs ib hz Ud C6 rH hku hz0 m (by simpa using hq1) (by simpa using hq2)
  rw[List.nil_append] at h2
  obtain ⟨β',k1,k2,k3⟩:=hr.heap.qF Ue (ver:=0) h3 h4 h5 (fun b hb=>h6 b hb (by rintro ⟨_,_,_,e,_⟩;simp at e)) h2 (fun a n c e h0=>(h7 a n c e h0).resolve_left (by rintro ⟨_,_,e,_⟩;simp at e))
  refine ⟨β',w',v',h1,⟨?_,0,?_,Nat.le_refl _,fun _=>k3.symm⟩,k1,k2⟩
  ·obtain ⟨_,_,_,rfl,_⟩:=h2;rfl
  ·show kd (setAt st.hp id _) id=_
   rw[cN,if_pos rfl];rfl
 ·rename_i i ver
  simp only[Ask.val] at h
  split at h
  ·rename_i ver' uC l hi
   split at h
   ·rename_i e;subst e
    split at h
    ·rename_i e;subst e
     cases h
     obtain ⟨kZ,hh⟩:=hr.heap.nM (p:=fun v=>sv=v) (aw hi) hs0.2
     obtain ⟨Bi,hq1,hq2⟩:0≤n∧(l.length+n.toNat)*uD≤70368744177664∧l.length+n.toNat≤70368744177664:=hq
     obtain ⟨m,rfl⟩:=Int.eq_ofNat_of_zero_le Bi
     simp only[Int.toNat_natCast] at hq1 hq2 ⊢
     obtain ⟨v',w',h1,h2,h3,h4,h5,h6,h7⟩:=rF (ty_:=ty_) (kq:=k) jF hs ib hz Ud C6 kZ hku hz0 m hq1 hq2
     obtain ⟨β',k1,k2,k3⟩:=hr.heap.uP (aw hi) (ver':=ver+1) (l':=l++List.replicate m z0) (v:=v') (w':=w') (.inl (Nat.lt_succ_self _)) h3 h4 h5 (fun b hb rD=>h6 b hb rD) h2
      (fun a n c e h0=>(h7 a n c e h0).imp (fun ⟨n',c',e',h'⟩=>⟨a,n',c',e',h',rfl⟩) fun h=>h)
     refine ⟨β',w',v',by rw[hh];exact h1,⟨?_,ver+1,?_,Nat.le_refl _,fun _=>k3.symm⟩,k1,k2⟩
     ·obtain ⟨_,_,_,rfl,_⟩:=h2;rfl
     ·show kd (setAt st.hp i _) i=_
      rw[cN,if_pos rfl];rfl
    ·cases h
   ·cases h
  ·cases h
 ·simp[Ask.val] at h
theorem aji (hr:Rel W ah β₀ β st a w) {id:Nat} {b:Builtin} {ts:List TypeId} {xs:List LV} {vs:List Value} {q:Option Prop} {v:LV} {d:List (Nat×Item)}
  (h:(aa1 P id b ts xs).val st.hp=some (q,v,d)) (hq:ef q) (nq:(∃ x,(id,x)∈d)→kd st.hp id=none) (hd:bB (LV.den β (kd st.hp)) xs vs) (ty:TypeId) (cs:Array Bool):
  ajd P W ah β₀ β st w (builtin b ts.toArray ty cs vs.toArray) v d:=by
 have Un: ∀ {s:Sem Value} {val:Value} {x:SV},s.run P w= .ok val w→x.den β (kd st.hp) val→ajd P W ah β₀ β st w (do pure (.value (← s))) (.one (.sc x)) []:=by
  intro s val x h1 h2
  exact ⟨β,w,val,by rw[Sem.run_bind,h1];rfl,h2,hr.heap,bD.refl _ _⟩
 unfold aa1 at h
 split at h
 ·rename_i t x
  split at h
  ·rename_i s hs
   rw[Ask.cy] at h
   obtain ⟨n,hn,he⟩:=map_some h
   cases he
   cases hd with
   |cons h1 h2=>
    cases h2
    exact Un (afX hr hn (a6 hs h1)) rfl
  ·simp[Ask.val] at h
 ·rename_i t u s x
  split at h
  ·rename_i s' k n hs hx
   cases hd with
   |cons h1 h2=>
    cases h2 with
    |cons h2 h3=>
     cases h3
     have e:=a6 hx h2
     simp only[SV.den] at e
     subst e
     obtain ⟨β',w',val,k1,k2,k3,k4⟩:=aa5 (ty_:=ty) (k:=k) hr h hq nq (a6 hs h1)
     exact ⟨β',w',val,by show (do pure (Next.value (← Builtin.append_ #[t,u] ty _)):Sem Next).run P w=_;rw[Sem.run_bind,k1];rfl,k2,k3,k4⟩
  ·rename_i s' x' _ hs hx
   cases hd with
   |cons h1 h2=>
    cases h2 with
    |cons h2 h3=>
     cases h3
     obtain ⟨β',w',val,k1,k2,k3,k4⟩:=QA (ty_:=ty) hr h hq nq (a6 hs h1) (a6 hx h2)
     exact ⟨β',w',val,by show (do pure (Next.value (← Builtin.append_ #[t,u] ty _)):Sem Next).run P w=_;rw[Sem.run_bind,k1];rfl,k2,k3,k4⟩
  ·simp[Ask.val] at h
 ·rename_i t u s x
  split at h
  ·rename_i s' x' hs hx
   cases hd with
   |cons h1 h2=>
    cases h2 with
    |cons h2 h3=>
     cases h3
     obtain ⟨β',w',val,k1,k2,k3,k4⟩:=aa4 (ty_:=ty) hr h (a6 hs h1) (a6 hx h2)
     exact ⟨β',w',val,by show (do pure (Next.value (← Builtin.copy_ #[t,u] ty _)):Sem Next).run P w=_;rw[Sem.run_bind,k1];rfl,k2,k3,k4⟩
  ·simp[Ask.val] at h
 ·rename_i x l
  simp only[Ask.val] at h
  split at h
  ·rename_i k x0 l0 hx hl
   obtain ⟨n,hn,he⟩:=map_some h
   cases he
   cases hd with
   |cons h1 h2=>
    rename_i v0 vs0
    have e:v0= .int k x0.val:=a6 hx h1
    subst e
    have:=uS (P:=P) (w:=w) (f:=Ui) (g:=Builtin.min2) (k:=k) (fun x y=>by simp[Builtin.min2,Ui]) l0 vs0 x0 n (yn hl h2) hn
    refine Un (s:=Builtin.min_ ts.toArray ty (Value.int k x0.val::vs0).toArray) (val:= .int k n.val) ?_ rfl
    simp only[Builtin.min_]
    exact this
  ·cases h
 ·rename_i x l
  simp only[Ask.val] at h
  split at h
  ·rename_i k x0 l0 hx hl
   obtain ⟨n,hn,he⟩:=map_some h
   cases he
   cases hd with
   |cons h1 h2=>
    rename_i v0 vs0
    have e:v0= .int k x0.val:=a6 hx h1
    subst e
    have:=uS (P:=P) (w:=w) (f:=Uj) (g:=Builtin.max2) (k:=k) (fun x y=>by simp[Builtin.max2,Uj]) l0 vs0 x0 n (yn hl h2) hn
    refine Un (s:=Builtin.max_ ts.toArray ty (Value.int k x0.val::vs0).toArray) (val:= .int k n.val) ?_ rfl
    simp only[Builtin.max_]
    exact this
  ·cases h
 ·simp[Ask.val] at h
end
inductive Out where
 |leaf (q:Option Prop) (v:LV) (d:List (Nat×Item))
 |ite (b:Bool) (x y:Out)
 |fail
def Out.of:Stp→Out
 |some (q,v,d)=> .leaf q v d
 |none=> .fail
def Out.holds (Q:LV→List (Nat×Item)→Prop):Out→Prop
 | .leaf q v d=>ef q∧Q v d
 | .ite b x y=>(b=true→x.holds Q)∧(b=false→y.holds Q)
 | .fail=>False
def Oq (id:Nat) (hp:Hp) (d:List (Nat×Item)):Prop:= ∀ j x,(j,x)∈d→id≤j→kd hp j=none
def Out.fresh (id:Nat) (hp:Hp):Out→Prop
 | .leaf _ _ d=>Oq id hp d
 | .ite _ x y=>x.fresh id hp∧y.fresh id hp
 | .fail=>True
structure yo where
 run:FuncId→Nat→List LV→Ask Out
def QB (P:Program) (f:FuncId) (vals:Array Value) (w:World) (Q:Ending→World→Prop):Prop:=
 (∃ val,(callFunc f vals).run P w= .ok (.value val) w∧Q (.returned val) w)∨
  ((∀ (as:Array Value) (w:World),(callFunc f as).run P w= .ok (.enter f as) w)∧Calls P f vals w Q)
theorem QB.mono {P:Program} {f:FuncId} {vals:Array Value} {w:World} {Q Q':Ending→World→Prop} (h:QB P f vals w Q) (hq: ∀ e w',Q e w'→Q' e w'):QB P f vals w Q':=
 h.imp (fun ⟨v,h1,h2⟩=>⟨v,h1,hq _ _ h2⟩) fun ⟨h1,h2⟩=>⟨h1,h2.mono hq⟩
structure GOk (P:Program) (G:yo):Prop where
 calls: ∀ f id args hp,((G.run f id args).val hp).fresh id hp→ ∀ Q,((G.run f id args).val hp).holds Q→
  ∀ (W:World) (ah:Hp) (β₀ β:Env) (w:World) (vals:List Value),aV W ah β₀ β hp w→bB (LV.den β (kd hp)) args vals→
   QB P f vals.toArray w fun e w'=> ∃ v d val β',Q v d∧e= .returned val∧v.den β' (kd (aE d hp)) val∧aV W ah β₀ β' (aE d hp) w'∧bD β β' (kd hp) (kd (aE d hp))
def put (st:St) (dst:Option Tmp) (v:LV) (hp:Hp):St:=
 match dst with
 |some d=>⟨st.fr.set d v,hp⟩
 |none=>⟨st.fr,hp⟩
theorem Rel.put {W:World} {ah:Hp} {β₀ β β':Env} {st:St} {a:Act} {w w':World} (h:Rel W ah β₀ β st a w) {dst:Option Tmp} {v:LV} {val:Value} {hp:Hp}
  (hv:v.den β' (kd hp) val) (hh:aV W ah β₀ β' hp w') (ha:bD β β' (kd st.hp) (kd hp)):
  Rel W ah β₀ β' (put st dst v hp) (a.put dst val) w':=by
 have hfr:bB (LV.den β' (kd hp)) st.fr a.tmps.toList:=h.fr.imp fun _ _=>LV.dQ ha
 cases dst with
 |none=>exact ⟨h.defers,hfr,hh⟩
 |some d=>exact ⟨h.defers,by
   show bB (LV.den β' (kd hp)) (st.fr.set d v) (a.tmps.setIfInBounds d val).toList
   rw[Array.toList_setIfInBounds]
   exact hfr.set d hv,hh⟩
def GK:LV→Option FuncId
 | .one (.sc (.gH (.func (.func f) fs cs)))=>if fs.isEmpty&&cs.isEmpty then some f else none
 |_=>none
def rI (P:Program) (G:yo) (id:Nat) (e:Operand→LV) (op:Op):Ask Out:=
 match op with
 | .call c=>match c.callee with
  | .builtin b=>(aa1 P id b c.argTypes.toList (c.args.toList.map e)).map Out.of
  | .value f=>match GK (e f) with
   |some f=>G.run f id (c.args.toList.map e)
   |none=> .ret .fail
  |_=> .ret .fail
 |op=>(fh P id e op).map Out.of
def gC (P:Program) (G:yo) (h:Option Bool) (id:Nat) (e:Operand→LV) (op:Op):Ask Out:=
 match h,op with
 |some v,.pick c x y=>match e c with
  | .one (.sc (.bool t))=> .ret (.leaf (some (t.val=v)) (if v then e x else e y) [])
  |_=> .ret .fail
 |_,op=>rI P G id e op
theorem Uo {P:Program} {G:yo} (hG:GOk P G) {id:Nat} {st:St} {o:Oper} (hf:((rI P G id (ev st) o.op).val st.hp).fresh id st.hp) {K:LV→List (Nat×Item)→Prop} (h:((rI P G id (ev st) o.op).val st.hp).holds K)
  {W:World} {ah:Hp} {β₀ β:Env} {a:Act} {w:World} (hr:Rel W ah β₀ β st a w) {next:Act→World→Prop} {Q:Exit→Act→World→Prop}
  (hn: ∀ v d β' a' w',K v d→Rel W ah β₀ β' (put st o.dst v (aE d st.hp)) a' w'→next a' w'):o.wp P a w next Q:=by
 unfold rI at h hf
 split at h
 ·rename_i c hc
  have dc:bB (LV.den β (kd st.hp)) (c.args.toList.map (ev st)) (c.args.toList.map a.eval):=bB.of_map _ _ _ fun x _=>aM hr x
  have e2:(c.args.toList.map a.eval).toArray=c.args.map a.eval:=by rw[← Array.toList_map,Array.toArray_toList]
  simp only[hc] at hf
  split at h
  ·rename_i b hb
   simp only[hb] at hf
   rw[Ask.cy] at h hf
   cases hs:(aa1 P id b c.argTypes.toList (c.args.toList.map (ev st))).val st.hp with
   |none=>rw[hs] at h;exact h.elim
   |some r=>
    obtain ⟨q,v,d⟩:=r
    rw[hs] at h hf
    obtain ⟨hq,hk⟩:=h
    obtain ⟨β',w',val,h1,h2,h3,h4⟩:=aji hr hs hq (fun ⟨x,hx⟩=>hf id x hx (Nat.le_refl _)) dc o.type (c.args.map fun| .const _=>true|_=>false)
    rw[e2,Array.toArray_toList] at h1
    have dK:(execOp a.eval o).run P w= .ok (.value val) w':=by
     simp only[execOp,hc,resolve,hb,Sem.run_bind,Sem.run_pure,Result.andThen_ok,invoke]
     exact h1
    unfold Oper.wp
    rw[dK]
    exact hn v d β' _ w' hk (hr.put (dst:=o.dst) h2 h3 h4)
  ·rename_i x hx
   simp only[hx] at hf
   split at h
   ·rename_i f hfn
    simp only[hfn] at hf
    have ajj:=hG.calls f id _ _ hf K h W ah β₀ β w _ hr.heap dc
    unfold GK at hfn
    split at hfn
    ·rename_i g fs cs J7
     split at hfn
     ·rename_i ajk
      simp at hfn;subst hfn
      have hd:=aM hr x
      rw[J7] at hd
      have e:a.eval x= .func (.func g) fs cs:=hd.2
      simp at ajk
      obtain ⟨rfl,rfl⟩:=ajk
      unfold Oper.wp
      rcases ajj with ⟨val,h1,v,d,arf,β',hk,he,h3,h4,h5⟩|⟨h1,h2⟩
      ·have dK:(execOp a.eval o).run P w= .ok (.value val) w:=by
        rw[e2] at h1
        simp only[execOp,hc,resolve,hx,e,Deferred.ofValue,Sem.run_bind,Sem.run_pure,Result.andThen_ok,invoke,Array.append_empty,Array.empty_append]
        exact h1
       rw[dK]
       cases he
       exact hn v d β' _ w hk (hr.put (dst:=o.dst) h3 h4 h5)
      ·have dK:(execOp a.eval o).run P w= .ok (.enter g (c.args.toList.map a.eval).toArray) w:=by
        simp only[execOp,hc,resolve,hx,e,Deferred.ofValue,Sem.run_bind,Sem.run_pure,Result.andThen_ok,invoke,h1,e2]
        simp
       rw[dK]
       refine h2.mono ?_
       rintro e w' ⟨v,d,val,β',hk,rfl,h3,h4,h5⟩
       exact hn v d β' _ w' hk (hr.put (dst:=o.dst) h3 h4 h5)
     ·cases hfn
    ·cases hfn
   ·exact h.elim
  ·exact h.elim
 ·rename_i rD
  have Up:((fh P id (ev st) o.op).map Out.of).val st.hp |>.fresh id st.hp:=by
   split at hf
   ·rename_i c hc;exact absurd hc (rD c)
   ·exact hf
  rw[Ask.cy] at h Up
  cases hs:(fh P id (ev st) o.op).val st.hp with
  |none=>rw[hs] at h;exact h.elim
  |some r=>
   obtain ⟨q,v,d⟩:=r
   rw[hs] at h Up
   obtain ⟨hq,hk⟩:=h
   obtain ⟨β',w',r,val,h1,h2,h3,h4,h5⟩:=aaZ hs (fun ⟨x,hx⟩=>Up id x hx (Nat.le_refl _)) hq W ah β₀ β a w hr
   have:=hn v d β' _ w' hk (hr.put (dst:=o.dst) h3 h4 h5)
   unfold Oper.wp
   rw[h1]
   rcases h2 with rfl|⟨rfl,rfl⟩
   ·exact this
   ·exact this
theorem GL {P:Program} {G:yo} (hG:GOk P G) {g:Option Bool} {id:Nat} {st:St} {o:Oper} (hf:((gC P G g id (ev st) o.op).val st.hp).fresh id st.hp) {K:LV→List (Nat×Item)→Prop} (h:((gC P G g id (ev st) o.op).val st.hp).holds K)
  {W:World} {ah:Hp} {β₀ β:Env} {a:Act} {w:World} (hr:Rel W ah β₀ β st a w) {next:Act→World→Prop} {Q:Exit→Act→World→Prop}
  (hn: ∀ v d β' a' w',K v d→Rel W ah β₀ β' (put st o.dst v (aE d st.hp)) a' w'→next a' w'):o.wp P a w next Q:=by
 unfold gC at h hf
 split at h
 ·rename_i b c x y ho
  split at h
  ·rename_i t ht
   obtain ⟨hq,hk⟩:=h
   have htb:t.val=b:=hq
   have hc:=aM hr c;rw[ht] at hc
   have e:a.eval c= .bool t.val:=hc
   have dK:(execOp a.eval o).run P w= .ok (.value (if b then a.eval x else a.eval y)) w:=by
    simp[execOp,ho,e,asBool,htb]
   unfold Oper.wp
   rw[dK]
   refine hn _ _ β _ w hk (hr.put (dst:=o.dst) (hp:=st.hp) ?_ hr.heap (bD.refl _ _))
   cases b
   ·exact aM hr y
   ·exact aM hr x
  ·exact h.elim
 ·rename_i rD
  have Up:((rI P G id (ev st) o.op).val st.hp).fresh id st.hp:=by
   split at hf
   ·rename_i b c x y ho;exact absurd ho (rD b c x y rfl)
   ·exact hf
  exact Uo hG Up h hr hn
def dk (st:St) (ops:Array Oper) (o:Oper):Option SB:=
 match o.guard with
 |none=>some (.lit true)
 |some (j,want)=>match (ops[j]?).bind (·.dst) with
  |none=>some (.lit false)
  |some d=>match st.fr[d]? with
   |some (.one (.sc (.bool (.lit b))))=>some (.lit (b==want))
   |some (.one (.sc (.bool (.sym b))))=>some (.sym (b==want))
   |some (.cD _)=>some (.lit false)
   |some (.one (.sc (.int _ _)))=>some (.lit false)
   |none=>some (.lit false)
   |_=>none
theorem wB {W:World} {ah:Hp} {β₀ β:Env} {st:St} {a:Act} {w:World} (h:Rel W ah β₀ β st a w) {ops:Array Oper} {o:Oper} {b:SB}
  (hb:dk st ops o=some b):Region.wanted o (yielded ops a.tmps)=b.val:=by
 unfold dk at hb
 unfold Region.wanted
 split at hb
 ·rename_i hg;simp at hb;subst hb;simp[hg,SB.val]
 ·rename_i j want hg
  simp only[hg]
  unfold yielded
  split at hb
  ·rename_i hd;simp at hb;subst hb;simp[hd,SB.val]
  ·rename_i d hd
   simp only[hd,Option.bind_some]
   have hlen:=h.fr.length
   split at hb
   ·rename_i x hx
    obtain ⟨v,hv,Kk⟩:=h.fr.get hx
    have QC:a.tmps[d]? =some v:=by simpa using hv
    have e:v= .bool x:=Kk
    simp at hb;subst hb;simp[QC,e,SB.val]
   ·rename_i x hx
    obtain ⟨v,hv,Kk⟩:=h.fr.get hx
    have QC:a.tmps[d]? =some v:=by simpa using hv
    have e:v= .bool x:=Kk
    simp at hb;subst hb;simp[QC,e,SB.val]
   ·rename_i l hx
    obtain ⟨v,hv,vs,e,_⟩:=h.fr.get hx
    have QC:a.tmps[d]? =some v:=by simpa using hv
    simp at hb;subst hb;simp[QC,e,SB.val]
   ·rename_i k i hx
    obtain ⟨v,hv,Kk⟩:=h.fr.get hx
    have QC:a.tmps[d]? =some v:=by simpa using hv
    have e:v= .int k i.val:=Kk
    simp at hb;subst hb;simp[QC,e,SB.val]
   ·rename_i hx
    have QC:a.tmps[d]? =none:=by
     have:=List.getElem?_eq_none_iff.1 hx
     rw[Array.getElem?_eq_none_iff,← Array.length_toList]
     omega
    simp at hb;subst hb;simp[QC,SB.val]
   ·simp at hb
abbrev yp:=List (Tmp×Bool)
def known:yp→Tmp→Option Bool
 | [],_=>none
 |(d,v)::l,t=>if d=t then some v else known l t
def forget (a:yp):Option Tmp→yp
 |none=>a
 |some d=>a.filter fun p=>p.1!=d
def mf (a:yp) (st:St) (ops:Array Oper) (o:Oper):Option SB:=
 match o.guard with
 |none=>some (.lit true)
 |some (j,want)=>match (ops[j]?).bind (·.dst) with
  |none=>some (.lit false)
  |some d=>match known a d with
   |some v=>some (.lit (v==want))
   |none=>dk st ops o
def yq (a:yp) (ops:Array Oper) (o:Oper) (v:Bool):yp:=
 match o.guard with
 |none=>a
 |some (j,want)=>match (ops[j]?).bind (·.dst) with
  |none=>a
  |some d=>(d,v==want)::a
def jH (a:yp) (st:St):Prop:= ∀ d v,known a d=some v→ ∃ x:SB,st.fr[d]? =some (.one (.sc (.bool x)))∧x.val=v
theorem C9 {a:yp} {e d:Tmp} {v:Bool} (h:known (forget a (some e)) d=some v):d≠e∧known a d=some v:=by
 induction a with
 |nil=>simp[forget,known] at h
 |cons p a ih=>
  obtain ⟨t,u⟩:=p
  simp only[forget,List.filter_cons] at h ih
  split at h
  ·rename_i fR
   simp only[known] at h ⊢
   split at h
   ·rename_i htd;subst htd
    simp at h fR;exact ⟨fR,by simp[h]⟩
   ·rename_i htd
    rw[if_neg htd];exact ih h
  ·rename_i fR
   simp at fR;subst fR
   obtain ⟨h1,h2⟩:=ih h
   exact ⟨h1,by simp only[known,if_neg (Ne.symm h1)];exact h2⟩
theorem jH.put {a:yp} {st:St} (h:jH a st) {dst:Option Tmp} {v:LV} {hp:Hp}:jH (forget a dst) (put st dst v hp):=by
 intro d u hd
 cases dst with
 |none=>exact h d u hd
 |some e=>
  obtain ⟨h1,h2⟩:=C9 hd
  obtain ⟨x,hx,hv⟩:=h d u h2
  exact ⟨x,by simp only[Ev.put];rw[List.getElem?_set_ne (Ne.symm h1)];exact hx,hv⟩
theorem yr {a:yp} {st:St} (h:jH a st) {ops:Array Oper} {o:Oper} {b:SB} (hb:mf a st ops o=some b): ∃ b',dk st ops o=some b'∧b'.val=b.val:=by
 unfold mf at hb
 split at hb
 ·rename_i hg;simp at hb;subst hb;exact ⟨.lit true,by simp[dk,hg],rfl⟩
 ·rename_i j want hg
  split at hb
  ·rename_i hd;simp at hb;subst hb;exact ⟨.lit false,by simp[dk,hg,hd],rfl⟩
  ·rename_i d hd
   split at hb
   ·rename_i v hk
    simp at hb;subst hb
    obtain ⟨x,hx,hv⟩:=h d v hk
    cases x with
    |lit x=>exact ⟨.lit (x==want),by simp[dk,hg,hd,hx],by simp only[SB.val] at hv ⊢;rw[hv]⟩
    |sym x=>exact ⟨.sym (x==want),by simp[dk,hg,hd,hx],by simp only[SB.val] at hv ⊢;rw[hv]⟩
   ·exact ⟨b,hb,rfl⟩
theorem rJ {a:yp} {st:St} (h:jH a st) {ops:Array Oper} {o:Oper} {b:Bool} (hb:mf a st ops o=some (.sym b)):jH (yq a ops o b) st:=by
 unfold mf at hb
 split at hb
 ·simp at hb
 ·rename_i j want hg
  split at hb
  ·simp at hb
  ·rename_i d hd
   have hl:yq a ops o b=(d,b==want)::a:=by simp only[yq,hg,hd]
   rw[hl]
   split at hb
   ·simp at hb
   ·intro e v he
    simp only[known] at he
    split at he
    ·rename_i hde;subst hde
     simp at he;subst he
     simp only[dk,hg,hd] at hb
     split at hb<;>simp at hb
     rename_i x hx
     subst hb
     exact ⟨.sym x,hx,by cases x<;>cases want<;>rfl⟩
    ·exact h e v he
end Go.Ev
end
section
set_option linter.unusedVariables false
set_option linter.unusedSimpArgs false
namespace Go.Ev
open Go
inductive aU where
 |leaf (e:Exit) (st:St)
 |ite (b:Bool) (t e:aU)
 |need (p:Prop) (r:aU)
 |fail
def aU.sat (Q:Exit→St→Prop):aU→Prop
 | .leaf e st=>Q e st
 | .ite b t e=>(b=true→t.sat Q)∧(b=false→e.sat Q)
 | .need p r=>p∧r.sat Q
 | .fail=>False
def aU.bind (f:St→aU):aU→aU
 | .leaf .normal st=>f st
 | .leaf e st=> .leaf e st
 | .ite b t e=> .ite b (t.bind f) (e.bind f)
 | .need p r=> .need p (r.bind f)
 | .fail=> .fail
def aU.block (id:Nat):aU→aU
 | .leaf (.exit i) st=>if i=id then .leaf .normal st else .leaf (.exit i) st
 | .leaf e st=> .leaf e st
 | .ite b t e=> .ite b (t.block id) (e.block id)
 | .need p r=> .need p (r.block id)
 | .fail=> .fail
def aU.scope:aU→aU
 | .leaf (.goto _) _=> .fail
 | .leaf e st=> .leaf e st
 | .ite b t e=> .ite b t.scope e.scope
 | .need p r=> .need p r.scope
 | .fail=> .fail
def aU.ef (q:Option Prop) (r:aU):aU:=
 match q with
 |none=>r
 |some p=> .need p r
theorem aU.nQ {Q Q':Exit→St→Prop} (hq: ∀ e st,Q e st→Q' e st): ∀ {r:aU},r.sat Q→r.sat Q'
 | .leaf _ _,h=>hq _ _ h
 | .ite _ _ _,h=>⟨fun e=>aU.nQ hq (h.1 e),fun e=>aU.nQ hq (h.2 e)⟩
 | .need _ _,h=>⟨h.1,aU.nQ hq h.2⟩
 | .fail,h=>h
theorem jx {q:Option Prop} {r:aU} {R:Exit→St→Prop} (h:(r.ef q).sat R):ef q∧r.sat R:=by
 cases q with
 |none=>exact ⟨trivial,h⟩
 |some p=>exact h
def nu (W:World) (ah:Hp) (β₀:Env) (R:Exit→St→Prop):Exit→Act→World→Prop:=
 fun e a w=> ∃ st β,R e st∧Rel W ah β₀ β st a w
structure Alt where
 f:Bool→Hp→aU→aU→aU
 yes: ∀ {m:Hp} {t e:aU} {R:Exit→St→Prop} {W:World} {β₀:Env},(f true m t e).sat R→ ∃ R',t.sat R'∧ ∀ e a w,nu W m β₀ R' e a w→nu W m β₀ R e a w
 no: ∀ {m:Hp} {t e:aU} {R:Exit→St→Prop} {W:World} {β₀:Env},(f false m t e).sat R→ ∃ R',e.sat R'∧ ∀ e a w,nu W m β₀ R' e a w→nu W m β₀ R e a w
def fork:Alt where
 f b _ t e:= .ite b t e
 yes h:=⟨_,h.1 rfl,fun _ _ _ h=>h⟩
 no h:=⟨_,h.2 rfl,fun _ _ _ h=>h⟩
structure FX where
 r:List Nat
 d:List (Nat×Item)
 v:LV
 re:Hp→Out×List Nat
abbrev FP:=Option FX
def FX.w (f:FX):List Nat:=f.d.map (·.1)
def QD (a:Ask Out) (hp:Hp) (v:LV) (d:List (Nat×Item)):FP:=some ⟨a.log hp,d,v,fun h=>(a.val h,a.log h)⟩
def Out.qf (dr:Bool) (k:LV→List (Nat×Item)→aU):Out→aU
 | .leaf q v d=>(k v d).ef q
 | .ite b x y=>if dr then .fail else .ite b (x.qf dr k) (y.qf dr k)
 | .fail=> .fail
def mg (k:yp):Op→Option Bool
 | .pick (.tmp d) _ _=>known k d
 |_=>none
def lp (P:Program) (G:yo) (k:yp) (id:Nat) (e:Operand→LV) (op:Op):Ask Out:=
 match mg k op,op with
 |some v,.pick _ x y=> .ret (.leaf none (if v then e x else e y) [])
 |_,_=>rI P G id e op
def g7 (P:Program) (G:yo) (A:Alt) (m:Hp) (dr:Bool) (BM:List FP→Option (Option Prop)) (ops:Array Oper):List Oper→yp→List FP→St→aU
 | [],_,acc,st=>match BM acc with
  |some q=>(aU.leaf .normal st).ef q
  |none=> .fail
 |o::rest,k,acc,st=>
  match mf k st ops o with
  |some (.lit true)=>((lp P G k st.hp.length (ev st) o.op).val st.hp).qf dr fun v d=>
    g7 P G A m dr BM ops rest (forget k o.dst) (acc++ [QD (lp P G k st.hp.length (ev st) o.op) st.hp v d]) (put st o.dst v (aE d st.hp))
  |some (.lit false)=>g7 P G A m dr BM ops rest (forget k o.dst) (acc++ [none]) (put st o.dst (.cD []) st.hp)
  |some (.sym b)=>A.f b m
    (((lp P G (yq k ops o true) st.hp.length (ev st) o.op).val st.hp).qf dr fun v d=>
      g7 P G A m dr BM ops rest (forget (yq k ops o true) o.dst) (acc++ [QD (lp P G (yq k ops o true) st.hp.length (ev st) o.op) st.hp v d]) (put st o.dst v (aE d st.hp)))
    (g7 P G A m dr BM ops rest (forget (yq k ops o false) o.dst) (acc++ [none]) (put st o.dst (.cD []) st.hp))
  |none=> .fail
theorem fT {hp:Hp} {j:Nat} (h:hp.length≤j):kd hp j=none:=by
 unfold kd
 rw[List.getElem?_eq_none h]
theorem rK (hp:Hp) (d:List (Nat×Item)):Oq hp.length hp d:=fun _ _ _ h=>fT h
theorem uT (hp:Hp): ∀ o:Out,o.fresh hp.length hp
 | .leaf _ _ d=>rK hp d
 | .ite _ x y=>⟨uT hp x,uT hp y⟩
 | .fail=>trivial
theorem nR {dr:Bool} {k:LV→List (Nat×Item)→aU} {R:Exit→St→Prop}: ∀ {o:Out},(o.qf dr k).sat R→o.holds fun v d=>(k v d).sat R
 | .leaf q v d,h=>jx h
 | .ite b x y,h=>by
  simp only[Out.qf] at h
  split at h
  ·exact h.elim
  ·exact ⟨fun e=>nR (h.1 e),fun e=>nR (h.2 e)⟩
 | .fail,h=>h
theorem Kl {k:LV→List (Nat×Item)→aU} {R:Exit→St→Prop} {o:Out} (h:(o.qf true k).sat R): ∃ q v d,o= .leaf q v d∧ef q∧(k v d).sat R:=by
 cases o with
 |leaf q v d=>exact ⟨q,v,d,rfl,(jx h).1,(jx h).2⟩
 |ite b x y=>simp[Out.qf,aU.sat] at h
 |fail=>exact h.elim
theorem Ot {P:Program} {G:yo} {k:yp} {id:Nat} {st:St} {op:Op} (hk:jH k st):
  (lp P G k id (ev st) op=gC P G (mg k op) id (ev st) op)∨
  ∃ v p,lp P G k id (ev st) op= .ret (.leaf none v [])∧gC P G (mg k op) id (ev st) op= .ret (.leaf (some p) v [])∧p:=by
 unfold lp
 split
 ·rename_i v c x y hh
  right
  unfold mg at hh
  split at hh
  ·rename_i d x' y' e
   simp at e;obtain ⟨rfl,rfl,rfl⟩:=e
   obtain ⟨t,ht,hv⟩:=hk _ _ hh
   have hev:ev st (.tmp d)= .one (.sc (.bool t)):=by simp[ev,List.getD_eq_getElem?_getD,ht]
   refine ⟨_,t.val=v,rfl,?_,hv⟩
   simp only[gC,mg,hh,hev]
  ·cases hh
 ·rename_i rD
  left
  unfold gC
  split
  ·rename_i v c x y hh
   exact absurd hh (by intro h;exact rD v c x y h rfl)
  ·rfl
theorem Uq {P:Program} {G:yo} (hG:GOk P G) {k:yp} {id:Nat} {st:St} {o:Oper} (hk:jH k st) (hf: ∀ o:Out,o.fresh id st.hp) {K:LV→List (Nat×Item)→Prop} (h:((lp P G k id (ev st) o.op).val st.hp).holds K)
  {W:World} {ah:Hp} {β₀ β:Env} {a:Act} {w:World} (hr:Rel W ah β₀ β st a w) {next:Act→World→Prop} {Q:Exit→Act→World→Prop}
  (hn: ∀ v d β' a' w',K v d→Rel W ah β₀ β' (put st o.dst v (aE d st.hp)) a' w'→next a' w'):o.wp P a w next Q:=by
 have hs:((gC P G (mg k o.op) id (ev st) o.op).val st.hp).holds K:=by
  rcases Ot (P:=P) (G:=G) (id:=id) (op:=o.op) hk with e|⟨v,p,e1,e2,hp⟩
  ·rw[← e];exact h
  ·rw[e1] at h;rw[e2];exact ⟨hp,h.2⟩
 exact GL hG (hf _) hs hr hn
theorem yu {P:Program} {G:yo} {A:Alt} (hG:GOk P G) {W:World} {m:Hp} {β₀:Env} {dr:Bool} {BM:List FP→Option (Option Prop)} {ops:Array Oper} {Q:Exit→Act→World→Prop}:
  ∀ (l:List Oper) (k:yp) (acc:List FP) (st:St) (R:Exit→St→Prop),jH k st→(g7 P G A m dr BM ops l k acc st).sat R→(∀ e a w,nu W m β₀ R e a w→Q e a w)→
   ∀ β a w,Rel W m β₀ β st a w→wpList P ops Q l a w
 | [],k,acc,st,R,hk,h,hq,β,a,w,hr=>by
  simp only[g7] at h
  split at h
  ·exact hq _ _ _ ⟨st,β,(jx h).2,hr⟩
  ·exact h.elim
 |o::rest,k,acc,st,R,hk,h,hq,β,a,w,hr=>by
  have dK: ∀ (k:yp) (acc:LV→List (Nat×Item)→List FP),jH k st→ ∀ (R:Exit→St→Prop),(((lp P G k st.hp.length (ev st) o.op).val st.hp).qf dr fun v d=>
    g7 P G A m dr BM ops rest (forget k o.dst) (acc v d) (put st o.dst v (aE d st.hp))).sat R→(∀ e a w,nu W m β₀ R e a w→Q e a w)→o.wp P a w (wpList P ops Q rest) Q:=by
   intro k acc hk R h hq
   exact Uq hG hk (uT _) (nR h) hr fun v d β' a' w' hkv o6=>yu hG rest _ _ _ R hk.put hkv hq β' a' w' o6
  have GM: ∀ (k:yp) (acc:List FP),jH k st→ ∀ (R:Exit→St→Prop),(g7 P G A m dr BM ops rest (forget k o.dst) acc (put st o.dst (.cD []) st.hp)).sat R→(∀ e a w,nu W m β₀ R e a w→Q e a w)→
    wpList P ops Q rest (a.put o.dst undef) w:=by
   intro k acc hk R h hq
   exact yu hG rest _ _ _ R hk.put h hq β _ w (hr.put (dst:=o.dst) ⟨[],rfl,.nil⟩ hr.heap (bD.refl _ _))
  simp only[g7] at h
  cases hb:mf k st ops o with
  |none=>simp only[hb] at h;exact h.elim
  |some b=>
   obtain ⟨b',j8,hbv⟩:=yr hk hb
   have hw:=wB hr j8
   rw[hbv] at hw
   simp only[hb] at h
   simp only[wpList,hw]
   cases b with
   |lit b=>
    cases b with
    |true=>exact .inl (dK k _ hk R h hq)
    |false=>exact GM k _ hk R h hq
   |sym b=>
    cases b with
    |true=>
     obtain ⟨R',h1,h2⟩:=A.yes (W:=W) (β₀:=β₀) h
     exact .inl (dK _ _ (rJ hk hb) R' h1 fun e a w hp=>hq e a w (h2 e a w hp))
    |false=>
     obtain ⟨R',h1,h2⟩:=A.no (W:=W) (β₀:=β₀) h
     exact GM _ _ (rJ hk hb) R' h1 fun e a w hp=>hq e a w (h2 e a w hp)
theorem put_comm (st:St) {x y:Option Tmp} (v u:LV) (h1 h2 h:Hp) (fR: ∀ d,x=some d→y≠some d):put (put st x v h1) y u h=put (put st y u h2) x v h:=by
 cases x with
 |none=>cases y<;>rfl
 |some d=>
  cases y with
  |none=>rfl
  |some e=>
   have:d≠e:=fun he=>fR d rfl (he▸rfl)
   simp only[put]
   rw[List.set_comm _ _ this]
theorem QE {ops:Array Oper} {o:Oper} {t:Tmp} (h:Operand.tmp t∈o.op.operands):t∈o.looksAt ops:=by
 unfold Oper.looksAt
 rw[List.mem_append]
 refine .inl (List.mem_filterMap.2 ⟨.tmp t,by simpa using h,rfl⟩)
theorem afZ {st:St} {dst:Option Tmp} {v:LV} {hp:Hp} {x:Operand} (h: ∀ d,dst=some d→x≠ .tmp d):ev (put st dst v hp) x=ev st x:=by
 cases dst with
 |none=>cases x<;>rfl
 |some d=>
  cases x with
  |tmp t=>
   have fR:t≠d:=fun e=>h d rfl (e▸rfl)
   simp only[ev,put,List.getD_eq_getElem?_getD]
   rw[List.getElem?_set_ne (Ne.symm fR)]
  |_=>rfl
theorem lq {ops:Array Oper} {o:Oper} {dst:Option Tmp} (h: ∀ d,dst=some d→d∉o.looksAt ops) {st:St} {v:LV} {hp:Hp}: ∀ x∈o.op.operands,ev (put st dst v hp) x=ev st x:=
 fun _x hx=>afZ fun d hd e=>h d hd (QE (e▸hx))
theorem eD {ops:Array Oper} {o:Oper} {dst:Option Tmp} (h: ∀ d,dst=some d→d∉o.looksAt ops) {st:St} {v:LV} {hp:Hp}:
  dk (put st dst v hp) ops o=dk st ops o:=by
 unfold dk
 cases hg:o.guard with
 |none=>rfl
 |some p=>
  obtain ⟨j,want⟩:=p
  cases ht:(ops[j]?).bind (·.dst) with
  |none=>simp[ht]
  |some t=>
   have:(put st dst v hp).fr[t]? =st.fr[t]? :=by
    cases dst with
    |none=>rfl
    |some d=>
     have fR:d≠t:=fun e=>h d rfl (by subst e;simp[Oper.looksAt,hg,ht])
     simp only[put]
     rw[List.getElem?_set_ne fR]
   simp only[ht,this]
theorem Km {P:Program} {id:Nat} {e e2:Operand→LV} {op:Op} (h: ∀ x∈op.operands,e2 x=e x):fh P id e2 op=fh P id e op:=by
 cases op<;>simp only[Op.operands] at h<;>(try rfl)
 case move x=>simp only[fh,h x (by simp)]
 case assign x=>simp only[fh,h x (by simp)]
 case pick c x y=>simp only[fh,h c (by simp),h x (by simp),h y (by simp)]
 case box t x=>simp only[fh,h x (by simp)]
 case build t parts=>
  have e:(parts.toList.map fun p=>(p.1,e2 p.2))=parts.toList.map fun p=>(p.1,e p.2):=List.map_congr_left fun p hp=>by
   rw[h p.2 (by rw[List.mem_toArray];exact List.mem_map.2 ⟨p,hp,rfl⟩)]
  simp only[fh,e]
 case buildSlice t len parts=>
  have e:(parts.toList.map fun p=>(p.1,e2 p.2))=parts.toList.map fun p=>(p.1,e p.2):=List.map_congr_left fun p hp=>by
   rw[h p.2 (by rw[List.mem_toArray];exact List.mem_map.2 ⟨p,hp,rfl⟩)]
  simp only[fh,e]
 case load t x=>simp only[fh,h x (by simp)]
 case store t x y=>simp only[fh,h x (by simp),h y (by simp)]
 case nilCheck x=>simp only[fh,h x (by simp)]
 case binOp op t x y yt=>simp only[fh,h x (by simp),h y (by simp)]
 case unOp op t x=>simp only[fh,h x (by simp)]
 case convert s d x=>simp only[fh,h x (by simp)]
 case sliceToArrayPointer t x=>simp only[fh,h x (by simp)]
 case makeSlice t x y=>simp only[fh,h x (by simp),h y (by simp)]
 case slice t x lo hi mx=>
  have e1:lo.map e2=lo.map e:=by cases lo<;>simp_all
  have e3:hi.map e2=hi.map e:=by cases hi<;>simp_all
  have e4:mx.map e2=mx.map e:=by cases mx<;>simp_all
  simp only[fh,h x (by simp),e1,e3,e4]
 case fieldAddr s x f=>simp only[fh,h x (by simp)]
 case field s x f=>simp only[fh,h x (by simp)]
 case indexAddr t x i=>simp only[fh,h x (by simp),h i (by simp)]
 case index t x i=>simp only[fh,h x (by simp),h i (by simp)]
 case extract x i=>simp only[fh,h x (by simp)]
theorem GN {P:Program} {G:yo} {id:Nat} {e e2:Operand→LV} {op:Op} (h: ∀ x∈op.operands,e2 x=e x):rI P G id e2 op=rI P G id e op:=by
 unfold rI
 split
 ·rename_i c
  have dc:c.args.toList.map e2=c.args.toList.map e:=List.map_congr_left fun x hx=>h x (by simp only[Op.operands,Call.operands,Array.mem_append];exact .inr (by simpa using hx))
  rw[dc]
  split
  ·rfl
  ·rename_i f hf
   rw[h f (by simp[Op.operands,Call.operands,hf])]
  ·rfl
 ·rw[Km h]
theorem cu {P:Program} {G:yo} {g:Option Bool} {id:Nat} {e e2:Operand→LV} {op:Op} (h: ∀ x∈op.operands,e2 x=e x):gC P G g id e2 op=gC P G g id e op:=by
 unfold gC
 split
 ·rename_i v c x y
  rw[h c (by simp[Op.operands]),h x (by simp[Op.operands]),h y (by simp[Op.operands])]
 ·exact GN h
theorem Da {hp:Hp} {i k:Nat} {x:Item} (h:k≠i):bd (setAt hp i x) k=bd hp k:=by
 unfold bd
 split
 ·rename_i y hy
  rw[(bY hp i x k y h).1 hy]
 ·rename_i hn
  split
  ·rename_i y hy;exact absurd ((bY hp i x k y h).2 hy) (hn y)
  ·rfl
theorem dL: ∀ {d:List (Nat×Item)} {hp:Hp} {k:Nat},k∉d.map (·.1)→bd (aE d hp) k=bd hp k
 | [],_,_,_=>rfl
 |(i,x)::d,hp,k,h=>by
  simp only[List.map_cons,List.mem_cons,not_or] at h
  show bd (aE d (setAt hp i x)) k=_
  rw[dL h.2,Da h.1]
theorem BN (hp:Hp) (k:Nat):kd hp k=(bd hp k).map Item.kd:=by
 unfold kd bd
 cases hp[k]? with
 |none=>rfl
 |some x=>cases x<;>rfl
theorem QF {d:List (Nat×Item)} {hp:Hp} {k:Nat} (h:k∉d.map (·.1)):kd (aE d hp) k=kd hp k:=by rw[BN,BN,dL h]
theorem nS: ∀ {d:List (Nat×Item)} {hp:Hp} {k:Nat},kd (aE d hp) k=none→kd hp k=none
 | [],_,_,h=>h
 |(i,x)::d,hp,k,h=>by
  have:=nS (d:=d) (hp:=setAt hp i x) h
  rw[cN] at this
  split at this
  ·cases this
  ·exact this
theorem qG: ∀ (hp:Hp) (i j:Nat) (a b:Item),i≠j→setAt (setAt hp i a) j b=setAt (setAt hp j b) i a
 | [],0,0,_,_,h=>absurd rfl h
 | [],0,j+1,a,b,_=>by simp[setAt]
 | [],i+1,0,a,b,_=>by simp[setAt]
 | [],i+1,j+1,a,b,h=>by simp only[setAt];rw[qG [] i j a b (by omega)]
 |_::_,0,0,_,_,h=>absurd rfl h
 |_::_,0,j+1,_,_,_=>by simp[setAt]
 |_::_,i+1,0,_,_,_=>by simp[setAt]
 |_::l,i+1,j+1,a,b,h=>by simp only[setAt];rw[qG l i j a b (by omega)]
theorem rL: ∀ (d:List (Nat×Item)) (hp:Hp) (i:Nat) (x:Item),i∉d.map (·.1)→aE d (setAt hp i x)=setAt (aE d hp) i x
 | [],_,_,_,_=>rfl
 |(j,y)::d,hp,i,x,h=>by
  simp only[List.map_cons,List.mem_cons,not_or] at h
  show aE d (setAt (setAt hp i x) j y)=setAt (aE d (setAt hp j y)) i x
  rw[qG _ _ _ _ _ h.1,rL d _ _ _ h.2]
theorem wC: ∀ (d d2:List (Nat×Item)) (hp:Hp),(∀ k∈d.map (·.1),k∉d2.map (·.1))→aE d2 (aE d hp)=aE d (aE d2 hp)
 | [],_,_,_=>rfl
 |(i,x)::d,d2,hp,h=>by
  show aE d2 (aE d (setAt hp i x))=aE d (setAt (aE d2 hp) i x)
  rw[wC d d2 (setAt hp i x) fun k hk=>h k (by simp[List.map_cons];exact .inr (by simpa using hk)),rL d2 _ _ _ (h i (by simp))]
def ajm (f:FX) (a:Ask Out):Prop:= ∀ h,(f.re h).2=a.log h∧ ∀ v',(f.re h).1= .leaf none v' []→ ∃ q',a.val h= .leaf q' v' []∧ef q'
theorem wD: ∀ {d:List (Nat×Item)} {hp hp2:Hp} {k:Nat},k∈d.map (·.1)→bd (aE d hp) k=bd (aE d hp2) k
 |(i,x)::d,hp,hp2,k,h=>by
  show bd (aE d (setAt hp i x)) k=bd (aE d (setAt hp2 i x)) k
  by_cases hk:k∈d.map (·.1)
  ·exact wD hk
  ·have e:k=i:=by simpa [hk] using h
   subst e
   rw[dL hk,dL hk,oU (cZ _ _ _),oU (cZ _ _ _)]
def rM (P:Program) (G:yo) (ops:Array Oper) (ids:Nat→Nat) (fp:Nat→FP) (i:Nat) (st o7:St):Prop:=
 ∃ o b,ops[i]? =some o∧dk st ops o=some b∧
  ((b.val=true∧ ∃ q v d g f,(gC P G g (ids i) (ev st) o.op).val st.hp= .leaf q v d∧ef q∧(fp i=some f∧f.r=(gC P G g (ids i) (ev st) o.op).log st.hp∧f.d=d∧f.v=v∧ajm f (gC P G g (ids i) (ev st) o.op))∧Oq (ids i) st.hp d∧o7=put st o.dst v (aE d st.hp))∨
   (b.val=false∧fp i=none∧o7=put st o.dst (.cD []) st.hp))
def Kn:FP→FP→Bool
 |some f1,some f2=>f1.w.all (fun k=> !(f2.r.contains k)&& !(f2.w.contains k))&&f2.w.all fun k=> !(f1.r.contains k)
 |_,_=>true
def Ur (fj fi:FP):Prop:= ∃ a b,fj=some a∧fi=some b∧a.d= []∧(∀ k∈a.r,k∈b.w)∧a.re (aE b.d [])=(.leaf none a.v [],a.r)
theorem dw {st:St} {dst:Option Tmp} {v:LV} {hp:Hp}:(put st dst v hp).hp=hp:=by cases dst<;>rfl
section
variable {P:Program} {G:yo} {ops:Array Oper} {ids:Nat→Nat} {fp:Nat→FP}
theorem QG {i j:Nat} {oi oj:Oper} (yw:ops[i]? =some oi) (Db:ops[j]? =some oj) (hap:oj.apart ops oi=true) (Ko:Kn (fp j) (fp i)=true∨Ur (fp j) (fp i))
  {st s1 s2:St} (h1:rM P G ops ids fp j st s1) (h2:rM P G ops ids fp i s1 s2): ∃ s1',rM P G ops ids fp i st s1'∧rM P G ops ids fp j s1' s2:=by
 obtain ⟨a1,a2,a3⟩:=Oper.apart_spec hap
 obtain ⟨o,bj,ho,hwj,h1⟩:=h1
 rw[Db] at ho;simp at ho;subst ho
 obtain ⟨o,bi,ho,hwi,h2⟩:=h2
 rw[yw] at ho;simp at ho;subst ho
 rcases h1 with ⟨hbj,qj,vj,dj,gj,Fj,ej,nj,⟨fj,fj1,fj2,fj3,fj4⟩,rj,rfl⟩|⟨hbj,fj,rfl⟩
 ·rw[eD a1] at hwi
  have evi: ∀ x∈oi.op.operands,ev (put st oj.dst vj (aE dj st.hp)) x=ev st x:=lq a1
  rcases h2 with ⟨hbi,qi,vi,di,gi,Fi,ei,ni,⟨fi,fi1,fi2,fi3,fi4⟩,ri,rfl⟩|⟨hbi,fi,rfl⟩
  ·rw[cu evi,dw] at ei fi1
   rw[cu evi] at fi4
   rw[dw] at ri
   have evj: ∀ x∈oj.op.operands,ev (put st oi.dst vi (aE di st.hp)) x=ev st x:=lq a3
   rw[fj,fi] at Ko
   rcases Ko with Ko|ajq
   ·simp only[Kn,FX.w,Bool.and_eq_true,List.all_eq_true,Bool.not_eq_true',List.contains_eq_mem,decide_eq_false_iff_not,fj1,fj2,fi1,fi2] at Ko
    obtain ⟨d1,d2⟩:=Ko
    have hli: ∀ k∈(gC P G gi (ids i) (ev st) oi.op).log (aE dj st.hp),bd st.hp k=bd (aE dj st.hp) k:=fun k hk=>(dL fun hm=>(d1 k hm).1 hk).symm
    obtain ⟨k1,k2⟩:=Ask.CV _ hli
    have hlj: ∀ k∈(gC P G gj (ids j) (ev st) oj.op).log st.hp,bd (aE di st.hp) k=bd st.hp k:=fun k hk=>dL fun hm=>d2 k hm hk
    obtain ⟨k3,k4⟩:=Ask.CV _ hlj
    refine ⟨put st oi.dst vi (aE di st.hp),⟨oi,bi,yw,hwi,.inl ⟨hbi,qi,vi,di,gi,Fi,by rw[k1];exact ei,ni,⟨fi,by rw[k2];exact fi1,fi2,fi3,fi4⟩,fun k x hk hle=>nS (ri k x hk hle),rfl⟩⟩,
     ⟨oj,bj,Db,by rw[eD a3];exact hwj,.inl ⟨hbj,qj,vj,dj,gj,Fj,by rw[cu evj,dw,k3];exact ej,nj,⟨fj,by rw[cu evj,dw,k4];exact fj1,fj2,fj3,by rw[cu evj];exact fj4⟩,?_,?_⟩⟩⟩
    ·intro k x hk hle
     rw[dw,QF (fun hm=>(d1 k (List.mem_map.2 ⟨_,hk,rfl⟩)).2 hm)]
     exact rj k x hk hle
    ·rw[dw,dw,wC dj di st.hp (fun k hk=>(d1 k hk).2)]
     exact put_comm st vj vi _ _ _ a2
   ·obtain ⟨a,b,e1,e2,h3,h4,h5⟩:=ajq
    simp at e1 e2;subst e1 e2
    rw[fj2] at h3;subst h3
    simp only[FX.w,fi2] at h4 h5
    rw[fj3] at h5
    obtain ⟨m1,m2⟩:=fj4 (aE di [])
    rw[h5] at m1 m2
    obtain ⟨q',m3,m4⟩:=m2 vj rfl
    simp only at m1
    have ant: ∀ k∈(gC P G gj (ids j) (ev st) oj.op).log (aE di []),bd (aE di st.hp) k=bd (aE di []) k:=fun k hk=>wD (h4 k (by rw[m1];exact hk))
    obtain ⟨k3,k4⟩:=Ask.CV _ ant
    refine ⟨put st oi.dst vi (aE di st.hp),⟨oi,bi,yw,hwi,.inl ⟨hbi,qi,vi,di,gi,Fi,ei,ni,⟨fi,fi1,fi2,fi3,fi4⟩,ri,rfl⟩⟩,
     ⟨oj,bj,Db,by rw[eD a3];exact hwj,.inl ⟨hbj,q',vj,[],gj,Fj,by rw[cu evj,dw,k3];exact m3,m4,⟨fj,by rw[cu evj,dw,k4];exact m1,fj2,fj3,by rw[cu evj];exact fj4⟩,fun k x hk=>(by cases hk),?_⟩⟩⟩
    rw[dw,dw]
    exact put_comm st vj vi _ _ _ a2
  ·refine ⟨put st oi.dst (.cD []) st.hp,⟨oi,bi,yw,hwi,.inr ⟨hbi,fi,rfl⟩⟩,⟨oj,bj,Db,by rw[eD a3];exact hwj,.inl ⟨hbj,qj,vj,dj,gj,Fj,?_,nj,⟨fj,?_,fj2,fj3,?_⟩,?_,?_⟩⟩⟩
   ·rw[cu (lq a3),dw];exact ej
   ·rw[cu (lq a3),dw];exact fj1
   ·rw[cu (lq a3)];exact fj4
   ·rw[dw];exact rj
   ·rw[dw,dw];exact put_comm st vj _ _ _ _ a2
 ·rw[eD a1] at hwi
  have evi: ∀ x∈oi.op.operands,ev (put st oj.dst (.cD []) st.hp) x=ev st x:=lq a1
  rcases h2 with ⟨hbi,qi,vi,di,gi,Fi,ei,ni,⟨fi,fi1,fi2,fi3,fi4⟩,ri,rfl⟩|⟨hbi,fi,rfl⟩
  ·rw[cu evi,dw] at ei fi1
   rw[cu evi] at fi4
   rw[dw] at ri
   refine ⟨put st oi.dst vi (aE di st.hp),⟨oi,bi,yw,hwi,.inl ⟨hbi,qi,vi,di,gi,Fi,ei,ni,⟨fi,fi1,fi2,fi3,fi4⟩,ri,rfl⟩⟩,⟨oj,bj,Db,by rw[eD a3];exact hwj,.inr ⟨hbj,fj,?_⟩⟩⟩
   rw[dw,dw];exact put_comm st _ vi _ _ _ a2
  ·refine ⟨put st oi.dst (.cD []) st.hp,⟨oi,bi,yw,hwi,.inr ⟨hbi,fi,rfl⟩⟩,⟨oj,bj,Db,by rw[eD a3];exact hwj,.inr ⟨hbj,fj,?_⟩⟩⟩
   rw[dw,dw];exact put_comm st _ _ _ _ _ a2
end
inductive rN (P:Program) (G:yo) (ops:Array Oper) (ids:Nat→Nat) (fp:Nat→FP):List Nat→St→St→Prop where
 |nil {st}:rN P G ops ids fp [] st st
 |cons {i l st s s'} (h:rM P G ops ids fp i st s) (t:rN P G ops ids fp l s s'):rN P G ops ids fp (i::l) st s'
def lr (acc:List Nat) (o:Oper):Nat:=
 o.after.toList.foldr (fun e s=>if Region.binds .any e then s|||2 ^ e.on|||acc.getD e.on 0 else s) 0
def rO:List Oper→List Nat→List Nat
 | [],acc=>acc
 |o::l,acc=>rO l (acc++ [lr acc o])
theorem Bm {acc:List Nat} {o:Oper} {j:Nat} (h:Nat.testBit (lr acc o) j=true):
  ∃ e∈o.after,Region.binds .any e=true∧(e.on=j∨Nat.testBit (acc.getD e.on 0) j=true):=by
 unfold lr at h
 have key: ∀ l:List Edge,Nat.testBit (l.foldr (fun e s=>if Region.binds .any e then s|||2 ^ e.on|||acc.getD e.on 0 else s) 0) j=true→
   ∃ e∈l,Region.binds .any e=true∧(e.on=j∨Nat.testBit (acc.getD e.on 0) j=true):=by
  intro l
  induction l with
  |nil=>intro h;simp at h
  |cons e l ih=>
   intro h
   simp only[List.foldr_cons] at h
   split at h
   ·rename_i hb
    simp only[Nat.testBit_or,Bool.or_eq_true,Nat.testBit_two_pow,decide_eq_true_eq] at h
    rcases h with (h|h)|h
    ·obtain ⟨e',h1,h2⟩:=ih h;exact ⟨e',by simp[h1],h2⟩
    ·exact ⟨e,by simp,hb,.inl h⟩
    ·exact ⟨e,by simp,hb,.inr h⟩
   ·obtain ⟨e',h1,h2⟩:=ih h;exact ⟨e',by simp[h1],h2⟩
 obtain ⟨e,h1,h2⟩:=key _ h
 exact ⟨e,by simpa using h1,h2⟩
def rP:List Oper→Nat→Bool
 | [],_=>true
 |o::l,n=>(o.after.all fun e=> !Region.binds .any e||decide (e.on<n))&&rP l (n+1)
def Kp (ops:Array Oper) (oj oi:Oper) (bit:Bool) (fj fi:FP):Option (List Prop):=
 if bit||(oj.apart ops oi&&Kn fj fi) then some []
 else if oj.apart ops oi then match fj,fi with
  |some a,some b=>if a.d.isEmpty&&a.r.all (fun k=>b.w.contains k) then some [a.re (aE b.d [])=(.leaf none a.v [],a.r)] else none
  |_,_=>none
 else none
def af2:List Prop→Prop
 | []=>True
 | [p]=>p
 |p::l=>p∧af2 l
theorem GO: ∀ {l:List Prop} {p:Prop},af2 l→p∈l→p
 | [x],p,h,hp=>by
  rcases List.mem_cons.1 hp with rfl|hp
  ·exact h
  ·cases hp
 |x::y::l,p,h,hp=>by
  rcases List.mem_cons.1 hp with rfl|hp
  ·exact h.1
  ·exact GO (l:=y::l) h.2 hp
theorem GP {ops:Array Oper} {oj oi:Oper} {bit:Bool} {fj fi:FP} {l:List Prop} (h:Kp ops oj oi bit fj fi=some l) (hp: ∀ p∈l,p):bit=true∨(oj.apart ops oi=true∧(Kn fj fi=true∨Ur fj fi)):=by
 unfold Kp at h
 split at h
 ·rename_i hc
  simp only[Bool.or_eq_true,Bool.and_eq_true] at hc
  exact hc.imp id fun hc=>⟨hc.1,.inl hc.2⟩
 ·split at h
  ·rename_i ha
   split at h
   ·rename_i a b _
    split at h
    ·rename_i hc
     simp only[Bool.and_eq_true,List.all_eq_true,List.contains_eq_mem,decide_eq_true_eq,List.isEmpty_iff] at hc
     cases h
     exact .inr ⟨ha,.inr ⟨a,b,rfl,rfl,hc.1,hc.2,hp _ (List.mem_cons_self ..)⟩⟩
    ·cases h
   ·cases h
  ·cases h
def xg (ops:Array Oper) (oi:Oper) (mask:Nat) (fi:FP):List Oper→List FP→Nat→Option (List Prop)
 | [],_,_=>some []
 |oj::l,fs,j=>match Kp ops oj oi (Nat.testBit mask j) (fs.headD none) fi with
  |some a=>match xg ops oi mask fi l fs.tail (j+1) with
   |some b=>some (a++b)
   |none=>none
  |none=>none
def nT (ops:Array Oper) (ms:List Nat) (fs:List FP):List Oper→Nat→Option (List Prop)
 | [],_=>some []
 |o::l,i=>match xg ops o (ms.getD i 0) (fs.getD i none) (ops.toList.take i) fs 0 with
  |some a=>match nT ops ms fs l (i+1) with
   |some b=>some (a++b)
   |none=>none
  |none=>none
structure af3 (ops:Array Oper) (M:Nat→Nat) (fp:Nat→FP) (i:Nat) (o:Oper):Prop where
 early: ∀ e∈o.after,Region.binds .any e=true→e.on<i
 ajr: ∀ j oj,j<i→ops[j]? =some oj→Nat.testBit (M i) j=true∨(oj.apart ops o=true∧(Kn (fp j) (fp i)=true∨Ur (fp j) (fp i)))
 waits: ∀ j,Nat.testBit (M i) j=true→ ∃ e∈o.after,Region.binds .any e=true∧(e.on=j∨Nat.testBit (M e.on) j=true)
theorem rQ {ops:Array Oper} {oi:Oper} {mask:Nat} {fi:FP}: ∀ (l:List Oper) (fs:List FP) (k:Nat) {ps:List Prop},xg ops oi mask fi l fs k=some ps→(∀ p∈ps,p)→ ∀ j oj,l[j]? =some oj→Nat.testBit mask (k+j)=true∨(oj.apart ops oi=true∧(Kn (fs.getD j none) fi=true∨Ur (fs.getD j none) fi))
 | [],_,_,_,_,_,j,oj,hj=>by simp at hj
 |o::l,fs,k,ps,h,hp,j,oj,hj=>by
  simp only[xg] at h
  split at h
  ·rename_i a ha
   split at h
   ·rename_i b hb
    cases h
    cases j with
    |zero=>
     simp at hj;subst hj
     have e:fs.headD none=fs.getD 0 none:=by cases fs<;>rfl
     rw[← e]
     exact GP ha fun p hm=>hp p (by simp[hm])
    |succ j=>
     have:=rQ l fs.tail (k+1) hb (fun p hm=>hp p (by simp[hm])) j oj (by simpa using hj)
     have e:fs.tail.getD j none=fs.getD (j+1) none:=by cases fs<;>simp[List.getD]
     rw[e] at this
     rwa [show k+1+j=k+(j+1) by omega] at this
   ·cases h
  ·cases h
theorem qg {ops:Array Oper} {ms:List Nat} {fs:List FP}: ∀ (l:List Oper) (k:Nat) {ps:List Prop},(∀ j,l[j]? =ops[k+j]?)→nT ops ms fs l k=some ps→(∀ p∈ps,p)→ ∀ i o,k≤i→ops[i]? =some o→ ∀ j oj,j<i→ops[j]? =some oj→Nat.testBit (ms.getD i 0) j=true∨(oj.apart ops o=true∧(Kn (fs.getD j none) (fs.getD i none)=true∨Ur (fs.getD j none) (fs.getD i none)))
 | [],k,_,hl,_,_,i,o,hi,ho,_,_,_,_=>by
  have:=hl (i-k)
  rw[show k+(i-k)=i by omega,ho] at this
  simp at this
 |x::l,k,ps,hl,h,hp,i,o,hi,ho,j,oj,hj,Db=>by
  simp only[nT] at h
  split at h
  ·rename_i a ha
   split at h
   ·rename_i b hb
    cases h
    by_cases e:i=k
    ·subst e
     have hx:o=x:=by
      have:=hl 0
      rw[Nat.add_zero,ho] at this
      simpa using this.symm
     subst hx
     have:=rQ _ _ 0 ha (fun p hm=>hp p (by simp[hm])) j oj (by rw[List.getElem?_take];simp[hj,Db])
     rwa [Nat.zero_add] at this
    ·exact qg l (k+1) (fun j=>by have:=hl (j+1);simpa [Nat.add_assoc,Nat.add_comm 1 j] using this) hb (fun p hm=>hp p (by simp[hm])) i o (by omega) ho j oj hj Db
   ·cases h
  ·cases h
theorem yx {ops:Array Oper}: ∀ (l before:List Oper) (acc:List Nat),before++l=ops.toList→acc.length=before.length→rP l before.length=true→
  (∀ M:Nat→Nat,(∀ i,M i=(rO l acc).getD i 0)→ ∀ i o,before.length≤i→ops[i]? =some o→(∀ e∈o.after,Region.binds .any e=true→e.on<i)∧
   (∀ j,Nat.testBit (M i) j=true→ ∃ e∈o.after,Region.binds .any e=true∧(e.on=j∨Nat.testBit (M e.on) j=true)))∧(∀ i,i<acc.length→(rO l acc).getD i 0=acc.getD i 0)
 | [],before,acc,hb,ha,_=>by
  have hs:before.length=ops.size:=by
   have:=congrArg List.length hb;simpa using this
  refine ⟨fun M hM i o hi ho=>?_,fun _ _=>rfl⟩
  have:=(Array.getElem?_eq_some_iff.1 ho).1;omega
 |o::l,before,acc,hb,ha,h=>by
  simp only[rP,Bool.and_eq_true] at h
  obtain ⟨h1,h4⟩:=h
  obtain ⟨i1,i3⟩:=yx l (before++ [o]) (acc++ [lr acc o]) (by simpa using hb) (by simp[ha]) (by simpa using h4)
  have hmk:rO (o::l) acc=rO l (acc++ [lr acc o]):=rfl
  have ajs: ∀ i,i<acc.length→(rO (o::l) acc).getD i 0=acc.getD i 0:=fun i hi=>by
   rw[hmk,i3 i (by simp;omega)]
   simp only[List.getD_eq_getElem?_getD]
   rw[List.getElem?_append_left hi]
  refine ⟨fun M hM i oi hi ho=>?_,ajs⟩
  by_cases hie:i=before.length
  ·subst hie
   have hoo:oi=o:=by
    have e:ops.toList[before.length]? =some oi:=by simpa using ho
    rw[← hb] at e
    simp at e;exact e.symm
   subst hoo
   have hMi:M before.length=lr acc oi:=by
    rw[hM,hmk,i3 _ (by simp[ha])]
    simp only[List.getD_eq_getElem?_getD]
    rw[← ha];simp
   have Us: ∀ e∈oi.after,Region.binds .any e=true→e.on<before.length:=by
    intro e he Ou
    have:=Array.all_eq_true'.1 h1 e he
    simpa [Ou] using this
   refine ⟨Us,fun j hj=>?_⟩
   rw[hMi] at hj
   obtain ⟨e,he,Ou,hor⟩:=Bm hj
   refine ⟨e,he,Ou,hor.imp id fun ht=>?_⟩
   rw[hM,ajs _ (by rw[ha];exact Us e he Ou)]
   exact ht
  ·exact i1 M (fun i=>hM i) i oi (by simp;omega) ho
section
variable {P:Program} {G:yo} {ops:Array Oper} {ids:Nat→Nat} {M:Nat→Nat} {fp:Nat→FP}
theorem yy (hM: ∀ i o,ops[i]? =some o→af3 ops M fp i o) {i:Nat} {oi:Oper} (yw:ops[i]? =some oi):
  ∀ (l1 l2:List Nat) (st sf:St),(∀ j∈l1,j<i∧Nat.testBit (M i) j=false)→rN P G ops ids fp (l1++i::l2) st sf→ ∃ s,rM P G ops ids fp i st s∧rN P G ops ids fp (l1++l2) s sf
 | [],l2,st,sf,_,h=>by
  cases h with
  |cons h t=>exact ⟨_,h,t⟩
 |j::l1,l2,st,sf,hl,h=>by
  cases h with
  |cons h t=>
   rename_i s
   obtain ⟨s1,h1,h2⟩:=yy hM yw l1 l2 s sf (fun k hk=>hl k (by simp[hk])) t
   obtain ⟨hji,QH⟩:=hl j (by simp)
   have anv:=h
   obtain ⟨oj,_,Db,_⟩:=anv
   have hp:=((hM i oi yw).ajr j oj hji Db).resolve_left (by rw[QH];simp)
   obtain ⟨s1',k1,k2⟩:=QG yw Db hp.1 hp.2 h h1
   exact ⟨s1',k1,.cons k2 h2⟩
theorem Ut (hG:GOk P G) {i:Nat} {st s:St} (h:rM P G ops ids fp i st s) {W:World} {ah:Hp} {β₀ β:Env} {a:Act} {w:World} (hr:Rel W ah β₀ β st a w)
  {K:Act→World→Prop} {Q:Exit→Act→World→Prop} (hK: ∀ β' a' w',Rel W ah β₀ β' s a' w'→K a' w'):wpOp P ops Q i K a w:=by
 obtain ⟨o,b,ho,hw,h⟩:=h
 unfold wpOp
 simp only[ho,wB hr hw]
 rcases h with ⟨hb,q,v,d,g,_,e,hq,_,hf,rfl⟩|⟨hb,_,rfl⟩
 ·rw[if_pos hb]
  exact .inl (GL hG (K:=fun v' d'=>v'=v∧d'=d) (by rw[e];exact hf) (by rw[e];exact ⟨hq,rfl,rfl⟩) hr fun v' d' β' a' w' hk o6=>by
   obtain ⟨rfl,rfl⟩:=hk
   exact hK β' a' w' o6)
 ·rw[if_neg (by rw[hb];simp)]
  exact hK β _ w (hr.put (dst:=o.dst) ⟨[],rfl,.nil⟩ hr.heap (bD.refl _ _))
def bZ (ops:Array Oper) (ct:Array Bool):List Nat:=(List.range ops.size).filter fun i=> !ct.getD i true
theorem Bn (hG:GOk P G) (hM: ∀ i o,ops[i]? =some o→af3 ops M fp i o)
  {W:World} {ah:Hp} {β₀:Env} {Q:Exit→Act→World→Prop} {sf:St} (hQ: ∀ β a w,Rel W ah β₀ β sf a w→Q .normal a w):
  ∀ (fuel:Nat) (ct:Array Bool) (st:St) (β:Env) (a:Act) (w:World),ct.size=ops.size→(bZ ops ct).length=fuel→
   (∀ j oj,ops[j]? =some oj→ct.getD j false=true→ ∀ e∈oj.after,Region.binds .any e=true→ct.getD e.on false=true)→
   rN P G ops ids fp (bZ ops ct) st sf→Rel W ah β₀ β st a w→wpAny P .any ops Q fuel ct a w:=by
 intro fuel
 induction fuel with
 |zero=>
  intro ct st β a w Oh hlen Dd hex hr
  have h0:bZ ops ct= []:=List.eq_nil_of_length_eq_zero hlen
  rw[h0] at hex
  cases hex
  refine ⟨?_,hQ β a w hr⟩
  refine List.eq_nil_iff_forall_not_mem.2 fun i hi=>?_
  have:i∈bZ ops ct:=by
   simp only[Region.ready,List.mem_filter,Bool.and_eq_true] at hi
   simp only[bZ,List.mem_filter]
   exact ⟨hi.1,hi.2.1⟩
  rw[h0] at this;cases this
 |succ fuel ih=>
  intro ct st β a w Oh hlen Dd hex hr
  constructor
  ·intro jG
   exfalso
   cases hu:bZ ops ct with
   |nil=>rw[hu] at hlen;simp at hlen
   |cons i l=>
    have GQ:i∈bZ ops ct:=by rw[hu];simp
    have hi:i<ops.size∧(!ct.getD i true)=true:=by
     simpa [bZ] using GQ
    have Kq: ∀ j,j<i→ct.getD j true=true:=by
     intro j hj
     refine Classical.byContradiction fun rD=>?_
     have QI:j∈bZ ops ct:=by
      simp only[bZ,List.mem_filter,List.mem_range]
      exact ⟨by omega,by simpa using rD⟩
     have hpw:(bZ ops ct).Pairwise (· < ·):=(List.pairwise_lt_range (n:=ops.size)).filter _
     rw[hu] at hpw QI
     rcases List.mem_cons.1 QI with rfl|QI
     ·omega
     ·have:=List.rel_of_pairwise_cons hpw QI;omega
    have o6:i∈Region.ready .any ops ct:=by
     rw[mem_ready]
     obtain ⟨oi,yw⟩: ∃ oi,ops[i]? =some oi:=⟨ops[i]'hi.1,by simp[hi.1]⟩
     refine ⟨by simpa using hi.2,oi,yw,fun e he hb=>?_⟩
     have fD:=(hM i oi yw).early e he hb
     have h1:=Kq e.on fD
     have:e.on<ct.size:=by omega
     simp[this] at h1 ⊢
     exact h1
    rw[jG] at o6;cases o6
  ·intro i hi
   obtain ⟨hun,oi,yw,rr⟩:=mem_ready.1 hi
   have anw:i<ops.size:=(Array.getElem?_eq_some_iff.1 yw).1
   have aju:i∈bZ ops ct:=by
    simp only[bZ,List.mem_filter,List.mem_range]
    exact ⟨anw,by simpa using hun⟩
   obtain ⟨l1,l2,hl⟩:=List.append_of_mem aju
   have hpw:(bZ ops ct).Pairwise (· < ·):=(List.pairwise_lt_range (n:=ops.size)).filter _
   rw[hl] at hpw hex
   obtain ⟨p1,p2,p3⟩:=List.pairwise_append.1 hpw
   have ajv: ∀ j,ct.getD j false=false→ ∀ i oi,ops[i]? =some oi→(∀ e∈oi.after,Region.binds .any e=true→ct.getD e.on false=true)→Nat.testBit (M i) j=false:=by
    intro j hj i
    induction i using Nat.strongRecOn with
    |_ i ih2=>
     intro oi yw rr
     refine Bool.eq_false_iff.2 fun ht=>?_
     obtain ⟨e,he,hb,hor⟩:=(hM i oi yw).waits j ht
     have hle:=rr e he hb
     rcases hor with rfl|ht'
     ·rw[hj] at hle;cases hle
     ·have fD:=(hM i oi yw).early e he hb
      obtain ⟨oe,hoe⟩: ∃ oe,ops[e.on]? =some oe:=⟨ops[e.on]'(by have:=(Array.getElem?_eq_some_iff.1 yw).1;omega),by
       have:=(Array.getElem?_eq_some_iff.1 yw).1
       simp[show e.on<ops.size by omega]⟩
      have:=ih2 e.on fD oe hoe (Dd e.on oe hoe hle)
      rw[this] at ht';cases ht'
   have hl1: ∀ j∈l1,j<i∧Nat.testBit (M i) j=false:=by
    intro j hj
    refine ⟨p3 j hj i (by simp),ajv j ?_ i oi yw rr⟩
    have QI:j∈bZ ops ct:=by rw[hl];simp[hj]
    simp only[bZ,List.mem_filter,List.mem_range] at QI
    have:j<ct.size:=by omega
    simp[this] at QI ⊢
    exact QI.2
   obtain ⟨s,h1,h2⟩:=yy hM yw l1 l2 st sf hl1 hex
   refine Ut hG h1 hr fun β' a' w' o6=>?_
   have Bb:bZ ops (ct.setIfInBounds i true)=l1++l2:=by
    have e1:bZ ops (ct.setIfInBounds i true)=(bZ ops ct).filter (fun k=>k !=i):=by
     unfold bZ
     rw[List.filter_filter]
     apply List.filter_congr
     intro k hk
     have na:k<ops.size:=List.mem_range.1 hk
     by_cases TO:k=i
     ·subst TO
      simp[Array.getD_eq_getD_getElem?,Oh,na]
     ·rw[getD_set_ne true (Ne.symm TO)]
      simp[TO]
    rw[e1,hl,List.filter_append]
    have f1:l1.filter (fun k=>k !=i)=l1:=List.filter_eq_self.2 fun k hk=>by have:=(hl1 k hk).1;simp;omega
    have f2:(i::l2).filter (fun k=>k !=i)=l2:=by
     rw[List.filter_cons]
     simp only[bne_self_eq_false,Bool.false_eq_true,if_false]
     exact List.filter_eq_self.2 fun k hk=>by
      have:=List.rel_of_pairwise_cons p2 hk;simp;omega
    rw[f1,f2]
   refine ih (ct.setIfInBounds i true) s β' a' w' (by simpa using Oh) ?_ ?_ (by rw[Bb];exact h2) o6
   ·rw[Bb]
    have:(bZ ops ct).length=(l1++i::l2).length:=by rw[hl]
    simp at this ⊢
    omega
   ·intro j oj Db hlj e he hb
    by_cases hji:j=i
    ·subst hji
     rw[yw] at Db;simp at Db;subst Db
     exact getD_set_true (rr e he hb)
    ·rw[getD_set_ne false (Ne.symm hji)] at hlj
     exact getD_set_true (Dd j oj Db hlj e he hb)
end
def xh (ops:Array Oper) (fs:List FP):Option (Option Prop):=match nT ops (rO ops.toList []) fs ops.toList 0 with
 |some []=>some none
 |some l=>some (some (af2 l))
 |none=>none
theorem De {ops:Array Oper} {fs:List FP} {q:Option Prop} (h:xh ops fs=some q) (hq:ef q): ∃ l,nT ops (rO ops.toList []) fs ops.toList 0=some l∧ ∀ p∈l,p:=by
 unfold xh at h
 split at h
 ·rename_i h1;exact ⟨[],h1,fun p hp=>by cases hp⟩
 ·rename_i l _ h1
  cases h
  exact ⟨l,h1,fun p hp=>GO hq hp⟩
 ·cases h
def Df (P:Program) (G:yo) (ops:Array Oper) (BM:List FP→Option (Option Prop)) (W:World) (m:Hp) (β₀:Env) (R:Exit→St→Prop) (acc:List FP) (k n:Nat) (st:St):Prop:=
 ∃ (ids:Nat→Nat) (fs:List FP) (sf:St),fs.length=n∧rN P G ops ids (fun i=>fs.getD (i-k) none) (List.range' k n) st sf∧(∃ q,BM (acc++fs)=some q∧ef q)∧(∀ β a w,Rel W m β₀ β sf a w→nu W m β₀ R .normal a w)
theorem wE {P:Program} {G:yo} {A:Alt} {m:Hp} {BM:List FP→Option (Option Prop)} {ops:Array Oper} {W:World} {β₀:Env}:
  ∀ (l:List Oper) (k:Nat) (B:yp) (acc:List FP) (st:St) (R:Exit→St→Prop),(∀ j,l[j]? =ops[k+j]?)→jH B st→(g7 P G A m true BM ops l B acc st).sat R→
   Df P G ops BM W m β₀ R acc k l.length st
 | [],k,B,acc,st,R,_,_,h=>by
  simp only[g7] at h
  split at h
  ·rename_i q hc
   exact ⟨fun _=>0,[],st,rfl,.nil,⟨q,by simpa using hc,(jx h).1⟩,fun β a w hr=>⟨st,β,(jx h).2,hr⟩⟩
  ·exact h.elim
 |o::rest,k,B,acc,st,R,hl,hB,h=>by
  have h0:ops[k]? =some o:=by simpa using (hl 0).symm
  have hl': ∀ j,rest[j]? =ops[k+1+j]? :=fun j=>by
   have:=hl (j+1)
   simpa [Nat.add_assoc,Nat.add_comm 1 j] using this
  have build: ∀ (s:St) (f:FP),(∀ ids fp,ids k=st.hp.length→fp k=f→rM P G ops ids fp k st s)→
    ∀ (B:yp) (R':Exit→St→Prop),jH B s→(g7 P G A m true BM ops rest B (acc++ [f]) s).sat R'→(∀ e a w,nu W m β₀ R' e a w→nu W m β₀ R e a w)→
    Df P G ops BM W m β₀ R acc k (o::rest).length st:=by
   intro s f GR B R' hB hs hR
   obtain ⟨ids,fs,sf,e0,e1,e2,e3⟩:=wE rest (k+1) B (acc++ [f]) s R' hl' hB hs
   refine ⟨fun i=>if i=k then st.hp.length else ids i,f::fs,sf,by simp[e0],?_,by simpa using e2,fun β a w hr=>hR _ _ _ (e3 β a w hr)⟩
   simp only[List.length_cons,List.range'_succ]
   refine .cons (GR _ _ (if_pos rfl) (by simp)) ?_
   have key: ∀ (l:List Nat) (x y:St),(∀ i∈l,k+1≤i)→rN P G ops ids (fun i=>fs.getD (i-(k+1)) none) l x y→rN P G ops (fun i=>if i=k then st.hp.length else ids i) (fun i=>(f::fs).getD (i-k) none) l x y:=by
    intro l x y fR hx
    induction hx with
    |nil=>exact .nil
    |cons h t ih=>
     rename_i i l s1 s2 s3
     refine .cons ?_ (ih fun i hi=>fR i (by simp[hi]))
     have hik:=fR i (by simp)
     unfold rM at h ⊢
     have e1:(f::fs).getD (i-k) none=fs.getD (i-(k+1)) none:=by
      rw[show i-k=(i-(k+1))+1 by omega];rfl
     have e2:(fun i=>if i=k then st.hp.length else ids i) i=ids i:=if_neg (by omega)
     simp only[e2,e1]
     exact h
   exact key _ _ _ (fun i hi=>by have:=List.mem_range'_1.1 hi;omega) e1
  have dK: ∀ (b:SB),dk st ops o=some b→b.val=true→ ∀ (B:yp) (R':Exit→St→Prop),jH B st→(((lp P G B st.hp.length (ev st) o.op).val st.hp).qf true fun v d=>
    g7 P G A m true BM ops rest (forget B o.dst) (acc++ [QD (lp P G B st.hp.length (ev st) o.op) st.hp v d]) (put st o.dst v (aE d st.hp))).sat R'→(∀ e a w,nu W m β₀ R' e a w→nu W m β₀ R e a w)→Df P G ops BM W m β₀ R acc k (o::rest).length st:=by
   intro b hb hbv B R' hB hs hR
   obtain ⟨q,v,d,hst,n1,n2⟩:=Kl hs
   have hH: ∃ q',(gC P G (mg B o.op) st.hp.length (ev st) o.op).val st.hp= .leaf q' v d∧ef q'∧(gC P G (mg B o.op) st.hp.length (ev st) o.op).log st.hp=(lp P G B st.hp.length (ev st) o.op).log st.hp∧
     ∀ f:FX,QD (lp P G B st.hp.length (ev st) o.op) st.hp v d=some f→ajm f (gC P G (mg B o.op) st.hp.length (ev st) o.op):=by
    rcases Ot (P:=P) (G:=G) (id:=st.hp.length) (op:=o.op) hB with e|⟨v',p,e1,e2,hp⟩
    ·rw[← e]
     refine ⟨q,hst,n1,rfl,fun f hf h=>?_⟩
     simp only[QD,Option.some.injEq] at hf
     subst hf
     exact ⟨rfl,fun v' hv=>⟨none,hv,trivial⟩⟩
    ·rw[e1] at hst
     simp only[Ask.val] at hst
     cases hst
     refine ⟨some p,by rw[e2];rfl,hp,by rw[e1,e2];rfl,fun f hf h=>?_⟩
     simp only[QD,Option.some.injEq] at hf
     subst hf
     rw[e1,e2]
     refine ⟨rfl,fun v' hv=>⟨some p,?_,hp⟩⟩
     simp only[Ask.val,Out.leaf.injEq] at hv
     rw[← hv.2.1];rfl
   obtain ⟨q',k1,k2,k3,k4⟩:=hH
   exact build _ _ (fun ids fp aa6 hfp=>⟨o,b,h0,hb,.inl ⟨hbv,q',v,d,_,_,by rw[aa6];exact k1,k2,⟨hfp,by rw[aa6];exact k3.symm,rfl,rfl,by rw[aa6];exact k4 _ rfl⟩,by rw[aa6];exact rK _ _,rfl⟩⟩) _ R' hB.put n2 hR
  have GM: ∀ (b:SB),dk st ops o=some b→b.val=false→ ∀ (B:yp) (R':Exit→St→Prop),jH B st→(g7 P G A m true BM ops rest (forget B o.dst) (acc++ [none]) (put st o.dst (.cD []) st.hp)).sat R'→
    (∀ e a w,nu W m β₀ R' e a w→nu W m β₀ R e a w)→Df P G ops BM W m β₀ R acc k (o::rest).length st:=by
   intro b hb hbv B R' hB hs hR
   exact build (put st o.dst (.cD []) st.hp) none (fun ids fp _ hfp=>⟨o,b,h0,hb,.inr ⟨hbv,hfp,rfl⟩⟩) _ R' hB.put hs hR
  simp only[g7] at h
  cases Kr:mf B st ops o with
  |none=>simp only[Kr] at h;exact h.elim
  |some b=>
   obtain ⟨b',hb,hbv⟩:=yr hB Kr
   simp only[Kr] at h
   cases b with
   |lit b=>
    cases b with
    |true=>exact dK _ hb hbv B R hB h fun _ _ _ h=>h
    |false=>exact GM _ hb hbv B R hB h fun _ _ _ h=>h
   |sym b=>
    cases b with
    |true=>
     obtain ⟨R',h1,h2⟩:=A.yes (W:=W) (β₀:=β₀) h
     exact dK _ hb hbv _ R' (rJ hB Kr) h1 h2
    |false=>
     obtain ⟨R',h1,h2⟩:=A.no (W:=W) (β₀:=β₀) h
     exact GM _ hb hbv _ R' (rJ hB Kr) h1 h2
section
variable {P:Program} {G:yo}
theorem yz (hG:GOk P G) {A:Alt} (j9:P.follows .mixedOrders=true) {m:Hp} {ops:Array Oper} {id:Nat} {st:St} (hd:rP ops.toList 0=true) {R:Exit→St→Prop}
  (h:(g7 P G A m true (xh ops) ops ops.toList [] [] st).sat R) {W:World} {β₀:Env} {Q:Exit→Act→World→Prop} (hq: ∀ e a w,nu W m β₀ R e a w→Q e a w) {β:Env} {a:Act} {w:World}
  (hr:Rel W m β₀ β st a w):(Code.region id ops true).wp P Q a w:=by
 obtain ⟨ids,fs,sf,e0,e1,⟨q,e2,e2'⟩,e3⟩:=wE (W:=W) (β₀:=β₀) ops.toList 0 [] [] st R (fun j=>by simp) (fun _ _ h=>by simp[known] at h) h
 obtain ⟨hE,_⟩:=yx (ops:=ops) ops.toList [] [] (by simp) rfl hd
 obtain ⟨ps,p1,p2⟩:=De (by simpa using e2) e2'
 have hM: ∀ i o,ops[i]? =some o→af3 ops (fun i=>(rO ops.toList []).getD i 0) (fun i=>fs.getD (i-0) none) i o:=by
  intro i o ho
  obtain ⟨k1,k2⟩:=hE _ (fun _=>rfl) i o (Nat.zero_le _) ho
  exact ⟨k1,fun j oj hj Db=>qg ops.toList 0 (fun j=>by simp) p1 p2 i o (Nat.zero_le _) ho j oj hj Db,k2⟩
 refine wp_region_any j9 ?_
 have Bb:bZ ops (Array.replicate ops.size false)=List.range' 0 ops.toList.length:=by
  unfold bZ
  rw[List.filter_eq_self.2 fun i hi=>?_]
  ·rw[List.range_eq_range'];simp
  ·have:=List.mem_range.1 hi
   simp[this]
 refine Bn hG hM (ids:=ids) (sf:=sf) (fun β a w hr=>hq _ _ _ (e3 β a w hr)) ops.size _ st β a _ (by simp) (by rw[Bb];simp) ?_ (by rw[Bb];exact e1) ?_
 ·intro j oj _ hl
  exfalso
  by_cases hj:j<ops.size
  ·simp[hj] at hl
  ·simp[hj] at hl
 ·exact ⟨hr.defers,hr.fr,hr.heap.drew _ _⟩
end
end Go.Ev
end
section
set_option linter.unusedVariables false
set_option linter.unusedSimpArgs false
namespace Go.Ev
open Go
def Uu:Nat→(St→aU)→St→aU
 |0,_,_=> .fail
 |k+1,f,st=>(f st).bind (Uu k f)
def af5:Nat:=100000
def Ex (P:Program) (m:Hp) (c:Code) (st:St) (r:aU):Prop:=
 ∀ (W:World) (β₀:Env) (R:Exit→St→Prop) (Q:Exit→Act→World→Prop),r.sat R→(∀ e a w,nu W m β₀ R e a w→Q e a w)→
  ∀ β a w,Rel W m β₀ β st a w→c.wp P Q a w
abbrev fk:=List (Nat×(St→aU))
def BO:fk→Nat→Option (St→aU)
 | [],_=>none
 |(i,f)::l,id=>if i=id then some f else BO l id
def aQ (P:Program) (m:Hp) (LT:fk):Code→Prop
 | .seq a b| .cond _ a b=>aQ P m LT a∧aQ P m LT b
 | .block id c=>aQ P m LT c∧ ∀ f,BO LT id=some f→ ∀ st,Ex P m c st (f st)
 | .loop c| .scope c=>aQ P m LT c
 |_=>True
theorem aQ.nil {P:Program} {m:Hp}: ∀ c:Code,aQ P m [] c:=by
 intro c
 induction c with
 |seq a b Uv Uw=>exact ⟨Uv,Uw⟩
 |cond _ a b Uv Uw=>exact ⟨Uv,Uw⟩
 |block id c ih=>exact ⟨ih,fun f h=>by cases h⟩
 |loop c ih=>exact ih
 |scope c ih=>exact ih
 |_=>trivial
def Bo:Code→List (Nat×Code)
 | .seq a b| .cond _ a b=>Bo a++Bo b
 | .block id c=>(id,c)::Bo c
 | .loop c| .scope c=>Bo c
 |_=> []
theorem aQ.of {P:Program} {m:Hp} {LT:fk}: ∀ {c:Code},(∀ id f c',BO LT id=some f→(id,c')∈Bo c→ ∀ st,Ex P m c' st (f st))→aQ P m LT c:=by
 intro c
 induction c with
 |seq a b Uv Uw=>exact fun h=>⟨Uv fun id f c' hf hm=>h id f c' hf (List.mem_append_left _ hm),Uw fun id f c' hf hm=>h id f c' hf (List.mem_append_right _ hm)⟩
 |cond _ a b Uv Uw=>exact fun h=>⟨Uv fun id f c' hf hm=>h id f c' hf (List.mem_append_left _ hm),Uw fun id f c' hf hm=>h id f c' hf (List.mem_append_right _ hm)⟩
 |block id c ih=>exact fun h=>⟨ih fun id f c' hf hm=>h id f c' hf (List.mem_cons_of_mem _ hm),fun f hf=>h id f c hf (by simp[Bo])⟩
 |loop c ih=>exact fun h=>ih h
 |scope c ih=>exact fun h=>ih h
 |_=>exact fun _=>trivial
def exec (P:Program) (G:yo) (A:Alt) (m:Hp) (LT:fk):Code→St→aU
 | .skip,st=> .leaf .normal st
 | .seq a b,st=>(exec P G A m LT a st).bind (exec P G A m LT b)
 | .cond c x y,st=>match ev st c with
  | .one (.sc (.bool (.lit true)))=>exec P G A m LT x st
  | .one (.sc (.bool (.lit false)))=>exec P G A m LT y st
  | .one (.sc (.bool (.sym b)))=>A.f b m (exec P G A m LT x st) (exec P G A m LT y st)
  |_=> .fail
 | .block id c,st=>match BO LT id with
  |some f=>(f st).block id
  |none=>(exec P G A m LT c st).block id
 | .exit id,st=> .leaf (.exit id) st
 | .ret,st=> .leaf .ret st
 | .label _,st=> .leaf .normal st
 | .scope c,st=>(exec P G A m LT c st).scope
 | .loop c,st=>Uu af5 (exec P G A m LT c) st
 | .region _ ops false,st=>g7 P G A m false (fun _=>some none) ops ops.toList [] [] st
 | .region _ ops true,st=>if rP ops.toList 0=true then g7 P G A m true (xh ops) ops ops.toList [] [] st else .fail
 |_,_=> .fail
def Ux (R:Exit→St→Prop) (f:St→aU):Exit→St→Prop
 | .normal,st=>(f st).sat R
 |e,st=>R e st
theorem jI {f:St→aU} {R:Exit→St→Prop}: ∀ {r:aU},(r.bind f).sat R→r.sat (Ux R f)
 | .leaf .normal _,h=>h
 | .leaf (.exit _) _,h=>h
 | .leaf (.goto _) _,h=>h
 | .leaf .ret _,h=>h
 | .leaf (.panic _) _,h=>h
 | .leaf .outgrown _,h=>h
 | .ite _ _ _,h=>⟨fun e=>jI (h.1 e),fun e=>jI (h.2 e)⟩
 | .need _ _,h=>⟨h.1,jI h.2⟩
 | .fail,h=>h
def Dg (R:Exit→St→Prop) (id:Nat):Exit→St→Prop
 | .exit i,st=>if i=id then R .normal st else R (.exit i) st
 |e,st=>R e st
theorem jy {id:Nat} {R:Exit→St→Prop}: ∀ {r:aU},(r.block id).sat R→r.sat (Dg R id)
 | .leaf (.exit i) st,h=>by
  simp only[aU.block] at h
  show if i=id then R .normal st else R (.exit i) st
  split at h
  ·rename_i hi;rw[if_pos hi];exact h
  ·rename_i hi;rw[if_neg hi];exact h
 | .leaf .normal _,h=>h
 | .leaf (.goto _) _,h=>h
 | .leaf .ret _,h=>h
 | .leaf (.panic _) _,h=>h
 | .leaf .outgrown _,h=>h
 | .ite _ _ _,h=>⟨fun e=>jy (h.1 e),fun e=>jy (h.2 e)⟩
 | .need _ _,h=>⟨h.1,jy h.2⟩
 | .fail,h=>h
def anz (R:Exit→St→Prop):Exit→St→Prop
 | .goto _,_=>False
 |e,st=>R e st
theorem o8 {R:Exit→St→Prop}: ∀ {r:aU},r.scope.sat R→r.sat (anz R)
 | .leaf .normal _,h=>h
 | .leaf (.exit _) _,h=>h
 | .leaf (.goto _) _,h=>h
 | .leaf .ret _,h=>h
 | .leaf (.panic _) _,h=>h
 | .leaf .outgrown _,h=>h
 | .ite _ _ _,h=>⟨fun e=>o8 (h.1 e),fun e=>o8 (h.2 e)⟩
 | .need _ _,h=>⟨h.1,o8 h.2⟩
 | .fail,h=>h
theorem aa7 {P:Program} {G:yo} {A:Alt} (hG:GOk P G) (j9:P.follows .mixedOrders=true) {W:World} {m:Hp} {LT:fk} {β₀:Env}:
  ∀ (c:Code),aQ P m LT c→ ∀ (st:St) (R:Exit→St→Prop) (Q:Exit→Act→World→Prop),(exec P G A m LT c st).sat R→(∀ e a w,nu W m β₀ R e a w→Q e a w)→
   ∀ β a w,Rel W m β₀ β st a w→c.wp P Q a w:=by
 intro c
 induction c with
 |skip=>intro hL st R Q h hq β a w hr;exact wp_skip (hq _ _ _ ⟨st,β,h,hr⟩)
 |exit id=>intro hL st R Q h hq β a w hr;exact wp_exit (hq _ _ _ ⟨st,β,h,hr⟩)
 |ret=>intro hL st R Q h hq β a w hr;exact wp_ret (hq _ _ _ ⟨st,β,h,hr⟩)
 |seq x y ihx ihy=>
  intro hL st R Q h hq β a w hr
  refine wp_seq (ihx hL.1 st _ _ (jI h) ?_ β a w hr)
  rintro e a w ⟨s,β',h1,h2⟩
  cases e with
  |normal=>exact ihy hL.2 s R Q h1 hq β' a w h2
  |exit _=>exact hq _ _ _ ⟨s,β',h1,h2⟩
  |goto _=>exact hq _ _ _ ⟨s,β',h1,h2⟩
  |ret=>exact hq _ _ _ ⟨s,β',h1,h2⟩
  |panic _=>exact hq _ _ _ ⟨s,β',h1,h2⟩
  |outgrown=>exact hq _ _ _ ⟨s,β',h1,h2⟩
 |cond c x y ihx ihy=>
  intro hL st R Q h hq β a w hr
  have hc:=aM hr c
  simp only[exec] at h
  split at h
  ·rename_i he
   rw[he] at hc
   exact wp_cond_true hc (ihx hL.1 st R Q h hq β a w hr)
  ·rename_i he
   rw[he] at hc
   exact wp_cond_false hc (ihy hL.2 st R Q h hq β a w hr)
  ·rename_i b he
   rw[he] at hc
   cases b with
   |true=>
    obtain ⟨R',h1,h2⟩:=A.yes (W:=W) (β₀:=β₀) h
    exact wp_cond_true hc (ihx hL.1 st R' Q h1 (fun e a w hp=>hq e a w (h2 e a w hp)) β a w hr)
   |false=>
    obtain ⟨R',h1,h2⟩:=A.no (W:=W) (β₀:=β₀) h
    exact wp_cond_false hc (ihy hL.2 st R' Q h1 (fun e a w hp=>hq e a w (h2 e a w hp)) β a w hr)
  ·exact h.elim
 |block id c ih=>
  intro hL st R Q h hq β a w hr
  have hin: ∀ Q',(∀ e a w,nu W m β₀ (Dg R id) e a w→Q' e a w)→c.wp P Q' a w:=by
   intro Q' T9
   simp only[exec] at h
   split at h
   ·rename_i f hf
    exact hL.2 f hf st W β₀ _ _ (jy h) T9 β a w hr
   ·exact ih hL.1 st _ _ (jy h) T9 β a w hr
  refine wp_block (hin _ ?_)
  rintro e a w ⟨s,β',h1,h2⟩
  cases e with
  |exit i=>
   simp only[Dg] at h1
   simp only[Exit.inBlock]
   split at h1
   ·rename_i hi;rw[if_pos hi];exact hq _ _ _ ⟨s,β',h1,h2⟩
   ·rename_i hi;rw[if_neg hi];exact hq _ _ _ ⟨s,β',h1,h2⟩
  |normal=>exact hq _ _ _ ⟨s,β',h1,h2⟩
  |goto _=>exact hq _ _ _ ⟨s,β',h1,h2⟩
  |ret=>exact hq _ _ _ ⟨s,β',h1,h2⟩
  |panic _=>exact hq _ _ _ ⟨s,β',h1,h2⟩
  |outgrown=>exact hq _ _ _ ⟨s,β',h1,h2⟩
 |loop c ih=>
  intro hL st R Q h hq β a w hr
  have key: ∀ (n:Nat) (st:St),(Uu n (exec P G A m LT c) st).sat R→ ∀ β a w,Rel W m β₀ β st a w→Code.rounds P c Q n a w:=by
   intro n
   induction n with
   |zero=>intro st h;exact h.elim
   |succ n ihn=>
    intro st h β a w hr
    rw[rounds_succ]
    refine ih hL st _ _ (jI h) ?_ β a w hr
    rintro e a w ⟨s,β',h1,h2⟩
    cases e with
    |normal=>exact ihn s h1 β' a w h2
    |exit _=>exact hq _ _ _ ⟨s,β',h1,h2⟩
    |goto _=>exact hq _ _ _ ⟨s,β',h1,h2⟩
    |ret=>exact hq _ _ _ ⟨s,β',h1,h2⟩
    |panic _=>exact hq _ _ _ ⟨s,β',h1,h2⟩
    |outgrown=>exact hq _ _ _ ⟨s,β',h1,h2⟩
  exact wp_loop_rounds af5 (key af5 st h β a w hr)
 |label l=>intro hL st R Q h hq β a w hr;exact wp_label (hq _ _ _ ⟨st,β,h,hr⟩)
 |scope c ih=>
  intro hL st R Q h hq β a w hr
  refine wp_scope_straight (ih hL st _ _ (o8 h) ?_ β a w hr)
  rintro e a w ⟨s,β',h1,h2⟩
  cases e with
  |goto _=>exact h1.elim
  |normal=>exact hq _ _ _ ⟨s,β',h1,h2⟩
  |exit _=>exact hq _ _ _ ⟨s,β',h1,h2⟩
  |ret=>exact hq _ _ _ ⟨s,β',h1,h2⟩
  |panic _=>exact hq _ _ _ ⟨s,β',h1,h2⟩
  |outgrown=>exact hq _ _ _ ⟨s,β',h1,h2⟩
 |region id ops d=>
  intro hL st R Q h hq β a w hr
  cases d with
  |false=>exact wp_region_list (yu hG ops.toList [] [] st R (fun _ _ h=>by simp[known] at h) h hq β a w hr)
  |true=>
   simp only[exec] at h
   split at h
   ·rename_i hd;exact yz hG j9 hd h hq hr
   ·exact h.elim
 |_=>intro hL st R Q h;exact h.elim
theorem Ex.Ov {P:Program} {G:yo} {A:Alt} (hG:GOk P G) (j9:P.follows .mixedOrders=true) {m:Hp} {LT:fk} {c:Code} (hL:aQ P m LT c) {st:St} {r:aU} (h:exec P G A m LT c st=r):Ex P m c st r:=
 fun _ _ R Q hs hq β a w hr=>aa7 hG j9 c hL st R Q (h▸hs) hq β a w hr
theorem Ex.Qr {P:Program} {m:Hp} {c:Code} {st:St} {r r':aU} (h:Ex P m c st r) (hw: ∀ R,r'.sat R→r.sat R):Ex P m c st r':=
 fun W β₀ R Q hs hq β a w hr=>h W β₀ R Q (hw R hs) hq β a w hr
theorem Ex.bind {P:Program} {m:Hp} {x y:Code} {st:St} {r:aU} {f:St→aU} (h1:Ex P m x st r) (h2: ∀ s,Ex P m y s (f s)):Ex P m (.seq x y) st (r.bind f):=by
 intro W β₀ R Q hs hq β a w hr
 refine wp_seq (h1 W β₀ _ _ (jI hs) ?_ β a w hr)
 rintro e a w ⟨t,β',h3,h4⟩
 cases e with
 |normal=>exact h2 t W β₀ R Q h3 hq β' a w h4
 |exit _=>exact hq _ _ _ ⟨t,β',h3,h4⟩
 |goto _=>exact hq _ _ _ ⟨t,β',h3,h4⟩
 |ret=>exact hq _ _ _ ⟨t,β',h3,h4⟩
 |panic _=>exact hq _ _ _ ⟨t,β',h3,h4⟩
 |outgrown=>exact hq _ _ _ ⟨t,β',h3,h4⟩
def aU.nor (R:St→Prop):aU→Prop:=aU.sat fun e s=>e= .normal→R s
theorem Ex.af6 {P:Program} {m:Hp} {x y:Code} {st:St} {r:aU} {f:St→aU} (S:St→Prop) (h1:Ex P m x st r) (h2: ∀ s,S s→Ex P m y s (f s)) (hS:r.nor S):Ex P m (.seq x y) st (r.bind f):=by
 intro W β₀ R Q hs hq β a w hr
 have ajw: ∀ {r:aU},r.sat (Ux R f)→r.nor S→r.sat fun e s=>Ux R f e s∧(e= .normal→S s):=by
  intro r
  induction r with
  |leaf e s=>exact fun h1 h2=>⟨h1,h2⟩
  |ite b t e iht ihe=>exact fun h1 h2=>⟨fun hb=>iht (h1.1 hb) (h2.1 hb),fun hb=>ihe (h1.2 hb) (h2.2 hb)⟩
  |need p r ih=>exact fun h1 h2=>⟨h1.1,ih h1.2 h2.2⟩
  |fail=>exact fun h1 _=>h1
 refine wp_seq (h1 W β₀ _ _ (ajw (jI hs) hS) ?_ β a w hr)
 rintro e a w ⟨t,β',⟨h3,h5⟩,h4⟩
 cases e with
 |normal=>exact h2 t (h5 rfl) W β₀ R Q h3 hq β' a w h4
 |exit _=>exact hq _ _ _ ⟨t,β',h3,h4⟩
 |goto _=>exact hq _ _ _ ⟨t,β',h3,h4⟩
 |ret=>exact hq _ _ _ ⟨t,β',h3,h4⟩
 |panic _=>exact hq _ _ _ ⟨t,β',h3,h4⟩
 |outgrown=>exact hq _ _ _ ⟨t,β',h3,h4⟩
theorem Ex.seq {P:Program} {m:Hp} {x y:Code} {st s:St} {r:aU} (h1:Ex P m x st (.leaf .normal s)) (h2:Ex P m y s r):Ex P m (.seq x y) st r:=by
 have:=Ex.af6 (f:=fun _=>r) (fun t=>t=s) h1 (fun t ht=>ht▸h2) (fun _=>rfl)
 exact this
theorem Ex.block {P:Program} {m:Hp} {id:Nat} {c:Code} {st:St} {r:aU} (h:Ex P m c st r):Ex P m (.block id c) st (r.block id):=by
 intro W β₀ R Q hs hq β a w hr
 refine wp_block (h W β₀ _ _ (jy hs) ?_ β a w hr)
 rintro e a w ⟨s,β',h1,h2⟩
 cases e with
 |exit i=>
  simp only[Dg] at h1
  simp only[Exit.inBlock]
  split at h1
  ·rename_i hi;rw[if_pos hi];exact hq _ _ _ ⟨s,β',h1,h2⟩
  ·rename_i hi;rw[if_neg hi];exact hq _ _ _ ⟨s,β',h1,h2⟩
 |normal=>exact hq _ _ _ ⟨s,β',h1,h2⟩
 |goto _=>exact hq _ _ _ ⟨s,β',h1,h2⟩
 |ret=>exact hq _ _ _ ⟨s,β',h1,h2⟩
 |panic _=>exact hq _ _ _ ⟨s,β',h1,h2⟩
 |outgrown=>exact hq _ _ _ ⟨s,β',h1,h2⟩
theorem Ex.loop {P:Program} {m:Hp} {c:Code} {X:Type} (μ:X→Nat) (S:X→St) (I:X→Prop) (rnd:X→aU) (h: ∀ x,I x→Ex P m c (S x) (rnd x)) {R:X→Exit→St→Prop}
  (hr: ∀ x,I x→(rnd x).sat fun e s=>(e= .normal∧ ∃ y,s=S y∧I y∧μ y<μ x∧ ∀ e s,R y e s→R x e s)∨(e≠ .normal∧R x e s)) {x:X} (hx:I x) {r:aU} (hR: ∀ R',r.sat R'→ ∀ e s,R x e s→R' e s):Ex P m (.loop c) (S x) r:=by
 intro W β₀ R0 Q hs hq β a w Uy
 have key: ∀ (n:Nat) (y:X),I y→μ y<n→(∀ e s,R y e s→R0 e s)→ ∀ β a w,Rel W m β₀ β (S y) a w→Code.rounds P c Q n a w:=by
  intro n
  induction n with
  |zero=>intro y _ h0;omega
  |succ n ih=>
   intro y hy hn hRy β a w o6
   rw[rounds_succ]
   refine h y hy W β₀ _ _ (hr y hy) ?_ β a w o6
   rintro e a w ⟨t,β',h1,h2⟩
   rcases h1 with ⟨rfl,z,rfl,hz,fD,Uz⟩|⟨fR,h1⟩
   ·exact ih z hz (by omega) (fun e s h=>hRy e s (Uz e s h)) β' a w h2
   ·cases e with
    |normal=>exact absurd rfl fR
    |exit _=>exact hq _ _ _ ⟨t,β',hRy _ _ h1,h2⟩
    |goto _=>exact hq _ _ _ ⟨t,β',hRy _ _ h1,h2⟩
    |ret=>exact hq _ _ _ ⟨t,β',hRy _ _ h1,h2⟩
    |panic _=>exact hq _ _ _ ⟨t,β',hRy _ _ h1,h2⟩
    |outgrown=>exact hq _ _ _ ⟨t,β',hRy _ _ h1,h2⟩
 exact wp_loop_rounds (μ x+1) (key _ x hx (Nat.lt_succ_self _) (fun e s h=>hR R0 hs e s h) β a w Uy)
def uU (P:Program) (st:St):ResultVar→Option VV
 | .tmp t=>match ev st (.tmp t) with
  | .one x=>some x
  |_=>none
 | .cell a t=>match ev st (.tmp a) with
  | .one (.sc (.ptr b off))=>match bd st.hp b with
   |some (.aZ cells _)=>eC P t cells off
   |_=>none
  |_=>none
def GS (P:Program) (fn:Func) (st:St):Option LV:=
 match cE (uU P st) fn.results.toList with
 |some [x]=>some (.one x)
 |some l=>some (.cD l)
 |none=>none
def Dh (a:Act):ResultVar→Sem Value
 | .tmp t=>pure (a.tmps.getD t undef)
 | .cell b t=>do loadVar t (← asAddr (a.tmps.getD b undef))
theorem Ks (fn:Func) (a:Act):results fn a.tmps=(do let vs ← fn.results.mapM (Dh a);pure (if h:vs.size=1 then vs[0] else .tuple vs)):=by
 unfold results
 congr 2
theorem Kt {P:Program} {W:World} {ah:Hp} {β₀ β:Env} {st:St} {a:Act} {w:World} (hr:Rel W ah β₀ β st a w) {r:ResultVar} {x:VV} (h:uU P st r=some x):
  ∃ v,(Dh a r).run P w= .ok v w∧x.den β (kd st.hp) v:=by
 cases r with
 |tmp t=>
  simp only[uU] at h
  split at h
  ·rename_i y hy
   simp at h;subst h
   have:=aM hr (.tmp t);rw[hy] at this
   exact ⟨_,rfl,this⟩
  ·simp at h
 |cell b t=>
  simp only[uU] at h
  split at h
  ·rename_i i off hy
   split at h
   ·rename_i cells elem hb
    have:=aM hr (.tmp b);rw[hy] at this
    obtain ⟨_,e⟩:=this
    have e':a.tmps.getD b undef= .pointer (some ⟨β.b i,off,none⟩):=e
    obtain ⟨c,fz,_,_,h3,h4⟩:=hr.heap.fF (aw hb)
    obtain ⟨v,h5,h6⟩:=jq (P:=P) rfl h4 h3 h
    rw[bH,Nat.zero_add] at h5
    exact ⟨v,by simp[Dh,e',asAddr,h5],h6⟩
   ·simp at h
  ·simp at h
theorem GU {P:Program} {fn:Func} {W:World} {ah:Hp} {β₀ β:Env} {st:St} {a:Act} {w:World} (hr:Rel W ah β₀ β st a w) {r:LV} (h:GS P fn st=some r):
  ∃ v,(results fn a.tmps).run P w= .ok v w∧r.den β (kd st.hp) v:=by
 have key: ∀ (l:List ResultVar) (xs:List VV),cE (uU P st) l=some xs→ ∃ vs:List Value,(l.mapM (Dh a)).run P w= .ok vs w∧bB (VV.den β (kd st.hp)) xs vs:=by
  intro l
  induction l with
  |nil=>intro xs h;simp[cE] at h;subst h;exact ⟨[],by simp,.nil⟩
  |cons r l ih=>
   intro xs h
   simp only[cE] at h
   split at h
   ·rename_i y m' h1 h2
    simp at h;subst h
    obtain ⟨v,e1,e2⟩:=Kt hr h1
    obtain ⟨vs,e3,e4⟩:=ih _ h2
    refine ⟨v::vs,?_,.cons e2 e4⟩
    simp only[List.mapM_cons,Sem.run_bind]
    rw[e1]
    simp only[Result.andThen_ok,Sem.run_pure,e3]
   ·simp at h
 unfold GS at h
 have dK: ∀ (vs:List Value) (xs:List VV),cE (uU P st) fn.results.toList=some xs→(∀ vs:List Value,bB (VV.den β (kd st.hp)) xs vs→ ∃ v,(if h:vs.toArray.size=1 then vs.toArray[0] else .tuple vs.toArray)=v∧r.den β (kd st.hp) v)→
   ∃ v,(results fn a.tmps).run P w= .ok v w∧r.den β (kd st.hp) v:=by
  intro _ xs hx hv
  obtain ⟨vs,e1,e2⟩:=key _ _ hx
  obtain ⟨v,e3,e4⟩:=hv vs e2
  refine ⟨v,?_,e4⟩
  rw[Ks,Sem.run_bind,Array.mapM_eq_mapM_toList]
  simp only[Sem.run_map,e1,Result.andThen_ok]
  rw[← e3];rfl
 split at h
 ·rename_i x hx
  simp at h;subst h
  refine dK [] [x] hx fun vs hvs=>?_
  cases hvs with
  |cons h1 h2=>
   cases h2
   exact ⟨_,rfl,h1⟩
 ·rename_i l fR hl
  simp at h;subst h
  refine dK [] l hl fun vs hvs=>?_
  have hlen:=hvs.length
  have:vs.length≠1:=by
   intro e
   rw[e] at hlen
   obtain ⟨x,hx⟩:=List.length_eq_one_iff.1 hlen
   exact fR x hx
  refine ⟨_,by rw[dif_neg (by simpa using this)],vs,rfl,hvs⟩
 ·simp at h
theorem aV.self {W:World} {ah:Hp} {β₀ β:Env} {hp:Hp} {w:World} (h:aV W ah β₀ β hp w):aV w hp β β hp w:=
 ⟨h.items,h.inj,bD.refl _ _,fun i x b hi ho=> .inr ⟨x,hi,ho⟩,rfl,rfl,Nat.le_refl _,fun _ _ _=>rfl,h.reads,fun pm v t l b h1 h2=> .inr ⟨pm,v,t,l,id,h1,h2⟩⟩
theorem aV.trans {W:World} {ah:Hp} {β₀ β β':Env} {hp dX:Hp} {w w':World} (h:aV W ah β₀ β hp w) (h':aV w hp β β' dX w'):aV W ah β₀ β' dX w' where
 items:=h'.items
 inj:=h'.inj
 first:=h.first.trans h'.first
 own i x b hi ho:=by
  rcases h'.own i x b hi ho with h1|⟨y,hj,h1⟩
  ·exact .inl (Nat.le_trans h.size h1)
  ·exact h.own i y b hj h1
 os:=h'.os.trans h.os
 output:=h'.output.trans h.output
 size:=Nat.le_trans h.size h'.size
 aq b hb fR:=by
  rw[h'.aq b (by have:=h.size;omega) fun ⟨i,x,hi,ho⟩=>?_]
  ·exact h.aq b hb fR
  ·rcases h.own i x b hi ho with h1|⟨y,h1⟩
   ·omega
   ·exact fR ⟨i,y,h1⟩
 reads:=h'.reads
 from_ pm v t l b h1 h2:=by
  rcases h'.from_ pm v t l b h1 h2 with h3|⟨j7,v',t',l',h0,h3,h4⟩
  ·exact .inl (Nat.le_trans h.size h3)
  ·rcases h.from_ j7 v' t' l' b h3 h4 with h5|⟨pm2,v2,t2,l2,h6,h7,h8⟩
   ·exact .inl h5
   ·exact .inr ⟨pm2,v2,t2,l2,fun e=>h6 (h0 e),h7,h8⟩
def gq (P:Program) (f:FuncId) (args:List LV) (hp:Hp) (R:LV→Hp→Prop):Prop:=
 ∀ (β:Env) (w:World) (vals:List Value),aV w hp β β hp w→bB (LV.den β (kd hp)) args vals→
  Calls P f vals.toArray w fun e w'=> ∃ val β' r dX,e= .returned val∧R r dX∧r.den β' (kd dX) val∧aV w hp β β' dX w'
def entry (fn:Func) (args:List LV) (hp:Hp):St:=⟨args++List.replicate (fn.ntmps-args.length) (.cD []),hp⟩
inductive End where
 |leaf (v:LV) (hp:Hp)
 |ite (b:Bool) (x y:End)
 |need (p:Prop) (x:End)
 |fail
def End.sat (R:LV→Hp→Prop):End→Prop
 | .leaf v hp=>R v hp
 | .ite b x y=>(b=true→x.sat R)∧(b=false→y.sat R)
 | .need p x=>p∧x.sat R
 | .fail=>False
def aU.ends (P:Program) (fn:Func):aU→End
 | .leaf .normal st| .leaf .ret st=>match GS P fn st with
  |some v=> .leaf v st.hp
  |none=> .fail
 | .leaf _ _=> .fail
 | .ite b x y=> .ite b (x.ends P fn) (y.ends P fn)
 | .need p x=> .need p (x.ends P fn)
 | .fail=> .fail
theorem rR {P:Program} {fn:Func} {R:LV→Hp→Prop}: ∀ {r:aU},(r.ends P fn).sat R→r.sat fun e st=>(e= .normal∨e= .ret)∧ ∃ v,GS P fn st=some v∧R v st.hp
 | .leaf e st,h=>by
  cases e with
  |normal=>
   simp only[aU.ends] at h
   split at h
   ·rename_i v hv;exact ⟨.inl rfl,v,hv,h⟩
   ·exact h.elim
  |ret=>
   simp only[aU.ends] at h
   split at h
   ·rename_i v hv;exact ⟨.inr rfl,v,hv,h⟩
   ·exact h.elim
  |exit _=>exact h.elim
  |goto _=>exact h.elim
  |panic _=>exact h.elim
  |outgrown=>exact h.elim
 | .ite b x y,h=>⟨fun e=>rR (h.1 e),fun e=>rR (h.2 e)⟩
 | .need p x,h=>⟨h.1,rR h.2⟩
 | .fail,h=>h
def jJ (P:Program) (f:FuncId) (args:List LV) (hp:Hp) (t:End):Prop:= ∀ R,t.sat R→gq P f args hp R
theorem Ku {P:Program} {f:FuncId} {fn:Func} {c:Code} (hf:P.funcs[f]? =some fn) (hb:fn.body=some c) {args:List LV} {hp:Hp} {r:aU} (hx:Ex P hp c (entry fn args hp) r):jJ P f args hp (r.ends P fn):=by
 intro R h β w vals hh dc
 refine calls_of_wp hf hb ?_
 have Uy:Rel w hp β β (entry fn args hp) {tmps:=vals.toArray++Array.replicate (fn.ntmps-vals.toArray.size) undef,defers:= []} w:=by
  refine ⟨rfl,?_,hh⟩
  show bB _ (args++List.replicate (fn.ntmps-args.length) (.cD [])) (vals.toArray++Array.replicate (fn.ntmps-vals.toArray.size) undef).toList
  have hl:=dc.length
  have e:(vals.toArray++Array.replicate (fn.ntmps-vals.toArray.size) undef).toList=vals++List.replicate (fn.ntmps-args.length) undef:=by
   simp[hl]
  rw[e]
  refine dc.append ?_
  generalize fn.ntmps-args.length=k
  induction k with
  |zero=>exact .nil
  |succ k ih=>exact .cons ⟨[],rfl,.nil⟩ ih
 refine hx _ _ _ _ (rR h) ?_ β _ w Uy
 have key: ∀ (a:Act) (w':World) (st:St) (β':Env) (x:LV),GS P fn st=some x→R x st.hp→Rel w hp β β' st a w'→
   a.defers= []∧ ∃ v,(results fn a.tmps).run P w'= .ok v w'∧(∃ val β' r dX,Ending.returned v= .returned val∧R r dX∧r.den β' (kd dX) val∧aV w hp β β' dX w'):=by
  intro a w' st β' x aa8 hR hr
  obtain ⟨v,h1,h2⟩:=GU hr aa8
  exact ⟨hr.defers,v,h1,v,β',x,st.hp,rfl,hR,h2,hr.heap⟩
 rintro e a w' ⟨st,β',⟨he,x,aa8,hR⟩,hr⟩
 rcases he with rfl|rfl
 ·exact key a w' st β' x aa8 hR hr
 ·exact key a w' st β' x aa8 hR hr
def uV (P:Program) (f:FuncId):Prop:= ∀ (as:Array Value) (w:World),(callFunc f as).run P w= .ok (.enter f as) w
end Go.Ev
end
