/- What the laws lean on, part 7: a reader of code, plain facts, and what each function gives; no conditions. -/
import Derived.Deep.Slices
import Derived.Test.YtcbjpiangpjbgaaGreatA6
set_option linter.unusedVariables false
set_option linter.unusedSimpArgs false
noncomputable section
namespace Go.Proofs.YtcbjpiangpjbgaaGreat
open Go Go.Ev Go.ChangeShapes Go.WideShapes Go.ChangeAt Go.RowKit Go.Proofs.Tryz
open Go.IntKind (i64 signed u32 u64 wrap wrap_u32)
set_option maxRecDepth 100000
theorem awk:w5 Tryz.prog 10 52=some (List.replicate 32 (.int .u8)):=by kernel_rfl
theorem amB:Tryz.prog.cellsOf 52=32:=by kernel_rfl
theorem BW{β:Env}{W:World}{a:Addr}:∀ (n:Nat) (f:Nat→List Int) (g:Nat→List Value),(∀i,i<n→(g i).length=32∧(Ty.arr u8 32).has β false (f i) (g i)∧∀j,j<32→W.cell? (a.add (i*32+j))=(g i)[j]?)→
  ∃eH:List Value,bp ((Ty.arr u8 32).has β false) ((List.range n).map f) eH∧eH.length=n*32∧dp W a eH
 |0,_,_,_=>⟨[],.nil,rfl,fun i u h=>by simp at h⟩
 |n+1,f,g,h=>by
  obtain⟨eH,h1,h2,h3⟩:=BW n f g fun i hi=>h i (by omega);obtain⟨g1,g2,g3⟩:=h n (by omega);refine⟨eH++g n,?_,by rw[List.length_append,h2,g1];omega,fun i u hu=>?_⟩
  ·rw[List.range_succ,List.map_append]
   have awj:bp ((Ty.arr u8 32).has β false) [f n] (g n):=by
    have:=bp.cons (R:=(Ty.arr u8 32).has β false) g2 .nil;rwa [List.append_nil]at this
   exact h1.append awj
  ·by_cases hi:i<eH.length
   ·rw[List.getElem?_append_left hi]at hu;exact h3 i u hu
   ·rw[List.getElem?_append_right (by omega)]at hu;have dU:=(List.getElem?_eq_some_iff.1 hu).1;have:=g3 (i-eH.length) (by omega);rw[show n*32+(i-eH.length)=i from by omega,hu]at this;exact this
theorem aa0{H:Type}{enc:TypeId×Value→H}{W:World}{fuel:Nat}{cs:List Value}{y:DataW H×List MemPlace}
  (h:DataW.trod enc Tryz.prog W 0 (fun _=>true) true fuel 22 cs=some y):
  ∃ (l:List (List Int)) (v:Value),cs= [v]∧(∀k:Nat,k<l.length→(l.getD k (List.replicate 32 0)).length=32∧ax (l.getD k (List.replicate 32 0)))∧(SV.rd false false (.arr u8 32) l).den (HY W) (kd []) v:=by
 rcases Go.Deep.open_slice underlying22 h with⟨e,_⟩|⟨a,len,cap,m,n,D,Pl,e,_,hlc,_,hm,_,H0⟩
 ·exact⟨[],_,e,fun k hk=>(by simp at hk),rfl,(fun e=>by cases e),.inr (.inr ⟨rfl,rfl⟩)⟩
 ·simp only[if_true]at hm;subst hm;rw[amB]at H0
  have key:∀i,∃l:List Int,∃us:List Value,i<len→l.length=32∧ax l∧us.length=32∧(Ty.arr u8 32).has RC false l us∧∀j,j<32→W.cell? (a.add (i*32+j))=us[j]? :=by
   intro i
   by_cases hi:i<len
   ·obtain⟨cs',h1,h2⟩:=H0 i (by omega);have Ve:=xE 10 awk h2;rw[← List.append_nil (List.replicate 32 (Bt.int .u8))]at Ve;obtain⟨l,us,rest,e1,hl,hu,hd,hw,hr⟩:=HZ (β:=RC) (pm:=false) 32 Ve
    cases hr
    rw[List.append_nil]at e1;obtain⟨_,c2,c3⟩:=World.cells?_some h1;refine⟨l,us,fun _=>⟨hl,fun z hz=>wf_u8 (hw z hz),by rw[← e1];exact c2,⟨hl,hd⟩,fun j hj=>?_⟩⟩;have:=c3 j hj;rw[Addr.add_add,e1]at this;exact this
   ·exact⟨[],[],fun h=>absurd h hi⟩
  have hf:=fun i=>Classical.choose_spec (key i)
  let f:Nat→List Int:=fun i=>Classical.choose (key i)
  have hg:=fun i=>Classical.choose_spec (hf i)
  let g:Nat→List Value:=fun i=>Classical.choose (hf i)
  refine⟨(List.range len).map f,_,e,fun k hk=>?_,rfl,(fun e=>by cases e),.inr (.inl ⟨rfl,rfl,by decide,?_⟩)⟩
  ·rw[List.length_map,List.length_range]at hk;have hq:=hg k hk;rw[List.getD_eq_getElem?_getD,List.getElem?_map,List.getElem?_range hk];exact⟨hq.1,hq.2.1⟩
  ·obtain⟨eH,v1,v2,v3⟩:=BW (β:=RC) (W:=W) (a:=a) len f g fun i hi=>⟨(hg i hi).2.2.1,(hg i hi).2.2.2.1,(hg i hi).2.2.2.2⟩;refine⟨some a,len,_,rfl,by simp,hlc,(fun e=>by cases e),fun h0=>⟨a,eH,rfl,?_,v1,v3⟩⟩;have gD:0<eH.length:=(by rw[v2];omega);have Mu:=v3 0 (eH[0]'gD) (List.getElem?_eq_getElem gD);have:a.add 0=a:=(by cases a;simp[Addr.add]);rw[this]at Mu;exact World.cell?_spot Mu
end Go.Proofs.YtcbjpiangpjbgaaGreat
end
noncomputable section
namespace Go.Proofs.YtcbjpiangpjbgaaGreat
open Go Go.Ev Go.Proofs.Tryz
open Go.IntKind (i64 signed u32 u64 wrap wrap_u32)
set_option maxRecDepth 1000000
abbrev rdt(l:List Int):LV:=.one (.sc (.rd true false u8 l))
def rK:ao:=ao.cH [some u8] bA ae fun x _=>.leaf (some (x.1.length≤70368744177664)) (rdt x.1) []
theorem H2:aN Tryz.prog [] [] f92 [.one (.sc (.fO (.slice none 0 0)))] [] [.MN 0 u8,.auto]=
 End.leaf (LV.one (VV.sc (SV.rd true false (Ty.int IntKind.u8) []))) []:=by kernel_rfl
theorem H3(l:List Int):aN Tryz.prog [] [] f92 [.one (.sc (.rd false true u8 l))] [] [.MN 0 u8,.auto]=
 End.need (((0:Nat)+l.length)*(1:Nat)≤(70368744177664:Nat)∧(0:Nat)+l.length≤(70368744177664:Nat)) (End.leaf (LV.one (VV.sc (SV.rd
 true false (Ty.int IntKind.u8) ([]++l)))) []):=by kernel_rfl
theorem mP:rK.Ok Tryz.prog 92:=by
 refine(ao.ba call92 fun x y Q h=>?_).sym;obtain⟨l,_⟩:=x;obtain⟨hl,hq⟩:=h;have hl:l.length≤70368744177664:=hl;refine iA.amA (x:= []) (y:= []) (fun e=>?_) ?_
 ·subst e;refine(au mixed aw func92 rfl (LT:= []) (ks:= [.MN 0 u8,.auto]) (aJ.nil _)).use (D:= []) ?_ hq;show(aN _ _ _ _ [.one (.sc (.fO (.slice none 0 0)))] [] _).sat _;rw[H2];exact⟨rfl,rfl⟩
 ·refine(au mixed aw func92 rfl (LT:= []) (ks:= [.MN 0 u8,.auto]) (aJ.nil _)).use (D:= []) ?_ hq;show(aN _ _ _ _ [.one (.sc (.rd false true u8 l))] [] _).sat _;rw[H3];exact⟨⟨by omega,by omega⟩,rfl,rfl⟩
abbrev G6:aY (List LV) (Int×Unit):=ag (ah (aC .i64)) ae
abbrev amC:aY (List LV) (Int×Int×Int×Unit):=ag (ah (aC .i64)) (ag (ah (aC .i64)) (ag (ah (aC .i64)) ae))
abbrev n9:aY (List LV) (Int×Int×Unit):=aq (ah (aU 0 0)) (ag (ah (aC .i64)) (ag (ah (aC .i64)) ae))
end Go.Proofs.YtcbjpiangpjbgaaGreat
end
noncomputable section
namespace Go.Ev
open Go
open Go.IntKind (i64 signed u32 u64 wrap wrap_u32)
theorem bY{α:Type}{l:List α}{k:Nat}(z:α)(h:k<l.length):l.drop k=l.getD k z::l.drop (k+1):=by
 rw[List.drop_eq_getElem_cons h];simp[List.getD_eq_getElem?_getD,List.getElem?_eq_getElem h]
theorem ax.getD{l:List Int}(h:ax l)(i:Nat):By (l.getD i 0):=by
 rw[List.getD_eq_getElem?_getD]
 cases hi:l[i]? with
 |none=>exact⟨Int.le_refl _,by decide⟩
 |some z=>exact h z (List.mem_of_getElem? hi)
theorem ax.nil:ax []:=fun _ h=>by cases h
theorem ax.cons{z:Int}{l:List Int}(hz:By z)(h:ax l):ax (z::l):=fun y hy=>by
 rcases List.mem_cons.1 hy with rfl|hy
 ·exact hz
 ·exact h y hy
theorem ax.rep(n:Nat){z:Int}(hz:By z):ax (List.replicate n z):=fun y hy=>by rw[List.eq_of_mem_replicate hy];exact hz
inductive Tr (X:Type) where
 |ret (x:X)
 |ite (b:Bool) (t e:Tr X)
 |need (p:Prop) (t:Tr X)
 |fail
def Tr.Is{X:Type}:Tr X→X→Prop
 | .ret x,y=>x=y
 | .ite b t e,y=>(b=true→t.Is y)∧(b=false→e.Is y)
 | .need p t,y=>p∧t.Is y
 | .fail,_=>False
theorem ak{X:Type}{x y:X}:(Tr.ret x).Is y↔x=y:=Iff.rfl
theorem ai{X:Type}{p:Prop}{t:Tr X}{y:X}:(Tr.need p t).Is y↔p∧t.Is y:=Iff.rfl
theorem aA{X:Type}{b:Bool}{t e:Tr X}{y:X}:(Tr.ite b t e).Is y↔(b=true→t.Is y)∧(b=false→e.Is y):=Iff.rfl
theorem ay{X:Type}{c:Prop}[Decidable c]{t e:Tr X}{y:X}:(Tr.ite (decide c) t e).Is y↔(c→t.Is y)∧(¬c→e.Is y):=by
 simp only[aA,decide_eq_true_eq,decide_eq_false_iff_not]
theorem RD{X:Type}{t e:Tr X}{y:X}:(Tr.ite true t e).Is y↔t.Is y:=by simp[aA]
theorem H4{X:Type}{t e:Tr X}{y:X}:(Tr.ite false t e).Is y↔e.Is y:=by simp[aA]
theorem aK{X:Type}{a b:Int}{t e:Tr X}{y:X}:(Tr.ite (a==b) t e).Is y↔(a=b→t.Is y)∧(a≠b→e.Is y):=by
 simp only[aA,beq_iff_eq,beq_eq_false_iff_ne]
theorem aG{X:Type}{a b:Int}{t e:Tr X}{y:X}:(Tr.ite (a !=b) t e).Is y↔(a=b→e.Is y)∧(a≠b→t.Is y):=by
 simp only[aA,bne_iff_ne,bne_eq_false_iff_eq];exact And.comm
theorem aF{X:Type}{b:Bool}{t e:Tr X}{y:X}:(Tr.ite (!b) t e).Is y↔(b=true→e.Is y)∧(b=false→t.Is y):=by
 cases b<;>simp[aA]
theorem aH{X:Type}{c:Prop}[Decidable c]{t e:Tr X}{y:X}:(Tr.ite (decide c==false) t e).Is y↔(¬c→t.Is y)∧(c→e.Is y):=by
 by_cases h:c<;>simp[aA,h]
theorem aS{X:Type}{c:Prop}[Decidable c]{t e:Tr X}{y:X}:(Tr.ite (decide c==true) t e).Is y↔(c→t.Is y)∧(¬c→e.Is y):=by
 by_cases h:c<;>simp[aA,h]
theorem bb{X:Type}{c:Prop}[Decidable c]{t e:Tr X}{y:X}:(Tr.ite (!decide c) t e).Is y↔(¬c→t.Is y)∧(c→e.Is y):=by
 by_cases h:c<;>simp[aA,h]
theorem aP{X:Type}{c:Prop}[Decidable c]{t e:Tr X}{y:X}:(Tr.ite ((!decide c)==false) t e).Is y↔(c→t.Is y)∧(¬c→e.Is y):=by
 by_cases h:c<;>simp[aA,h]
theorem bl{X:Type}{b:Bool}{t e:Tr X}{y:X}:(Tr.ite (b==false) t e).Is y↔(b=true→e.Is y)∧(b=false→t.Is y):=by
 cases b<;>simp[aA]
theorem bf{X:Type}{b:Bool}{t e:Tr X}{y:X}:(Tr.ite (b==true) t e).Is y↔(b=true→t.Is y)∧(b=false→e.Is y):=by
 cases b<;>simp[aA]
theorem aT{X:Type}{b:Bool}{t e:Tr X}{y:X}:(Tr.ite ((!b)==false) t e).Is y↔(b=true→t.Is y)∧(b=false→e.Is y):=by
 cases b<;>simp[aA]
theorem aM{X:Type}{a c:Int}{t e:Tr X}{y:X}:(Tr.ite ((a !=c)==false) t e).Is y↔(a=c→t.Is y)∧(a≠c→e.Is y):=by
 by_cases h:a=c<;>simp[aA,h]
theorem aQ{X:Type}{a c:Int}{t e:Tr X}{y:X}:(Tr.ite ((a==c)==false) t e).Is y↔(a=c→e.Is y)∧(a≠c→t.Is y):=by
 by_cases h:a=c<;>simp[aA,h]
def Tr.val{X:Type}(d:X):Tr X→X
 | .ret x=>x
 | .ite b t e=>bif b then t.val d else e.val d
 | .need _ t=>t.val d
 | .fail=>d
def Tr.end{X:Type}(V:X→LV)(D:X→List (Nat×Item))(hp:Hp):Tr X→End
 | .ret x=>.leaf (V x) (aV (D x) hp)
 | .ite b t e=>.ite b (t.end V D hp) (e.end V D hp)
 | .need p t=>.need p (t.end V D hp)
 | .fail=>.fail
theorem Tr.nx{X:Type}{V:X→LV}{D:X→List (Nat×Item)}{hp:Hp}:∀ {t:Tr X} {x:X},t.Is x→(t.end V D hp).sat fun v dI=>v=V x∧dI=aV (D x) hp
 | .ret _,_,h=>by cases h;exact⟨rfl,rfl⟩
 | .ite _ _ _,_,h=>⟨fun e=>Tr.nx (h.1 e),fun e=>Tr.nx (h.2 e)⟩
 | .need _ _,_,h=>⟨h.1,Tr.nx h.2⟩
 | .fail,_,h=>h
def cd{X Y Z:Type}(tys:List (Option Ty))(A:aY (List LV) X)(H:aY Hp Y)(pre:X→Y→Prop)(sp:X→Y→Z)(V:Z→LV)(D:Z→List (Nat×Item)):ao:=ao.cH tys A H fun x y=>.leaf (some (pre x y)) (V (sp x y)) (D (sp x y))
def BX{X Y Z Z':Type}(tys:List (Option Ty))(A:aY (List LV) X)(H:aY Hp Y)(pre:X→Y→Prop)(c:X→Y→Bool)(sp:X→Y→Z)(RE:X→Y→Z')(V:Z→LV)(D:Z→List (Nat×Item))(V':Z'→LV)(D':Z'→List (Nat×Item)):ao:=
 ao.cH tys A H fun x y=>.ite (c x y) (.leaf (some (pre x y)) (V (sp x y)) (D (sp x y))) (.leaf (some (pre x y)) (V' (RE x y)) (D' (RE x y)))
theorem br{P:Program}(lz:P.follows .mixedOrders=true){tab:List (FuncId×ao)}(qQ:∀p∈tab,p.2.Ok P p.1){f:FuncId}{fn:Func}(hf:P.funcs[f]? =some fn)(hb:fn.body.isSome=true)(he:vt P f){tys:List (Option Ty)}{X Y Z:Type}{A:aY (List LV) X}{H:aY Hp Y}
  {LT:X→Y→dL} (hL:∀x y,aJ P (H.wr y) (LT x y) (aD fn)) {ks:List Wk} {V:Z→LV} {D:Z→List (Nat×Item)} {T:X→Y→Tr Z} {pre:X→Y→Prop} {sp:X→Y→Z}
  (hT:∀x y,aN P tab (LT x y) fn (A.wr x) (H.wr y) ks=(T x y).end V D (H.wr y)) (hI:∀x y,pre x y→(T x y).Is (sp x y)):
  (cd tys A H pre sp V D).Ok P f:=by
 refine(ao.ba he fun x y Q h=>?_).sym;refine(au lz qQ hf hb (ks:=ks) (hL x y)).use (V:=V (sp x y)) (D:=D (sp x y)) ?_ h.2;rw[hT];exact Tr.nx (hI x y h.1)
theorem zw{P:Program}(lz:P.follows .mixedOrders=true){tab:List (FuncId×ao)}(qQ:∀p∈tab,p.2.Ok P p.1){f:FuncId}{fn:Func}(hf:P.funcs[f]? =some fn)(hb:fn.body.isSome=true)(he:vt P f){tys:List (Option Ty)}{X Y Z Z':Type}{A:aY (List LV) X}{H:aY Hp Y}
  {LT:X→Y→dL} (hL:∀x y,aJ P (H.wr y) (LT x y) (aD fn)) {ks:List Wk} {V:Z→LV} {D:Z→List (Nat×Item)} {V':Z'→LV} {D':Z'→List (Nat×Item)} {T:X→Y→Tr (Z⊕Z')} {pre:X→Y→Prop} {c:X→Y→Bool} {sp:X→Y→Z} {RE:X→Y→Z'}
  (hT:∀x y,aN P tab (LT x y) fn (A.wr x) (H.wr y) ks=(T x y).end (Sum.elim V V') (Sum.elim D D') (H.wr y)) (hI:∀x y,pre x y→(c x y=true→(T x y).Is (.inl (sp x y)))∧(c x y=false→(T x y).Is (.inr (RE x y)))):
  (BX tys A H pre c sp RE V D V' D').Ok P f:=by
 refine(ao.ba he fun x y Q h=>?_).sym
 cases hc:c x y with
 |true=>
  have h1:=h.1 hc;refine(au lz qQ hf hb (ks:=ks) (hL x y)).use (V:=V (sp x y)) (D:=D (sp x y)) ?_ h1.2;rw[hT];exact Tr.nx (V:=Sum.elim V V') (D:=Sum.elim D D') ((hI x y h1.1).1 hc)
 |false=>
  have h1:=h.2 hc;refine(au lz qQ hf hb (ks:=ks) (hL x y)).use (V:=V' (RE x y)) (D:=D' (RE x y)) ?_ h1.2;rw[hT];exact Tr.nx (V:=Sum.elim V V') (D:=Sum.elim D D') ((hI x y h1.1).2 hc)
theorem zx{P:Program}(lz:P.follows .mixedOrders=true){tab:List (FuncId×ao)}(qQ:∀p∈tab,p.2.Ok P p.1){f:FuncId}{fn:Func}(hf:P.funcs[f]? =some fn)(hb:fn.body.isSome=true)(he:vt P f){tys:List (Option Ty)}{X Y Z:Type}{A:aY (List LV) X}{H:aY Hp Y}
  {LT:X→Y→dL} (hL:∀x y,aJ P (H.wr y) (LT x y) (aD fn)) {ks:List Wk} {V:Z→LV} {D:Z→List (Nat×Item)} {T:X→Y→Tr Z} {out:X→Y→Out}
  (hT:∀x y,aN P tab (LT x y) fn (A.wr x) (H.wr y) ks=(T x y).end V D (H.wr y)) (hO:∀x y Q,(out x y).holds Q→∃z,(T x y).Is z∧Q (V z) (D z)):
  (ao.cH tys A H out).Ok P f:=by
 refine(ao.ba he fun x y Q h=>?_).sym;obtain⟨z,h1,h2⟩:=hO x y Q h;refine(au lz qQ hf hb (ks:=ks) (hL x y)).use (V:=V z) (D:=D z) ?_ h2;rw[hT];exact Tr.nx h1
inductive dV {X Z:Type} (L:X→Tr (X⊕Z)):X→Z→Prop where
 |stop {x z} (h:(L x).Is (.inr z)):dV L x z
 |go {x y z} (h:(L x).Is (.inl y)) (t:dV L y z):dV L x z
inductive zy {X Z:Type} (L:X→Tr (X⊕Z)):Nat→X→Z→Prop where
 |stop {n x z} (h:(L x).Is (.inr z)):zy L n x z
 |go {n x y z} (h:(L x).Is (.inl y)) (t:zy L n y z):zy L (n+1) x z
theorem dV.n{X Z:Type}{L:X→Tr (X⊕Z)}{x:X}{z:Z}(h:dV L x z):∃n,zy L n x z:=by
 induction h with
 |stop h=>exact⟨0,.stop h⟩
 |go h _ ih=>obtain⟨n,h'⟩:=ih;exact⟨n+1,.go h h'⟩
def Tr.res{X Z:Type}(C:X→St)(E:Z→Exit×St):Tr (X⊕Z)→aW
 | .ret (.inl y)=>.leaf .normal (C y)
 | .ret (.inr z)=>.leaf (E z).1 (E z).2
 | .ite b t e=>.ite b (t.res C E) (e.res C E)
 | .need p t=>.need p (t.res C E)
 | .fail=>.fail
theorem Tr.Dy{X Z:Type}{C:X→St}{E:Z→Exit×St}{y:X}:∀ {t:Tr (X⊕Z)},t.Is (.inl y)→(t.res C E).sat fun e s=>e= .normal∧s=C y
 | .ret _,h=>by cases h;exact⟨rfl,rfl⟩
 | .ite _ _ _,h=>⟨fun e=>Tr.Dy (h.1 e),fun e=>Tr.Dy (h.2 e)⟩
 | .need _ _,h=>⟨h.1,Tr.Dy h.2⟩
 | .fail,h=>h
theorem Tr.tg{X Z:Type}{C:X→St}{E:Z→Exit×St}{z:Z}:∀ {t:Tr (X⊕Z)},t.Is (.inr z)→(t.res C E).sat fun e s=>e=(E z).1∧s=(E z).2
 | .ret _,h=>by cases h;exact⟨rfl,rfl⟩
 | .ite _ _ _,h=>⟨fun e=>Tr.tg (h.1 e),fun e=>Tr.tg (h.2 e)⟩
 | .need _ _,h=>⟨h.1,Tr.tg h.2⟩
 | .fail,h=>h
theorem cQ{P:Program}(lz:P.follows .mixedOrders=true){tab:List (FuncId×ao)}(qQ:∀p∈tab,p.2.Ok P p.1){LT:dL}{fn:Func}{id:Nat}{hp:Hp}{ws:Exit→List Wk}(hL:aJ P hp LT (a9 fn id))
  {X Z:Type} {C:aY St X} {E:Z→Exit×St} {L:X→Tr (X⊕Z)} {pre:X→Prop} {sp:X→Z} {F:X→aW}
  (hT:∀x,cY P tab LT fn id hp ws (C.wr x)=(L x).res C.wr E) (hE:∀z,(E z).1≠ .normal) (hF:∀x R,(F x).sat R→pre x∧R (E (sp x)).1 (E (sp x)).2) (hI:∀x,pre x→dV L x (sp x)) (x:X):
  Ex P hp (.loop (a9 fn id)) (C.wr x) (F x):=by
 intro W β₀ R Q hs hq β a w hr;obtain⟨hx,hs2⟩:=hF x R hs;obtain⟨n,hn⟩:=(hI x hx).n
 have key:Ex P hp (.loop (a9 fn id)) (C.wr x) (.leaf (E (sp x)).1 (E (sp x)).2):=by
  refine Ex.dx (X:=Nat×X) (fun p=>p.1) (fun p=>C.wr p.2) (fun p=>zy L p.1 p.2 (sp x)) (fun p=>(L p.2).res C.wr E) (fun _=>.leaf (E (sp x)).1 (E (sp x)).2) (fun p _=>by have:=Ry lz qQ hL (P:=P) (ws:=ws) (st:=C.wr p.2);rw[hT]at this;exact this) (fun p R hp hs=>?_) (x:=(n,x)) hn;obtain⟨k,y⟩:=p
  cases hp with
  |stop h=>exact aW.oP (fun e s ⟨h1,h2⟩=>.inr ⟨by rw[h1];exact hE _,by rw[h1,h2];exact hs⟩) (Tr.tg h)
  |go h t=>exact aW.oP (fun e s ⟨h1,h2⟩=>.inl ⟨h1,(_,_),h2,t,Nat.lt_succ_self _,hs⟩) (Tr.Dy h)
 exact key W β₀ R Q hs2 hq β a w hr
abbrev eS{X Z:Type}(pre:X→Prop)(sp:X→Z)(E:Z→Exit×St)(x:X):aW:=.need (pre x) (.leaf (E (sp x)).1 (E (sp x)).2)
abbrev rL{X Z Z':Type}(pre:X→Prop)(c:X→Bool)(sp:X→Z)(RE:X→Z')(E:Z→Exit×St)(E':Z'→Exit×St)(x:X):aW:=.need (pre x) (.ite (c x) (.leaf (E (sp x)).1 (E (sp x)).2) (.leaf (E' (RE x)).1 (E' (RE x)).2))
theorem eY{X Z:Type}{E:Z→Exit×St}{pre:X→Prop}{sp:X→Z}:∀ (x:X) (R:Exit→St→Prop),(eS pre sp E x).sat R→pre x∧R (E (sp x)).1 (E (sp x)).2:=fun _ _ h=>h
theorem vF{X Z Z':Type}{E:Z→Exit×St}{E':Z'→Exit×St}{pre:X→Prop}{c:X→Bool}{sp:X→Z}{RE:X→Z'}:∀ (x:X) (R:Exit→St→Prop),(rL pre c sp RE E E' x).sat R→
  pre x∧R (Sum.elim E E' (bif c x then .inl (sp x)else .inr (RE x))).1 (Sum.elim E E' (bif c x then .inl (sp x)else .inr (RE x))).2:=fun x R h=>⟨h.1,by
 cases hc:c x with
 |true=>exact h.2.1 hc
 |false=>exact h.2.2 hc⟩
def w6(n:List Wk)(id:Nat)(x r:List Wk):Exit→List Wk
 | .normal=>n
 | .exit i=>if i=id then x else n
 | .ret=>r
 |_=> []
def ir(n:Nat)(r:List LV):List LV:=List.replicate n .bC++r
def eV{X:Type}(c:aY Item X):aY (Option Item) X where
 rd x:=match x with
  |some x=>c.rd x
  |none=>none
 wr x:=some (c.wr x)
 ok:=by
  intro x v h
  split at h
  ·rw[c.ok h]
  ·cases h
def oT{X:Type}(e:TypeId)(r:aY (List SV) X):aY Item X where
 rd x:=match x with
  | .bH cells e'=>if e'=e then r.rd cells else none
  |_=>none
 wr x:=.bH (r.wr x) e
 ok:=by
  intro x v h
  split at h
  ·split at h
   ·rename_i e;subst e;rw[r.ok h]
   ·cases h
  ·cases h
def sFn(g:FuncId):aY SV Unit where
 rd x:=match x with
  | .fO (.func (.func f) ⟨[]⟩ ⟨[]⟩)=>if f=g then some ()else none
  |_=>none
 wr _:=.fO (.func (.func g) #[] #[])
 ok:=by
  intro s x h
  split at h
  ·split at h
   ·rename_i e;subst e;rfl
   ·cases h
  ·cases h
end Go.Ev
end
noncomputable section
namespace Go.Proofs.YtcbjpiangpjbgaaGreat
open Go Go.Ev Go.Proofs.Tryz
open Go.IntKind (i64 signed u32 u64 wrap wrap_u32)
set_option maxRecDepth 1000000
abbrev H5:Type:=Int×Int×(List Int)
abbrev H6:aY St H5:=(bg (jk 3 (aq (ah (u5 (0) (0))) (jk 6 (ag (ah (aC i64)) (ag (ah (aC
 i64)) (jk 7 ae)))))) (ag (eX (0) (Ty.int IntKind.u8)) ae)).kB (fun y=>(y.1.1,y.1.2.1,y.2.1)) (fun x=>((x.1,(x.2.1,())),
 (x.2.2,()))) (fun _=>rfl)
abbrev aa1:List Wk:= [.fr (cC 19 [(3,.al),(10,.al),(11,.al)]),.syms,.auto,.aE]
abbrev arY:Exit→List Wk:=w6 aa1 0 [.fr (cC 19 [(3,.al)]),.syms,.auto,.aE] [.fr (cC 19 [(2,.al)]),.syms,.auto,.aE]
abbrev aa2:Type:=List Int
abbrev arZ(x:aa2):Exit×St:=(Exit.exit 0,⟨(ir 3 (LV.one (VV.sc (SV.sl 0 0))::(ir 15 []))),[some (Item.own 0 (Ty.int
 IntKind.u8) x)]⟩)
def RF(m:Int)(i:Int)(c:List Int):Tr (H5⊕(aa2)):=(.ite (decide (i<m)) (.need (0≤i∧i<(↑c.length:Int))
 (.ret (.inl (m,i64.wrap (i+1),c.set i.toNat 255)))) (.ret (.inr (c))))
theorem Vz(n:Int)(m:Int)(i:Int)(c:List Int):cY Tryz.prog [] [] f14 0 ((ae).wr (())) arY (H6.wr (m,i,c))=(RF m i c).res H6.wr arZ:=by kernel_rfl
abbrev Dz(m:Int)(i:Int)(c:List Int):Prop:=m=c.length∧0≤i∧i≤m∧c.length<1099511627776
abbrev aa3(m:Int)(i:Int)(c:List Int):aa2:=c.take i.toNat++List.replicate (c.length-i.toNat) 255
abbrev aa4:H5→aW:=eS (fun x_=>Dz x_.1 x_.2.1 x_.2.2) (fun x_=>aa3 x_.1 x_.2.1 x_.2.2) arZ
theorem amD(m:Int)(i:Int)(c:List Int)(h_:Dz m i c):dV (fun x_:H5=>RF x_.1 x_.2.1 x_.2.2) (m,i,c) (aa3 m i c):=by
 delta aa3;obtain⟨rfl,h1,h2,h3⟩:=h_;obtain⟨k,rfl⟩:∃j:Nat,i=j:=⟨i.toNat,by omega⟩;obtain⟨j,hj⟩:∃j,c.length-k=j:=⟨_,rfl⟩;rw[Int.toNat_natCast,hj]
 induction j generalizing k c with
 |zero=>
  refine .stop ?_;have e1:decide ((k:Int)<c.length)=false:=decide_eq_false (by omega);simp only[RF,e1,H4,ak,List.replicate_zero,List.append_nil];rw[List.take_of_length_le (by omega)]
 |succ j ih=>
  have e1:decide ((k:Int)<c.length)=true:=decide_eq_true (by omega);have hl:(c.set k 255).length=c.length:=List.length_set;have w:=ih (c.set k 255) (by rw[hl];exact h3) (k+1) (by omega) (by rw[hl];omega) (by rw[hl];omega);rw[hl]at w
  have e2:(c.set k 255).take (k+1)++List.replicate j 255=c.take k++List.replicate (j+1) 255:=by
   rw[List.take_add_one,List.take_set_of_le (Nat.le_refl _),List.getElem?_set_self (by omega),List.replicate_succ];simp
  rw[e2]at w;refine .go ?_ w;simp only[RF,e1,RD,ai,ak,Int.toNat_natCast];rw[ar (by omega) (by omega)];exact⟨by omega,rfl⟩
theorem aa5(n:Int):∀x:H5,Ex Tryz.prog ((ae).wr (())) (.loop (a9 f14 0)) (H6.wr x) (aa4 x):=
 cQ mixed aw (ws:=arY) (aJ.nil _) (fun x_=>Vz n x_.1 x_.2.1 x_.2.2) (fun z e=>by cases e) eY (fun x_ h=>amD x_.1 x_.2.1 x_.2.2 h)
def oU(n:Int):Int:=if 0<if 65536<n then 65536 else n then if 65536<n then 65536 else n else 0
abbrev amE:Type:=List Int
abbrev aBO(x:amE):LV:=LV.one (VV.sc (SV.sl 0 0))
abbrev aBP(x:amE):List (Nat×Ev.Item):= [(0,Item.own 0 (Ty.int IntKind.u8) x)]
def awl(n:Int):Tr (amE):=(.need (oU n=oU n∧0≤oU n∧1*oU n≤70368744177664∧oU n≤70368744177664)
 (.need (Dz (↑(List.replicate (oU n).toNat (0:Int)).length:Int) 0 (List.replicate (oU n).toNat (0:Int))) (.ret (List.take 0
 (List.replicate (oU n).toNat (0:Int))++List.replicate ((List.replicate (oU n).toNat (0:Int)).length-0) (255:Int)))))
theorem aa6(n:Int):aN Tryz.prog [] [(0,cg H6 ((ae).wr (())) aa1 (aa4))] f14 ((G6).wr (n,())) ((ae).wr (())) [.fr [.sym],.syms,.auto,.aE]=(awl n).end aBO aBP ((ae).wr (())):=by kernel_rfl
theorem amF(n:Int):aJ Tryz.prog ((ae).wr (())) [(0,cg H6 ((ae).wr (())) aa1 (aa4))] (aD f14):=(aJ.bW (jc (by kernel_rfl) (ck (hp:=(ae).wr (())) (aa5 n)) jh))
abbrev MT(n:Int):Prop:=0≤n∧n≤65536
abbrev awm(n:Int):amE:=List.replicate n.toNat 255
def aBQ:ao:=cd [] (G6) (ae) (fun x_ y_=>MT x_.1) (fun x_ y_=>awm x_.1) aBO aBP
theorem awn(n:Int)(h_:MT n):(awl n).Is (awm n):=by
 delta awm;obtain⟨h1,h2⟩:=h_;have e0:oU n=n:=by unfold oU;split<;>(try split)<;>omega
 simp only[awl,ai,ak,e0];refine⟨⟨trivial,by omega,by omega,by omega⟩,⟨rfl,by omega,by omega,by rw[List.length_replicate];omega⟩,?_⟩;simp
theorem awo:aBQ.Ok Tryz.prog 14:=
 br mixed aw func14 (by kernel_rfl) call14 (fun x_ y_=>amF x_.1) (fun x_ y_=>aa6 x_.1) (fun x_ y_ h=>awn x_.1 h)
abbrev H7:Type:=Int×Int×Int×Bool×Bool×Int×(List Int)×(List Int)
abbrev H8:aY St H7:=(bg (jk 4 (aq (ah (aU (0) (0))) (jk 7 (ag (ah (aC i64)) (ag (ah (aC
 i64)) (jk 12 ae)))))) (ag (kY (55) ((aq (u5 (1) (0)) (aq (u5 (2) (0)) (ag (aC i64) (ag (jX) (ag (jX)
 (ag (aC i64) (aq (aaS) ae))))))))) (ag (eX (0) (Ty.int IntKind.u8)) (ag (eX (0) (Ty.int i64)) ae)))).kB (fun y
 =>(y.1.1,y.1.2.1,y.2.1.1,y.2.1.2.1,y.2.1.2.2.1,y.2.1.2.2.2.1,y.2.2.1,y.2.2.2.1)) (fun x=>((x.1,(x.2.1,())),((x.2.2.1,(x.2.2.2.1,
 (x.2.2.2.2.1,(x.2.2.2.2.2.1,())))),(x.2.2.2.2.2.2.1,(x.2.2.2.2.2.2.2,()))))) (fun _=>rfl)
abbrev aa7:List Wk:= [.fr (cC 26 [(4,.al),(12,.al),(13,.al)]),.auto,.dw 0 0 u8,.fr (cC 26 [(4,.al),(12,.al),(13,
 .al)]),.syms,.auto,.aE]
abbrev ar0:Exit→List Wk:=w6 aa7 0 [.fr (cC 26 [(4,.al),(12,.al),(13,.al)]),.auto,.dw 0 0 u8,.fr (cC 26 [(4,.al)]),
 .syms,.auto,.aE] [.fr (cC 26 [(4,.al),(12,.al),(13,.al)]),.auto,.dw 0 0 u8,.fr (cC 26 [(2,.al)]),.syms,.auto,.aE]
abbrev aa8:Type:=Int×Bool×Bool×Int×(List Int)×(List Int)
abbrev ar1(x:aa8):Exit×St:=(Exit.exit 0,⟨(ir 4 (LV.one (VV.sc (SV.ptr 0 0))::(ir 21 []))),[some (Item.bH [SV.sl 1 0,
 SV.sl 2 0,SV.int i64 (SI.sym x.1),SV.bool (SB.sym x.2.1),SV.bool (SB.sym x.2.2.1),SV.int i64 (SI.sym x.2.2.2.1),SV.fO
 (Value.slice none 0 0)] 55),some (Item.own 0 (Ty.int IntKind.u8) x.2.2.2.2.1),some (Item.own 0 (Ty.int i64) x.2.2.2.2.2)]⟩)
def RG(n:Int)(i:Int)(st:Int)(off:Bool)(arm:Bool)(ZY:Int)(b:List Int)(er:List Int):Tr (H7⊕(aa8)):=
 (.ite (decide (i<n)) (.need (MT 1024) (.need ((b.length+1024)*1≤70368744177664∧b.length+1024≤70368744177664) (.ret (.inl (n,
 i64.wrap (i+1),st,off,arm,ZY,b++List.replicate 1024 (255:Int),er))))) (.ret (.inr (st,off,arm,ZY,b,er))))
theorem VA(n':Int)(n:Int)(i:Int)(st:Int)(off:Bool)(arm:Bool)(ZY:Int)(b:List Int)(er:List Int):cY Tryz.prog [(14,aBQ)] [] f5 0 ((ae).wr (())) ar0 (H8.wr (n,i,st,off,arm,ZY,b,er))=(RG n i st off arm ZY b er).res H8.wr ar1:=by kernel_rfl
abbrev DA(n:Int)(i:Int)(st:Int)(off:Bool)(arm:Bool)(ZY:Int)(b:List Int)(er:List Int):Prop:=0≤i∧i≤n∧n≤256∧b=List.replicate (1024*i).toNat 255
abbrev aa9(n:Int)(i:Int)(st:Int)(off:Bool)(arm:Bool)(ZY:Int)(b:List Int)(er:List Int):aa8:=(st,off,arm,ZY,List.replicate (1024*n).toNat 255,er)
abbrev aba:H7→aW:=eS (fun x_=>DA x_.1 x_.2.1 x_.2.2.1 x_.2.2.2.1 x_.2.2.2.2.1 x_.2.2.2.2.2.1 x_.2.2.2.2.2.2.1 x_.2.2.2.2.2.2.2) (fun x_=>aa9 x_.1 x_.2.1 x_.2.2.1 x_.2.2.2.1 x_.2.2.2.2.1 x_.2.2.2.2.2.1 x_.2.2.2.2.2.2.1 x_.2.2.2.2.2.2.2) ar1
theorem amG(n:Int)(i:Int)(st:Int)(off:Bool)(arm:Bool)(ZY:Int)(b:List Int)(er:List Int)(h_:DA n i st off arm ZY b er):dV (fun x_:H7=>RG x_.1 x_.2.1 x_.2.2.1 x_.2.2.2.1 x_.2.2.2.2.1 x_.2.2.2.2.2.1 x_.2.2.2.2.2.2.1 x_.2.2.2.2.2.2.2) (n,i,st,off,arm,ZY,b,er) (aa9 n i st off arm ZY b er):=by
 delta aa9;obtain⟨h1,h2,h3,rfl⟩:=h_;obtain⟨j,hj⟩:∃j:Nat,n-i=j:=⟨(n-i).toNat,by omega⟩
 induction j generalizing i with
 |zero=>
  refine .stop ?_;have e1:decide (i<n)=false:=decide_eq_false (by omega);simp only[RG,e1,H4,ak];rw[show i=n by omega]
 |succ j ih=>
  have e1:decide (i<n)=true:=decide_eq_true (by omega);refine .go ?_ (ih (i+1) (by omega) (by omega) (by omega));simp only[RG,e1,RD,ai,ak];refine⟨⟨by decide,by decide⟩,by rw[List.length_replicate];omega,?_⟩;rw[ar (by omega) (by omega),show(1024*(i+1)).toNat=(1024*i).toNat+1024 by omega,← List.replicate_append_replicate]
theorem abb(n':Int):∀x:H7,Ex Tryz.prog ((ae).wr (())) (.loop (a9 f5 0)) (H8.wr x) (aba x):=
 cQ mixed ((aj awo aw)) (ws:=ar0) (aJ.nil _) (fun x_=>VA n' x_.1 x_.2.1 x_.2.2.1 x_.2.2.2.1 x_.2.2.2.2.1 x_.2.2.2.2.2.1 x_.2.2.2.2.2.2.1 x_.2.2.2.2.2.2.2) (fun z e=>by cases e) eY (fun x_ h=>amG x_.1 x_.2.1 x_.2.2.1 x_.2.2.2.1 x_.2.2.2.2.1 x_.2.2.2.2.2.1 x_.2.2.2.2.2.2.1 x_.2.2.2.2.2.2.2 h)
def ra(n:Int):Int:=if 1<if 256<n then 256 else n then if 256<n then 256 else n else 1
abbrev amH:Type:=Int×Bool×Bool×Int×(List Int)×(List Int)
abbrev aBR(x:amH):LV:=LV.one (VV.sc (SV.ptr 0 0))
abbrev aBS(x:amH):List (Nat×Ev.Item):= [(0,Item.bH [SV.sl 1 0,SV.sl 2 0,SV.int i64 (SI.sym x.1),SV.bool (SB.sym
 x.2.1),SV.bool (SB.sym x.2.2.1),SV.int i64 (SI.sym x.2.2.2.1),SV.fO (Value.slice none 0 0)] 55),(1,Item.own 0 (Ty.int IntKind.u8)
 x.2.2.2.2.1),(2,Item.own 0 (Ty.int i64) x.2.2.2.2.2)]
def awp(n:Int):Tr (amH):=(.need (ra n=ra n∧0≤ra n∧8*ra n≤70368744177664∧ra n≤70368744177664)
 (.need (DA (ra n) 0 0 false false 0 [] (List.replicate (ra n).toNat (0:Int))) (.ret (0,false,false,0,List.replicate (Int.toNat (1024*
 ra n)) (255:Int),List.replicate (ra n).toNat (0:Int)))))
theorem abc(n:Int):aN Tryz.prog [] [(0,cg H8 ((ae).wr (())) aa7 (aba))] f5 ((G6).wr (n,())) ((ae).wr (())) [.fr [.sym],.syms,.auto,.aE]=(awp n).end aBR aBS ((ae).wr (())):=by kernel_rfl
theorem amI(n:Int):aJ Tryz.prog ((ae).wr (())) [(0,cg H8 ((ae).wr (())) aa7 (aba))] (aD f5):=(aJ.bW (jc (by kernel_rfl) (ck (hp:=(ae).wr (())) (abb n)) jh))
def eu(n:Int):Int:=if 1<(if 256<n then 256 else n)then(if 256<n then 256 else n)else 1
abbrev DB(n:Int):Prop:=True
abbrev awq(n:Int):amH:=(0,false,false,0,List.replicate (1024*eu n).toNat 255,List.replicate (eu n).toNat 0)
def awr:ao:=cd [] (G6) (ae) (fun x_ y_=>DB x_.1) (fun x_ y_=>awq x_.1) aBR aBS
theorem aws(n:Int)(h_:DB n):(awp n).Is (awq n):=by
 delta awq;have e0:ra n=eu n:=rfl;have h:1≤eu n∧eu n≤256:=by unfold eu;split<;>(try split)<;>omega
 simp only[awp,ai,ak,e0];exact⟨⟨trivial,by omega,by omega,by omega⟩,⟨by omega,by omega,by omega,by simp⟩,trivial⟩
theorem abd:awr.Ok Tryz.prog 5:=
 br mixed aw func5 (by kernel_rfl) call5 (fun x_ y_=>amI x_.1) (fun x_ y_=>abc x_.1) (fun x_ y_ h=>aws x_.1 h)
abbrev Fl:Type:=Int×Bool×Bool×Int
abbrev cFl:aY (List SV) Fl:=(aq (u5 1 0) (aq (u5 2 0) (ag (aC .i64) (ag jX (ag jX (ag (aC .i64) (aq aaS ae))))))).kB (fun x=>(x.1,x.2.1,x.2.2.1,x.2.2.2.1)) (fun y=>(y.1,y.2.1,y.2.2.1,y.2.2.2,())) (fun _=>rfl)
abbrev jFl:aY Ev.Item Fl:=oT 55 cFl
abbrev eP:aY Hp (Fl×List Int×List Int×Unit):=ag (eV jFl) (ag (eX 0 u8) (ag (eX 0 (.int .i64)) ae))
abbrev rM:Type:=Int
abbrev abe(x:rM):LV:=LV.one (VV.sc (SV.int i64 (SI.sym x)))
abbrev abf(x:rM):List (Nat×Ev.Item):= []
def abg(f:Int×Bool×Bool×Int)(b:List Int)(er:List Int):Tr (rM):=(.ret ((↑b.length:Int)))
theorem MU(f:Fl)(b er:List Int):aN Tryz.prog [] [] f65 (((aq (ah (aU 0 0)) ae)).wr (())) ((eP).wr (f,b,er,())) [.fr [.sym],.syms,.auto,.aE]=(abg f b er).end abe abf ((eP).wr (f,b,er,())):=by kernel_rfl
theorem VB(f:Fl)(b er:List Int):aJ Tryz.prog ((eP).wr (f,b,er,())) [] (aD f65):=(aJ.nil _)
abbrev th(f:Fl)(b er:List Int):Prop:=True
abbrev MV(f:Fl)(b er:List Int):rM:=b.length
def MW:ao:=cd [] ((aq (ah (aU 0 0)) ae)) (eP) (fun x_ y_=>th y_.1 y_.2.1 y_.2.2.1) (fun x_ y_=>MV y_.1 y_.2.1 y_.2.2.1) abe abf
theorem abh(f:Fl)(b er:List Int)(h_:th f b er):(abg f b er).Is (MV f b er):=by
 delta MV;exact rfl
theorem H9:MW.Ok Tryz.prog 65:=
 br mixed aw func65 (by kernel_rfl) call65 (fun x_ y_=>VB y_.1 y_.2.1 y_.2.2.1) (fun x_ y_=>MU y_.1 y_.2.1 y_.2.2.1) (fun x_ y_ h=>abh y_.1 y_.2.1 y_.2.2.1 h)
def DC(f:Int×Bool×Bool×Int)(b:List Int)(er:List Int):Int:=(↑b.length:Int)
abbrev DD:Type:=Bool
abbrev abi(x:DD):LV:=LV.one (VV.sc (SV.bool (SB.sym x)))
abbrev abj(x:DD):List (Nat×Ev.Item):= []
def MX(at_:Int)(n:Int)(f:Int×Bool×Bool×Int)(b:List Int)(er:List Int):Tr (DD):=(.ite (decide (0≤at_)==
 true) (.ite (decide (0≤n)==true) (.ite (decide (at_≤DC f b er)==true) (.ret (decide (n≤i64.wrap (DC f b er-at_)))) (.ret
 (false))) (.ret (false))) (.ret (false)))
theorem MY(at_ n:Int)(f:Fl)(b er:List Int):aN Tryz.prog [] [] f17 ((n9).wr (at_,n,())) ((eP).wr (f,b,er,())) [.fr [.sym],.syms,.auto,.aE]=(MX at_ n f b er).end abi abj ((eP).wr (f,b,er,())):=by kernel_rfl
theorem VC(at_ n:Int)(f:Fl)(b er:List Int):aJ Tryz.prog ((eP).wr (f,b,er,())) [] (aD f17):=(aJ.nil _)
abbrev oV(at_ n:Int)(f:Fl)(b er:List Int):Prop:=b.length<1099511627776
abbrev MZ(at_ n:Int)(f:Fl)(b er:List Int):DD:=decide (0≤at_∧0≤n∧at_+n≤b.length)
def DE:ao:=cd [] (n9) (eP) (fun x_ y_=>oV x_.1 x_.2.1 y_.1 y_.2.1 y_.2.2.1) (fun x_ y_=>MZ x_.1 x_.2.1 y_.1 y_.2.1 y_.2.2.1) abi abj
theorem abk(at_ n:Int)(f:Fl)(b er:List Int)(h_:oV at_ n f b er):(MX at_ n f b er).Is (MZ at_ n f b er):=by
 delta MZ;have h:b.length<1099511627776:=h_;have e0:DC f b er=b.length:=rfl;simp only[MX,e0,aA,ak,beq_iff_eq,decide_eq_true_eq,beq_eq_false_iff_ne,ne_eq];refine⟨fun h1=>⟨fun h2=>⟨fun h3=>?_,fun h3=>?_⟩,fun h2=>?_⟩,fun h1=>?_⟩
 ·rw[ar (by omega) (by omega)];exact decide_eq_decide.2 ⟨fun _=>by omega,fun _=>by omega⟩
 ·exact(decide_eq_false (by omega)).symm
 ·exact(decide_eq_false (by omega)).symm
 ·exact(decide_eq_false (by omega)).symm
theorem zz:DE.Ok Tryz.prog 17:=
 br mixed aw func17 (by kernel_rfl) call17 (fun x_ y_=>VC x_.1 x_.2.1 y_.1 y_.2.1 y_.2.2.1) (fun x_ y_=>MY x_.1 x_.2.1 y_.1 y_.2.1 y_.2.2.1) (fun x_ y_ h=>abk x_.1 x_.2.1 y_.1 y_.2.1 y_.2.2.1 h)
abbrev RH:Type:=Bool
abbrev ar2(x:RH):LV:=LV.one (VV.sc (SV.bool (SB.sym x)))
abbrev ar3(x:RH):List (Nat×Ev.Item):= []
def ar4(f:Int×Bool×Bool×Int)(b:List Int)(er:List Int):Tr (RH):=(.ret (f.snd.fst))
theorem VD(f:Fl)(b er:List Int):aN Tryz.prog [] [] f67 (((aq (ah (aU 0 0)) ae)).wr (())) ((eP).wr (f,b,er,())) [.fr [.sym],.syms,.auto,.aE]=(ar4 f b er).end ar2 ar3 ((eP).wr (f,b,er,())):=by kernel_rfl
theorem abl(f:Fl)(b er:List Int):aJ Tryz.prog ((eP).wr (f,b,er,())) [] (aD f67):=(aJ.nil _)
abbrev DF(f:Fl)(b er:List Int):Prop:=True
abbrev abm(f:Fl)(b er:List Int):RH:=f.2.1
def ar5:ao:=cd [] ((aq (ah (aU 0 0)) ae)) (eP) (fun x_ y_=>DF y_.1 y_.2.1 y_.2.2.1) (fun x_ y_=>abm y_.1 y_.2.1 y_.2.2.1) ar2 ar3
theorem amJ(f:Fl)(b er:List Int)(h_:DF f b er):(ar4 f b er).Is (abm f b er):=by
 delta abm;exact rfl
theorem amK:ar5.Ok Tryz.prog 67:=
 br mixed aw func67 (by kernel_rfl) call67 (fun x_ y_=>abl y_.1 y_.2.1 y_.2.2.1) (fun x_ y_=>VD y_.1 y_.2.1 y_.2.2.1) (fun x_ y_ h=>amJ y_.1 y_.2.1 y_.2.2.1 h)
abbrev DG:Type:=List Int
abbrev abn(x:DG):LV:=LV.one (VV.sc (SV.rd true false (Ty.int IntKind.u8) x))
abbrev abo(x:DG):List (Nat×Ev.Item):= []
def M0(at_:Int)(n:Int)(f:Int×Bool×Bool×Int)(b:List Int)(er:List Int):Tr (DG):=(.need (oV at_ n f b
 er) (.ite (!decide (0≤at_∧0≤n∧at_+n≤(↑b.length:Int))) (.ret ([])) (.need (0≤at_∧at_≤i64.wrap (at_+n)∧i64.wrap
 (at_+n)≤(↑b.length:Int)) (.need ((List.take (i64.wrap (at_+n)-at_).toNat (List.drop at_.toNat b)).length≤70368744177664) (.ret
 (List.take (i64.wrap (at_+n)-at_).toNat (List.drop at_.toNat b)))))))
theorem M1(at_ n:Int)(f:Fl)(b er:List Int):aN Tryz.prog [(17,DE),(92,rK)] [] f69 ((n9).wr (at_,n,())) ((eP).wr (f,b,er,())) [.nt,.fr [.rd true u8],.fr [.sym],.syms,.auto,.aE]=(M0 at_ n f b er).end abn abo ((eP).wr (f,b,er,())):=by kernel_rfl
theorem VE(at_ n:Int)(f:Fl)(b er:List Int):aJ Tryz.prog ((eP).wr (f,b,er,())) [] (aD f69):=(aJ.nil _)
abbrev ti(b:List Int)(at_ n:Int):Prop:=0≤at_∧0≤n∧at_+n≤b.length
def b8(b:List Int)(at_ n:Int):List Int:=(b.drop at_.toNat).take n.toNat
def RI(b:List Int)(at_ n:Int):List Int:=if ti b at_ n then b8 b at_ n else []
theorem abp(b:List Int){p m k:Int}(h1:0≤p)(h2:0≤m)(h3:0≤k):b8 b p (m+k)=b8 b p m++b8 b (p+m) k:=by
 unfold b8;rw[show(m+k).toNat=m.toNat+k.toNat by omega,List.take_add,List.drop_drop,show(p+m).toNat=p.toNat+m.toNat by omega]
theorem iF{b:List Int}{p m:Int}(h:ti b p m):(b8 b p m).length=m:=by
 obtain⟨h1,h2,h3⟩:=h;unfold b8;rw[List.length_take,List.length_drop];omega
theorem ny{b:List Int}(h:ax b)(p n:Int):ax (b8 b p n):=(h.drop _).take _
theorem vG(b:List Int)(p:Int){m:Int}(h:m≤0):b8 b p m= []:=by
 unfold b8;rw[show m.toNat=0 by omega,List.take_zero]
abbrev zA(at_ n:Int)(f:Fl)(b er:List Int):Prop:=b.length<1099511627776
abbrev M3(at_ n:Int)(f:Fl)(b er:List Int):DG:=RI b at_ n
def abq:ao:=cd [] (n9) (eP) (fun x_ y_=>zA x_.1 x_.2.1 y_.1 y_.2.1 y_.2.2.1) (fun x_ y_=>M3 x_.1 x_.2.1 y_.1 y_.2.1 y_.2.2.1) abn abo
theorem abr(at_ n:Int)(f:Fl)(b er:List Int)(h_:zA at_ n f b er):(M0 at_ n f b er).Is (M3 at_ n f b er):=by
 delta M3;have h:b.length<1099511627776:=h_;simp only[M0,ai,aF,ak,decide_eq_true_eq,decide_eq_false_iff_not,RI,ti,b8];refine⟨h,fun c=>?_,fun c=>?_⟩
 ·have w:i64.wrap (at_+n)=at_+n:=ar (by omega) (by omega);rw[w,if_pos c,show(at_+n-at_).toNat=n.toNat by omega];exact⟨by omega,by rw[List.length_take,List.length_drop];omega,rfl⟩
 ·rw[if_neg c]
theorem abt:abq.Ok Tryz.prog 69:=
 br mixed ((aj zz (aj mP aw))) func69 (by kernel_rfl) call69 (fun x_ y_=>VE x_.1 x_.2.1 y_.1 y_.2.1 y_.2.2.1) (fun x_ y_=>M1 x_.1 x_.2.1 y_.1 y_.2.1 y_.2.2.1) (fun x_ y_ h=>abr x_.1 x_.2.1 y_.1 y_.2.1 y_.2.2.1 h)
def RJ(f:Int×Bool×Bool×Int):Int×Bool×Bool×Int:=f
abbrev DH:Type:=(List Int)×Int
abbrev abu(x:DH):LV:=LV.cG [VV.sc (SV.rd true false (Ty.int IntKind.u8) x.1),VV.sc (SV.int i64 (SI.sym x.2))]
abbrev abv(x:DH):List (Nat×Ev.Item):= []
def M4(at_:Int)(n:Int)(f:Int×Bool×Bool×Int)(b:List Int)(er:List Int):Tr (DH):=(.ite (f.snd.fst) (.ret
 ([],5)) (.need (oV at_ n (RJ f) b er) (.ite (!decide (0≤at_∧0≤n∧at_+n≤(↑b.length:Int))) (.ret ([],2)) (.need (zA at_ n
 (RJ f) b er) (.ret (RI b at_ n,0))))))
theorem M5(at_ n:Int)(f:Fl)(b er:List Int):aN Tryz.prog [(17,DE),(69,abq)] [] f39 ((n9).wr (at_,n,())) ((eP).wr (f,b,er,())) [.nt,.fr [.rd true u8],.fr [.sym],.syms,.auto,.aE]=(M4 at_ n f b er).end abu abv ((eP).wr (f,b,er,())):=by kernel_rfl
theorem VF(at_ n:Int)(f:Fl)(b er:List Int):aJ Tryz.prog ((eP).wr (f,b,er,())) [] (aD f39):=(aJ.nil _)
abbrev zB(at_ n:Int)(f:Fl)(b er:List Int):Prop:=b.length<1099511627776
abbrev M6(at_ n:Int)(f:Fl)(b er:List Int):DH:=(if f.2.1=true then([],5)else if ti b at_ n then(b8 b at_ n,0)else([],2))
def abw:ao:=cd [] (n9) (eP) (fun x_ y_=>zB x_.1 x_.2.1 y_.1 y_.2.1 y_.2.2.1) (fun x_ y_=>M6 x_.1 x_.2.1 y_.1 y_.2.1 y_.2.2.1) abu abv
theorem abx(at_ n:Int)(f:Fl)(b er:List Int)(h_:zB at_ n f b er):(M4 at_ n f b er).Is (M6 at_ n f b er):=by
 delta M6;have h:b.length<1099511627776:=h_;unfold M4;rw[aA];simp only[ai,aF,ak,decide_eq_true_eq,decide_eq_false_iff_not,RI,ti];refine⟨fun c0=>by rw[if_pos c0],fun c0=>⟨h,fun c=>⟨h,?_⟩,fun c=>?_⟩⟩
 ·rw[if_pos c,if_pos c,if_neg (by rw[c0];decide)]
 ·rw[if_neg c,if_neg (by rw[c0];decide)]
theorem aby:abw.Ok Tryz.prog 39:=
 br mixed ((aj zz (aj abt aw))) func39 (by kernel_rfl) call39 (fun x_ y_=>VF x_.1 x_.2.1 y_.1 y_.2.1 y_.2.2.1) (fun x_ y_=>M5 x_.1 x_.2.1 y_.1 y_.2.1 y_.2.2.1) (fun x_ y_ h=>abx x_.1 x_.2.1 y_.1 y_.2.1 y_.2.2.1 h)
def DI(at_:Int)(x:List Int):Int:=(↑x.length:Int)
abbrev RK:Type:=Int×(List Int)
abbrev ar6(x:RK):LV:=LV.one (VV.sc (SV.int i64 (SI.sym x.1)))
abbrev ar7(x:RK):List (Nat×Ev.Item):= [(1,Item.own 0 (Ty.int IntKind.u8) x.2)]
def abz(at_:Int)(x:List Int)(f:Int×Bool×Bool×Int)(b:List Int)(er:List Int):Tr (RK):=(.need (oV at_
 (DI at_ x) f b er) (.ite (!decide (0≤at_∧0≤DI at_ x∧at_+DI at_ x≤(↑b.length:Int))) (.ret (2,b)) (.need (0≤at_∧at_≤
 (↑b.length:Int)∧(↑b.length:Int)≤(↑b.length:Int)) (.ret (0,gq b at_.toNat ((↑b.length:Int)-at_).toNat x)))))
theorem VG(at_:Int)(x:List Int)(f:Fl)(b er:List Int):aN Tryz.prog [(17,DE)] [] f7 (((aq (ah (aU 0 0)) (ag (ah (aC .i64)) (ag (ah (fR false false u8)) ae)))).wr (at_,x,())) ((eP).wr (f,b,er,())) [.fr [.sym],.syms,.auto,.aE]=(abz at_ x f b er).end ar6 ar7 ((eP).wr (f,b,er,())):=by kernel_rfl
theorem abA(at_:Int)(x:List Int)(f:Fl)(b er:List Int):aJ Tryz.prog ((eP).wr (f,b,er,())) [] (aD f7):=(aJ.nil _)
def nz(b:List Int)(at_:Int)(x:List Int):List Int:=b.take at_.toNat++(x++b.drop (at_.toNat+x.length))
abbrev xF(at_:Int)(x:List Int)(f:Fl)(b er:List Int):Prop:=b.length<1099511627776∧x.length<1099511627776
abbrev abB(at_:Int)(x:List Int)(f:Fl)(b er:List Int):RK:=(if ti b at_ x.length then(0,nz b at_ x)else(2,b))
def ar8:ao:=cd [none,none,some u8] ((aq (ah (aU 0 0)) (ag (ah (aC .i64)) (ag (ah (fR false false u8)) ae)))) (eP) (fun x_ y_=>xF x_.1 x_.2.1 y_.1 y_.2.1 y_.2.2.1) (fun x_ y_=>abB x_.1 x_.2.1 y_.1 y_.2.1 y_.2.2.1) ar6 ar7
theorem amL(at_:Int)(x:List Int)(f:Fl)(b er:List Int)(h_:xF at_ x f b er):(abz at_ x f b er).Is (abB at_ x f b er):=by
 delta abB;obtain⟨h1,h2⟩:=h_;have e0:DI at_ x=x.length:=rfl;simp only[abz,ai,aF,ak,e0,decide_eq_true_eq,decide_eq_false_iff_not,ti];refine⟨h1,fun c=>⟨by omega,?_⟩,fun c=>?_⟩
 ·rw[if_pos c];unfold gq nz;rw[List.take_of_length_le (l:=x) (by omega),Nat.min_eq_right (by omega)]
 ·rw[if_neg c]
theorem amM:ar8.Ok Tryz.prog 7:=
 br mixed ((aj zz aw)) func7 (by kernel_rfl) call7 (fun x_ y_=>abA x_.1 x_.2.1 y_.1 y_.2.1 y_.2.2.1) (fun x_ y_=>VG x_.1 x_.2.1 y_.1 y_.2.1 y_.2.2.1) (fun x_ y_ h=>amL x_.1 x_.2.1 y_.1 y_.2.1 y_.2.2.1 h)
abbrev cRg:aY (List SV) (Int×Int):=(aq (aU 0 0) (ag (aC .i64) (ag (aC .i64) ae))).kB (fun x=>(x.1,x.2.1)) (fun y=>(y.1,y.2,())) (fun _=>rfl)
abbrev xG:Type:=Bool
abbrev RL(x:xG):LV:=LV.one (VV.sc (SV.bool (SB.sym x)))
abbrev RM(x:xG):List (Nat×Ev.Item):= []
def DJ(first:Int)(count:Int)(n:Int):Tr (xG):=(.ite (decide (1≤count)==true) (.ite (decide (0≤first)==true)
 (.ite (decide (first≤n)==true) (.ret (decide (count≤i64.wrap (n-first)))) (.ret (false))) (.ret (false))) (.ret (false)))
theorem Ia(first count n:Int):aN Tryz.prog [] [] f66 (((ag (ah (aC .i64)) (ag (ah (aC .i64)) (ag (ah (aC .i64)) ae)))).wr (first,count,n,())) ((ae).wr (())) [.fr [.sym],.syms,.auto,.aE]=(DJ first count n).end RL RM ((ae).wr (())):=by kernel_rfl
theorem M7(first count n:Int):aJ Tryz.prog ((ae).wr (())) [] (aD f66):=(aJ.nil _)
abbrev vH(first count n:Int):Prop:=0≤n∧n<1099511627776
abbrev DK(first count n:Int):xG:=decide (1≤count∧0≤first∧first+count≤n)
def RN:ao:=cd [] ((ag (ah (aC .i64)) (ag (ah (aC .i64)) (ag (ah (aC .i64)) ae)))) (ae) (fun x_ y_=>vH x_.1 x_.2.1 x_.2.2.1) (fun x_ y_=>DK x_.1 x_.2.1 x_.2.2.1) RL RM
theorem VH(first count n:Int)(h_:vH first count n):(DJ first count n).Is (DK first count n):=by
 delta DK;obtain⟨h1,h2⟩:=h_;simp only[DJ,ai,aH,aS,bb,aP,ay,aG,aT,aM,aQ,bl,bf,aK,aF,ak]
 try simp only[aA,ai,aH,aS,bb,aP,ay,aG,aT,aM,aQ,bl,bf,aK,aF,ak]
 grind [ar]
theorem VI:RN.Ok Tryz.prog 66:=
 br mixed aw func66 (by kernel_rfl) call66 (fun x_ y_=>M7 x_.1 x_.2.1 x_.2.2.1) (fun x_ y_=>Ia x_.1 x_.2.1 x_.2.2.1) (fun x_ y_ h=>VH x_.1 x_.2.1 x_.2.2.1 h)
abbrev jZ(b er:List Int):Prop:=b.length=1024*er.length∧1≤er.length∧er.length≤256
abbrev xl(r:Int×Int)(er:List Int):Prop:=0≤r.1∧1≤r.2∧r.1+r.2≤er.length
abbrev DL:Type:=Unit
abbrev abC(x:DL):LV:=LV.cG [VV.agg [SV.fO (Value.pointer none),SV.int i64 (SI.lit 0),SV.int i64 (SI.lit
 0)],VV.sc (SV.int i64 (SI.lit 1))]
abbrev abD(x:DL):List (Nat×Ev.Item):= []
abbrev DM:Type:=Int×Int
abbrev abE(x:DM):LV:=LV.cG [VV.agg [SV.ptr 0 0,SV.int i64 (SI.sym x.1),SV.int i64 (SI.sym x.2)],VV.sc
 (SV.int i64 (SI.lit 0))]
abbrev abF(x:DM):List (Nat×Ev.Item):= []
def RO(first:Int)(count:Int)(f:Int×Bool×Bool×Int)(b:List Int)(er:List Int):Tr (DL⊕DM):=(.need
 (th f b er) (.need (vH first count (i64.wrap (Int.tdiv (↑b.length:rM) 1024))) (.ite (!decide (1≤count∧0≤first∧first
 +count≤i64.wrap (Int.tdiv (↑b.length:rM) 1024))) (.ret (.inl ())) (.ret (.inr (first,count))))))
theorem VJ(first count:Int)(f:Fl)(b er:List Int):aN Tryz.prog [(65,MW),(66,RN)] [] f37 ((n9).wr (first,count,())) ((eP).wr (f,b,er,())) [.auto,.aE]=(RO first count f b er).end (Sum.elim abC abE) (Sum.elim abD abF) ((eP).wr (f,b,er,())):=by kernel_rfl
theorem abG(first count:Int)(f:Fl)(b er:List Int):aJ Tryz.prog ((eP).wr (f,b,er,())) [] (aD f37):=(aJ.nil _)
abbrev nA(first count:Int)(f:Fl)(b er:List Int):Prop:=jZ b er
abbrev RP(first count:Int)(f:Fl)(b er:List Int):Bool:= !decide (1≤count∧0≤first∧first+count≤er.length)
abbrev abH(first count:Int)(f:Fl)(b er:List Int):DL:=()
abbrev abI(first count:Int)(f:Fl)(b er:List Int):DM:=(first,count)
def abJ:ao:=BX [] (n9) (eP) (fun x_ y_=>nA x_.1 x_.2.1 y_.1 y_.2.1 y_.2.2.1) (fun x_ y_=>RP x_.1 x_.2.1 y_.1 y_.2.1 y_.2.2.1) (fun x_ y_=>abH x_.1 x_.2.1 y_.1 y_.2.1 y_.2.2.1) (fun x_ y_=>abI x_.1 x_.2.1 y_.1 y_.2.1 y_.2.2.1) abC abD abE abF
theorem amN(first count:Int)(f:Fl)(b er:List Int)(h_:nA first count f b er):(RP first count f b er=true→(RO first count f b er).Is (.inl (abH first count f b er)))∧(RP first count f b er=false→(RO first count f b er).Is (.inr (abI first count f b er))):=by
 delta RP abH abI;obtain⟨h1,h2,h3⟩:=h_;have w:i64.wrap (Int.tdiv (b.length:Int) 1024)=er.length:=by rw[Int.tdiv_eq_ediv_of_nonneg (by omega),ar (by omega) (by omega)];omega
 simp only[RO,ai,aH,aS,bb,aP,ay,aG,aT,aM,aQ,bl,bf,aK,aF,ak]
 try simp only[aA,ai,aH,aS,bb,aP,ay,aG,aT,aM,aQ,bl,bf,aK,aF,ak]
 grind [ar]
theorem RQ:abJ.Ok Tryz.prog 37:=
 zw mixed ((aj H9 (aj VI aw))) func37 (by kernel_rfl) call37 (fun x_ y_=>abG x_.1 x_.2.1 y_.1 y_.2.1 y_.2.2.1) (fun x_ y_=>VJ x_.1 x_.2.1 y_.1 y_.2.1 y_.2.2.1) (fun x_ y_ h=>amN x_.1 x_.2.1 y_.1 y_.2.1 y_.2.2.1 h)
abbrev G7:aY (List LV) ((Int×Int)×Unit):=ag (iD cRg) ae
abbrev xH:Type:=Int
abbrev RR(x:xH):LV:=LV.one (VV.sc (SV.int i64 (SI.sym x)))
abbrev RS(x:xH):List (Nat×Ev.Item):= []
def DN(r:Int×Int)(f:Int×Bool×Bool×Int)(b:List Int)(er:List Int):Tr (xH):=(.ret (i64.wrap (r.snd
 *1024)))
theorem Ib(r:Int×Int)(f:Fl)(b er:List Int):aN Tryz.prog [] [] f68 ((G7).wr (r,())) ((eP).wr (f,b,er,())) [.fr [.sym],.syms,.auto,.aE]=(DN r f b er).end RR RS ((eP).wr (f,b,er,())):=by kernel_rfl
theorem M8(r:Int×Int)(f:Fl)(b er:List Int):aJ Tryz.prog ((eP).wr (f,b,er,())) [] (aD f68):=(aJ.nil _)
abbrev xI:Type:=Int
abbrev RT(x:xI):LV:=LV.one (VV.sc (SV.int i64 (SI.sym x)))
abbrev RU(x:xI):List (Nat×Ev.Item):= []
def DO(r:Int×Int)(f:Int×Bool×Bool×Int)(b:List Int)(er:List Int):Tr (xI):=(.ret (i64.wrap (r.fst
 *1024)))
theorem Ic(r:Int×Int)(f:Fl)(b er:List Int):aN Tryz.prog [] [] f40 ((G7).wr (r,())) ((eP).wr (f,b,er,())) [.fr [.sym],.syms,.auto,.aE]=(DO r f b er).end RT RU ((eP).wr (f,b,er,())):=by kernel_rfl
theorem M9(r:Int×Int)(f:Fl)(b er:List Int):aJ Tryz.prog ((eP).wr (f,b,er,())) [] (aD f40):=(aJ.nil _)
abbrev kQ(r:Int×Int)(f:Fl)(b er:List Int):Prop:=0≤r.2∧r.2≤256
abbrev DP(r:Int×Int)(f:Fl)(b er:List Int):xH:=1024*r.2
def DQ:ao:=cd [] (G7) (eP) (fun x_ y_=>kQ x_.1 y_.1 y_.2.1 y_.2.2.1) (fun x_ y_=>DP x_.1 y_.1 y_.2.1 y_.2.2.1) RR RS
theorem VK(r:Int×Int)(f:Fl)(b er:List Int)(h_:kQ r f b er):(DN r f b er).Is (DP r f b er):=by
 delta DP;obtain⟨h1,h2⟩:=h_;simp only[DN,ak];rw[ar (by omega) (by omega),Int.mul_comm]
theorem BY:DQ.Ok Tryz.prog 68:=
 br mixed aw func68 (by kernel_rfl) call68 (fun x_ y_=>M8 x_.1 y_.1 y_.2.1 y_.2.2.1) (fun x_ y_=>Ib x_.1 y_.1 y_.2.1 y_.2.2.1) (fun x_ y_ h=>VK x_.1 y_.1 y_.2.1 y_.2.2.1 h)
abbrev vI(r:Int×Int)(f:Fl)(b er:List Int):Prop:=0≤r.1∧r.1≤256
abbrev DR(r:Int×Int)(f:Fl)(b er:List Int):xI:=1024*r.1
def RV:ao:=cd [] (G7) (eP) (fun x_ y_=>vI x_.1 y_.1 y_.2.1 y_.2.2.1) (fun x_ y_=>DR x_.1 y_.1 y_.2.1 y_.2.2.1) RT RU
theorem VL(r:Int×Int)(f:Fl)(b er:List Int)(h_:vI r f b er):(DO r f b er).Is (DR r f b er):=by
 delta DR;obtain⟨h1,h2⟩:=h_;simp only[DO,ak];rw[ar (by omega) (by omega),Int.mul_comm]
theorem VM:RV.Ok Tryz.prog 40:=
 br mixed aw func40 (by kernel_rfl) call40 (fun x_ y_=>M9 x_.1 y_.1 y_.2.1 y_.2.2.1) (fun x_ y_=>Ic x_.1 y_.1 y_.2.1 y_.2.2.1) (fun x_ y_ h=>VL x_.1 y_.1 y_.2.1 y_.2.2.1 h)
abbrev VN:aY (List LV) ((Int×Int)×Int×Int×Unit):=ag (iD cRg) (ag (ah (aC .i64)) (ag (ah (aC .i64)) ae))
abbrev inR(r:Int×Int)(at_ n:Int):Prop:=0≤at_∧0≤n∧at_+n≤1024*r.2
def xJ(f:Int×Bool×Bool×Int):Int×Bool×Bool×Int:=f
abbrev DS:Type:=Int
abbrev abK(x:DS):LV:=LV.one (VV.sc (SV.int i64 (SI.sym x)))
abbrev abL(x:DS):List (Nat×Ev.Item):= []
def Na(r:Int×Int)(at_:Int)(n:Int)(f:Int×Bool×Bool×Int)(b:List Int)(er:List Int):Tr (DS):=(.need
 (DF (xJ f) b er) (.ite (f.snd.fst) (.ret (5)) (.ite (decide (at_<0)==false) (.ite (decide (n<0)==false) (.need (kQ r (xJ
 f) b er) (.ite (decide (1024*r.snd<at_)==false) (.need (kQ r (xJ f) b er) (.ite (decide (i64.wrap (1024*r.snd-at_)<n)
 ==false) (.ret (0)) (.ret (2)))) (.ret (2)))) (.ret (2))) (.ret (2)))))
theorem Nb(r:Int×Int)(at_ n:Int)(f:Fl)(b er:List Int):aN Tryz.prog [(67,ar5),(68,DQ)] [] f38 ((VN).wr (r,at_,n,())) ((eP).wr (f,b,er,())) [.fr [.sym],.syms,.auto,.aE]=(Na r at_ n f b er).end abK abL ((eP).wr (f,b,er,())):=by kernel_rfl
theorem VO(r:Int×Int)(at_ n:Int)(f:Fl)(b er:List Int):aJ Tryz.prog ((eP).wr (f,b,er,())) [] (aD f38):=(aJ.nil _)
abbrev zC(r:Int×Int)(at_ n:Int)(f:Fl)(b er:List Int):Prop:=0≤r.2∧r.2≤256
abbrev Nc(r:Int×Int)(at_ n:Int)(f:Fl)(b er:List Int):DS:=(if f.2.1=true then 5 else if inR r at_ n then 0 else 2)
def abM:ao:=cd [] (VN) (eP) (fun x_ y_=>zC x_.1 x_.2.1 x_.2.2.1 y_.1 y_.2.1 y_.2.2.1) (fun x_ y_=>Nc x_.1 x_.2.1 x_.2.2.1 y_.1 y_.2.1 y_.2.2.1) abK abL
theorem abN(r:Int×Int)(at_ n:Int)(f:Fl)(b er:List Int)(h_:zC r at_ n f b er):(Na r at_ n f b er).Is (Nc r at_ n f b er):=by
 delta Nc;obtain⟨h1,h2⟩:=h_;simp only[Na,xJ,ai,aH,aS,bb,aP,ay,aG,aT,aM,aQ,bl,bf,aK,aF,ak]
 try simp only[aA,ai,aH,aS,bb,aP,ay,aG,aT,aM,aQ,bl,bf,aK,aF,ak]
 grind [ar]
theorem abO:abM.Ok Tryz.prog 38:=
 br mixed ((aj amK (aj BY aw))) func38 (by kernel_rfl) call38 (fun x_ y_=>VO x_.1 x_.2.1 x_.2.2.1 y_.1 y_.2.1 y_.2.2.1) (fun x_ y_=>Nb x_.1 x_.2.1 x_.2.2.1 y_.1 y_.2.1 y_.2.2.1) (fun x_ y_ h=>abN x_.1 x_.2.1 x_.2.2.1 y_.1 y_.2.1 y_.2.2.1 h)
def tj(f:Int×Bool×Bool×Int):Int×Bool×Bool×Int:=f
def zD(r:Int×Int)(at_:Int)(n:Int)(f:Int×Bool×Bool×Int)(b:List Int)(er:List Int):Int:=if f.snd.fst=
 true then 5 else if 0≤at_∧0≤n∧at_+n≤1024*r.snd then 0 else 2
def zE(r:Int×Int)(at_:Int)(n:Int)(f:Int×Bool×Bool×Int)(b:List Int)(er:List Int):List Int×Int:=if
 f.snd.fst=true then([],5)else if 0≤i64.wrap (1024*r.fst+at_)∧0≤n∧i64.wrap (1024*r.fst+at_)+n≤(↑b.length:Int)
 then(b8 b (i64.wrap (1024*r.fst+at_)) n,0)else([],2)
abbrev xK:Type:=(List Int)×Int
abbrev RW(x:xK):LV:=LV.cG [VV.sc (SV.rd true false (Ty.int IntKind.u8) x.1),VV.sc (SV.int i64 (SI.sym x.2))]
abbrev RX(x:xK):List (Nat×Ev.Item):= []
def DT(r:Int×Int)(at_:Int)(n:Int)(f:Int×Bool×Bool×Int)(b:List Int)(er:List Int):Tr (xK):=(.need
 (zC r at_ n (tj f) b er) (.ite (zD r at_ n f b er !=0) (.ret ([],zD r at_ n f b er)) (.need (vI r (tj f) b er)
 (.need (zB (i64.wrap (1024*r.fst+at_)) n (tj f) b er) (.ret ((zE r at_ n f b er).fst,(zE r at_ n f b er).snd))))))
theorem Ie(r:Int×Int)(at_ n:Int)(f:Fl)(b er:List Int):aN Tryz.prog [(38,abM),(40,RV),(39,abw)] [] f21 ((VN).wr (r,at_,n,())) ((eP).wr (f,b,er,())) [.nt,.fr [.rd true u8],.fr [.sym],.syms,.auto,.aE]=(DT r at_ n f b er).end RW RX ((eP).wr (f,b,er,())):=by kernel_rfl
theorem Nd(r:Int×Int)(at_ n:Int)(f:Fl)(b er:List Int):aJ Tryz.prog ((eP).wr (f,b,er,())) [] (aD f21):=(aJ.nil _)
abbrev ik(r:Int×Int)(at_ n:Int)(f:Fl)(b er:List Int):Prop:=jZ b er∧xl r er
abbrev DU(r:Int×Int)(at_ n:Int)(f:Fl)(b er:List Int):xK:=(if f.2.1=true then([],5)else if inR r at_ n then(b8 b (1024*r.1+at_) n,0)else([],2))
def tk:ao:=cd [] (VN) (eP) (fun x_ y_=>ik x_.1 x_.2.1 x_.2.2.1 y_.1 y_.2.1 y_.2.2.1) (fun x_ y_=>DU x_.1 x_.2.1 x_.2.2.1 y_.1 y_.2.1 y_.2.2.1) RW RX
theorem VP(r:Int×Int)(at_ n:Int)(f:Fl)(b er:List Int)(h_:ik r at_ n f b er):(DT r at_ n f b er).Is (DU r at_ n f b er):=by
 delta DU;obtain⟨⟨h1,h2,h3⟩,h4,h5,h6⟩:=h_;simp only[DT,tj,zD,zE,ai,aH,aS,bb,aP,ay,aG,aT,aM,aQ,bl,bf,aK,aF,ak]
 try simp only[aA,ai,aH,aS,bb,aP,ay,aG,aT,aM,aQ,bl,bf,aK,aF,ak]
 grind [ar]
theorem p9:tk.Ok Tryz.prog 21:=
 br mixed ((aj abO (aj VM (aj aby aw)))) func21 (by kernel_rfl) call21 (fun x_ y_=>Nd x_.1 x_.2.1 x_.2.2.1 y_.1 y_.2.1 y_.2.2.1) (fun x_ y_=>Ie x_.1 x_.2.1 x_.2.2.1 y_.1 y_.2.1 y_.2.2.1) (fun x_ y_ h=>VP x_.1 x_.2.1 x_.2.2.1 y_.1 y_.2.1 y_.2.2.1 h)
abbrev ZZ:aY (List SV) (List (List Int)×Int):=(ag (fR false false (.arr u8 32)) (ag (aC .i64) ae)).kB (fun x=>(x.1,x.2.1)) (fun y=>(y.1,y.2,())) (fun _=>rfl)
abbrev cfA:aY (List LV) ((List (List Int)×Int)×Unit):=ag (iD ZZ) ae
abbrev Bf:aY (List LV) ((List (List Int)×Int)×Unit):=aq (ah (aU 0 0)) (ag (iD ZZ) ae)
abbrev RY:aY (List LV) ((List (List Int)×Int)×Int×Unit):=aq (ah (aU 0 0)) (ag (iD ZZ) (ag (ah (aC .i64)) ae))
abbrev DV(c:List (List Int)×Int):Prop:=1≤c.1.length∧c.1.length≤8∧3≤c.2∧c.2≤100
def bo(c:List (List Int)×Int):Int:=if DV c then 1024*(c.2-2)else 0
abbrev rb(c:List (List Int)×Int)(er:List Int):Prop:=DV c∧2+2*c.2≤er.length
def zF(c:List (List Int)×Int):Int:=(↑c.fst.length:Int)
abbrev xL:Type:=Bool
abbrev RZ(x:xL):LV:=LV.one (VV.sc (SV.bool (SB.sym x)))
abbrev R5(x:xL):List (Nat×Ev.Item):= []
def DW(c:List (List Int)×Int):Tr (xL):=(.ite (decide (1≤zF c)==true) (.ite (decide (zF c≤8)==true)
 (.ite (decide (3≤c.snd)==true) (.ret (decide (c.snd≤100))) (.ret (false))) (.ret (false))) (.ret (false)))
theorem Ig(c:List (List Int)×Int):aN Tryz.prog [] [] f64 ((cfA).wr (c,())) ((ae).wr (())) [.fr [.sym],.syms,.auto,.aE]=(DW c).end RZ R5 ((ae).wr (())):=by kernel_rfl
theorem Nf(c:List (List Int)×Int):aJ Tryz.prog ((ae).wr (())) [] (aD f64):=(aJ.nil _)
abbrev qa(c:List (List Int)×Int):Prop:=True
abbrev DX(c:List (List Int)×Int):xL:=decide (DV c)
def DY:ao:=cd [some (.arr u8 32)] (cfA) (ae) (fun x_ y_=>qa x_.1) (fun x_ y_=>DX x_.1) RZ R5
theorem VQ(c:List (List Int)×Int)(h_:qa c):(DW c).Is (DX c):=by
 delta DX;simp only[DW,zF,ai,aH,aS,bb,aP,ay,aG,aT,aM,aQ,bl,bf,aK,aF,ak]
 try simp only[aA,ai,aH,aS,bb,aP,ay,aG,aT,aM,aQ,bl,bf,aK,aF,ak]
 grind [ar]
theorem BZ:DY.Ok Tryz.prog 64:=
 br mixed aw func64 (by kernel_rfl) call64 (fun x_ y_=>Nf x_.1) (fun x_ y_=>Ig x_.1) (fun x_ y_ h=>VQ x_.1 h)
abbrev DZ:Type:=Int
abbrev abP(x:DZ):LV:=LV.one (VV.sc (SV.int i64 (SI.sym x)))
abbrev abQ(x:DZ):List (Nat×Ev.Item):= []
def Ng(c:List (List Int)×Int):Tr (DZ):=(.need (qa c) (.ite (!decide (1≤c.fst.length∧c.fst.length≤8∧3≤
 c.snd∧c.snd≤100)) (.ret (0)) (.ret (i64.wrap (i64.wrap (c.snd-2)*1024)))))
theorem Nh(c:List (List Int)×Int):aN Tryz.prog [(64,DY)] [] f42 ((cfA).wr (c,())) ((ae).wr (())) [.fr [.sym],.syms,.auto,.aE]=(Ng c).end abP abQ ((ae).wr (())):=by kernel_rfl
theorem VR(c:List (List Int)×Int):aJ Tryz.prog ((ae).wr (())) [] (aD f42):=(aJ.nil _)
abbrev zG(c:List (List Int)×Int):Prop:=True
abbrev Ni(c:List (List Int)×Int):DZ:=bo c
def abR:ao:=cd [some (.arr u8 32)] (cfA) (ae) (fun x_ y_=>zG x_.1) (fun x_ y_=>Ni x_.1) abP abQ
theorem abS(c:List (List Int)×Int)(h_:zG c):(Ng c).Is (Ni c):=by
 delta Ni;simp only[Ng,bo,ai,aH,aS,bb,aP,ay,aG,aT,aM,aQ,bl,bf,aK,aF,ak]
 try simp only[aA,ai,aH,aS,bb,aP,ay,aG,aT,aM,aQ,bl,bf,aK,aF,ak]
 grind [ar]
theorem abT:abR.Ok Tryz.prog 42:=
 br mixed ((aj BZ aw)) func42 (by kernel_rfl) call42 (fun x_ y_=>VR x_.1) (fun x_ y_=>Nh x_.1) (fun x_ y_ h=>abS x_.1 h)
abbrev D0:Type:=Bool
abbrev abU(x:D0):LV:=LV.one (VV.sc (SV.bool (SB.sym x)))
abbrev abV(x:D0):List (Nat×Ev.Item):= []
def Nj(c:List (List Int)×Int)(f:Int×Bool×Bool×Int)(b:List Int)(er:List Int):Tr (D0):=(.need (qa c)
 (.ite (decide (1≤c.fst.length∧c.fst.length≤8∧3≤c.snd∧c.snd≤100)==true) (.need (th f b er) (.ret (decide (i64.wrap (2+
 i64.wrap (2*c.snd))≤i64.wrap (Int.tdiv (↑b.length:rM) 1024))))) (.ret (false))))
theorem Nk(c:List (List Int)×Int)(f:Fl)(b er:List Int):aN Tryz.prog [(64,DY),(65,MW)] [] f36 ((Bf).wr (c,())) ((eP).wr (f,b,er,())) [.fr [.sym],.syms,.auto,.aE]=(Nj c f b er).end abU abV ((eP).wr (f,b,er,())):=by kernel_rfl
theorem VS(c:List (List Int)×Int)(f:Fl)(b er:List Int):aJ Tryz.prog ((eP).wr (f,b,er,())) [] (aD f36):=(aJ.nil _)
abbrev zH(c:List (List Int)×Int)(f:Fl)(b er:List Int):Prop:=jZ b er
abbrev Nl(c:List (List Int)×Int)(f:Fl)(b er:List Int):D0:=decide (rb c er)
def abW:ao:=cd [none,some (.arr u8 32)] (Bf) (eP) (fun x_ y_=>zH x_.1 y_.1 y_.2.1 y_.2.2.1) (fun x_ y_=>Nl x_.1 y_.1 y_.2.1 y_.2.2.1) abU abV
theorem abX(c:List (List Int)×Int)(f:Fl)(b er:List Int)(h_:zH c f b er):(Nj c f b er).Is (Nl c f b er):=by
 delta Nl;obtain⟨h1,h2,h3⟩:=h_;simp only[Nj,ai,aH,aS,bb,aP,ay,aG,aT,aM,aQ,bl,bf,aK,aF,ak]
 try simp only[aA,ai,aH,aS,bb,aP,ay,aG,aT,aM,aQ,bl,bf,aK,aF,ak]
 grind [ar]
theorem abY:abW.Ok Tryz.prog 36:=
 br mixed ((aj BZ (aj H9 aw))) func36 (by kernel_rfl) call36 (fun x_ y_=>VS x_.1 y_.1 y_.2.1 y_.2.2.1) (fun x_ y_=>Nk x_.1 y_.1 y_.2.1 y_.2.2.1) (fun x_ y_ h=>abX x_.1 y_.1 y_.2.1 y_.2.2.1 h)
def qb(f:Int×Bool×Bool×Int):Int×Bool×Bool×Int:=f
abbrev xM:Type:=Unit
abbrev R6(x:xM):LV:=LV.cG [VV.agg [SV.fO (Value.pointer none),SV.int i64 (SI.lit 0),SV.int i64
 (SI.lit 0)],VV.sc (SV.int i64 (SI.lit 1))]
abbrev R7(x:xM):List (Nat×Ev.Item):= []
abbrev xN:Type:=Int×Int
abbrev R8(x:xN):LV:=LV.cG [VV.agg [SV.ptr 0 0,SV.int i64 (SI.sym x.1),SV.int i64 (SI.sym x.2)],VV.sc
 (SV.int i64 (SI.lit 0))]
abbrev R9(x:xN):List (Nat×Ev.Item):= []
def vJ(c:List (List Int)×Int)(slot:Int)(f:Int×Bool×Bool×Int)(b:List Int)(er:List Int):Tr (xM⊕xN)
 :=(.need (zH c (qb f) b er) (.ite ((!decide ((1≤c.fst.length∧c.fst.length≤8∧3≤c.snd∧c.snd≤100)∧(2:Int)+2*c.snd≤
 (↑er.length:Int)))==false) (.ite (decide (slot<0)==false) (.ite (decide (2≤slot)) (.ret (.inl ())) (.ite (!decide (1≤c.snd∧0≤
 i64.wrap (2+i64.wrap (slot*c.snd))∧i64.wrap (2+i64.wrap (slot*c.snd))+c.snd≤(↑er.length:Int))) (.need
 (nA (i64.wrap (2+i64.wrap (slot*c.snd))) c.snd (qb f) b er) (.ret (.inl ()))) (.need (nA (i64.wrap (2+
 i64.wrap (slot*c.snd))) c.snd (qb f) b er) (.ret (.inr (i64.wrap (2+i64.wrap (slot*c.snd)),c.snd)))))) (.ret (.inl
 ()))) (.ret (.inl ()))))
theorem Nm(c:List (List Int)×Int)(slot:Int)(f:Fl)(b er:List Int):aN Tryz.prog [(36,abW),(37,abJ)] [] f20 ((RY).wr (c,slot,())) ((eP).wr (f,b,er,())) [.auto,.aE]=(vJ c slot f b er).end (Sum.elim R6 R8) (Sum.elim R7 R9) ((eP).wr (f,b,er,())):=by kernel_rfl
theorem VT(c:List (List Int)×Int)(slot:Int)(f:Fl)(b er:List Int):aJ Tryz.prog ((eP).wr (f,b,er,())) [] (aD f20):=(aJ.nil _)
abbrev kZ(c:List (List Int)×Int)(slot:Int)(f:Fl)(b er:List Int):Prop:=jZ b er
abbrev D1(c:List (List Int)×Int)(slot:Int)(f:Fl)(b er:List Int):Bool:= !decide (rb c er∧0≤slot∧slot<2)
abbrev Nn(c:List (List Int)×Int)(slot:Int)(f:Fl)(b er:List Int):xM:=()
abbrev No(c:List (List Int)×Int)(slot:Int)(f:Fl)(b er:List Int):xN:=(2+slot*c.2,c.2)
def Np:ao:=BX [none,some (.arr u8 32),none] (RY) (eP) (fun x_ y_=>kZ x_.1 x_.2.1 y_.1 y_.2.1 y_.2.2.1) (fun x_ y_=>D1 x_.1 x_.2.1 y_.1 y_.2.1 y_.2.2.1) (fun x_ y_=>Nn x_.1 x_.2.1 y_.1 y_.2.1 y_.2.2.1) (fun x_ y_=>No x_.1 x_.2.1 y_.1 y_.2.1 y_.2.2.1) R6 R7 R8 R9
theorem abZ(c:List (List Int)×Int)(slot:Int)(f:Fl)(b er:List Int)(h_:kZ c slot f b er):(D1 c slot f b er=true→(vJ c slot f b er).Is (.inl (Nn c slot f b er)))∧(D1 c slot f b er=false→(vJ c slot f b er).Is (.inr (No c slot f b er))):=by
 delta D1 Nn No;obtain⟨h1,h2,h3⟩:=h_
 by_cases s0:slot=0
 ·subst s0;simp only[vJ,qb,ai,aH,aS,bb,aP,ay,aG,aT,aM,aQ,bl,bf,aK,aF,ak]
  try simp only[aA,ai,aH,aS,bb,aP,ay,aG,aT,aM,aQ,bl,bf,aK,aF,ak]
  grind [ar]
 ·by_cases s1:slot=1
  ·subst s1;simp only[vJ,qb,ai,aH,aS,bb,aP,ay,aG,aT,aM,aQ,bl,bf,aK,aF,ak]
   try simp only[aA,ai,aH,aS,bb,aP,ay,aG,aT,aM,aQ,bl,bf,aK,aF,ak]
   grind [ar]
  ·have hq:¬ (rb c er∧0≤slot∧slot<2):=(by omega);rw[decide_eq_false hq];refine⟨fun _=>?_,fun h=>by cases h⟩;clear hq;simp only[vJ,qb,ai,aH,aS,bb,aP,ay,aG,aT,aM,aQ,bl,bf,aK,aF,ak]
   try simp only[aA,ai,aH,aS,bb,aP,ay,aG,aT,aM,aQ,bl,bf,aK,aF,ak]
   grind [ar]
theorem Ih:Np.Ok Tryz.prog 20:=
 zw mixed ((aj abY (aj RQ aw))) func20 (by kernel_rfl) call20 (fun x_ y_=>VT x_.1 x_.2.1 y_.1 y_.2.1 y_.2.2.1) (fun x_ y_=>Nm x_.1 x_.2.1 y_.1 y_.2.1 y_.2.2.1) (fun x_ y_ h=>abZ x_.1 x_.2.1 y_.1 y_.2.1 y_.2.2.1 h)
end Go.Proofs.YtcbjpiangpjbgaaGreat
end
noncomputable section
namespace Go.Proofs.YtcbjpiangpjbgaaGreat
open Go Go.Ev Go.ChangeShapes Go.WideShapes Go.ChangeAt Go.RowKit Go.Proofs.Tryz
open Go.IntKind (i64 signed u32 u64 wrap wrap_u32)
set_option maxRecDepth 100000
theorem ab0{H:Type}{enc:TypeId×Value→H}{W:World}{base:Nat}{v:Value}{d:DataW H}{p:List MemPlace}
  (kW:Value.okWide Tryz.prog W .any base 24 v) (h:DataW.Trod enc Tryz.prog W 0 (fun _=>true) true 24 v d p):
  ∃m:List (List Int)×Int,(∀k:Nat,k<m.1.length→(m.1.getD k (List.replicate 32 0)).length=32∧ax (m.1.getD k (List.replicate 32 0)))∧(LV.one (.agg (ZZ.wr m))).den (HY W) (kd []) v:=by
 unfold Value.okWide at kW;rw[underlying24]at kW;obtain⟨cs,rfl,_,_⟩:=kW;obtain⟨fuel,h⟩:=h;simp only[Value.cells]at h;obtain⟨xs,m,_,_,hl,hlen,hf⟩:=DataW.trod_struct underlying24 h;obtain⟨cs⟩:=cs;have c2:Tryz.prog.cellsOf 24=2:=by kernel_rfl
 have c1:Tryz.prog.cellsOf 3=1:=by kernel_rfl
 have c3:Tryz.prog.cellsOf 22=1:=by kernel_rfl
 have f1:w5 Tryz.prog 10 3=some [.int .i64]:=by kernel_rfl
 simp only at hl hlen hf;have hn:cs.length=2:=by rw[← c2];first|exact hl|exact hlen|omega
 have hx:xs.length=2:=by first|exact hl|exact hlen|omega
 match cs,hn with
 | [a,b],_=>
  have g0:=hf 0 _ rfl;have g1:=hf 1 _ rfl;rw[List.getElem?_eq_getElem (by omega)]at g0 g1;have k1:=xE 10 f1 g1;obtain⟨l,w,k3,kb,k4⟩:=aa0 g0
  cases k1 with
  |cons q1 _=>
   obtain⟨z1,rfl,w1⟩:=q1;have k3: [a,_].take (Tryz.prog.cellsOf 22)= [w]:=k3;rw[c3]at k3;have k3:a=w:=(by simpa using k3);subst k3;exact⟨(l,z1),kb,_,rfl,bz.kT k4 (bz.kT rfl .nil)⟩
end Go.Proofs.YtcbjpiangpjbgaaGreat
end
