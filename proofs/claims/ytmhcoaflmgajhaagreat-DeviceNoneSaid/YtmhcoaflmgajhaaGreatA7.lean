/- What the laws lean on, part 7: a reader of code, plain facts, and what each function gives; no conditions. -/
import Derived.WalkKit
import Derived.Lib.Walk
import Derived.Lib.SliceRun
import Derived.Lib.AppendZerosOnto
import Derived.Test.YtmhcoaflmgajhaaGreatA6
set_option linter.unusedVariables false
set_option linter.unusedSimpArgs false
noncomputable section
namespace Go.Proofs.YtmhcoaflmgajhaaGreat
open Go Go.Ev Go.Proofs.Tryz
open Go.IntKind (i64 signed u32 u64 wrap wrap_u32)
set_option maxRecDepth 1000000
abbrev Tn(l:List Int):LV:=.one (.sc (.rd true false u8 l))
def TI:al:=al.cl [some u8] bA ae fun x _=>.leaf (some (x.1.length≤70368744177664)) (Tn x.1) []
theorem xp:bc Tryz.prog [] [] f36 [.one (.sc (.cQ (.slice none 0 0)))] [] [.qx 0 u8,.auto]=
 End.leaf (LV.one (VV.sc (SV.rd true false (Ty.int IntKind.u8) []))) []:=by kernel_rfl
theorem xq(l:List Int):bc Tryz.prog [] [] f36 [.one (.sc (.rd false true u8 l))] [] [.qx 0 u8,.auto]=
 End.need (((0:Nat)+l.length)*(1:Nat)≤(70368744177664:Nat)∧(0:Nat)+l.length≤(70368744177664:Nat)) (End.leaf (LV.one (VV.sc (SV.rd
 true false (Ty.int IntKind.u8) ([]++l)))) []):=by kernel_rfl
theorem iw:TI.Ok Tryz.prog 36:=by
 refine(al.bb call36 fun x y Q h=>?_).sym;obtain⟨l,_⟩:=x;obtain⟨hl,hq⟩:=h;have hl:l.length≤70368744177664:=hl;refine dM.CF (x:= []) (y:= []) (fun e=>?_) ?_
 ·subst e;refine(au mixed aw func36 rfl (LT:= []) (ks:= [.qx 0 u8,.auto]) (aS.nil _)).use (D:= []) ?_ hq;show(bc _ _ _ _ [.one (.sc (.cQ (.slice none 0 0)))] [] _).sat _;rw[xp];exact⟨rfl,rfl⟩
 ·refine(au mixed aw func36 rfl (LT:= []) (ks:= [.qx 0 u8,.auto]) (aS.nil _)).use (D:= []) ?_ hq;show(bc _ _ _ _ [.one (.sc (.rd false true u8 l))] [] _).sat _;rw[xq];exact⟨⟨by omega,by omega⟩,rfl,rfl⟩
abbrev Xw:aH (List LV) (Int×Unit):=ab (ak (ay .i64)) ae
abbrev CK:aH (List LV) (Int×Int×Unit):=aq (ak (a6 0 0)) (ab (ak (ay .i64)) (ab (ak (ay .i64)) ae))
end Go.Proofs.YtmhcoaflmgajhaaGreat
end
noncomputable section
namespace Go.Ev
open Go
open Go.IntKind (i64 signed u32 u64 wrap wrap_u32)
theorem iO{α:Type}{l:List α}{k:Nat}(z:α)(h:k<l.length):l.drop k=l.getD k z::l.drop (k+1):=by
 rw[List.drop_eq_getElem_cons h];simp[List.getD_eq_getElem?_getD,List.getElem?_eq_getElem h]
theorem aA.getD{l:List Int}(h:aA l)(i:Nat):By (l.getD i 0):=by
 rw[List.getD_eq_getElem?_getD]
 cases hi:l[i]? with
 |none=>exact⟨Int.le_refl _,by decide⟩
 |some z=>exact h z (List.mem_of_getElem? hi)
theorem aA.nil:aA []:=fun _ h=>by cases h
theorem aA.cons{z:Int}{l:List Int}(hz:By z)(h:aA l):aA (z::l):=fun y hy=>by
 rcases List.mem_cons.1 hy with rfl|hy
 ·exact hz
 ·exact h y hy
theorem aA.rep(n:Nat){z:Int}(hz:By z):aA (List.replicate n z):=fun y hy=>by rw[List.eq_of_mem_replicate hy];exact hz
inductive Tr (X:Type) where
 |ret (x:X)
 |ite (b:Bool) (t e:Tr X)
 |need (p:Prop) (t:Tr X)
 |fail
def Tr.Is{X:Type}:Tr X→X→Prop
 | .ret x,y=>x=y
 | .ite b t e,y=>(b=true→t.Is y)∧(b=false→e.Is y)
 | .need p t,y=>p∧t.Is y
 | .fail,_=>False
theorem ai{X:Type}{x y:X}:(Tr.ret x).Is y↔x=y:=Iff.rfl
theorem ah{X:Type}{p:Prop}{t:Tr X}{y:X}:(Tr.need p t).Is y↔p∧t.Is y:=Iff.rfl
theorem az{X:Type}{b:Bool}{t e:Tr X}{y:X}:(Tr.ite b t e).Is y↔(b=true→t.Is y)∧(b=false→e.Is y):=Iff.rfl
theorem aC{X:Type}{c:Prop}[Decidable c]{t e:Tr X}{y:X}:(Tr.ite (decide c) t e).Is y↔(c→t.Is y)∧(¬c→e.Is y):=by
 simp only[az,decide_eq_true_eq,decide_eq_false_iff_not]
theorem iP{X:Type}{t e:Tr X}{y:X}:(Tr.ite true t e).Is y↔t.Is y:=by simp[az]
theorem jW{X:Type}{t e:Tr X}{y:X}:(Tr.ite false t e).Is y↔e.Is y:=by simp[az]
theorem aG{X:Type}{a b:Int}{t e:Tr X}{y:X}:(Tr.ite (a==b) t e).Is y↔(a=b→t.Is y)∧(a≠b→e.Is y):=by
 simp only[az,beq_iff_eq,beq_eq_false_iff_ne]
theorem aE{X:Type}{a b:Int}{t e:Tr X}{y:X}:(Tr.ite (a !=b) t e).Is y↔(a=b→e.Is y)∧(a≠b→t.Is y):=by
 simp only[az,bne_iff_ne,bne_eq_false_iff_eq];exact And.comm
theorem aD{X:Type}{b:Bool}{t e:Tr X}{y:X}:(Tr.ite (!b) t e).Is y↔(b=true→e.Is y)∧(b=false→t.Is y):=by
 cases b<;>simp[az]
theorem aI{X:Type}{c:Prop}[Decidable c]{t e:Tr X}{y:X}:(Tr.ite (decide c==false) t e).Is y↔(¬c→t.Is y)∧(c→e.Is y):=by
 by_cases h:c<;>simp[az,h]
theorem aL{X:Type}{c:Prop}[Decidable c]{t e:Tr X}{y:X}:(Tr.ite (decide c==true) t e).Is y↔(c→t.Is y)∧(¬c→e.Is y):=by
 by_cases h:c<;>simp[az,h]
theorem aU{X:Type}{c:Prop}[Decidable c]{t e:Tr X}{y:X}:(Tr.ite (!decide c) t e).Is y↔(¬c→t.Is y)∧(c→e.Is y):=by
 by_cases h:c<;>simp[az,h]
theorem aJ{X:Type}{c:Prop}[Decidable c]{t e:Tr X}{y:X}:(Tr.ite ((!decide c)==false) t e).Is y↔(c→t.Is y)∧(¬c→e.Is y):=by
 by_cases h:c<;>simp[az,h]
theorem a7{X:Type}{b:Bool}{t e:Tr X}{y:X}:(Tr.ite (b==false) t e).Is y↔(b=true→e.Is y)∧(b=false→t.Is y):=by
 cases b<;>simp[az]
theorem a9{X:Type}{b:Bool}{t e:Tr X}{y:X}:(Tr.ite (b==true) t e).Is y↔(b=true→t.Is y)∧(b=false→e.Is y):=by
 cases b<;>simp[az]
theorem aM{X:Type}{b:Bool}{t e:Tr X}{y:X}:(Tr.ite ((!b)==false) t e).Is y↔(b=true→t.Is y)∧(b=false→e.Is y):=by
 cases b<;>simp[az]
theorem aK{X:Type}{a c:Int}{t e:Tr X}{y:X}:(Tr.ite ((a !=c)==false) t e).Is y↔(a=c→t.Is y)∧(a≠c→e.Is y):=by
 by_cases h:a=c<;>simp[az,h]
theorem aN{X:Type}{a c:Int}{t e:Tr X}{y:X}:(Tr.ite ((a==c)==false) t e).Is y↔(a=c→e.Is y)∧(a≠c→t.Is y):=by
 by_cases h:a=c<;>simp[az,h]
def Tr.val{X:Type}(d:X):Tr X→X
 | .ret x=>x
 | .ite b t e=>bif b then t.val d else e.val d
 | .need _ t=>t.val d
 | .fail=>d
def Tr.end{X:Type}(V:X→LV)(D:X→List (Nat×Item))(hp:Hp):Tr X→End
 | .ret x=>.leaf (V x) (ax (D x) hp)
 | .ite b t e=>.ite b (t.end V D hp) (e.end V D hp)
 | .need p t=>.need p (t.end V D hp)
 | .fail=>.fail
theorem Tr.iQ{X:Type}{V:X→LV}{D:X→List (Nat×Item)}{hp:Hp}:∀ {t:Tr X} {x:X},t.Is x→(t.end V D hp).sat fun v cS=>v=V x∧cS=ax (D x) hp
 | .ret _,_,h=>by cases h;exact⟨rfl,rfl⟩
 | .ite _ _ _,_,h=>⟨fun e=>Tr.iQ (h.1 e),fun e=>Tr.iQ (h.2 e)⟩
 | .need _ _,_,h=>⟨h.1,Tr.iQ h.2⟩
 | .fail,_,h=>h
abbrev fH:List Wk:= [.fr [.sym],.syms,.auto,.ba]
def bD{X Y Z:Type}(jx:List (Option Ty))(A:aH (List LV) X)(H:aH Hp Y)(pre:X→Y→Prop)(sp:X→Y→Z)(V:Z→LV)(D:Z→List (Nat×Item)):al:=al.cl jx A H fun x y=>.leaf (some (pre x y)) (V (sp x y)) (D (sp x y))
def CL{X Y Z Z':Type}(jx:List (Option Ty))(A:aH (List LV) X)(H:aH Hp Y)(pre:X→Y→Prop)(c:X→Y→Bool)(sp:X→Y→Z)(rI:X→Y→Z')(V:Z→LV)(D:Z→List (Nat×Item))(V':Z'→LV)(D':Z'→List (Nat×Item)):al:=
 al.cl jx A H fun x y=>.ite (c x y) (.leaf (some (pre x y)) (V (sp x y)) (D (sp x y))) (.leaf (some (pre x y)) (V' (rI x y)) (D' (rI x y)))
theorem a5{P:Program}(fb:P.follows .mixedOrders=true){tab:List (FuncId×al)}(iu:∀p∈tab,p.2.Ok P p.1){f:FuncId}{fn:Func}(hf:P.funcs[f]? =some fn)(hb:fn.body.isSome=true)(he:jU P f){jx:List (Option Ty)}{X Y Z:Type}{A:aH (List LV) X}{H:aH Hp Y}
  {LT:X→Y→dd} (hL:∀x y,aS P (H.wr y) (LT x y) (cE fn)) {ks:List Wk} {V:Z→LV} {D:Z→List (Nat×Item)} {T:X→Y→Tr Z} {pre:X→Y→Prop} {sp:X→Y→Z}
  (hT:∀x y,bc P tab (LT x y) fn (A.wr x) (H.wr y) ks=(T x y).end V D (H.wr y)) (hI:∀x y,pre x y→(T x y).Is (sp x y)):
  (bD jx A H pre sp V D).Ok P f:=by
 refine(al.bb he fun x y Q h=>?_).sym;refine(au fb iu hf hb (ks:=ks) (hL x y)).use (V:=V (sp x y)) (D:=D (sp x y)) ?_ h.2;rw[hT];exact Tr.iQ (hI x y h.1)
theorem Ag{P:Program}(fb:P.follows .mixedOrders=true){tab:List (FuncId×al)}(iu:∀p∈tab,p.2.Ok P p.1){f:FuncId}{fn:Func}(hf:P.funcs[f]? =some fn)(hb:fn.body.isSome=true)(he:jU P f){jx:List (Option Ty)}{X Y Z Z':Type}{A:aH (List LV) X}{H:aH Hp Y}
  {LT:X→Y→dd} (hL:∀x y,aS P (H.wr y) (LT x y) (cE fn)) {ks:List Wk} {V:Z→LV} {D:Z→List (Nat×Item)} {V':Z'→LV} {D':Z'→List (Nat×Item)} {T:X→Y→Tr (Z⊕Z')} {pre:X→Y→Prop} {c:X→Y→Bool} {sp:X→Y→Z} {rI:X→Y→Z'}
  (hT:∀x y,bc P tab (LT x y) fn (A.wr x) (H.wr y) ks=(T x y).end (Sum.elim V V') (Sum.elim D D') (H.wr y)) (hI:∀x y,pre x y→(c x y=true→(T x y).Is (.inl (sp x y)))∧(c x y=false→(T x y).Is (.inr (rI x y)))):
  (CL jx A H pre c sp rI V D V' D').Ok P f:=by
 refine(al.bb he fun x y Q h=>?_).sym
 cases hc:c x y with
 |true=>
  have h1:=h.1 hc;refine(au fb iu hf hb (ks:=ks) (hL x y)).use (V:=V (sp x y)) (D:=D (sp x y)) ?_ h1.2;rw[hT];exact Tr.iQ (V:=Sum.elim V V') (D:=Sum.elim D D') ((hI x y h1.1).1 hc)
 |false=>
  have h1:=h.2 hc;refine(au fb iu hf hb (ks:=ks) (hL x y)).use (V:=V' (rI x y)) (D:=D' (rI x y)) ?_ h1.2;rw[hT];exact Tr.iQ (V:=Sum.elim V V') (D:=Sum.elim D D') ((hI x y h1.1).2 hc)
theorem HL{P:Program}(fb:P.follows .mixedOrders=true){tab:List (FuncId×al)}(iu:∀p∈tab,p.2.Ok P p.1){f:FuncId}{fn:Func}(hf:P.funcs[f]? =some fn)(hb:fn.body.isSome=true)(he:jU P f){jx:List (Option Ty)}{X Y Z:Type}{A:aH (List LV) X}{H:aH Hp Y}
  {LT:X→Y→dd} (hL:∀x y,aS P (H.wr y) (LT x y) (cE fn)) {ks:List Wk} {V:Z→LV} {D:Z→List (Nat×Item)} {T:X→Y→Tr Z} {out:X→Y→Out}
  (hT:∀x y,bc P tab (LT x y) fn (A.wr x) (H.wr y) ks=(T x y).end V D (H.wr y)) (hO:∀x y Q,(out x y).holds Q→∃z,(T x y).Is z∧Q (V z) (D z)):
  (al.cl jx A H out).Ok P f:=by
 refine(al.bb he fun x y Q h=>?_).sym;obtain⟨z,h1,h2⟩:=hO x y Q h;refine(au fb iu hf hb (ks:=ks) (hL x y)).use (V:=V z) (D:=D z) ?_ h2;rw[hT];exact Tr.iQ h1
def HM{X Y Z Z' Rd:Type}(jx:List (Option Ty))(A:aH (List LV) X)(H:aH Hp Y)(pre:X→Y→Prop)(c:X→Y→Bool)(sp:X→Y→Z)(c':X→Y→Bool)(rI:X→Y→Z')(Ah:X→Y→Rd)(V:Z→LV)(D:Z→List (Nat×Item))(V':Z'→LV)(D':Z'→List (Nat×Item))(YC:Rd→LV)(YD:Rd→List (Nat×Item)):al:=
 al.cl jx A H fun x y=>.ite (c x y) (.leaf (some (pre x y)) (V (sp x y)) (D (sp x y))) (.ite (c' x y) (.leaf (some (pre x y)) (V' (rI x y)) (D' (rI x y))) (.leaf (some (pre x y)) (YC (Ah x y)) (YD (Ah x y))))
theorem HN{P:Program}(fb:P.follows .mixedOrders=true){tab:List (FuncId×al)}(iu:∀p∈tab,p.2.Ok P p.1){f:FuncId}{fn:Func}(hf:P.funcs[f]? =some fn)(hb:fn.body.isSome=true)(he:jU P f){jx:List (Option Ty)}{X Y Z Z' Rd:Type}{A:aH (List LV) X}{H:aH Hp Y}
  {LT:X→Y→dd} {ks:List Wk} (hL:∀x y,aS P (H.wr y) (LT x y) (cE fn)) {V:Z→LV} {D:Z→List (Nat×Item)} {V':Z'→LV} {D':Z'→List (Nat×Item)} {YC:Rd→LV} {YD:Rd→List (Nat×Item)} {T:X→Y→Tr (Z⊕Z'⊕Rd)} {pre:X→Y→Prop} {c c':X→Y→Bool} {sp:X→Y→Z} {rI:X→Y→Z'} {Ah:X→Y→Rd}
  (hT:∀x y,bc P tab (LT x y) fn (A.wr x) (H.wr y) ks=(T x y).end (Sum.elim V (Sum.elim V' YC)) (Sum.elim D (Sum.elim D' YD)) (H.wr y))
  (hI:∀x y,pre x y→(c x y=true→(T x y).Is (.inl (sp x y)))∧(c x y=false→c' x y=true→(T x y).Is (.inr (.inl (rI x y))))∧(c x y=false→c' x y=false→(T x y).Is (.inr (.inr (Ah x y))))):
  (HM jx A H pre c sp c' rI Ah V D V' D' YC YD).Ok P f:=by
 refine HL fb iu hf hb he (ks:=ks) hL hT (out:=fun x y=>.ite (c x y) (.leaf (some (pre x y)) (V (sp x y)) (D (sp x y))) (.ite (c' x y) (.leaf (some (pre x y)) (V' (rI x y)) (D' (rI x y))) (.leaf (some (pre x y)) (YC (Ah x y)) (YD (Ah x y))))) fun x y Q h=>?_
 cases hc:c x y with
 |true=>exact⟨_,(hI x y (h.1 hc).1).1 hc,(h.1 hc).2⟩
 |false=>
  have h2:=h.2 hc
  cases hd:c' x y with
  |true=>exact⟨_,(hI x y (h2.1 hd).1).2.1 hc hd,(h2.1 hd).2⟩
  |false=>exact⟨_,(hI x y (h2.2 hd).1).2.2 hc hd,(h2.2 hd).2⟩
noncomputable section
variable {A B C D E F G H I J T:Type}
abbrev q0{R:Sort _}(f:R)(_:T):R:=f
abbrev q1{R:Sort _}(f:A→R)(x:A×T):R:=f x.1
abbrev q2{R:Sort _}(f:A→B→R)(x:A×B×T):R:=f x.1 x.2.1
abbrev q3{R:Sort _}(f:A→B→C→R)(x:A×B×C×T):R:=f x.1 x.2.1 x.2.2.1
abbrev q4{R:Sort _}(f:A→B→C→D→R)(x:A×B×C×D×T):R:=f x.1 x.2.1 x.2.2.1 x.2.2.2.1
abbrev q5{R:Sort _}(f:A→B→C→D→E→R)(x:A×B×C×D×E×T):R:=f x.1 x.2.1 x.2.2.1 x.2.2.2.1 x.2.2.2.2.1
abbrev q6{R:Sort _}(f:A→B→C→D→E→F→R)(x:A×B×C×D×E×F×T):R:=f x.1 x.2.1 x.2.2.1 x.2.2.2.1 x.2.2.2.2.1 x.2.2.2.2.2.1
abbrev q8{R:Sort _}(f:A→B→C→D→E→F→G→H→R)(x:A×B×C×D×E×F×G×H×T):R:=f x.1 x.2.1 x.2.2.1 x.2.2.2.1 x.2.2.2.2.1 x.2.2.2.2.2.1 x.2.2.2.2.2.2.1 x.2.2.2.2.2.2.2.1
end
inductive dB {X Z:Type} (L:X→Tr (X⊕Z)):X→Z→Prop where
 |stop {x z} (h:(L x).Is (.inr z)):dB L x z
 |go {x y z} (h:(L x).Is (.inl y)) (t:dB L y z):dB L x z
inductive qz {X Z:Type} (L:X→Tr (X⊕Z)):Nat→X→Z→Prop where
 |stop {n x z} (h:(L x).Is (.inr z)):qz L n x z
 |go {n x y z} (h:(L x).Is (.inl y)) (t:qz L n y z):qz L (n+1) x z
theorem dB.n{X Z:Type}{L:X→Tr (X⊕Z)}{x:X}{z:Z}(h:dB L x z):∃n,qz L n x z:=by
 induction h with
 |stop h=>exact⟨0,.stop h⟩
 |go h _ ih=>obtain⟨n,h'⟩:=ih;exact⟨n+1,.go h h'⟩
def Tr.res{X Z:Type}(C:X→St)(E:Z→Exit×St):Tr (X⊕Z)→aV
 | .ret (.inl y)=>.leaf .normal (C y)
 | .ret (.inr z)=>.leaf (E z).1 (E z).2
 | .ite b t e=>.ite b (t.res C E) (e.res C E)
 | .need p t=>.need p (t.res C E)
 | .fail=>.fail
theorem Tr.tW{X Z:Type}{C:X→St}{E:Z→Exit×St}{y:X}:∀ {t:Tr (X⊕Z)},t.Is (.inl y)→(t.res C E).sat fun e s=>e= .normal∧s=C y
 | .ret _,h=>by cases h;exact⟨rfl,rfl⟩
 | .ite _ _ _,h=>⟨fun e=>Tr.tW (h.1 e),fun e=>Tr.tW (h.2 e)⟩
 | .need _ _,h=>⟨h.1,Tr.tW h.2⟩
 | .fail,h=>h
theorem Tr.mA{X Z:Type}{C:X→St}{E:Z→Exit×St}{z:Z}:∀ {t:Tr (X⊕Z)},t.Is (.inr z)→(t.res C E).sat fun e s=>e=(E z).1∧s=(E z).2
 | .ret _,h=>by cases h;exact⟨rfl,rfl⟩
 | .ite _ _ _,h=>⟨fun e=>Tr.mA (h.1 e),fun e=>Tr.mA (h.2 e)⟩
 | .need _ _,h=>⟨h.1,Tr.mA h.2⟩
 | .fail,h=>h
theorem cJ{P:Program}(fb:P.follows .mixedOrders=true){tab:List (FuncId×al)}(iu:∀p∈tab,p.2.Ok P p.1){LT:dd}{fn:Func}{id:Nat}{hp:Hp}{ws:Exit→List Wk}(hL:aS P hp LT (aY fn id))
  {X Z:Type} {C:aH St X} {E:Z→Exit×St} {L:X→Tr (X⊕Z)} {pre:X→Prop} {sp:X→Z} {F:X→aV}
  (hT:∀x,gV P tab LT fn id hp ws (C.wr x)=(L x).res C.wr E) (hE:∀z,(E z).1≠ .normal) (hF:∀x R,(F x).sat R→pre x∧R (E (sp x)).1 (E (sp x)).2) (hI:∀x,pre x→dB L x (sp x)) (x:X):
  Ex P hp (.loop (aY fn id)) (C.wr x) (F x):=by
 intro W β₀ R Q hs hq β a w hr;obtain⟨hx,hs2⟩:=hF x R hs;obtain⟨n,hn⟩:=(hI x hx).n
 have key:Ex P hp (.loop (aY fn id)) (C.wr x) (.leaf (E (sp x)).1 (E (sp x)).2):=by
  refine Ex.dA (X:=Nat×X) (fun p=>p.1) (fun p=>C.wr p.2) (fun p=>qz L p.1 p.2 (sp x)) (fun p=>(L p.2).res C.wr E) (fun _=>.leaf (E (sp x)).1 (E (sp x)).2) (fun p _=>by have:=CD fb iu hL (P:=P) (ws:=ws) (st:=C.wr p.2);rw[hT]at this;exact this) (fun p R hp hs=>?_) (x:=(n,x)) hn;obtain⟨k,y⟩:=p
  cases hp with
  |stop h=>exact aV.jQ (fun e s ⟨h1,h2⟩=>.inr ⟨by rw[h1];exact hE _,by rw[h1,h2];exact hs⟩) (Tr.mA h)
  |go h t=>exact aV.jQ (fun e s ⟨h1,h2⟩=>.inl ⟨h1,(_,_),h2,t,Nat.lt_succ_self _,hs⟩) (Tr.tW h)
 exact key W β₀ R Q hs2 hq β a w hr
abbrev eR{X Z:Type}(pre:X→Prop)(sp:X→Z)(E:Z→Exit×St)(x:X):aV:=.need (pre x) (.leaf (E (sp x)).1 (E (sp x)).2)
abbrev qA{X Z Z':Type}(pre:X→Prop)(c:X→Bool)(sp:X→Z)(rI:X→Z')(E:Z→Exit×St)(E':Z'→Exit×St)(x:X):aV:=.need (pre x) (.ite (c x) (.leaf (E (sp x)).1 (E (sp x)).2) (.leaf (E' (rI x)).1 (E' (rI x)).2))
theorem fA{X Z:Type}{E:Z→Exit×St}{pre:X→Prop}{sp:X→Z}:∀ (x:X) (R:Exit→St→Prop),(eR pre sp E x).sat R→pre x∧R (E (sp x)).1 (E (sp x)).2:=fun _ _ h=>h
theorem tX{X Z Z':Type}{E:Z→Exit×St}{E':Z'→Exit×St}{pre:X→Prop}{c:X→Bool}{sp:X→Z}{rI:X→Z'}:∀ (x:X) (R:Exit→St→Prop),(qA pre c sp rI E E' x).sat R→
  pre x∧R (Sum.elim E E' (bif c x then .inl (sp x)else .inr (rI x))).1 (Sum.elim E E' (bif c x then .inl (sp x)else .inr (rI x))).2:=fun x R h=>⟨h.1,by
 cases hc:c x with
 |true=>exact h.2.1 hc
 |false=>exact h.2.2 hc⟩
def zy(n:List Wk)(id:Nat)(x r:List Wk):Exit→List Wk
 | .normal=>n
 | .exit i=>if i=id then x else n
 | .ret=>r
 |_=> []
def jt(n:Nat)(r:List LV):List LV:=List.replicate n .br++r
def cj{X:Type}(c:aH Item X):aH (Option Item) X where
 rd x:=match x with
  |some x=>c.rd x
  |none=>none
 wr x:=some (c.wr x)
 ok:=by
  intro x v h
  split at h
  ·rw[c.ok h]
  ·cases h
def ix{X:Type}(e:TypeId)(r:aH (List SV) X):aH Item X where
 rd x:=match x with
  | .aZ cells e'=>if e'=e then r.rd cells else none
  |_=>none
 wr x:=.aZ (r.wr x) e
 ok:=by
  intro x v h
  split at h
  ·split at h
   ·rename_i e;subst e;rw[r.ok h]
   ·cases h
  ·cases h
def sFn(g:FuncId):aH SV Unit where
 rd x:=match x with
  | .cQ (.func (.func f) ⟨[]⟩ ⟨[]⟩)=>if f=g then some ()else none
  |_=>none
 wr _:=.cQ (.func (.func g) #[] #[])
 ok:=by
  intro s x h
  split at h
  ·split at h
   ·rename_i e;subst e;rfl
   ·cases h
  ·cases h
end Go.Ev
end
noncomputable section
namespace Go.Proofs.YtmhcoaflmgajhaaGreat
open Go Go.Ev Go.Proofs.Tryz
open Go.IntKind (i64 signed u32 u64 wrap wrap_u32)
set_option maxRecDepth 1000000
abbrev xr:Type:=Int×Int×(List Int)
abbrev Re:aH St xr:=(bq (jk 3 (aq (ak (sI (0) (0))) (jk 6 (ab (ak (ay i64)) (ab (ak (ay
 i64)) (jk 7 ae)))))) (ab (dq (0) (Ty.int IntKind.u8)) ae)).jl (fun y=>(y.1.1,y.1.2.1,y.2.1)) (fun x=>((x.1,(x.2.1,())),
 (x.2.2,()))) (fun _=>rfl)
abbrev Rf:List Wk:= [.fr (cR 19 [(3,.ao),(10,.ao),(11,.ao)]),.syms,.auto,.ba]
abbrev YE:Exit→List Wk:=zy Rf 0 [.fr (cR 19 [(3,.ao)]),.syms,.auto,.ba] [.fr (cR 19 [(2,.ao)]),.syms,.auto,.ba]
abbrev HO:Type:=List Int
abbrev YF(x:HO):Exit×St:=(Exit.exit 0,⟨(jt 3 (LV.one (VV.sc (SV.sl 0 0))::(jt 15 []))),[some (Item.own 0 (Ty.int
 IntKind.u8) x)]⟩)
def HP(m:Int)(i:Int)(c:List Int):Tr (xr⊕(HO)):=(.ite (decide (i<m)) (.need (0≤i∧i<(↑c.length:Int))
 (.ret (.inl (m,i64.wrap (i+1),c.set i.toNat 255)))) (.ret (.inr (c))))
abbrev tY(m:Int)(i:Int)(c:List Int):Prop:=m=c.length∧0≤i∧i≤m∧c.length<1099511627776
abbrev HQ(m:Int)(i:Int)(c:List Int):HO:=c.take i.toNat++List.replicate (c.length-i.toNat) 255
abbrev Rg:xr→aV:=eR (fun x_=>tY x_.1 x_.2.1 x_.2.2) (fun x_=>HQ x_.1 x_.2.1 x_.2.2) YF
theorem NB(m:Int)(i:Int)(c:List Int)(h_:tY m i c):dB (fun x_:xr=>HP x_.1 x_.2.1 x_.2.2) (m,i,c) (HQ m i c):=by
 delta HQ;obtain⟨rfl,h1,h2,h3⟩:=h_;obtain⟨k,rfl⟩:∃j:Nat,i=j:=⟨i.toNat,by omega⟩;obtain⟨j,hj⟩:∃j,c.length-k=j:=⟨_,rfl⟩;rw[Int.toNat_natCast,hj]
 induction j generalizing k c with
 |zero=>
  refine .stop ?_;have e1:decide ((k:Int)<c.length)=false:=decide_eq_false (by omega);simp only[HP,e1,jW,ai,List.replicate_zero,List.append_nil];rw[List.take_of_length_le (by omega)]
 |succ j ih=>
  have e1:decide ((k:Int)<c.length)=true:=decide_eq_true (by omega);have hl:(c.set k 255).length=c.length:=List.length_set;have w:=ih (c.set k 255) (by rw[hl];exact h3) (k+1) (by omega) (by rw[hl];omega) (by rw[hl];omega);rw[hl]at w
  have e2:(c.set k 255).take (k+1)++List.replicate j 255=c.take k++List.replicate (j+1) 255:=by
   rw[List.take_add_one,List.take_set_of_le (Nat.le_refl _),List.getElem?_set_self (by omega),List.replicate_succ];simp
  rw[e2]at w;refine .go ?_ w;simp only[HP,e1,iP,ah,ai,Int.toNat_natCast];rw[ar (by omega) (by omega)];exact⟨by omega,rfl⟩
theorem HR(y_):∀x:xr,Ex Tryz.prog ((ae).wr y_) (.loop (aY f43 0)) (Re.wr x) (Rg x):=
 cJ mixed aw (ws:=YE) (aS.nil _) (fun _=>by kernel_rfl) (fun z e=>by cases e) fA (fun x_ h=>NB x_.1 x_.2.1 x_.2.2 h)
def jX(n:Int):Int:=if 0<if 65536<n then 65536 else n then if 65536<n then 65536 else n else 0
abbrev NC:Type:=List Int
abbrev aes(x:NC):LV:=LV.one (VV.sc (SV.sl 0 0))
abbrev aet(x:NC):List (Nat×Ev.Item):= [(0,Item.own 0 (Ty.int IntKind.u8) x)]
def YG(n:Int):Tr (NC):=(.need (jX n=jX n∧0≤jX n∧1*jX n≤70368744177664∧jX n≤70368744177664)
 (.need (tY (↑(List.replicate (jX n).toNat (0:Int)).length:Int) 0 (List.replicate (jX n).toNat (0:Int))) (.ret (List.take 0
 (List.replicate (jX n).toNat (0:Int))++List.replicate ((List.replicate (jX n).toNat (0:Int)).length-0) (255:Int)))))
abbrev Ai(n:Int):Prop:=0≤n∧n≤65536
abbrev TJ(n:Int):NC:=List.replicate n.toNat 255
def aeu:al:=bD [] (Xw) (ae) (q0∘q1 Ai) (q0∘q1 TJ) aes aet
theorem TK(n:Int)(h_:Ai n):(YG n).Is (TJ n):=by
 delta TJ;obtain⟨h1,h2⟩:=h_;have e0:jX n=n:=by unfold jX;split<;>(try split)<;>omega
 simp only[YG,ah,ai,e0];refine⟨⟨trivial,by omega,by omega,by omega⟩,⟨rfl,by omega,by omega,by rw[List.length_replicate];omega⟩,?_⟩;simp
theorem TL:aeu.Ok Tryz.prog 43:=
 a5 mixed aw func43 (by kernel_rfl) call43 (LT:=fun _ y_=> [(0,fh Re ((ae).wr y_) Rf Rg)]) (ks:=fH) (fun _ y_=>aS.bW (kQ (by kernel_rfl) (b8 (HR y_)) ly)) (fun _ _=>by kernel_rfl) fun x_ y_ h=>TK x_.1 h
abbrev xt:Type:=Int×Int×Int×Bool×Bool×Int×(List Int)×(List Int)
abbrev Rh:aH St xt:=(bq (jk 4 (aq (ak (a6 (0) (0))) (jk 7 (ab (ak (ay i64)) (ab (ak (ay
 i64)) (jk 12 ae)))))) (ab (kJ (74) ((aq (sI (1) (0)) (aq (sI (2) (0)) (ab (ay i64) (ab (iv) (ab (iv)
 (ab (ay i64) (aq (Yz) ae))))))))) (ab (dq (0) (Ty.int IntKind.u8)) (ab (dq (0) (Ty.int i64)) ae)))).jl (fun y
 =>(y.1.1,y.1.2.1,y.2.1.1,y.2.1.2.1,y.2.1.2.2.1,y.2.1.2.2.2.1,y.2.2.1,y.2.2.2.1)) (fun x=>((x.1,(x.2.1,())),((x.2.2.1,(x.2.2.2.1,
 (x.2.2.2.2.1,(x.2.2.2.2.2.1,())))),(x.2.2.2.2.2.2.1,(x.2.2.2.2.2.2.2,()))))) (fun _=>rfl)
abbrev Ri:List Wk:= [.fr (cR 26 [(4,.ao),(12,.ao),(13,.ao)]),.auto,.fg 0 0 u8,.fr (cR 26 [(4,.ao),(12,.ao),(13,
 .ao)]),.syms,.auto,.ba]
abbrev YH:Exit→List Wk:=zy Ri 0 [.fr (cR 26 [(4,.ao),(12,.ao),(13,.ao)]),.auto,.fg 0 0 u8,.fr (cR 26 [(4,.ao)]),
 .syms,.auto,.ba] [.fr (cR 26 [(4,.ao),(12,.ao),(13,.ao)]),.auto,.fg 0 0 u8,.fr (cR 26 [(2,.ao)]),.syms,.auto,.ba]
abbrev HS:Type:=Int×Bool×Bool×Int×(List Int)×(List Int)
abbrev YI(x:HS):Exit×St:=(Exit.exit 0,⟨(jt 4 (LV.one (VV.sc (SV.ptr 0 0))::(jt 21 []))),[some (Item.aZ [SV.sl 1 0,
 SV.sl 2 0,SV.int i64 (SI.sym x.1),SV.bool (SB.sym x.2.1),SV.bool (SB.sym x.2.2.1),SV.int i64 (SI.sym x.2.2.2.1),SV.cQ
 (Value.slice none 0 0)] 74),some (Item.own 0 (Ty.int IntKind.u8) x.2.2.2.2.1),some (Item.own 0 (Ty.int i64) x.2.2.2.2.2)]⟩)
def HT(n:Int)(i:Int)(st:Int)(off:Bool)(arm:Bool)(ND:Int)(b:List Int)(er:List Int):Tr (xt⊕(HS)):=
 (.ite (decide (i<n)) (.need (Ai 1024) (.need ((b.length+1024)*1≤70368744177664∧b.length+1024≤70368744177664) (.ret (.inl (n,
 i64.wrap (i+1),st,off,arm,ND,b++List.replicate 1024 (255:Int),er))))) (.ret (.inr (st,off,arm,ND,b,er))))
abbrev tZ(n:Int)(i:Int)(st:Int)(off:Bool)(arm:Bool)(ND:Int)(b:List Int)(er:List Int):Prop:=0≤i∧i≤n∧n≤256∧b=List.replicate (1024*i).toNat 255
abbrev HU(n:Int)(i:Int)(st:Int)(off:Bool)(arm:Bool)(ND:Int)(b:List Int)(er:List Int):HS:=(st,off,arm,ND,List.replicate (1024*n).toNat 255,er)
abbrev Rj:xt→aV:=eR (fun x_=>tZ x_.1 x_.2.1 x_.2.2.1 x_.2.2.2.1 x_.2.2.2.2.1 x_.2.2.2.2.2.1 x_.2.2.2.2.2.2.1 x_.2.2.2.2.2.2.2) (fun x_=>HU x_.1 x_.2.1 x_.2.2.1 x_.2.2.2.1 x_.2.2.2.2.1 x_.2.2.2.2.2.1 x_.2.2.2.2.2.2.1 x_.2.2.2.2.2.2.2) YI
theorem NF(n:Int)(i:Int)(st:Int)(off:Bool)(arm:Bool)(ND:Int)(b:List Int)(er:List Int)(h_:tZ n i st off arm ND b er):dB (fun x_:xt=>HT x_.1 x_.2.1 x_.2.2.1 x_.2.2.2.1 x_.2.2.2.2.1 x_.2.2.2.2.2.1 x_.2.2.2.2.2.2.1 x_.2.2.2.2.2.2.2) (n,i,st,off,arm,ND,b,er) (HU n i st off arm ND b er):=by
 delta HU;obtain⟨h1,h2,h3,rfl⟩:=h_;obtain⟨j,hj⟩:∃j:Nat,n-i=j:=⟨(n-i).toNat,by omega⟩
 induction j generalizing i with
 |zero=>
  refine .stop ?_;have e1:decide (i<n)=false:=decide_eq_false (by omega);simp only[HT,e1,jW,ai];rw[show i=n by omega]
 |succ j ih=>
  have e1:decide (i<n)=true:=decide_eq_true (by omega);refine .go ?_ (ih (i+1) (by omega) (by omega) (by omega));simp only[HT,e1,iP,ah,ai];refine⟨⟨by decide,by decide⟩,by rw[List.length_replicate];omega,?_⟩;rw[ar (by omega) (by omega),show(1024*(i+1)).toNat=(1024*i).toNat+1024 by omega,← List.replicate_append_replicate]
theorem HV(y_):∀x:xt,Ex Tryz.prog ((ae).wr y_) (.loop (aY f23 0)) (Rh.wr x) (Rj x):=
 cJ mixed ((aj TL aw)) (ws:=YH) (aS.nil _) (fun _=>by kernel_rfl) (fun z e=>by cases e) fA (fun x_ h=>NF x_.1 x_.2.1 x_.2.2.1 x_.2.2.2.1 x_.2.2.2.2.1 x_.2.2.2.2.2.1 x_.2.2.2.2.2.2.1 x_.2.2.2.2.2.2.2 h)
def kS(n:Int):Int:=if 1<if 256<n then 256 else n then if 256<n then 256 else n else 1
abbrev NG:Type:=Int×Bool×Bool×Int×(List Int)×(List Int)×(List Int)
abbrev aev(x:NG):LV:=LV.one (VV.sc (SV.ptr 0 0))
abbrev aew(x:NG):List (Nat×Ev.Item):= [(0,Item.aZ [SV.sl 1 0,SV.sl 2 0,SV.int i64 (SI.sym x.1),SV.bool (SB.sym
 x.2.1),SV.bool (SB.sym x.2.2.1),SV.int i64 (SI.sym x.2.2.2.1),SV.rd true false (Ty.int IntKind.u8) x.2.2.2.2.1] 74),(1,Item.own 0 (Ty.int
 IntKind.u8) x.2.2.2.2.2.1),(2,Item.own 0 (Ty.int i64) x.2.2.2.2.2.2)]
def YJ(n:Int):Tr (NG):=(.need (kS n=kS n∧0≤kS n∧8*kS n≤70368744177664∧kS n≤70368744177664)
 (.need (tZ (kS n) 0 0 false false 0 [] (List.replicate (kS n).toNat (0:Int))) (.ret (0,false,false,0,[],List.replicate (Int.toNat
 (1024*kS n)) (255:Int),List.replicate (kS n).toNat (0:Int)))))
def qB(n:Int):Int:=if 1<(if 256<n then 256 else n)then(if 256<n then 256 else n)else 1
abbrev ua(n:Int):Prop:=True
abbrev TM(n:Int):NG:=(0,false,false,0,[],List.replicate (1024*qB n).toNat 255,List.replicate (qB n).toNat 0)
def aex:al:=bD [] (Xw) (ae) (q0∘q1 ua) (q0∘q1 TM) aev aew
theorem TN(n:Int)(h_:ua n):(YJ n).Is (TM n):=by
 delta TM;have e0:kS n=qB n:=rfl;have h:1≤qB n∧qB n≤256:=by unfold qB;split<;>(try split)<;>omega
 simp only[YJ,ah,ai,e0];exact⟨⟨trivial,by omega,by omega,by omega⟩,⟨by omega,by omega,by omega,by simp⟩,trivial⟩
theorem TO:aex.Ok Tryz.prog 23:=
 a5 mixed aw func23 (by kernel_rfl) call23 (LT:=fun _ y_=> [(0,fh Rh ((ae).wr y_) Ri Rj)]) (ks:= [.fr [.sym],.syms,.auto,.ba,.aZ 0 [.ao,.ao,.sym,.sym,.sym,.sym,.rd true u8]]) (fun _ y_=>aS.bW (kQ (by kernel_rfl) (b8 (HV y_)) ly)) (fun _ _=>by kernel_rfl) fun x_ y_ h=>TN x_.1 h
abbrev Fl:Type:=(Int×List Int)×Bool×Bool×Int
abbrev cFl:aH (List SV) Fl:=(aq (sI 1 0) (aq (sI 2 0) (ab (ay .i64) (ab iv (ab iv (ab (ay .i64) (ab (g9 true false u8) ae))))))).jl (fun x=>((x.1,x.2.2.2.2.1),x.2.1,x.2.2.1,x.2.2.2.1)) (fun y=>(y.1.1,y.2.1,y.2.2.1,y.2.2.2,y.1.2,())) (fun _=>rfl)
abbrev TP:aH Ev.Item Fl:=ix 74 cFl
abbrev oV:aH Hp (Fl×List Int×List Int×Unit):=ab (cj TP) (ab (dq 0 u8) (ab (dq 0 (.int .i64)) ae))
abbrev jY:Type:=Int
abbrev TQ(x:jY):LV:=LV.one (VV.sc (SV.int i64 (SI.sym x)))
abbrev TR(x:jY):List (Nat×Ev.Item):= []
def TS(f:(Int×List Int)×Bool×Bool×Int)(b:List Int)(er:List Int):Tr (jY):=(.ret ((↑b.length:Int)))
abbrev jZ(f:Fl)(b er:List Int):Prop:=True
abbrev Aj(f:Fl)(b er:List Int):jY:=b.length
def TT:al:=bD [] ((aq (ak (a6 0 0)) ae)) (oV) (q3∘q0 jZ) (q3∘q0 Aj) TQ TR
theorem HW(f:Fl)(b er:List Int)(h_:jZ f b er):(TS f b er).Is (Aj f b er):=by
 delta Aj;exact rfl
theorem mB:TT.Ok Tryz.prog 28:=
 a5 mixed aw func28 (by kernel_rfl) call28 (ks:=fH) (fun _ _=>aS.nil _) (fun _ _=>by kernel_rfl) fun x_ y_ h=>HW y_.1 y_.2.1 y_.2.2.1 h
def ub(f:(Int×List Int)×Bool×Bool×Int)(b:List Int)(er:List Int):Int:=(↑b.length:Int)
abbrev uc:Type:=Bool
abbrev TU(x:uc):LV:=LV.one (VV.sc (SV.bool (SB.sym x)))
abbrev TV(x:uc):List (Nat×Ev.Item):= []
def HX(at_:Int)(n:Int)(f:(Int×List Int)×Bool×Bool×Int)(b:List Int)(er:List Int):Tr (uc):=(.ite (decide
 (0≤at_)==true) (.ite (decide (0≤n)==true) (.ite (decide (at_≤ub f b er)==true) (.ret (decide (n≤i64.wrap (ub f b er-
 at_)))) (.ret (false))) (.ret (false))) (.ret (false)))
abbrev mC(at_ n:Int)(f:Fl)(b er:List Int):Prop:=b.length<1099511627776
abbrev Ak(at_ n:Int)(f:Fl)(b er:List Int):uc:=decide (0≤at_∧0≤n∧at_+n≤b.length)
def TW:al:=bD [] (CK) (oV) (q3∘q2 mC) (q3∘q2 Ak) TU TV
theorem HY(at_ n:Int)(f:Fl)(b er:List Int)(h_:mC at_ n f b er):(HX at_ n f b er).Is (Ak at_ n f b er):=by
 delta Ak;have h:b.length<1099511627776:=h_;have e0:ub f b er=b.length:=rfl;simp only[HX,e0,az,ai,beq_iff_eq,decide_eq_true_eq,beq_eq_false_iff_ne,ne_eq];refine⟨fun h1=>⟨fun h2=>⟨fun h3=>?_,fun h3=>?_⟩,fun h2=>?_⟩,fun h1=>?_⟩
 ·rw[ar (by omega) (by omega)];exact decide_eq_decide.2 ⟨fun _=>by omega,fun _=>by omega⟩
 ·exact(decide_eq_false (by omega)).symm
 ·exact(decide_eq_false (by omega)).symm
 ·exact(decide_eq_false (by omega)).symm
theorem xu:TW.Ok Tryz.prog 45:=
 a5 mixed aw func45 (by kernel_rfl) call45 (ks:=fH) (fun _ _=>aS.nil _) (fun _ _=>by kernel_rfl) fun x_ y_ h=>HY x_.1 x_.2.1 y_.1 y_.2.1 y_.2.2.1 h
abbrev CM:Type:=Bool
abbrev YK(x:CM):LV:=LV.one (VV.sc (SV.bool (SB.sym x)))
abbrev YL(x:CM):List (Nat×Ev.Item):= []
def YM(f:(Int×List Int)×Bool×Bool×Int)(b:List Int)(er:List Int):Tr (CM):=(.ret (f.snd.fst))
abbrev mD(f:Fl)(b er:List Int):Prop:=True
abbrev HZ(f:Fl)(b er:List Int):CM:=f.2.1
def YN:al:=bD [] ((aq (ak (a6 0 0)) ae)) (oV) (q3∘q0 mD) (q3∘q0 HZ) YK YL
theorem NH(f:Fl)(b er:List Int)(h_:mD f b er):(YM f b er).Is (HZ f b er):=by
 delta HZ;exact rfl
theorem ud:YN.Ok Tryz.prog 16:=
 a5 mixed aw func16 (by kernel_rfl) call16 (ks:=fH) (fun _ _=>aS.nil _) (fun _ _=>by kernel_rfl) fun x_ y_ h=>NH y_.1 y_.2.1 y_.2.2.1 h
abbrev ue:Type:=List Int
abbrev TX(x:ue):LV:=LV.one (VV.sc (SV.rd true false (Ty.int IntKind.u8) x))
abbrev TY(x:ue):List (Nat×Ev.Item):= []
def H0(at_:Int)(n:Int)(f:(Int×List Int)×Bool×Bool×Int)(b:List Int)(er:List Int):Tr (ue):=(.need
 (mC at_ n f b er) (.ite (!decide (0≤at_∧0≤n∧at_+n≤(↑b.length:Int))) (.ret ([])) (.need (0≤at_∧at_≤i64.wrap (at_+n)
 ∧i64.wrap (at_+n)≤(↑b.length:Int)) (.need ((List.take (i64.wrap (at_+n)-at_).toNat (List.drop at_.toNat b)).length≤
 70368744177664) (.ret (List.take (i64.wrap (at_+n)-at_).toNat (List.drop at_.toNat b)))))))
abbrev H2(b:List Int)(at_ n:Int):Prop:=0≤at_∧0≤n∧at_+n≤b.length
def bJ(b:List Int)(at_ n:Int):List Int:=(b.drop at_.toNat).take n.toNat
def CN(b:List Int)(at_ n:Int):List Int:=if H2 b at_ n then bJ b at_ n else []
theorem H3(b:List Int){p m k:Int}(h1:0≤p)(h2:0≤m)(h3:0≤k):bJ b p (m+k)=bJ b p m++bJ b (p+m) k:=by
 unfold bJ;rw[show(m+k).toNat=m.toNat+k.toNat by omega,List.take_add,List.drop_drop,show(p+m).toNat=p.toNat+m.toNat by omega]
theorem j0{b:List Int}{p m:Int}(h:H2 b p m):(bJ b p m).length=m:=by
 obtain⟨h1,h2,h3⟩:=h;unfold bJ;rw[List.length_take,List.length_drop];omega
theorem pc{b:List Int}(h:aA b)(p n:Int):aA (bJ b p n):=(h.drop _).take _
theorem nR(b:List Int)(p:Int){m:Int}(h:m≤0):bJ b p m= []:=by
 unfold bJ;rw[show m.toNat=0 by omega,List.take_zero]
abbrev qC(at_ n:Int)(f:Fl)(b er:List Int):Prop:=b.length<1099511627776
abbrev Al(at_ n:Int)(f:Fl)(b er:List Int):ue:=CN b at_ n
def TZ:al:=bD [] (CK) (oV) (q3∘q2 qC) (q3∘q2 Al) TX TY
theorem H4(at_ n:Int)(f:Fl)(b er:List Int)(h_:qC at_ n f b er):(H0 at_ n f b er).Is (Al at_ n f b er):=by
 delta Al;have h:b.length<1099511627776:=h_;simp only[H0,ah,aD,ai,decide_eq_true_eq,decide_eq_false_iff_not,CN,H2,bJ];refine⟨h,fun c=>?_,fun c=>?_⟩
 ·have w:i64.wrap (at_+n)=at_+n:=ar (by omega) (by omega);rw[w,if_pos c,show(at_+n-at_).toNat=n.toNat by omega];exact⟨by omega,by rw[List.length_take,List.length_drop];omega,rfl⟩
 ·rw[if_neg c]
theorem H5:TZ.Ok Tryz.prog 25:=
 a5 mixed ((aj xu (aj iw aw))) func25 (by kernel_rfl) call25 (ks:= [.oU,.fr [.rd true u8],.fr [.sym],.syms,.auto,.ba]) (fun _ _=>aS.nil _) (fun _ _=>by kernel_rfl) fun x_ y_ h=>H4 x_.1 x_.2.1 y_.1 y_.2.1 y_.2.2.1 h
def CO(f:(Int×List Int)×Bool×Bool×Int):(Int×List Int)×Bool×Bool×Int:=f
abbrev uf:Type:=(List Int)×Int
abbrev T0(x:uf):LV:=LV.bV [VV.sc (SV.rd true false (Ty.int IntKind.u8) x.1),VV.sc (SV.int i64 (SI.sym x.2))]
abbrev T1(x:uf):List (Nat×Ev.Item):= []
def H6(at_:Int)(n:Int)(f:(Int×List Int)×Bool×Bool×Int)(b:List Int)(er:List Int):Tr (uf):=(.ite
 (f.snd.fst) (.ret ([],5)) (.need (mC at_ n (CO f) b er) (.ite (!decide (0≤at_∧0≤n∧at_+n≤(↑b.length:Int))) (.ret ([],2))
 (.need (qC at_ n (CO f) b er) (.ret (CN b at_ n,0))))))
abbrev qD(at_ n:Int)(f:Fl)(b er:List Int):Prop:=b.length<1099511627776
abbrev Am(at_ n:Int)(f:Fl)(b er:List Int):uf:=(if f.2.1=true then([],5)else if H2 b at_ n then(bJ b at_ n,0)else([],2))
def T2:al:=bD [] (CK) (oV) (q3∘q2 qD) (q3∘q2 Am) T0 T1
theorem H7(at_ n:Int)(f:Fl)(b er:List Int)(h_:qD at_ n f b er):(H6 at_ n f b er).Is (Am at_ n f b er):=by
 delta Am;have h:b.length<1099511627776:=h_;unfold H6;rw[az];simp only[ah,aD,ai,decide_eq_true_eq,decide_eq_false_iff_not,CN,H2];refine⟨fun c0=>by rw[if_pos c0],fun c0=>⟨h,fun c=>⟨h,?_⟩,fun c=>?_⟩⟩
 ·rw[if_pos c,if_pos c,if_neg (by rw[c0];decide)]
 ·rw[if_neg c,if_neg (by rw[c0];decide)]
theorem H8:T2.Ok Tryz.prog 71:=
 a5 mixed ((aj xu (aj H5 aw))) func71 (by kernel_rfl) call71 (ks:= [.oU,.fr [.rd true u8],.fr [.sym],.syms,.auto,.ba]) (fun _ _=>aS.nil _) (fun _ _=>by kernel_rfl) fun x_ y_ h=>H7 x_.1 x_.2.1 y_.1 y_.2.1 y_.2.2.1 h
abbrev cRg:aH (List SV) (Int×Int):=(aq (a6 0 0) (ab (ay .i64) (ab (ay .i64) ae))).jl (fun x=>(x.1,x.2.1)) (fun y=>(y.1,y.2,())) (fun _=>rfl)
abbrev pd:Type:=Bool
abbrev NI(x:pd):LV:=LV.one (VV.sc (SV.bool (SB.sym x)))
abbrev NJ(x:pd):List (Nat×Ev.Item):= []
def CP(first:Int)(count:Int)(n:Int):Tr (pd):=(.ite (decide (1≤count)==true) (.ite (decide (0≤first)==true)
 (.ite (decide (first≤n)==true) (.ret (decide (count≤i64.wrap (n-first)))) (.ret (false))) (.ret (false))) (.ret (false)))
abbrev nS(first count n:Int):Prop:=0≤n∧n<1099511627776
abbrev ug(first count n:Int):pd:=decide (1≤count∧0≤first∧first+count≤n)
def NK:al:=bD [] ((ab (ak (ay .i64)) (ab (ak (ay .i64)) (ab (ak (ay .i64)) ae)))) (ae) (q0∘q3 nS) (q0∘q3 ug) NI NJ
theorem EW(first count n:Int)(h_:nS first count n):(CP first count n).Is (ug first count n):=by
 delta ug;obtain⟨h1,h2⟩:=h_;simp only[CP,ah,aI,aL,aU,aJ,aC,aE,aM,aK,aN,a7,a9,aG,aD,ai]
 try simp only[az,ah,aI,aL,aU,aJ,aC,aE,aM,aK,aN,a7,a9,aG,aD,ai]
 grind [ar]
theorem EX:NK.Ok Tryz.prog 66:=
 a5 mixed aw func66 (by kernel_rfl) call66 (ks:=fH) (fun _ _=>aS.nil _) (fun _ _=>by kernel_rfl) fun x_ y_ h=>EW x_.1 x_.2.1 x_.2.2.1 h
abbrev iy(b er:List Int):Prop:=b.length=1024*er.length∧1≤er.length∧er.length≤256
abbrev uh(r:Int×Int)(er:List Int):Prop:=0≤r.1∧1≤r.2∧r.1+r.2≤er.length
abbrev ui:Type:=Unit
abbrev T3(x:ui):LV:=LV.bV [VV.agg [SV.cQ (Value.pointer none),SV.int i64 (SI.lit 0),SV.int i64 (SI.lit
 0)],VV.sc (SV.int i64 (SI.lit 1))]
abbrev T4(x:ui):List (Nat×Ev.Item):= []
abbrev uj:Type:=Int×Int
abbrev T5(x:uj):LV:=LV.bV [VV.agg [SV.ptr 0 0,SV.int i64 (SI.sym x.1),SV.int i64 (SI.sym x.2)],VV.sc
 (SV.int i64 (SI.lit 0))]
abbrev T6(x:uj):List (Nat×Ev.Item):= []
def H9(first:Int)(count:Int)(f:(Int×List Int)×Bool×Bool×Int)(b:List Int)(er:List Int):Tr (ui⊕uj):=
 (.need (jZ f b er) (.need (nS first count (i64.wrap (Int.tdiv (↑b.length:jY) 1024))) (.ite (!decide (1≤count∧0≤first∧
 first+count≤i64.wrap (Int.tdiv (↑b.length:jY) 1024))) (.ret (.inl ())) (.ret (.inr (first,count))))))
abbrev eU(first count:Int)(f:Fl)(b er:List Int):Prop:=iy b er
abbrev CQ(first count:Int)(f:Fl)(b er:List Int):Bool:= !decide (1≤count∧0≤first∧first+count≤er.length)
abbrev Ia(first count:Int)(f:Fl)(b er:List Int):ui:=()
abbrev Ib(first count:Int)(f:Fl)(b er:List Int):uj:=(first,count)
def YO:al:=CL [] (CK) (oV) (q3∘q2 eU) (q3∘q2 CQ) (q3∘q2 Ia) (q3∘q2 Ib) T3 T4 T5 T6
theorem NL(first count:Int)(f:Fl)(b er:List Int)(h_:eU first count f b er):(CQ first count f b er=true→(H9 first count f b er).Is (.inl (Ia first count f b er)))∧(CQ first count f b er=false→(H9 first count f b er).Is (.inr (Ib first count f b er))):=by
 delta CQ Ia Ib;obtain⟨h1,h2,h3⟩:=h_;have w:i64.wrap (Int.tdiv (b.length:Int) 1024)=er.length:=by rw[Int.tdiv_eq_ediv_of_nonneg (by omega),ar (by omega) (by omega)];omega
 simp only[H9,ah,aI,aL,aU,aJ,aC,aE,aM,aK,aN,a7,a9,aG,aD,ai]
 try simp only[az,ah,aI,aL,aU,aJ,aC,aE,aM,aK,aN,a7,a9,aG,aD,ai]
 grind [ar]
theorem uk:YO.Ok Tryz.prog 48:=
 Ag mixed ((aj mB (aj EX aw))) func48 (by kernel_rfl) call48 (ks:= [.auto,.ba]) (fun _ _=>aS.nil _) (fun _ _=>by kernel_rfl) fun x_ y_ h=>NL x_.1 x_.2.1 y_.1 y_.2.1 y_.2.2.1 h
abbrev rgA:aH (List LV) ((Int×Int)×Unit):=ab (fy cRg) ae
abbrev pe:Type:=Int
abbrev NM(x:pe):LV:=LV.one (VV.sc (SV.int i64 (SI.sym x)))
abbrev NN(x:pe):List (Nat×Ev.Item):= []
def CR(r:Int×Int)(f:(Int×List Int)×Bool×Bool×Int)(b:List Int)(er:List Int):Tr (pe):=(.ret
 (i64.wrap (r.snd*1024)))
abbrev pf:Type:=Int
abbrev NO(x:pf):LV:=LV.one (VV.sc (SV.int i64 (SI.sym x)))
abbrev NP(x:pf):List (Nat×Ev.Item):= []
def CS(r:Int×Int)(f:(Int×List Int)×Bool×Bool×Int)(b:List Int)(er:List Int):Tr (pf):=(.ret
 (i64.wrap (r.fst*1024)))
abbrev fO(r:Int×Int)(f:Fl)(b er:List Int):Prop:=0≤r.2∧r.2≤256
abbrev um(r:Int×Int)(f:Fl)(b er:List Int):pe:=1024*r.2
def NQ:al:=bD [] (rgA) (oV) (q3∘q1 fO) (q3∘q1 um) NM NN
theorem EY(r:Int×Int)(f:Fl)(b er:List Int)(h_:fO r f b er):(CR r f b er).Is (um r f b er):=by
 delta um;obtain⟨h1,h2⟩:=h_;simp only[CR,ai];rw[ar (by omega) (by omega),Int.mul_comm]
theorem sM:NQ.Ok Tryz.prog 97:=
 a5 mixed aw func97 (by kernel_rfl) call97 (ks:=fH) (fun _ _=>aS.nil _) (fun _ _=>by kernel_rfl) fun x_ y_ h=>EY x_.1 y_.1 y_.2.1 y_.2.2.1 h
abbrev nT(r:Int×Int)(f:Fl)(b er:List Int):Prop:=0≤r.1∧r.1≤256
abbrev uo(r:Int×Int)(f:Fl)(b er:List Int):pf:=1024*r.1
def NR:al:=bD [] (rgA) (oV) (q3∘q1 nT) (q3∘q1 uo) NO NP
theorem EZ(r:Int×Int)(f:Fl)(b er:List Int)(h_:nT r f b er):(CS r f b er).Is (uo r f b er):=by
 delta uo;obtain⟨h1,h2⟩:=h_;simp only[CS,ai];rw[ar (by omega) (by omega),Int.mul_comm]
theorem E0:NR.Ok Tryz.prog 72:=
 a5 mixed aw func72 (by kernel_rfl) call72 (ks:=fH) (fun _ _=>aS.nil _) (fun _ _=>by kernel_rfl) fun x_ y_ h=>EZ x_.1 y_.1 y_.2.1 y_.2.2.1 h
abbrev YP:aH (List LV) ((Int×Int)×Int×Int×Unit):=ab (fy cRg) (ab (ak (ay .i64)) (ab (ak (ay .i64)) ae))
abbrev inR(r:Int×Int)(at_ n:Int):Prop:=0≤at_∧0≤n∧at_+n≤1024*r.2
def pg(f:(Int×List Int)×Bool×Bool×Int):(Int×List Int)×Bool×Bool×Int:=f
abbrev uq:Type:=Int
abbrev T7(x:uq):LV:=LV.one (VV.sc (SV.int i64 (SI.sym x)))
abbrev T8(x:uq):List (Nat×Ev.Item):= []
def Ic(r:Int×Int)(at_:Int)(n:Int)(f:(Int×List Int)×Bool×Bool×Int)(b:List Int)(er:List Int):Tr (uq)
 :=(.need (mD (pg f) b er) (.ite (f.snd.fst) (.ret (5)) (.ite (decide (at_<0)==false) (.ite (decide (n<0)==false) (.need (fO r
 (pg f) b er) (.ite (decide (1024*r.snd<at_)==false) (.need (fO r (pg f) b er) (.ite (decide (i64.wrap (1024*r.snd-
 at_)<n)==false) (.ret (0)) (.ret (2)))) (.ret (2)))) (.ret (2))) (.ret (2)))))
abbrev qE(r:Int×Int)(at_ n:Int)(f:Fl)(b er:List Int):Prop:=0≤r.2∧r.2≤256
abbrev An(r:Int×Int)(at_ n:Int)(f:Fl)(b er:List Int):uq:=(if f.2.1=true then 5 else if inR r at_ n then 0 else 2)
def T9:al:=bD [] (YP) (oV) (q3∘q3 qE) (q3∘q3 An) T7 T8
theorem Ie(r:Int×Int)(at_ n:Int)(f:Fl)(b er:List Int)(h_:qE r at_ n f b er):(Ic r at_ n f b er).Is (An r at_ n f b er):=by
 delta An;obtain⟨h1,h2⟩:=h_;simp only[Ic,pg,ah,aI,aL,aU,aJ,aC,aE,aM,aK,aN,a7,a9,aG,aD,ai]
 try simp only[az,ah,aI,aL,aU,aJ,aC,aE,aM,aK,aN,a7,a9,aG,aD,ai]
 grind [ar]
theorem Ig:T9.Ok Tryz.prog 70:=
 a5 mixed ((aj ud (aj sM aw))) func70 (by kernel_rfl) call70 (ks:=fH) (fun _ _=>aS.nil _) (fun _ _=>by kernel_rfl) fun x_ y_ h=>Ie x_.1 x_.2.1 x_.2.2.1 y_.1 y_.2.1 y_.2.2.1 h
def mE(f:(Int×List Int)×Bool×Bool×Int):(Int×List Int)×Bool×Bool×Int:=f
def qF(r:Int×Int)(at_:Int)(n:Int)(f:(Int×List Int)×Bool×Bool×Int)(b:List Int)(er:List Int):Int:=if
 f.snd.fst=true then 5 else if 0≤at_∧0≤n∧at_+n≤1024*r.snd then 0 else 2
def qG(r:Int×Int)(at_:Int)(n:Int)(f:(Int×List Int)×Bool×Bool×Int)(b:List Int)(er:List Int):List Int×
 Int:=if f.snd.fst=true then([],5)else if 0≤i64.wrap (1024*r.fst+at_)∧0≤n∧i64.wrap (1024*r.fst+at_)+n≤
 (↑b.length:Int)then(bJ b (i64.wrap (1024*r.fst+at_)) n,0)else([],2)
abbrev ph:Type:=(List Int)×Int
abbrev NS(x:ph):LV:=LV.bV [VV.sc (SV.rd true false (Ty.int IntKind.u8) x.1),VV.sc (SV.int i64 (SI.sym x.2))]
abbrev NT(x:ph):List (Nat×Ev.Item):= []
def CT(r:Int×Int)(at_:Int)(n:Int)(f:(Int×List Int)×Bool×Bool×Int)(b:List Int)(er:List Int):Tr
 (ph):=(.need (qE r at_ n (mE f) b er) (.ite (qF r at_ n f b er !=0) (.ret ([],qF r at_ n f b er)) (.need (nT r
 (mE f) b er) (.need (qD (i64.wrap (1024*r.fst+at_)) n (mE f) b er) (.ret ((qG r at_ n f b er).fst,(qG r at_
 n f b er).snd))))))
abbrev dU(r:Int×Int)(at_ n:Int)(f:Fl)(b er:List Int):Prop:=iy b er∧uh r er
abbrev ur(r:Int×Int)(at_ n:Int)(f:Fl)(b er:List Int):ph:=(if f.2.1=true then([],5)else if inR r at_ n then(bJ b (1024*r.1+at_) n,0)else([],2))
def NU:al:=bD [] (YP) (oV) (q3∘q3 dU) (q3∘q3 ur) NS NT
theorem E1(r:Int×Int)(at_ n:Int)(f:Fl)(b er:List Int)(h_:dU r at_ n f b er):(CT r at_ n f b er).Is (ur r at_ n f b er):=by
 delta ur;obtain⟨⟨h1,h2,h3⟩,h4,h5,h6⟩:=h_;simp only[CT,mE,qF,qG,ah,aI,aL,aU,aJ,aC,aE,aM,aK,aN,a7,a9,aG,aD,ai]
 try simp only[az,ah,aI,aL,aU,aJ,aC,aE,aM,aK,aN,a7,a9,aG,aD,ai]
 grind [ar]
theorem kA:NU.Ok Tryz.prog 51:=
 a5 mixed ((aj Ig (aj E0 (aj H8 aw)))) func51 (by kernel_rfl) call51 (ks:= [.oU,.fr [.rd true u8],.fr [.sym],.syms,.auto,.ba]) (fun _ _=>aS.nil _) (fun _ _=>by kernel_rfl) fun x_ y_ h=>E1 x_.1 x_.2.1 x_.2.2.1 y_.1 y_.2.1 y_.2.2.1 h
abbrev NV:aH (List SV) (List (List Int)×Int):=(ab (g9 false false (.arr u8 32)) (ab (ay .i64) ae)).jl (fun x=>(x.1,x.2.1)) (fun y=>(y.1,y.2,())) (fun _=>rfl)
abbrev cfA:aH (List LV) ((List (List Int)×Int)×Unit):=ab (fy NV) ae
abbrev Ih:aH (List LV) ((List (List Int)×Int)×Unit):=aq (ak (a6 0 0)) (ab (fy NV) ae)
abbrev YQ:aH (List LV) ((List (List Int)×Int)×Int×Unit):=aq (ak (a6 0 0)) (ab (fy NV) (ab (ak (ay .i64)) ae))
abbrev lz(c:List (List Int)×Int):Prop:=1≤c.1.length∧c.1.length≤8∧3≤c.2∧c.2≤100
def bC(c:List (List Int)×Int):Int:=if lz c then 1024*(c.2-2)else 0
abbrev j1(c:List (List Int)×Int)(er:List Int):Prop:=lz c∧2+2*c.2≤er.length
def qH(c:List (List Int)×Int):Int:=(↑c.fst.length:Int)
abbrev pj:Type:=Bool
abbrev NW(x:pj):LV:=LV.one (VV.sc (SV.bool (SB.sym x)))
abbrev NX(x:pj):List (Nat×Ev.Item):= []
def CU(c:List (List Int)×Int):Tr (pj):=(.ite (decide (1≤qH c)==true) (.ite (decide (qH c≤8)==true)
 (.ite (decide (3≤c.snd)==true) (.ret (decide (c.snd≤100))) (.ret (false))) (.ret (false))) (.ret (false)))
abbrev fP(c:List (List Int)×Int):Prop:=True
abbrev uu(c:List (List Int)×Int):pj:=decide (lz c)
def NY:al:=bD [some (.arr u8 32)] (cfA) (ae) (q0∘q1 fP) (q0∘q1 uu) NW NX
theorem E2(c:List (List Int)×Int)(h_:fP c):(CU c).Is (uu c):=by
 delta uu;simp only[CU,qH,ah,aI,aL,aU,aJ,aC,aE,aM,aK,aN,a7,a9,aG,aD,ai]
 try simp only[az,ah,aI,aL,aU,aJ,aC,aE,aM,aK,aN,a7,a9,aG,aD,ai]
 grind [ar]
theorem nV:NY.Ok Tryz.prog 21:=
 a5 mixed aw func21 (by kernel_rfl) call21 (ks:=fH) (fun _ _=>aS.nil _) (fun _ _=>by kernel_rfl) fun x_ y_ h=>E2 x_.1 h
abbrev uv:Type:=Int
abbrev Ua(x:uv):LV:=LV.one (VV.sc (SV.int i64 (SI.sym x)))
abbrev Ub(x:uv):List (Nat×Ev.Item):= []
def Ii(c:List (List Int)×Int):Tr (uv):=(.need (fP c) (.ite (!decide (1≤c.fst.length∧c.fst.length≤8∧3≤
 c.snd∧c.snd≤100)) (.ret (0)) (.ret (i64.wrap (i64.wrap (c.snd-2)*1024)))))
abbrev qI(c:List (List Int)×Int):Prop:=True
abbrev Ao(c:List (List Int)×Int):uv:=bC c
def Uc:al:=bD [some (.arr u8 32)] (cfA) (ae) (q0∘q1 qI) (q0∘q1 Ao) Ua Ub
theorem Ij(c:List (List Int)×Int)(h_:qI c):(Ii c).Is (Ao c):=by
 delta Ao;simp only[Ii,bC,ah,aI,aL,aU,aJ,aC,aE,aM,aK,aN,a7,a9,aG,aD,ai]
 try simp only[az,ah,aI,aL,aU,aJ,aC,aE,aM,aK,aN,a7,a9,aG,aD,ai]
 grind [ar]
theorem Ik:Uc.Ok Tryz.prog 27:=
 a5 mixed ((aj nV aw)) func27 (by kernel_rfl) call27 (ks:=fH) (fun _ _=>aS.nil _) (fun _ _=>by kernel_rfl) fun x_ y_ h=>Ij x_.1 h
abbrev uw:Type:=Bool
abbrev Ud(x:uw):LV:=LV.one (VV.sc (SV.bool (SB.sym x)))
abbrev Ue(x:uw):List (Nat×Ev.Item):= []
def Il(c:List (List Int)×Int)(f:(Int×List Int)×Bool×Bool×Int)(b:List Int)(er:List Int):Tr (uw):=(.need
 (fP c) (.ite (decide (1≤c.fst.length∧c.fst.length≤8∧3≤c.snd∧c.snd≤100)==true) (.need (jZ f b er) (.ret (decide
 (i64.wrap (2+i64.wrap (2*c.snd))≤i64.wrap (Int.tdiv (↑b.length:jY) 1024))))) (.ret (false))))
abbrev j3(c:List (List Int)×Int)(f:Fl)(b er:List Int):Prop:=iy b er
abbrev Ap(c:List (List Int)×Int)(f:Fl)(b er:List Int):uw:=decide (j1 c er)
def Uf:al:=bD [none,some (.arr u8 32)] (Ih) (oV) (q3∘q1 j3) (q3∘q1 Ap) Ud Ue
theorem Im(c:List (List Int)×Int)(f:Fl)(b er:List Int)(h_:j3 c f b er):(Il c f b er).Is (Ap c f b er):=by
 delta Ap;obtain⟨h1,h2,h3⟩:=h_;simp only[Il,ah,aI,aL,aU,aJ,aC,aE,aM,aK,aN,a7,a9,aG,aD,ai]
 try simp only[az,ah,aI,aL,aU,aJ,aC,aE,aM,aK,aN,a7,a9,aG,aD,ai]
 grind [ar]
theorem xw:Uf.Ok Tryz.prog 47:=
 a5 mixed ((aj nV (aj mB aw))) func47 (by kernel_rfl) call47 (ks:=fH) (fun _ _=>aS.nil _) (fun _ _=>by kernel_rfl) fun x_ y_ h=>Im x_.1 y_.1 y_.2.1 y_.2.2.1 h
def kB(f:(Int×List Int)×Bool×Bool×Int):(Int×List Int)×Bool×Bool×Int:=f
abbrev pk:Type:=Unit
abbrev NZ(x:pk):LV:=LV.bV [VV.agg [SV.cQ (Value.pointer none),SV.int i64 (SI.lit 0),SV.int i64
 (SI.lit 0)],VV.sc (SV.int i64 (SI.lit 1))]
abbrev N0(x:pk):List (Nat×Ev.Item):= []
abbrev pn:Type:=Int×Int
abbrev N1(x:pn):LV:=LV.bV [VV.agg [SV.ptr 0 0,SV.int i64 (SI.sym x.1),SV.int i64 (SI.sym x.2)],VV.sc
 (SV.int i64 (SI.lit 0))]
abbrev N2(x:pn):List (Nat×Ev.Item):= []
def qJ(c:List (List Int)×Int)(slot:Int)(f:(Int×List Int)×Bool×Bool×Int)(b:List Int)(er:List Int):Tr
 (pk⊕pn):=(.need (j3 c (kB f) b er) (.ite ((!decide ((1≤c.fst.length∧c.fst.length≤8∧3≤c.snd∧c.snd≤100)∧(2:
 Int)+2*c.snd≤(↑er.length:Int)))==false) (.ite (decide (slot<0)==false) (.ite (decide (2≤slot)) (.ret (.inl ())) (.ite (!decide (1≤
 c.snd∧0≤i64.wrap (2+i64.wrap (slot*c.snd))∧i64.wrap (2+i64.wrap (slot*c.snd))+c.snd≤(↑er.length:
 Int))) (.need (eU (i64.wrap (2+i64.wrap (slot*c.snd))) c.snd (kB f) b er) (.ret (.inl ()))) (.need (eU
 (i64.wrap (2+i64.wrap (slot*c.snd))) c.snd (kB f) b er) (.ret (.inr (i64.wrap (2+i64.wrap (slot*c.snd)),
 c.snd)))))) (.ret (.inl ()))) (.ret (.inl ()))))
abbrev ga(c:List (List Int)×Int)(slot:Int)(f:Fl)(b er:List Int):Prop:=iy b er
abbrev ux(c:List (List Int)×Int)(slot:Int)(f:Fl)(b er:List Int):Bool:= !decide (j1 c er∧0≤slot∧slot<2)
abbrev Aq(c:List (List Int)×Int)(slot:Int)(f:Fl)(b er:List Int):pk:=()
abbrev Ar(c:List (List Int)×Int)(slot:Int)(f:Fl)(b er:List Int):pn:=(2+slot*c.2,c.2)
def Ug:al:=CL [none,some (.arr u8 32),none] (YQ) (oV) (q3∘q2 ga) (q3∘q2 ux) (q3∘q2 Aq) (q3∘q2 Ar) NZ N0 N1 N2
theorem Io(c:List (List Int)×Int)(slot:Int)(f:Fl)(b er:List Int)(h_:ga c slot f b er):(ux c slot f b er=true→(qJ c slot f b er).Is (.inl (Aq c slot f b er)))∧(ux c slot f b er=false→(qJ c slot f b er).Is (.inr (Ar c slot f b er))):=by
 delta ux Aq Ar;obtain⟨h1,h2,h3⟩:=h_
 by_cases s0:slot=0
 ·subst s0;simp only[qJ,kB,ah,aI,aL,aU,aJ,aC,aE,aM,aK,aN,a7,a9,aG,aD,ai]
  try simp only[az,ah,aI,aL,aU,aJ,aC,aE,aM,aK,aN,a7,a9,aG,aD,ai]
  grind [ar]
 ·by_cases s1:slot=1
  ·subst s1;simp only[qJ,kB,ah,aI,aL,aU,aJ,aC,aE,aM,aK,aN,a7,a9,aG,aD,ai]
   try simp only[az,ah,aI,aL,aU,aJ,aC,aE,aM,aK,aN,a7,a9,aG,aD,ai]
   grind [ar]
  ·have hq:¬ (j1 c er∧0≤slot∧slot<2):=(by omega);rw[decide_eq_false hq];refine⟨fun _=>?_,fun h=>by cases h⟩;clear hq;simp only[qJ,kB,ah,aI,aL,aU,aJ,aC,aE,aM,aK,aN,a7,a9,aG,aD,ai]
   try simp only[az,ah,aI,aL,aU,aJ,aC,aE,aM,aK,aN,a7,a9,aG,aD,ai]
   grind [ar]
theorem xx:Ug.Ok Tryz.prog 50:=
 Ag mixed ((aj xw (aj uk aw))) func50 (by kernel_rfl) call50 (ks:= [.auto,.ba]) (fun _ _=>aS.nil _) (fun _ _=>by kernel_rfl) fun x_ y_ h=>Io x_.1 x_.2.1 y_.1 y_.2.1 y_.2.2.1 h
end Go.Proofs.YtmhcoaflmgajhaaGreat
end
noncomputable section
namespace Go.Proofs.YtmhcoaflmgajhaaGreat
open Go Go.Ev Go.ChangeShapes Go.WideShapes Go.ChangeAt Go.RowKit Go.Proofs.Tryz
open Go.IntKind (i64 signed u32 u64 wrap wrap_u32)
set_option maxRecDepth 100000
theorem Ip{H:Type}{enc:TypeId×Value→H}{W:World}{base:Nat}{v:Value}{d:DataW H}{p:List MemPlace}
  (lg:Value.okWide Tryz.prog W .any base 24 v) (h:DataW.Trod enc Tryz.prog W 0 (fun _=>true) true 24 v d p):
  ∃m:List (List Int)×Int,(∀k:Nat,k<m.1.length→(m.1.getD k (List.replicate 32 0)).length=32∧aA (m.1.getD k (List.replicate 32 0)))∧(LV.one (.agg (NV.wr m))).den (tU W) (kd []) v:=by
 unfold Value.okWide at lg;rw[underlying24]at lg;obtain⟨cs,rfl,_,_⟩:=lg;obtain⟨fuel,h⟩:=h;simp only[Value.cells]at h;obtain⟨xs,m,_,_,hl,hlen,hf⟩:=DataW.trod_struct underlying24 h;obtain⟨cs⟩:=cs;have c2:Tryz.prog.cellsOf 24=2:=by kernel_rfl
 have c1:Tryz.prog.cellsOf 3=1:=by kernel_rfl
 have c3:Tryz.prog.cellsOf 22=1:=by kernel_rfl
 have f1:mz Tryz.prog 10 3=some [.int .i64]:=by kernel_rfl
 simp only at hl hlen hf;have hn:cs.length=2:=by rw[← c2];first|exact hl|exact hlen|omega
 have hx:xs.length=2:=by first|exact hl|exact hlen|omega
 match cs,hn with
 | [a,b],_=>
  have g0:=hf 0 _ rfl;have g1:=hf 1 _ rfl;rw[List.getElem?_eq_getElem (by omega)]at g0 g1;have k1:=iN 10 f1 g1;obtain⟨l,w,k3,kb,k4⟩:=HK g0
  cases k1 with
  |cons q1 _=>
   obtain⟨z1,rfl,w1⟩:=q1;have k3: [a,_].take (Tryz.prog.cellsOf 22)= [w]:=k3;rw[c3]at k3;have k3:a=w:=(by simpa using k3);subst k3;exact⟨(l,z1),kb,_,rfl,aP.dX k4 (aP.dX rfl .nil)⟩
end Go.Proofs.YtmhcoaflmgajhaaGreat
end
noncomputable section
namespace Go.Proofs.YtmhcoaflmgajhaaGreat
open Go Go.Ev Go.Proofs.Tryz
open Go.IntKind (i64 signed u32 u64 wrap wrap_u32)
set_option maxRecDepth 100000
abbrev kyA:aH (List LV) (List (List Int)×Unit):=ab (ak (g9 false false (.arr u8 32))) ae
def YR:al:=al.cl [some (.arr u8 32)] kyA ae fun x _=>.leaf (some (x.1.length≤1000000)) (.one (.sc (.rd true false (.arr u8 32) x.1))) []
theorem As:bc Tryz.prog [] [] f22 [.one (.sc (.cQ (.slice none 0 0)))] [] [.qx 0 (.arr u8 32),.auto]=
 End.leaf (LV.one (VV.sc (SV.rd true false ((Ty.int IntKind.u8).arr (32:Nat)) []))) []:=by kernel_rfl
theorem At(l:List (List Int)):bc Tryz.prog [] [] f22 [.one (.sc (.rd false true (.arr u8 32) l))] [] [.qx 0 (.arr u8 32),.auto]=
 End.need (((0:Nat)+l.length)*(32:Nat)≤(70368744177664:Nat)∧(0:Nat)+l.length≤(70368744177664:Nat)) (End.leaf (LV.one (VV.sc (SV.rd
 true false ((Ty.int IntKind.u8).arr (32:Nat)) ([]++l)))) []):=by kernel_rfl
theorem CV:YR.Ok Tryz.prog 22:=by
 refine(al.bb call22 fun x y Q h=>?_).sym;obtain⟨l,_⟩:=x;obtain⟨hl,hq⟩:=h;have hl:l.length≤1000000:=hl;refine dM.CF (x:= []) (y:= []) (fun e=>?_) ?_
 ·subst e;refine(au mixed aw func22 rfl (LT:= []) (ks:= [.qx 0 (.arr u8 32),.auto]) (aS.nil _)).use (D:= []) ?_ hq;show(bc _ _ _ _ [.one (.sc (.cQ (.slice none 0 0)))] [] _).sat _;rw[As];exact⟨rfl,rfl⟩
 ·refine(au mixed aw func22 rfl (LT:= []) (ks:= [.qx 0 (.arr u8 32),.auto]) (aS.nil _)).use (D:= []) ?_ hq;show(bc _ _ _ _ [.one (.sc (.rd false true (.arr u8 32) l))] [] _).sat _;rw[At];exact⟨⟨by omega,by omega⟩,rfl,rfl⟩
end Go.Proofs.YtmhcoaflmgajhaaGreat
end
noncomputable section
namespace Go.Proofs.YtmhcoaflmgajhaaGreat
open Go Go.Ev Go.Lib Go.RowKit Go.Proofs.Tryz
open Go.IntKind (i64 signed u32 u64 wrap wrap_u32)
set_option maxHeartbeats 4000000
theorem E3(w:World):Calls Tryz.prog 109 #[.slice none 0 0,.int .i64 0] w fun e w'=>e= .returned (.slice none 0 0)∧w'=w:=by
 go_enter func109,ntmps109
 go_wp2
 go_ret
 exact⟨rfl,rfl⟩
theorem E4(n:Nat)(w:World)(h0:0<n)(h1:n≤140737488355328):Calls Tryz.prog 109 #[.slice none 0 0,.int .i64 n] w fun e w'=>
  e= .returned (.slice (some ⟨w.heap.size,0,none⟩) 0 (grownCap w n 0 5))∧
   w'=w.drew.alloc (.cells (#[]++Builtin.zeroCells (Value.int .u8 0).cells n++Builtin.zeroCells (Value.int .u8 0).cells (grownCap w n 0 5-n)) 5):=by
 have h2:¬ ((n:Int)<0):=by omega
 have h3:wrap64 ((0:Int)-(0:Int))=0:=by unfold wrap64;omega
 have h4:wrap64 ((n:Int)-0)=(n:Int):=by unfold wrap64;omega
 have h5:(n:Int)>0:=by omega
 have air:grownCap w n 0 5≤9223372036854775807:=by
  have:=grownCap_le_maxLen w n 0 5 (by unfold maxLen;omega);unfold maxLen at this;omega
 have hrz:∀ty,(Builtin.append_ #[25,3] ty #[.slice none 0 0,.int .i64 n]).run Tryz.prog w=
   .ok (.slice (some ⟨w.heap.size,0,none⟩) n (grownCap w n 0 5)) (w.drew.alloc (.cells (#[]++Builtin.zeroCells (Value.int .u8 0).cells n++Builtin.zeroCells (Value.int .u8 0).cells (grownCap w n 0 5-n)) 5)):=fun ty=>by
  have hi0:(Tryz.prog.info? 5).map (fun i=>(i.zero,i.size,i.bytes))=some (some (.int .u8 0),1,1):=by kernel_rfl
  obtain⟨i,hi,he⟩:=map_some hi0;have e1:i.zero=some (.int .u8 0):=congrArg Prod.fst he;have e2:i.size=1:=congrArg (fun x=>x.2.1) he;have e3:i.bytes=1:=congrArg (fun x=>x.2.2) he;have hb:n*i.bytes≤140737488355328:=by rw[e3];omega
  have h:=Lib.run_append_grow_zeros (P:=Tryz.prog) w 25 3 ty 5 i (.int .u8 0) .i64 .i64 (by kernel_rfl) (by kernel_rfl) hi e1 none 0 0 [] (run_firstCells_none w.drew i.size 0 0 0) n h0 (by omega) (by omega) (by omega) (by omega)
   (growslice_fits (need:=0+n) (old:=0) (by omega) (by rw[Nat.zero_add];exact hb))
  rw[Nat.zero_add]at h;exact h
 have hGn:n≤grownCap w n 0 5:=grownCap_ge w _ _ _;generalize grownCap w n 0 5=G at*
 go_enter func109,ntmps109
 go_wp2_with (at_builtin;refine Lib.wpList_append_run _ rfl _ _ _ _ rfl _ _ rfl rfl _ _ (hrz _) ?_)
 all_goals (go_ret;exact⟨rfl,rfl⟩)
def Iq:al:=⟨[],fun args hp=>match args,hp with
 | [.one (.sc (.cQ (.slice none 0 0))),.one (.sc (.int .i64 n))],[]=>.leaf (some (0≤n.val∧n.val≤140737488355328)) (.one (.sc (.sl 0 0))) [(0,.own 0 (.int .u8) [])]
 |_,_=>.fail⟩
theorem N3:Iq.Ok Tryz.prog 109:=by
 refine⟨fun args hp Q h=>dM.done call109 ?_⟩;simp only[Iq]at h
 split at h
 ·rename_i args hp n;obtain⟨⟨h0,h1⟩,hq⟩:=h;intro β w vals hh cq
  cases cq with
  |cons a1 t1=>
   cases t1 with
   |cons a2 t2=>
    cases t2
    rename_i v1 v2;obtain rfl:v1= .slice none 0 0:=a1.2;have e:v2= .int .i64 n.val:=a2;subst e;rcases Int.lt_or_le 0 n.val with hn|hn
    ·obtain⟨k,hk⟩:∃k:Nat,n.val=k:=⟨n.val.toNat,by omega⟩;rw[hk]at h0 h1 hn ⊢;refine(E4 k w (by omega) (by omega)).mono ?_
     rintro e w' ⟨rfl,rfl⟩
     have hGn:k≤grownCap w k 0 5:=grownCap_ge w _ _ _;generalize grownCap w k 0 5=G at*;generalize G5:(#[]++Builtin.zeroCells (Value.int .u8 0).cells k++Builtin.zeroCells (Value.int .u8 0).cells (G-k))=cs
     have hlen:cs.toList.length=G:=by
      rw[← G5];simp[Builtin.zeroCells,Value.cells];omega
     have hdr:aQ w [] β β [] w.drew:=hh.drew _ _
     obtain⟨β',k1,k2,k3⟩:=hdr.jM (id:=0) rfl (v:=.slice (some ⟨w.heap.size,0,none⟩) 0 G) (ver:=0) (t:=.int .u8) (l:= []) (w':=w.drew.alloc (.cells cs 5)) (by simp) rfl rfl (fun b hb=>heap_alloc_old w.drew _ hb)
      ⟨_,_,_,rfl,rfl,Nat.zero_le _,fun e=>(by cases e),fun _=>⟨_,[],[],cs.toList,5,(0,0),rfl,rfl,by simpa using heap_alloc_new w.drew (.cells cs 5),rfl,.nil,by simp[Ty.w,hlen],.inl rfl⟩⟩
      (fun a n c e _=>by cases e;exact Nat.le_refl _)
     exact⟨_,β',_,_,rfl,⟨_,hq,rfl⟩,⟨rfl,0,by rw[show ax _ []=setAt [] 0 _ from rfl,bR,if_pos rfl];rfl,Nat.le_refl _,fun _=>k3.symm⟩,k1⟩
    ·have o6:n.val=0:=(by omega);rw[o6];refine(E3 w).mono ?_
     rintro e w' ⟨rfl,rfl⟩
     obtain⟨β',k1,k2,k3⟩:=hh.Ab (.int .u8);exact⟨_,β',_,_,rfl,⟨_,hq,rfl⟩,k3,k1⟩
 ·exact h.elim
end Go.Proofs.YtmhcoaflmgajhaaGreat
end
noncomputable section
namespace Go.Proofs.YtmhcoaflmgajhaaGreat
open Go Go.Ev Go.Proofs.Tryz
open Go.IntKind (i64 signed u32 u64 wrap wrap_u32)
set_option maxRecDepth 100000
noncomputable section
abbrev xy:Func:=f78
abbrev xz:aH (List LV) (List (List Int)×Int×List (List Int)×Int×Int×Unit):=ab (ak (g9 false false (.sl u8))) (jk 2 (ab (ak (ay .i64)) (jk 5 (ab (ak (g9 false false (.sl u8))) (ab (ak (ay .i64)) (ab (ak (ay .i64)) (jk 24 ae)))))))
abbrev Rk:List Wk:= [.fr (cR 36 [(0,.ao),(3,.sym),(9,.ao),(10,.sym),(11,.sym)])]
abbrev Ir:aH (List LV) (List (List Int)×Int×Unit):=ab (ak (g9 false false (.sl u8))) (jk 2 (ab (ak (ay .i64)) (jk 32 ae)))
abbrev YS:List Wk:= [.fr (cR 36 [(0,.ao),(3,.sym)])]
theorem It(l0 ls:List (List Int))(s n i:Int):gV Tryz.prog [] [] xy 0 [] (wsE Rk 0 YS) ((bq xz ae).wr ((l0,s,ls,n,i,()),()))=
  .ite (decide (i<n)) (.need (0≤i∧i<ls.length) (.ite (decide (i64.wrap (s+(ls.getD i.toNat []).length)<0)) .fail
   (.leaf .normal ((bq xz ae).wr ((l0,i64.wrap (s+(ls.getD i.toNat []).length),ls,n,i64.wrap (i+1),()),())))))
   (.leaf (.exit 0) ((bq Ir ae).wr ((l0,s,()),()))):=by kernel_rfl
theorem sN(ls:List (List Int))(i:Nat)(h:i<ls.length):(ls.take (i+1)).flatten=(ls.take i).flatten++ls.getD i []:=by
 rw[List.take_add_one,List.flatten_append,List.getD_eq_getElem?_getD,List.getElem?_eq_getElem h];simp
theorem uy(ls:List (List Int))(i:Nat):(ls.take i).flatten.length≤ls.flatten.length:=by
 have:ls.flatten=(ls.take i).flatten++(ls.drop i).flatten:=by rw[← List.flatten_append,List.take_append_drop]
 rw[this,List.length_append];omega
def Rl(x:(List (List Int)×Int×List (List Int)×Int×Int×Unit)×Unit):aV:=
 .need (x.1.2.1=0∧x.1.2.2.2.1=x.1.2.2.1.length∧x.1.2.2.2.2.1=0∧x.1.2.2.1.flatten.length≤140737488355328∧x.1.2.2.1.length≤140737488355328) (.leaf (.exit 0) ((bq Ir ae).wr ((x.1.1,(x.1.2.2.1.flatten.length:Int),()),())))
theorem E5(x):Ex Tryz.prog [] (.loop (aY xy 0)) ((bq xz ae).wr x) (Rl x):=by
 obtain⟨⟨l0,s,ls,n,i,_⟩,_⟩:=x;refine Ex.need fun⟨h1,h2,h3,h4,h5⟩=>?_;simp only at h1 h2 h3 h4 h5;subst h1 h2 h3
 refine CH mixed aw (aS.nil _) (fun k=>ls.length-k) (fun k:Nat=>(bq xz ae).wr ((l0,((ls.take k).flatten.length:Int),ls,(ls.length:Int),(k:Int),()),())) (fun k=>k≤ls.length)
  (fun k=>.leaf (.exit 0) ((bq Ir ae).wr ((l0,(ls.flatten.length:Int),()),()))) (fun k _=>It l0 ls _ _ _) (fun k R hk hs=>?_) 0 (Nat.zero_le _)
 ·have hle:=uy ls k;refine⟨fun hb=>?_,fun hb=>?_⟩
  ·have dE:k<ls.length:=(by simpa using hb);have TG:=sN ls k dE;have aey:=uy ls (k+1);have hlen:((ls.take (k+1)).flatten.length:Int)=(ls.take k).flatten.length+(ls.getD k []).length:=(by rw[TG,List.length_append];omega);refine⟨⟨by omega,by omega⟩,fun rQ=>?_,fun _=>.inl ⟨rfl,k+1,?_,dE,by omega,hs⟩⟩
   ·rw[ar (by omega) (by simp only[Int.toNat_natCast];omega)]at rQ;simp at rQ;omega
   ·rw[ar (by omega) (by simp only[Int.toNat_natCast];omega),ar (by omega) (by omega)];simp only[Int.toNat_natCast];rw[← hlen];rfl
  ·have hge:k=ls.length:=(by simp at hb;omega);subst hge;rw[List.take_length];exact .inr ⟨by simp,hs⟩
abbrev xA:aH (List LV) (List (List Int)×Int×Int×Unit):=jk 6 (aq (ak (sI 0 0)) (jk 18 (ab (ak (g9 false false (.sl u8))) (ab (ak (ay .i64)) (ab (ak (ay .i64)) (jk 8 ae))))))
abbrev Rm:List Wk:= [.fr (cR 36 [(6,.ao),(25,.ao),(26,.sym),(27,.sym)]),.auto,.ba]
abbrev Iu:aH (List LV) Unit:=jk 6 (aq (ak (sI 0 0)) (jk 29 ae))
abbrev YT:List Wk:= [.fr (cR 36 [(6,.ao)]),.auto,.ba]
abbrev xB:aH Hp (List Int×Unit):=ab (dq 0 u8) ae
theorem Iv(ls:List (List Int))(acc:List Int)(n i:Int):gV Tryz.prog [] [] xy 2 [] (wsE Rm 2 YT) ((bq xA xB).wr ((ls,n,i,()),(acc,())))=
  .ite (decide (i<n)) (.need (0≤i∧i<ls.length) (.need ((acc.length+(ls.getD i.toNat []).length)*1≤70368744177664∧acc.length+(ls.getD i.toNat []).length≤70368744177664)
   (.leaf .normal ((bq xA xB).wr ((ls,n,i64.wrap (i+1),()),(acc++ls.getD i.toNat [],()))))))
   (.leaf (.exit 2) ((bq Iu xB).wr ((),(acc,())))):=by kernel_rfl
def Rn(x:(List (List Int)×Int×Int×Unit)×List Int×Unit):aV:=
 .need (x.1.2.1=x.1.1.length∧x.1.2.2.1=0∧x.2.1= []∧x.1.1.flatten.length≤70368744177664∧x.1.1.length≤140737488355328) (.leaf (.exit 2) ((bq Iu xB).wr ((),(x.1.1.flatten,()))))
theorem E6(x):Ex Tryz.prog [] (.loop (aY xy 2)) ((bq xA xB).wr x) (Rn x):=by
 obtain⟨⟨ls,n,i,_⟩,acc,_⟩:=x;refine Ex.need fun⟨h2,h3,h1,h4,h5⟩=>?_;simp only at h1 h2 h3 h4 h5;subst h1 h2 h3
 refine CH mixed aw (aS.nil _) (fun k=>ls.length-k) (fun k:Nat=>(bq xA xB).wr ((ls,(ls.length:Int),(k:Int),()),((ls.take k).flatten,()))) (fun k=>k≤ls.length)
  (fun k=>.leaf (.exit 2) ((bq Iu xB).wr ((),(ls.flatten,())))) (fun k _=>Iv ls _ _ _) (fun k R hk hs=>?_) 0 (Nat.zero_le _)
 refine⟨fun hb=>?_,fun hb=>?_⟩
 ·have dE:k<ls.length:=by simpa using hb
  have TG:=sN ls k dE;have aey:=uy ls (k+1);have hlen:(ls.take (k+1)).flatten.length=(ls.take k).flatten.length+(ls.getD k []).length:=by rw[TG,List.length_append]
  refine⟨⟨by omega,by omega⟩,⟨by simp only[Int.toNat_natCast];omega,by simp only[Int.toNat_natCast];omega⟩,.inl ⟨rfl,k+1,?_,dE,by omega,hs⟩⟩;rw[ar (by omega) (by omega)];simp only[Int.toNat_natCast];rw[← TG];rfl
 ·have hge:k=ls.length:=by simp at hb;omega
  subst hge;rw[List.take_length];exact .inr ⟨by simp,hs⟩
abbrev Uh:aH (List LV) (List (List Int)×Unit):=ab (ak (g9 false false (.sl u8))) ae
def N4:al:=al.cl [some (.sl u8)] Uh ae fun x _=>.leaf (some (x.1.flatten.length≤70368744177664∧x.1.length≤140737488355328)) (.one (.sc (.sl 0 0))) [(0,.own 0 u8 x.1.flatten)]
abbrev Ro:dd:= [(0,dA (bq xz ae) 0 Rk Rl),(2,dA (bq xA xB) 0 Rm Rn)]
theorem Iw(ls:List (List Int)):bc Tryz.prog [(109,Iq)] Ro xy (Uh.wr (ls,())) [] [.auto,.ba]=
  .need ((0:Int)=0∧(ls.length:Int)=ls.length∧(0:Int)=0∧ls.flatten.length≤140737488355328∧ls.length≤140737488355328) (.need (0≤(ls.flatten.length:Int)∧(ls.flatten.length:Int)≤140737488355328)
   (.need ((ls.length:Int)=ls.length∧(0:Int)=0∧([]:List Int)= []∧ls.flatten.length≤70368744177664∧ls.length≤140737488355328) (.leaf (.one (.sc (.sl 0 0))) [some (.own 0 u8 ls.flatten)]))):=by kernel_rfl
theorem lA:N4.Ok Tryz.prog 78:=by
 refine(al.bb call78 fun x y Q h=>?_).sym;obtain⟨ls,_⟩:=x;obtain⟨⟨h1,h2⟩,hq⟩:=h;refine(au mixed (aj N3 aw) func78 rfl (LT:=Ro) (ks:= [.auto,.ba]) (aS.bW (kQ rfl (b7 (hp:= []) E5) (kQ rfl (b7 (hp:= []) E6) ly)))).use (D:= [(0,.own 0 u8 ls.flatten)]) ?_ hq;show(bc _ _ _ _ (Uh.wr (ls,())) [] _).sat _;rw[Iw];simp only at h1 h2;exact⟨⟨rfl,rfl,rfl,by omega,by omega⟩,⟨by omega,by omega⟩,⟨rfl,rfl,rfl,h1,h2⟩,rfl,rfl⟩
end
abbrev Xx:aH (List LV) (Int×Int×Unit):=ab (ak (ay .u64)) (ab (ak (ay .i64)) ae)
abbrev Xy:aH (List LV) (Int×Int×Int×Unit):=ab (ak (ay .u64)) (ab (ak (ay .u64)) (ab (ak (ay .u64)) ae))
abbrev E7:aH (List LV) (Int×Int×Int×Int×Unit):=ab (ak (ay .u64)) (ab (ak (ay .i64)) (ab (ak (ay .i64)) (ab (ak (ay .i64)) ae)))
def CW(x k:Int):Int:=bf .u64 (shl .u64 x (bl .u64 (u64.wrap k) 63)) (shr .u64 x (u64.wrap (64-bl .u64 (u64.wrap k) 63)))
theorem Rp(k:Int):bl .u64 (u64.wrap k) 63=k%64:=by
 rw[CI (m:=6) (by decide) _ _ (by decide),ky];exact Int.emod_emod_of_dvd _ (by decide)
def nW(x n:Int):Int:=bf .u64 (shl .u64 x (64-n)) (shr .u64 x n)
theorem Ix{x n:Int}(h0:0<n)(h1:n<64):CW x (i64.wrap (0-n))=nW x n:=by
 unfold CW nW
 have e:bl .u64 (u64.wrap (i64.wrap (0-n))) 63=64-n:=by
  rw[Rp,wrap_i64 (by omega) (by omega)];omega
 rw[e,wrap_u64 (by omega) (by omega),show(64:Int)-(64-n)=n from by omega]
def Rq:al:=al.cl [] (Xx) (ae) fun x_ y_=>(fun(x k:Int)=>.leaf none (nU (CW x k)) []) x_.1 x_.2.1
theorem E8(x k:Int):bc Tryz.prog [] [] f222 ((Xx).wr (x,k,())) ((ae).wr ()) [.fr [.sym],.auto]=
 End.need ((0:Int)≤bl u64 (u64.wrap k) (63:Int)) (End.need ((0:Int)≤u64.wrap ((64:Int)-bl u64
 (u64.wrap k) (63:Int))) (End.leaf (LV.one (VV.sc (SV.int u64 (SI.sym (bf u64 (shl u64 x (bl u64
 (u64.wrap k) (63:Int))) (shr u64 x (u64.wrap ((64:Int)-bl u64 (u64.wrap k) (63:Int))))))))) [])):=by kernel_rfl
theorem N5:Rq.Ok Tryz.prog 222:=by
 refine(al.bb call222 fun x_ y_ Q H_=>?_).sym;obtain⟨x,k,_⟩:=x_;have hq:=H_.2;refine(au mixed aw func222 rfl (LT:= []) (ks:= [.fr [.sym],.auto]) (aS.nil _)).use (D:= []) ?_ hq;show(bc _ _ _ _ ((Xx).wr (x,k,())) ((ae).wr ()) _).sat _;rw[E8];have e:=Rp k;refine⟨by omega,by rw[e,wrap_u64 (by omega) (by omega)];omega,rfl,rfl⟩
def Iy:al:=al.cl [] (Xx) (ae) fun x_ y_=>(fun(x k:Int)=>.leaf (some (0<k∧k<64)) (nU (nW x k)) []) x_.1 x_.2.1
theorem E9(x k:Int):bc Tryz.prog [(222,Rq)] [] f192 ((Xx).wr (x,k,())) ((ae).wr ()) [.fr [.sym],.auto]=
 End.leaf (LV.one (VV.sc (SV.int u64 (SI.sym (CW x (i64.wrap ((0:Int)-k.tmod (64:Int)))))))) []:=by kernel_rfl
theorem CX:Iy.Ok Tryz.prog 192:=by
 refine(al.bb call192 fun x_ y_ Q H_=>?_).sym;obtain⟨x,k,_⟩:=x_;obtain⟨hn,hq⟩:=H_;have hn:0<k∧k<64:=hn;refine(au mixed ((aj N5 aw)) func192 rfl (LT:= []) (ks:= [.fr [.sym],.auto]) (aS.nil _)).use (D:= []) ?_ hq;show(bc _ _ _ _ ((Xx).wr (x,k,())) ((ae).wr ()) _).sat _;rw[E9];have e:k.tmod 64=k:=by rw[Int.tmod_eq_emod_of_nonneg (by omega)];omega
 rw[e,Ix hn.1 hn.2];exact⟨rfl,rfl⟩
def chF(x y z:Int):Int:=bt .u64 (bl .u64 x y) (bl .u64 (bt .u64 18446744073709551615 x) z)
def Ui(x y z:Int):Int:=bt .u64 (bt .u64 (bl .u64 x y) (bl .u64 x z)) (bl .u64 y z)
def chE:al:=al.cl [] (Xy) (ae) fun x_ y_=>(fun(x y z:Int)=>.leaf none (nU (chF x y z)) []) x_.1 x_.2.1 x_.2.2.1
theorem N6(x y z:Int):bc Tryz.prog [] [] f148 ((Xy).wr (x,y,z,())) ((ae).wr ()) [.fr [.sym],.auto]=
 End.leaf (LV.one (VV.sc (SV.int u64 (SI.sym (bt u64 (bl u64 x y) (bl u64 (bt u64
 (18446744073709551615:Int) x) z)))))) []:=by kernel_rfl
theorem YU:chE.Ok Tryz.prog 148:=by
 refine(al.bb call148 fun x_ y_ Q H_=>?_).sym;obtain⟨x,y,z,_⟩:=x_;have hq:=H_.2;refine(au mixed aw func148 rfl (LT:= []) (ks:= [.fr [.sym],.auto]) (aS.nil _)).use (D:= []) ?_ hq;show(bc _ _ _ _ ((Xy).wr (x,y,z,())) ((ae).wr ()) _).sat _;rw[N6];exact⟨rfl,rfl⟩
def YV:al:=al.cl [] (Xy) (ae) fun x_ y_=>(fun(x y z:Int)=>.leaf none (nU (Ui x y z)) []) x_.1 x_.2.1 x_.2.2.1
theorem Iz(x y z:Int):bc Tryz.prog [] [] f149 ((Xy).wr (x,y,z,())) ((ae).wr ()) [.fr [.sym],.auto]=
 End.leaf (LV.one (VV.sc (SV.int u64 (SI.sym (bt u64 (bt u64 (bl u64 x y) (bl u64 x z)) (bl
 u64 y z)))))) []:=by kernel_rfl
theorem Uj:YV.Ok Tryz.prog 149:=by
 refine(al.bb call149 fun x_ y_ Q H_=>?_).sym;obtain⟨x,y,z,_⟩:=x_;have hq:=H_.2;refine(au mixed aw func149 rfl (LT:= []) (ks:= [.fr [.sym],.auto]) (aS.nil _)).use (D:= []) ?_ hq;show(bc _ _ _ _ ((Xy).wr (x,y,z,())) ((ae).wr ()) _).sat _;rw[Iz];exact⟨rfl,rfl⟩
def qK(x a b d:Int):Int:=bt .u64 (bt .u64 (nW x a) (nW x b)) (shr .u64 x d)
def nX(x a b d:Int):Int:=bt .u64 (bt .u64 (nW x a) (nW x b)) (nW x d)
def IA:al:=al.cl [] (E7) (ae) fun x_ y_=>(fun(x a b d:Int)=>.leaf (some (0<a∧a<64∧0<b∧b<64∧0≤d)) (nU (qK x a b d)) []) x_.1 x_.2.1 x_.2.2.1 x_.2.2.2.1
theorem Au(x a b d:Int):bc Tryz.prog [(192,Iy)] [] f191 ((E7).wr (x,a,b,d,())) ((ae).wr ()) [.fr [.sym],.auto]=
 End.need ((0:Int)<a∧a<(64:Int)) (End.need ((0:Int)<b∧b<(64:Int)) (End.need ((0:Int)≤d) (End.leaf (LV.one (VV.sc (SV.int
 u64 (SI.sym (bt u64 (bt u64 (nW x a) (nW x b)) (shr u64 x d)))))) []))):=by kernel_rfl
theorem IB:IA.Ok Tryz.prog 191:=by
 refine(al.bb call191 fun x_ y_ Q H_=>?_).sym;obtain⟨x,a,b,d,_⟩:=x_;obtain⟨hn,hq⟩:=H_;have hn:0<a∧a<64∧0<b∧b<64∧0≤d:=hn;refine(au mixed ((aj CX aw)) func191 rfl (LT:= []) (ks:= [.fr [.sym],.auto]) (aS.nil _)).use (D:= []) ?_ hq;show(bc _ _ _ _ ((E7).wr (x,a,b,d,())) ((ae).wr ()) _).sat _;rw[Au];exact⟨⟨hn.1,hn.2.1⟩,⟨hn.2.2.1,hn.2.2.2.1⟩,hn.2.2.2.2,rfl,rfl⟩
def IC:al:=al.cl [] (E7) (ae) fun x_ y_=>(fun(x a b d:Int)=>.leaf (some (0<a∧a<64∧0<b∧b<64∧0<d∧d<64)) (nU (nX x a b d)) []) x_.1 x_.2.1 x_.2.2.1 x_.2.2.2.1
theorem Av(x a b d:Int):bc Tryz.prog [(192,Iy)] [] f147 ((E7).wr (x,a,b,d,())) ((ae).wr ()) [.fr [.sym],.auto]=
 End.need ((0:Int)<a∧a<(64:Int)) (End.need ((0:Int)<b∧b<(64:Int)) (End.need ((0:Int)<d∧d<(64:Int)) (End.leaf (LV.one
 (VV.sc (SV.int u64 (SI.sym (bt u64 (bt u64 (nW x a) (nW x b)) (nW x d)))))) []))):=by kernel_rfl
theorem ID:IC.Ok Tryz.prog 147:=by
 refine(al.bb call147 fun x_ y_ Q H_=>?_).sym;obtain⟨x,a,b,d,_⟩:=x_;obtain⟨hn,hq⟩:=H_;have hn:0<a∧a<64∧0<b∧b<64∧0<d∧d<64:=hn;refine(au mixed ((aj CX aw)) func147 rfl (LT:= []) (ks:= [.fr [.sym],.auto]) (aS.nil _)).use (D:= []) ?_ hq;show(bc _ _ _ _ ((E7).wr (x,a,b,d,())) ((ae).wr ()) _).sat _;rw[Av];exact⟨⟨hn.1,hn.2.1⟩,⟨hn.2.2.1,hn.2.2.2.1⟩,hn.2.2.2.2,rfl,rfl⟩
end Go.Proofs.YtmhcoaflmgajhaaGreat
end
