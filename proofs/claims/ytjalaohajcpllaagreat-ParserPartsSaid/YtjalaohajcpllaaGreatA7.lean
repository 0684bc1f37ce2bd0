/- What the laws lean on, part 7: a reader of code, plain facts, and what each function gives; no conditions. -/
import Derived.Test.YtjalaohajcpllaaGreatA6
section
set_option linter.unusedVariables false
set_option linter.unusedSimpArgs false
namespace Go.Proofs.YtjalaohajcpllaaGreat
open Go Go.Ev
set_option maxRecDepth 1000000
abbrev TQ:ba (List LV) (Int×Unit):=ae (ai (ax .i64)) ag
abbrev ago:ba (List LV) (Int×Int×Unit):=ae (ai (ax .i64)) (ae (ai (ax .i64)) ag)
def a9 (p:Int):Int:=if p<31 then 31 else if 2017<p then 2017 else p
def da (p b:Int):Int:=if b=0 then a9 p+(2048-a9 p)/32 else a9 p-a9 p/32
def e1I (g:Int→Int):ao:=ao.bS [] TQ ag fun x _=> .leaf none (nI (g x.1)) []
def e2I (g:Int→Int→Int):ao:=ao.bS [] ago ag fun x _=> .leaf none (nI (g x.1 x.2.1)) []
theorem gu (p:Int):31≤a9 p∧a9 p≤2017:=by unfold a9;split<;>(try split)<;>omega
theorem Hi {p b:Int}:da p b=if b=0 then IntKind.i64.wrap (a9 p+IntKind.i64.wrap ((IntKind.i64.wrap (2048-a9 p)).tdiv 32)) else IntKind.i64.wrap (a9 p-IntKind.i64.wrap ((a9 p).tdiv 32)):=by
 have h:=gu p
 unfold da
 have e1:IntKind.i64.wrap (2048-a9 p)=2048-a9 p:=ar (by omega) (by omega)
 rw[e1,Int.tdiv_eq_ediv_of_nonneg (by omega),Int.tdiv_eq_ediv_of_nonneg (by omega),ar (n:=(2048-a9 p)/32) (by omega) (by omega),ar (n:=a9 p/32) (by omega) (by omega),ar (by omega) (by omega),ar (by omega) (by omega)]
theorem nW (p b:Int):31≤da p b∧da p b≤2017:=by
 have h:=gu p
 unfold da
 split<;>omega
theorem yN {a b:Int} (h:a=b):nI a=nI b:=by rw[h]
theorem UW (p:Int):(if 31<(if 2017<p then 2017 else p) then (if 2017<p then 2017 else p) else 31)=a9 p:=by
 unfold a9
 by_cases h1:2017<p
 ·simp only[h1,if_true];rw[if_pos (by decide),if_neg (by omega)]
 ·simp only[h1,if_false]
  by_cases h2:31<p
  ·rw[if_pos h2,if_neg (by omega)]
  ·rw[if_neg h2];split<;>omega
noncomputable abbrev Dv:ao:=e1I a9
theorem KG (p:Int):aS Tryz.prog [] [] Tryz.f155 ((TQ).wr (p,())) [] [.fr [.sym],.auto]=
 End.leaf (LV.one (VV.sc (SV.int IntKind.i64 (SI.sym (if (31:Int)<if (2017:Int)<p then (2017:Int) else p then if (2017:Int)<p then (2017:
 Int) else p else (31:Int)))))) []:=by kernel_rfl
theorem KH: ∀ p_∈([]:List (FuncId×ao)),p_.2.Ok Tryz.prog p_.1:=aF
theorem r8:Dv.Ok Tryz.prog 155:=by
 refine (ao.bf Tryz.call155 fun x_ y_ Q H_=>?_).sym
 obtain ⟨p,_⟩:=x_
 have hq:=H_.2
 refine (ay (tab:= []) mixed KH Tryz.func155 rfl (LT:= []) (ks:= [.fr [.sym],.auto]) (aQ.nil _)).use (D:= []) ?_ hq
 show (aS _ _ _ _ ((TQ).wr (p,())) [] _).sat _
 rw[KG]
 exact ⟨yN (UW p),rfl⟩
noncomputable abbrev r9:ao:=e2I da
theorem Hj (h:Int→Int) (p b:Int):aS Tryz.prog [(155,e1I h)] [] Tryz.f158 ((ago).wr (p,b,())) [] [.fr [.sym],.auto]=
 End.ite (b==(0:Int)) (End.leaf (LV.one (VV.sc (SV.int IntKind.i64 (SI.sym (IntKind.i64.wrap (h p+IntKind.i64.wrap ((IntKind.i64.wrap ((2048:
 Int)-h p)).tdiv (32:Int)))))))) []) (End.leaf (LV.one (VV.sc (SV.int IntKind.i64 (SI.sym (IntKind.i64.wrap (h p-IntKind.i64.wrap ((h p).tdiv (32
 :Int)))))))) []):=by kernel_rfl
theorem Hk: ∀ p_∈([(155,e1I a9)]:List (FuncId×ao)),p_.2.Ok Tryz.prog p_.1:=(ak r8 aF)
theorem pe:r9.Ok Tryz.prog 158:=by
 refine (ao.bf Tryz.call158 fun x_ y_ Q H_=>?_).sym
 obtain ⟨p,b,_⟩:=x_
 have hq:=H_.2
 refine (ay (tab:= [(155,e1I a9)]) mixed Hk Tryz.func158 rfl (LT:= []) (ks:= [.fr [.sym],.auto]) (aQ.nil _)).use (D:= []) ?_ hq
 show (aS _ _ _ _ ((ago).wr (p,b,())) [] _).sat _
 rw[Hj a9]
 refine ⟨fun h=>⟨yN ?_,rfl⟩,fun h=>⟨yN ?_,rfl⟩⟩
 ·rw[Hi,if_pos (beq_iff_eq.1 h)]
 ·rw[Hi,if_neg (bne_iff_ne.1 (by simpa using h))]
abbrev ajK:ba (Option Ev.Item) Unit:=gX 213 (aj (wX 1 0) ag)
abbrev sa:ba Hp (List Int×Unit):=aj ajK (ae (eE 0 (.int .u16)) ag)
abbrev qN:ba (List LV) (Int×Unit):=aj (ai (aP 0 0)) (ae (ai (ax .i64)) ag)
abbrev B0:ba (List LV) (Int×Int×Unit):=aj (ai (aP 0 0)) (ae (ai (ax .i64)) (ae (ai (ax .i64)) ag))
def yO (p:List Int) (n:Int):Bool:=decide (1≤n∧n<p.length)
theorem UX {b c:Bool} (h:b=c):nB b=nB c:=by rw[h]
theorem wrap_u16 (n:Int):IntKind.u16.wrap n=n%65536:=by
 simp only[IntKind.wrap,IntKind.bits,IntKind.signed]
 simp
def gh (p:List Int):Prop:= ∀ i,0≤p.getD i 0∧p.getD i 0≤65535
def jm (p:List Int) (n:Int):Int:=if yO p n=true then p.getD n.toNat 0 else 0
def c6 (p:List Int) (n b:Int):List Int:=if yO p n=true then p.set n.toNat (da (p.getD n.toNat 0) b) else p
noncomputable def UY:ao:=ao.bS [] (qN) (sa) fun x_ y_=>(fun (n:Int) (p:List Int)=> .leaf none (nB (yO p n)) []) x_.1 y_.1
theorem QR (n:Int) (p:List Int):aS Tryz.prog [] [] Tryz.f175 ((qN).wr (n,())) ((sa).wr (p,())) [.fr [.sym],.auto]=
 End.ite (decide ((1:Int)≤n)==true) (End.leaf (LV.one (VV.sc (SV.bool (SB.sym (decide (n<(↑p.length:Int))))))) [some (Item.aZ [SV.sl (1:
 Nat) (0:Nat)] (213:Nat)),some (Item.own (0:Nat) (Ty.int IntKind.u16) p)]) (End.leaf (LV.one (VV.sc (SV.bool (SB.sym false)))) [some (Item.aZ
 [SV.sl (1:Nat) (0:Nat)] (213:Nat)),some (Item.own (0:Nat) (Ty.int IntKind.u16) p)]):=by kernel_rfl
theorem OK:UY.Ok Tryz.prog 175:=by
 refine (ao.bf Tryz.call175 fun x_ y_ Q H_=>?_).sym
 obtain ⟨n,_⟩:=x_
 obtain ⟨p,_⟩:=y_
 have hq:=H_.2
 refine (ay mixed aF Tryz.func175 rfl (LT:= []) (ks:= [.fr [.sym],.auto]) (aQ.nil _)).use (D:= []) ?_ hq
 show (aS _ _ _ _ ((qN).wr (n,())) ((sa).wr (p,())) _).sat _
 rw[QR]
 refine ⟨fun h=>⟨UX ?_,rfl⟩,fun h=>⟨UX ?_,rfl⟩⟩
 ·have h:1≤n:=by simpa using h
  unfold yO;exact decide_eq_decide.2 ⟨fun h'=>⟨h,h'⟩,fun h'=>h'.2⟩
 ·have h: ¬ 1≤n:=by simpa using h
  unfold yO;exact (decide_eq_false fun h'=>h h'.1).symm
noncomputable def QS:ao:=ao.bS [] (qN) (sa) fun x_ y_=>(fun (n:Int) (p:List Int)=> .leaf (some (gh p)) (nI (jm p n)) []) x_.1 y_.1
theorem UZ (n:Int) (p:List Int):aS Tryz.prog [(175,UY)] [] Tryz.f153 ((qN).wr (n,())) ((sa).wr (p,())) [.fr [.sym],.auto]=
 End.ite (!yO p n) (End.leaf (LV.one (VV.sc (SV.int IntKind.i64 (SI.sym (0:Int))))) [some (Item.aZ [SV.sl (1:Nat) (0:Nat)] (213:Nat)),some
 (Item.own (0:Nat) (Ty.int IntKind.u16) p)]) (End.need ((0:Int)≤n∧n<(↑p.length:Int)) (End.leaf (LV.one (VV.sc (SV.int IntKind.i64 (SI.sym
 (IntKind.i64.wrap (p.getD n.toNat (0:Int))))))) [some (Item.aZ [SV.sl (1:Nat) (0:Nat)] (213:Nat)),some (Item.own (0:Nat) (Ty.int
 IntKind.u16) p)])):=by kernel_rfl
theorem yP:QS.Ok Tryz.prog 153:=by
 refine (ao.bf Tryz.call153 fun x_ y_ Q H_=>?_).sym
 obtain ⟨n,_⟩:=x_
 obtain ⟨p,_⟩:=y_
 obtain ⟨hn,hq⟩:=H_
 have hn:gh p:=hn
 refine (ay mixed ((ak OK aF)) Tryz.func153 rfl (LT:= []) (ks:= [.fr [.sym],.auto]) (aQ.nil _)).use (D:= []) ?_ hq
 show (aS _ _ _ _ ((qN).wr (n,())) ((sa).wr (p,())) _).sat _
 rw[UZ]
 refine ⟨fun h=>⟨yN ?_,rfl⟩,fun h=>?_⟩
 ·have h: ¬ yO p n=true:=by simpa using h
  unfold jm;rw[if_neg h]
 ·have h:yO p n=true:=by simpa using h
  have hh:1≤n∧n<p.length:=of_decide_eq_true h
  have hr:=hn n.toNat
  refine ⟨by omega,yN ?_,rfl⟩
  unfold jm;rw[if_pos h,ar (by omega) (by omega)]
noncomputable def Dw:ao:=ao.bS [] (B0) (sa) fun x_ y_=>(fun (n b:Int) (p:List Int)=> .leaf (some (gh p)) (.cD []) [(1,.own 0 (.int .u16) (c6 p n b))]) x_.1 x_.2.1 y_.1
theorem KI (n b:Int) (p:List Int):aS Tryz.prog [(175,UY),(158,r9)] [] Tryz.f154 ((B0).wr (n,b,())) ((sa).wr (p,())) [.fr [.sym],.auto]=
 End.ite (yO p n) (End.need ((0:Int)≤n∧n<(↑p.length:Int)) (End.need ((0:Int)≤n∧n<(↑p.length:Int)) (End.leaf (LV.cD []) [some
 (Item.aZ [SV.sl (1:Nat) (0:Nat)] (213:Nat)),some (Item.own (0:Nat) (Ty.int IntKind.u16) (p.set n.toNat (IntKind.u16.wrap (da
 (IntKind.i64.wrap (p.getD n.toNat (0:Int))) b))))]))) (End.leaf (LV.cD []) [some (Item.aZ [SV.sl (1:Nat) (0:Nat)] (213:Nat)),some (Item.own
 (0:Nat) (Ty.int IntKind.u16) p)]):=by kernel_rfl
theorem yQ:Dw.Ok Tryz.prog 154:=by
 refine (ao.bf Tryz.call154 fun x_ y_ Q H_=>?_).sym
 obtain ⟨n,b,_⟩:=x_
 obtain ⟨p,_⟩:=y_
 obtain ⟨hn,hq⟩:=H_
 have hn:gh p:=hn
 refine (ay mixed ((ak OK (ak pe aF))) Tryz.func154 rfl (LT:= []) (ks:= [.fr [.sym],.auto]) (aQ.nil _)).use (D:= [(1,.own 0 (.int .u16) (c6 p n b))]) ?_ hq
 show (aS _ _ _ _ ((B0).wr (n,b,())) ((sa).wr (p,())) _).sat _
 rw[KI]
 refine ⟨fun h=>?_,fun h=>?_⟩
 ·have hh:1≤n∧n<p.length:=of_decide_eq_true h
  have hr:=hn n.toNat
  have ha:=nW (p.getD n.toNat 0) b
  have e:c6 p n b=p.set n.toNat (IntKind.u16.wrap (da (IntKind.i64.wrap (p.getD n.toNat 0)) b)):=by
   unfold c6
   rw[if_pos h,ar (by omega) (by omega)]
   congr 1
   rw[wrap_u16];omega
  refine ⟨by omega,by omega,rfl,?_⟩
  rw[e];rfl
 ·have h: ¬ yO p n=true:=by simpa using h
  have e:c6 p n b=p:=if_neg h
  refine ⟨rfl,?_⟩
  rw[e];rfl
end Go.Proofs.YtjalaohajcpllaaGreat
end
section
set_option linter.unusedVariables false
set_option linter.unusedSimpArgs false
namespace Go.Ev
open Go
theorem gN {α:Type} {l:List α} {k:Nat} (z:α) (h:k<l.length):l.drop k=l.getD k z::l.drop (k+1):=by
 rw[List.drop_eq_getElem_cons h]
 simp[List.getD_eq_getElem?_getD,List.getElem?_eq_getElem h]
theorem aB.getD {l:List Int} (h:aB l) (i:Nat):By (l.getD i 0):=by
 rw[List.getD_eq_getElem?_getD]
 cases hi:l[i]? with
 |none=>exact ⟨Int.le_refl _,by decide⟩
 |some z=>exact h z (List.mem_of_getElem? hi)
theorem aB.set {l:List Int} (h:aB l) (i:Nat) {z:Int} (hz:By z):aB (l.set i z):=fun y hy=>by
 rcases List.mem_or_eq_of_mem_set hy with hy|rfl
 ·exact h y hy
 ·exact hz
theorem aB.nil:aB []:=fun _ h=>by cases h
theorem aB.cons {z:Int} {l:List Int} (hz:By z) (h:aB l):aB (z::l):=fun y hy=>by
 rcases List.mem_cons.1 hy with rfl|hy
 ·exact hz
 ·exact h y hy
inductive Tr (X:Type) where
 |ret (x:X)
 |ite (b:Bool) (t e:Tr X)
 |need (p:Prop) (t:Tr X)
 |fail
def Tr.Is {X:Type}:Tr X→X→Prop
 | .ret x,y=>x=y
 | .ite b t e,y=>(b=true→t.Is y)∧(b=false→e.Is y)
 | .need p t,y=>p∧t.Is y
 | .fail,_=>False
theorem al {X:Type} {x y:X}:(Tr.ret x).Is y↔x=y:=Iff.rfl
theorem an {X:Type} {p:Prop} {t:Tr X} {y:X}:(Tr.need p t).Is y↔p∧t.Is y:=Iff.rfl
theorem cQ {X:Type} {b:Bool} {t e:Tr X} {y:X}:(Tr.ite b t e).Is y↔(b=true→t.Is y)∧(b=false→e.Is y):=Iff.rfl
theorem bs {X:Type} {c:Prop} [Decidable c] {t e:Tr X} {y:X}:(Tr.ite (decide c) t e).Is y↔(c→t.Is y)∧(¬ c→e.Is y):=by
 simp only[cQ,decide_eq_true_eq,decide_eq_false_iff_not]
theorem aK {X:Type} {t e:Tr X} {y:X}:(Tr.ite true t e).Is y↔t.Is y:=by simp[cQ]
theorem aN {X:Type} {t e:Tr X} {y:X}:(Tr.ite false t e).Is y↔e.Is y:=by simp[cQ]
theorem fo {X:Type} {a b:Int} {t e:Tr X} {y:X}:(Tr.ite (a==b) t e).Is y↔(a=b→t.Is y)∧(a≠b→e.Is y):=by
 simp only[cQ,beq_iff_eq,beq_eq_false_iff_ne]
theorem yR {X:Type} {a b:Int} {t e:Tr X} {y:X}:(Tr.ite (a !=b) t e).Is y↔(a=b→e.Is y)∧(a≠b→t.Is y):=by
 simp only[cQ,bne_iff_ne,bne_eq_false_iff_eq];exact And.comm
theorem jL {X:Type} {b:Bool} {t e:Tr X} {y:X}:(Tr.ite (!b) t e).Is y↔(b=true→e.Is y)∧(b=false→t.Is y):=by
 cases b<;>simp[cQ]
theorem nX (b:Bool):(b==true)=b:=by cases b<;>rfl
theorem Tr.Is.inj {X:Type}: ∀ {t:Tr X} {x y:X},t.Is x→t.Is y→x=y
 | .ret _,_,_,h,h'=>h.symm.trans h'
 | .ite true _ _,_,_,h,h'=>(h.1 rfl).inj (h'.1 rfl)
 | .ite false _ _,_,_,h,h'=>(h.2 rfl).inj (h'.2 rfl)
 | .need _ _,_,_,h,h'=>h.2.inj h'.2
def Tr.val {X:Type} (d:X):Tr X→X
 | .ret x=>x
 | .ite b t e=>bif b then t.val d else e.val d
 | .need _ t=>t.val d
 | .fail=>d
def Tr.ok {X:Type}:Tr X→Prop
 | .ret _=>True
 | .ite b t e=>(b=true→t.ok)∧(b=false→e.ok)
 | .need p t=>p∧t.ok
 | .fail=>False
def Tr.end {X:Type} (V:X→LV) (D:X→List (Nat×Item)) (hp:Hp):Tr X→End
 | .ret x=> .leaf (V x) (aE (D x) hp)
 | .ite b t e=> .ite b (t.end V D hp) (e.end V D hp)
 | .need p t=> .need p (t.end V D hp)
 | .fail=> .fail
theorem Tr.mq {X:Type} {V:X→LV} {D:X→List (Nat×Item)} {hp:Hp}: ∀ {t:Tr X} {x:X},t.Is x→(t.end V D hp).sat fun v dX=>v=V x∧dX=aE (D x) hp
 | .ret _,_,h=>by cases h;exact ⟨rfl,rfl⟩
 | .ite _ _ _,_,h=>⟨fun e=>Tr.mq (h.1 e),fun e=>Tr.mq (h.2 e)⟩
 | .need _ _,_,h=>⟨h.1,Tr.mq h.2⟩
 | .fail,_,h=>h
theorem cg {P:Program} (j9:P.follows .mixedOrders=true) {tab:List (FuncId×ao)} (qc: ∀ p∈tab,p.2.Ok P p.1) {f:FuncId} {fn:Func} (hf:P.funcs[f]? =some fn) (hb:fn.body.isSome=true) (he:uV P f) {tys:List (Option Ty)} {X Y Z:Type} {A:ba (List LV) X} {H:ba Hp Y}
  {LT:X→Y→fk} (hL: ∀ x y,aQ P (H.wr y) (LT x y) (aJ fn)) {ks:List Wk} {V:Z→LV} {D:Z→List (Nat×Item)} {T:X→Y→Tr Z} {pre:X→Y→Prop} {sp:X→Y→Z}
  (hT: ∀ x y,aS P tab (LT x y) fn (A.wr x) (H.wr y) ks=(T x y).end V D (H.wr y)) (hI: ∀ x y,pre x y→(T x y).Is (sp x y)):
  (ao.bS tys A H fun x y=> .leaf (some (pre x y)) (V (sp x y)) (D (sp x y))).Ok P f:=by
 refine (ao.bf he fun x y Q h=>?_).sym
 refine (ay j9 qc hf hb (ks:=ks) (hL x y)).use (V:=V (sp x y)) (D:=D (sp x y)) ?_ h.2
 rw[hT]
 exact Tr.mq (hI x y h.1)
theorem yS {P:Program} (j9:P.follows .mixedOrders=true) {tab:List (FuncId×ao)} (qc: ∀ p∈tab,p.2.Ok P p.1) {f:FuncId} {fn:Func} (hf:P.funcs[f]? =some fn) (hb:fn.body.isSome=true) (he:uV P f) {tys:List (Option Ty)} {X Y Z Z':Type} {A:ba (List LV) X} {H:ba Hp Y}
  {LT:X→Y→fk} (hL: ∀ x y,aQ P (H.wr y) (LT x y) (aJ fn)) {ks:List Wk} {V:Z→LV} {D:Z→List (Nat×Item)} {V':Z'→LV} {D':Z'→List (Nat×Item)} {T:X→Y→Tr (Z⊕Z')} {pre:X→Y→Prop} {c:X→Y→Bool} {sp:X→Y→Z} {sp':X→Y→Z'}
  (hT: ∀ x y,aS P tab (LT x y) fn (A.wr x) (H.wr y) ks=(T x y).end (Sum.elim V V') (Sum.elim D D') (H.wr y)) (hI: ∀ x y,pre x y→(c x y=true→(T x y).Is (.inl (sp x y)))∧(c x y=false→(T x y).Is (.inr (sp' x y)))):
  (ao.bS tys A H fun x y=> .ite (c x y) (.leaf (some (pre x y)) (V (sp x y)) (D (sp x y))) (.leaf (some (pre x y)) (V' (sp' x y)) (D' (sp' x y)))).Ok P f:=by
 refine (ao.bf he fun x y Q h=>?_).sym
 cases hc:c x y with
 |true=>
  have h1:=h.1 hc
  refine (ay j9 qc hf hb (ks:=ks) (hL x y)).use (V:=V (sp x y)) (D:=D (sp x y)) ?_ h1.2
  rw[hT]
  exact Tr.mq (V:=Sum.elim V V') (D:=Sum.elim D D') ((hI x y h1.1).1 hc)
 |false=>
  have h1:=h.2 hc
  refine (ay j9 qc hf hb (ks:=ks) (hL x y)).use (V:=V' (sp' x y)) (D:=D' (sp' x y)) ?_ h1.2
  rw[hT]
  exact Tr.mq (V:=Sum.elim V V') (D:=Sum.elim D D') ((hI x y h1.1).2 hc)
theorem agp {P:Program} (j9:P.follows .mixedOrders=true) {tab:List (FuncId×ao)} (qc: ∀ p∈tab,p.2.Ok P p.1) {f:FuncId} {fn:Func} (hf:P.funcs[f]? =some fn) (hb:fn.body.isSome=true) (he:uV P f) {tys:List (Option Ty)} {X Y Z:Type} {A:ba (List LV) X} {H:ba Hp Y}
  {LT:X→Y→fk} (hL: ∀ x y,aQ P (H.wr y) (LT x y) (aJ fn)) {ks:List Wk} {V:Z→LV} {D:Z→List (Nat×Item)} {T:X→Y→Tr Z} {out:X→Y→Out}
  (hT: ∀ x y,aS P tab (LT x y) fn (A.wr x) (H.wr y) ks=(T x y).end V D (H.wr y)) (hO: ∀ x y Q,(out x y).holds Q→ ∃ z,(T x y).Is z∧Q (V z) (D z)):
  (ao.bS tys A H out).Ok P f:=by
 refine (ao.bf he fun x y Q h=>?_).sym
 obtain ⟨z,h1,h2⟩:=hO x y Q h
 refine (ay j9 qc hf hb (ks:=ks) (hL x y)).use (V:=V z) (D:=D z) ?_ h2
 rw[hT]
 exact Tr.mq h1
inductive dq {X Z:Type} (L:X→Tr (X⊕Z)):X→Z→Prop where
 |stop {x z} (h:(L x).Is (.inr z)):dq L x z
 |go {x y z} (h:(L x).Is (.inl y)) (t:dq L y z):dq L x z
inductive yT {X Z:Type} (L:X→Tr (X⊕Z)):Nat→X→Z→Prop where
 |stop {n x z} (h:(L x).Is (.inr z)):yT L n x z
 |go {n x y z} (h:(L x).Is (.inl y)) (t:yT L n y z):yT L (n+1) x z
theorem dq.n {X Z:Type} {L:X→Tr (X⊕Z)} {x:X} {z:Z} (h:dq L x z): ∃ n,yT L n x z:=by
 induction h with
 |stop h=>exact ⟨0,.stop h⟩
 |go h _ ih=>obtain ⟨n,h'⟩:=ih;exact ⟨n+1,.go h h'⟩
theorem dq.iter {X Z:Type} {L:X→Tr (X⊕Z)} {z:Z} (f:Nat→X) (n:Nat) (h: ∀ k,k<n→(L (f k)).Is (.inl (f (k+1)))) (he:(L (f n)).Is (.inr z)):dq L (f 0) z:=by
 have key: ∀ m k,k+m=n→dq L (f k) z:=by
  intro m
  induction m with
  |zero=>intro k hk;have:k=n:=by omega
         subst this;exact .stop he
  |succ m ih=>intro k hk;exact .go (h k (by omega)) (ih (k+1) (by omega))
 exact key n 0 (by omega)
def Tr.res {X Z:Type} (C:X→St) (E:Z→Exit×St):Tr (X⊕Z)→aU
 | .ret (.inl y)=> .leaf .normal (C y)
 | .ret (.inr z)=> .leaf (E z).1 (E z).2
 | .ite b t e=> .ite b (t.res C E) (e.res C E)
 | .need p t=> .need p (t.res C E)
 | .fail=> .fail
theorem Tr.Dx {X Z:Type} {C:X→St} {E:Z→Exit×St} {y:X}: ∀ {t:Tr (X⊕Z)},t.Is (.inl y)→(t.res C E).sat fun e s=>e= .normal∧s=C y
 | .ret _,h=>by cases h;exact ⟨rfl,rfl⟩
 | .ite _ _ _,h=>⟨fun e=>Tr.Dx (h.1 e),fun e=>Tr.Dx (h.2 e)⟩
 | .need _ _,h=>⟨h.1,Tr.Dx h.2⟩
 | .fail,h=>h
theorem Tr.sd {X Z:Type} {C:X→St} {E:Z→Exit×St} {z:Z}: ∀ {t:Tr (X⊕Z)},t.Is (.inr z)→(t.res C E).sat fun e s=>e=(E z).1∧s=(E z).2
 | .ret _,h=>by cases h;exact ⟨rfl,rfl⟩
 | .ite _ _ _,h=>⟨fun e=>Tr.sd (h.1 e),fun e=>Tr.sd (h.2 e)⟩
 | .need _ _,h=>⟨h.1,Tr.sd h.2⟩
 | .fail,h=>h
theorem db {P:Program} (j9:P.follows .mixedOrders=true) {tab:List (FuncId×ao)} (qc: ∀ p∈tab,p.2.Ok P p.1) {LT:fk} {fn:Func} {id:Nat} {hp:Hp} {ws:Exit→List Wk} (hL:aQ P hp LT (aW fn id))
  {X Z:Type} {C:ba St X} {E:Z→Exit×St} {L:X→Tr (X⊕Z)} {pre:X→Prop} {sp:X→Z} {F:X→aU}
  (hT: ∀ x,dR P tab LT fn id hp ws (C.wr x)=(L x).res C.wr E) (hE: ∀ z,(E z).1≠ .normal) (hF: ∀ x R,(F x).sat R→pre x∧R (E (sp x)).1 (E (sp x)).2) (hI: ∀ x,pre x→dq L x (sp x)) (x:X):
  Ex P hp (.loop (aW fn id)) (C.wr x) (F x):=by
 intro W β₀ R Q hs hq β a w hr
 obtain ⟨hx,hs2⟩:=hF x R hs
 obtain ⟨n,hn⟩:=(hI x hx).n
 have key:Ex P hp (.loop (aW fn id)) (C.wr x) (.leaf (E (sp x)).1 (E (sp x)).2):=by
  refine Ex.fI (X:=Nat×X) (fun p=>p.1) (fun p=>C.wr p.2) (fun p=>yT L p.1 p.2 (sp x)) (fun p=>(L p.2).res C.wr E) (fun _=> .leaf (E (sp x)).1 (E (sp x)).2) (fun p _=>by have:=OF j9 qc hL (P:=P) (ws:=ws) (st:=C.wr p.2);rw[hT] at this;exact this) (fun p R hp hs=>?_) (x:=(n,x)) hn
  obtain ⟨k,y⟩:=p
  cases hp with
  |stop h=>exact aU.nQ (fun e s ⟨h1,h2⟩=> .inr ⟨by rw[h1];exact hE _,by rw[h1,h2];exact hs⟩) (Tr.sd h)
  |go h t=>exact aU.nQ (fun e s ⟨h1,h2⟩=> .inl ⟨h1,(_,_),h2,t,Nat.lt_succ_self _,hs⟩) (Tr.Dx h)
 exact key W β₀ R Q hs2 hq β a w hr
theorem je {X Z:Type} {E:Z→Exit×St} {pre:X→Prop} {sp:X→Z}: ∀ (x:X) (R:Exit→St→Prop),(aU.need (pre x) (.leaf (E (sp x)).1 (E (sp x)).2)).sat R→pre x∧R (E (sp x)).1 (E (sp x)).2:=fun _ _ h=>h
theorem qO {X Z Z':Type} {E:Z→Exit×St} {E':Z'→Exit×St} {pre:X→Prop} {c:X→Bool} {sp:X→Z} {sp':X→Z'}: ∀ (x:X) (R:Exit→St→Prop),(aU.need (pre x) (.ite (c x) (.leaf (E (sp x)).1 (E (sp x)).2) (.leaf (E' (sp' x)).1 (E' (sp' x)).2))).sat R→
  pre x∧R (Sum.elim E E' (bif c x then .inl (sp x) else .inr (sp' x))).1 (Sum.elim E E' (bif c x then .inl (sp x) else .inr (sp' x))).2:=fun x R h=>⟨h.1,by
 cases hc:c x with
 |true=>exact h.2.1 hc
 |false=>exact h.2.2 hc⟩
def Dy (n:List Wk) (id:Nat) (x r:List Wk):Exit→List Wk
 | .normal=>n
 | .exit i=>if i=id then x else n
 | .ret=>r
 |_=> []
def ir (n:Nat) (r:List LV):List LV:=List.replicate n .bQ++r
def dt {X:Type} (c:ba Item X):ba (Option Item) X where
 rd x:=match x with
  |some x=>c.rd x
  |none=>none
 wr x:=some (c.wr x)
 ok:=by
  intro x v h
  split at h
  ·rw[c.ok h]
  ·cases h
def Bq {X:Type} (e:TypeId) (r:ba (List SV) X):ba Item X where
 rd x:=match x with
  | .aZ cells e'=>if e'=e then r.rd cells else none
  |_=>none
 wr x:= .aZ (r.wr x) e
 ok:=by
  intro x v h
  split at h
  ·split at h
   ·rename_i e;subst e;rw[r.ok h]
   ·cases h
  ·cases h
end Go.Ev
end
section
set_option linter.unusedVariables false
set_option linter.unusedSimpArgs false
namespace Go.Proofs.YtjalaohajcpllaaGreat
open Go Go.Ev
set_option maxRecDepth 1000000
abbrev jCo:ba Ev.Item Int:=(Bq 183 (aj (wX 1 0) (ae (ax .u64) ag))).qk (fun x=>x.1) (fun w=>(w,())) (fun _=>rfl)
abbrev qP:ba Hp (Int×List Int×Unit):=ae (dt jCo) (ae (eE 0 u8) ag)
abbrev agq:ba (List LV) (Int×Unit):=aj (ai (aP 0 0)) (ae (ai (ax .u64)) ag)
abbrev gG:ba (List LV) Unit:=aj (ai (aP 0 0)) ag
def cx (w:Int) (l:List Int):Int×List Int:=if w<16777216 then (w*256,l++ [0]) else (w,l)
def de:Nat→Int→List Int→List Int
 |0,_,l=>l
 |i+1,n,l=>if 0<n then de i ((n+l.getD i 0)/256) (l.set i ((n+l.getD i 0)%256)) else l
abbrev U0:Type:=Int×(List Int)
noncomputable abbrev U1 (x:U0):LV:=LV.cD []
noncomputable abbrev U2 (x:U0):List (Nat×Ev.Item):= [(0,Item.aZ [SV.sl 1 1,SV.int IntKind.u64 (SI.sym x.1)] 183),(1,Item.own 1
 (Ty.int IntKind.u8) x.2)]
noncomputable def OL (w:Int) (l:List Int):Tr (U0):=(.ite (decide (w<16777216)) (.need ((l.length+1)*1≤70368744177664∧l.length+
 1≤70368744177664) (.ret (shl IntKind.u64 w 8,l++ [0]))) (.ret (w,l)))
theorem QT (w:Int) (l:List Int):aS Tryz.prog [] [] Tryz.f157 ((gG).wr (())) ((qP).wr (w,l,())) [.one 1,.fr [.sym],.syms,.auto,.aD]=(OL w l).end U1 U2 ((qP).wr (w,l,())):=by kernel_rfl
theorem U3 (w:Int) (l:List Int):aQ Tryz.prog ((qP).wr (w,l,())) [] (aJ Tryz.f157):=(aQ.nil _)
abbrev mr (w:Int) (l:List Int):Prop:=0≤w∧w<72057594037927936∧l.length<1099511627776
noncomputable def U4:ao:=ao.bS [] (gG) (qP) fun x_ y_=> .leaf (some ((fun (w:Int) (l:List Int)=>mr w l) y_.1 y_.2.1)) (U1 ((fun (w:Int) (l:List Int)=>cx w l) y_.1 y_.2.1)) (U2 ((fun (w:Int) (l:List Int)=>cx w l) y_.1 y_.2.1))
theorem abp (w:Int) (l:List Int) (h_:mr w l):(OL w l).Is (cx w l):=by
 obtain ⟨h1,h2,h3⟩:=h_
 simp only[OL,cx,bs,an,al]
 refine ⟨fun h=>⟨by omega,?_⟩,fun h=>?_⟩
 ·rw[if_pos h]
  have:shl .u64 w 8=w*256:=by
   have:=gM .u64 w 8 (by decide)
   rw[show ((8:Nat):Int)=8 from rfl] at this
   rw[this,wrap_u64]<;>omega
  rw[this]
 ·rw[if_neg h]
theorem OM:U4.Ok Tryz.prog 157:=
 cg (tys:= []) (A:=gG) (H:=qP) (LT:=fun x_ y_=>(fun (w:Int) (l:List Int)=> []) y_.1 y_.2.1) (ks:= [.one 1,.fr [.sym],.syms,.auto,.aD]) (V:=U1) (D:=U2) (T:=fun x_ y_=>OL y_.1 y_.2.1) (pre:=fun x_ y_=>(fun (w:Int) (l:List Int)=>mr w l) y_.1 y_.2.1) (sp:=fun x_ y_=>(fun (w:Int) (l:List Int)=>cx w l) y_.1 y_.2.1) mixed aF Tryz.func157 (by kernel_rfl) Tryz.call157 (fun x_ y_=>U3 y_.1 y_.2.1) (fun x_ y_=>QT y_.1 y_.2.1) (fun x_ y_ h=>abp y_.1 y_.2.1 h)
abbrev yU:Type:=Int×Int×Int×(List Int)
noncomputable abbrev vg:ba St yU:=(bG (aj (ai (aP (0) (0))) (ae (ai (ax IntKind.u64)) (jk 2 (ae (ai (ax
 IntKind.i64)) (jk 34 ag))))) (ae (dt jCo) (ae (eE (0) (Ty.int IntKind.u8)) ag))).qk (fun y=>(y.1.1,y.1.2.1,y.2.1,y.2.2.1)) (fun x
 =>((x.1,(x.2.1,())),(x.2.2.1,(x.2.2.2,())))) (fun _=>rfl)
abbrev Dz:List Wk:= [.fr (dA 39 [(0,.aq),(1,.aq),(4,.aq)]),.syms,.auto,.aD]
abbrev U6:Exit→List Wk:=Dy Dz 0 [.fr (dA 39 []),.syms,.auto,.aD] [.fr (dA 39 []),.syms,.auto,.aD]
abbrev U7:Type:=Int×(List Int)
noncomputable abbrev DA (x:U7):Exit×St:=(Exit.exit 0,⟨(ir 39 []),[some (jCo.wr x.1),some (Item.own 0 (Ty.int IntKind.u8) x.2)]⟩)
noncomputable def vh (m:Int) (i:Int) (w':Int) (l':List Int):Tr (yU⊕(U7)):=(.ite (decide (0≤i)==true) (.ite (decide (0<
 m)) (.need (0≤i∧i<(↑l'.length:Int)) (.need (0≤i∧i<(↑l'.length:Int)) (.ret (.inl (shr IntKind.u64 (IntKind.u64.wrap (m+
 IntKind.u64.wrap (l'.getD i.toNat 0))) 8,IntKind.i64.wrap (i-1),w',l'.set i.toNat (IntKind.u8.wrap (IntKind.u64.wrap (m+IntKind.u64.wrap
 (l'.getD i.toNat 0))))))))) (.ret (.inr (w',l')))) (.ret (.inr (w',l'))))
theorem KJ (n:Int) (w:Int) (l:List Int) (m:Int) (i:Int) (w':Int) (l':List Int):dR Tryz.prog [] [] Tryz.f156 0 ((qP).wr (w,l,())) U6 (vg.wr (m,i,w',l'))=(vh m i w' l').res vg.wr DA:=by kernel_rfl
abbrev se (m:Int) (i:Int) (w':Int) (l':List Int):Prop:= -1≤i∧i<l'.length∧l'.length<1099511627776∧0≤m∧m<72057594037927936∧aB l'
noncomputable abbrev DB (x_:yU):aU:= .need ((fun (m:Int) (i:Int) (w':Int) (l':List Int)=>se m i w' l') x_.1 x_.2.1 x_.2.2.1 x_.2.2.2) (.leaf (DA ((fun (m:Int) (i:Int) (w':Int) (l':List Int)=>(w',de (i+1).toNat m l')) x_.1 x_.2.1 x_.2.2.1 x_.2.2.2)).1 (DA ((fun (m:Int) (i:Int) (w':Int) (l':List Int)=>(w',de (i+1).toNat m l')) x_.1 x_.2.1 x_.2.2.1 x_.2.2.2)).2)
theorem U8 (m:Int) (i:Int) (w':Int) (l':List Int) (h_:se m i w' l'):dq (fun x_:yU=>vh x_.1 x_.2.1 x_.2.2.1 x_.2.2.2) (m,i,w',l') ((w',de (i+1).toNat m l')):=by
 obtain ⟨h1,h2,h6,h3,h4,h5⟩:=h_
 obtain ⟨k,hk⟩: ∃ k:Nat,i=(k:Int)-1:=⟨(i+1).toNat,by omega⟩
 subst hk
 clear h1
 induction k generalizing m l' with
 |zero=>
  refine .stop ?_
  simp only[vh,nX,bs,an,al]
  exact ⟨fun h=>by omega,fun h=>rfl⟩
 |succ k ih=>
  by_cases hm:0<m
  ·have hb:By (l'.getD k 0):=h5.getD k
   have hk:((k:Nat)+1:Int)-1=k:=by omega
   have A9:=ih ((m+l'.getD k 0)/256) (l'.set k ((m+l'.getD k 0)%256)) (by rw[List.length_set];omega) (by have:=hb.1;omega) (by have:=hb.2;omega) (h5.set k ⟨by omega,by omega⟩) (by rw[List.length_set];omega)
   have e:de (((k+1:Nat):Int)-1+1).toNat m l'=de ((k:Int)-1+1).toNat ((m+l'.getD k 0)/256) (l'.set k ((m+l'.getD k 0)%256)):=by
    rw[show (((k+1:Nat):Int)-1+1).toNat=k+1 from by omega,show ((k:Int)-1+1).toNat=k from by omega,de,if_pos hm]
   rw[e]
   refine .go ?_ A9
   simp only[vh,nX,bs,an,al]
   have h2':(k:Int)<l'.length:=by omega
   have ek:(((k+1:Nat):Int)-1)=(k:Int):=by omega
   rw[ek]
   have e1:IntKind.u64.wrap (l'.getD k 0)=l'.getD k 0:=wrap_u64 hb.1 (by have:=hb.2;omega)
   have e2:IntKind.u64.wrap (m+l'.getD k 0)=m+l'.getD k 0:=wrap_u64 (by have:=hb.1;omega) (by have:=hb.2;omega)
   refine ⟨fun _=>⟨fun _=>⟨⟨by omega,h2'⟩,⟨by omega,h2'⟩,?_⟩,fun h=>absurd hm h⟩,fun h=>by omega⟩
   have Ol:=hb.1;have uF:=hb.2;have e3:shr .u64 (m+l'.getD k 0) 8=(m+l'.getD k 0)/256:=eG .u64 _ 8 (by decide)
   rw[Int.toNat_natCast,e1,e2,e3,wrap_u8,ar (n:=(k:Int)-1) (by omega) (by omega)]
  ·have e:de (((k+1:Nat):Int)-1+1).toNat m l'=l':=by
    rw[show (((k+1:Nat):Int)-1+1).toNat=k+1 from by omega,de,if_neg hm]
   rw[e]
   refine .stop ?_
   simp only[vh,nX,bs,an,al]
   exact ⟨fun _=>⟨fun h=>absurd h hm,fun _=>trivial⟩,fun h=>by omega⟩
theorem QU (n:Int) (w:Int) (l:List Int): ∀ x:yU,Ex Tryz.prog ((qP).wr (w,l,())) (.loop (aW Tryz.f156 0)) (vg.wr x) (DB x):=
 db mixed aF (ws:=U6) (aQ.nil _) (E:=DA) (L:=fun x_=>vh x_.1 x_.2.1 x_.2.2.1 x_.2.2.2) (pre:=fun x_=>(fun (m:Int) (i:Int) (w':Int) (l':List Int)=>se m i w' l') x_.1 x_.2.1 x_.2.2.1 x_.2.2.2) (sp:=fun x_=>(fun (m:Int) (i:Int) (w':Int) (l':List Int)=>(w',de (i+1).toNat m l')) x_.1 x_.2.1 x_.2.2.1 x_.2.2.2) (fun x_=>KJ n w l x_.1 x_.2.1 x_.2.2.1 x_.2.2.2) (fun z e=>by cases e) je (fun x_ h=>U8 x_.1 x_.2.1 x_.2.2.1 x_.2.2.2 h)
abbrev U9:Type:=List Int
noncomputable abbrev Va (x:U9):LV:=LV.cD []
noncomputable abbrev Vb (x:U9):List (Nat×Ev.Item):= [(1,Item.own 0 (Ty.int IntKind.u8) x)]
noncomputable def ON (n:Int) (w:Int) (l:List Int):Tr (U9):=(.need (se n (IntKind.i64.wrap ((↑l.length:Int)-1)) w l) (.ret
 (de (Int.toNat (IntKind.i64.wrap ((↑l.length:Int)-1)+1)) n l)))
theorem QV (n:Int) (w:Int) (l:List Int):aS Tryz.prog [] [(0,bM vg ((qP).wr (w,l,())) Dz (DB))] Tryz.f156 ((agq).wr (n,())) ((qP).wr (w,l,())) [.fr [.sym],.syms,.auto,.aD]=(ON n w l).end Va Vb ((qP).wr (w,l,())):=by kernel_rfl
theorem Vc (n:Int) (w:Int) (l:List Int):aQ Tryz.prog ((qP).wr (w,l,())) [(0,bM vg ((qP).wr (w,l,())) Dz (DB))] (aJ Tryz.f156):=(aQ.cO (nx (by kernel_rfl) (cz (hp:=(qP).wr (w,l,())) (QU n w l)) pc))
abbrev si (n:Int) (w:Int) (l:List Int):Prop:=l.length<1099511627776∧0≤n∧n<72057594037927936∧aB l
noncomputable def Vd:ao:=ao.bS [] (agq) (qP) fun x_ y_=> .leaf (some ((fun (n:Int) (w:Int) (l:List Int)=>si n w l) x_.1 y_.1 y_.2.1)) (Va ((fun (n:Int) (w:Int) (l:List Int)=>de l.length n l) x_.1 y_.1 y_.2.1)) (Vb ((fun (n:Int) (w:Int) (l:List Int)=>de l.length n l) x_.1 y_.1 y_.2.1))
theorem abq (n:Int) (w:Int) (l:List Int) (h_:si n w l):(ON n w l).Is (de l.length n l):=by
 obtain ⟨h1,h2,h3,h4⟩:=h_
 have e:IntKind.i64.wrap ((l.length:Int)-1)=l.length-1:=ar (by omega) (by omega)
 simp only[ON,an,al,e]
 refine ⟨⟨by omega,by omega,h1,h2,h3,h4⟩,?_⟩
 rw[show ((l.length:Int)-1+1).toNat=l.length from by omega]
theorem OO:Vd.Ok Tryz.prog 156:=
 cg (tys:= []) (A:=agq) (H:=qP) (LT:=fun x_ y_=>(fun (n:Int) (w:Int) (l:List Int)=> [(0,bM vg ((qP).wr (w,l,())) Dz (DB))]) x_.1 y_.1 y_.2.1) (ks:= [.fr [.sym],.syms,.auto,.aD]) (V:=Va) (D:=Vb) (T:=fun x_ y_=>ON x_.1 y_.1 y_.2.1) (pre:=fun x_ y_=>(fun (n:Int) (w:Int) (l:List Int)=>si n w l) x_.1 y_.1 y_.2.1) (sp:=fun x_ y_=>(fun (n:Int) (w:Int) (l:List Int)=>de l.length n l) x_.1 y_.1 y_.2.1) mixed aF Tryz.func156 (by kernel_rfl) Tryz.call156 (fun x_ y_=>Vc x_.1 y_.1 y_.2.1) (fun x_ y_=>QV x_.1 y_.1 y_.2.1) (fun x_ y_ h=>abq x_.1 y_.1 y_.2.1 h)
def sj (w:Int) (l:List Int):Prop:=16777216≤w∧w<4294967296∧aB l∧l.length<1099511627776
theorem bO: ∀ (i:Nat) (n:Int) (l:List Int),(de i n l).length=l.length
 |0,_,_=>rfl
 |i+1,n,l=>by
  unfold de
  split
  ·rw[bO i,List.length_set]
  ·rfl
theorem nY: ∀ (i:Nat) (n:Int) (l:List Int),aB l→aB (de i n l)
 |0,_,_,h=>h
 |i+1,n,l,h=>by
  unfold de
  split
  ·exact nY i _ _ (h.set i ⟨by omega,by omega⟩)
  ·exact h
def bx (p b w:Int) (l:List Int):Int×List Int:=if b=0 then cx (w/2048*a9 p) l else cx (w-w/2048*a9 p) (de l.length (w/2048*a9 p) l)
theorem gD {w:Int} (p:Int) (h:16777216≤w) (h':w<4294967296):253952≤w/2048*a9 p∧w/2048*a9 p<4294967296∧253952≤w-w/2048*a9 p:=by
 have h1:=gu p
 generalize a9 p=q at*
 have h2:8192≤w/2048:=by omega
 have h3:w/2048*2048≤w:=by omega
 generalize w/2048=u at*
 obtain ⟨q1,q2⟩:=h1
 have a1:u*31≤u*q:=Int.mul_le_mul_of_nonneg_left q1 (by omega)
 have a2:u*q≤u*2017:=Int.mul_le_mul_of_nonneg_left q2 (by omega)
 generalize u*q=z at*
 omega
theorem sk {w:Int} {l:List Int} (h1:65536≤w) (h2:w<4294967296) (h3:aB l) (h4:l.length<1099511627775):sj (cx w l).1 (cx w l).2:=by
 unfold cx sj
 split
 ·refine ⟨by simp only;omega,by simp only;omega,h3.append (aB.cons ⟨by omega,by omega⟩ aB.nil),by simp;omega⟩
 ·exact ⟨by simp only;omega,h2,h3,by simp only;omega⟩
def cq (b w:Int) (l:List Int):Int×List Int:=if b=0 then cx (w/2) l else cx (w/2) (de l.length (w/2) l)
theorem lB {p b w:Int} {l:List Int} (h:sj w l) (hl:l.length<1099511627775):sj (bx p b w l).1 (bx p b w l).2:=by
 obtain ⟨h1,h2,h3,h4⟩:=h
 have hb:=gD p h1 h2
 unfold bx
 split
 ·exact sk (by omega) (by omega) h3 hl
 ·exact sk (by omega) (by omega) (nY _ _ _ h3) (by rw[bO];exact hl)
theorem vk {b w:Int} {l:List Int} (h:sj w l) (hl:l.length<1099511627775):sj (cq b w l).1 (cq b w l).2:=by
 obtain ⟨h1,h2,h3,h4⟩:=h
 unfold cq
 split
 ·exact sk (by omega) (by omega) h3 hl
 ·exact sk (by omega) (by omega) (nY _ _ _ h3) (by rw[bO];exact hl)
theorem sn (w:Int) (l:List Int):(cx w l).2.length≤l.length+1:=by unfold cx;split<;>simp
theorem gk (p b w:Int) (l:List Int):(bx p b w l).2.length≤l.length+1:=by
 unfold bx
 split
 ·exact sn _ _
 ·refine Nat.le_trans (sn _ _) (by rw[bO];exact Nat.le_refl _)
theorem lC (b w:Int) (l:List Int):(cq b w l).2.length≤l.length+1:=by
 unfold cq
 split
 ·exact sn _ _
 ·refine Nat.le_trans (sn _ _) (by rw[bO];exact Nat.le_refl _)
abbrev Ve:Type:=Int×Int×(List Int)
noncomputable abbrev Vf (x:Ve):LV:=LV.one (VV.sc (SV.int IntKind.i64 (SI.sym x.1)))
noncomputable abbrev Vg (x:Ve):List (Nat×Ev.Item):= [(0,Item.aZ [SV.sl 1 1,SV.int IntKind.u64 (SI.sym x.2.1)] 183),(1,Item.own 1
 (Ty.int IntKind.u8) x.2.2)]
noncomputable def OP (p:Int) (b:Int) (w:Int) (l:List Int):Tr (Ve):=(.ite (b==0) (.need (mr (IntKind.u64.wrap (shr IntKind.u64
 w 11*IntKind.u64.wrap (a9 p))) l) (.ret (da p b,(cx (IntKind.u64.wrap (shr IntKind.u64 w 11*IntKind.u64.wrap (a9 p))) l).fst,(cx
 (IntKind.u64.wrap (shr IntKind.u64 w 11*IntKind.u64.wrap (a9 p))) l).snd))) (.need (si (IntKind.u64.wrap (shr IntKind.u64 w 11*
 IntKind.u64.wrap (a9 p))) w l) (.need (mr (IntKind.u64.wrap (w-IntKind.u64.wrap (shr IntKind.u64 w 11*IntKind.u64.wrap (a9 p)))) (de
 l.length (IntKind.u64.wrap (shr IntKind.u64 w 11*IntKind.u64.wrap (a9 p))) l)) (.ret (da p b,(cx (IntKind.u64.wrap (w-IntKind.u64.wrap
 (shr IntKind.u64 w 11*IntKind.u64.wrap (a9 p)))) (de l.length (IntKind.u64.wrap (shr IntKind.u64 w 11*IntKind.u64.wrap (a9 p))) l)).fst,
 (cx (IntKind.u64.wrap (w-IntKind.u64.wrap (shr IntKind.u64 w 11*IntKind.u64.wrap (a9 p)))) (de l.length (IntKind.u64.wrap (shr IntKind.u64
 w 11*IntKind.u64.wrap (a9 p))) l)).snd)))))
theorem QW (p b:Int) (w:Int) (l:List Int):aS Tryz.prog [(157,U4),(156,Vd),(155,Dv),(158,r9)] [] Tryz.f119 ((B0).wr (p,b,())) ((qP).wr (w,l,())) [.one 1,.fr [.sym],.syms,.auto,.aD]=(OP p b w l).end Vf Vg ((qP).wr (w,l,())):=by kernel_rfl
theorem Vh (p b:Int) (w:Int) (l:List Int):aQ Tryz.prog ((qP).wr (w,l,())) [] (aJ Tryz.f119):=(aQ.nil _)
abbrev so (p b:Int) (w:Int) (l:List Int):Prop:=sj w l
noncomputable def Hl:ao:=ao.bS [] (B0) (qP) fun x_ y_=> .leaf (some ((fun (p b:Int) (w:Int) (l:List Int)=>so p b w l) x_.1 x_.2.1 y_.1 y_.2.1)) (Vf ((fun (p b:Int) (w:Int) (l:List Int)=>(da p b,bx p b w l)) x_.1 x_.2.1 y_.1 y_.2.1)) (Vg ((fun (p b:Int) (w:Int) (l:List Int)=>(da p b,bx p b w l)) x_.1 x_.2.1 y_.1 y_.2.1))
theorem abr (p b:Int) (w:Int) (l:List Int) (h_:so p b w l):(OP p b w l).Is ((da p b,bx p b w l)):=by
 obtain ⟨h1,h2,h3,h4⟩:=h_
 have hb:=gD p h1 h2
 have hh:=gu p
 have e0:IntKind.u64.wrap (a9 p)=a9 p:=wrap_u64 (by omega) (by omega)
 have e1:shr .u64 w 11=w/2048:=eG .u64 w 11 (by decide)
 have e2:IntKind.u64.wrap (w/2048*a9 p)=w/2048*a9 p:=wrap_u64 (by omega) (by omega)
 have e3:IntKind.u64.wrap (w-w/2048*a9 p)=w-w/2048*a9 p:=wrap_u64 (by omega) (by omega)
 simp only[OP,bx,fo,an,al,e0,e1,e2,e3]
 refine ⟨fun h=>⟨⟨by omega,by omega,h4⟩,by rw[if_pos h]⟩,fun h=>⟨⟨h4,by omega,by omega,h3⟩,⟨by omega,by omega,by rw[bO];exact h4⟩,by rw[if_neg h]⟩⟩
theorem xi:Hl.Ok Tryz.prog 119:=
 cg (tys:= []) (A:=B0) (H:=qP) (LT:=fun x_ y_=>(fun (p b:Int) (w:Int) (l:List Int)=> []) x_.1 x_.2.1 y_.1 y_.2.1) (ks:= [.one 1,.fr [.sym],.syms,.auto,.aD]) (V:=Vf) (D:=Vg) (T:=fun x_ y_=>OP x_.1 x_.2.1 y_.1 y_.2.1) (pre:=fun x_ y_=>(fun (p b:Int) (w:Int) (l:List Int)=>so p b w l) x_.1 x_.2.1 y_.1 y_.2.1) (sp:=fun x_ y_=>(fun (p b:Int) (w:Int) (l:List Int)=>(da p b,bx p b w l)) x_.1 x_.2.1 y_.1 y_.2.1) mixed ((ak OM (ak OO (ak r8 (ak pe aF))))) Tryz.func119 (by kernel_rfl) Tryz.call119 (fun x_ y_=>Vh x_.1 x_.2.1 y_.1 y_.2.1) (fun x_ y_=>QW x_.1 x_.2.1 y_.1 y_.2.1) (fun x_ y_ h=>abr x_.1 x_.2.1 y_.1 y_.2.1 h)
abbrev KK:Type:=Int×(List Int)
noncomputable abbrev KL (x:KK):LV:=LV.cD []
noncomputable abbrev KM (x:KK):List (Nat×Ev.Item):= [(0,Item.aZ [SV.sl 1 1,SV.int IntKind.u64 (SI.sym x.1)] 183),(1,Item.own 1
 (Ty.int IntKind.u8) x.2)]
noncomputable def DC (b:Int) (w:Int) (l:List Int):Tr (KK):=(.ite (b !=0) (.need (si (IntKind.u64.wrap (w.tdiv 2))
 (IntKind.u64.wrap (w.tdiv 2)) l) (.need (mr (IntKind.u64.wrap (w.tdiv 2)) (de l.length (IntKind.u64.wrap (w.tdiv 2)) l)) (.ret ((cx
 (IntKind.u64.wrap (w.tdiv 2)) (de l.length (IntKind.u64.wrap (w.tdiv 2)) l)).fst,(cx (IntKind.u64.wrap (w.tdiv 2)) (de l.length
 (IntKind.u64.wrap (w.tdiv 2)) l)).snd)))) (.need (mr (IntKind.u64.wrap (w.tdiv 2)) l) (.ret ((cx (IntKind.u64.wrap (w.tdiv 2)) l).fst,(cx
 (IntKind.u64.wrap (w.tdiv 2)) l).snd))))
theorem KN (b:Int) (w:Int) (l:List Int):aS Tryz.prog [(157,U4),(156,Vd),(155,Dv),(158,r9)] [] Tryz.f121 ((qN).wr (b,())) ((qP).wr (w,l,())) [.one 1,.fr [.sym],.syms,.auto,.aD]=(DC b w l).end KL KM ((qP).wr (w,l,())):=by kernel_rfl
theorem QX (b:Int) (w:Int) (l:List Int):aQ Tryz.prog ((qP).wr (w,l,())) [] (aJ Tryz.f121):=(aQ.nil _)
abbrev sr (b:Int) (w:Int) (l:List Int):Prop:=sj w l
noncomputable def KO:ao:=ao.bS [] (qN) (qP) fun x_ y_=> .leaf (some ((fun (b:Int) (w:Int) (l:List Int)=>sr b w l) x_.1 y_.1 y_.2.1)) (KL ((fun (b:Int) (w:Int) (l:List Int)=>cq b w l) x_.1 y_.1 y_.2.1)) (KM ((fun (b:Int) (w:Int) (l:List Int)=>cq b w l) x_.1 y_.1 y_.2.1))
theorem Vi (b:Int) (w:Int) (l:List Int) (h_:sr b w l):(DC b w l).Is (cq b w l):=by
 obtain ⟨h1,h2,h3,h4⟩:=h_
 have e1:w.tdiv 2=w/2:=Int.tdiv_eq_ediv_of_nonneg (by omega)
 have e2:IntKind.u64.wrap (w/2)=w/2:=wrap_u64 (by omega) (by omega)
 simp only[DC,cq,yR,an,al,e1,e2]
 refine ⟨fun h=>⟨⟨by omega,by omega,h4⟩,by rw[if_pos h]⟩,fun h=>⟨⟨h4,by omega,by omega,h3⟩,⟨by omega,by omega,by rw[bO];exact h4⟩,by rw[if_neg h]⟩⟩
theorem Hm:KO.Ok Tryz.prog 121:=
 cg (tys:= []) (A:=qN) (H:=qP) (LT:=fun x_ y_=>(fun (b:Int) (w:Int) (l:List Int)=> []) x_.1 y_.1 y_.2.1) (ks:= [.one 1,.fr [.sym],.syms,.auto,.aD]) (V:=KL) (D:=KM) (T:=fun x_ y_=>DC x_.1 y_.1 y_.2.1) (pre:=fun x_ y_=>(fun (b:Int) (w:Int) (l:List Int)=>sr b w l) x_.1 y_.1 y_.2.1) (sp:=fun x_ y_=>(fun (b:Int) (w:Int) (l:List Int)=>cq b w l) x_.1 y_.1 y_.2.1) mixed ((ak OM (ak OO (ak r8 (ak pe aF))))) Tryz.func121 (by kernel_rfl) Tryz.call121 (fun x_ y_=>QX x_.1 y_.1 y_.2.1) (fun x_ y_=>KN x_.1 y_.1 y_.2.1) (fun x_ y_ h=>Vi x_.1 y_.1 y_.2.1 h)
abbrev Vj:Type:=Int×(List Int)
noncomputable abbrev Vk (x:Vj):LV:=LV.one (VV.sc (SV.ptr 0 0))
noncomputable abbrev Vl (x:Vj):List (Nat×Ev.Item):= [(0,Item.aZ [SV.sl 1 0,SV.int IntKind.u64 (SI.sym x.1)] 183),(1,Item.own 0
 (Ty.int IntKind.u8) x.2)]
noncomputable def Vm:Tr (Vj):=(.need ((4:Int)=4∧(0:Int)≤4∧(4:Int)≤70368744177664∧(4:Int)≤70368744177664) (.ret
 (4294967295,List.replicate 4 (0:Int))))
theorem QY:aS Tryz.prog [] [] Tryz.f83 ((ag).wr (())) ((ag).wr (())) [.fr [.sym],.syms,.auto,.aD]=(Vm).end Vk Vl ((ag).wr (())):=by kernel_rfl
theorem Vn:aQ Tryz.prog ((ag).wr (())) [] (aJ Tryz.f83):=(aQ.nil _)
abbrev xj:Prop:=True
noncomputable def Vo:ao:=ao.bS [] (ag) (ag) fun x_ y_=> .leaf (some (xj)) (Vk ((4294967295,[0,0,0,0]))) (Vl ((4294967295,[0,0,0,0])))
theorem abt (h_:xj):(Vm).Is ((4294967295,[0,0,0,0])):=by
 exact ⟨⟨rfl,by decide,by decide,by decide⟩,rfl⟩
theorem OQ:Vo.Ok Tryz.prog 83:=
 cg (tys:= []) (A:=ag) (H:=ag) (LT:=fun x_ y_=> []) (ks:= [.fr [.sym],.syms,.auto,.aD]) (V:=Vk) (D:=Vl) (T:=fun x_ y_=>Vm) (pre:=fun x_ y_=>xj) (sp:=fun x_ y_=>(4294967295,[0,0,0,0])) mixed aF Tryz.func83 (by kernel_rfl) Tryz.call83 (fun x_ y_=>Vn) (fun x_ y_=>QY) (fun x_ y_ h=>abt h)
abbrev jTr:ba Ev.Item Unit:=Bq 213 (aj (wX 3 0) ag)
abbrev nZ:ba Hp (Int×List Int×List Int×Unit):=ae (dt jCo) (ae (eE 0 u8) (aj (dt jTr) (ae (eE 0 (.int .u16)) ag)))
abbrev agr:ba Ev.Item Unit:=Bq 213 (aj (wX 1 0) ag)
abbrev yV:ba Hp (List Int×Unit):=aj (dt agr) (ae (eE 0 (.int .u16)) ag)
def lg (p:List Int):Nat:=p.length.log2
def QZ (p:List Int):Prop:=lg p≤8∧p.length=2 ^ lg p∧gh p∧ ∀ i:Nat,1≤i→i<2 ^ lg p→1≤p.getD i 0
theorem mw (n:Nat) (h:n≤8):shl .i64 1 n=((2 ^ n:Nat):Int):=by
 rw[gM .i64 1 n (by simp[IntKind.bits];omega),Int.one_mul]
 have h1:(2:Nat) ^ n≤256:=Nat.le_trans (Nat.pow_le_pow_right (by omega) h) (by decide)
 generalize (2:Nat) ^ n=m at*
 exact ar (by omega) (by omega)
theorem DD {p:List Int} (h:QZ p) {n:Nat} (hn:n≤lg p):jm p ((2 ^ n:Nat):Int)=0↔n=lg p:=by
 obtain ⟨h1,h2,h3,h4⟩:=h
 have hp:0<(2:Nat) ^ n:=Nat.two_pow_pos n
 unfold jm yO
 by_cases e:n=lg p
 ·subst e
  rw[h2]
  generalize (2:Nat) ^ lg p=m at*
  rw[if_neg (by simp)]
  exact ⟨fun _=>rfl,fun _=>rfl⟩
 ·have fD:(2:Nat) ^ n<2 ^ lg p:=Nat.pow_lt_pow_right (by omega) (by omega)
  have h5:=h4 (2 ^ n) hp fD
  rw[h2]
  generalize (2:Nat) ^ lg p=M at*
  generalize (2:Nat) ^ n=m at*
  rw[if_pos (decide_eq_true ⟨by omega,by omega⟩),Int.toNat_natCast]
  exact ⟨fun h=>by omega,fun h=>absurd h e⟩
abbrev su:Type:=Int×(List Int)
noncomputable abbrev pg:ba St su:=(bG (aj (ai (aP (0) (0))) (jk 2 (ae (ai (ax IntKind.i64)) (jk 8 ag)))) (aj (dt
 agr) (ae (eE (0) (Ty.int IntKind.u16)) ag))).qk (fun y=>(y.1.1,y.2.1)) (fun x=>((x.1,()),(x.2,()))) (fun _=>rfl)
abbrev xk:List Wk:= [.fr (dA 12 [(0,.aq),(3,.aq)]),.syms,.auto,.aD]
abbrev OR:Exit→List Wk:=Dy xk 0 [.fr (dA 12 [(3,.aq)]),.syms,.auto,.aD] [.fr (dA 12 [(2,.aq)]),.syms,.auto,.aD]
abbrev OS:Type:=Int×(List Int)
noncomputable abbrev xl (x:OS):Exit×St:=(Exit.exit 0,⟨(ir 3 (LV.one (VV.sc (SV.int IntKind.i64 (SI.sym x.1)))::(ir 8 []))),
 [some (agr.wr ()),some (Item.own 0 (Ty.int IntKind.u16) x.2)]⟩)
noncomputable def sx (n:Int) (p':List Int):Tr (su⊕(OS)):=(.need (0≤n) (.need (gh p') (.ite (jm p' (shl IntKind.i64 1 n)
 !=0) (.ret (.inl (IntKind.i64.wrap (n+1),p'))) (.ret (.inr (n,p'))))))
theorem Hn (p:List Int) (n:Int) (p':List Int):dR Tryz.prog [(153,QS)] [] Tryz.f159 0 ((yV).wr (p,())) OR (pg.wr (n,p'))=(sx n p').res pg.wr xl:=by kernel_rfl
abbrev ph (n:Int) (p':List Int):Prop:=n=0∧QZ p'
noncomputable abbrev xm (x_:su):aU:= .need ((fun (n:Int) (p':List Int)=>ph n p') x_.1 x_.2) (.leaf (xl ((fun (n:Int) (p':List Int)=>((lg p':Int),p')) x_.1 x_.2)).1 (xl ((fun (n:Int) (p':List Int)=>((lg p':Int),p')) x_.1 x_.2)).2)
theorem Q0 (n:Int) (p':List Int) (h_:ph n p'):dq (fun x_:su=>sx x_.1 x_.2) (n,p') (((lg p':Int),p')):=by
 obtain ⟨rfl,h⟩:=h_
 have h':=h
 obtain ⟨h1,h2,h3,h4⟩:=h'
 refine dq.iter (fun k=>((k:Int),p')) (lg p') (fun k hk=>?_) ?_
 ·simp only[sx,yR,an,al,mw k (by omega),DD h (Nat.le_of_lt hk)]
  refine ⟨by omega,h3,fun e=>by omega,fun _=>?_⟩
  rw[ar (by omega) (by omega)];rfl
 ·simp only[sx,yR,an,al,mw (lg p') h1,DD h (Nat.le_refl _)]
  exact ⟨by omega,h3,fun _=>trivial,fun e=>absurd ((DD h (Nat.le_refl _)).2 rfl) e⟩
theorem KP (p:List Int): ∀ x:su,Ex Tryz.prog ((yV).wr (p,())) (.loop (aW Tryz.f159 0)) (pg.wr x) (xm x):=
 db mixed ((ak yP aF)) (ws:=OR) (aQ.nil _) (E:=xl) (L:=fun x_=>sx x_.1 x_.2) (pre:=fun x_=>(fun (n:Int) (p':List Int)=>ph n p') x_.1 x_.2) (sp:=fun x_=>(fun (n:Int) (p':List Int)=>((lg p':Int),p')) x_.1 x_.2) (fun x_=>Hn p x_.1 x_.2) (fun z e=>by cases e) je (fun x_ h=>Q0 x_.1 x_.2 h)
abbrev KQ:Type:=Int
noncomputable abbrev KR (x:KQ):LV:=LV.one (VV.sc (SV.int IntKind.i64 (SI.sym x)))
noncomputable abbrev KS (x:KQ):List (Nat×Ev.Item):= []
noncomputable def KT (p:List Int):Tr (KQ):=(.need (ph 0 p) (.ret ((↑(lg p):Int))))
theorem KU (p:List Int):aS Tryz.prog [(153,QS)] [(0,bM pg ((yV).wr (p,())) xk (xm))] Tryz.f159 ((gG).wr (())) ((yV).wr (p,())) [.fr [.sym],.syms,.auto,.aD]=(KT p).end KR KS ((yV).wr (p,())):=by kernel_rfl
theorem Q1 (p:List Int):aQ Tryz.prog ((yV).wr (p,())) [(0,bM pg ((yV).wr (p,())) xk (xm))] (aJ Tryz.f159):=(aQ.cO (nx (by kernel_rfl) (cz (hp:=(yV).wr (p,())) (KP p)) pc))
abbrev sy (p:List Int):Prop:=QZ p
noncomputable def KV:ao:=ao.bS [] (gG) (yV) fun x_ y_=> .leaf (some ((fun (p:List Int)=>sy p) y_.1)) (KR ((fun (p:List Int)=>(lg p:Int)) y_.1)) (KS ((fun (p:List Int)=>(lg p:Int)) y_.1))
theorem Vp (p:List Int) (h_:sy p):(KT p).Is ((lg p:Int)):=by
 exact ⟨⟨rfl,h_⟩,rfl⟩
theorem Ho:KV.Ok Tryz.prog 159:=
 cg (tys:= []) (A:=gG) (H:=yV) (LT:=fun x_ y_=>(fun (p:List Int)=> [(0,bM pg ((yV).wr (p,())) xk (xm))]) y_.1) (ks:= [.fr [.sym],.syms,.auto,.aD]) (V:=KR) (D:=KS) (T:=fun x_ y_=>KT y_.1) (pre:=fun x_ y_=>(fun (p:List Int)=>sy p) y_.1) (sp:=fun x_ y_=>(fun (p:List Int)=>(lg p:Int)) y_.1) mixed ((ak yP aF)) Tryz.func159 (by kernel_rfl) Tryz.call159 (fun x_ y_=>Q1 y_.1) (fun x_ y_=>KU y_.1) (fun x_ y_ h=>Vp y_.1 h)
def bb:Nat→Int→Int→Int→List Int→List Int→Int×List Int×List Int
 |0,_,_,w,l,p=>(w,l,p)
 |k+1,v,node,w,l,p=>
  let b:=v/2 ^ k%2
  let c:=bx (jm p node) b w l
  bb k v (2*node+b) c.1 c.2 (c6 p node b)
abbrev sA:Type:=Int×Int×Int×Int×(List Int)×(List Int)
noncomputable abbrev pj:ba St sA:=(bG (aj (ai (aP (0) (0))) (aj (ai (aP (2) (0))) (ae (ai (ax IntKind.i64)) (jk 4
 (ae (ai (ax IntKind.i64)) (ae (ai (ax IntKind.i64)) (jk 43 ag))))))) (ae (gX (183) ((aj (wX (1) (1)) (ae (ax IntKind.u64)
 ag)))) (ae (eE (1) (Ty.int IntKind.u8)) (aj (dt jTr) (ae (eE (0) (Ty.int IntKind.u16)) ag))))).qk (fun y=>(y.1.1,y.1.2.1,
 y.1.2.2.1,y.2.1.1,y.2.2.1,y.2.2.2.1)) (fun x=>((x.1,(x.2.1,(x.2.2.1,()))),((x.2.2.2.1,()),(x.2.2.2.2.1,(x.2.2.2.2.2,()))))) (fun _=>rfl)
abbrev xn:List Wk:= [.one 1,.fr (dA 52 [(0,.aq),(1,.aq),(2,.aq),(7,.aq),(8,.aq)]),.syms,.auto,.aD]
abbrev OT:Exit→List Wk:=Dy xn 0 [.one 1,.fr (dA 52 []),.syms,.auto,.aD] [.one 1,.fr (dA 52 []),.syms,.auto,.aD]
abbrev OU:Type:=Int×(List Int)×(List Int)
noncomputable abbrev xo (x:OU):Exit×St:=(Exit.exit 0,⟨(ir 52 []),[some (Item.aZ [SV.sl 1 1,SV.int IntKind.u64 (SI.sym x.1)]
 183),some (Item.own 1 (Ty.int IntKind.u8) x.2.1),some (jTr.wr ()),some (Item.own 0 (Ty.int IntKind.u16) x.2.2)]⟩)
noncomputable def sB (v':Int) (node:Int) (i:Int) (w':Int) (l':List Int) (p':List Int):Tr (sA⊕(OU)):=(.ite (decide (0≤
 i)) (.need (0≤i) (.need (gh p') (.need (so (jm p' node) (bp IntKind.i64 (shr IntKind.i64 v' i) 1) w' l') (.need (gh p') (.ret (.inl
 (v',IntKind.i64.wrap (IntKind.i64.wrap (2*node)+bp IntKind.i64 (shr IntKind.i64 v' i) 1),IntKind.i64.wrap (i-1),(bx (jm p' node)
 (bp IntKind.i64 (shr IntKind.i64 v' i) 1) w' l').fst,(bx (jm p' node) (bp IntKind.i64 (shr IntKind.i64 v' i) 1) w' l').snd,c6 p' node
 (bp IntKind.i64 (shr IntKind.i64 v' i) 1)))))))) (.ret (.inr (w',l',p'))))
theorem Hq (v:Int) (w:Int) (l:List Int) (p:List Int) (v':Int) (node:Int) (i:Int) (w':Int) (l':List Int) (p':List Int):dR Tryz.prog [(159,KV),(153,QS),(154,Dw),(119,Hl)] [] Tryz.f120 0 ((nZ).wr (w,l,p,())) OT (pj.wr (v',node,i,w',l',p'))=(sB v' node i w' l' p').res pj.wr xo:=by kernel_rfl
theorem Hr (p:List Int) (n b:Int):(c6 p n b).length=p.length:=by unfold c6;split<;>simp
theorem pn (p:List Int) (n b:Int):lg (c6 p n b)=lg p:=by unfold lg;rw[Hr]
theorem vl (l:List Int) (i j:Nat) (x:Int):(l.set i x).getD j 0=if i=j∧j<l.length then x else l.getD j 0:=by
 simp only[List.getD_eq_getElem?_getD,List.getElem?_set]
 by_cases h:i=j
 ·subst h
  by_cases h2:i<l.length
  ·simp[h2]
  ·simp[h2,List.getElem?_eq_none (Nat.le_of_not_lt h2)]
 ·simp[h]
theorem Hs {p:List Int} (h:QZ p) (n b:Int):QZ (c6 p n b):=by
 obtain ⟨h1,h2,h3,h4⟩:=h
 have ha:=nW (p.getD n.toNat 0) b
 refine ⟨by rw[pn];exact h1,by rw[Hr,pn];exact h2,fun i=>?_,fun i k1 k2=>?_⟩
 ·unfold c6
  split
  ·rw[vl];split
   ·omega
   ·exact h3 i
  ·exact h3 i
 ·rw[pn] at k2
  unfold c6
  split
  ·rw[vl];split
   ·omega
   ·exact h4 i k1 k2
  ·exact h4 i k1 k2
theorem Vq {v:Int} (h0:0≤v) (k:Nat) (hk:k≤63):bp .i64 (shr .i64 v k) 1=v/2 ^ k%2:=by
 rw[eG .i64 v k (by simp[IntKind.bits];omega),abo (m:=1) (by decide) _ _ (by decide)]
 simp
theorem DE {k n:Nat} (h:k≤n):(2:Int) ^ k≤2 ^ n:=by
 have:=Nat.pow_le_pow_right (n:=2) (by omega) h
 exact_mod_cast this
abbrev po (v':Int) (node:Int) (i:Int) (w':Int) (l':List Int) (p':List Int):Prop:=QZ p'∧sj w' l'∧0≤v'∧ -1≤i∧i<lg p'∧1≤node∧node<2 ^ (lg p'-(i+1).toNat+1)∧(l'.length:Int)+i<1099511600000
noncomputable abbrev xp (x_:sA):aU:= .need ((fun (v':Int) (node:Int) (i:Int) (w':Int) (l':List Int) (p':List Int)=>po v' node i w' l' p') x_.1 x_.2.1 x_.2.2.1 x_.2.2.2.1 x_.2.2.2.2.1 x_.2.2.2.2.2) (.leaf (xo ((fun (v':Int) (node:Int) (i:Int) (w':Int) (l':List Int) (p':List Int)=>bb (i+1).toNat v' node w' l' p') x_.1 x_.2.1 x_.2.2.1 x_.2.2.2.1 x_.2.2.2.2.1 x_.2.2.2.2.2)).1 (xo ((fun (v':Int) (node:Int) (i:Int) (w':Int) (l':List Int) (p':List Int)=>bb (i+1).toNat v' node w' l' p') x_.1 x_.2.1 x_.2.2.1 x_.2.2.2.1 x_.2.2.2.2.1 x_.2.2.2.2.2)).2)
theorem Q2 (v':Int) (node:Int) (i:Int) (w':Int) (l':List Int) (p':List Int) (h_:po v' node i w' l' p'):dq (fun x_:sA=>sB x_.1 x_.2.1 x_.2.2.1 x_.2.2.2.1 x_.2.2.2.2.1 x_.2.2.2.2.2) (v',node,i,w',l',p') (bb (i+1).toNat v' node w' l' p'):=by
 obtain ⟨h1,h2,h3,h4,h5,h6,h7,h8⟩:=h_
 obtain ⟨k,hk⟩: ∃ k:Nat,i=(k:Int)-1:=⟨(i+1).toNat,by omega⟩
 subst hk
 clear h4
 induction k generalizing node w' l' p' with
 |zero=>
  refine .stop ?_
  simp only[sB,nX,bs,an,al]
  exact ⟨fun h=>by omega,fun h=>rfl⟩
 |succ k ih=>
  have e0:(((k+1:Nat):Int)-1+1).toNat=k+1:=by omega
  have e1:((k:Int)-1+1).toNat=k:=by omega
  have e2:(((k+1:Nat):Int)-1)=(k:Int):=by omega
  rw[e0] at h7 ⊢
  rw[e1] at ih
  rw[e2] at h5 h8 ⊢
  have hlg:=h1.1
  have hb:bp .i64 (shr .i64 v' k) 1=v'/2 ^ k%2:=Vq h3 k (by omega)
  have hp:(2:Int) ^ (lg p'-(k+1)+1)≤2 ^ 8:=DE (by omega)
  have hp8:(2:Int) ^ 8=256:=by decide
  have hpe:(2:Int) ^ (lg p'-k+1)=2*2 ^ (lg p'-(k+1)+1):=by
   rw[show lg p'-k+1=(lg p'-(k+1)+1)+1 from by omega,Int.pow_succ,Int.mul_comm]
  generalize hbe:v'/2 ^ k%2=b at*
  have uF:0≤b∧b≤1:=by omega
  have hcl:=gk (jm p' node) b w' l'
  have A9:=ih (2*node+b) (bx (jm p' node) b w' l').1 (bx (jm p' node) b w' l').2 (c6 p' node b) (Hs h1 _ _) (lB h2 (by omega)) (by omega) (by rw[pn];omega) (by rw[pn,hpe];omega) (by omega)
  have e3:bb (k+1) v' node w' l' p'=bb k v' (2*node+b) (bx (jm p' node) b w' l').1 (bx (jm p' node) b w' l').2 (c6 p' node b):=by
   rw[bb,hbe]
  rw[e3]
  refine .go ?_ A9
  simp only[sB,nX,bs,an,al,hb]
  refine ⟨fun _=>⟨by omega,h1.2.2.1,h2,h1.2.2.1,?_⟩,fun h=>by omega⟩
  rw[ar (n:=2*node) (by omega) (by omega),ar (n:=2*node+b) (by omega) (by omega),ar (n:=(k:Int)-1) (by omega) (by omega)]
theorem KW (v:Int) (w:Int) (l:List Int) (p:List Int): ∀ x:sA,Ex Tryz.prog ((nZ).wr (w,l,p,())) (.loop (aW Tryz.f120 0)) (pj.wr x) (xp x):=
 db mixed ((ak Ho (ak yP (ak yQ (ak xi aF))))) (ws:=OT) (aQ.nil _) (E:=xo) (L:=fun x_=>sB x_.1 x_.2.1 x_.2.2.1 x_.2.2.2.1 x_.2.2.2.2.1 x_.2.2.2.2.2) (pre:=fun x_=>(fun (v':Int) (node:Int) (i:Int) (w':Int) (l':List Int) (p':List Int)=>po v' node i w' l' p') x_.1 x_.2.1 x_.2.2.1 x_.2.2.2.1 x_.2.2.2.2.1 x_.2.2.2.2.2) (sp:=fun x_=>(fun (v':Int) (node:Int) (i:Int) (w':Int) (l':List Int) (p':List Int)=>bb (i+1).toNat v' node w' l' p') x_.1 x_.2.1 x_.2.2.1 x_.2.2.2.1 x_.2.2.2.2.1 x_.2.2.2.2.2) (fun x_=>Hq v w l p x_.1 x_.2.1 x_.2.2.1 x_.2.2.2.1 x_.2.2.2.2.1 x_.2.2.2.2.2) (fun z e=>by cases e) je (fun x_ h=>Q2 x_.1 x_.2.1 x_.2.2.1 x_.2.2.2.1 x_.2.2.2.2.1 x_.2.2.2.2.2 h)
abbrev KX:Type:=Int×(List Int)×(List Int)
noncomputable abbrev KY (x:KX):LV:=LV.cD []
noncomputable abbrev KZ (x:KX):List (Nat×Ev.Item):= [(0,Item.aZ [SV.sl 1 1,SV.int IntKind.u64 (SI.sym x.1)] 183),(1,Item.own 1
 (Ty.int IntKind.u8) x.2.1),(2,Item.aZ [SV.sl 3 1] 213),(3,Item.own 1 (Ty.int IntKind.u16) x.2.2)]
noncomputable def DF (v:Int) (w:Int) (l:List Int) (p:List Int):Tr (KX):=(.need (sy p) (.ite (decide (v<0)==false) (.need
 (0≤(↑(lg p):Int)) (.ite (decide (shl IntKind.i64 1 (↑(lg p):Int)≤v)) (.ret (w,l,p)) (.need (po v 1 (IntKind.i64.wrap ((↑(lg p):Int)
 -1)) w l p) (.ret ((bb (Int.toNat (IntKind.i64.wrap ((↑(lg p):Int)-1)+1)) v 1 w l p).fst,(bb (Int.toNat (IntKind.i64.wrap ((↑(lg p):
 Int)-1)+1)) v 1 w l p).snd.fst,(bb (Int.toNat (IntKind.i64.wrap ((↑(lg p):Int)-1)+1)) v 1 w l p).snd.snd))))) (.ret (w,l,p))))
theorem K0 (v:Int) (w:Int) (l:List Int) (p:List Int):aS Tryz.prog [(159,KV),(153,QS),(154,Dw),(119,Hl)] [(0,bM pj ((nZ).wr (w,l,p,())) xn (xp))] Tryz.f120 (((aj (ai (aP 0 0)) (aj (ai (aP 2 0)) (ae (ai (ax .i64)) ag)))).wr (v,())) ((nZ).wr (w,l,p,())) [.one 1,.one 3,.fr [.sym],.syms,.auto,.aD]=(DF v w l p).end KY KZ ((nZ).wr (w,l,p,())):=by kernel_rfl
theorem Q4 (v:Int) (w:Int) (l:List Int) (p:List Int):aQ Tryz.prog ((nZ).wr (w,l,p,())) [(0,bM pj ((nZ).wr (w,l,p,())) xn (xp))] (aJ Tryz.f120):=(aQ.cO (nx (by kernel_rfl) (cz (hp:=(nZ).wr (w,l,p,())) (KW v w l p)) pc))
abbrev lD (v:Int) (w:Int) (l:List Int) (p:List Int):Prop:=QZ p∧sj w l∧0≤v∧v<2 ^ lg p∧1≤lg p∧l.length<1099511500000
noncomputable def K1:ao:=ao.bS [] ((aj (ai (aP 0 0)) (aj (ai (aP 2 0)) (ae (ai (ax .i64)) ag)))) (nZ) fun x_ y_=> .leaf (some ((fun (v:Int) (w:Int) (l:List Int) (p:List Int)=>lD v w l p) x_.1 y_.1 y_.2.1 y_.2.2.1)) (KY ((fun (v:Int) (w:Int) (l:List Int) (p:List Int)=>bb (lg p) v 1 w l p) x_.1 y_.1 y_.2.1 y_.2.2.1)) (KZ ((fun (v:Int) (w:Int) (l:List Int) (p:List Int)=>bb (lg p) v 1 w l p) x_.1 y_.1 y_.2.1 y_.2.2.1))
theorem Vr (v:Int) (w:Int) (l:List Int) (p:List Int) (h_:lD v w l p):(DF v w l p).Is (bb (lg p) v 1 w l p):=by
 obtain ⟨h1,h2,h3,h4,h5,h6⟩:=h_
 have hlg:=h1.1
 have e1:IntKind.i64.wrap ((lg p:Int)-1)=lg p-1:=ar (by omega) (by omega)
 have e2:((lg p:Int)-1+1).toNat=lg p:=by omega
 have e3:((2 ^ lg p:Nat):Int)=2 ^ lg p:=by exact_mod_cast rfl
 simp only[DF,an,al,cQ,beq_iff_eq,decide_eq_true_eq,decide_eq_false_iff_not,e1,e2,mw (lg p) hlg,e3]
 refine ⟨h1,fun _=>⟨by omega,fun h=>by omega,fun _=>⟨⟨h1,h2,h3,by omega,by omega,by omega,by rw[e2,Nat.sub_self];decide,by omega⟩,trivial⟩⟩,fun h=>?_⟩
 simp at h;omega
theorem Ht:K1.Ok Tryz.prog 120:=
 cg (tys:= []) (A:=(aj (ai (aP 0 0)) (aj (ai (aP 2 0)) (ae (ai (ax .i64)) ag)))) (H:=nZ) (LT:=fun x_ y_=>(fun (v:Int) (w:Int) (l:List Int) (p:List Int)=> [(0,bM pj ((nZ).wr (w,l,p,())) xn (xp))]) x_.1 y_.1 y_.2.1 y_.2.2.1) (ks:= [.one 1,.one 3,.fr [.sym],.syms,.auto,.aD]) (V:=KY) (D:=KZ) (T:=fun x_ y_=>DF x_.1 y_.1 y_.2.1 y_.2.2.1) (pre:=fun x_ y_=>(fun (v:Int) (w:Int) (l:List Int) (p:List Int)=>lD v w l p) x_.1 y_.1 y_.2.1 y_.2.2.1) (sp:=fun x_ y_=>(fun (v:Int) (w:Int) (l:List Int) (p:List Int)=>bb (lg p) v 1 w l p) x_.1 y_.1 y_.2.1 y_.2.2.1) mixed ((ak Ho (ak yP (ak yQ (ak xi aF))))) Tryz.func120 (by kernel_rfl) Tryz.call120 (fun x_ y_=>Q4 x_.1 y_.1 y_.2.1 y_.2.2.1) (fun x_ y_=>K0 x_.1 y_.1 y_.2.1 y_.2.2.1) (fun x_ y_ h=>Vr x_.1 y_.1 y_.2.1 y_.2.2.1 h)
end Go.Proofs.YtjalaohajcpllaaGreat
end
section
set_option linter.unusedVariables false
set_option linter.unusedSimpArgs false
namespace Go.Proofs.YtjalaohajcpllaaGreat
open Go Go.Ev
set_option maxRecDepth 1000000
end Go.Proofs.YtjalaohajcpllaaGreat
end
section
set_option linter.unusedVariables false
set_option linter.unusedSimpArgs false
namespace Go.Proofs.YtjalaohajcpllaaGreat
open Go Go.Ev
set_option maxRecDepth 1000000
end Go.Proofs.YtjalaohajcpllaaGreat
end
section
set_option linter.unusedVariables false
set_option linter.unusedSimpArgs false
namespace Go.Proofs.YtjalaohajcpllaaGreat
open Go Go.Ev
set_option maxRecDepth 1000000
abbrev fV:Ty:= .pair (.int .i64) (.pair (.int .i64) (.int .u8))
abbrev cj:Type:=Int×Int×Int
abbrev DG:ba LV cj:=(Du (ae (ax .i64) (ae (ax .i64) (ae (ax .u8) ag)))).qk (fun x=>(x.1,x.2.1,x.2.2.1)) (fun y=>(y.1,y.2.1,y.2.2,())) (fun _=>rfl)
abbrev DH:ba (List LV) (List cj×Unit):=ae (ai (eS false false fV)) ag
def bt (t:cj):Int:=if t.1=0 then 1 else t.1
def iR (t:cj) (made:Int):Bool:=if t.1=0 then decide (t.2.1=0) else decide (t.2.2=0∧2≤t.1∧t.1≤257∧1≤t.2.1∧t.2.1≤4096∧t.2.1≤made)
def bC:Int→List cj→Bool
 |_,[]=>true
 |made,t::l=>iR t made&&decide (made+bt t≤8192)&&bC (made+bt t) l
abbrev K2:Type:=Int
noncomputable abbrev K3 (x:K2):LV:=LV.one (VV.sc (SV.int IntKind.i64 (SI.sym x)))
noncomputable abbrev K4 (x:K2):List (Nat×Ev.Item):= []
noncomputable def DI (t:Int×Int×Int):Tr (K2):=(.ite (t.fst==0) (.ret (1)) (.ret (t.fst)))
theorem K5 (t:cj):aS Tryz.prog [] [] Tryz.f82 (((ae DG ag)).wr (t,())) ((ag).wr (())) [.fr [.sym],.syms,.auto,.aD]=(DI t).end K3 K4 ((ag).wr (())):=by kernel_rfl
theorem Q5 (t:cj):aQ Tryz.prog ((ag).wr (())) [] (aJ Tryz.f82):=(aQ.nil _)
abbrev gO (t:cj):Prop:=True
noncomputable def vm:ao:=ao.bS [] ((ae DG ag)) (ag) fun x_ y_=> .leaf (some ((fun (t:cj)=>gO t) x_.1)) (K3 ((fun (t:cj)=>bt t) x_.1)) (K4 ((fun (t:cj)=>bt t) x_.1))
theorem Vs (t:cj) (h_:gO t):(DI t).Is (bt t):=by
 simp only[DI,bt,fo,al]
 exact ⟨fun h=>by rw[if_pos h],fun h=>by rw[if_neg h]⟩
theorem n5:vm.Ok Tryz.prog 82:=
 cg (tys:= []) (A:=(ae DG ag)) (H:=ag) (LT:=fun x_ y_=>(fun (t:cj)=> []) x_.1) (ks:= [.fr [.sym],.syms,.auto,.aD]) (V:=K3) (D:=K4) (T:=fun x_ y_=>DI x_.1) (pre:=fun x_ y_=>(fun (t:cj)=>gO t) x_.1) (sp:=fun x_ y_=>(fun (t:cj)=>bt t) x_.1) mixed aF Tryz.func82 (by kernel_rfl) Tryz.call82 (fun x_ y_=>Q5 x_.1) (fun x_ y_=>K5 x_.1) (fun x_ y_ h=>Vs x_.1 h)
abbrev Vt:Type:=Bool
noncomputable abbrev Vu (x:Vt):LV:=LV.one (VV.sc (SV.bool (SB.sym x)))
noncomputable abbrev Vv (x:Vt):List (Nat×Ev.Item):= []
noncomputable def OV (t:Int×Int×Int) (made:Int):Tr (Vt):=(.ite (t.fst==0) (.ret (t.snd.fst==0)) (.ite ((t.snd.snd==0)==true)
 (.ite (decide (2≤t.fst)==true) (.ite (decide (t.fst≤257)==true) (.ite (decide (1≤t.snd.fst)==true) (.ret (decide (t.snd.fst≤if made<
 4096 then made else 4096))) (.ret (false))) (.ret (false))) (.ret (false))) (.ret (false))))
theorem Q6 (t:cj) (made:Int):aS Tryz.prog [] [] Tryz.f81 (((ae DG (ae (ai (ax .i64)) ag))).wr (t,made,())) ((ag).wr (())) [.fr [.sym],.syms,.auto,.aD]=(OV t made).end Vu Vv ((ag).wr (())):=by kernel_rfl
theorem Vw (t:cj) (made:Int):aQ Tryz.prog ((ag).wr (())) [] (aJ Tryz.f81):=(aQ.nil _)
abbrev sC (t:cj) (made:Int):Prop:=True
noncomputable def OW:ao:=ao.bS [] ((ae DG (ae (ai (ax .i64)) ag))) (ag) fun x_ y_=> .leaf (some ((fun (t:cj) (made:Int)=>sC t made) x_.1 x_.2.1)) (Vu ((fun (t:cj) (made:Int)=>iR t made) x_.1 x_.2.1)) (Vv ((fun (t:cj) (made:Int)=>iR t made) x_.1 x_.2.1))
theorem abu (t:cj) (made:Int) (h_:sC t made):(OV t made).Is (iR t made):=by
 have e:(t.2.1≤if made<4096 then made else 4096)↔(t.2.1≤4096∧t.2.1≤made):=by split<;>omega
 simp only[OV,iR,fo,al,nX,cQ,beq_iff_eq,beq_eq_false_iff_ne,decide_eq_true_eq,decide_eq_false_iff_not,e]
 refine ⟨fun h=>by rw[if_pos h];exact (Bool.eq_iff_iff.2 (by simp)),fun h=>?_⟩
 rw[if_neg h]
 refine ⟨fun h1=>⟨fun h2=>⟨fun h3=>⟨fun h4=>decide_eq_decide.2 ⟨fun h5=>⟨h1,h2,h3,h4,h5⟩,fun h=>h.2.2.2.2⟩,fun h4=>?_⟩,fun h3=>?_⟩,fun h2=>?_⟩,fun h1=>?_⟩
 ·exact (decide_eq_false fun h=>h4 h.2.2.2.1).symm
 ·exact (decide_eq_false fun h=>h3 h.2.2.1).symm
 ·exact (decide_eq_false fun h=>h2 h.2.1).symm
 ·exact (decide_eq_false fun h=>h1 h.1).symm
theorem DJ:OW.Ok Tryz.prog 81:=
 cg (tys:= []) (A:=(ae DG (ae (ai (ax .i64)) ag))) (H:=ag) (LT:=fun x_ y_=>(fun (t:cj) (made:Int)=> []) x_.1 x_.2.1) (ks:= [.fr [.sym],.syms,.auto,.aD]) (V:=Vu) (D:=Vv) (T:=fun x_ y_=>OV x_.1 x_.2.1) (pre:=fun x_ y_=>(fun (t:cj) (made:Int)=>sC t made) x_.1 x_.2.1) (sp:=fun x_ y_=>(fun (t:cj) (made:Int)=>iR t made) x_.1 x_.2.1) mixed aF Tryz.func81 (by kernel_rfl) Tryz.call81 (fun x_ y_=>Vw x_.1 x_.2.1) (fun x_ y_=>Q6 x_.1 x_.2.1) (fun x_ y_ h=>abu x_.1 x_.2.1 h)
theorem jM {t:cj} {made:Int} (h:iR t made=true):1≤bt t∧bt t≤257:=by
 unfold iR at h;unfold bt
 split at h
 ·rename_i e;rw[if_pos e];omega
 ·rename_i e;rw[if_neg e];have:=of_decide_eq_true h;omega
abbrev n6:Type:=Int×(List (Int×Int×Int))×Int×Int
noncomputable abbrev lE:ba St n6:=(bG (jk 3 (ae (ai (ax IntKind.i64)) (jk 2 (ae (ai (eS false false ((Ty.int
 IntKind.i64).pair ((Ty.int IntKind.i64).pair (Ty.int IntKind.u8))))) (ae (ai (ax IntKind.i64)) (ae (ai (ax IntKind.i64)) (jk 19
 ag))))))) ag).qk (fun y=>(y.1.1,y.1.2.1,y.1.2.2.1,y.1.2.2.2.1)) (fun x=>((x.1,(x.2.1,(x.2.2.1,(x.2.2.2,())))),())) (fun _=>rfl)
abbrev sD:List Wk:= [.fr (dA 28 [(3,.aq),(6,.aq),(7,.aq),(8,.aq)]),.syms,.auto,.aD]
abbrev Hu:Exit→List Wk:=Dy sD 0 [.fr (dA 28 []),.syms,.auto,.aD] [.fr (dA 28 [(2,.aq)]),.syms,.auto,.aD]
abbrev B1:Type:=Bool
noncomputable abbrev pq (x:B1):Exit×St:=(Exit.ret,⟨(ir 2 (LV.one (VV.sc (SV.bool (SB.sym x)))::(ir 25 []))),[]⟩)
abbrev B2:Type:=Unit
noncomputable abbrev pr (x:B2):Exit×St:=(Exit.exit 0,⟨(ir 28 []),[]⟩)
noncomputable def jN (made:Int) (l':List (Int×Int×Int)) (n:Int) (i:Int):Tr (n6⊕(B1⊕B2)):=(.ite (decide (i
 <n)) (.need (0≤i∧i<(↑l'.length:Int)) (.need (sC (l'.getD i.toNat (0,0,0)) made) (.ite ((!iR (l'.getD i.toNat (0,0,0)) made)==
 false) (.need (gO (l'.getD i.toNat (0,0,0))) (.ite (decide (IntKind.i64.wrap (8192-made)<bt (l'.getD i.toNat (0,0,0)))) (.ret (.inr
 (.inl (false)))) (.need (gO (l'.getD i.toNat (0,0,0))) (.ret (.inl (IntKind.i64.wrap (made+bt (l'.getD i.toNat (0,0,0))),l',n,
 IntKind.i64.wrap (i+1))))))) (.ret (.inr (.inl (false))))))) (.ret (.inr (.inr ()))))
theorem DK (l:List cj) (made:Int) (l':List (Int×Int×Int)) (n:Int) (i:Int):dR Tryz.prog [(82,vm),(81,OW)] [] Tryz.f48 0 ((ag).wr (())) Hu (lE.wr (made,l',n,i))=(jN made l' n i).res lE.wr (Sum.elim pq pr):=by kernel_rfl
abbrev my (made:Int) (l':List (Int×Int×Int)) (n:Int) (i:Int):Prop:=n=l'.length∧0≤i∧i≤n∧0≤made∧made≤8192∧n<1099511627776
noncomputable abbrev sE (x_:n6):aU:= .need ((fun (made:Int) (l':List (Int×Int×Int)) (n:Int) (i:Int)=>my made l' n i) x_.1 x_.2.1 x_.2.2.1 x_.2.2.2) (.ite ((fun (made:Int) (l':List (Int×Int×Int)) (n:Int) (i:Int)=> !bC made (l'.drop i.toNat)) x_.1 x_.2.1 x_.2.2.1 x_.2.2.2) (.leaf (pq ((fun (made:Int) (l':List (Int×Int×Int)) (n:Int) (i:Int)=>false) x_.1 x_.2.1 x_.2.2.1 x_.2.2.2)).1 (pq ((fun (made:Int) (l':List (Int×Int×Int)) (n:Int) (i:Int)=>false) x_.1 x_.2.1 x_.2.2.1 x_.2.2.2)).2) (.leaf (pr ((fun (made:Int) (l':List (Int×Int×Int)) (n:Int) (i:Int)=>()) x_.1 x_.2.1 x_.2.2.1 x_.2.2.2)).1 (pr ((fun (made:Int) (l':List (Int×Int×Int)) (n:Int) (i:Int)=>()) x_.1 x_.2.1 x_.2.2.1 x_.2.2.2)).2))
theorem K6 (made:Int) (l':List (Int×Int×Int)) (n:Int) (i:Int) (h_:my made l' n i):dq (fun x_:n6=>jN x_.1 x_.2.1 x_.2.2.1 x_.2.2.2) (made,l',n,i) (bif !bC made (l'.drop i.toNat) then .inl (false) else .inr (())):=by
 obtain ⟨rfl,h1,h2,h3,h4,h5⟩:=h_
 obtain ⟨k,rfl⟩: ∃ k:Nat,i=k:=⟨i.toNat,by omega⟩
 rw[Int.toNat_natCast]
 obtain ⟨m,hm⟩: ∃ m,l'.length=k+m:=⟨l'.length-k,by omega⟩
 clear h2
 induction m generalizing k made with
 |zero=>
  refine .stop ?_
  rw[List.drop_of_length_le (by omega)]
  simp only[jN,bs,an,al,bC]
  exact ⟨fun h=>by omega,fun _=>rfl⟩
 |succ m ih=>
  have hk:k<l'.length:=by omega
  have e1:IntKind.i64.wrap (8192-made)=8192-made:=ar (by omega) (by omega)
  rw[gN (0,0,0) hk,bC]
  generalize hx:l'.getD k (0,0,0)=x
  cases hm1:iR x made with
  |false=>
   refine .stop ?_
   simp only[jN,bs,an,al,Int.toNat_natCast,hx,hm1]
   refine ⟨fun _=>⟨⟨by omega,by omega⟩,trivial,?_⟩,fun h=>by omega⟩
   simp[cQ,al]
  |true=>
   have Ke:=jM hm1
   by_cases hle:made+bt x≤8192
   ·have A9:=ih (made+bt x) (by omega) (by omega) (k+1) (by omega) (by omega)
    rw[decide_eq_true hle,Bool.true_and,Bool.true_and]
    refine .go ?_ A9
    simp only[jN,bs,an,al,Int.toNat_natCast,hx,hm1,Bool.not_true,beq_self_eq_true,aK,e1]
    refine ⟨fun _=>⟨⟨by omega,by omega⟩,trivial,trivial,fun h=>by omega,fun _=>⟨trivial,?_⟩⟩,fun h=>by omega⟩
    rw[ar (n:=made+bt x) (by omega) (by omega),ar (n:=(k:Int)+1) (by omega) (by omega)];rfl
   ·rw[decide_eq_false hle]
    refine .stop ?_
    simp only[jN,bs,an,al,Int.toNat_natCast,hx,hm1,Bool.not_true,beq_self_eq_true,aK,e1]
    refine ⟨fun _=>⟨⟨by omega,by omega⟩,trivial,trivial,fun h=>rfl,fun h=>by omega⟩,fun h=>by omega⟩
theorem Hv (l:List cj): ∀ x:n6,Ex Tryz.prog ((ag).wr (())) (.loop (aW Tryz.f48 0)) (lE.wr x) (sE x):=
 db mixed ((ak n5 (ak DJ aF))) (ws:=Hu) (aQ.nil _) (E:=Sum.elim pq pr) (L:=fun x_=>jN x_.1 x_.2.1 x_.2.2.1 x_.2.2.2) (pre:=fun x_=>(fun (made:Int) (l':List (Int×Int×Int)) (n:Int) (i:Int)=>my made l' n i) x_.1 x_.2.1 x_.2.2.1 x_.2.2.2) (sp:=fun x_=>bif (fun (made:Int) (l':List (Int×Int×Int)) (n:Int) (i:Int)=> !bC made (l'.drop i.toNat)) x_.1 x_.2.1 x_.2.2.1 x_.2.2.2 then .inl ((fun (made:Int) (l':List (Int×Int×Int)) (n:Int) (i:Int)=>false) x_.1 x_.2.1 x_.2.2.1 x_.2.2.2) else .inr ((fun (made:Int) (l':List (Int×Int×Int)) (n:Int) (i:Int)=>()) x_.1 x_.2.1 x_.2.2.1 x_.2.2.2)) (fun x_=>DK l x_.1 x_.2.1 x_.2.2.1 x_.2.2.2) (fun z=>by cases z<;>(intro e;cases e)) qO (fun x_ h=>K6 x_.1 x_.2.1 x_.2.2.1 x_.2.2.2 h)
abbrev DL:Type:=Bool
noncomputable abbrev DM (x:DL):LV:=LV.one (VV.sc (SV.bool (SB.sym x)))
noncomputable abbrev DN (x:DL):List (Nat×Ev.Item):= []
noncomputable def xq (l:List (Int×Int×Int)):Tr (DL):=(.need (my 0 l (↑l.length:Int) 0) (.ite (!bC 0 (List.drop 0 l))
 (.ret (false)) (.ret (true))))
theorem Hw (l:List cj):aS Tryz.prog [(82,vm),(81,OW)] [(0,bM lE ((ag).wr (())) sD (sE))] Tryz.f48 ((DH).wr (l,())) ((ag).wr (())) [.fr [.sym],.syms,.auto,.aD]=(xq l).end DM DN ((ag).wr (())):=by kernel_rfl
theorem K7 (l:List cj):aQ Tryz.prog ((ag).wr (())) [(0,bM lE ((ag).wr (())) sD (sE))] (aJ Tryz.f48):=(aQ.cO (nx (by kernel_rfl) (cz (hp:=(ag).wr (())) (Hv l)) pc))
abbrev lF (l:List cj):Prop:=l.length<1099511627776
noncomputable def pA:ao:=ao.bS [some fV] (DH) (ag) fun x_ y_=> .leaf (some ((fun (l:List cj)=>lF l) x_.1)) (DM ((fun (l:List cj)=>bC 0 l) x_.1)) (DN ((fun (l:List cj)=>bC 0 l) x_.1))
theorem Q7 (l:List cj) (h_:lF l):(xq l).Is (bC 0 l):=by
 simp only[xq,an,al,cQ]
 refine ⟨⟨rfl,by omega,by omega,by omega,by omega,by omega⟩,?_⟩
 cases h:bC 0 l<;>simp[h]
theorem lG:pA.Ok Tryz.prog 48:=
 cg (tys:= [some fV]) (A:=DH) (H:=ag) (LT:=fun x_ y_=>(fun (l:List cj)=> [(0,bM lE ((ag).wr (())) sD (sE))]) x_.1) (ks:= [.fr [.sym],.syms,.auto,.aD]) (V:=DM) (D:=DN) (T:=fun x_ y_=>xq x_.1) (pre:=fun x_ y_=>(fun (l:List cj)=>lF l) x_.1) (sp:=fun x_ y_=>(fun (l:List cj)=>bC 0 l) x_.1) mixed ((ak n5 (ak DJ aF))) Tryz.func48 (by kernel_rfl) Tryz.call48 (fun x_ y_=>K7 x_.1) (fun x_ y_=>Hw x_.1) (fun x_ y_ h=>Q7 x_.1 h)
def lH:Nat→Int→List Int→List Int
 |0,_,o=>o
 |k+1,d,o=>lH k d (o++ [o.getD ((o.length:Int)-d).toNat 0])
def Hx (o:List Int) (t:cj):List Int:=if t.1=0 then o++ [t.2.2] else lH t.1.toNat t.2.1 o
def dT:List Int→List cj→List Int
 |o,[]=>o
 |o,t::l=>dT (Hx o t) l
def iu (l:List cj):List Int:=if bC 0 l then dT [] l else []
theorem B3: ∀ (k:Nat) (d:Int) (o:List Int),(lH k d o).length=o.length+k
 |0,_,_=>rfl
 |k+1,d,o=>by rw[lH,B3 k];simp;omega
theorem Vx {o:List Int} {t:cj} {made:Int} (h:iR t made=true):((Hx o t).length:Int)=o.length+bt t:=by
 have h1:=jM h
 unfold Hx bt at*
 split
 ·simp
 ·rename_i e
  rw[if_neg e] at h1
  rw[B3];omega
abbrev n7:Type:=(List (Int×Int×Int))×Int×Int×Int×Int×(List Int)×Int×Int×Int
noncomputable abbrev sF:ba St n7:=(bG (jk 3 (aj (ai (wX (0) (0))) (jk 1 (aj (ai (aP (1) (0))) (jk 3 (ae (ai (eS
 false false ((Ty.int IntKind.i64).pair ((Ty.int IntKind.i64).pair (Ty.int IntKind.u8))))) (ae (ai (ax IntKind.i64)) (ae (ai (ax
 IntKind.i64)) (jk 12 (ae (ai (ax IntKind.i64)) (ae (ai (ax IntKind.i64)) (jk 15 ag)))))))))))) (ae (eE (0) (Ty.int IntKind.u8))
 (ae (gX (90) ((ae (ax IntKind.i64) (ae (ax IntKind.i64) (ae (ax IntKind.u8) ag))))) ag))).qk (fun y=>(y.1.1,y.1.2.1,
 y.1.2.2.1,y.1.2.2.2.1,y.1.2.2.2.2.1,y.2.1,y.2.2.1.1,y.2.2.1.2.1,y.2.2.1.2.2.1)) (fun x=>((x.1,(x.2.1,(x.2.2.1,(x.2.2.2.1,(x.2.2.2.2.1,
 ()))))),(x.2.2.2.2.2.1,((x.2.2.2.2.2.2.1,(x.2.2.2.2.2.2.2.1,(x.2.2.2.2.2.2.2.2,()))),())))) (fun _=>rfl)
abbrev Hy:List Wk:= [.cC 3 u8,.fr (dA 41 [(3,.aq),(5,.aq),(9,.aq),(10,.aq),(11,.aq),(24,.aq),(25,.aq)]),.syms,
 .auto,.aD]
abbrev Hz:Exit→List Wk:=Dy Hy 2 [.cC 3 u8,.fr (dA 41 [(3,.aq),(9,.aq),(10,.aq),(11,.aq)]),.syms,.auto,.aD]
 [.cC 3 u8,.fr (dA 41 [(2,.aq)]),.syms,.auto,.aD]
abbrev HA:Type:=(List (Int×Int×Int))×Int×Int×(List Int)
noncomputable abbrev sG (x:HA):Exit×St:=(Exit.exit 2,⟨(ir 3 (LV.one (VV.sc (SV.sl 0 0))::(ir 5 (LV.one (VV.sc (SV.rd false
 false ((Ty.int IntKind.i64).pair ((Ty.int IntKind.i64).pair (Ty.int IntKind.u8))) x.1))::(LV.one (VV.sc (SV.int IntKind.i64 (SI.sym x.2.1)))::
 (LV.one (VV.sc (SV.int IntKind.i64 (SI.sym x.2.2.1)))::(ir 29 []))))))),[some (Item.own 0 (Ty.int IntKind.u8) x.2.2.2)]⟩)
noncomputable def n8 (l':List (Int×Int×Int)) (n:Int) (i:Int) (tl:Int) (k:Int) (o:List Int) (t1:Int) (t2:Int) (t3:Int):Tr
 (n7⊕(HA)):=(.ite (decide (k<tl)) (.need (0≤IntKind.i64.wrap ((↑o.length:Int)-t2)∧IntKind.i64.wrap ((↑o.length:Int)-t2)<
 (↑o.length:Int)) (.need ((o.length+1)*1≤70368744177664∧o.length+1≤70368744177664) (.ret (.inl (l',n,i,tl,IntKind.i64.wrap (k+1),o
 ++ [o.getD (IntKind.i64.wrap ((↑o.length:Int)-t2)).toNat 0],t1,t2,t3))))) (.ret (.inr (l',n,i,o))))
theorem DO (l:List cj) (l':List (Int×Int×Int)) (n:Int) (i:Int) (tl:Int) (k:Int) (o:List Int) (t1:Int) (t2:Int) (t3:Int):dR Tryz.prog [(48,pA)] [] Tryz.f24 2 ((ag).wr (())) Hz (sF.wr (l',n,i,tl,k,o,t1,t2,t3))=(n8 l' n i tl k o t1 t2 t3).res sF.wr sG:=by kernel_rfl
abbrev gv (l':List (Int×Int×Int)) (n:Int) (i:Int) (tl:Int) (k:Int) (o:List Int) (t1:Int) (t2:Int) (t3:Int):Prop:=0≤k∧k≤tl∧(k<tl→1≤t2∧t2≤o.length)∧tl<1000000∧o.length+(tl-k)<1000000
noncomputable abbrev HB (x_:n7):aU:= .need ((fun (l':List (Int×Int×Int)) (n:Int) (i:Int) (tl:Int) (k:Int) (o:List Int) (t1:Int) (t2:Int) (t3:Int)=>gv l' n i tl k o t1 t2 t3) x_.1 x_.2.1 x_.2.2.1 x_.2.2.2.1 x_.2.2.2.2.1 x_.2.2.2.2.2.1 x_.2.2.2.2.2.2.1 x_.2.2.2.2.2.2.2.1 x_.2.2.2.2.2.2.2.2) (.leaf (sG ((fun (l':List (Int×Int×Int)) (n:Int) (i:Int) (tl:Int) (k:Int) (o:List Int) (t1:Int) (t2:Int) (t3:Int)=>(l',n,i,lH (tl-k).toNat t2 o)) x_.1 x_.2.1 x_.2.2.1 x_.2.2.2.1 x_.2.2.2.2.1 x_.2.2.2.2.2.1 x_.2.2.2.2.2.2.1 x_.2.2.2.2.2.2.2.1 x_.2.2.2.2.2.2.2.2)).1 (sG ((fun (l':List (Int×Int×Int)) (n:Int) (i:Int) (tl:Int) (k:Int) (o:List Int) (t1:Int) (t2:Int) (t3:Int)=>(l',n,i,lH (tl-k).toNat t2 o)) x_.1 x_.2.1 x_.2.2.1 x_.2.2.2.1 x_.2.2.2.2.1 x_.2.2.2.2.2.1 x_.2.2.2.2.2.2.1 x_.2.2.2.2.2.2.2.1 x_.2.2.2.2.2.2.2.2)).2)
theorem K8 (l':List (Int×Int×Int)) (n:Int) (i:Int) (tl:Int) (k:Int) (o:List Int) (t1:Int) (t2:Int) (t3:Int) (h_:gv l' n i tl k o t1 t2 t3):dq (fun x_:n7=>n8 x_.1 x_.2.1 x_.2.2.1 x_.2.2.2.1 x_.2.2.2.2.1 x_.2.2.2.2.2.1 x_.2.2.2.2.2.2.1 x_.2.2.2.2.2.2.2.1 x_.2.2.2.2.2.2.2.2) (l',n,i,tl,k,o,t1,t2,t3) ((l',n,i,lH (tl-k).toNat t2 o)):=by
 obtain ⟨h1,h2,h3,h4,h5⟩:=h_
 obtain ⟨m,hm⟩: ∃ m:Nat,tl=k+m:=⟨(tl-k).toNat,by omega⟩
 subst hm
 rw[show (k+(m:Int)-k).toNat=m from by omega]
 induction m generalizing k o with
 |zero=>
  refine .stop ?_
  simp only[n8,bs,an,al,lH]
  exact ⟨fun h=>by omega,fun _=>trivial⟩
 |succ m ih=>
  have h3:=h3 (by omega)
  have e1:IntKind.i64.wrap ((o.length:Int)-t2)=o.length-t2:=ar (by omega) (by omega)
  have e2:IntKind.i64.wrap (k+1)=k+1:=ar (by omega) (by omega)
  have A9:=ih (k+1) (o++ [o.getD ((o.length:Int)-t2).toNat 0]) (by omega) (by omega) (fun _=>⟨h3.1,by simp;omega⟩) (by omega) (by simp;omega)
  rw[show k+1+(m:Int)=k+((m+1:Nat):Int) from by omega] at A9
  refine .go ?_ A9
  simp only[n8,bs,an,al,e1,e2]
  exact ⟨fun _=>⟨⟨by omega,by omega⟩,⟨by omega,by omega⟩,trivial⟩,fun h=>by omega⟩
theorem HC (l:List cj): ∀ x:n7,Ex Tryz.prog ((ag).wr (())) (.loop (aW Tryz.f24 2)) (sF.wr x) (HB x):=
 db mixed ((ak lG aF)) (ws:=Hz) (aQ.nil _) (E:=sG) (L:=fun x_=>n8 x_.1 x_.2.1 x_.2.2.1 x_.2.2.2.1 x_.2.2.2.2.1 x_.2.2.2.2.2.1 x_.2.2.2.2.2.2.1 x_.2.2.2.2.2.2.2.1 x_.2.2.2.2.2.2.2.2) (pre:=fun x_=>(fun (l':List (Int×Int×Int)) (n:Int) (i:Int) (tl:Int) (k:Int) (o:List Int) (t1:Int) (t2:Int) (t3:Int)=>gv l' n i tl k o t1 t2 t3) x_.1 x_.2.1 x_.2.2.1 x_.2.2.2.1 x_.2.2.2.2.1 x_.2.2.2.2.2.1 x_.2.2.2.2.2.2.1 x_.2.2.2.2.2.2.2.1 x_.2.2.2.2.2.2.2.2) (sp:=fun x_=>(fun (l':List (Int×Int×Int)) (n:Int) (i:Int) (tl:Int) (k:Int) (o:List Int) (t1:Int) (t2:Int) (t3:Int)=>(l',n,i,lH (tl-k).toNat t2 o)) x_.1 x_.2.1 x_.2.2.1 x_.2.2.2.1 x_.2.2.2.2.1 x_.2.2.2.2.2.1 x_.2.2.2.2.2.2.1 x_.2.2.2.2.2.2.2.1 x_.2.2.2.2.2.2.2.2) (fun x_=>DO l x_.1 x_.2.1 x_.2.2.1 x_.2.2.2.1 x_.2.2.2.2.1 x_.2.2.2.2.2.1 x_.2.2.2.2.2.2.1 x_.2.2.2.2.2.2.2.1 x_.2.2.2.2.2.2.2.2) (fun z e=>by cases e) je (fun x_ h=>K8 x_.1 x_.2.1 x_.2.2.1 x_.2.2.2.1 x_.2.2.2.2.1 x_.2.2.2.2.2.1 x_.2.2.2.2.2.2.1 x_.2.2.2.2.2.2.2.1 x_.2.2.2.2.2.2.2.2 h)
abbrev n9:Type:=(List (Int×Int×Int))×Int×Int×(List Int)
noncomputable abbrev lI:ba St n9:=(bG (jk 3 (aj (ai (wX (0) (0))) (jk 5 (ae (ai (eS false false ((Ty.int
 IntKind.i64).pair ((Ty.int IntKind.i64).pair (Ty.int IntKind.u8))))) (ae (ai (ax IntKind.i64)) (ae (ai (ax IntKind.i64)) (jk 29
 ag))))))) (ae (eE (0) (Ty.int IntKind.u8)) ag)).qk (fun y=>(y.1.1,y.1.2.1,y.1.2.2.1,y.2.1)) (fun x=>((x.1,(x.2.1,(x.2.2.1,()))),
 (x.2.2.2,()))) (fun _=>rfl)
abbrev sH:List Wk:= [.cC 3 u8,.fr (dA 41 [(3,.aq),(9,.aq),(10,.aq),(11,.aq)]),.syms,.auto,.aD]
abbrev HD:Exit→List Wk:=Dy sH 0 [.cC 3 u8,.fr (dA 41 [(3,.aq)]),.syms,.auto,.aD] [.cC 3 u8,.fr (dA 41 [(2,.aq)]),
 .syms,.auto,.aD]
abbrev HE:Type:=List Int
noncomputable abbrev sI (x:HE):Exit×St:=(Exit.exit 0,⟨(ir 3 (LV.one (VV.sc (SV.sl 0 0))::(ir 37 []))),[some (Item.own 0
 (Ty.int IntKind.u8) x)]⟩)
noncomputable def oa (l':List (Int×Int×Int)) (n:Int) (i:Int) (o:List Int):Tr (n9⊕(HE)):=(.ite (decide (i<n))
 (.need (0≤i∧i<(↑l'.length:Int)) (.ite ((l'.getD i.toNat (0,0,0)).fst==0) (.need ((o.length+1)*1≤70368744177664∧o.length+1≤
 70368744177664) (.need (gv l' n i (l'.getD i.toNat (0,0,0)).fst 0 (o++ [(l'.getD i.toNat (0,0,0)).snd.snd]) (l'.getD i.toNat (0,0,
 0)).fst (l'.getD i.toNat (0,0,0)).snd.fst (l'.getD i.toNat (0,0,0)).snd.snd) (.ret (.inl (l',n,IntKind.i64.wrap (i+1),lH (Int.toNat
 ((l'.getD i.toNat (0,0,0)).fst-0)) (l'.getD i.toNat (0,0,0)).snd.fst (o++ [(l'.getD i.toNat (0,0,0)).snd.snd])))))) (.need (gv l' n i
 (l'.getD i.toNat (0,0,0)).fst 0 o (l'.getD i.toNat (0,0,0)).fst (l'.getD i.toNat (0,0,0)).snd.fst (l'.getD i.toNat (0,0,0)).snd.snd) (.ret
 (.inl (l',n,IntKind.i64.wrap (i+1),lH (Int.toNat ((l'.getD i.toNat (0,0,0)).fst-0)) (l'.getD i.toNat (0,0,0)).snd.fst o)))))) (.ret (.inr
 (o))))
theorem DP (l:List cj) (l':List (Int×Int×Int)) (n:Int) (i:Int) (o:List Int):dR Tryz.prog [(48,pA)] [(2,bM sF ((ag).wr (())) Hy (HB))] Tryz.f24 0 ((ag).wr (())) HD (lI.wr (l',n,i,o))=(oa l' n i o).res lI.wr sI:=by kernel_rfl
abbrev mA (l':List (Int×Int×Int)) (n:Int) (i:Int) (o:List Int):Prop:=n=l'.length∧0≤i∧i≤l'.length∧bC o.length (l'.drop i.toNat)=true∧o.length≤8192∧l'.length<1099511627776
noncomputable abbrev sJ (x_:n9):aU:= .need ((fun (l':List (Int×Int×Int)) (n:Int) (i:Int) (o:List Int)=>mA l' n i o) x_.1 x_.2.1 x_.2.2.1 x_.2.2.2) (.leaf (sI ((fun (l':List (Int×Int×Int)) (n:Int) (i:Int) (o:List Int)=>dT o (l'.drop i.toNat)) x_.1 x_.2.1 x_.2.2.1 x_.2.2.2)).1 (sI ((fun (l':List (Int×Int×Int)) (n:Int) (i:Int) (o:List Int)=>dT o (l'.drop i.toNat)) x_.1 x_.2.1 x_.2.2.1 x_.2.2.2)).2)
theorem K9 (l':List (Int×Int×Int)) (n:Int) (i:Int) (o:List Int) (h_:mA l' n i o):dq (fun x_:n9=>oa x_.1 x_.2.1 x_.2.2.1 x_.2.2.2) (l',n,i,o) (dT o (l'.drop i.toNat)):=by
 obtain ⟨rfl,h1,h2,h3,h4,h5⟩:=h_
 obtain ⟨k,rfl⟩: ∃ k:Nat,i=k:=⟨i.toNat,by omega⟩
 rw[Int.toNat_natCast] at h3 ⊢
 obtain ⟨m,hm⟩: ∃ m,l'.length=k+m:=⟨l'.length-k,by omega⟩
 clear h2
 induction m generalizing k o with
 |zero=>
  refine .stop ?_
  rw[List.drop_of_length_le (by omega)]
  simp only[oa,bs,an,al,dT]
  exact ⟨fun h=>by omega,fun _=>trivial⟩
 |succ m ih=>
  have hk:k<l'.length:=by omega
  rw[gN (0,0,0) hk,bC,Bool.and_eq_true,Bool.and_eq_true] at h3
  obtain ⟨⟨h6,h7⟩,h8⟩:=h3
  rw[gN (0,0,0) hk,dT]
  generalize hx:l'.getD k (0,0,0)=x at*
  have h7:=of_decide_eq_true h7
  have hg:=Vx (o:=o) h6
  have Ke:=jM h6
  have A9:=ih (Hx o x) (by omega) (k+1) (by omega) (by rw[hg];exact h8) (by omega)
  refine .go ?_ A9
  have hi:IntKind.i64.wrap ((k:Int)+1)=k+1:=ar (by omega) (by omega)
  unfold iR at h6
  unfold bt at Ke h7
  have hkn:(0:Int)≤k∧(k:Int)<l'.length:=⟨by omega,by omega⟩
  simp only[oa,bs,an,al,fo,Int.toNat_natCast,hx,hi]
  refine ⟨fun _=>⟨hkn,fun e=>?_,fun e=>?_⟩,fun h=>by omega⟩
  ·rw[if_pos e] at h6 Ke h7
   refine ⟨⟨by omega,by omega⟩,?_,?_⟩
   ·simp only[gv,hx];simp;omega
   ·simp only[Hx,if_pos e,e];rfl
  ·rw[if_neg e] at h6 Ke h7
   have h9:=of_decide_eq_true h6
   refine ⟨?_,?_⟩
   ·simp only[gv,hx];simp;omega
   ·simp only[Hx,if_neg e,Int.sub_zero];rfl
theorem HF (l:List cj): ∀ x:n9,Ex Tryz.prog ((ag).wr (())) (.loop (aW Tryz.f24 0)) (lI.wr x) (sJ x):=
 db mixed ((ak lG aF)) (ws:=HD) (aQ.inner (by kernel_rfl) (nx (by kernel_rfl) (cz (hp:=(ag).wr (())) (HC l)) pc)) (E:=sI) (L:=fun x_=>oa x_.1 x_.2.1 x_.2.2.1 x_.2.2.2) (pre:=fun x_=>(fun (l':List (Int×Int×Int)) (n:Int) (i:Int) (o:List Int)=>mA l' n i o) x_.1 x_.2.1 x_.2.2.1 x_.2.2.2) (sp:=fun x_=>(fun (l':List (Int×Int×Int)) (n:Int) (i:Int) (o:List Int)=>dT o (l'.drop i.toNat)) x_.1 x_.2.1 x_.2.2.1 x_.2.2.2) (fun x_=>DP l x_.1 x_.2.1 x_.2.2.1 x_.2.2.2) (fun z e=>by cases e) je (fun x_ h=>K9 x_.1 x_.2.1 x_.2.2.1 x_.2.2.2 h)
abbrev DQ:Type:=List Int
noncomputable abbrev DR (x:DQ):LV:=LV.one (VV.sc (SV.sl 0 0))
noncomputable abbrev DS (x:DQ):List (Nat×Ev.Item):= [(0,Item.own 0 (Ty.int IntKind.u8) x)]
noncomputable def xr (l:List (Int×Int×Int)):Tr (DQ):=(.need (lF l) (.ite (!bC 0 l) (.ret ([])) (.need (mA l
 (↑l.length:Int) 0 []) (.ret (dT [] (List.drop 0 l))))))
theorem HG (l:List cj):aS Tryz.prog [(48,pA)] [(0,bM lI ((ag).wr (())) sH (sJ))] Tryz.f24 ((DH).wr (l,())) ((ag).wr (())) [.cC 0 u8,.fr [.sym],.syms,.auto,.aD]=(xr l).end DR DS ((ag).wr (())):=by kernel_rfl
theorem La (l:List cj):aQ Tryz.prog ((ag).wr (())) [(0,bM lI ((ag).wr (())) sH (sJ))] (aJ Tryz.f24):=(aQ.cO (nx (by kernel_rfl) (cz (hp:=(ag).wr (())) (HF l)) pc))
abbrev iv (l:List cj):Prop:=l.length<1099511627776
noncomputable def DT:ao:=ao.bS [some fV] (DH) (ag) fun x_ y_=> .leaf (some ((fun (l:List cj)=>iv l) x_.1)) (DR ((fun (l:List cj)=>iu l) x_.1)) (DS ((fun (l:List cj)=>iu l) x_.1))
theorem Q8 (l:List cj) (h_:iv l):(xr l).Is (iu l):=by
 simp only[xr,an,al,cQ,iu,List.drop_zero]
 cases h:bC 0 l
 ·simp[h_]
 ·simp only[Bool.not_true,reduceCtorEq,false_imp_iff,true_imp_iff,true_and,if_true]
  exact ⟨h_,⟨rfl,by omega,by omega,h,by simp,by omega⟩,trivial⟩
theorem B4:DT.Ok Tryz.prog 24:=
 cg (tys:= [some fV]) (A:=DH) (H:=ag) (LT:=fun x_ y_=>(fun (l:List cj)=> [(0,bM lI ((ag).wr (())) sH (sJ))]) x_.1) (ks:= [.cC 0 u8,.fr [.sym],.syms,.auto,.aD]) (V:=DR) (D:=DS) (T:=fun x_ y_=>xr x_.1) (pre:=fun x_ y_=>(fun (l:List cj)=>iv l) x_.1) (sp:=fun x_ y_=>(fun (l:List cj)=>iu l) x_.1) mixed ((ak lG aF)) Tryz.func24 (by kernel_rfl) Tryz.call24 (fun x_ y_=>La x_.1) (fun x_ y_=>HG x_.1) (fun x_ y_ h=>Q8 x_.1 h)
end Go.Proofs.YtjalaohajcpllaaGreat
end
section
set_option linter.unusedVariables false
set_option linter.unusedSimpArgs false
namespace Go.Proofs.YtjalaohajcpllaaGreat
open Go Go.Ev
set_option maxRecDepth 100000
abbrev rdt (l:List Int):LV:= .one (.sc (.rd true false u8 l))
noncomputable def Lb:ao:=ao.bS [some u8] bA ag fun x _=> .leaf (some (x.1.length≤70368744177664)) (rdt x.1) []
theorem HI:aS Tryz.prog [] [] Tryz.f31 [.one (.sc (.gH (.slice none 0 0)))] [] [.Ky 0 u8,.auto]=
 End.leaf (LV.one (VV.sc (SV.rd true false (Ty.int IntKind.u8) []))) []:=by kernel_rfl
theorem HJ (l:List Int):aS Tryz.prog [] [] Tryz.f31 [.one (.sc (.rd false true u8 l))] [] [.Ky 0 u8,.auto]=
 End.need (((0:Nat)+l.length)*(1:Nat)≤(70368744177664:Nat)∧(0:Nat)+l.length≤(70368744177664:Nat)) (End.leaf (LV.one (VV.sc (SV.rd
 true false (Ty.int IntKind.u8) ([]++l)))) []):=by kernel_rfl
theorem HK:Lb.Ok Tryz.prog 31:=by
 refine (ao.bf Tryz.call31 fun x y Q h=>?_).sym
 obtain ⟨l,_⟩:=x
 obtain ⟨hl,hq⟩:=h
 have hl:l.length≤70368744177664:=hl
 refine gq.abn (x:= []) (y:= []) (fun e=>?_) ?_
 ·subst e
  refine (ay mixed aF Tryz.func31 rfl (LT:= []) (ks:= [.Ky 0 u8,.auto]) (aQ.nil _)).use (D:= []) ?_ hq
  show (aS _ _ _ _ [.one (.sc (.gH (.slice none 0 0)))] [] _).sat _
  rw[HI]
  exact ⟨rfl,rfl⟩
 ·refine (ay mixed aF Tryz.func31 rfl (LT:= []) (ks:= [.Ky 0 u8,.auto]) (aQ.nil _)).use (D:= []) ?_ hq
  show (aS _ _ _ _ [.one (.sc (.rd false true u8 l))] [] _).sat _
  rw[HJ]
  exact ⟨⟨by omega,by omega⟩,rfl,rfl⟩
end Go.Proofs.YtjalaohajcpllaaGreat
end
