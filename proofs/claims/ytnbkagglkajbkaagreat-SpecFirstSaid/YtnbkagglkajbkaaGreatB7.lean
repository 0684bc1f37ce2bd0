/- What the laws lean on, part 7: a reader of code, plain facts, and what each function gives; no conditions. -/
import Derived.Test.YtnbkagglkajbkaaGreatB6
set_option linter.unusedVariables false
set_option linter.unusedSimpArgs false
noncomputable section
namespace Go.Proofs.YtnbkagglkajbkaaGreat
open Go Go.Ev Go.ChangeShapes Go.WideShapes Go.ChangeAt Go.RowKit Go.Proofs.Tryz
open Go.IntKind (i64 signed u16 u64 wrap)
set_option maxRecDepth 100000
theorem Y4{H:Type}{enc:TypeId×Value→H}{W:World}{base:Nat}{v:Value}{d:DataW H}{p:List MemPlace}{t e:TypeId}(n:Nat)(hu:Tryz.prog.underlying t=some (.array n e))(hf:tP Tryz.prog 10 t=some (List.replicate n (.int .u8)))
  (c7:Value.okWide Tryz.prog W .any base t v) (h:DataW.Trod enc Tryz.prog W 0 (fun _=>true) true t v d p):
  ∃l:List Int,(l.length=n∧al l)∧(jq .u8 n l).den (wv W) (kd []) v:=by
 unfold Value.okWide at c7;rw[hu]at c7;obtain⟨cs,rfl,_,_⟩:=c7;obtain⟨fuel,h⟩:=h;have x6:=qK 10 hf h;rw[← List.append_nil (List.replicate n (Bt.int .u8))]at x6;obtain⟨l,us,rest,e,hl,_,hd,hw,hr⟩:=IP (β:=wv W) (pm:=true) n x6
 cases hr
 rw[List.append_nil]at e;refine⟨l,⟨hl,fun z hz=>wf_u8 (hw z hz)⟩,us,?_,?_⟩
 ·simp only[Value.cells]at e;rw[← e]
 ·have:=aQ.cons (R:=SV.iS (wv W) (kd [])) (x:=.arr (.int .u8) n l) (vs:=us) (show(SV.arr (.int .u8) n l).iS (wv W) (kd []) us from⟨hl,hd⟩) .nil;rwa [List.append_nil]at this
theorem nL{H:Type}{enc:TypeId×Value→H}{W:World}{base:Nat}{v:Value}{d:DataW H}{p:List MemPlace}
  (c7:Value.okWide Tryz.prog W .any base 22 v) (h:DataW.Trod enc Tryz.prog W 0 (fun _=>true) true 22 v d p):∃l:List Int,(l.length=32∧al l)∧(jq .u8 32 l).den (wv W) (kd []) v:=Y4 32 underlying22 (by kernel_rfl) c7 h
end Go.Proofs.YtnbkagglkajbkaaGreat
end
noncomputable section
namespace Go.Proofs.YtnbkagglkajbkaaGreat
open Go Go.Ev Go.Proofs.Tryz
open Go.IntKind (i64 signed u16 u64 wrap)
set_option maxRecDepth 1000000
abbrev inA:aW (List LV) (Int×Unit):=ae (ah (ay .i64)) ag
abbrev amX:aW (List LV) (Int×Int×Unit):=ae (ah (ay .i64)) (ae (ah (ay .i64)) ag)
def bd(p:Int):Int:=if p<31 then 31 else if 2017<p then 2017 else p
def eH(p b:Int):Int:=if b=0 then bd p+(2048-bd p)/32 else bd p-bd p/32
def e1I(g:Int→Int):ar:=ar.dx [] inA ag fun x _=>.leaf none (nI (g x.1)) []
def e2I(g:Int→Int→Int):ar:=ar.dx [] amX ag fun x _=>.leaf none (nI (g x.1 x.2.1)) []
theorem hS(p:Int):31≤bd p∧bd p≤2017:=by unfold bd;split<;>(try split)<;>omega
theorem IS{p b:Int}:eH p b=if b=0 then i64.wrap (bd p+i64.wrap ((i64.wrap (2048-bd p)).tdiv 32))else i64.wrap (bd p-i64.wrap ((bd p).tdiv 32)):=by
 have h:=hS p;unfold eH;have e1:i64.wrap (2048-bd p)=2048-bd p:=ax (by omega) (by omega);rw[e1,Int.tdiv_eq_ediv_of_nonneg (by omega),Int.tdiv_eq_ediv_of_nonneg (by omega),ax (n:=(2048-bd p)/32) (by omega) (by omega),ax (n:=bd p/32) (by omega) (by omega),ax (by omega) (by omega),ax (by omega) (by omega)]
theorem pj(p b:Int):31≤eH p b∧eH p b≤2017:=by
 have h:=hS p;unfold eH
 split<;>omega
theorem z7{a b:Int}(h:a=b):nI a=nI b:=by rw[h]
theorem Y5(p:Int):(if 31<(if 2017<p then 2017 else p)then(if 2017<p then 2017 else p)else 31)=bd p:=by
 unfold bd
 by_cases h1:2017<p
 ·simp only[h1,if_true];rw[if_pos (by decide),if_neg (by omega)]
 ·simp only[h1,if_false]
  by_cases h2:31<p
  ·rw[if_pos h2,if_neg (by omega)]
  ·rw[if_neg h2];split<;>omega
abbrev ET:ar:=e1I bd
theorem MW(p:Int):aT Tryz.prog [] [] f257 ((inA).wr (p,())) [] [.fr [.sym],.auto]=
 End.leaf (LV.one (VV.sc (SV.int i64 (SI.sym (if(31:Int)<if(2017:Int)<p then(2017:Int)else p then if(2017:Int)<p then(2017:
 Int)else p else(31:Int)))))) []:=by kernel_rfl
theorem MX:∀p_∈([]:List (FuncId×ar)),p_.2.Ok Tryz.prog p_.1:=aE
theorem tQ:ET.Ok Tryz.prog 257:=by
 refine(ar.br call257 fun x_ y_ Q H_=>?_).sym;obtain⟨p,_⟩:=x_;have hq:=H_.2;refine(aA (tab:= []) mixed MX func257 rfl (LT:= []) (ks:= [.fr [.sym],.auto]) (aO.nil _)).use (D:= []) ?_ hq;show(aT _ _ _ _ ((inA).wr (p,())) [] _).sat _;rw[MW];exact⟨z7 (Y5 p),rfl⟩
abbrev tR:ar:=e2I eH
theorem IT(h:Int→Int)(p b:Int):aT Tryz.prog [(257,e1I h)] [] f260 ((amX).wr (p,b,())) [] [.fr [.sym],.auto]=
 End.ite (b==(0:Int)) (End.leaf (LV.one (VV.sc (SV.int i64 (SI.sym (i64.wrap (h p+i64.wrap ((i64.wrap ((2048:
 Int)-h p)).tdiv (32:Int)))))))) []) (End.leaf (LV.one (VV.sc (SV.int i64 (SI.sym (i64.wrap (h p-i64.wrap ((h p).tdiv (32
 :Int)))))))) []):=by kernel_rfl
theorem IU:∀p_∈([(257,e1I bd)]:List (FuncId×ar)),p_.2.Ok Tryz.prog p_.1:=(aj tQ aE)
theorem qM:tR.Ok Tryz.prog 260:=by
 refine(ar.br call260 fun x_ y_ Q H_=>?_).sym;obtain⟨p,b,_⟩:=x_;have hq:=H_.2;refine(aA (tab:= [(257,e1I bd)]) mixed IU func260 rfl (LT:= []) (ks:= [.fr [.sym],.auto]) (aO.nil _)).use (D:= []) ?_ hq;show(aT _ _ _ _ ((amX).wr (p,b,())) [] _).sat _;rw[IT bd];refine⟨fun h=>⟨z7 ?_,rfl⟩,fun h=>⟨z7 ?_,rfl⟩⟩
 ·rw[IS,if_pos (beq_iff_eq.1 h)]
 ·rw[IS,if_neg (bne_iff_ne.1 (by simpa using h))]
abbrev aqA:aW (Option Ev.Item) Unit:=iF 332 (ak (tJ 1 0) ag)
abbrev tS:aW Hp (List Int×Unit):=ak aqA (ae (eG 0 (.int .u16)) ag)
abbrev oK:aW (List LV) (Int×Unit):=ak (ah (aP 0 0)) (ae (ah (ay .i64)) ag)
abbrev IV:aW (List LV) (Int×Int×Unit):=ak (ah (aP 0 0)) (ae (ah (ay .i64)) (ae (ah (ay .i64)) ag))
def z8(p:List Int)(n:Int):Bool:=decide (1≤n∧n<p.length)
theorem Y6{b c:Bool}(h:b=c):nB b=nB c:=by rw[h]
theorem wrap_u16(n:Int):u16.wrap n=n%65536:=by
 simp only[wrap,IntKind.bits,signed];simp
def gU(p:List Int):Prop:=∀i,0≤p.getD i 0∧p.getD i 0≤65535
def kf(p:List Int)(n:Int):Int:=if z8 p n=true then p.getD n.toNat 0 else 0
def dA(p:List Int)(n b:Int):List Int:=if z8 p n=true then p.set n.toNat (eH (p.getD n.toNat 0) b)else p
def Y7:ar:=ar.dx [] (oK) (tS) fun x_ y_=>(fun(n:Int) (p:List Int)=>.leaf none (nB (z8 p n)) []) x_.1 y_.1
theorem UN(n:Int)(p:List Int):aT Tryz.prog [] [] f310 ((oK).wr (n,())) ((tS).wr (p,())) [.fr [.sym],.auto]=
 End.ite (decide ((1:Int)≤n)==true) (End.leaf (LV.one (VV.sc (SV.bool (SB.sym (decide (n<(↑p.length:Int))))))) [some (Item.bm [SV.sl (1:
 Nat) (0:Nat)] (332:Nat)),some (Item.own (0:Nat) (Ty.int u16) p)]) (End.leaf (LV.one (VV.sc (SV.bool (SB.sym false)))) [some (Item.bm
 [SV.sl (1:Nat) (0:Nat)] (332:Nat)),some (Item.own (0:Nat) (Ty.int u16) p)]):=by kernel_rfl
theorem Rx:Y7.Ok Tryz.prog 310:=by
 refine(ar.br call310 fun x_ y_ Q H_=>?_).sym;obtain⟨n,_⟩:=x_;obtain⟨p,_⟩:=y_;have hq:=H_.2;refine(aA mixed aE func310 rfl (LT:= []) (ks:= [.fr [.sym],.auto]) (aO.nil _)).use (D:= []) ?_ hq;show(aT _ _ _ _ ((oK).wr (n,())) ((tS).wr (p,())) _).sat _;rw[UN];refine⟨fun h=>⟨Y6 ?_,rfl⟩,fun h=>⟨Y6 ?_,rfl⟩⟩
 ·have h:1≤n:=by simpa using h
  unfold z8;exact decide_eq_decide.2 ⟨fun h'=>⟨h,h'⟩,fun h'=>h'.2⟩
 ·have h:¬ 1≤n:=by simpa using h
  unfold z8;exact(decide_eq_false fun h'=>h h'.1).symm
def UO:ar:=ar.dx [] (oK) (tS) fun x_ y_=>(fun(n:Int) (p:List Int)=>.leaf (some (gU p)) (nI (kf p n)) []) x_.1 y_.1
theorem Y8(n:Int)(p:List Int):aT Tryz.prog [(310,Y7)] [] f262 ((oK).wr (n,())) ((tS).wr (p,())) [.fr [.sym],.auto]=
 End.ite (!z8 p n) (End.leaf (LV.one (VV.sc (SV.int i64 (SI.sym (0:Int))))) [some (Item.bm [SV.sl (1:Nat) (0:Nat)] (332:Nat)),some
 (Item.own (0:Nat) (Ty.int u16) p)]) (End.need ((0:Int)≤n∧n<(↑p.length:Int)) (End.leaf (LV.one (VV.sc (SV.int i64 (SI.sym
 (i64.wrap (p.getD n.toNat (0:Int))))))) [some (Item.bm [SV.sl (1:Nat) (0:Nat)] (332:Nat)),some (Item.own (0:Nat) (Ty.int
 u16) p)])):=by kernel_rfl
theorem z9:UO.Ok Tryz.prog 262:=by
 refine(ar.br call262 fun x_ y_ Q H_=>?_).sym;obtain⟨n,_⟩:=x_;obtain⟨p,_⟩:=y_;obtain⟨hn,hq⟩:=H_;have hn:gU p:=hn;refine(aA mixed ((aj Rx aE)) func262 rfl (LT:= []) (ks:= [.fr [.sym],.auto]) (aO.nil _)).use (D:= []) ?_ hq;show(aT _ _ _ _ ((oK).wr (n,())) ((tS).wr (p,())) _).sat _;rw[Y8];refine⟨fun h=>⟨z7 ?_,rfl⟩,fun h=>?_⟩
 ·have h:¬z8 p n=true:=by simpa using h
  unfold kf;rw[if_neg h]
 ·have h:z8 p n=true:=by simpa using h
  have hh:1≤n∧n<p.length:=of_decide_eq_true h;have hr:=hn n.toNat;refine⟨by omega,z7 ?_,rfl⟩;unfold kf;rw[if_pos h,ax (by omega) (by omega)]
def EU:ar:=ar.dx [] (IV) (tS) fun x_ y_=>(fun(n b:Int) (p:List Int)=>.leaf (some (gU p)) (.cT []) [(1,.own 0 (.int .u16) (dA p n b))]) x_.1 x_.2.1 y_.1
theorem MY(n b:Int)(p:List Int):aT Tryz.prog [(310,Y7),(260,tR)] [] f263 ((IV).wr (n,b,())) ((tS).wr (p,())) [.fr [.sym],.auto]=
 End.ite (z8 p n) (End.need ((0:Int)≤n∧n<(↑p.length:Int)) (End.need ((0:Int)≤n∧n<(↑p.length:Int)) (End.leaf (LV.cT []) [some
 (Item.bm [SV.sl (1:Nat) (0:Nat)] (332:Nat)),some (Item.own (0:Nat) (Ty.int u16) (p.set n.toNat (u16.wrap (eH
 (i64.wrap (p.getD n.toNat (0:Int))) b))))]))) (End.leaf (LV.cT []) [some (Item.bm [SV.sl (1:Nat) (0:Nat)] (332:Nat)),some (Item.own
 (0:Nat) (Ty.int u16) p)]):=by kernel_rfl
theorem Aa:EU.Ok Tryz.prog 263:=by
 refine(ar.br call263 fun x_ y_ Q H_=>?_).sym;obtain⟨n,b,_⟩:=x_;obtain⟨p,_⟩:=y_;obtain⟨hn,hq⟩:=H_;have hn:gU p:=hn;refine(aA mixed ((aj Rx (aj qM aE))) func263 rfl (LT:= []) (ks:= [.fr [.sym],.auto]) (aO.nil _)).use (D:= [(1,.own 0 (.int .u16) (dA p n b))]) ?_ hq;show(aT _ _ _ _ ((IV).wr (n,b,())) ((tS).wr (p,())) _).sat _;rw[MY];refine⟨fun h=>?_,fun h=>?_⟩
 ·have hh:1≤n∧n<p.length:=of_decide_eq_true h;have hr:=hn n.toNat;have ha:=pj (p.getD n.toNat 0) b
  have e:dA p n b=p.set n.toNat (u16.wrap (eH (i64.wrap (p.getD n.toNat 0)) b)):=by
   unfold dA;rw[if_pos h,ax (by omega) (by omega)]
   congr 1
   rw[wrap_u16];omega
  refine⟨by omega,by omega,rfl,?_⟩;rw[e];rfl
 ·have h:¬z8 p n=true:=by simpa using h
  have e:dA p n b=p:=if_neg h;refine⟨rfl,?_⟩;rw[e];rfl
end Go.Proofs.YtnbkagglkajbkaaGreat
end
noncomputable section
namespace Go.Ev
open Go
open Go.IntKind (i64 signed u16 u64 wrap)
theorem lN{α:Type}{l:List α}{k:Nat}(z:α)(h:k<l.length):l.drop k=l.getD k z::l.drop (k+1):=by
 rw[List.drop_eq_getElem_cons h];simp[List.getD_eq_getElem?_getD,List.getElem?_eq_getElem h]
theorem al.getD{l:List Int}(h:al l)(i:Nat):By (l.getD i 0):=by
 rw[List.getD_eq_getElem?_getD]
 cases hi:l[i]? with
 |none=>exact⟨Int.le_refl _,by decide⟩
 |some z=>exact h z (List.mem_of_getElem? hi)
theorem al.set{l:List Int}(h:al l)(i:Nat){z:Int}(hz:By z):al (l.set i z):=fun y hy=>by
 rcases List.mem_or_eq_of_mem_set hy with hy|rfl
 ·exact h y hy
 ·exact hz
theorem al.nil:al []:=fun _ h=>by cases h
theorem al.cons{z:Int}{l:List Int}(hz:By z)(h:al l):al (z::l):=fun y hy=>by
 rcases List.mem_cons.1 hy with rfl|hy
 ·exact hz
 ·exact h y hy
inductive Tr (X:Type) where
 |ret (x:X)
 |ite (b:Bool) (t e:Tr X)
 |need (p:Prop) (t:Tr X)
 |fail
def Tr.Is{X:Type}:Tr X→X→Prop
 | .ret x,y=>x=y
 | .ite b t e,y=>(b=true→t.Is y)∧(b=false→e.Is y)
 | .need p t,y=>p∧t.Is y
 | .fail,_=>False
theorem aq{X:Type}{x y:X}:(Tr.ret x).Is y↔x=y:=Iff.rfl
theorem ao{X:Type}{p:Prop}{t:Tr X}{y:X}:(Tr.need p t).Is y↔p∧t.Is y:=Iff.rfl
theorem cO{X:Type}{b:Bool}{t e:Tr X}{y:X}:(Tr.ite b t e).Is y↔(b=true→t.Is y)∧(b=false→e.Is y):=Iff.rfl
theorem bl{X:Type}{c:Prop}[Decidable c]{t e:Tr X}{y:X}:(Tr.ite (decide c) t e).Is y↔(c→t.Is y)∧(¬c→e.Is y):=by
 simp only[cO,decide_eq_true_eq,decide_eq_false_iff_not]
theorem bx{X:Type}{t e:Tr X}{y:X}:(Tr.ite true t e).Is y↔t.Is y:=by simp[cO]
theorem cf{X:Type}{t e:Tr X}{y:X}:(Tr.ite false t e).Is y↔e.Is y:=by simp[cO]
theorem fT{X:Type}{a b:Int}{t e:Tr X}{y:X}:(Tr.ite (a==b) t e).Is y↔(a=b→t.Is y)∧(a≠b→e.Is y):=by
 simp only[cO,beq_iff_eq,beq_eq_false_iff_ne]
theorem mg{X:Type}{a b:Int}{t e:Tr X}{y:X}:(Tr.ite (a !=b) t e).Is y↔(a=b→e.Is y)∧(a≠b→t.Is y):=by
 simp only[cO,bne_iff_ne,bne_eq_false_iff_eq];exact And.comm
theorem fU{X:Type}{b:Bool}{t e:Tr X}{y:X}:(Tr.ite (!b) t e).Is y↔(b=true→e.Is y)∧(b=false→t.Is y):=by
 cases b<;>simp[cO]
theorem pn(b:Bool):(b==true)=b:=by cases b<;>rfl
def Tr.val{X:Type}(d:X):Tr X→X
 | .ret x=>x
 | .ite b t e=>bif b then t.val d else e.val d
 | .need _ t=>t.val d
 | .fail=>d
def Tr.end{X:Type}(V:X→LV)(D:X→List (Nat×Item))(hp:Hp):Tr X→End
 | .ret x=>.leaf (V x) (aF (D x) hp)
 | .ite b t e=>.ite b (t.end V D hp) (e.end V D hp)
 | .need p t=>.need p (t.end V D hp)
 | .fail=>.fail
theorem Tr.nM{X:Type}{V:X→LV}{D:X→List (Nat×Item)}{hp:Hp}:∀ {t:Tr X} {x:X},t.Is x→(t.end V D hp).sat fun v eK=>v=V x∧eK=aF (D x) hp
 | .ret _,_,h=>by cases h;exact⟨rfl,rfl⟩
 | .ite _ _ _,_,h=>⟨fun e=>Tr.nM (h.1 e),fun e=>Tr.nM (h.2 e)⟩
 | .need _ _,_,h=>⟨h.1,Tr.nM h.2⟩
 | .fail,_,h=>h
def dm{X Y Z:Type}(tys:List (Option Ty))(A:aW (List LV) X)(H:aW Hp Y)(pre:X→Y→Prop)(sp:X→Y→Z)(V:Z→LV)(D:Z→List (Nat×Item)):ar:=ar.dx tys A H fun x y=>.leaf (some (pre x y)) (V (sp x y)) (D (sp x y))
def Ab{X Y Z Z':Type}(tys:List (Option Ty))(A:aW (List LV) X)(H:aW Hp Y)(pre:X→Y→Prop)(c:X→Y→Bool)(sp:X→Y→Z)(Ry:X→Y→Z')(V:Z→LV)(D:Z→List (Nat×Item))(V':Z'→LV)(D':Z'→List (Nat×Item)):ar:=
 ar.dx tys A H fun x y=>.ite (c x y) (.leaf (some (pre x y)) (V (sp x y)) (D (sp x y))) (.leaf (some (pre x y)) (V' (Ry x y)) (D' (Ry x y)))
theorem bY{P:Program}(lB:P.follows .mixedOrders=true){tab:List (FuncId×ar)}(rE:∀p∈tab,p.2.Ok P p.1){f:FuncId}{fn:Func}(hf:P.funcs[f]? =some fn)(hb:fn.body.isSome=true)(he:wh P f){tys:List (Option Ty)}{X Y Z:Type}{A:aW (List LV) X}{H:aW Hp Y}
  {LT:X→Y→fq} (hL:∀x y,aO P (H.wr y) (LT x y) (aG fn)) {ks:List Wk} {V:Z→LV} {D:Z→List (Nat×Item)} {T:X→Y→Tr Z} {pre:X→Y→Prop} {sp:X→Y→Z}
  (hT:∀x y,aT P tab (LT x y) fn (A.wr x) (H.wr y) ks=(T x y).end V D (H.wr y)) (hI:∀x y,pre x y→(T x y).Is (sp x y)):
  (dm tys A H pre sp V D).Ok P f:=by
 refine(ar.br he fun x y Q h=>?_).sym;refine(aA lB rE hf hb (ks:=ks) (hL x y)).use (V:=V (sp x y)) (D:=D (sp x y)) ?_ h.2;rw[hT];exact Tr.nM (hI x y h.1)
theorem wx{P:Program}(lB:P.follows .mixedOrders=true){tab:List (FuncId×ar)}(rE:∀p∈tab,p.2.Ok P p.1){f:FuncId}{fn:Func}(hf:P.funcs[f]? =some fn)(hb:fn.body.isSome=true)(he:wh P f){tys:List (Option Ty)}{X Y Z Z':Type}{A:aW (List LV) X}{H:aW Hp Y}
  {LT:X→Y→fq} (hL:∀x y,aO P (H.wr y) (LT x y) (aG fn)) {ks:List Wk} {V:Z→LV} {D:Z→List (Nat×Item)} {V':Z'→LV} {D':Z'→List (Nat×Item)} {T:X→Y→Tr (Z⊕Z')} {pre:X→Y→Prop} {c:X→Y→Bool} {sp:X→Y→Z} {Ry:X→Y→Z'}
  (hT:∀x y,aT P tab (LT x y) fn (A.wr x) (H.wr y) ks=(T x y).end (Sum.elim V V') (Sum.elim D D') (H.wr y)) (hI:∀x y,pre x y→(c x y=true→(T x y).Is (.inl (sp x y)))∧(c x y=false→(T x y).Is (.inr (Ry x y)))):
  (Ab tys A H pre c sp Ry V D V' D').Ok P f:=by
 refine(ar.br he fun x y Q h=>?_).sym
 cases hc:c x y with
 |true=>
  have h1:=h.1 hc;refine(aA lB rE hf hb (ks:=ks) (hL x y)).use (V:=V (sp x y)) (D:=D (sp x y)) ?_ h1.2;rw[hT];exact Tr.nM (V:=Sum.elim V V') (D:=Sum.elim D D') ((hI x y h1.1).1 hc)
 |false=>
  have h1:=h.2 hc;refine(aA lB rE hf hb (ks:=ks) (hL x y)).use (V:=V' (Ry x y)) (D:=D' (Ry x y)) ?_ h1.2;rw[hT];exact Tr.nM (V:=Sum.elim V V') (D:=Sum.elim D D') ((hI x y h1.1).2 hc)
theorem amY{P:Program}(lB:P.follows .mixedOrders=true){tab:List (FuncId×ar)}(rE:∀p∈tab,p.2.Ok P p.1){f:FuncId}{fn:Func}(hf:P.funcs[f]? =some fn)(hb:fn.body.isSome=true)(he:wh P f){tys:List (Option Ty)}{X Y Z:Type}{A:aW (List LV) X}{H:aW Hp Y}
  {LT:X→Y→fq} (hL:∀x y,aO P (H.wr y) (LT x y) (aG fn)) {ks:List Wk} {V:Z→LV} {D:Z→List (Nat×Item)} {T:X→Y→Tr Z} {out:X→Y→Out}
  (hT:∀x y,aT P tab (LT x y) fn (A.wr x) (H.wr y) ks=(T x y).end V D (H.wr y)) (hO:∀x y Q,(out x y).holds Q→∃z,(T x y).Is z∧Q (V z) (D z)):
  (ar.dx tys A H out).Ok P f:=by
 refine(ar.br he fun x y Q h=>?_).sym;obtain⟨z,h1,h2⟩:=hO x y Q h;refine(aA lB rE hf hb (ks:=ks) (hL x y)).use (V:=V z) (D:=D z) ?_ h2;rw[hT];exact Tr.nM h1
inductive dO {X Z:Type} (L:X→Tr (X⊕Z)):X→Z→Prop where
 |stop {x z} (h:(L x).Is (.inr z)):dO L x z
 |go {x y z} (h:(L x).Is (.inl y)) (t:dO L y z):dO L x z
inductive Ac {X Z:Type} (L:X→Tr (X⊕Z)):Nat→X→Z→Prop where
 |stop {n x z} (h:(L x).Is (.inr z)):Ac L n x z
 |go {n x y z} (h:(L x).Is (.inl y)) (t:Ac L n y z):Ac L (n+1) x z
theorem dO.n{X Z:Type}{L:X→Tr (X⊕Z)}{x:X}{z:Z}(h:dO L x z):∃n,Ac L n x z:=by
 induction h with
 |stop h=>exact⟨0,.stop h⟩
 |go h _ ih=>obtain⟨n,h'⟩:=ih;exact⟨n+1,.go h h'⟩
theorem dO.iter{X Z:Type}{L:X→Tr (X⊕Z)}{z:Z}(f:Nat→X)(n:Nat)(h:∀k,k<n→(L (f k)).Is (.inl (f (k+1))))(he:(L (f n)).Is (.inr z)):dO L (f 0) z:=by
 have key:∀m k,k+m=n→dO L (f k) z:=by
  intro m
  induction m with
  |zero=>intro k hk;have:k=n:=by omega
         subst this;exact .stop he
  |succ m ih=>intro k hk;exact .go (h k (by omega)) (ih (k+1) (by omega))
 exact key n 0 (by omega)
def Tr.res{X Z:Type}(C:X→St)(E:Z→Exit×St):Tr (X⊕Z)→aZ
 | .ret (.inl y)=>.leaf .normal (C y)
 | .ret (.inr z)=>.leaf (E z).1 (E z).2
 | .ite b t e=>.ite b (t.res C E) (e.res C E)
 | .need p t=>.need p (t.res C E)
 | .fail=>.fail
theorem Tr.EV{X Z:Type}{C:X→St}{E:Z→Exit×St}{y:X}:∀ {t:Tr (X⊕Z)},t.Is (.inl y)→(t.res C E).sat fun e s=>e= .normal∧s=C y
 | .ret _,h=>by cases h;exact⟨rfl,rfl⟩
 | .ite _ _ _,h=>⟨fun e=>Tr.EV (h.1 e),fun e=>Tr.EV (h.2 e)⟩
 | .need _ _,h=>⟨h.1,Tr.EV h.2⟩
 | .fail,h=>h
theorem Tr.tT{X Z:Type}{C:X→St}{E:Z→Exit×St}{z:Z}:∀ {t:Tr (X⊕Z)},t.Is (.inr z)→(t.res C E).sat fun e s=>e=(E z).1∧s=(E z).2
 | .ret _,h=>by cases h;exact⟨rfl,rfl⟩
 | .ite _ _ _,h=>⟨fun e=>Tr.tT (h.1 e),fun e=>Tr.tT (h.2 e)⟩
 | .need _ _,h=>⟨h.1,Tr.tT h.2⟩
 | .fail,h=>h
theorem du{P:Program}(lB:P.follows .mixedOrders=true){tab:List (FuncId×ar)}(rE:∀p∈tab,p.2.Ok P p.1){LT:fq}{fn:Func}{id:Nat}{hp:Hp}{ws:Exit→List Wk}(hL:aO P hp LT (aV fn id))
  {X Z:Type} {C:aW St X} {E:Z→Exit×St} {L:X→Tr (X⊕Z)} {pre:X→Prop} {sp:X→Z} {F:X→aZ}
  (hT:∀x,ee P tab LT fn id hp ws (C.wr x)=(L x).res C.wr E) (hE:∀z,(E z).1≠ .normal) (hF:∀x R,(F x).sat R→pre x∧R (E (sp x)).1 (E (sp x)).2) (hI:∀x,pre x→dO L x (sp x)) (x:X):
  Ex P hp (.loop (aV fn id)) (C.wr x) (F x):=by
 intro W β₀ R Q hs hq β a w hr;obtain⟨hx,hs2⟩:=hF x R hs;obtain⟨n,hn⟩:=(hI x hx).n
 have key:Ex P hp (.loop (aV fn id)) (C.wr x) (.leaf (E (sp x)).1 (E (sp x)).2):=by
  refine Ex.fF (X:=Nat×X) (fun p=>p.1) (fun p=>C.wr p.2) (fun p=>Ac L p.1 p.2 (sp x)) (fun p=>(L p.2).res C.wr E) (fun _=>.leaf (E (sp x)).1 (E (sp x)).2) (fun p _=>by have:=Rt lB rE hL (P:=P) (ws:=ws) (st:=C.wr p.2);rw[hT]at this;exact this) (fun p R hp hs=>?_) (x:=(n,x)) hn;obtain⟨k,y⟩:=p
  cases hp with
  |stop h=>exact aZ.pc (fun e s ⟨h1,h2⟩=>.inr ⟨by rw[h1];exact hE _,by rw[h1,h2];exact hs⟩) (Tr.tT h)
  |go h t=>exact aZ.pc (fun e s ⟨h1,h2⟩=>.inl ⟨h1,(_,_),h2,t,Nat.lt_succ_self _,hs⟩) (Tr.EV h)
 exact key W β₀ R Q hs2 hq β a w hr
abbrev hY{X Z:Type}(pre:X→Prop)(sp:X→Z)(E:Z→Exit×St)(x:X):aZ:=.need (pre x) (.leaf (E (sp x)).1 (E (sp x)).2)
abbrev sj{X Z Z':Type}(pre:X→Prop)(c:X→Bool)(sp:X→Z)(Ry:X→Z')(E:Z→Exit×St)(E':Z'→Exit×St)(x:X):aZ:=.need (pre x) (.ite (c x) (.leaf (E (sp x)).1 (E (sp x)).2) (.leaf (E' (Ry x)).1 (E' (Ry x)).2))
theorem iH{X Z:Type}{E:Z→Exit×St}{pre:X→Prop}{sp:X→Z}:∀ (x:X) (R:Exit→St→Prop),(hY pre sp E x).sat R→pre x∧R (E (sp x)).1 (E (sp x)).2:=fun _ _ h=>h
theorem wy{X Z Z':Type}{E:Z→Exit×St}{E':Z'→Exit×St}{pre:X→Prop}{c:X→Bool}{sp:X→Z}{Ry:X→Z'}:∀ (x:X) (R:Exit→St→Prop),(sj pre c sp Ry E E' x).sat R→
  pre x∧R (Sum.elim E E' (bif c x then .inl (sp x)else .inr (Ry x))).1 (Sum.elim E E' (bif c x then .inl (sp x)else .inr (Ry x))).2:=fun x R h=>⟨h.1,by
 cases hc:c x with
 |true=>exact h.2.1 hc
 |false=>exact h.2.2 hc⟩
def Di(n:List Wk)(id:Nat)(x r:List Wk):Exit→List Wk
 | .normal=>n
 | .exit i=>if i=id then x else n
 | .ret=>r
 |_=> []
def jK(n:Nat)(r:List LV):List LV:=List.replicate n .b8++r
def dF{X:Type}(c:aW Item X):aW (Option Item) X where
 rd x:=match x with
  |some x=>c.rd x
  |none=>none
 wr x:=some (c.wr x)
 ok:=by
  intro x v h
  split at h
  ·rw[c.ok h]
  ·cases h
def wz{X:Type}(e:TypeId)(r:aW (List SV) X):aW Item X where
 rd x:=match x with
  | .bm cells e'=>if e'=e then r.rd cells else none
  |_=>none
 wr x:=.bm (r.wr x) e
 ok:=by
  intro x v h
  split at h
  ·split at h
   ·rename_i e;subst e;rw[r.ok h]
   ·cases h
  ·cases h
end Go.Ev
end
noncomputable section
namespace Go.Proofs.YtnbkagglkajbkaaGreat
open Go Go.Ev Go.Proofs.Tryz
open Go.IntKind (i64 signed u16 u64 wrap)
set_option maxRecDepth 1000000
abbrev jCo:aW Ev.Item Int:=(wz 249 (ak (tJ 1 0) (ae (ay .u64) ag))).nH (fun x=>x.1) (fun w=>(w,())) (fun _=>rfl)
abbrev x8:aW Hp (Int×List Int×Unit):=ae (dF jCo) (ae (eG 0 u8) ag)
abbrev aqB:aW (List LV) (Int×Unit):=ak (ah (aP 0 0)) (ae (ah (ay .u64)) ag)
abbrev mh:aW (List LV) Unit:=ak (ah (aP 0 0)) ag
def c5(w:Int)(l:List Int):Int×List Int:=if w<16777216 then(w*256,l++ [0])else(w,l)
def fa:Nat→Int→List Int→List Int
 |0,_,l=>l
 |i+1,n,l=>if 0<n then fa i ((n+l.getD i 0)/256) (l.set i ((n+l.getD i 0)%256))else l
abbrev Rz:Type:=Int×(List Int)
abbrev akq(x:Rz):LV:=LV.cT []
abbrev akr(x:Rz):List (Nat×Ev.Item):= [(0,Item.bm [SV.sl 1 1,SV.int u64 (SI.sym x.1)] 249),(1,Item.own 1
 (Ty.int IntKind.u8) x.2)]
def Y9(w:Int)(l:List Int):Tr (Rz):=(.ite (decide (w<16777216)) (.need ((l.length+1)*1≤70368744177664∧l.length+
 1≤70368744177664) (.ret (shl u64 w 8,l++ [0]))) (.ret (w,l)))
theorem UP(w:Int)(l:List Int):aT Tryz.prog [] [] f259 ((mh).wr (())) ((x8).wr (w,l,())) [.one 1,.fr [.sym],.syms,.auto,.aN]=(Y9 w l).end akq akr ((x8).wr (w,l,())):=by kernel_rfl
theorem Za(w:Int)(l:List Int):aO Tryz.prog ((x8).wr (w,l,())) [] (aG f259):=(aO.nil _)
abbrev qN(w:Int)(l:List Int):Prop:=0≤w∧w<72057594037927936∧l.length<1099511627776
abbrev Zb(w:Int)(l:List Int):Rz:=c5 w l
def Zc:ar:=dm [] (mh) (x8) (fun x_ y_=>qN y_.1 y_.2.1) (fun x_ y_=>Zb y_.1 y_.2.1) akq akr
theorem agO(w:Int)(l:List Int)(h_:qN w l):(Y9 w l).Is (Zb w l):=by
 delta Zb;obtain⟨h1,h2,h3⟩:=h_;simp only[Y9,c5,bl,ao,aq];refine⟨fun h=>⟨by omega,?_⟩,fun h=>?_⟩
 ·rw[if_pos h]
  have:shl .u64 w 8=w*256:=by
   have:=g6 .u64 w 8 (by decide);rw[show((8:Nat):Int)=8 from rfl]at this;rw[this,wrap_u64]<;>omega
  rw[this]
 ·rw[if_neg h]
theorem RA:Zc.Ok Tryz.prog 259:=
 bY mixed aE func259 (by kernel_rfl) call259 (fun x_ y_=>Za y_.1 y_.2.1) (fun x_ y_=>UP y_.1 y_.2.1) (fun x_ y_ h=>agO y_.1 y_.2.1 h)
abbrev Ad:Type:=Int×Int×Int×(List Int)
abbrev Ae:aW St Ad:=(bD (ak (ah (aP (0) (0))) (ae (ah (ay u64)) (jk 2 (ae (ah (ay
 i64)) (jk 34 ag))))) (ae (dF jCo) (ae (eG (0) (Ty.int IntKind.u8)) ag))).nH (fun y=>(y.1.1,y.1.2.1,y.2.1,y.2.2.1)) (fun x
 =>((x.1,(x.2.1,())),(x.2.2.1,(x.2.2.2,())))) (fun _=>rfl)
abbrev MZ:List Wk:= [.fr (dK 39 [(0,.an),(1,.an),(4,.an)]),.syms,.auto,.aN]
abbrev Zd:Exit→List Wk:=Di MZ 0 [.fr (dK 39 []),.syms,.auto,.aN] [.fr (dK 39 []),.syms,.auto,.aN]
abbrev M0:Type:=Int×(List Int)
abbrev Ze(x:M0):Exit×St:=(Exit.exit 0,⟨(jK 39 []),[some (jCo.wr x.1),some (Item.own 0 (Ty.int IntKind.u8) x.2)]⟩)
def Af(m:Int)(i:Int)(w':Int)(l':List Int):Tr (Ad⊕(M0)):=(.ite (decide (0≤i)==true) (.ite (decide (0<
 m)) (.need (0≤i∧i<(↑l'.length:Int)) (.need (0≤i∧i<(↑l'.length:Int)) (.ret (.inl (shr u64 (u64.wrap (m+
 u64.wrap (l'.getD i.toNat 0))) 8,i64.wrap (i-1),w',l'.set i.toNat (IntKind.u8.wrap (u64.wrap (m+u64.wrap
 (l'.getD i.toNat 0))))))))) (.ret (.inr (w',l')))) (.ret (.inr (w',l'))))
theorem M1(n:Int)(w:Int)(l:List Int)(m:Int)(i:Int)(w':Int)(l':List Int):ee Tryz.prog [] [] f258 0 ((x8).wr (w,l,())) Zd (Ae.wr (m,i,w',l'))=(Af m i w' l').res Ae.wr Ze:=by kernel_rfl
abbrev Ag(m:Int)(i:Int)(w':Int)(l':List Int):Prop:= -1≤i∧i<l'.length∧l'.length<1099511627776∧0≤m∧m<72057594037927936∧al l'
abbrev M3(m:Int)(i:Int)(w':Int)(l':List Int):M0:=(w',fa (i+1).toNat m l')
abbrev M4:Ad→aZ:=hY (fun x_=>Ag x_.1 x_.2.1 x_.2.2.1 x_.2.2.2) (fun x_=>M3 x_.1 x_.2.1 x_.2.2.1 x_.2.2.2) Ze
theorem Zf(m:Int)(i:Int)(w':Int)(l':List Int)(h_:Ag m i w' l'):dO (fun x_:Ad=>Af x_.1 x_.2.1 x_.2.2.1 x_.2.2.2) (m,i,w',l') (M3 m i w' l'):=by
 delta M3;obtain⟨h1,h2,h6,h3,h4,h5⟩:=h_;obtain⟨k,hk⟩:∃k:Nat,i=(k:Int)-1:=⟨(i+1).toNat,by omega⟩;subst hk;clear h1
 induction k generalizing m l' with
 |zero=>
  refine .stop ?_;simp only[Af,pn,bl,ao,aq];exact⟨fun h=>by omega,fun h=>rfl⟩
 |succ k ih=>
  by_cases hm:0<m
  ·have hb:By (l'.getD k 0):=h5.getD k;have hk:((k:Nat)+1:Int)-1=k:=(by omega);have Dj:=ih ((m+l'.getD k 0)/256) (l'.set k ((m+l'.getD k 0)%256)) (by rw[List.length_set];omega) (by have:=hb.1;omega) (by have:=hb.2;omega) (h5.set k ⟨by omega,by omega⟩) (by rw[List.length_set];omega)
   have e:fa (((k+1:Nat):Int)-1+1).toNat m l'=fa ((k:Int)-1+1).toNat ((m+l'.getD k 0)/256) (l'.set k ((m+l'.getD k 0)%256)):=by
    rw[show(((k+1:Nat):Int)-1+1).toNat=k+1 from by omega,show((k:Int)-1+1).toNat=k from by omega,fa,if_pos hm]
   rw[e];refine .go ?_ Dj;simp only[Af,pn,bl,ao,aq];have h2':(k:Int)<l'.length:=(by omega);have ek:(((k+1:Nat):Int)-1)=(k:Int):=(by omega);rw[ek];have e1:u64.wrap (l'.getD k 0)=l'.getD k 0:=wrap_u64 hb.1 (by have:=hb.2;omega);have e2:u64.wrap (m+l'.getD k 0)=m+l'.getD k 0:=wrap_u64 (by have:=hb.1;omega) (by have:=hb.2;omega);refine⟨fun _=>⟨fun _=>⟨⟨by omega,h2'⟩,⟨by omega,h2'⟩,?_⟩,fun h=>absurd hm h⟩,fun h=>by omega⟩;have hb1:=hb.1;have v9:=hb.2;have e3:shr .u64 (m+l'.getD k 0) 8=(m+l'.getD k 0)/256:=ft .u64 _ 8 (by decide);rw[Int.toNat_natCast,e1,e2,e3,wrap_u8,ax (n:=(k:Int)-1) (by omega) (by omega)]
  ·have e:fa (((k+1:Nat):Int)-1+1).toNat m l'=l':=by
    rw[show(((k+1:Nat):Int)-1+1).toNat=k+1 from by omega,fa,if_neg hm]
   rw[e];refine .stop ?_;simp only[Af,pn,bl,ao,aq];exact⟨fun _=>⟨fun h=>absurd h hm,fun _=>trivial⟩,fun h=>by omega⟩
theorem UQ(n:Int)(w:Int)(l:List Int):∀x:Ad,Ex Tryz.prog ((x8).wr (w,l,())) (.loop (aV f258 0)) (Ae.wr x) (M4 x):=
 du mixed aE (ws:=Zd) (aO.nil _) (fun x_=>M1 n w l x_.1 x_.2.1 x_.2.2.1 x_.2.2.2) (fun z e=>by cases e) iH (fun x_ h=>Zf x_.1 x_.2.1 x_.2.2.1 x_.2.2.2 h)
abbrev RC:Type:=List Int
abbrev aks(x:RC):LV:=LV.cT []
abbrev akt(x:RC):List (Nat×Ev.Item):= [(1,Item.own 0 (Ty.int IntKind.u8) x)]
def Zg(n:Int)(w:Int)(l:List Int):Tr (RC):=(.need (Ag n (i64.wrap ((↑l.length:Int)-1)) w l) (.ret
 (fa (Int.toNat (i64.wrap ((↑l.length:Int)-1)+1)) n l)))
theorem UR(n:Int)(w:Int)(l:List Int):aT Tryz.prog [] [(0,cV Ae ((x8).wr (w,l,())) MZ (M4))] f258 ((aqB).wr (n,())) ((x8).wr (w,l,())) [.fr [.sym],.syms,.auto,.aN]=(Zg n w l).end aks akt ((x8).wr (w,l,())):=by kernel_rfl
theorem Zh(n:Int)(w:Int)(l:List Int):aO Tryz.prog ((x8).wr (w,l,())) [(0,cV Ae ((x8).wr (w,l,())) MZ (M4))] (aG f258):=(aO.cU (nJ (by kernel_rfl) (cJ (hp:=(x8).wr (w,l,())) (UQ n w l)) oI))
abbrev yk(n:Int)(w:Int)(l:List Int):Prop:=l.length<1099511627776∧0≤n∧n<72057594037927936∧al l
abbrev Zi(n:Int)(w:Int)(l:List Int):RC:=fa l.length n l
def Zj:ar:=dm [] (aqB) (x8) (fun x_ y_=>yk x_.1 y_.1 y_.2.1) (fun x_ y_=>Zi x_.1 y_.1 y_.2.1) aks akt
theorem agP(n:Int)(w:Int)(l:List Int)(h_:yk n w l):(Zg n w l).Is (Zi n w l):=by
 delta Zi;obtain⟨h1,h2,h3,h4⟩:=h_;have e:i64.wrap ((l.length:Int)-1)=l.length-1:=ax (by omega) (by omega);simp only[Zg,ao,aq,e];refine⟨⟨by omega,by omega,h1,h2,h3,h4⟩,?_⟩;rw[show((l.length:Int)-1+1).toNat=l.length from by omega]
theorem RD:Zj.Ok Tryz.prog 258:=
 bY mixed aE func258 (by kernel_rfl) call258 (fun x_ y_=>Zh x_.1 y_.1 y_.2.1) (fun x_ y_=>UR x_.1 y_.1 y_.2.1) (fun x_ y_ h=>agP x_.1 y_.1 y_.2.1 h)
def tU(w:Int)(l:List Int):Prop:=16777216≤w∧w<4294967296∧al l∧l.length<1099511627776
theorem b9:∀ (i:Nat) (n:Int) (l:List Int),(fa i n l).length=l.length
 |0,_,_=>rfl
 |i+1,n,l=>by
  unfold fa
  split
  ·rw[b9 i,List.length_set]
  ·rfl
theorem pq:∀ (i:Nat) (n:Int) (l:List Int),al l→al (fa i n l)
 |0,_,_,h=>h
 |i+1,n,l,h=>by
  unfold fa
  split
  ·exact pq i _ _ (h.set i ⟨by omega,by omega⟩)
  ·exact h
def bV(p b w:Int)(l:List Int):Int×List Int:=if b=0 then c5 (w/2048*bd p) l else c5 (w-w/2048*bd p) (fa l.length (w/2048*bd p) l)
theorem im{w:Int}(p:Int)(h:16777216≤w)(h':w<4294967296):253952≤w/2048*bd p∧w/2048*bd p<4294967296∧253952≤w-w/2048*bd p:=by
 have h1:=hS p;generalize bd p=q at*;have h2:8192≤w/2048:=by omega
 have h3:w/2048*2048≤w:=by omega
 generalize w/2048=u at*;obtain⟨q1,q2⟩:=h1;have a1:u*31≤u*q:=Int.mul_le_mul_of_nonneg_left q1 (by omega);have a2:u*q≤u*2017:=Int.mul_le_mul_of_nonneg_left q2 (by omega);generalize u*q=z at*;omega
theorem tV{w:Int}{l:List Int}(h1:65536≤w)(h2:w<4294967296)(h3:al l)(h4:l.length<1099511627775):tU (c5 w l).1 (c5 w l).2:=by
 unfold c5 tU
 split
 ·refine⟨by simp only;omega,by simp only;omega,h3.append (al.cons ⟨by omega,by omega⟩ al.nil),by simp;omega⟩
 ·exact⟨by simp only;omega,h2,h3,by simp only;omega⟩
def cP(b w:Int)(l:List Int):Int×List Int:=if b=0 then c5 (w/2) l else c5 (w/2) (fa l.length (w/2) l)
theorem mV{p b w:Int}{l:List Int}(h:tU w l)(hl:l.length<1099511627775):tU (bV p b w l).1 (bV p b w l).2:=by
 obtain⟨h1,h2,h3,h4⟩:=h;have hb:=im p h1 h2;unfold bV
 split
 ·exact tV (by omega) (by omega) h3 hl
 ·exact tV (by omega) (by omega) (pq _ _ _ h3) (by rw[b9];exact hl)
theorem wB{b w:Int}{l:List Int}(h:tU w l)(hl:l.length<1099511627775):tU (cP b w l).1 (cP b w l).2:=by
 obtain⟨h1,h2,h3,h4⟩:=h;unfold cP
 split
 ·exact tV (by omega) (by omega) h3 hl
 ·exact tV (by omega) (by omega) (pq _ _ _ h3) (by rw[b9];exact hl)
theorem tW(w:Int)(l:List Int):(c5 w l).2.length≤l.length+1:=by unfold c5;split<;>simp
theorem gV(p b w:Int)(l:List Int):(bV p b w l).2.length≤l.length+1:=by
 unfold bV
 split
 ·exact tW _ _
 ·refine Nat.le_trans (tW _ _) (by rw[b9];exact Nat.le_refl _)
theorem mW(b w:Int)(l:List Int):(cP b w l).2.length≤l.length+1:=by
 unfold cP
 split
 ·exact tW _ _
 ·refine Nat.le_trans (tW _ _) (by rw[b9];exact Nat.le_refl _)
abbrev RE:Type:=Int×Int×(List Int)
abbrev aku(x:RE):LV:=LV.one (VV.sc (SV.int i64 (SI.sym x.1)))
abbrev akv(x:RE):List (Nat×Ev.Item):= [(0,Item.bm [SV.sl 1 1,SV.int u64 (SI.sym x.2.1)] 249),(1,Item.own 1
 (Ty.int IntKind.u8) x.2.2)]
def Zk(p:Int)(b:Int)(w:Int)(l:List Int):Tr (RE):=(.ite (b==0) (.need (qN (u64.wrap (shr u64
 w 11*u64.wrap (bd p))) l) (.ret (eH p b,(c5 (u64.wrap (shr u64 w 11*u64.wrap (bd p))) l).fst,(c5
 (u64.wrap (shr u64 w 11*u64.wrap (bd p))) l).snd))) (.need (yk (u64.wrap (shr u64 w 11*
 u64.wrap (bd p))) w l) (.need (qN (u64.wrap (w-u64.wrap (shr u64 w 11*u64.wrap (bd p)))) (fa
 l.length (u64.wrap (shr u64 w 11*u64.wrap (bd p))) l)) (.ret (eH p b,(c5 (u64.wrap (w-u64.wrap
 (shr u64 w 11*u64.wrap (bd p)))) (fa l.length (u64.wrap (shr u64 w 11*u64.wrap (bd p))) l)).fst,
 (c5 (u64.wrap (w-u64.wrap (shr u64 w 11*u64.wrap (bd p)))) (fa l.length (u64.wrap (shr u64
 w 11*u64.wrap (bd p))) l)).snd)))))
theorem US(p b:Int)(w:Int)(l:List Int):aT Tryz.prog [(259,Zc),(258,Zj),(257,ET),(260,tR)] [] f182 ((IV).wr (p,b,())) ((x8).wr (w,l,())) [.one 1,.fr [.sym],.syms,.auto,.aN]=(Zk p b w l).end aku akv ((x8).wr (w,l,())):=by kernel_rfl
theorem Zl(p b:Int)(w:Int)(l:List Int):aO Tryz.prog ((x8).wr (w,l,())) [] (aG f182):=(aO.nil _)
abbrev yl(p b:Int)(w:Int)(l:List Int):Prop:=tU w l
abbrev Zm(p b:Int)(w:Int)(l:List Int):RE:=(eH p b,bV p b w l)
def IW:ar:=dm [] (IV) (x8) (fun x_ y_=>yl x_.1 x_.2.1 y_.1 y_.2.1) (fun x_ y_=>Zm x_.1 x_.2.1 y_.1 y_.2.1) aku akv
theorem agQ(p b:Int)(w:Int)(l:List Int)(h_:yl p b w l):(Zk p b w l).Is (Zm p b w l):=by
 delta Zm;obtain⟨h1,h2,h3,h4⟩:=h_;have hb:=im p h1 h2;have hh:=hS p;have e0:u64.wrap (bd p)=bd p:=wrap_u64 (by omega) (by omega);have e1:shr .u64 w 11=w/2048:=ft .u64 w 11 (by decide);have e2:u64.wrap (w/2048*bd p)=w/2048*bd p:=wrap_u64 (by omega) (by omega);have e3:u64.wrap (w-w/2048*bd p)=w-w/2048*bd p:=wrap_u64 (by omega) (by omega);simp only[Zk,bV,fT,ao,aq,e0,e1,e2,e3];refine⟨fun h=>⟨⟨by omega,by omega,h4⟩,by rw[if_pos h]⟩,fun h=>⟨⟨h4,by omega,by omega,h3⟩,⟨by omega,by omega,by rw[b9];exact h4⟩,by rw[if_neg h]⟩⟩
theorem ym:IW.Ok Tryz.prog 182:=
 bY mixed ((aj RA (aj RD (aj tQ (aj qM aE))))) func182 (by kernel_rfl) call182 (fun x_ y_=>Zl x_.1 x_.2.1 y_.1 y_.2.1) (fun x_ y_=>US x_.1 x_.2.1 y_.1 y_.2.1) (fun x_ y_ h=>agQ x_.1 x_.2.1 y_.1 y_.2.1 h)
abbrev EW:Type:=Int×(List Int)
abbrev Zn(x:EW):LV:=LV.cT []
abbrev Zo(x:EW):List (Nat×Ev.Item):= [(0,Item.bm [SV.sl 1 1,SV.int u64 (SI.sym x.1)] 249),(1,Item.own 1
 (Ty.int IntKind.u8) x.2)]
def M5(b:Int)(w:Int)(l:List Int):Tr (EW):=(.ite (b !=0) (.need (yk (u64.wrap (w.tdiv 2))
 (u64.wrap (w.tdiv 2)) l) (.need (qN (u64.wrap (w.tdiv 2)) (fa l.length (u64.wrap (w.tdiv 2)) l)) (.ret ((c5
 (u64.wrap (w.tdiv 2)) (fa l.length (u64.wrap (w.tdiv 2)) l)).fst,(c5 (u64.wrap (w.tdiv 2)) (fa l.length
 (u64.wrap (w.tdiv 2)) l)).snd)))) (.need (qN (u64.wrap (w.tdiv 2)) l) (.ret ((c5 (u64.wrap (w.tdiv 2)) l).fst,(c5
 (u64.wrap (w.tdiv 2)) l).snd))))
theorem M6(b:Int)(w:Int)(l:List Int):aT Tryz.prog [(259,Zc),(258,Zj),(257,ET),(260,tR)] [] f184 ((oK).wr (b,())) ((x8).wr (w,l,())) [.one 1,.fr [.sym],.syms,.auto,.aN]=(M5 b w l).end Zn Zo ((x8).wr (w,l,())):=by kernel_rfl
theorem UT(b:Int)(w:Int)(l:List Int):aO Tryz.prog ((x8).wr (w,l,())) [] (aG f184):=(aO.nil _)
abbrev Ah(b:Int)(w:Int)(l:List Int):Prop:=tU w l
abbrev M7(b:Int)(w:Int)(l:List Int):EW:=cP b w l
def M8:ar:=dm [] (oK) (x8) (fun x_ y_=>Ah x_.1 y_.1 y_.2.1) (fun x_ y_=>M7 x_.1 y_.1 y_.2.1) Zn Zo
theorem Zp(b:Int)(w:Int)(l:List Int)(h_:Ah b w l):(M5 b w l).Is (M7 b w l):=by
 delta M7;obtain⟨h1,h2,h3,h4⟩:=h_;have e1:w.tdiv 2=w/2:=Int.tdiv_eq_ediv_of_nonneg (by omega);have e2:u64.wrap (w/2)=w/2:=wrap_u64 (by omega) (by omega);simp only[M5,cP,mg,ao,aq,e1,e2];refine⟨fun h=>⟨⟨by omega,by omega,h4⟩,by rw[if_pos h]⟩,fun h=>⟨⟨h4,by omega,by omega,h3⟩,⟨by omega,by omega,by rw[b9];exact h4⟩,by rw[if_neg h]⟩⟩
theorem IX:M8.Ok Tryz.prog 184:=
 bY mixed ((aj RA (aj RD (aj tQ (aj qM aE))))) func184 (by kernel_rfl) call184 (fun x_ y_=>UT x_.1 y_.1 y_.2.1) (fun x_ y_=>M6 x_.1 y_.1 y_.2.1) (fun x_ y_ h=>Zp x_.1 y_.1 y_.2.1 h)
abbrev RF:Type:=Int×(List Int)
abbrev akw(x:RF):LV:=LV.one (VV.sc (SV.ptr 0 0))
abbrev akx(x:RF):List (Nat×Ev.Item):= [(0,Item.bm [SV.sl 1 0,SV.int u64 (SI.sym x.1)] 249),(1,Item.own 0
 (Ty.int IntKind.u8) x.2)]
def aky:Tr (RF):=(.need ((4:Int)=4∧(0:Int)≤4∧(4:Int)≤70368744177664∧(4:Int)≤70368744177664) (.ret
 (4294967295,List.replicate 4 (0:Int))))
theorem UU:aT Tryz.prog [] [] f125 ((ag).wr (())) ((ag).wr (())) [.fr [.sym],.syms,.auto,.aN]=(aky).end akw akx ((ag).wr (())):=by kernel_rfl
theorem Zq:aO Tryz.prog ((ag).wr (())) [] (aG f125):=(aO.nil _)
abbrev EX:Prop:=True
abbrev Zr:RF:=(4294967295,[0,0,0,0])
def Zs:ar:=dm [] (ag) (ag) (fun _ _=>EX) (fun _ _=>Zr) akw akx
theorem agR(h_:EX):(aky).Is (Zr):=by
 delta Zr;exact⟨⟨rfl,by decide,by decide,by decide⟩,rfl⟩
theorem RG:Zs.Ok Tryz.prog 125:=
 bY mixed aE func125 (by kernel_rfl) call125 (fun x_ y_=>Zq) (fun x_ y_=>UU) (fun x_ y_ h=>agR h)
abbrev jTr:aW Ev.Item Unit:=wz 332 (ak (tJ 3 0) ag)
abbrev tX:aW Hp (Int×List Int×List Int×Unit):=ae (dF jCo) (ae (eG 0 u8) (ak (dF jTr) (ae (eG 0 (.int .u16)) ag)))
abbrev amZ:aW Ev.Item Unit:=wz 332 (ak (tJ 1 0) ag)
abbrev EY:aW Hp (List Int×Unit):=ak (dF amZ) (ae (eG 0 (.int .u16)) ag)
def lg(p:List Int):Nat:=p.length.log2
def UW(p:List Int):Prop:=lg p≤8∧p.length=2 ^ lg p∧gU p∧∀i:Nat,1≤i→i<2 ^ lg p→1≤p.getD i 0
theorem nN(n:Nat)(h:n≤8):shl .i64 1 n=((2 ^ n:Nat):Int):=by
 rw[g6 .i64 1 n (by simp[IntKind.bits];omega),Int.one_mul];have h1:(2:Nat) ^ n≤256:=Nat.le_trans (Nat.pow_le_pow_right (by omega) h) (by decide);generalize (2:Nat) ^ n=m at*;exact ax (by omega) (by omega)
theorem EZ{p:List Int}(h:UW p){n:Nat}(hn:n≤lg p):kf p ((2 ^ n:Nat):Int)=0↔n=lg p:=by
 obtain⟨h1,h2,h3,h4⟩:=h;have hp:0<(2:Nat) ^ n:=Nat.two_pow_pos n;unfold kf z8
 by_cases e:n=lg p
 ·subst e;rw[h2];generalize (2:Nat) ^ lg p=m at*;rw[if_neg (by simp)];exact⟨fun _=>rfl,fun _=>rfl⟩
 ·have eV:(2:Nat) ^ n<2 ^ lg p:=Nat.pow_lt_pow_right (by omega) (by omega);have h5:=h4 (2 ^ n) hp eV;rw[h2];generalize (2:Nat) ^ lg p=M at*;generalize (2:Nat) ^ n=m at*;rw[if_pos (decide_eq_true ⟨by omega,by omega⟩),Int.toNat_natCast];exact⟨fun h=>by omega,fun h=>absurd h e⟩
abbrev tY:Type:=Int×(List Int)
abbrev tZ:aW St tY:=(bD (ak (ah (aP (0) (0))) (jk 2 (ae (ah (ay i64)) (jk 8 ag)))) (ak (dF
 amZ) (ae (eG (0) (Ty.int u16)) ag))).nH (fun y=>(y.1.1,y.2.1)) (fun x=>((x.1,()),(x.2,()))) (fun _=>rfl)
abbrev E0:List Wk:= [.fr (dK 12 [(0,.an),(3,.an)]),.syms,.auto,.aN]
abbrev RI:Exit→List Wk:=Di E0 0 [.fr (dK 12 [(3,.an)]),.syms,.auto,.aN] [.fr (dK 12 [(2,.an)]),.syms,.auto,.aN]
abbrev E1:Type:=Int×(List Int)
abbrev RJ(x:E1):Exit×St:=(Exit.exit 0,⟨(jK 3 (LV.one (VV.sc (SV.int i64 (SI.sym x.1)))::(jK 8 []))),
 [some (amZ.wr ()),some (Item.own 0 (Ty.int u16) x.2)]⟩)
def yn(n:Int)(p':List Int):Tr (tY⊕(E1)):=(.need (0≤n) (.need (gU p') (.ite (kf p' (shl i64 1 n)
 !=0) (.ret (.inl (i64.wrap (n+1),p'))) (.ret (.inr (n,p'))))))
theorem IY(p:List Int)(n:Int)(p':List Int):ee Tryz.prog [(262,UO)] [] f261 0 ((EY).wr (p,())) RI (tZ.wr (n,p'))=(yn n p').res tZ.wr RJ:=by kernel_rfl
abbrev wC(n:Int)(p':List Int):Prop:=n=0∧UW p'
abbrev E2(n:Int)(p':List Int):E1:=((lg p':Int),p')
abbrev E3:tY→aZ:=hY (fun x_=>wC x_.1 x_.2) (fun x_=>E2 x_.1 x_.2) RJ
theorem UX(n:Int)(p':List Int)(h_:wC n p'):dO (fun x_:tY=>yn x_.1 x_.2) (n,p') (E2 n p'):=by
 delta E2;obtain⟨rfl,h⟩:=h_;have h':=h;obtain⟨h1,h2,h3,h4⟩:=h';refine dO.iter (fun k=>((k:Int),p')) (lg p') (fun k hk=>?_) ?_
 ·simp only[yn,mg,ao,aq,nN k (by omega),EZ h (Nat.le_of_lt hk)];refine⟨by omega,h3,fun e=>by omega,fun _=>?_⟩;rw[ax (by omega) (by omega)];rfl
 ·simp only[yn,mg,ao,aq,nN (lg p') h1,EZ h (Nat.le_refl _)];exact⟨by omega,h3,fun _=>trivial,fun e=>absurd ((EZ h (Nat.le_refl _)).2 rfl) e⟩
theorem M9(p:List Int):∀x:tY,Ex Tryz.prog ((EY).wr (p,())) (.loop (aV f261 0)) (tZ.wr x) (E3 x):=
 du mixed ((aj z9 aE)) (ws:=RI) (aO.nil _) (fun x_=>IY p x_.1 x_.2) (fun z e=>by cases e) iH (fun x_ h=>UX x_.1 x_.2 h)
abbrev E5:Type:=Int
abbrev Zt(x:E5):LV:=LV.one (VV.sc (SV.int i64 (SI.sym x)))
abbrev Zu(x:E5):List (Nat×Ev.Item):= []
def Zv(p:List Int):Tr (E5):=(.need (wC 0 p) (.ret ((↑(lg p):Int))))
theorem Na(p:List Int):aT Tryz.prog [(262,UO)] [(0,cV tZ ((EY).wr (p,())) E0 (E3))] f261 ((mh).wr (())) ((EY).wr (p,())) [.fr [.sym],.syms,.auto,.aN]=(Zv p).end Zt Zu ((EY).wr (p,())):=by kernel_rfl
theorem UY(p:List Int):aO Tryz.prog ((EY).wr (p,())) [(0,cV tZ ((EY).wr (p,())) E0 (E3))] (aG f261):=(aO.cU (nJ (by kernel_rfl) (cJ (hp:=(EY).wr (p,())) (M9 p)) oI))
abbrev Ai(p:List Int):Prop:=UW p
abbrev Nb(p:List Int):E5:=(lg p:Int)
def Nc:ar:=dm [] (mh) (EY) (fun x_ y_=>Ai y_.1) (fun x_ y_=>Nb y_.1) Zt Zu
theorem Zw(p:List Int)(h_:Ai p):(Zv p).Is (Nb p):=by
 delta Nb;exact⟨⟨rfl,h_⟩,rfl⟩
theorem IZ:Nc.Ok Tryz.prog 261:=
 bY mixed ((aj z9 aE)) func261 (by kernel_rfl) call261 (fun x_ y_=>UY y_.1) (fun x_ y_=>Na y_.1) (fun x_ y_ h=>Zw y_.1 h)
def bC:Nat→Int→Int→Int→List Int→List Int→Int×List Int×List Int
 |0,_,_,w,l,p=>(w,l,p)
 |k+1,v,node,w,l,p=>
  let b:=v/2 ^ k%2
  let c:=bV (kf p node) b w l
  bC k v (2*node+b) c.1 c.2 (dA p node b)
abbrev ua:Type:=Int×Int×Int×Int×(List Int)×(List Int)
abbrev ub:aW St ua:=(bD (ak (ah (aP (0) (0))) (ak (ah (aP (2) (0))) (ae (ah (ay i64)) (jk 4
 (ae (ah (ay i64)) (ae (ah (ay i64)) (jk 43 ag))))))) (ae (iF (249) ((ak (tJ (1) (1)) (ae (ay u64)
 ag)))) (ae (eG (1) (Ty.int IntKind.u8)) (ak (dF jTr) (ae (eG (0) (Ty.int u16)) ag))))).nH (fun y=>(y.1.1,y.1.2.1,
 y.1.2.2.1,y.2.1.1,y.2.2.1,y.2.2.2.1)) (fun x=>((x.1,(x.2.1,(x.2.2.1,()))),((x.2.2.2.1,()),(x.2.2.2.2.1,(x.2.2.2.2.2,()))))) (fun _=>rfl)
abbrev E6:List Wk:= [.one 1,.fr (dK 52 [(0,.an),(1,.an),(2,.an),(7,.an),(8,.an)]),.syms,.auto,.aN]
abbrev RK:Exit→List Wk:=Di E6 0 [.one 1,.fr (dK 52 []),.syms,.auto,.aN] [.one 1,.fr (dK 52 []),.syms,.auto,.aN]
abbrev E7:Type:=Int×(List Int)×(List Int)
abbrev RL(x:E7):Exit×St:=(Exit.exit 0,⟨(jK 52 []),[some (Item.bm [SV.sl 1 1,SV.int u64 (SI.sym x.1)]
 249),some (Item.own 1 (Ty.int IntKind.u8) x.2.1),some (jTr.wr ()),some (Item.own 0 (Ty.int u16) x.2.2)]⟩)
def yo(v':Int)(node:Int)(i:Int)(w':Int)(l':List Int)(p':List Int):Tr (ua⊕(E7)):=(.ite (decide (0≤
 i)) (.need (0≤i) (.need (gU p') (.need (yl (kf p' node) (bg i64 (shr i64 v' i) 1) w' l') (.need (gU p') (.ret (.inl
 (v',i64.wrap (i64.wrap (2*node)+bg i64 (shr i64 v' i) 1),i64.wrap (i-1),(bV (kf p' node)
 (bg i64 (shr i64 v' i) 1) w' l').fst,(bV (kf p' node) (bg i64 (shr i64 v' i) 1) w' l').snd,dA p' node
 (bg i64 (shr i64 v' i) 1)))))))) (.ret (.inr (w',l',p'))))
theorem I0(v:Int)(w:Int)(l:List Int)(p:List Int)(v':Int)(node:Int)(i:Int)(w':Int)(l':List Int)(p':List Int):ee Tryz.prog [(261,Nc),(262,UO),(263,EU),(182,IW)] [] f183 0 ((tX).wr (w,l,p,())) RK (ub.wr (v',node,i,w',l',p'))=(yo v' node i w' l' p').res ub.wr RL:=by kernel_rfl
theorem I1(p:List Int)(n b:Int):(dA p n b).length=p.length:=by unfold dA;split<;>simp
theorem qO(p:List Int)(n b:Int):lg (dA p n b)=lg p:=by unfold lg;rw[I1]
theorem wD(l:List Int)(i j:Nat)(x:Int):(l.set i x).getD j 0=if i=j∧j<l.length then x else l.getD j 0:=by
 simp only[List.getD_eq_getElem?_getD,List.getElem?_set]
 by_cases h:i=j
 ·subst h
  by_cases h2:i<l.length
  ·simp[h2]
  ·simp[h2,List.getElem?_eq_none (Nat.le_of_not_lt h2)]
 ·simp[h]
theorem I2{p:List Int}(h:UW p)(n b:Int):UW (dA p n b):=by
 obtain⟨h1,h2,h3,h4⟩:=h;have ha:=pj (p.getD n.toNat 0) b;refine⟨by rw[qO];exact h1,by rw[I1,qO];exact h2,fun i=>?_,fun i k1 k2=>?_⟩
 ·unfold dA
  split
  ·rw[wD];split
   ·omega
   ·exact h3 i
  ·exact h3 i
 ·rw[qO]at k2;unfold dA
  split
  ·rw[wD];split
   ·omega
   ·exact h4 i k1 k2
  ·exact h4 i k1 k2
theorem Zx{v:Int}(h0:0≤v)(k:Nat)(hk:k≤63):bg .i64 (shr .i64 v k) 1=v/2 ^ k%2:=by
 rw[ft .i64 v k (by simp[IntKind.bits];omega),agL (m:=1) (by decide) _ _ (by decide)];simp
theorem E8{k n:Nat}(h:k≤n):(2:Int) ^ k≤2 ^ n:=by
 have:=Nat.pow_le_pow_right (n:=2) (by omega) h
 exact_mod_cast this
abbrev wE(v':Int)(node:Int)(i:Int)(w':Int)(l':List Int)(p':List Int):Prop:=UW p'∧tU w' l'∧0≤v'∧ -1≤i∧i<lg p'∧1≤node∧node<2 ^ (lg p'-(i+1).toNat+1)∧(l'.length:Int)+i<1099511600000
abbrev E9(v':Int)(node:Int)(i:Int)(w':Int)(l':List Int)(p':List Int):E7:=bC (i+1).toNat v' node w' l' p'
abbrev Fa:ua→aZ:=hY (fun x_=>wE x_.1 x_.2.1 x_.2.2.1 x_.2.2.2.1 x_.2.2.2.2.1 x_.2.2.2.2.2) (fun x_=>E9 x_.1 x_.2.1 x_.2.2.1 x_.2.2.2.1 x_.2.2.2.2.1 x_.2.2.2.2.2) RL
theorem UZ(v':Int)(node:Int)(i:Int)(w':Int)(l':List Int)(p':List Int)(h_:wE v' node i w' l' p'):dO (fun x_:ua=>yo x_.1 x_.2.1 x_.2.2.1 x_.2.2.2.1 x_.2.2.2.2.1 x_.2.2.2.2.2) (v',node,i,w',l',p') (E9 v' node i w' l' p'):=by
 delta E9;obtain⟨h1,h2,h3,h4,h5,h6,h7,h8⟩:=h_;obtain⟨k,hk⟩:∃k:Nat,i=(k:Int)-1:=⟨(i+1).toNat,by omega⟩;subst hk;clear h4
 induction k generalizing node w' l' p' with
 |zero=>
  refine .stop ?_;simp only[yo,pn,bl,ao,aq];exact⟨fun h=>by omega,fun h=>rfl⟩
 |succ k ih=>
  have e0:(((k+1:Nat):Int)-1+1).toNat=k+1:=by omega
  have e1:((k:Int)-1+1).toNat=k:=by omega
  have e2:(((k+1:Nat):Int)-1)=(k:Int):=by omega
  rw[e0]at h7 ⊢;rw[e1]at ih;rw[e2]at h5 h8 ⊢;have hlg:=h1.1;have hb:bg .i64 (shr .i64 v' k) 1=v'/2 ^ k%2:=Zx h3 k (by omega);have hp:(2:Int) ^ (lg p'-(k+1)+1)≤2 ^ 8:=E8 (by omega);have hp8:(2:Int) ^ 8=256:=by decide
  have hpe:(2:Int) ^ (lg p'-k+1)=2*2 ^ (lg p'-(k+1)+1):=by
   rw[show lg p'-k+1=(lg p'-(k+1)+1)+1 from by omega,Int.pow_succ,Int.mul_comm]
  generalize hbe:v'/2 ^ k%2=b at*;have v9:0≤b∧b≤1:=by omega
  have hcl:=gV (kf p' node) b w' l';have Dj:=ih (2*node+b) (bV (kf p' node) b w' l').1 (bV (kf p' node) b w' l').2 (dA p' node b) (I2 h1 _ _) (mV h2 (by omega)) (by omega) (by rw[qO];omega) (by rw[qO,hpe];omega) (by omega)
  have e3:bC (k+1) v' node w' l' p'=bC k v' (2*node+b) (bV (kf p' node) b w' l').1 (bV (kf p' node) b w' l').2 (dA p' node b):=by
   rw[bC,hbe]
  rw[e3];refine .go ?_ Dj;simp only[yo,pn,bl,ao,aq,hb];refine⟨fun _=>⟨by omega,h1.2.2.1,h2,h1.2.2.1,?_⟩,fun h=>by omega⟩;rw[ax (n:=2*node) (by omega) (by omega),ax (n:=2*node+b) (by omega) (by omega),ax (n:=(k:Int)-1) (by omega) (by omega)]
theorem Nd(v:Int)(w:Int)(l:List Int)(p:List Int):∀x:ua,Ex Tryz.prog ((tX).wr (w,l,p,())) (.loop (aV f183 0)) (ub.wr x) (Fa x):=
 du mixed ((aj IZ (aj z9 (aj Aa (aj ym aE))))) (ws:=RK) (aO.nil _) (fun x_=>I0 v w l p x_.1 x_.2.1 x_.2.2.1 x_.2.2.2.1 x_.2.2.2.2.1 x_.2.2.2.2.2) (fun z e=>by cases e) iH (fun x_ h=>UZ x_.1 x_.2.1 x_.2.2.1 x_.2.2.2.1 x_.2.2.2.2.1 x_.2.2.2.2.2 h)
abbrev Fb:Type:=Int×(List Int)×(List Int)
abbrev Zy(x:Fb):LV:=LV.cT []
abbrev Zz(x:Fb):List (Nat×Ev.Item):= [(0,Item.bm [SV.sl 1 1,SV.int u64 (SI.sym x.1)] 249),(1,Item.own 1
 (Ty.int IntKind.u8) x.2.1),(2,Item.bm [SV.sl 3 1] 332),(3,Item.own 1 (Ty.int u16) x.2.2)]
def Nf(v:Int)(w:Int)(l:List Int)(p:List Int):Tr (Fb):=(.need (Ai p) (.ite (decide (v<0)==false) (.need
 (0≤(↑(lg p):Int)) (.ite (decide (shl i64 1 (↑(lg p):Int)≤v)) (.ret (w,l,p)) (.need (wE v 1 (i64.wrap ((↑(lg p):Int)
 -1)) w l p) (.ret ((bC (Int.toNat (i64.wrap ((↑(lg p):Int)-1)+1)) v 1 w l p).fst,(bC (Int.toNat (i64.wrap ((↑(lg p):
 Int)-1)+1)) v 1 w l p).snd.fst,(bC (Int.toNat (i64.wrap ((↑(lg p):Int)-1)+1)) v 1 w l p).snd.snd))))) (.ret (w,l,p))))
theorem Ng(v:Int)(w:Int)(l:List Int)(p:List Int):aT Tryz.prog [(261,Nc),(262,UO),(263,EU),(182,IW)] [(0,cV ub ((tX).wr (w,l,p,())) E6 (Fa))] f183 (((ak (ah (aP 0 0)) (ak (ah (aP 2 0)) (ae (ah (ay .i64)) ag)))).wr (v,())) ((tX).wr (w,l,p,())) [.one 1,.one 3,.fr [.sym],.syms,.auto,.aN]=(Nf v w l p).end Zy Zz ((tX).wr (w,l,p,())):=by kernel_rfl
theorem U0(v:Int)(w:Int)(l:List Int)(p:List Int):aO Tryz.prog ((tX).wr (w,l,p,())) [(0,cV ub ((tX).wr (w,l,p,())) E6 (Fa))] (aG f183):=(aO.cU (nJ (by kernel_rfl) (cJ (hp:=(tX).wr (w,l,p,())) (Nd v w l p)) oI))
abbrev pr(v:Int)(w:Int)(l:List Int)(p:List Int):Prop:=UW p∧tU w l∧0≤v∧v<2 ^ lg p∧1≤lg p∧l.length<1099511500000
abbrev Nh(v:Int)(w:Int)(l:List Int)(p:List Int):Fb:=bC (lg p) v 1 w l p
def Ni:ar:=dm [] ((ak (ah (aP 0 0)) (ak (ah (aP 2 0)) (ae (ah (ay .i64)) ag)))) (tX) (fun x_ y_=>pr x_.1 y_.1 y_.2.1 y_.2.2.1) (fun x_ y_=>Nh x_.1 y_.1 y_.2.1 y_.2.2.1) Zy Zz
theorem ZA(v:Int)(w:Int)(l:List Int)(p:List Int)(h_:pr v w l p):(Nf v w l p).Is (Nh v w l p):=by
 delta Nh;obtain⟨h1,h2,h3,h4,h5,h6⟩:=h_;have hlg:=h1.1;have e1:i64.wrap ((lg p:Int)-1)=lg p-1:=ax (by omega) (by omega);have e2:((lg p:Int)-1+1).toNat=lg p:=by omega
 have e3:((2 ^ lg p:Nat):Int)=2 ^ lg p:=by exact_mod_cast rfl
 simp only[Nf,ao,aq,cO,beq_iff_eq,decide_eq_true_eq,decide_eq_false_iff_not,e1,e2,nN (lg p) hlg,e3];refine⟨h1,fun _=>⟨by omega,fun h=>by omega,fun _=>⟨⟨h1,h2,h3,by omega,by omega,by omega,by rw[e2,Nat.sub_self];decide,by omega⟩,trivial⟩⟩,fun h=>?_⟩;simp at h;omega
theorem I3:Ni.Ok Tryz.prog 183:=
 bY mixed ((aj IZ (aj z9 (aj Aa (aj ym aE))))) func183 (by kernel_rfl) call183 (fun x_ y_=>U0 x_.1 y_.1 y_.2.1 y_.2.2.1) (fun x_ y_=>Ng x_.1 y_.1 y_.2.1 y_.2.2.1) (fun x_ y_ h=>ZA x_.1 y_.1 y_.2.1 y_.2.2.1 h)
abbrev nO:Ty:=.pair (.int .i64) (.pair (.int .i64) (.int .u8))
abbrev dc:Type:=Int×Int×Int
abbrev U1:aW LV dc:=(si (ae (ay .i64) (ae (ay .i64) (ae (ay .u8) ag)))).nH (fun x=>(x.1,x.2.1,x.2.2.1)) (fun y=>(y.1,y.2.1,y.2.2,())) (fun _=>rfl)
abbrev U2:aW (List LV) (List dc×Unit):=ae (ah (e9 false false nO)) ag
def bG(t:dc):Int:=if t.1=0 then 1 else t.1
def kt(t:dc)(made:Int):Bool:=if t.1=0 then decide (t.2.1=0)else decide (t.2.2=0∧2≤t.1∧t.1≤257∧1≤t.2.1∧t.2.1≤4096∧t.2.1≤made)
def bE:Int→List dc→Bool
 |_,[]=>true
 |made,t::l=>kt t made&&decide (made+bG t≤8192)&&bE (made+bG t) l
abbrev Fc:Type:=Int
abbrev ZB(x:Fc):LV:=LV.one (VV.sc (SV.int i64 (SI.sym x)))
abbrev ZC(x:Fc):List (Nat×Ev.Item):= []
def Nj(t:Int×Int×Int):Tr (Fc):=(.ite (t.fst==0) (.ret (1)) (.ret (t.fst)))
theorem Nk(t:dc):aT Tryz.prog [] [] f130 (((ae U1 ag)).wr (t,())) ((ag).wr (())) [.fr [.sym],.syms,.auto,.aN]=(Nj t).end ZB ZC ((ag).wr (())):=by kernel_rfl
theorem U3(t:dc):aO Tryz.prog ((ag).wr (())) [] (aG f130):=(aO.nil _)
abbrev jL(t:dc):Prop:=True
abbrev Nl(t:dc):Fc:=bG t
def wF:ar:=dm [] ((ae U1 ag)) (ag) (fun x_ y_=>jL x_.1) (fun x_ y_=>Nl x_.1) ZB ZC
theorem ZD(t:dc)(h_:jL t):(Nj t).Is (Nl t):=by
 delta Nl;simp only[Nj,bG,fT,aq];exact⟨fun h=>by rw[if_pos h],fun h=>by rw[if_neg h]⟩
theorem pA:wF.Ok Tryz.prog 130:=
 bY mixed aE func130 (by kernel_rfl) call130 (fun x_ y_=>U3 x_.1) (fun x_ y_=>Nk x_.1) (fun x_ y_ h=>ZD x_.1 h)
abbrev RM:Type:=Bool
abbrev akz(x:RM):LV:=LV.one (VV.sc (SV.bool (SB.sym x)))
abbrev akA(x:RM):List (Nat×Ev.Item):= []
def ZE(t:Int×Int×Int)(made:Int):Tr (RM):=(.ite (t.fst==0) (.ret (t.snd.fst==0)) (.ite ((t.snd.snd==0)==true)
 (.ite (decide (2≤t.fst)==true) (.ite (decide (t.fst≤257)==true) (.ite (decide (1≤t.snd.fst)==true) (.ret (decide (t.snd.fst≤if made<
 4096 then made else 4096))) (.ret (false))) (.ret (false))) (.ret (false))) (.ret (false))))
theorem U4(t:dc)(made:Int):aT Tryz.prog [] [] f180 (((ae U1 (ae (ah (ay .i64)) ag))).wr (t,made,())) ((ag).wr (())) [.fr [.sym],.syms,.auto,.aN]=(ZE t made).end akz akA ((ag).wr (())):=by kernel_rfl
theorem ZF(t:dc)(made:Int):aO Tryz.prog ((ag).wr (())) [] (aG f180):=(aO.nil _)
abbrev yp(t:dc)(made:Int):Prop:=True
abbrev ZG(t:dc)(made:Int):RM:=kt t made
def RN:ar:=dm [] ((ae U1 (ae (ah (ay .i64)) ag))) (ag) (fun x_ y_=>yp x_.1 x_.2.1) (fun x_ y_=>ZG x_.1 x_.2.1) akz akA
theorem agS(t:dc)(made:Int)(h_:yp t made):(ZE t made).Is (ZG t made):=by
 delta ZG;have e:(t.2.1≤if made<4096 then made else 4096)↔(t.2.1≤4096∧t.2.1≤made):=by split<;>omega
 simp only[ZE,kt,fT,aq,pn,cO,beq_iff_eq,beq_eq_false_iff_ne,decide_eq_true_eq,decide_eq_false_iff_not,e];refine⟨fun h=>by rw[if_pos h];exact(Bool.eq_iff_iff.2 (by simp)),fun h=>?_⟩;rw[if_neg h];refine⟨fun h1=>⟨fun h2=>⟨fun h3=>⟨fun h4=>decide_eq_decide.2 ⟨fun h5=>⟨h1,h2,h3,h4,h5⟩,fun h=>h.2.2.2.2⟩,fun h4=>?_⟩,fun h3=>?_⟩,fun h2=>?_⟩,fun h1=>?_⟩
 ·exact(decide_eq_false fun h=>h4 h.2.2.2.1).symm
 ·exact(decide_eq_false fun h=>h3 h.2.2.1).symm
 ·exact(decide_eq_false fun h=>h2 h.2.1).symm
 ·exact(decide_eq_false fun h=>h1 h.1).symm
theorem Ff:RN.Ok Tryz.prog 180:=
 bY mixed aE func180 (by kernel_rfl) call180 (fun x_ y_=>ZF x_.1 x_.2.1) (fun x_ y_=>U4 x_.1 x_.2.1) (fun x_ y_ h=>agS x_.1 x_.2.1 h)
theorem kS{t:dc}{made:Int}(h:kt t made=true):1≤bG t∧bG t≤257:=by
 unfold kt at h;unfold bG
 split at h
 ·rename_i e;rw[if_pos e];omega
 ·rename_i e;rw[if_neg e];have:=of_decide_eq_true h;omega
abbrev pB:Type:=Int×(List (Int×Int×Int))×Int×Int
abbrev pC:aW St pB:=(bD (jk 3 (ae (ah (ay i64)) (jk 2 (ae (ah (e9 false false ((Ty.int
 i64).pair ((Ty.int i64).pair (Ty.int IntKind.u8))))) (ae (ah (ay i64)) (ae (ah (ay i64)) (jk 19
 ag))))))) ag).nH (fun y=>(y.1.1,y.1.2.1,y.1.2.2.1,y.1.2.2.2.1)) (fun x=>((x.1,(x.2.1,(x.2.2.1,(x.2.2.2,())))),())) (fun _=>rfl)
abbrev Aj:List Wk:= [.fr (dK 28 [(3,.an),(6,.an),(7,.an),(8,.an)]),.syms,.auto,.aN]
abbrev I4:Exit→List Wk:=Di Aj 0 [.fr (dK 28 []),.syms,.auto,.aN] [.fr (dK 28 [(2,.an)]),.syms,.auto,.aN]
abbrev wG:Type:=Bool
abbrev Dk(x:wG):Exit×St:=(Exit.ret,⟨(jK 2 (LV.one (VV.sc (SV.bool (SB.sym x)))::(jK 25 []))),[]⟩)
abbrev wH:Type:=Unit
abbrev Dl(x:wH):Exit×St:=(Exit.exit 0,⟨(jK 28 []),[]⟩)
def mX(made:Int)(l':List (Int×Int×Int))(n:Int)(i:Int):Tr (pB⊕(wG⊕wH)):=(.ite (decide (i
 <n)) (.need (0≤i∧i<(↑l'.length:Int)) (.need (yp (l'.getD i.toNat (0,0,0)) made) (.ite ((!kt (l'.getD i.toNat (0,0,0)) made)==
 false) (.need (jL (l'.getD i.toNat (0,0,0))) (.ite (decide (i64.wrap (8192-made)<bG (l'.getD i.toNat (0,0,0)))) (.ret (.inr
 (.inl (false)))) (.need (jL (l'.getD i.toNat (0,0,0))) (.ret (.inl (i64.wrap (made+bG (l'.getD i.toNat (0,0,0))),l',n,
 i64.wrap (i+1))))))) (.ret (.inr (.inl (false))))))) (.ret (.inr (.inr ()))))
theorem Fg(l:List dc)(made:Int)(l':List (Int×Int×Int))(n:Int)(i:Int):ee Tryz.prog [(130,wF),(180,RN)] [] f124 0 ((ag).wr (())) I4 (pC.wr (made,l',n,i))=(mX made l' n i).res pC.wr (Sum.elim Dk Dl):=by kernel_rfl
abbrev sk(made:Int)(l':List (Int×Int×Int))(n:Int)(i:Int):Prop:=n=l'.length∧0≤i∧i≤n∧0≤made∧made≤8192∧n<1099511627776
abbrev Ak(made:Int)(l':List (Int×Int×Int))(n:Int)(i:Int):Bool:= !bE made (l'.drop i.toNat)
abbrev Al(made:Int)(l':List (Int×Int×Int))(n:Int)(i:Int):wG:=false
abbrev Am(made:Int)(l':List (Int×Int×Int))(n:Int)(i:Int):wH:=()
abbrev An:pB→aZ:=sj (fun x_=>sk x_.1 x_.2.1 x_.2.2.1 x_.2.2.2) (fun x_=>Ak x_.1 x_.2.1 x_.2.2.1 x_.2.2.2) (fun x_=>Al x_.1 x_.2.1 x_.2.2.1 x_.2.2.2) (fun x_=>Am x_.1 x_.2.1 x_.2.2.1 x_.2.2.2) Dk Dl
theorem Nm(made:Int)(l':List (Int×Int×Int))(n:Int)(i:Int)(h_:sk made l' n i):dO (fun x_:pB=>mX x_.1 x_.2.1 x_.2.2.1 x_.2.2.2) (made,l',n,i) (bif Ak made l' n i then .inl (Al made l' n i)else .inr (Am made l' n i)):=by
 delta Ak Al Am;obtain⟨rfl,h1,h2,h3,h4,h5⟩:=h_;obtain⟨k,rfl⟩:∃k:Nat,i=k:=⟨i.toNat,by omega⟩;rw[Int.toNat_natCast];obtain⟨m,hm⟩:∃m,l'.length=k+m:=⟨l'.length-k,by omega⟩;clear h2
 induction m generalizing k made with
 |zero=>
  refine .stop ?_;rw[List.drop_of_length_le (by omega)];simp only[mX,bl,ao,aq,bE];exact⟨fun h=>by omega,fun _=>rfl⟩
 |succ m ih=>
  have hk:k<l'.length:=by omega
  have e1:i64.wrap (8192-made)=8192-made:=ax (by omega) (by omega);rw[lN (0,0,0) hk,bE];generalize hx:l'.getD k (0,0,0)=x
  cases hm1:kt x made with
  |false=>
   refine .stop ?_;simp only[mX,bl,ao,aq,Int.toNat_natCast,hx,hm1];refine⟨fun _=>⟨⟨by omega,by omega⟩,trivial,?_⟩,fun h=>by omega⟩;simp[cO,aq]
  |true=>
   have Ms:=kS hm1
   by_cases hle:made+bG x≤8192
   ·have Dj:=ih (made+bG x) (by omega) (by omega) (k+1) (by omega) (by omega);rw[decide_eq_true hle,Bool.true_and,Bool.true_and];refine .go ?_ Dj;simp only[mX,bl,ao,aq,Int.toNat_natCast,hx,hm1,Bool.not_true,beq_self_eq_true,bx,e1];refine⟨fun _=>⟨⟨by omega,by omega⟩,trivial,trivial,fun h=>by omega,fun _=>⟨trivial,?_⟩⟩,fun h=>by omega⟩;rw[ax (n:=made+bG x) (by omega) (by omega),ax (n:=(k:Int)+1) (by omega) (by omega)];rfl
   ·rw[decide_eq_false hle];refine .stop ?_;simp only[mX,bl,ao,aq,Int.toNat_natCast,hx,hm1,Bool.not_true,beq_self_eq_true,bx,e1];refine⟨fun _=>⟨⟨by omega,by omega⟩,trivial,trivial,fun h=>rfl,fun h=>by omega⟩,fun h=>by omega⟩
theorem I5(l:List dc):∀x:pB,Ex Tryz.prog ((ag).wr (())) (.loop (aV f124 0)) (pC.wr x) (An x):=
 du mixed ((aj pA (aj Ff aE))) (ws:=I4) (aO.nil _) (fun x_=>Fg l x_.1 x_.2.1 x_.2.2.1 x_.2.2.2) (fun z=>by cases z<;>(intro e;cases e)) wy (fun x_ h=>Nm x_.1 x_.2.1 x_.2.2.1 x_.2.2.2 h)
abbrev yq:Type:=Bool
abbrev RO(x:yq):LV:=LV.one (VV.sc (SV.bool (SB.sym x)))
abbrev RP(x:yq):List (Nat×Ev.Item):= []
def Fh(l:List (Int×Int×Int)):Tr (yq):=(.need (sk 0 l (↑l.length:Int) 0) (.ite (!bE 0 (List.drop 0 l))
 (.ret (false)) (.ret (true))))
theorem I6(l:List dc):aT Tryz.prog [(130,wF),(180,RN)] [(0,cV pC ((ag).wr (())) Aj (An))] f124 ((U2).wr (l,())) ((ag).wr (())) [.fr [.sym],.syms,.auto,.aN]=(Fh l).end RO RP ((ag).wr (())):=by kernel_rfl
theorem Nn(l:List dc):aO Tryz.prog ((ag).wr (())) [(0,cV pC ((ag).wr (())) Aj (An))] (aG f124):=(aO.cU (nJ (by kernel_rfl) (cJ (hp:=(ag).wr (())) (I5 l)) oI))
abbrev qP(l:List dc):Prop:=l.length<1099511627776
abbrev Fk(l:List dc):yq:=bE 0 l
def qQ:ar:=dm [some nO] (U2) (ag) (fun x_ y_=>qP x_.1) (fun x_ y_=>Fk x_.1) RO RP
theorem U6(l:List dc)(h_:qP l):(Fh l).Is (Fk l):=by
 delta Fk;simp only[Fh,ao,aq,cO];refine⟨⟨rfl,by omega,by omega,by omega,by omega,by omega⟩,?_⟩
 cases h:bE 0 l<;>simp[h]
theorem mY:qQ.Ok Tryz.prog 124:=
 bY mixed ((aj pA (aj Ff aE))) func124 (by kernel_rfl) call124 (fun x_ y_=>Nn x_.1) (fun x_ y_=>I6 x_.1) (fun x_ y_ h=>U6 x_.1 h)
def rK:Nat→Int→List Int→List Int
 |0,_,o=>o
 |k+1,d,o=>rK k d (o++ [o.getD ((o.length:Int)-d).toNat 0])
def Fl(o:List Int)(t:dc):List Int:=if t.1=0 then o++ [t.2.2]else rK t.1.toNat t.2.1 o
def eN:List Int→List dc→List Int
 |o,[]=>o
 |o,t::l=>eN (Fl o t) l
def nP(l:List dc):List Int:=if bE 0 l then eN [] l else []
theorem Dm:∀ (k:Nat) (d:Int) (o:List Int),(rK k d o).length=o.length+k
 |0,_,_=>rfl
 |k+1,d,o=>by rw[rK,Dm k];simp;omega
theorem I7{o:List Int}{t:dc}{made:Int}(h:kt t made=true):((Fl o t).length:Int)=o.length+bG t:=by
 have h1:=kS h;unfold Fl bG at*
 split
 ·simp
 ·rename_i e;rw[if_neg e]at h1;rw[Dm];omega
abbrev pD:Type:=(List (Int×Int×Int))×Int×Int×Int×Int×(List Int)×Int×Int×Int
abbrev uc:aW St pD:=(bD (jk 3 (ak (ah (tJ (0) (0))) (jk 1 (ak (ah (aP (1) (0))) (jk 3 (ae (ah (e9
 false false ((Ty.int i64).pair ((Ty.int i64).pair (Ty.int IntKind.u8))))) (ae (ah (ay i64)) (ae (ah (ay
 i64)) (jk 12 (ae (ah (ay i64)) (ae (ah (ay i64)) (jk 15 ag)))))))))))) (ae (eG (0) (Ty.int IntKind.u8))
 (ae (iF (199) ((ae (ay i64) (ae (ay i64) (ae (ay IntKind.u8) ag))))) ag))).nH (fun y=>(y.1.1,y.1.2.1,
 y.1.2.2.1,y.1.2.2.2.1,y.1.2.2.2.2.1,y.2.1,y.2.2.1.1,y.2.2.1.2.1,y.2.2.1.2.2.1)) (fun x=>((x.1,(x.2.1,(x.2.2.1,(x.2.2.2.1,(x.2.2.2.2.1,
 ()))))),(x.2.2.2.2.2.1,((x.2.2.2.2.2.2.1,(x.2.2.2.2.2.2.2.1,(x.2.2.2.2.2.2.2.2,()))),())))) (fun _=>rfl)
abbrev I8:List Wk:= [.eW 3 u8,.fr (dK 41 [(3,.an),(5,.an),(9,.an),(10,.an),(11,.an),(24,.an),(25,.an)]),.syms,
 .auto,.aN]
abbrev I9:Exit→List Wk:=Di I8 2 [.eW 3 u8,.fr (dK 41 [(3,.an),(9,.an),(10,.an),(11,.an)]),.syms,.auto,.aN]
 [.eW 3 u8,.fr (dK 41 [(2,.an)]),.syms,.auto,.aN]
abbrev Ao:Type:=(List (Int×Int×Int))×Int×Int×(List Int)
abbrev Ja(x:Ao):Exit×St:=(Exit.exit 2,⟨(jK 3 (LV.one (VV.sc (SV.sl 0 0))::(jK 5 (LV.one (VV.sc (SV.rd false
 false ((Ty.int i64).pair ((Ty.int i64).pair (Ty.int IntKind.u8))) x.1))::(LV.one (VV.sc (SV.int i64 (SI.sym x.2.1)))::
 (LV.one (VV.sc (SV.int i64 (SI.sym x.2.2.1)))::(jK 29 []))))))),[some (Item.own 0 (Ty.int IntKind.u8) x.2.2.2)]⟩)
def ud(l':List (Int×Int×Int))(n:Int)(i:Int)(tl:Int)(k:Int)(o:List Int)(t1:Int)(t2:Int)(t3:Int):Tr
 (pD⊕(Ao)):=(.ite (decide (k<tl)) (.need (0≤i64.wrap ((↑o.length:Int)-t2)∧i64.wrap ((↑o.length:Int)-t2)<
 (↑o.length:Int)) (.need ((o.length+1)*1≤70368744177664∧o.length+1≤70368744177664) (.ret (.inl (l',n,i,tl,i64.wrap (k+1),o
 ++ [o.getD (i64.wrap ((↑o.length:Int)-t2)).toNat 0],t1,t2,t3))))) (.ret (.inr (l',n,i,o))))
theorem Fm(l:List dc)(l':List (Int×Int×Int))(n:Int)(i:Int)(tl:Int)(k:Int)(o:List Int)(t1:Int)(t2:Int)(t3:Int):ee Tryz.prog [(124,qQ)] [] f229 2 ((ag).wr (())) I9 (uc.wr (l',n,i,tl,k,o,t1,t2,t3))=(ud l' n i tl k o t1 t2 t3).res uc.wr Ja:=by kernel_rfl
abbrev jr(l':List (Int×Int×Int))(n:Int)(i:Int)(tl:Int)(k:Int)(o:List Int)(t1:Int)(t2:Int)(t3:Int):Prop:=0≤k∧k≤tl∧(k<tl→1≤t2∧t2≤o.length)∧tl<1000000∧o.length+(tl-k)<1000000
abbrev Ap(l':List (Int×Int×Int))(n:Int)(i:Int)(tl:Int)(k:Int)(o:List Int)(t1:Int)(t2:Int)(t3:Int):Ao:=(l',n,i,rK (tl-k).toNat t2 o)
abbrev Jb:pD→aZ:=hY (fun x_=>jr x_.1 x_.2.1 x_.2.2.1 x_.2.2.2.1 x_.2.2.2.2.1 x_.2.2.2.2.2.1 x_.2.2.2.2.2.2.1 x_.2.2.2.2.2.2.2.1 x_.2.2.2.2.2.2.2.2) (fun x_=>Ap x_.1 x_.2.1 x_.2.2.1 x_.2.2.2.1 x_.2.2.2.2.1 x_.2.2.2.2.2.1 x_.2.2.2.2.2.2.1 x_.2.2.2.2.2.2.2.1 x_.2.2.2.2.2.2.2.2) Ja
theorem No(l':List (Int×Int×Int))(n:Int)(i:Int)(tl:Int)(k:Int)(o:List Int)(t1:Int)(t2:Int)(t3:Int)(h_:jr l' n i tl k o t1 t2 t3):dO (fun x_:pD=>ud x_.1 x_.2.1 x_.2.2.1 x_.2.2.2.1 x_.2.2.2.2.1 x_.2.2.2.2.2.1 x_.2.2.2.2.2.2.1 x_.2.2.2.2.2.2.2.1 x_.2.2.2.2.2.2.2.2) (l',n,i,tl,k,o,t1,t2,t3) (Ap l' n i tl k o t1 t2 t3):=by
 delta Ap;obtain⟨h1,h2,h3,h4,h5⟩:=h_;obtain⟨m,hm⟩:∃m:Nat,tl=k+m:=⟨(tl-k).toNat,by omega⟩;subst hm;rw[show(k+(m:Int)-k).toNat=m from by omega]
 induction m generalizing k o with
 |zero=>
  refine .stop ?_;simp only[ud,bl,ao,aq,rK];exact⟨fun h=>by omega,fun _=>trivial⟩
 |succ m ih=>
  have h3:=h3 (by omega);have e1:i64.wrap ((o.length:Int)-t2)=o.length-t2:=ax (by omega) (by omega);have e2:i64.wrap (k+1)=k+1:=ax (by omega) (by omega);have Dj:=ih (k+1) (o++ [o.getD ((o.length:Int)-t2).toNat 0]) (by omega) (by omega) (fun _=>⟨h3.1,by simp;omega⟩) (by omega) (by simp;omega);rw[show k+1+(m:Int)=k+((m+1:Nat):Int)from by omega]at Dj;refine .go ?_ Dj;simp only[ud,bl,ao,aq,e1,e2];exact⟨fun _=>⟨⟨by omega,by omega⟩,⟨by omega,by omega⟩,trivial⟩,fun h=>by omega⟩
theorem Jc(l:List dc):∀x:pD,Ex Tryz.prog ((ag).wr (())) (.loop (aV f229 2)) (uc.wr x) (Jb x):=
 du mixed ((aj mY aE)) (ws:=I9) (aO.nil _) (fun x_=>Fm l x_.1 x_.2.1 x_.2.2.1 x_.2.2.2.1 x_.2.2.2.2.1 x_.2.2.2.2.2.1 x_.2.2.2.2.2.2.1 x_.2.2.2.2.2.2.2.1 x_.2.2.2.2.2.2.2.2) (fun z e=>by cases e) iH (fun x_ h=>No x_.1 x_.2.1 x_.2.2.1 x_.2.2.2.1 x_.2.2.2.2.1 x_.2.2.2.2.2.1 x_.2.2.2.2.2.2.1 x_.2.2.2.2.2.2.2.1 x_.2.2.2.2.2.2.2.2 h)
abbrev pE:Type:=(List (Int×Int×Int))×Int×Int×(List Int)
abbrev pF:aW St pE:=(bD (jk 3 (ak (ah (tJ (0) (0))) (jk 5 (ae (ah (e9 false false ((Ty.int
 i64).pair ((Ty.int i64).pair (Ty.int IntKind.u8))))) (ae (ah (ay i64)) (ae (ah (ay i64)) (jk 29
 ag))))))) (ae (eG (0) (Ty.int IntKind.u8)) ag)).nH (fun y=>(y.1.1,y.1.2.1,y.1.2.2.1,y.2.1)) (fun x=>((x.1,(x.2.1,(x.2.2.1,()))),
 (x.2.2.2,()))) (fun _=>rfl)
abbrev Aq:List Wk:= [.eW 3 u8,.fr (dK 41 [(3,.an),(9,.an),(10,.an),(11,.an)]),.syms,.auto,.aN]
abbrev Jd:Exit→List Wk:=Di Aq 0 [.eW 3 u8,.fr (dK 41 [(3,.an)]),.syms,.auto,.aN] [.eW 3 u8,.fr (dK 41 [(2,.an)]),
 .syms,.auto,.aN]
abbrev Ar:Type:=List Int
abbrev Je(x:Ar):Exit×St:=(Exit.exit 0,⟨(jK 3 (LV.one (VV.sc (SV.sl 0 0))::(jK 37 []))),[some (Item.own 0
 (Ty.int IntKind.u8) x)]⟩)
def ue(l':List (Int×Int×Int))(n:Int)(i:Int)(o:List Int):Tr (pE⊕(Ar)):=(.ite (decide (i<n))
 (.need (0≤i∧i<(↑l'.length:Int)) (.ite ((l'.getD i.toNat (0,0,0)).fst==0) (.need ((o.length+1)*1≤70368744177664∧o.length+1≤
 70368744177664) (.need (jr l' n i (l'.getD i.toNat (0,0,0)).fst 0 (o++ [(l'.getD i.toNat (0,0,0)).snd.snd]) (l'.getD i.toNat (0,0,
 0)).fst (l'.getD i.toNat (0,0,0)).snd.fst (l'.getD i.toNat (0,0,0)).snd.snd) (.ret (.inl (l',n,i64.wrap (i+1),rK (Int.toNat
 ((l'.getD i.toNat (0,0,0)).fst-0)) (l'.getD i.toNat (0,0,0)).snd.fst (o++ [(l'.getD i.toNat (0,0,0)).snd.snd])))))) (.need (jr l' n i
 (l'.getD i.toNat (0,0,0)).fst 0 o (l'.getD i.toNat (0,0,0)).fst (l'.getD i.toNat (0,0,0)).snd.fst (l'.getD i.toNat (0,0,0)).snd.snd) (.ret
 (.inl (l',n,i64.wrap (i+1),rK (Int.toNat ((l'.getD i.toNat (0,0,0)).fst-0)) (l'.getD i.toNat (0,0,0)).snd.fst o)))))) (.ret (.inr
 (o))))
theorem Fo(l:List dc)(l':List (Int×Int×Int))(n:Int)(i:Int)(o:List Int):ee Tryz.prog [(124,qQ)] [(2,cV uc ((ag).wr (())) I8 (Jb))] f229 0 ((ag).wr (())) Jd (pF.wr (l',n,i,o))=(ue l' n i o).res pF.wr Je:=by kernel_rfl
abbrev sn(l':List (Int×Int×Int))(n:Int)(i:Int)(o:List Int):Prop:=n=l'.length∧0≤i∧i≤l'.length∧bE o.length (l'.drop i.toNat)=true∧o.length≤8192∧l'.length<1099511627776
abbrev As(l':List (Int×Int×Int))(n:Int)(i:Int)(o:List Int):Ar:=eN o (l'.drop i.toNat)
abbrev At:pE→aZ:=hY (fun x_=>sn x_.1 x_.2.1 x_.2.2.1 x_.2.2.2) (fun x_=>As x_.1 x_.2.1 x_.2.2.1 x_.2.2.2) Je
theorem Np(l':List (Int×Int×Int))(n:Int)(i:Int)(o:List Int)(h_:sn l' n i o):dO (fun x_:pE=>ue x_.1 x_.2.1 x_.2.2.1 x_.2.2.2) (l',n,i,o) (As l' n i o):=by
 delta As;obtain⟨rfl,h1,h2,h3,h4,h5⟩:=h_;obtain⟨k,rfl⟩:∃k:Nat,i=k:=⟨i.toNat,by omega⟩;rw[Int.toNat_natCast]at h3 ⊢;obtain⟨m,hm⟩:∃m,l'.length=k+m:=⟨l'.length-k,by omega⟩;clear h2
 induction m generalizing k o with
 |zero=>
  refine .stop ?_;rw[List.drop_of_length_le (by omega)];simp only[ue,bl,ao,aq,eN];exact⟨fun h=>by omega,fun _=>trivial⟩
 |succ m ih=>
  have hk:k<l'.length:=by omega
  rw[lN (0,0,0) hk,bE,Bool.and_eq_true,Bool.and_eq_true]at h3;obtain⟨⟨h6,h7⟩,h8⟩:=h3;rw[lN (0,0,0) hk,eN];generalize hx:l'.getD k (0,0,0)=x at*;have h7:=of_decide_eq_true h7;have hg:=I7 (o:=o) h6;have Ms:=kS h6;have Dj:=ih (Fl o x) (by omega) (k+1) (by omega) (by rw[hg];exact h8) (by omega);refine .go ?_ Dj;have hi:i64.wrap ((k:Int)+1)=k+1:=ax (by omega) (by omega);unfold kt at h6;unfold bG at Ms h7;have hkn:(0:Int)≤k∧(k:Int)<l'.length:=⟨by omega,by omega⟩;simp only[ue,bl,ao,aq,fT,Int.toNat_natCast,hx,hi];refine⟨fun _=>⟨hkn,fun e=>?_,fun e=>?_⟩,fun h=>by omega⟩
  ·rw[if_pos e]at h6 Ms h7;refine⟨⟨by omega,by omega⟩,?_,?_⟩
   ·simp only[jr,hx];simp;omega
   ·simp only[Fl,if_pos e,e];rfl
  ·rw[if_neg e]at h6 Ms h7;have h9:=of_decide_eq_true h6;refine⟨?_,?_⟩
   ·simp only[jr,hx];simp;omega
   ·simp only[Fl,if_neg e,Int.sub_zero];rfl
theorem Jf(l:List dc):∀x:pE,Ex Tryz.prog ((ag).wr (())) (.loop (aV f229 0)) (pF.wr x) (At x):=
 du mixed ((aj mY aE)) (ws:=Jd) (aO.inner (by kernel_rfl) (nJ (by kernel_rfl) (cJ (hp:=(ag).wr (())) (Jc l)) oI)) (fun x_=>Fo l x_.1 x_.2.1 x_.2.2.1 x_.2.2.2) (fun z e=>by cases e) iH (fun x_ h=>Np x_.1 x_.2.1 x_.2.2.1 x_.2.2.2 h)
abbrev yr:Type:=List Int
abbrev RQ(x:yr):LV:=LV.one (VV.sc (SV.sl 0 0))
abbrev RR(x:yr):List (Nat×Ev.Item):= [(0,Item.own 0 (Ty.int IntKind.u8) x)]
def Fp(l:List (Int×Int×Int)):Tr (yr):=(.need (qP l) (.ite (!bE 0 l) (.ret ([])) (.need (sn l
 (↑l.length:Int) 0 []) (.ret (eN [] (List.drop 0 l))))))
theorem Jg(l:List dc):aT Tryz.prog [(124,qQ)] [(0,cV pF ((ag).wr (())) Aq (At))] f229 ((U2).wr (l,())) ((ag).wr (())) [.eW 0 u8,.fr [.sym],.syms,.auto,.aN]=(Fp l).end RQ RR ((ag).wr (())):=by kernel_rfl
theorem Nq(l:List dc):aO Tryz.prog ((ag).wr (())) [(0,cV pF ((ag).wr (())) Aq (At))] (aG f229):=(aO.cU (nJ (by kernel_rfl) (cJ (hp:=(ag).wr (())) (Jf l)) oI))
abbrev qS(l:List dc):Prop:=l.length<1099511627776
abbrev Fq(l:List dc):yr:=nP l
def RS:ar:=dm [some nO] (U2) (ag) (fun x_ y_=>qS x_.1) (fun x_ y_=>Fq x_.1) RQ RR
theorem U7(l:List dc)(h_:qS l):(Fp l).Is (Fq l):=by
 delta Fq;simp only[Fp,ao,aq,cO,nP,List.drop_zero]
 cases h:bE 0 l
 ·simp[h_]
 ·simp only[Bool.not_true,reduceCtorEq,false_imp_iff,true_imp_iff,true_and,if_true];exact⟨h_,⟨rfl,by omega,by omega,h,by simp,by omega⟩,trivial⟩
theorem U8:RS.Ok Tryz.prog 229:=
 bY mixed ((aj mY aE)) func229 (by kernel_rfl) call229 (fun x_ y_=>Nq x_.1) (fun x_ y_=>Jg x_.1) (fun x_ y_ h=>U7 x_.1 h)
abbrev rdt(l:List Int):LV:=.one (.sc (.rd true false u8 l))
def ZH:ar:=ar.dx [some u8] bA ag fun x _=>.leaf (some (x.1.length≤70368744177664)) (rdt x.1) []
theorem Jh:aT Tryz.prog [] [] f177 [.one (.sc (.g9 (.slice none 0 0)))] [] [.MO 0 u8,.auto]=
 End.leaf (LV.one (VV.sc (SV.rd true false (Ty.int IntKind.u8) []))) []:=by kernel_rfl
theorem Ji(l:List Int):aT Tryz.prog [] [] f177 [.one (.sc (.rd false true u8 l))] [] [.MO 0 u8,.auto]=
 End.need (((0:Nat)+l.length)*(1:Nat)≤(70368744177664:Nat)∧(0:Nat)+l.length≤(70368744177664:Nat)) (End.leaf (LV.one (VV.sc (SV.rd
 true false (Ty.int IntKind.u8) ([]++l)))) []):=by kernel_rfl
theorem ZI:ZH.Ok Tryz.prog 177:=by
 refine(ar.br call177 fun x y Q h=>?_).sym;obtain⟨l,_⟩:=x;obtain⟨hl,hq⟩:=h;have hl:l.length≤70368744177664:=hl;refine iD.agK (x:= []) (y:= []) (fun e=>?_) ?_
 ·subst e;refine(aA mixed aE func177 rfl (LT:= []) (ks:= [.MO 0 u8,.auto]) (aO.nil _)).use (D:= []) ?_ hq;show(aT _ _ _ _ [.one (.sc (.g9 (.slice none 0 0)))] [] _).sat _;rw[Jh];exact⟨rfl,rfl⟩
 ·refine(aA mixed aE func177 rfl (LT:= []) (ks:= [.MO 0 u8,.auto]) (aO.nil _)).use (D:= []) ?_ hq;show(aT _ _ _ _ [.one (.sc (.rd false true u8 l))] [] _).sat _;rw[Ji];exact⟨⟨by omega,by omega⟩,rfl,rfl⟩
end Go.Proofs.YtnbkagglkajbkaaGreat
end
