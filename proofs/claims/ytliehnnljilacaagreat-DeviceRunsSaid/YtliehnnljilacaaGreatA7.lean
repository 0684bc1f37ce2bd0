/- What the laws lean on, part 7: a reader of code, plain facts, and what each function gives; no conditions. -/
import Derived.WalkKit
import Derived.Lib.Walk
import Derived.Lib.SliceRun
import Derived.Lib.AppendZerosOnto
import Derived.Test.YtliehnnljilacaaGreatA6
noncomputable section
open Go.IntKind (i64 signed u16 u32 u64 wrap wrap_u32)
set_option linter.unusedVariables false
set_option linter.unusedSimpArgs false
namespace Go.Proofs.YtliehnnljilacaaGreat
open Go Go.Ev Go.Proofs.Tryz
set_option maxRecDepth 1000000
abbrev inA:cl (List LV) (Int×Unit):=bD (bO (bX .i64)) bG
abbrev aEu:cl (List LV) (Int×Int×Unit):=bD (bO (bX .i64)) (bD (bO (bX .i64)) bG)
def eu(p:Int):Int:=if p<31 then 31 else if 2017<p then 2017 else p
def kC(p b:Int):Int:=if b=0 then eu p+(2048-eu p)/32 else eu p-eu p/32
def e1I(g:Int→Int):bT:=bT.fw [] inA bG fun x _=>.bN none (nI (g x.1)) []
def e2I(g:Int→Int→Int):bT:=bT.fw [] aEu bG fun x _=>.bN none (nI (g x.1 x.2.1)) []
theorem nx(p:Int):31≤eu p∧eu p≤2017:=by unfold eu;split<;>(try split)<;>omega
theorem O6{p b:Int}:kC p b=if b=0 then i64.wrap (eu p+i64.wrap ((i64.wrap (2048-eu p)).tdiv 32))else i64.wrap (eu p-i64.wrap ((eu p).tdiv 32)):=by
 have h:=nx p;unfold kC;have e1:i64.wrap (2048-eu p)=2048-eu p:=bM (by omega) (by omega);rw[e1,Int.tdiv_eq_ediv_of_nonneg (by omega),Int.tdiv_eq_ediv_of_nonneg (by omega),bM (n:=(2048-eu p)/32) (by omega) (by omega),bM (n:=eu p/32) (by omega) (by omega),bM (by omega) (by omega),bM (by omega) (by omega)]
theorem As(p b:Int):31≤kC p b∧kC p b≤2017:=by
 have h:=nx p;unfold kC;split<;>omega
theorem Dt{a b:Int}(h:a=b):nI a=nI b:=by rw[h]
theorem afZ(p:Int):(if 31<(if 2017<p then 2017 else p)then(if 2017<p then 2017 else p)else 31)=eu p:=by
 unfold eu;by_cases h1:2017<p
 ·simp only[h1,if_true];rw[if_pos (by decide),if_neg (by omega)]
 ·simp only[h1,if_false];by_cases h2:31<p
  ·rw[if_pos h2,if_neg (by omega)]
  ·rw[if_neg h2];split<;>omega
abbrev aEv:bT:=e1I eu
theorem SE(p:Int):cY aA [] [] f266 (inA.wr (p,())) [] [.fr [.sym],.bS]=End.bN (LV.one (VV.sc (SV.int i64 (SI.sym (if(31:Int)<if(2017:Int)<p then(2017:Int)else p then if(2017:Int)<p then(2017:Int)else p else(31:Int)))))) []:=by kernel_rfl
theorem SF:∀p_∈([]:List (FuncId×bT)),p_.2.Ok aA p_.1:=bU
theorem O7:aEv.Ok aA 266:=by
 refine(bT.df call266 fun x_ y_ Q H_=>?_).sym;obtain⟨p,_⟩:=x_;have hq:=H_.2;refine(cg (tab:= []) bJ SF func266 rfl (LT:= []) (ks:=aq) (cn.nil _)).use (D:= []) ?_ hq;show(cY _ _ _ _ (inA.wr (p,())) [] _).sat _;rw[SE];exact⟨Dt (afZ p),rfl⟩
abbrev Xn:bT:=e2I kC
theorem O8(h:Int→Int)(p b:Int):cY aA [(266,e1I h)] [] f269 (aEu.wr (p,b,())) [] [.fr [.sym],.bS]=End.ite (b==(0:Int)) (End.bN (LV.one (VV.sc (SV.int i64 (SI.sym (i64.wrap (h p+i64.wrap ((i64.wrap ((2048:Int)-h p)).tdiv 32))))))) []) (End.bN (LV.one (VV.sc (SV.int i64 (SI.sym (i64.wrap (h p-i64.wrap ((h p).tdiv 32))))))) []):=by kernel_rfl
theorem O9:∀p_∈([(266,e1I eu)]:List (FuncId×bT)),p_.2.Ok aA p_.1:=(bI O7 bU)
theorem GX:Xn.Ok aA 269:=by
 refine(bT.df call269 fun x_ y_ Q H_=>?_).sym;obtain⟨p,b,_⟩:=x_;have hq:=H_.2;refine(cg (tab:= [(266,e1I eu)]) bJ O9 func269 rfl (LT:= []) (ks:=aq) (cn.nil _)).use (D:= []) ?_ hq;show(cY _ _ _ _ (aEu.wr (p,b,())) [] _).sat _;rw[O8 eu];refine⟨fun h=>⟨Dt ?_,rfl⟩,fun h=>⟨Dt ?_,rfl⟩⟩
 ·rw[O6,if_pos (beq_iff_eq.1 h)]
 ·rw[O6,if_neg (bne_iff_ne.1 (by simpa using h))]
abbrev aMP:cl (Option bE) Unit:=ob 336 (bR (pk 1 0) bG)
abbrev wy:cl Hp (ab×Unit):=bR aMP (bD (dd 0 (.int .u16)) bG)
abbrev Pa:cl (List LV) (Int×Unit):=bR (bO (cr 0 0)) (bD (bO (bX .i64)) bG)
abbrev Du:cl (List LV) (Int×Int×Unit):=bR (bO (cr 0 0)) (bD (bO (bX .i64)) (bD (bO (bX .i64)) bG))
def Gh(p:ab)(n:Int):Bool:=decide (1≤n∧n<p.length)
theorem af0{b c:Bool}(h:b=c):nB b=nB c:=by rw[h]
theorem wrap_u16(n:Int):u16.wrap n=n%65536:=by
 simp only[wrap,IntKind.bits,signed];simp
def jB(p:ab):Prop:=∀i,0≤p.getD i 0∧p.getD i 0≤65535
def Ob(p:ab)(n:Int):Int:=if Gh p n=true then p.getD n.toNat 0 else 0
def pO(p:ab)(n b:Int):ab:=if Gh p n=true then p.set n.toNat (kC (p.getD n.toNat 0) b)else p
def af1:bT:=bT.fw [] Pa wy fun x_ y_=>(fun(n:Int) (p:ab)=>.bN none (nB (Gh p n)) []) x_.1 y_.1
theorem aco(n:Int)(p:ab):cY aA [] [] f270 (Pa.wr (n,())) (wy.wr (p,())) [.fr [.sym],.bS]=End.ite (decide ((1:Int)≤n)==true) (End.bN (LV.one (VV.sc (SV.bool (SB.sym (decide (n<(↑p.length:Int))))))) [some (bE.cK [SV.sl 1 0] 336),some (bE.own 0 (Ty.int u16) p)]) (End.bN (LV.one (VV.sc (SV.bool (SB.sym false)))) [some (bE.cK [SV.sl 1 0] 336),some (bE.own 0 (Ty.int u16) p)]):=by kernel_rfl
theorem Xo:af1.Ok aA 270:=by
 refine(bT.df call270 fun x_ y_ Q H_=>?_).sym;obtain⟨n,_⟩:=x_;obtain⟨p,_⟩:=y_;have hq:=H_.2;refine(cg bJ bU func270 rfl (LT:= []) (ks:=aq) (cn.nil _)).use (D:= []) ?_ hq;show(cY _ _ _ _ (Pa.wr (n,())) (wy.wr (p,())) _).sat _;rw[aco];refine⟨fun h=>⟨af0 ?_,rfl⟩,fun h=>⟨af0 ?_,rfl⟩⟩
 ·have h:1≤n:=by simpa using h
  unfold Gh;exact decide_eq_decide.2 ⟨fun h'=>⟨h,h'⟩,fun h'=>h'.2⟩
 ·have h:¬ 1≤n:=by simpa using h
  unfold Gh;exact(decide_eq_false fun h'=>h h'.1).symm
def aXS:bT:=bT.fw [] Pa wy fun x_ y_=>(fun(n:Int) (p:ab)=>.bN (some (jB p)) (nI (Ob p n)) []) x_.1 y_.1
theorem af2(n:Int)(p:ab):cY aA [(270,af1)] [] f264 (Pa.wr (n,())) (wy.wr (p,())) [.fr [.sym],.bS]=End.ite (!Gh p n) (End.bN (LV.one (VV.sc (SV.int i64 (SI.sym 0)))) [some (bE.cK [SV.sl 1 0] 336),some (bE.own 0 (Ty.int u16) p)]) (End.need ((0:Int)≤n∧n<(↑p.length:Int)) (End.bN (LV.one (VV.sc (SV.int i64 (SI.sym (i64.wrap (p.getD n.toNat 0)))))) [some (bE.cK [SV.sl 1 0] 336),some (bE.own 0 (Ty.int u16) p)])):=by kernel_rfl
theorem aEw:aXS.Ok aA 264:=by
 refine(bT.df call264 fun x_ y_ Q H_=>?_).sym;obtain⟨n,_⟩:=x_;obtain⟨p,_⟩:=y_;obtain⟨hn,hq⟩:=H_;have hn:jB p:=hn;refine(cg bJ ((bI Xo bU)) func264 rfl (LT:= []) (ks:=aq) (cn.nil _)).use (D:= []) ?_ hq;show(cY _ _ _ _ (Pa.wr (n,())) (wy.wr (p,())) _).sat _;rw[af2];refine⟨fun h=>⟨Dt ?_,rfl⟩,fun h=>?_⟩
 ·have h:¬Gh p n=true:=by simpa using h
  unfold Ob;rw[if_neg h]
 ·have h:Gh p n=true:=by simpa using h
  have hh:1≤n∧n<p.length:=of_decide_eq_true h;have hr:=hn n.toNat;refine⟨by omega,Dt ?_,rfl⟩;unfold Ob;rw[if_pos h,bM (by omega) (by omega)]
def aEx:bT:=bT.fw [] Du wy fun x_ y_=>(fun(n b:Int) (p:ab)=>.bN (some (jB p)) (.dB []) [(1,.own 0 (.int .u16) (pO p n b))]) x_.1 x_.2.1 y_.1
theorem SG(n b:Int)(p:ab):cY aA [(270,af1),(269,Xn)] [] f265 (Du.wr (n,b,())) (wy.wr (p,())) [.fr [.sym],.bS]=End.ite (Gh p n) (End.need ((0:Int)≤n∧n<(↑p.length:Int)) (End.need ((0:Int)≤n∧n<(↑p.length:Int)) (End.bN (LV.dB []) [some (bE.cK [SV.sl 1 0] 336),some (bE.own 0 (Ty.int u16) (p.set n.toNat (u16.wrap (kC (i64.wrap (p.getD n.toNat 0)) b))))]))) (End.bN (LV.dB []) [some (bE.cK [SV.sl 1 0] 336),some (bE.own 0 (Ty.int u16) p)]):=by kernel_rfl
theorem af3:aEx.Ok aA 265:=by
 refine(bT.df call265 fun x_ y_ Q H_=>?_).sym;obtain⟨n,b,_⟩:=x_;obtain⟨p,_⟩:=y_;obtain⟨hn,hq⟩:=H_;have hn:jB p:=hn;refine(cg bJ ((bI Xo (bI GX bU))) func265 rfl (LT:= []) (ks:=aq) (cn.nil _)).use (D:= [(1,.own 0 (.int .u16) (pO p n b))]) ?_ hq;show(cY _ _ _ _ (Du.wr (n,b,())) (wy.wr (p,())) _).sat _;rw[SG];refine⟨fun h=>?_,fun h=>?_⟩
 ·have hh:1≤n∧n<p.length:=of_decide_eq_true h;have hr:=hn n.toNat;have ha:=As (p.getD n.toNat 0) b;have e:pO p n b=p.set n.toNat (u16.wrap (kC (i64.wrap (p.getD n.toNat 0)) b)):=by
   unfold pO;rw[if_pos h,bM (by omega) (by omega)];congr 1;rw[wrap_u16];omega
  refine⟨by omega,by omega,rfl,?_⟩;rw[e];rfl
 ·have h:¬Gh p n=true:=by simpa using h
  have e:pO p n b=p:=if_neg h;refine⟨rfl,?_⟩;rw[e];rfl
end Go.Proofs.YtliehnnljilacaaGreat
namespace Go.Ev
open Go
theorem gU{α:Type}{l:List α}{k:Nat}(z:α)(h:k<l.length):l.drop k=l.getD k z::l.drop (k+1):=by
 rw[List.drop_eq_getElem_cons h];simp[List.getD_eq_getElem?_getD,List.getElem?_eq_getElem h]
theorem bL.getD{l:ab}(h:bL l)(i:Nat):By (l.getD i 0):=by
 rw[List.getD_eq_getElem?_getD];cases hi:l[i]? with
 |none=>exact⟨Int.le_refl _,by decide⟩
 |some z=>exact h z (List.mem_of_getElem? hi)
theorem bL.set{l:ab}(h:bL l)(i:Nat){z:Int}(hz:By z):bL (l.set i z):=fun y hy=>by
 rcases List.mem_or_eq_of_mem_set hy with hy|rfl
 ·exact h y hy
 ·exact hz
theorem bL.nil:bL []:=fun _ h=>by cases h
theorem bL.cons{z:Int}{l:ab}(hz:By z)(h:bL l):bL (z::l):=fun y hy=>by
 rcases List.mem_cons.1 hy with rfl|hy
 ·exact hz
 ·exact h y hy
theorem bL.rep(n:Nat){z:Int}(hz:By z):bL (List.replicate n z):=fun y hy=>by rw[List.eq_of_mem_replicate hy];exact hz
inductive Tr (X:Type) where
 |ret (x:X)
 |ite (b:Bool) (t e:Tr X)
 |need (p:Prop) (t:Tr X)
 |fail
def Tr.Is{X:Type}:Tr X→X→Prop
 | .ret x,y=>x=y
 | .ite b t e,y=>(b=true→t.Is y)∧(b=false→e.Is y)
 | .need p t,y=>p∧t.Is y
 | .fail,_=>False
theorem bH{X:Type}{x y:X}:(Tr.ret x).Is y↔x=y:=Iff.rfl
theorem bF{X:Type}{p:Prop}{t:Tr X}{y:X}:(Tr.need p t).Is y↔p∧t.Is y:=Iff.rfl
theorem bY{X:Type}{b:Bool}{t e:Tr X}{y:X}:(Tr.ite b t e).Is y↔(b=true→t.Is y)∧(b=false→e.Is y):=Iff.rfl
theorem bW{X:Type}{c:Prop}[Decidable c]{t e:Tr X}{y:X}:(Tr.ite (decide c) t e).Is y↔(c→t.Is y)∧(¬c→e.Is y):=by
 simp only[bY,decide_eq_true_eq,decide_eq_false_iff_not]
theorem dH{X:Type}{t e:Tr X}{y:X}:(Tr.ite true t e).Is y↔t.Is y:=by simp[bY]
theorem dV{X:Type}{t e:Tr X}{y:X}:(Tr.ite false t e).Is y↔e.Is y:=by simp[bY]
theorem cd{X:Type}{a b:Int}{t e:Tr X}{y:X}:(Tr.ite (a==b) t e).Is y↔(a=b→t.Is y)∧(a≠b→e.Is y):=by
 simp only[bY,beq_iff_eq,beq_eq_false_iff_ne]
theorem b9{X:Type}{a b:Int}{t e:Tr X}{y:X}:(Tr.ite (a !=b) t e).Is y↔(a=b→e.Is y)∧(a≠b→t.Is y):=by
 simp only[bY,bne_iff_ne,bne_eq_false_iff_eq];exact And.comm
theorem cm{X:Type}{b:Bool}{t e:Tr X}{y:X}:(Tr.ite (!b) t e).Is y↔(b=true→e.Is y)∧(b=false→t.Is y):=by
 cases b<;>simp[bY]
theorem cv{X:Type}{c:Prop}[Decidable c]{t e:Tr X}{y:X}:(Tr.ite (decide c==false) t e).Is y↔(¬c→t.Is y)∧(c→e.Is y):=by
 by_cases h:c<;>simp[bY,h]
theorem cA{X:Type}{c:Prop}[Decidable c]{t e:Tr X}{y:X}:(Tr.ite (decide c==true) t e).Is y↔(c→t.Is y)∧(¬c→e.Is y):=by
 by_cases h:c<;>simp[bY,h]
theorem cD{X:Type}{c:Prop}[Decidable c]{t e:Tr X}{y:X}:(Tr.ite (!decide c) t e).Is y↔(¬c→t.Is y)∧(c→e.Is y):=by
 by_cases h:c<;>simp[bY,h]
theorem cz{X:Type}{c:Prop}[Decidable c]{t e:Tr X}{y:X}:(Tr.ite ((!decide c)==false) t e).Is y↔(c→t.Is y)∧(¬c→e.Is y):=by
 by_cases h:c<;>simp[bY,h]
theorem cZ{X:Type}{b:Bool}{t e:Tr X}{y:X}:(Tr.ite (b==false) t e).Is y↔(b=true→e.Is y)∧(b=false→t.Is y):=by
 cases b<;>simp[bY]
theorem cQ{X:Type}{b:Bool}{t e:Tr X}{y:X}:(Tr.ite (b==true) t e).Is y↔(b=true→t.Is y)∧(b=false→e.Is y):=by
 cases b<;>simp[bY]
theorem cC{X:Type}{b:Bool}{t e:Tr X}{y:X}:(Tr.ite ((!b)==false) t e).Is y↔(b=true→t.Is y)∧(b=false→e.Is y):=by
 cases b<;>simp[bY]
theorem cy{X:Type}{a c:Int}{t e:Tr X}{y:X}:(Tr.ite ((a !=c)==false) t e).Is y↔(a=c→t.Is y)∧(a≠c→e.Is y):=by
 by_cases h:a=c<;>simp[bY,h]
theorem cx{X:Type}{a c:Int}{t e:Tr X}{y:X}:(Tr.ite ((a==c)==false) t e).Is y↔(a=c→e.Is y)∧(a≠c→t.Is y):=by
 by_cases h:a=c<;>simp[bY,h]
theorem SJ(b:Bool):(b==true)=b:=by cases b<;>rfl
def Tr.val{X:Type}(d:X):Tr X→X
 | .ret x=>x
 | .ite b t e=>bif b then t.val d else e.val d
 | .need _ t=>t.val d
 | .fail=>d
def Tr.end{X:Type}(V:X→LV)(D:X→List (Nat×bE))(hp:Hp):Tr X→End
 | .ret x=>.bN (V x) (cq (D x) hp)
 | .ite b t e=>.ite b (t.end V D hp) (e.end V D hp)
 | .need p t=>.need p (t.end V D hp)
 | .fail=>.fail
theorem Tr.ov{X:Type}{V:X→LV}{D:X→List (Nat×bE)}{hp:Hp}:∀ {t:Tr X} {x:X},t.Is x→(t.end V D hp).sat fun v dZ=>v=V x∧dZ=cq (D x) hp
 | .ret _,_,h=>by cases h;exact⟨rfl,rfl⟩
 | .ite _ _ _,_,h=>⟨fun e=>Tr.ov (h.1 e),fun e=>Tr.ov (h.2 e)⟩
 | .need _ _,_,h=>⟨h.1,Tr.ov h.2⟩
 | .fail,_,h=>h
abbrev eU:List Wk:= [.fr [.sym],.cu,.bS,.ck]
def cj{X Y Z:Type}(tys:List (Option Ty))(A:cl (List LV) X)(H:cl Hp Y)(pre:X→Y→Prop)(sp:X→Y→Z)(V:Z→LV)(D:Z→List (Nat×bE)):bT:=bT.fw tys A H fun x y=>.bN (some (pre x y)) (V (sp x y)) (D (sp x y))
def Dw{X Y Z Z':Type}(tys:List (Option Ty))(A:cl (List LV) X)(H:cl Hp Y)(pre:X→Y→Prop)(c:X→Y→Bool)(sp:X→Y→Z)(yR:X→Y→Z')(V:Z→LV)(D:Z→List (Nat×bE))(V':Z'→LV)(D':Z'→List (Nat×bE)):bT:=bT.fw tys A H fun x y=>.ite (c x y) (.bN (some (pre x y)) (V (sp x y)) (D (sp x y))) (.bN (some (pre x y)) (V' (yR x y)) (D' (yR x y)))
theorem bZ{P:Program}(jy:P.follows .mixedOrders=true){tab:List (FuncId×bT)}(mc:∀p∈tab,p.2.Ok P p.1){f:FuncId}{fn:Func}(hf:P.funcs[f]? =some fn)(hb:fn.body.isSome=true)(he:oT P f){tys:List (Option Ty)}{X Y Z:Type}{A:cl (List LV) X}{H:cl Hp Y} {LT:X→Y→gW} (hL:∀x y,cn P (H.wr y) (LT x y) (fV fn)) {ks:List Wk} {V:Z→LV} {D:Z→List (Nat×bE)} {T:X→Y→Tr Z} {pre:X→Y→Prop} {sp:X→Y→Z} (hT:∀x y,cY P tab (LT x y) fn (A.wr x) (H.wr y) ks=(T x y).end V D (H.wr y)) (hI:∀x y,pre x y→(T x y).Is (sp x y)):(cj tys A H pre sp V D).Ok P f:=by
 refine(bT.df he fun x y Q h=>?_).sym;refine(cg jy mc hf hb (ks:=ks) (hL x y)).use (V:=V (sp x y)) (D:=D (sp x y)) ?_ h.2;rw[hT];exact Tr.ov (hI x y h.1)
theorem Iy{P:Program}(jy:P.follows .mixedOrders=true){tab:List (FuncId×bT)}(mc:∀p∈tab,p.2.Ok P p.1){f:FuncId}{fn:Func}(hf:P.funcs[f]? =some fn)(hb:fn.body.isSome=true)(he:oT P f){tys:List (Option Ty)}{X Y Z Z':Type}{A:cl (List LV) X}{H:cl Hp Y} {LT:X→Y→gW} (hL:∀x y,cn P (H.wr y) (LT x y) (fV fn)) {ks:List Wk} {V:Z→LV} {D:Z→List (Nat×bE)} {V':Z'→LV} {D':Z'→List (Nat×bE)} {T:X→Y→Tr (Z⊕Z')} {pre:X→Y→Prop} {c:X→Y→Bool} {sp:X→Y→Z} {yR:X→Y→Z'} (hT:∀x y,cY P tab (LT x y) fn (A.wr x) (H.wr y) ks=(T x y).end (Sum.elim V V') (Sum.elim D D') (H.wr y)) (hI:∀x y,pre x y→(c x y=true→(T x y).Is (.inl (sp x y)))∧(c x y=false→(T x y).Is (.inr (yR x y)))):(Dw tys A H pre c sp yR V D V' D').Ok P f:=by
 refine(bT.df he fun x y Q h=>?_).sym;cases hc:c x y with
 |true=>
  have h1:=h.1 hc;refine(cg jy mc hf hb (ks:=ks) (hL x y)).use (V:=V (sp x y)) (D:=D (sp x y)) ?_ h1.2;rw[hT];exact Tr.ov (V:=Sum.elim V V') (D:=Sum.elim D D') ((hI x y h1.1).1 hc)
 |false=>
  have h1:=h.2 hc;refine(cg jy mc hf hb (ks:=ks) (hL x y)).use (V:=V' (yR x y)) (D:=D' (yR x y)) ?_ h1.2;rw[hT];exact Tr.ov (V:=Sum.elim V V') (D:=Sum.elim D D') ((hI x y h1.1).2 hc)
theorem SK{P:Program}(jy:P.follows .mixedOrders=true){tab:List (FuncId×bT)}(mc:∀p∈tab,p.2.Ok P p.1){f:FuncId}{fn:Func}(hf:P.funcs[f]? =some fn)(hb:fn.body.isSome=true)(he:oT P f){tys:List (Option Ty)}{X Y Z:Type}{A:cl (List LV) X}{H:cl Hp Y} {LT:X→Y→gW} (hL:∀x y,cn P (H.wr y) (LT x y) (fV fn)) {ks:List Wk} {V:Z→LV} {D:Z→List (Nat×bE)} {T:X→Y→Tr Z} {out:X→Y→Out} (hT:∀x y,cY P tab (LT x y) fn (A.wr x) (H.wr y) ks=(T x y).end V D (H.wr y)) (hO:∀x y Q,(out x y).holds Q→∃z,(T x y).Is z∧Q (V z) (D z)):(bT.fw tys A H out).Ok P f:=by
 refine(bT.df he fun x y Q h=>?_).sym;obtain⟨z,h1,h2⟩:=hO x y Q h;refine(cg jy mc hf hb (ks:=ks) (hL x y)).use (V:=V z) (D:=D z) ?_ h2;rw[hT];exact Tr.ov h1
def Xp{X Y Z Z' Z'':Type}(tys:List (Option Ty))(A:cl (List LV) X)(H:cl Hp Y)(pre:X→Y→Prop)(c:X→Y→Bool)(sp:X→Y→Z)(c':X→Y→Bool)(yR:X→Y→Z')(SL:X→Y→Z'')(V:Z→LV)(D:Z→List (Nat×bE))(V':Z'→LV)(D':Z'→List (Nat×bE))(V'':Z''→LV)(D'':Z''→List (Nat×bE)):bT:=bT.fw tys A H fun x y=>.ite (c x y) (.bN (some (pre x y)) (V (sp x y)) (D (sp x y))) (.ite (c' x y) (.bN (some (pre x y)) (V' (yR x y)) (D' (yR x y))) (.bN (some (pre x y)) (V'' (SL x y)) (D'' (SL x y))))
theorem SM{P:Program}(jy:P.follows .mixedOrders=true){tab:List (FuncId×bT)}(mc:∀p∈tab,p.2.Ok P p.1){f:FuncId}{fn:Func}(hf:P.funcs[f]? =some fn)(hb:fn.body.isSome=true)(he:oT P f){tys:List (Option Ty)}{X Y Z Z' Z'':Type}{A:cl (List LV) X}{H:cl Hp Y} {LT:X→Y→gW} {ks:List Wk} (hL:∀x y,cn P (H.wr y) (LT x y) (fV fn)) {V:Z→LV} {D:Z→List (Nat×bE)} {V':Z'→LV} {D':Z'→List (Nat×bE)} {V'':Z''→LV} {D'':Z''→List (Nat×bE)} {T:X→Y→Tr (Z⊕Z'⊕Z'')} {pre:X→Y→Prop} {c c':X→Y→Bool} {sp:X→Y→Z} {yR:X→Y→Z'} {SL:X→Y→Z''} (hT:∀x y,cY P tab (LT x y) fn (A.wr x) (H.wr y) ks=(T x y).end (Sum.elim V (Sum.elim V' V'')) (Sum.elim D (Sum.elim D' D'')) (H.wr y)) (hI:∀x y,pre x y→(c x y=true→(T x y).Is (.inl (sp x y)))∧(c x y=false→c' x y=true→(T x y).Is (.inr (.inl (yR x y))))∧(c x y=false→c' x y=false→(T x y).Is (.inr (.inr (SL x y))))):(Xp tys A H pre c sp c' yR SL V D V' D' V'' D'').Ok P f:=by
 refine SK jy mc hf hb he (ks:=ks) hL hT (out:=fun x y=>.ite (c x y) (.bN (some (pre x y)) (V (sp x y)) (D (sp x y))) (.ite (c' x y) (.bN (some (pre x y)) (V' (yR x y)) (D' (yR x y))) (.bN (some (pre x y)) (V'' (SL x y)) (D'' (SL x y))))) fun x y Q h=>?_;cases hc:c x y with
 |true=>exact⟨_,(hI x y (h.1 hc).1).1 hc,(h.1 hc).2⟩
 |false=>
  have h2:=h.2 hc;cases hd:c' x y with
  |true=>exact⟨_,(hI x y (h2.1 hd).1).2.1 hc hd,(h2.1 hd).2⟩
  |false=>exact⟨_,(hI x y (h2.2 hd).1).2.2 hc hd,(h2.2 hd).2⟩
noncomputable section
variable {A B C D E F G H I J T:Type}
abbrev q0{R:Sort _}(f:R)(_:T):R:=f
abbrev q1{R:Sort _}(f:A→R)(x:A×T):R:=f x.1
abbrev q2{R:Sort _}(f:A→B→R)(x:A×B×T):R:=f x.1 x.2.1
abbrev q3{R:Sort _}(f:A→B→C→R)(x:A×B×C×T):R:=f x.1 x.2.1 x.2.2.1
abbrev q4{R:Sort _}(f:A→B→C→D→R)(x:A×B×C×D×T):R:=f x.1 x.2.1 x.2.2.1 x.2.2.2.1
abbrev q5{R:Sort _}(f:A→B→C→D→E→R)(x:A×B×C×D×E×T):R:=f x.1 x.2.1 x.2.2.1 x.2.2.2.1 x.2.2.2.2.1
abbrev q6{R:Sort _}(f:A→B→C→D→E→F→R)(x:A×B×C×D×E×F×T):R:=f x.1 x.2.1 x.2.2.1 x.2.2.2.1 x.2.2.2.2.1 x.2.2.2.2.2.1
abbrev q7{R:Sort _}(f:A→B→C→D→E→F→G→R)(x:A×B×C×D×E×F×G×T):R:=f x.1 x.2.1 x.2.2.1 x.2.2.2.1 x.2.2.2.2.1 x.2.2.2.2.2.1 x.2.2.2.2.2.2.1
abbrev q8{R:Sort _}(f:A→B→C→D→E→F→G→H→R)(x:A×B×C×D×E×F×G×H×T):R:=f x.1 x.2.1 x.2.2.1 x.2.2.2.1 x.2.2.2.2.1 x.2.2.2.2.2.1 x.2.2.2.2.2.2.1 x.2.2.2.2.2.2.2.1
abbrev q9{R:Sort _}(f:A→B→C→D→E→F→G→H→I→R)(x:A×B×C×D×E×F×G×H×I×T):R:=f x.1 x.2.1 x.2.2.1 x.2.2.2.1 x.2.2.2.2.1 x.2.2.2.2.2.1 x.2.2.2.2.2.2.1 x.2.2.2.2.2.2.2.1 x.2.2.2.2.2.2.2.2.1
abbrev Iz{R:Sort _}(f:A→B→C→D→E→F→G→H→I→J→R)(x:A×B×C×D×E×F×G×H×I×J×T):R:=f x.1 x.2.1 x.2.2.1 x.2.2.2.1 x.2.2.2.2.1 x.2.2.2.2.2.1 x.2.2.2.2.2.2.1 x.2.2.2.2.2.2.2.1 x.2.2.2.2.2.2.2.2.1 x.2.2.2.2.2.2.2.2.2.1
end
inductive eG {X Z:Type} (L:X→Tr (X⊕Z)):X→Z→Prop where
 |stop {x z} (h:(L x).Is (.inr z)):eG L x z
 |go {x y z} (h:(L x).Is (.inl y)) (t:eG L y z):eG L x z
abbrev abY{A Y:Type}(p:A→Prop)(t:A→Tr Y)(s:A→Y):Prop:=∀a0,p a0→(t a0).Is (s a0)
abbrev ab1{A B Y:Type}(p:A→B→Prop)(t:A→B→Tr Y)(s:A→B→Y):Prop:=∀a0 a1,p a0 a1→(t a0 a1).Is (s a0 a1)
abbrev ab6{A B C Y:Type}(p:A→B→C→Prop)(t:A→B→C→Tr Y)(s:A→B→C→Y):Prop:=∀a0 a1 a2,p a0 a1 a2→(t a0 a1 a2).Is (s a0 a1 a2)
abbrev acb{A B C D Y:Type}(p:A→B→C→D→Prop)(t:A→B→C→D→Tr Y)(s:A→B→C→D→Y):Prop:=∀a0 a1 a2 a3,p a0 a1 a2 a3→(t a0 a1 a2 a3).Is (s a0 a1 a2 a3)
abbrev acf{A B C D E Y:Type}(p:A→B→C→D→E→Prop)(t:A→B→C→D→E→Tr Y)(s:A→B→C→D→E→Y):Prop:=∀a0 a1 a2 a3 a4,p a0 a1 a2 a3 a4→(t a0 a1 a2 a3 a4).Is (s a0 a1 a2 a3 a4)
abbrev ac1{A B C D E F Y:Type}(p:A→B→C→D→E→F→Prop)(t:A→B→C→D→E→F→Tr Y)(s:A→B→C→D→E→F→Y):Prop:=∀a0 a1 a2 a3 a4 a5,p a0 a1 a2 a3 a4 a5→(t a0 a1 a2 a3 a4 a5).Is (s a0 a1 a2 a3 a4 a5)
abbrev ac2{A B C D E F G Y:Type}(p:A→B→C→D→E→F→G→Prop)(t:A→B→C→D→E→F→G→Tr Y)(s:A→B→C→D→E→F→G→Y):Prop:=∀a0 a1 a2 a3 a4 a5 a6,p a0 a1 a2 a3 a4 a5 a6→(t a0 a1 a2 a3 a4 a5 a6).Is (s a0 a1 a2 a3 a4 a5 a6)
abbrev aeo{A B C D E F G H Y:Type}(p:A→B→C→D→E→F→G→H→Prop)(t:A→B→C→D→E→F→G→H→Tr Y)(s:A→B→C→D→E→F→G→H→Y):Prop:=∀a0 a1 a2 a3 a4 a5 a6 a7,p a0 a1 a2 a3 a4 a5 a6 a7→(t a0 a1 a2 a3 a4 a5 a6 a7).Is (s a0 a1 a2 a3 a4 a5 a6 a7)
abbrev aex{A B C D E F G H I Y:Type}(p:A→B→C→D→E→F→G→H→I→Prop)(t:A→B→C→D→E→F→G→H→I→Tr Y)(s:A→B→C→D→E→F→G→H→I→Y):Prop:=∀a0 a1 a2 a3 a4 a5 a6 a7 a8,p a0 a1 a2 a3 a4 a5 a6 a7 a8→(t a0 a1 a2 a3 a4 a5 a6 a7 a8).Is (s a0 a1 a2 a3 a4 a5 a6 a7 a8)
abbrev aeP{A B C D E F G H I J Y:Type}(p:A→B→C→D→E→F→G→H→I→J→Prop)(t:A→B→C→D→E→F→G→H→I→J→Tr Y)(s:A→B→C→D→E→F→G→H→I→J→Y):Prop:=∀a0 a1 a2 a3 a4 a5 a6 a7 a8 a9,p a0 a1 a2 a3 a4 a5 a6 a7 a8 a9→(t a0 a1 a2 a3 a4 a5 a6 a7 a8 a9).Is (s a0 a1 a2 a3 a4 a5 a6 a7 a8 a9)
abbrev aeQ{A B C D E F G H I J K Y:Type}(p:A→B→C→D→E→F→G→H→I→J→K→Prop)(t:A→B→C→D→E→F→G→H→I→J→K→Tr Y)(s:A→B→C→D→E→F→G→H→I→J→K→Y):Prop:=∀a0 a1 a2 a3 a4 a5 a6 a7 a8 a9 a10,p a0 a1 a2 a3 a4 a5 a6 a7 a8 a9 a10→(t a0 a1 a2 a3 a4 a5 a6 a7 a8 a9 a10).Is (s a0 a1 a2 a3 a4 a5 a6 a7 a8 a9 a10)
abbrev aeR{A B C D E F G H I J K L Y:Type}(p:A→B→C→D→E→F→G→H→I→J→K→L→Prop)(t:A→B→C→D→E→F→G→H→I→J→K→L→Tr Y)(s:A→B→C→D→E→F→G→H→I→J→K→L→Y):Prop:=∀a0 a1 a2 a3 a4 a5 a6 a7 a8 a9 a10 a11,p a0 a1 a2 a3 a4 a5 a6 a7 a8 a9 a10 a11→(t a0 a1 a2 a3 a4 a5 a6 a7 a8 a9 a10 a11).Is (s a0 a1 a2 a3 a4 a5 a6 a7 a8 a9 a10 a11)
abbrev aeS{A B C D E F G H I J K L M Y:Type}(p:A→B→C→D→E→F→G→H→I→J→K→L→M→Prop)(t:A→B→C→D→E→F→G→H→I→J→K→L→M→Tr Y)(s:A→B→C→D→E→F→G→H→I→J→K→L→M→Y):Prop:=∀a0 a1 a2 a3 a4 a5 a6 a7 a8 a9 a10 a11 a12,p a0 a1 a2 a3 a4 a5 a6 a7 a8 a9 a10 a11 a12→(t a0 a1 a2 a3 a4 a5 a6 a7 a8 a9 a10 a11 a12).Is (s a0 a1 a2 a3 a4 a5 a6 a7 a8 a9 a10 a11 a12)
abbrev aeT{A Y:Type}(p:A→Prop)(t:A→Tr ((A)⊕Y))(s:A→Y):Prop:=∀a0,p a0→eG (fun x:A=>t x) (a0) (s a0)
abbrev aeU{A B Y:Type}(p:A→B→Prop)(t:A→B→Tr ((A×B)⊕Y))(s:A→B→Y):Prop:=∀a0 a1,p a0 a1→eG (fun x:A×B=>t x.1 x.2) (a0,a1) (s a0 a1)
abbrev aeV{A B C Y:Type}(p:A→B→C→Prop)(t:A→B→C→Tr ((A×B×C)⊕Y))(s:A→B→C→Y):Prop:=∀a0 a1 a2,p a0 a1 a2→eG (fun x:A×B×C=>t x.1 x.2.1 x.2.2) (a0,a1,a2) (s a0 a1 a2)
abbrev aeW{A B C D Y:Type}(p:A→B→C→D→Prop)(t:A→B→C→D→Tr ((A×B×C×D)⊕Y))(s:A→B→C→D→Y):Prop:=∀a0 a1 a2 a3,p a0 a1 a2 a3→eG (fun x:A×B×C×D=>t x.1 x.2.1 x.2.2.1 x.2.2.2) (a0,a1,a2,a3) (s a0 a1 a2 a3)
abbrev aeX{A B C D E Y:Type}(p:A→B→C→D→E→Prop)(t:A→B→C→D→E→Tr ((A×B×C×D×E)⊕Y))(s:A→B→C→D→E→Y):Prop:=∀a0 a1 a2 a3 a4,p a0 a1 a2 a3 a4→eG (fun x:A×B×C×D×E=>t x.1 x.2.1 x.2.2.1 x.2.2.2.1 x.2.2.2.2) (a0,a1,a2,a3,a4) (s a0 a1 a2 a3 a4)
inductive Dx {X Z:Type} (L:X→Tr (X⊕Z)):Nat→X→Z→Prop where
 |stop {n x z} (h:(L x).Is (.inr z)):Dx L n x z
 |go {n x y z} (h:(L x).Is (.inl y)) (t:Dx L n y z):Dx L (n+1) x z
theorem eG.n{X Z:Type}{L:X→Tr (X⊕Z)}{x:X}{z:Z}(h:eG L x z):∃n,Dx L n x z:=by
 induction h with
 |stop h=>exact⟨0,.stop h⟩
 |go h _ ih=>obtain⟨n,h'⟩:=ih;exact⟨n+1,.go h h'⟩
theorem eG.iter{X Z:Type}{L:X→Tr (X⊕Z)}{z:Z}(f:Nat→X)(n:Nat)(h:∀k,k<n→(L (f k)).Is (.inl (f (k+1))))(he:(L (f n)).Is (.inr z)):eG L (f 0) z:=by
 have key:∀m k,k+m=n→eG L (f k) z:=by
  intro m;induction m with
  |zero=>intro k hk;have:k=n:=by omega
         subst this;exact .stop he
  |succ m ih=>intro k hk;exact .go (h k (by omega)) (ih (k+1) (by omega))
 exact key n 0 (by omega)
def Tr.res{X Z:Type}(C:X→St)(E:Z→Exit×St):Tr (X⊕Z)→cT
 | .ret (.inl y)=>.bN .normal (C y)
 | .ret (.inr z)=>.bN (E z).1 (E z).2
 | .ite b t e=>.ite b (t.res C E) (e.res C E)
 | .need p t=>.need p (t.res C E)
 | .fail=>.fail
theorem Tr.zf{X Z:Type}{C:X→St}{E:Z→Exit×St}{y:X}:∀ {t:Tr (X⊕Z)},t.Is (.inl y)→(t.res C E).sat fun e s=>e= .normal∧s=C y
 | .ret _,h=>by cases h;exact⟨rfl,rfl⟩
 | .ite _ _ _,h=>⟨fun e=>Tr.zf (h.1 e),fun e=>Tr.zf (h.2 e)⟩
 | .need _ _,h=>⟨h.1,Tr.zf h.2⟩
 | .fail,h=>h
theorem Tr.jC{X Z:Type}{C:X→St}{E:Z→Exit×St}{z:Z}:∀ {t:Tr (X⊕Z)},t.Is (.inr z)→(t.res C E).sat fun e s=>e=(E z).1∧s=(E z).2
 | .ret _,h=>by cases h;exact⟨rfl,rfl⟩
 | .ite _ _ _,h=>⟨fun e=>Tr.jC (h.1 e),fun e=>Tr.jC (h.2 e)⟩
 | .need _ _,h=>⟨h.1,Tr.jC h.2⟩
 | .fail,h=>h
theorem ee{P:Program}(jy:P.follows .mixedOrders=true){tab:List (FuncId×bT)}(mc:∀p∈tab,p.2.Ok P p.1){LT:gW}{fn:Func}{id:Nat}{hp:Hp}{ws:Exit→List Wk}(hL:cn P hp LT (cG fn id)) {X Z:Type} {C:cl St X} {E:Z→Exit×St} {L:X→Tr (X⊕Z)} {pre:X→Prop} {sp:X→Z} {F:X→cT} (hT:∀x,ma P tab LT fn id hp ws (C.wr x)=(L x).res C.wr E) (hE:∀z,(E z).1≠ .normal) (hF:∀x R,(F x).sat R→pre x∧R (E (sp x)).1 (E (sp x)).2) (hI:∀x,pre x→eG L x (sp x)) (x:X):Ex P hp (.loop (cG fn id)) (C.wr x) (F x):=by
 intro W β₀ R Q hs hq β a w hr;obtain⟨hx,hs2⟩:=hF x R hs;obtain⟨n,hn⟩:=(hI x hx).n;have key:Ex P hp (.loop (cG fn id)) (C.wr x) (.bN (E (sp x)).1 (E (sp x)).2):=by
  refine Ex.iF (X:=Nat×X) (fun p=>p.1) (fun p=>C.wr p.2) (fun p=>Dx L p.1 p.2 (sp x)) (fun p=>(L p.2).res C.wr E) (fun _=>.bN (E (sp x)).1 (E (sp x)).2) (fun p _=>by have:=wj jy mc hL (P:=P) (ws:=ws) (st:=C.wr p.2);rw[hT]at this;exact this) (fun p R hp hs=>?_) (x:=(n,x)) hn;obtain⟨k,y⟩:=p;cases hp with
  |stop h=>exact cT.gf (fun e s ⟨h1,h2⟩=>.inr ⟨by rw[h1];exact hE _,by rw[h1,h2];exact hs⟩) (Tr.jC h)
  |go h t=>exact cT.gf (fun e s ⟨h1,h2⟩=>.inl ⟨h1,(_,_),h2,t,Nat.lt_succ_self _,hs⟩) (Tr.zf h)
 exact key W β₀ R Q hs2 hq β a w hr
abbrev gX{X Z:Type}(pre:X→Prop)(sp:X→Z)(E:Z→Exit×St)(x:X):cT:=.need (pre x) (.bN (E (sp x)).1 (E (sp x)).2)
abbrev oU{X Z Z':Type}(pre:X→Prop)(c:X→Bool)(sp:X→Z)(yR:X→Z')(E:Z→Exit×St)(E':Z'→Exit×St)(x:X):cT:=.need (pre x) (.ite (c x) (.bN (E (sp x)).1 (E (sp x)).2) (.bN (E' (yR x)).1 (E' (yR x)).2))
theorem im{X Z:Type}{E:Z→Exit×St}{pre:X→Prop}{sp:X→Z}:∀ (x:X) (R:Exit→St→Prop),(gX pre sp E x).sat R→pre x∧R (E (sp x)).1 (E (sp x)).2:=fun _ _ h=>h
theorem qw{X Z Z':Type}{E:Z→Exit×St}{E':Z'→Exit×St}{pre:X→Prop}{c:X→Bool}{sp:X→Z}{yR:X→Z'}:∀ (x:X) (R:Exit→St→Prop),(oU pre c sp yR E E' x).sat R→
  pre x∧R (Sum.elim E E' (bif c x then .inl (sp x)else .inr (yR x))).1 (Sum.elim E E' (bif c x then .inl (sp x)else .inr (yR x))).2:=fun x R h=>⟨h.1,by
 cases hc:c x with
 |true=>exact h.2.1 hc
 |false=>exact h.2.2 hc⟩
def ua(n:List Wk)(id:Nat)(x r:List Wk):Exit→List Wk
 | .normal=>n
 | .exit i=>if i=id then x else n
 | .ret=>r
 |_=> []
def gE(n:Nat)(r:List LV):List LV:=List.replicate n .dT++r
def cb{X:Type}(c:cl bE X):cl (Option bE) X where
 rd x:=match x with
  |some x=>c.rd x
  |none=>none
 wr x:=some (c.wr x)
 ok:=by
  intro x v h;split at h
  ·rw[c.ok h]
  ·cases h
def fe{X:Type}(e:TypeId)(r:cl (List SV) X):cl bE X where
 rd x:=match x with
  | .cK cells e'=>if e'=e then r.rd cells else none
  |_=>none
 wr x:=.cK (r.wr x) e
 ok:=by
  intro x v h;split at h
  ·split at h
   ·rename_i e;subst e;rw[r.ok h]
   ·cases h
  ·cases h
def sFn(g:FuncId):cl SV Unit where
 rd x:=match x with
  | .gm (.func (.func f) ⟨[]⟩ ⟨[]⟩)=>if f=g then some ()else none
  |_=>none
 wr _:=.gm (.func (.func g) #[] #[])
 ok:=by
  intro s x h;split at h
  ·split at h
   ·rename_i e;subst e;rfl
   ·cases h
  ·cases h
end Go.Ev
namespace Go.Proofs.YtliehnnljilacaaGreat
open Go Go.Ev Go.Proofs.Tryz
set_option maxRecDepth 1000000
abbrev Pb:Type:=ah
abbrev azS:cl St Pb:=(dy (jk 3 (bR (bO (pk (0) (0))) (jk 6 (bD (bO (bX i64)) (bD (bO (bX i64)) (jk 7 bG)))))) (bD (dd (0) ae) bG)).jr (fun y=>(y.1.1,y.1.2.1,y.2.1)) (fun x=>((x.1,(x.2.1,())),(x.2.2,()))) (fun _=>rfl)
abbrev azT:List Wk:= [.fr (eH 19 [(3,.bV),(10,.bV),(11,.bV)]),.cu,.bS,.ck]
abbrev aMS:Exit→List Wk:=ua azT 0 [.fr (eH 19 [(3,.bV)]),.cu,.bS,.ck] [.fr (eH 19 [(2,.bV)]),.cu,.bS,.ck]
abbrev af4:Type:=ab
abbrev aMT(x:af4):Exit×St:=(Exit.exit 0,⟨(gE 3 (LV.one (VV.sc (SV.sl 0 0))::(gE 15 []))),[some (bE.own 0 ae x)]⟩)
def af5(m i:Int)(c:ab):Tr (Pb⊕(af4)):=.ite (decide (i<m)) (.need (0≤i∧i<(↑c.length:Int)) (.ret (.inl (m,i64.wrap (i+1),c.set i.toNat 255)))) (.ret (.inr c))
abbrev IA(m i:Int)(c:ab):Prop:=m=c.length∧0≤i∧i≤m∧c.length<1099511627776
abbrev af6(m i:Int)(c:ab):af4:=c.take i.toNat++List.replicate (c.length-i.toNat) 255
abbrev azU:Pb→cT:=gX (aC IA) (aC af6) aMT
theorem arB:aeV IA af5 af6:=by
 intro m i c h_;delta af6;obtain⟨rfl,h1,h2,h3⟩:=h_;obtain⟨k,rfl⟩:∃j:Nat,i=j:=⟨i.toNat,by omega⟩;obtain⟨j,hj⟩:∃j,c.length-k=j:=⟨_,rfl⟩;rw[Int.toNat_natCast,hj];induction j generalizing k c with
 |zero=>
  refine .stop ?_;have e1:decide ((k:Int)<c.length)=false:=decide_eq_false (by omega);simp only[af5,e1,dV,bH,List.replicate_zero,List.append_nil];rw[List.take_of_length_le (by omega)]
 |succ j ih=>
  have e1:decide ((k:Int)<c.length)=true:=decide_eq_true (by omega);have hl:(c.set k 255).length=c.length:=List.length_set;have w:=ih (c.set k 255) (by rw[hl];exact h3) (k+1) (by omega) (by rw[hl];omega) (by rw[hl];omega);rw[hl]at w;have e2:(c.set k 255).take (k+1)++List.replicate j 255=c.take k++List.replicate (j+1) 255:=by
   rw[List.take_add_one,List.take_set_of_le (Nat.le_refl _),List.getElem?_set_self (by omega),List.replicate_succ];simp
  rw[e2]at w;refine .go ?_ w;simp only[af5,e1,dH,bF,bH,Int.toNat_natCast];rw[bM (by omega) (by omega)];exact⟨by omega,rfl⟩
theorem af7(y_):∀x:Pb,Ex aA (bG.wr y_) (.loop (cG f38 0)) (azS.wr x) (azU x):=ee bJ bU (ws:=aMS) (cn.nil _) (fun _=>by kernel_rfl) (fun z e=>by cases e) im (aR @arB)
def sj(n:Int):Int:=if 0<if 65536<n then 65536 else n then if 65536<n then 65536 else n else 0
abbrev aXT(x:af4):LV:=aw (SV.sl 0 0)
abbrev aXU(x:af4):List ao:= [(0,bE.own 0 ae x)]
def aMU(n:Int):Tr af4:=(.need (sj n=sj n∧0≤sj n∧1*sj n≤70368744177664∧sj n≤70368744177664) (.need (IA (↑(List.replicate (sj n).toNat (0:Int)).length:Int) 0 (List.replicate (sj n).toNat (0:Int))) (.ret (List.take 0 (List.replicate (sj n).toNat (0:Int))++List.replicate ((List.replicate (sj n).toNat (0:Int)).length-0) (255:Int)))))
abbrev Dy(n:Int):Prop:=0≤n∧n≤65536
abbrev aEy(n:Int):af4:=List.replicate n.toNat 255
def aXV:bT:=cj [] inA bG (q0∘q1 Dy) (q0∘q1 aEy) aXT aXU
theorem aEz:abY Dy aMU aEy:=by
 intro n h_;delta aEy;obtain⟨h1,h2⟩:=h_;have e0:sj n=n:=by unfold sj;split<;>(try split)<;>omega
 simp only[aMU,bF,bH,e0];refine⟨⟨trivial,by omega,by omega,by omega⟩,⟨rfl,by omega,by omega,by rw[List.length_replicate];omega⟩,?_⟩;simp
theorem ay {tab:List (FuncId×bT)}(mc:∀p∈tab,p.2.Ok Tryz.prog p.1){f:FuncId}{fn:Func}(hf:Tryz.prog.funcs[f]? =some fn)(he:oT Tryz.prog f){tys:List (Option Ty)}{X Y Z:Type}{A:cl (List LV) X}{H:cl Hp Y}{ks:List Wk}{V:Z→LV}{D:Z→List (Nat×Ev.bE)}{T:X→Y→Tr Z}{pre:X→Y→Prop}{sp:X→Y→Z}(hI:∀x y,pre x y→(T x y).Is (sp x y))(hb:fn.body.isSome=true:=by kernel_rfl)(hT:∀x y,cY Tryz.prog tab [] fn (A.wr x) (H.wr y) ks=(T x y).end V D (H.wr y):=by intros;kernel_rfl):(cj tys A H pre sp V D).Ok Tryz.prog f:=
 bZ bJ mc hf hb he (LT:=fun _ _=>[]) (fun _ _=>cn.nil _) hT hI
theorem az {tab:List (FuncId×bT)}(mc:∀p∈tab,p.2.Ok Tryz.prog p.1){f:FuncId}{fn:Func}(hf:Tryz.prog.funcs[f]? =some fn)(he:oT Tryz.prog f){tys:List (Option Ty)}{X Y Z:Type}{A:cl (List LV) X}{H:cl Hp Y}{ks:List Wk}{V:Z→LV}{D:Z→List (Nat×Ev.bE)}{T:X→Y→Tr Z}{pre:X→Y→Prop}{sp:X→Y→Z}{W:Type}(C:cl St W)(K:List Wk)(F:W→cT){id:Nat}(hl:∀y x,Ex Tryz.prog (H.wr y) (.loop (cG fn id)) (C.wr x) (F x))(hI:∀x y,pre x y→(T x y).Is (sp x y))(hr:uS (k9 (fV fn) id)=true:=by kernel_rfl)(hb:fn.body.isSome=true:=by kernel_rfl)(hT:∀x y,cY Tryz.prog tab [(id,fN C (H.wr y) K F)] fn (A.wr x) (H.wr y) ks=(T x y).end V D (H.wr y):=by intros;kernel_rfl):(cj tys A H pre sp V D).Ok Tryz.prog f:=
 bZ bJ mc hf hb he (LT:=fun _ y=>[(id,fN C (H.wr y) K F)]) (fun _ y=>cn.dO (mI hr (dq (hl y)) mT)) hT hI
theorem SN:aXV.Ok aA 38:=az bU func38 call38 (ks:=eU) azS azT azU af7 (fun x_ _=>@aEz x_.1)
abbrev Pc:Type:=Int×Int×Int×Bool×Bool×Int×ab×ab
abbrev azV:cl St Pc:=(dy (jk 4 (bR (bO (cr (0) (0))) (jk 7 (bD (bO (bX i64)) (bD (bO (bX i64)) (jk 12 bG)))))) (bD (ob (90) ((bR (pk (1) (0)) (bR (pk (2) (0)) (bD (bX i64) (bD ou (bD ou (bD (bX i64) (bR aEr bG))))))))) (bD (dd (0) ae) (bD (dd (0) ag) bG)))).jr (fun y=>(y.1.1,y.1.2.1,y.2.1.1,y.2.1.2.1,y.2.1.2.2.1,y.2.1.2.2.2.1,y.2.2.1,y.2.2.2.1)) (fun x=>((x.1,(x.2.1,())),((x.2.2.1,(x.2.2.2.1,(x.2.2.2.2.1,(x.2.2.2.2.2.1,())))),(x.2.2.2.2.2.2.1,(x.2.2.2.2.2.2.2,()))))) (fun _=>rfl)
abbrev azW:List Wk:= [.fr (eH 26 [(4,.bV),(12,.bV),(13,.bV)]),.bS,.l9 0 0 u8,.fr (eH 26 [(4,.bV),(12,.bV),(13,.bV)]),.cu,.bS,.ck]
abbrev aMV:Exit→List Wk:=ua azW 0 [.fr (eH 26 [(4,.bV),(12,.bV),(13,.bV)]),.bS,.l9 0 0 u8,.fr (eH 26 [(4,.bV)]),.cu,.bS,.ck] [.fr (eH 26 [(4,.bV),(12,.bV),(13,.bV)]),.bS,.l9 0 0 u8,.fr (eH 26 [(2,.bV)]),.cu,.bS,.ck]
abbrev af8:Type:=Int×Bool×Bool×Int×ab×ab
abbrev aMW(x:af8):Exit×St:=(Exit.exit 0,⟨(gE 4 (LV.one (VV.sc (SV.ptr 0 0))::(gE 21 []))),[some (bE.cK [SV.sl 1 0,SV.sl 2 0,SV.int i64 (SI.sym x.1),SV.bool (SB.sym x.2.1),SV.bool (SB.sym x.2.2.1),SV.int i64 (SI.sym x.2.2.2.1),SV.gm (Value.slice none 0 0)] 90),some (bE.own 0 ae x.2.2.2.2.1),some (bE.own 0 ag x.2.2.2.2.2)]⟩)
def af9(n i st:Int)(off arm:Bool)(aft:Int)(b er:ab):Tr (Pc⊕(af8)):=.ite (decide (i<n)) (.need (Dy 1024) (.need ((b.length+1024)*1≤70368744177664∧b.length+1024≤70368744177664) (.ret (.inl (n,i64.wrap (i+1),st,off,arm,aft,b++List.replicate 1024 (255:Int),er))))) (.ret (.inr (st,off,arm,aft,b,er)))
abbrev IB(n i st:Int)(off arm:Bool)(aft:Int)(b er:ab):Prop:=0≤i∧i≤n∧n≤256∧b=List.replicate (1024*i).toNat 255
abbrev aga(n i st:Int)(off arm:Bool)(aft:Int)(b er:ab):af8:=(st,off,arm,aft,List.replicate (1024*n).toNat 255,er)
abbrev azX:Pc→cT:=gX (aH IB) (aH aga) aMW
theorem arE(n i st:Int)(off arm:Bool)(aft:Int)(b er:ab)(h_:IB n i st off arm aft b er):eG (fun x_:Pc=>af9 x_.1 x_.2.1 x_.2.2.1 x_.2.2.2.1 x_.2.2.2.2.1 x_.2.2.2.2.2.1 x_.2.2.2.2.2.2.1 x_.2.2.2.2.2.2.2) (n,i,st,off,arm,aft,b,er) (aga n i st off arm aft b er):=by
 delta aga;obtain⟨h1,h2,h3,rfl⟩:=h_;obtain⟨j,hj⟩:∃j:Nat,n-i=j:=⟨(n-i).toNat,by omega⟩;induction j generalizing i with
 |zero=>
  refine .stop ?_;have e1:decide (i<n)=false:=decide_eq_false (by omega);simp only[af9,e1,dV,bH];rw[show i=n by omega]
 |succ j ih=>
  have e1:decide (i<n)=true:=decide_eq_true (by omega);refine .go ?_ (ih (i+1) (by omega) (by omega) (by omega));simp only[af9,e1,dH,bF,bH];refine⟨⟨by decide,by decide⟩,by rw[List.length_replicate];omega,?_⟩;rw[bM (by omega) (by omega),show(1024*(i+1)).toNat=(1024*i).toNat+1024 by omega,← List.replicate_append_replicate]
theorem agb(y_):∀x:Pc,Ex aA (bG.wr y_) (.loop (cG f19 0)) (azV.wr x) (azX x):=ee bJ ((bI SN bU)) (ws:=aMV) (cn.nil _) (fun _=>by kernel_rfl) (fun z e=>by cases e) im (aW @arE)
def uw(n:Int):Int:=if 1<if 256<n then 256 else n then if 256<n then 256 else n else 1
abbrev arF:Type:=Int×Bool×Bool×Int×ab×ab×ab
abbrev aXW(x:arF):LV:=aw (SV.ptr 0 0)
abbrev aXX(x:arF):List ao:= [(0,bE.cK [SV.sl 1 0,SV.sl 2 0,ar x.1,au x.2.1,au x.2.2.1,ar x.2.2.2.1,SV.rd true false ae x.2.2.2.2.1] 90),(1,bE.own 0 ae x.2.2.2.2.2.1),(2,bE.own 0 ag x.2.2.2.2.2.2)]
def aMX(n:Int):Tr arF:=.need (uw n=uw n∧0≤uw n∧8*uw n≤70368744177664∧uw n≤70368744177664) (.need (IB (uw n) 0 0 false false 0 [] (List.replicate (uw n).toNat (0:Int))) (.ret (0,false,false,0,[],List.replicate (Int.toNat (1024*uw n)) (255:Int),List.replicate (uw n).toNat (0:Int))))
def Dz(n:Int):Int:=if 1<(if 256<n then 256 else n)then(if 256<n then 256 else n)else 1
abbrev IC(n:Int):Prop:=True
abbrev aEA(n:Int):arF:=(0,false,false,0,[],List.replicate (1024*Dz n).toNat 255,List.replicate (Dz n).toNat 0)
def aXY:bT:=cj [] inA bG (q0∘q1 IC) (q0∘q1 aEA) aXW aXX
theorem aEB:abY IC aMX aEA:=by
 intro n h_;delta aEA;have e0:uw n=Dz n:=rfl;have h:1≤Dz n∧Dz n≤256:=by unfold Dz;split<;>(try split)<;>omega
 simp only[aMX,bF,bH,e0];exact⟨⟨trivial,by omega,by omega,by omega⟩,⟨by omega,by omega,by omega,by simp⟩,trivial⟩
theorem aEC:aXY.Ok aA 19:=az bU func19 call19 (ks:= [.fr [.sym],.cu,.bS,.ck,.cK 0 [.bV,.bV,.sym,.sym,.sym,.sym,.rd true u8]]) azV azW azX agb (fun x_ _=>@aEB x_.1)
abbrev Fl:Type:=ai
abbrev cFl:cl (List SV) Fl:=(bR (pk 1 0) (bR (pk 2 0) (bD (bX .i64) (bD ou (bD ou (bD (bX .i64) (bD (gx true false u8) bG))))))).jr (fun x=>((x.1,x.2.2.2.2.1),x.2.1,x.2.2.1,x.2.2.2.1)) (fun y=>(y.1.1,y.2.1,y.2.2.1,y.2.2.2,y.1.2,())) (fun _=>rfl)
abbrev Pd:cl bE Fl:=fe 90 cFl
abbrev ow:cl Hp (Fl×ab×ab×Unit):=bD (cb Pd) (bD (dd 0 u8) (bD (dd 0 (.int .i64)) bG))
abbrev sk:Type:=Int
abbrev aED(x:sk):LV:=aw (ar x)
abbrev aEE(x:sk):List ao:= []
def aEF(f:ai)(b er:ab):Tr sk:=.ret ((↑b.length:Int))
abbrev sn(f:Fl)(b er:ab):Prop:=True
abbrev SO(f:Fl)(b er:ab):sk:=b.length
def aEG:bT:=cj [] ((bR (bO (cr 0 0)) bG)) ow (q3∘q0 sn) (q3∘q0 SO) aED aEE
theorem agc:ab6 sn aEF SO:=by
 intro f b er h_;delta SO;exact rfl
theorem wz:aEG.Ok aA 32:=ay bU func32 call32 (ks:=eU) (fun _=>br @agc)
def ID(f:ai)(b er:ab):Int:=(↑b.length:Int)
abbrev IE:Type:=Bool
abbrev aEH(x:IE):LV:=aw (au x)
abbrev aEI(x:IE):List ao:= []
def agd(at_ n:Int)(f:ai)(b er:ab):Tr IE:=.ite (decide (0≤at_)==true) (.ite (decide (0≤n)==true) (.ite (decide (at_≤ID f b er)==true) (.ret (decide (n≤i64.wrap (ID f b er-at_)))) (.ret false)) (.ret false)) (.ret false)
abbrev ny(at_ n:Int)(f:Fl)(b er:ab):Prop:=b.length<1099511627776
abbrev SP(at_ n:Int)(f:Fl)(b er:ab):IE:=decide (0≤at_∧0≤n∧at_+n≤b.length)
def aEJ:bT:=cj [] Du ow (q3∘q2 ny) (q3∘q2 SP) aEH aEI
theorem age:acf ny agd SP:=by
 intro at_ n f b er h_;delta SP;have h:b.length<1099511627776:=h_;have e0:ID f b er=b.length:=rfl;simp only[agd,e0,bY,bH,beq_iff_eq,decide_eq_true_eq,beq_eq_false_iff_ne,ne_eq];refine⟨fun h1=>⟨fun h2=>⟨fun h3=>?_,fun h3=>?_⟩,fun h2=>?_⟩,fun h1=>?_⟩
 ·rw[bM (by omega) (by omega)];exact decide_eq_decide.2 ⟨fun _=>by omega,fun _=>by omega⟩
 ·exact(decide_eq_false (by omega)).symm
 ·exact(decide_eq_false (by omega)).symm
 ·exact(decide_eq_false (by omega)).symm
theorem sr:aEJ.Ok aA 51:=ay bU func51 call51 (ks:=eU) (fun x_=>br (@age x_.1 x_.2.1))
def aM0(f:ai)(b er:ab):Tr IE:=.ret f.2.1
abbrev jN(f:Fl)(b er:ab):Prop:=True
abbrev agf(f:Fl)(b er:ab):IE:=f.2.1
def Xr:bT:=cj [] ((bR (bO (cr 0 0)) bG)) ow (q3∘q0 jN) (q3∘q0 agf) aEH aEI
theorem arG:ab6 jN aM0 agf:=by
 intro f b er h_;delta agf;exact rfl
theorem lM:Xr.Ok aA 23:=ay bU func23 call23 (ks:=eU) (fun _=>br @arG)
abbrev aEK(x:af4):LV:=aw (SV.rd true false ae x)
abbrev aEL(x:af4):List ao:= []
def agh(at_ n:Int)(f:ai)(b er:ab):Tr af4:=.need (ny at_ n f b er) (.ite (!decide (0≤at_∧0≤n∧at_+n≤(↑b.length:Int))) (.ret ([])) (.need (0≤at_∧at_≤i64.wrap (at_+n)∧i64.wrap (at_+n)≤(↑b.length:Int)) (.need ((List.take (i64.wrap (at_+n)-at_).toNat (List.drop at_.toNat b)).length≤ 70368744177664) (.ret (List.take (i64.wrap (at_+n)-at_).toNat (List.drop at_.toNat b))))))
abbrev uT(b:ab)(at_ n:Int):Prop:=0≤at_∧0≤n∧at_+n≤b.length
def cO(b:ab)(at_ n:Int):ab:=(b.drop at_.toNat).take n.toNat
def At(b:ab)(at_ n:Int):ab:=if uT b at_ n then cO b at_ n else []
theorem agi(b:ab){p m k:Int}(h1:0≤p)(h2:0≤m)(h3:0≤k):cO b p (m+k)=cO b p m++cO b (p+m) k:=by
 unfold cO;rw[show(m+k).toNat=m.toNat+k.toNat by omega,List.take_add,List.drop_drop,show(p+m).toNat=p.toNat+m.toNat by omega]
theorem gg{b:ab}{p m:Int}(h:uT b p m):(cO b p m).length=m:=by
 obtain⟨h1,h2,h3⟩:=h;unfold cO;rw[List.length_take,List.length_drop];omega
theorem wB{b:ab}(h:bL b)(p n:Int):bL (cO b p n):=(h.drop _).take _
theorem zg(b:ab)(p:Int){m:Int}(h:m≤0):cO b p m= []:=by
 unfold cO;rw[show m.toNat=0 by omega,List.take_zero]
abbrev pP(at_ n:Int)(f:Fl)(b er:ab):Prop:=b.length<1099511627776
abbrev SQ(at_ n:Int)(f:Fl)(b er:ab):af4:=At b at_ n
def IG:bT:=cj [] Du ow (q3∘q2 pP) (q3∘q2 SQ) aEK aEL
theorem agj:acf pP agh SQ:=by
 intro at_ n f b er h_;delta SQ;have h:b.length<1099511627776:=h_;simp only[agh,bF,cm,bH,decide_eq_true_eq,decide_eq_false_iff_not,At,uT,cO];refine⟨h,fun c=>?_,fun c=>?_⟩
 ·have w:i64.wrap (at_+n)=at_+n:=bM (by omega) (by omega);rw[w,if_pos c,show(at_+n-at_).toNat=n.toNat by omega];exact⟨by omega,by rw[List.length_take,List.length_drop];omega,rfl⟩
 ·rw[if_neg c]
theorem wC:IG.Ok aA 29:=ay (bI sr (bI jA bU)) func29 call29 (ks:= [.pN,.fr [.rd true u8],.fr [.sym],.cu,.bS,.ck]) (fun x_=>br (@agj x_.1 x_.2.1))
def Xs(f:ai):(Int×ab)×Bool×Bool×Int:=f
abbrev IH:Type:=ab×Int
abbrev aEM(x:IH):LV:=LV.dB [VV.sc (SV.rd true false ae x.1),VV.sc (ar x.2)]
abbrev aEN(x:IH):List ao:= []
def agk(at_ n:Int)(f:ai)(b er:ab):Tr IH:=.ite f.2.1 (.ret ([],5)) (.need (ny at_ n (Xs f) b er) (.ite (!decide (0≤at_∧0≤n∧at_+n≤(↑b.length:Int))) (.ret ([],2)) (.need (pP at_ n (Xs f) b er) (.ret (At b at_ n,0)))))
abbrev DA(at_ n:Int)(f:Fl)(b er:ab):Prop:=b.length<1099511627776
abbrev SR(at_ n:Int)(f:Fl)(b er:ab):IH:=if f.2.1=true then([],5)else if uT b at_ n then(cO b at_ n,0)else([],2)
def aEO:bT:=cj [] Du ow (q3∘q2 DA) (q3∘q2 SR) aEM aEN
theorem agl:acf DA agk SR:=by
 intro at_ n f b er h_;delta SR;have h:b.length<1099511627776:=h_;unfold agk;rw[bY];simp only[bF,cm,bH,decide_eq_true_eq,decide_eq_false_iff_not,At,uT];refine⟨fun c0=>by rw[if_pos c0],fun c0=>⟨h,fun c=>⟨h,?_⟩,fun c=>?_⟩⟩
 ·rw[if_pos c,if_pos c,if_neg (by rw[c0];decide)]
 ·rw[if_neg c,if_neg (by rw[c0];decide)]
theorem agm:aEO.Ok aA 94:=ay (bI sr (bI wC bU)) func94 call94 (ks:= [.pN,.fr [.rd true u8],.fr [.sym],.cu,.bS,.ck]) (fun x_=>br (@agl x_.1 x_.2.1))
def II(at_:Int)(x:ab):Int:=(↑x.length:Int)
abbrev Pe:Type:=Int×ab
abbrev azY(x:Pe):LV:=aw (ar x.1)
abbrev azZ(x:Pe):List ao:= [(1,bE.own 0 ae x.2)]
def az0(at_:Int)(x:ab)(f:ai)(b er:ab):Tr Pe:=.need (ny at_ (II at_ x) f b er) (.ite (!decide (0≤at_∧0≤II at_ x∧at_+II at_ x≤(↑b.length:Int))) (.ret (2,b)) (.need (0≤ at_∧at_≤(↑b.length:Int)∧(↑b.length:Int)≤(↑b.length:Int)) (.ret (0,cP b at_.toNat ((↑b.length:Int)-at_).toNat x))))
def rH(b:ab)(at_:Int)(x:ab):ab:=b.take at_.toNat++(x++b.drop (at_.toNat+x.length))
abbrev tu(at_:Int)(x:ab)(f:Fl)(b er:ab):Prop:=b.length<1099511627776∧x.length<1099511627776
abbrev agn(at_:Int)(x:ab)(f:Fl)(b er:ab):Pe:=if uT b at_ x.length then(0,rH b at_ x)else(2,b)
def aM1:bT:=cj [none,none,some u8] ((bR (bO (cr 0 0)) (bD (bO (bX .i64)) (bD (bO (gx false false u8)) bG)))) ow (q3∘q2 tu) (q3∘q2 agn) azY azZ
theorem arH:acf tu az0 agn:=by
 intro at_ x f b er h_;delta agn;obtain⟨h1,h2⟩:=h_;have e0:II at_ x=x.length:=rfl;simp only[az0,bF,cm,bH,e0,decide_eq_true_eq,decide_eq_false_iff_not,uT];refine⟨h1,fun c=>⟨by omega,?_⟩,fun c=>?_⟩
 ·rw[if_pos c];unfold cP rH;rw[List.take_of_length_le (l:=x) (by omega),Nat.min_eq_right (by omega)]
 ·rw[if_neg c]
theorem arI:aM1.Ok aA 40:=ay (bI sr bU) func40 call40 (ks:=eU) (fun x_=>br (@arH x_.1 x_.2.1))
abbrev cRg:cl (List SV) (Int×Int):=(bR (cr 0 0) (bD (bX .i64) (bD (bX .i64) bG))).jr (fun x=>(x.1,x.2.1)) (fun y=>(y.1,y.2,())) (fun _=>rfl)
def Xt(first count n:Int):Tr IE:=.ite (decide (1≤count)==true) (.ite (decide (0≤first)==true) (.ite (decide (first≤n)==true) (.ret (decide (count≤i64.wrap (n-first)))) (.ret false)) (.ret false)) (.ret false)
abbrev tv(first count n:Int):Prop:=0≤n∧n<1099511627776
abbrev IJ(first count n:Int):IE:=decide (1≤count∧0≤first∧first+count≤n)
def arL:bT:=cj [] ((bD (bO (bX .i64)) (bD (bO (bX .i64)) (bD (bO (bX .i64)) bG)))) bG (q0∘q3 tv) (q0∘q3 IJ) aEH aEI
theorem acp:ab6 tv Xt IJ:=by
 intro first count n h_;delta IJ;obtain⟨h1,h2⟩:=h_;simp only[Xt,bF,cv,cA,cD,cz,bW,b9,cC,cy,cx,cZ,cQ,cd,cm,bH];try simp only[bY,bF,cv,cA,cD,cz,bW,b9,cC,cy,cx,cZ,cQ,cd,cm,bH]
 grind [bM]
theorem GY:arL.Ok aA 89:=ay bU func89 call89 (ks:=eU) (fun x_ _=>@acp x_.1 x_.2.1 x_.2.2.1)
abbrev dE(b er:ab):Prop:=b.length=1024*er.length∧1≤er.length∧er.length≤256
abbrev iO(r:Int×Int)(er:ab):Prop:=0≤r.1∧1≤r.2∧r.1+r.2≤er.length
abbrev IK:Type:=Unit
abbrev aEP(x:IK):LV:=LV.dB [VV.agg [SV.gm (Value.pointer none),SV.int i64 (SI.lit 0),SV.int i64 (SI.lit 0)],VV.sc (SV.int i64 (SI.lit 1))]
abbrev aEQ(x:IK):List ao:= []
abbrev IL:Type:=Int×Int
abbrev aER(x:IL):LV:=LV.dB [VV.agg [SV.ptr 0 0,ar x.1,ar x.2],VV.sc (SV.int i64 (SI.lit 0))]
abbrev aES(x:IL):List ao:= []
def ago(first count:Int)(f:ai)(b er:ab):Tr (IK⊕IL):=.need (sn f b er) (.need (tv first count (i64.wrap (Int.tdiv (↑b.length:sk) 1024))) (.ite (!decide (1≤count∧0≤first∧first+count≤i64.wrap (Int.tdiv (↑b.length:sk) 1024))) (.ret (.inl ())) (.ret (.inr (first,count)))))
abbrev lN(first count:Int)(f:Fl)(b er:ab):Prop:=dE b er
abbrev Xu(first count:Int)(f:Fl)(b er:ab):Bool:= !decide (1≤count∧0≤first∧first+count≤er.length)
abbrev agp(first count:Int)(f:Fl)(b er:ab):IK:=()
abbrev agq(first count:Int)(f:Fl)(b er:ab):IL:=(first,count)
def aM2:bT:=Dw [] Du ow (q3∘q2 lN) (q3∘q2 Xu) (q3∘q2 agp) (q3∘q2 agq) aEP aEQ aER aES
theorem arM(first count:Int)(f:Fl)(b er:ab)(h_:lN first count f b er):(Xu first count f b er=true→(ago first count f b er).Is (.inl (agp first count f b er)))∧(Xu first count f b er=false→(ago first count f b er).Is (.inr (agq first count f b er))):=by
 delta Xu agp agq;obtain⟨h1,h2,h3⟩:=h_;have w:i64.wrap (Int.tdiv (b.length:Int) 1024)=er.length:=by rw[Int.tdiv_eq_ediv_of_nonneg (by omega),bM (by omega) (by omega)];omega
 simp only[ago,bF,cv,cA,cD,cz,bW,b9,cC,cy,cx,cZ,cQ,cd,cm,bH];try simp only[bY,bF,cv,cA,cD,cz,bW,b9,cC,cy,cx,cZ,cQ,cd,cm,bH]
 grind [bM]
theorem IM:aM2.Ok aA 59:=Iy bJ ((bI wz (bI GY bU))) func59 (by kernel_rfl) call59 (ks:= [.bS,.ck]) (fun _ _=>cn.nil _) (fun _ _=>by kernel_rfl) fun x_=>br (@arM x_.1 x_.2.1)
abbrev rgA:cl (List LV) ((Int×Int)×Unit):=bD (jf cRg) bG
def Xv(r:Int×Int)(f:ai)(b er:ab):Tr sk:=.ret (i64.wrap (r.2*1024))
def Xw(r:Int×Int)(f:ai)(b er:ab):Tr sk:=.ret (i64.wrap (r.1*1024))
abbrev ga(r:Int×Int)(f:Fl)(b er:ab):Prop:=0≤r.2∧r.2≤256
abbrev IN(r:Int×Int)(f:Fl)(b er:ab):sk:=1024*r.2
def arR:bT:=cj [] rgA ow (q3∘q1 ga) (q3∘q1 IN) aED aEE
theorem acq:acb ga Xv IN:=by
 intro r f b er h_;delta IN;obtain⟨h1,h2⟩:=h_;simp only[Xv,bH];rw[bM (by omega) (by omega),Int.mul_comm]
theorem kg:arR.Ok aA 130:=ay bU func130 call130 (ks:=eU) (fun x_=>br (@acq x_.1))
abbrev tw(r:Int×Int)(f:Fl)(b er:ab):Prop:=0≤r.1∧r.1≤256
abbrev IP(r:Int×Int)(f:Fl)(b er:ab):sk:=1024*r.1
def arS:bT:=cj [] rgA ow (q3∘q1 tw) (q3∘q1 IP) aED aEE
theorem acr:acb tw Xw IP:=by
 intro r f b er h_;delta IP;obtain⟨h1,h2⟩:=h_;simp only[Xw,bH];rw[bM (by omega) (by omega),Int.mul_comm]
theorem GZ:arS.Ok aA 95:=ay bU func95 call95 (ks:=eU) (fun x_=>br (@acr x_.1))
abbrev aM3:cl (List LV) ((Int×Int)×Int×Int×Unit):=bD (jf cRg) (bD (bO (bX .i64)) (bD (bO (bX .i64)) bG))
abbrev inR(r:Int×Int)(at_ n:Int):Prop:=0≤at_∧0≤n∧at_+n≤1024*r.2
def A0(f:ai):(Int×ab)×Bool×Bool×Int:=f
def agr(r:Int×Int)(at_ n:Int)(f:ai)(b er:ab):Tr sk:=.need (jN (A0 f) b er) (.ite f.2.1 (.ret (5)) (.ite (decide (at_<0)==false) (.ite (decide (n<0)==false) (.need (ga r (A0 f) b er) (.ite (decide (1024*r.2<at_)==false) (.need (ga r (A0 f) b er) (.ite (decide (i64.wrap (1024*r.2-at_)<n)==false) (.ret (0)) (.ret (2)))) (.ret (2)))) (.ret (2))) (.ret (2))))
abbrev wD(r:Int×Int)(at_ n:Int)(f:Fl)(b er:ab):Prop:=0≤r.2∧r.2≤256
abbrev SS(r:Int×Int)(at_ n:Int)(f:Fl)(b er:ab):sk:=if f.2.1=true then 5 else if inR r at_ n then 0 else 2
def aEV:bT:=cj [] aM3 ow (q3∘q3 wD) (q3∘q3 SS) aED aEE
theorem ags:ac1 wD agr SS:=by
 intro r at_ n f b er h_;delta SS;obtain⟨h1,h2⟩:=h_;simp only[agr,A0,bF,cv,cA,cD,cz,bW,b9,cC,cy,cx,cZ,cQ,cd,cm,bH];try simp only[bY,bF,cv,cA,cD,cz,bW,b9,cC,cy,cx,cZ,cQ,cd,cm,bH]
 grind [bM]
theorem Pf:aEV.Ok aA 93:=ay (bI lM (bI kg bU)) func93 call93 (ks:=eU) (fun x_=>br (@ags x_.1 x_.2.1 x_.2.2.1))
def wE(f:ai):(Int×ab)×Bool×Bool×Int:=f
def DB(r:Int×Int)(at_ n:Int)(f:ai)(b er:ab):Int:=if f.2.1=true then 5 else if 0≤at_∧0≤n∧at_+n≤1024*r.2 then 0 else 2
def DC(r:Int×Int)(at_ n:Int)(f:ai)(b er:ab):ab×Int:=if f.2.1=true then([],5)else if 0≤i64.wrap (1024*r.1+at_)∧0≤n∧i64.wrap (1024*r.1+at_)+n≤ (↑b.length:Int)then(cO b (i64.wrap (1024*r.1+at_)) n,0)else([],2)
def Xx(r:Int×Int)(at_ n:Int)(f:ai)(b er:ab):Tr IH:=.need (wD r at_ n (wE f) b er) (.ite (DB r at_ n f b er !=0) (.ret ([],DB r at_ n f b er)) (.need (tw r (wE f) b er) (.need (DA (i64.wrap (1024*r.1+at_)) n (wE f) b er) (.ret ((DC r at_ n f b er).1,(DC r at_ n f b er).2)))))
abbrev fO(r:Int×Int)(at_ n:Int)(f:Fl)(b er:ab):Prop:=dE b er∧iO r er
abbrev IT(r:Int×Int)(at_ n:Int)(f:Fl)(b er:ab):IH:=if f.2.1=true then([],5)else if inR r at_ n then(cO b (1024*r.1+at_) n,0)else([],2)
def arV:bT:=cj [] aM3 ow (q3∘q3 fO) (q3∘q3 IT) aEM aEN
theorem acs:ac1 fO Xx IT:=by
 intro r at_ n f b er h_;delta IT;obtain⟨⟨h1,h2,h3⟩,h4,h5,h6⟩:=h_;simp only[Xx,wE,DB,DC,bF,cv,cA,cD,cz,bW,b9,cC,cy,cx,cZ,cQ,cd,cm,bH];try simp only[bY,bF,cv,cA,cD,cz,bW,b9,cC,cy,cx,cZ,cQ,cd,cm,bH]
 grind [bM]
theorem lE:arV.Ok aA 62:=ay (bI Pf (bI GZ (bI agm bU))) func62 call62 (ks:= [.pN,.fr [.rd true u8],.fr [.sym],.cu,.bS,.ck]) (fun x_=>br (@acs x_.1 x_.2.1 x_.2.2.1))
abbrev cCf:cl (List SV) (aj):=(bD (gx false false (.arr u8 32)) (bD (bX .i64) bG)).jr (fun x=>(x.1,x.2.1)) (fun y=>(y.1,y.2,())) (fun _=>rfl)
abbrev cfA:cl (List LV) (aj×Unit):=bD (jf cCf) bG
abbrev agt:cl (List LV) (aj×Unit):=bR (bO (cr 0 0)) (bD (jf cCf) bG)
abbrev az1:cl (List LV) (aj×Int×Unit):=bR (bO (cr 0 0)) (bD (jf cCf) (bD (bO (bX .i64)) bG))
abbrev gy(c:aj):Prop:=1≤c.1.length∧c.1.length≤8∧3≤c.2∧c.2≤100
def cR(c:aj):Int:=if gy c then 1024*(c.2-2)else 0
abbrev kD(c:aj)(er:ab):Prop:=gy c∧2+2*c.2≤er.length
def DD(c:aj):Int:=(↑c.1.length:Int)
def Xy(c:aj):Tr IE:=.ite (decide (1≤DD c)==true) (.ite (decide (DD c≤8)==true) (.ite (decide (3≤c.2)==true) (.ret (decide (c.2≤100))) (.ret false)) (.ret false)) (.ret false)
abbrev nd(c:aj):Prop:=True
abbrev IU(c:aj):IE:=decide (gy c)
def arZ:bT:=cj [some (.arr u8 32)] cfA bG (q0∘q1 nd) (q0∘q1 IU) aEH aEI
theorem acu:abY nd Xy IU:=by
 intro c h_;delta IU;simp only[Xy,DD,bF,cv,cA,cD,cz,bW,b9,cC,cy,cx,cZ,cQ,cd,cm,bH];try simp only[bY,bF,cv,cA,cD,cz,bW,b9,cC,cy,cx,cZ,cQ,cd,cm,bH]
 grind [bM]
theorem zh:arZ.Ok aA 17:=ay bU func17 call17 (ks:=eU) (fun x_ _=>@acu x_.1)
def agu(c:aj):Tr sk:=.need (nd c) (.ite (!decide (1≤c.1.length∧c.1.length≤8∧3≤ c.2∧c.2≤100)) (.ret (0)) (.ret (i64.wrap (i64.wrap (c.2-2)*1024))))
abbrev pQ(c:aj):Prop:=True
abbrev SU(c:aj):sk:=cR c
def IW:bT:=cj [some (.arr u8 32)] cfA bG (q0∘q1 pQ) (q0∘q1 SU) aED aEE
theorem agv:abY pQ agu SU:=by
 intro c h_;delta SU;simp only[agu,cR,bF,cv,cA,cD,cz,bW,b9,cC,cy,cx,cZ,cQ,cd,cm,bH];try simp only[bY,bF,cv,cA,cD,cz,bW,b9,cC,cy,cx,cZ,cQ,cd,cm,bH]
 grind [bM]
theorem wF:IW.Ok aA 31:=ay (bI zh bU) func31 call31 (ks:=eU) (fun x_ _=>@agv x_.1)
def agw(c:aj)(f:ai)(b er:ab):Tr IE:=.need (nd c) (.ite (decide (1≤c.1.length∧c.1.length≤8∧3≤c.2∧c.2≤100)==true) (.need (sn f b er) (.ret (decide (i64.wrap (2+i64.wrap (2*c.2))≤i64.wrap (Int.tdiv (↑b.length:sk) 1024))))) (.ret false))
abbrev su(c:aj)(f:Fl)(b er:ab):Prop:=dE b er
abbrev SW(c:aj)(f:Fl)(b er:ab):IE:=decide (kD c er)
def aE0:bT:=cj [none,some (.arr u8 32)] agt ow (q3∘q1 su) (q3∘q1 SW) aEH aEI
theorem agx:acb su agw SW:=by
 intro c f b er h_;delta SW;obtain⟨h1,h2,h3⟩:=h_;simp only[agw,bF,cv,cA,cD,cz,bW,b9,cC,cy,cx,cZ,cQ,cd,cm,bH];try simp only[bY,bF,cv,cA,cD,cz,bW,b9,cC,cy,cx,cZ,cQ,cd,cm,bH]
 grind [bM]
theorem Pg:aE0.Ok aA 58:=ay (bI zh (bI wz bU)) func58 call58 (ks:=eU) (fun x_=>br (@agx x_.1))
def tx(f:ai):(Int×ab)×Bool×Bool×Int:=f
def DE(c:aj)(bK:Int)(f:ai)(b er:ab):Tr (IK⊕IL):=.need (su c (tx f) b er) (.ite ((!decide ((1≤c.1.length∧c.1.length≤8∧3≤c.2∧c.2≤100)∧(2:Int)+2*c.2≤(↑er.length:Int)))==false) (.ite (decide (bK<0)==false) (.ite (decide (2≤bK)) (.ret (.inl ())) (.ite (!decide (1≤ c.2∧0≤i64.wrap (2+i64.wrap (bK*c.2))∧i64.wrap (2+i64.wrap (bK*c.2))+c.2≤(↑er.length:Int))) (.need (lN (i64.wrap (2+i64.wrap (bK*c.2))) c.2 (tx f) b er) (.ret (.inl ()))) (.need (lN (i64.wrap (2+i64.wrap (bK*c.2))) c.2 (tx f) b er) (.ret (.inr (i64.wrap (2+i64.wrap (bK*c.2)),c.2)))))) (.ret (.inl ()))) (.ret (.inl ())))
abbrev nz(c:aj)(bK:Int)(f:Fl)(b er:ab):Prop:=dE b er
abbrev IY(c:aj)(bK:Int)(f:Fl)(b er:ab):Bool:= !decide (kD c er∧0≤bK∧bK<2)
abbrev SX(c:aj)(bK:Int)(f:Fl)(b er:ab):IK:=()
abbrev IZ(c:aj)(bK:Int)(f:Fl)(b er:ab):IL:=(2+bK*c.2,c.2)
def aE1:bT:=Dw [none,some (.arr u8 32),none] az1 ow (q3∘q2 nz) (q3∘q2 IY) (q3∘q2 SX) (q3∘q2 IZ) aEP aEQ aER aES
theorem agy(c:aj)(bK:Int)(f:Fl)(b er:ab)(h_:nz c bK f b er):(IY c bK f b er=true→(DE c bK f b er).Is (.inl (SX c bK f b er)))∧(IY c bK f b er=false→(DE c bK f b er).Is (.inr (IZ c bK f b er))):=by
 delta IY SX IZ;obtain⟨h1,h2,h3⟩:=h_;by_cases s0:bK=0
 ·subst s0;simp only[DE,tx,bF,cv,cA,cD,cz,bW,b9,cC,cy,cx,cZ,cQ,cd,cm,bH];try simp only[bY,bF,cv,cA,cD,cz,bW,b9,cC,cy,cx,cZ,cQ,cd,cm,bH]
  grind [bM]
 ·by_cases s1:bK=1
  ·subst s1;simp only[DE,tx,bF,cv,cA,cD,cz,bW,b9,cC,cy,cx,cZ,cQ,cd,cm,bH];try simp only[bY,bF,cv,cA,cD,cz,bW,b9,cC,cy,cx,cZ,cQ,cd,cm,bH]
   grind [bM]
  ·have hq:¬ (kD c er∧0≤bK∧bK<2):=(by omega);rw[decide_eq_false hq];refine⟨fun _=>?_,fun h=>by cases h⟩;clear hq;simp only[DE,tx,bF,cv,cA,cD,cz,bW,b9,cC,cy,cx,cZ,cQ,cd,cm,bH];try simp only[bY,bF,cv,cA,cD,cz,bW,b9,cC,cy,cx,cZ,cQ,cd,cm,bH]
   grind [bM]
theorem DF:aE1.Ok aA 61:=Iy bJ ((bI Pg (bI IM bU))) func61 (by kernel_rfl) call61 (ks:= [.bS,.ck]) (fun _ _=>cn.nil _) (fun _ _=>by kernel_rfl) fun x_=>br (@agy x_.1 x_.2.1)
end Go.Proofs.YtliehnnljilacaaGreat
namespace Go.Proofs.YtliehnnljilacaaGreat
open Go Go.Ev Go.ChangeShapes Go.WideShapes Go.ChangeAt Go.RowKit Go.Proofs.Tryz
set_option maxRecDepth 100000
end Go.Proofs.YtliehnnljilacaaGreat
namespace Go.Proofs.YtliehnnljilacaaGreat
open Go Go.Ev Go.Proofs.Tryz
set_option maxRecDepth 100000
abbrev kyA:cl (List LV) (List ab×Unit):=bD (bO (gx false false (.arr u8 32))) bG
def aM4:bT:=bT.fw [some (.arr u8 32)] kyA bG fun x _=>.bN (some (x.1.length≤1000000)) (.one (.sc (.rd true false (.arr u8 32) x.1))) []
theorem SY:cY aA [] [] f18 [.one (.sc (.gm (.slice none 0 0)))] [] [.Dp 0 (.arr u8 32),.bS]=End.bN (LV.one (VV.sc (SV.rd true false (ae.arr 32) []))) []:=by kernel_rfl
theorem SZ(l:List ab):cY aA [] [] f18 [.one (.sc (.rd false true (.arr u8 32) l))] [] [.Dp 0 (.arr u8 32),.bS]=End.need ((0+l.length)*32≤70368744177664∧0+l.length≤70368744177664) (End.bN (LV.one (VV.sc (SV.rd true false (ae.arr 32) ([]++l)))) []):=by kernel_rfl
theorem XB:aM4.Ok aA 18:=by
 refine(bT.df call18 fun x y Q h=>?_).sym;obtain⟨l,_⟩:=x;obtain⟨hl,hq⟩:=h;have hl:l.length≤1000000:=hl;refine il.Ix (x:= []) (y:= []) (fun e=>?_) ?_
 ·subst e;refine(cg bJ bU func18 rfl (LT:= []) (ks:= [.Dp 0 (.arr u8 32),.bS]) (cn.nil _)).use (D:= []) ?_ hq;show(cY _ _ _ _ [.one (.sc (.gm (.slice none 0 0)))] [] _).sat _;rw[SY];exact⟨rfl,rfl⟩
 ·refine(cg bJ bU func18 rfl (LT:= []) (ks:= [.Dp 0 (.arr u8 32),.bS]) (cn.nil _)).use (D:= []) ?_ hq;show(cY _ _ _ _ [.one (.sc (.rd false true (.arr u8 32) l))] [] _).sat _;rw[SZ];exact⟨⟨by omega,by omega⟩,rfl,rfl⟩
end Go.Proofs.YtliehnnljilacaaGreat
namespace Go.Proofs.YtliehnnljilacaaGreat
open Go Go.Ev Go.Lib Go.RowKit Go.Proofs.Tryz
set_option maxHeartbeats 4000000
theorem acv(w:World):Calls aA 142 #[.slice none 0 0,.int .i64 0] w fun e w'=>e= .returned (.slice none 0 0)∧w'=w:=by
 go_enter func142,ntmps142
 go_wp2
 go_ret
 exact⟨rfl,rfl⟩
theorem acw(n:Nat)(w:World)(h0:0<n)(h1:n≤140737488355328):Calls aA 142 #[.slice none 0 0,.int .i64 n] w fun e w'=>e= .returned (.slice (some ⟨w.heap.size,0,none⟩) 0 (grownCap w n 0 5))∧w'=w.drew.alloc (.cells (#[]++Builtin.zeroCells (Value.int .u8 0).cells n++Builtin.zeroCells (Value.int .u8 0).cells (grownCap w n 0 5-n)) 5):=by
 have h2:¬ ((n:Int)<0):=by omega
 have h3:wrap64 ((0:Int)-(0:Int))=0:=by unfold wrap64;omega
 have h4:wrap64 ((n:Int)-0)=(n:Int):=by unfold wrap64;omega
 have h5:(n:Int)>0:=by omega
 have a3f:grownCap w n 0 5≤9223372036854775807:=by
  have:=grownCap_le_maxLen w n 0 5 (by unfold maxLen;omega);unfold maxLen at this;omega
 have hrz:∀ty,(Builtin.append_ #[41,3] ty #[.slice none 0 0,.int .i64 n]).run aA w=
   .ok (.slice (some ⟨w.heap.size,0,none⟩) n (grownCap w n 0 5)) (w.drew.alloc (.cells (#[]++Builtin.zeroCells (Value.int .u8 0).cells n++Builtin.zeroCells (Value.int .u8 0).cells (grownCap w n 0 5-n)) 5)):=fun ty=>by
  have hi0:(Tryz.prog.info? 5).map (fun i=>(i.zero,i.size,i.bytes))=some (some (.int .u8 0),1,1):=by kernel_rfl
  obtain⟨i,hi,he⟩:=map_some hi0;have e1:i.zero=some (.int .u8 0):=congrArg Prod.fst he;have e2:i.size=1:=congrArg (fun x=>x.2.1) he;have e3:i.bytes=1:=congrArg (fun x=>x.2.2) he;have hb:n*i.bytes≤140737488355328:=by rw[e3];omega
  have h:=Lib.run_append_grow_zeros (P:=aA) w 41 3 ty 5 i (.int .u8 0) .i64 .i64 (by kernel_rfl) (by kernel_rfl) hi e1 none 0 0 [] (run_firstCells_none w.drew i.size 0 0 0) n h0 (by omega) (by omega) (by omega) (by omega)
   (growslice_fits (need:=0+n) (old:=0) (by omega) (by rw[Nat.zero_add];exact hb))
  rw[Nat.zero_add]at h;exact h
 have hGn:n≤grownCap w n 0 5:=grownCap_ge w _ _ _;generalize grownCap w n 0 5=G at*
 go_enter func142,ntmps142
 go_wp2_with (at_builtin;refine Lib.wpList_append_run _ rfl _ _ _ _ rfl _ _ rfl rfl _ _ (hrz _) ?_)
 all_goals (go_ret;exact⟨rfl,rfl⟩)
def agz:bT:=⟨[],fun args hp=>match args,hp with
 | [.one (.sc (.gm (.slice none 0 0))),.one (.sc (.int .i64 n))],[]=>.bN (some (0≤n.val∧n.val≤140737488355328)) (.one (.sc (.sl 0 0))) [(0,.own 0 (.int .u8) [])]
 |_,_=>.fail⟩
theorem ar2:agz.Ok aA 142:=by
 refine⟨fun args hp Q h=>il.done call142 ?_⟩;simp only[agz]at h;split at h
 ·rename_i args hp n;obtain⟨⟨h0,h1⟩,hq⟩:=h;intro β w vals hh dt;cases dt with
  |cons a1 t1=>
   cases t1 with
   |cons a2 t2=>
    cases t2;rename_i v1 v2;obtain rfl:v1= .slice none 0 0:=a1.2;have e:v2= .int .i64 n.val:=a2;subst e;rcases Int.lt_or_le 0 n.val with hn|hn
    ·obtain⟨k,hk⟩:∃k:Nat,n.val=k:=⟨n.val.toNat,by omega⟩;rw[hk]at h0 h1 hn ⊢;refine(acw k w (by omega) (by omega)).mono ?_;rintro e w' ⟨rfl,rfl⟩;have hGn:k≤grownCap w k 0 5:=grownCap_ge w _ _ _;generalize grownCap w k 0 5=G at*;generalize hcs:(#[]++Builtin.zeroCells (Value.int .u8 0).cells k++Builtin.zeroCells (Value.int .u8 0).cells (G-k))=cs;have hlen:cs.toList.length=G:=by
      rw[← hcs];simp[Builtin.zeroCells,Value.cells];omega
     have hdr:cN w [] β β [] w.drew:=hh.drew _ _
     obtain⟨β',k1,k2,k3⟩:=hdr.rZ (id:=0) rfl (v:=.slice (some ⟨w.heap.size,0,none⟩) 0 G) (ver:=0) (t:=.int .u8) (l:= []) (w':=w.drew.alloc (.cells cs 5)) (by simp) rfl rfl (fun b hb=>heap_alloc_old w.drew _ hb)
      ⟨_,_,_,rfl,rfl,Nat.zero_le _,fun e=>(by cases e),fun _=>⟨_,[],[],cs.toList,5,(0,0),rfl,rfl,by simpa using heap_alloc_new w.drew (.cells cs 5),rfl,.nil,by simp[Ty.w,hlen],.inl rfl⟩⟩
      (fun a n c e _=>by cases e;exact Nat.le_refl _)
     exact⟨_,β',_,_,rfl,⟨_,hq,rfl⟩,⟨rfl,0,by rw[show cq _ []=cL [] 0 _ from rfl,fB,if_pos rfl];rfl,Nat.le_refl _,fun _=>k3.symm⟩,k1⟩
    ·have AU:n.val=0:=(by omega);rw[AU];refine(acv w).mono ?_;rintro e w' ⟨rfl,rfl⟩;obtain⟨β',k1,k2,k3⟩:=hh.Sx (.int .u8);exact⟨_,β',_,_,rfl,⟨_,hq,rfl⟩,k3,k1⟩
 ·exact h.elim
end Go.Proofs.YtliehnnljilacaaGreat
namespace Go.Proofs.YtliehnnljilacaaGreat
open Go Go.Ev Go.Proofs.Tryz
set_option maxRecDepth 100000
noncomputable section
abbrev Ph:Func:=f101
abbrev Pj:cl (List LV) (List ab×Int×List ab×Int×Int×Unit):=bD (bO (gx false false (.sl u8))) (jk 2 (bD (bO (bX .i64)) (jk 5 (bD (bO (gx false false (.sl u8))) (bD (bO (bX .i64)) (bD (bO (bX .i64)) (jk 24 bG)))))))
abbrev az2:List Wk:= [.fr (eH 36 [(0,.bV),(3,.sym),(9,.bV),(10,.sym),(11,.sym)])]
abbrev agA:cl (List LV) (List ab×Int×Unit):=bD (bO (gx false false (.sl u8))) (jk 2 (bD (bO (bX .i64)) (jk 32 bG)))
abbrev aM5:List Wk:= [.fr (eH 36 [(0,.bV),(3,.sym)])]
theorem agB(l0 ls:List ab)(s n i:Int):ma aA [] [] Ph 0 [] (wsE az2 0 aM5) ((dy Pj bG).wr ((l0,s,ls,n,i,()),()))=.ite (decide (i<n)) (.need (0≤i∧i<ls.length) (.ite (decide (i64.wrap (s+(ls.getD i.toNat []).length)<0)) .fail (.bN .normal ((dy Pj bG).wr ((l0,i64.wrap (s+(ls.getD i.toNat []).length),ls,n,i64.wrap (i+1),()),()))))) (.bN (.exit 0) ((dy agA bG).wr ((l0,s,()),()))):=by kernel_rfl
theorem G0(ls:List ab)(i:Nat)(h:i<ls.length):(ls.take (i+1)).flatten=(ls.take i).flatten++ls.getD i []:=by
 rw[List.take_add_one,List.flatten_append,List.getD_eq_getElem?_getD,List.getElem?_eq_getElem h];simp
theorem I0(ls:List ab)(i:Nat):(ls.take i).flatten.length≤ls.flatten.length:=by
 have:ls.flatten=(ls.take i).flatten++(ls.drop i).flatten:=by rw[← List.flatten_append,List.take_append_drop]
 rw[this,List.length_append];omega
def az3(x:(List ab×Int×List ab×Int×Int×Unit)×Unit):cT:=.need (x.1.2.1=0∧x.1.2.2.2.1=x.1.2.2.1.length∧x.1.2.2.2.2.1=0∧x.1.2.2.1.flatten.length≤140737488355328∧x.1.2.2.1.length≤140737488355328) (.bN (.exit 0) ((dy agA bG).wr ((x.1.1,(x.1.2.2.1.flatten.length:Int),()),())))
theorem acx(x):Ex aA [] (.loop (cG Ph 0)) ((dy Pj bG).wr x) (az3 x):=by
 obtain⟨⟨l0,s,ls,n,i,_⟩,_⟩:=x;refine Ex.need fun⟨h1,h2,h3,h4,h5⟩=>?_;simp only at h1 h2 h3 h4 h5;subst h1 h2 h3
 refine Xl bJ bU (cn.nil _) (fun k=>ls.length-k) (fun k:Nat=>(dy Pj bG).wr ((l0,((ls.take k).flatten.length:Int),ls,(ls.length:Int),(k:Int),()),())) (fun k=>k≤ls.length)
  (fun k=>.bN (.exit 0) ((dy agA bG).wr ((l0,(ls.flatten.length:Int),()),()))) (fun k _=>agB l0 ls _ _ _) (fun k R hk hs=>?_) 0 (Nat.zero_le _)
 ·have hle:=I0 ls k;refine⟨fun hb=>?_,fun hb=>?_⟩
  ·have iZ:k<ls.length:=(by simpa using hb);have hft:=G0 ls k iZ;have aX0:=I0 ls (k+1);have hlen:((ls.take (k+1)).flatten.length:Int)=(ls.take k).flatten.length+(ls.getD k []).length:=(by rw[hft,List.length_append];omega);refine⟨⟨by omega,by omega⟩,fun CV=>?_,fun _=>.inl ⟨rfl,k+1,?_,iZ,by omega,hs⟩⟩
   ·rw[bM (by omega) (by simp only[Int.toNat_natCast];omega)]at CV;simp at CV;omega
   ·rw[bM (by omega) (by simp only[Int.toNat_natCast];omega),bM (by omega) (by omega)];simp only[Int.toNat_natCast];rw[← hlen];rfl
  ·have hge:k=ls.length:=(by simp at hb;omega);subst hge;rw[List.take_length];exact .inr ⟨by simp,hs⟩
abbrev Pk:cl (List LV) (List ab×Int×Int×Unit):=jk 6 (bR (bO (pk 0 0)) (jk 18 (bD (bO (gx false false (.sl u8))) (bD (bO (bX .i64)) (bD (bO (bX .i64)) (jk 8 bG))))))
abbrev az4:List Wk:= [.fr (eH 36 [(6,.bV),(25,.bV),(26,.sym),(27,.sym)]),.bS,.ck]
abbrev agC:cl (List LV) Unit:=jk 6 (bR (bO (pk 0 0)) (jk 29 bG))
abbrev aM6:List Wk:= [.fr (eH 36 [(6,.bV)]),.bS,.ck]
abbrev Pm:cl Hp (ab×Unit):=bD (dd 0 u8) bG
theorem agD(ls:List ab)(acc:ab)(n i:Int):ma aA [] [] Ph 2 [] (wsE az4 2 aM6) ((dy Pk Pm).wr ((ls,n,i,()),(acc,())))=.ite (decide (i<n)) (.need (0≤i∧i<ls.length) (.need ((acc.length+(ls.getD i.toNat []).length)*1≤70368744177664∧acc.length+(ls.getD i.toNat []).length≤70368744177664) (.bN .normal ((dy Pk Pm).wr ((ls,n,i64.wrap (i+1),()),(acc++ls.getD i.toNat [],())))))) (.bN (.exit 2) ((dy agC Pm).wr ((),(acc,())))):=by kernel_rfl
def az5(x:(List ab×Int×Int×Unit)×ab×Unit):cT:=.need (x.1.2.1=x.1.1.length∧x.1.2.2.1=0∧x.2.1= []∧x.1.1.flatten.length≤70368744177664∧x.1.1.length≤140737488355328) (.bN (.exit 2) ((dy agC Pm).wr ((),(x.1.1.flatten,()))))
theorem acy(x):Ex aA [] (.loop (cG Ph 2)) ((dy Pk Pm).wr x) (az5 x):=by
 obtain⟨⟨ls,n,i,_⟩,acc,_⟩:=x;refine Ex.need fun⟨h2,h3,h1,h4,h5⟩=>?_;simp only at h1 h2 h3 h4 h5;subst h1 h2 h3
 refine Xl bJ bU (cn.nil _) (fun k=>ls.length-k) (fun k:Nat=>(dy Pk Pm).wr ((ls,(ls.length:Int),(k:Int),()),((ls.take k).flatten,()))) (fun k=>k≤ls.length)
  (fun k=>.bN (.exit 2) ((dy agC Pm).wr ((),(ls.flatten,())))) (fun k _=>agD ls _ _ _) (fun k R hk hs=>?_) 0 (Nat.zero_le _)
 refine⟨fun hb=>?_,fun hb=>?_⟩
 ·have iZ:k<ls.length:=by simpa using hb
  have hft:=G0 ls k iZ;have aX0:=I0 ls (k+1);have hlen:(ls.take (k+1)).flatten.length=(ls.take k).flatten.length+(ls.getD k []).length:=by rw[hft,List.length_append]
  refine⟨⟨by omega,by omega⟩,⟨by simp only[Int.toNat_natCast];omega,by simp only[Int.toNat_natCast];omega⟩,.inl ⟨rfl,k+1,?_,iZ,by omega,hs⟩⟩;rw[bM (by omega) (by omega)];simp only[Int.toNat_natCast];rw[← hft];rfl
 ·have hge:k=ls.length:=by simp at hb;omega
  subst hge;rw[List.take_length];exact .inr ⟨by simp,hs⟩
abbrev aE2:cl (List LV) (List ab×Unit):=bD (bO (gx false false (.sl u8))) bG
def ar3:bT:=bT.fw [some (.sl u8)] aE2 bG fun x _=>.bN (some (x.1.flatten.length≤70368744177664∧x.1.length≤140737488355328)) (.one (.sc (.sl 0 0))) [(0,.own 0 u8 x.1.flatten)]
abbrev az6:gW:= [(0,iF (dy Pj bG) 0 az2 az3),(2,iF (dy Pk Pm) 0 az4 az5)]
theorem agE(ls:List ab):cY aA [(142,agz)] az6 Ph (aE2.wr (ls,())) [] [.bS,.ck]=.need ((0:Int)=0∧(ls.length:Int)=ls.length∧(0:Int)=0∧ls.flatten.length≤140737488355328∧ls.length≤140737488355328) (.need (0≤(ls.flatten.length:Int)∧(ls.flatten.length:Int)≤140737488355328) (.need ((ls.length:Int)=ls.length∧(0:Int)=0∧([]:ab)= []∧ls.flatten.length≤70368744177664∧ls.length≤140737488355328) (.bN (.one (.sc (.sl 0 0))) [some (.own 0 u8 ls.flatten)]))):=by kernel_rfl
theorem uU:ar3.Ok aA 101:=by
 refine(bT.df call101 fun x y Q h=>?_).sym;obtain⟨ls,_⟩:=x;obtain⟨⟨h1,h2⟩,hq⟩:=h;refine(cg bJ (bI ar2 bU) func101 rfl (LT:=az6) (ks:= [.bS,.ck]) (cn.dO (mI rfl (fI (hp:= []) acx) (mI rfl (fI (hp:= []) acy) mT)))).use (D:= [(0,.own 0 u8 ls.flatten)]) ?_ hq;show(cY _ _ _ _ (aE2.wr (ls,())) [] _).sat _;rw[agE];simp only at h1 h2;exact⟨⟨rfl,rfl,rfl,by omega,by omega⟩,⟨by omega,by omega⟩,⟨rfl,rfl,rfl,h1,h2⟩,rfl,rfl⟩
end
abbrev uiC:cl (List LV) (Int×Int×Unit):=bD (bO (bX .u64)) (bD (bO (bX .i64)) bG)
abbrev u3C:cl (List LV) (Int×Int×Int×Unit):=bD (bO (bX .u64)) (bD (bO (bX .u64)) (bD (bO (bX .u64)) bG))
abbrev acz:cl (List LV) (Int×Int×Int×Int×Unit):=bD (bO (bX .u64)) (bD (bO (bX .i64)) (bD (bO (bX .i64)) (bD (bO (bX .i64)) bG)))
def XC(x k:Int):Int:=cV .u64 (shl .u64 x (dz .u64 (u64.wrap k) 63)) (shr .u64 x (u64.wrap (64-dz .u64 (u64.wrap k) 63)))
theorem az7(k:Int):dz .u64 (u64.wrap k) 63=k%64:=by
 rw[Xm (m:=6) (by decide) _ _ (by decide),tr];exact Int.emod_emod_of_dvd _ (by decide)
def zi(x n:Int):Int:=cV .u64 (shl .u64 x (64-n)) (shr .u64 x n)
theorem agF{x n:Int}(h0:0<n)(h1:n<64):XC x (i64.wrap (0-n))=zi x n:=by
 unfold XC zi;have e:dz .u64 (u64.wrap (i64.wrap (0-n))) 63=64-n:=by
  rw[az7,wrap_i64 (by omega) (by omega)];omega
 rw[e,wrap_u64 (by omega) (by omega),show(64:Int)-(64-n)=n from by omega]
def az8:bT:=bT.fw [] uiC bG fun x_ y_=>(fun(x k:Int)=>.bN none (nU (XC x k)) []) x_.1 x_.2.1
theorem acA(x k:Int):cY aA [] [] f235 (uiC.wr (x,k,())) (bG.wr ()) [.fr [.sym],.bS]=End.need ((0:Int)≤dz u64 (u64.wrap k) (63:Int)) (End.need ((0:Int)≤u64.wrap ((64:Int)-dz u64 (u64.wrap k) (63:Int))) (End.bN (LV.one (VV.sc (SV.int u64 (SI.sym (cV u64 (shl u64 x (dz u64 (u64.wrap k) (63:Int))) (shr u64 x (u64.wrap ((64:Int)-dz u64 (u64.wrap k) (63:Int))))))))) [])):=by kernel_rfl
theorem ar4:az8.Ok aA 235:=by
 refine(bT.df call235 fun x_ y_ Q H_=>?_).sym;obtain⟨x,k,_⟩:=x_;have hq:=H_.2;refine(cg bJ bU func235 rfl (LT:= []) (ks:=aq) (cn.nil _)).use (D:= []) ?_ hq;show(cY _ _ _ _ (uiC.wr (x,k,())) (bG.wr ()) _).sat _;rw[acA];have e:=az7 k;refine⟨by omega,by rw[e,wrap_u64 (by omega) (by omega)];omega,rfl,rfl⟩
def agG:bT:=bT.fw [] uiC bG fun x_ y_=>(fun(x k:Int)=>.bN (some (0<k∧k<64)) (nU (zi x k)) []) x_.1 x_.2.1
theorem acB(x k:Int):cY aA [(235,az8)] [] f216 (uiC.wr (x,k,())) (bG.wr ()) [.fr [.sym],.bS]=End.bN (LV.one (VV.sc (SV.int u64 (SI.sym (XC x (i64.wrap ((0:Int)-k.tmod 64))))))) []:=by kernel_rfl
theorem XD:agG.Ok aA 216:=by
 refine(bT.df call216 fun x_ y_ Q H_=>?_).sym;obtain⟨x,k,_⟩:=x_;obtain⟨hn,hq⟩:=H_;have hn:0<k∧k<64:=hn;refine(cg bJ ((bI ar4 bU)) func216 rfl (LT:= []) (ks:=aq) (cn.nil _)).use (D:= []) ?_ hq;show(cY _ _ _ _ (uiC.wr (x,k,())) (bG.wr ()) _).sat _;rw[acB];have e:k.tmod 64=k:=by rw[Int.tmod_eq_emod_of_nonneg (by omega)];omega
 rw[e,agF hn.1 hn.2];exact⟨rfl,rfl⟩
def chF(x y z:Int):Int:=dU .u64 (dz .u64 x y) (dz .u64 (dU .u64 18446744073709551615 x) z)
def aE3(x y z:Int):Int:=dU .u64 (dU .u64 (dz .u64 x y) (dz .u64 x z)) (dz .u64 y z)
def chE:bT:=bT.fw [] u3C bG fun x_ y_=>(fun(x y z:Int)=>.bN none (nU (chF x y z)) []) x_.1 x_.2.1 x_.2.2.1
theorem ar5(x y z:Int):cY aA [] [] f184 (u3C.wr (x,y,z,())) (bG.wr ()) [.fr [.sym],.bS]=End.bN (LV.one (VV.sc (SV.int u64 (SI.sym (dU u64 (dz u64 x y) (dz u64 (dU u64 (18446744073709551615:Int) x) z)))))) []:=by kernel_rfl
theorem aM7:chE.Ok aA 184:=by
 refine(bT.df call184 fun x_ y_ Q H_=>?_).sym;obtain⟨x,y,z,_⟩:=x_;have hq:=H_.2;refine(cg bJ bU func184 rfl (LT:= []) (ks:=aq) (cn.nil _)).use (D:= []) ?_ hq;show(cY _ _ _ _ (u3C.wr (x,y,z,())) (bG.wr ()) _).sat _;rw[ar5];exact⟨rfl,rfl⟩
def aM8:bT:=bT.fw [] u3C bG fun x_ y_=>(fun(x y z:Int)=>.bN none (nU (aE3 x y z)) []) x_.1 x_.2.1 x_.2.2.1
theorem agH(x y z:Int):cY aA [] [] f185 (u3C.wr (x,y,z,())) (bG.wr ()) [.fr [.sym],.bS]=End.bN (LV.one (VV.sc (SV.int u64 (SI.sym (dU u64 (dU u64 (dz u64 x y) (dz u64 x z)) (dz u64 y z)))))) []:=by kernel_rfl
theorem aE4:aM8.Ok aA 185:=by
 refine(bT.df call185 fun x_ y_ Q H_=>?_).sym;obtain⟨x,y,z,_⟩:=x_;have hq:=H_.2;refine(cg bJ bU func185 rfl (LT:= []) (ks:=aq) (cn.nil _)).use (D:= []) ?_ hq;show(cY _ _ _ _ (u3C.wr (x,y,z,())) (bG.wr ()) _).sat _;rw[agH];exact⟨rfl,rfl⟩
def DG(x a b d:Int):Int:=dU .u64 (dU .u64 (zi x a) (zi x b)) (shr .u64 x d)
def zj(x a b d:Int):Int:=dU .u64 (dU .u64 (zi x a) (zi x b)) (zi x d)
def agI:bT:=bT.fw [] acz bG fun x_ y_=>(fun(x a b d:Int)=>.bN (some (0<a∧a<64∧0<b∧b<64∧0≤d)) (nU (DG x a b d)) []) x_.1 x_.2.1 x_.2.2.1 x_.2.2.2.1
theorem S0(x a b d:Int):cY aA [(216,agG)] [] f215 (acz.wr (x,a,b,d,())) (bG.wr ()) [.fr [.sym],.bS]=End.need ((0:Int)<a∧a<(64:Int)) (End.need ((0:Int)<b∧b<(64:Int)) (End.need ((0:Int)≤d) (End.bN (LV.one (VV.sc (SV.int u64 (SI.sym (dU u64 (dU u64 (zi x a) (zi x b)) (shr u64 x d)))))) []))):=by kernel_rfl
theorem agJ:agI.Ok aA 215:=by
 refine(bT.df call215 fun x_ y_ Q H_=>?_).sym;obtain⟨x,a,b,d,_⟩:=x_;obtain⟨hn,hq⟩:=H_;have hn:0<a∧a<64∧0<b∧b<64∧0≤d:=hn;refine(cg bJ ((bI XD bU)) func215 rfl (LT:= []) (ks:=aq) (cn.nil _)).use (D:= []) ?_ hq;show(cY _ _ _ _ (acz.wr (x,a,b,d,())) (bG.wr ()) _).sat _;rw[S0];exact⟨⟨hn.1,hn.2.1⟩,⟨hn.2.2.1,hn.2.2.2.1⟩,hn.2.2.2.2,rfl,rfl⟩
def agK:bT:=bT.fw [] acz bG fun x_ y_=>(fun(x a b d:Int)=>.bN (some (0<a∧a<64∧0<b∧b<64∧0<d∧d<64)) (nU (zj x a b d)) []) x_.1 x_.2.1 x_.2.2.1 x_.2.2.2.1
theorem S1(x a b d:Int):cY aA [(216,agG)] [] f183 (acz.wr (x,a,b,d,())) (bG.wr ()) [.fr [.sym],.bS]=End.need ((0:Int)<a∧a<(64:Int)) (End.need ((0:Int)<b∧b<(64:Int)) (End.need ((0:Int)<d∧d<(64:Int)) (End.bN (LV.one (VV.sc (SV.int u64 (SI.sym (dU u64 (dU u64 (zi x a) (zi x b)) (zi x d)))))) []))):=by kernel_rfl
theorem agL:agK.Ok aA 183:=by
 refine(bT.df call183 fun x_ y_ Q H_=>?_).sym;obtain⟨x,a,b,d,_⟩:=x_;obtain⟨hn,hq⟩:=H_;have hn:0<a∧a<64∧0<b∧b<64∧0<d∧d<64:=hn;refine(cg bJ ((bI XD bU)) func183 rfl (LT:= []) (ks:=aq) (cn.nil _)).use (D:= []) ?_ hq;show(cY _ _ _ _ (acz.wr (x,a,b,d,())) (bG.wr ()) _).sat _;rw[S1];exact⟨⟨hn.1,hn.2.1⟩,⟨hn.2.2.1,hn.2.2.2.1⟩,hn.2.2.2.2,rfl,rfl⟩
end Go.Proofs.YtliehnnljilacaaGreat
