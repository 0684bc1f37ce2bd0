/- What the laws lean on, part 7: a reader of code, plain facts, and what each function gives; no conditions. -/
import Derived.Test.YtnbkagglkajbkaaGreatC6
set_option linter.unusedVariables false
set_option linter.unusedSimpArgs false
noncomputable section
namespace Go.Proofs.YtnbkagglkajbkaaGreat
open Go Go.Ev Go.ChangeShapes Go.WideShapes Go.ChangeAt Go.RowKit Go.Proofs.Tryz
open Go.IntKind (i64 signed u16 u64 wrap)
set_option maxRecDepth 100000
theorem aa5{H:Type}{enc:TypeId×Value→H}{W:World}{base:Nat}{v:Value}{d:DataW H}{p:List MemPlace}{t e:TypeId}(n:Nat)(hu:Tryz.prog.underlying t=some (.array n e))(hf:sI Tryz.prog 10 t=some (List.replicate n (.int .u8)))
  (jJ:Value.okWide Tryz.prog W .any base t v) (h:DataW.Trod enc Tryz.prog W 0 (fun _=>true) true t v d p):
  ∃l:List Int,(l.length=n∧aN l)∧(cY .u8 n l).den (vm W) (kd []) v:=by
 unfold Value.okWide at jJ;rw[hu]at jJ;obtain⟨cs,rfl,_,_⟩:=jJ;obtain⟨fuel,h⟩:=h;have VF:=pO 10 hf h;rw[← List.append_nil (List.replicate n (Bt.int .u8))]at VF;obtain⟨l,us,rest,e,hl,_,hd,hw,hr⟩:=IZ (β:=vm W) (pm:=true) n VF
 cases hr
 rw[List.append_nil]at e;refine⟨l,⟨hl,fun z hz=>wf_u8 (hw z hz)⟩,us,?_,?_⟩
 ·simp only[Value.cells]at e;rw[← e]
 ·have:=aV.cons (R:=SV.iv (vm W) (kd [])) (x:=.arr (.int .u8) n l) (vs:=us) (show(SV.arr (.int .u8) n l).iv (vm W) (kd []) us from⟨hl,hd⟩) .nil;rwa [List.append_nil]at this
theorem Ns{H:Type}{enc:TypeId×Value→H}{W:World}{base:Nat}{v:Value}{d:DataW H}{p:List MemPlace}
  (jJ:Value.okWide Tryz.prog W .any base 22 v) (h:DataW.Trod enc Tryz.prog W 0 (fun _=>true) true 22 v d p):∃l:List Int,(l.length=32∧aN l)∧(cY .u8 32 l).den (vm W) (kd []) v:=aa5 32 underlying22 (by kernel_rfl) jJ h
end Go.Proofs.YtnbkagglkajbkaaGreat
end
noncomputable section
namespace Go.Proofs.YtnbkagglkajbkaaGreat
open Go Go.Ev Go.Proofs.Tryz
open Go.IntKind (i64 signed u16 u64 wrap)
set_option maxRecDepth 1000000
abbrev VZ:aQ (List LV) (Int×Unit):=ae (ah (aA .i64)) ag
abbrev aa6:aQ (List LV) (Int×Int×Unit):=ae (ah (aA .i64)) (ae (ah (aA .i64)) ag)
abbrev ara:aQ (List LV) (Int×Int×Int×Unit):=ae (ah (aA .i64)) (ae (ah (aA .i64)) (ae (ah (aA .i64)) ag))
def aW(p:Int):Int:=if p<31 then 31 else if 2017<p then 2017 else p
def cH(p b:Int):Int:=if b=0 then aW p+(2048-aW p)/32 else aW p-aW p/32
def e1I(g:Int→Int):an:=an.cm [] VZ ag fun x _=>.leaf none (nI (g x.1)) []
def e2I(g:Int→Int→Int):an:=an.cm [] aa6 ag fun x _=>.leaf none (nI (g x.1 x.2.1)) []
def e3I(g:Int→Int→Int→Int):an:=an.cm [] ara ag fun x _=>.leaf none (nI (g x.1 x.2.1 x.2.2.1)) []
theorem fW(p:Int):31≤aW p∧aW p≤2017:=by unfold aW;split<;>(try split)<;>omega
theorem sJ{p b:Int}:cH p b=if b=0 then i64.wrap (aW p+i64.wrap ((i64.wrap (2048-aW p)).tdiv 32))else i64.wrap (aW p-i64.wrap ((aW p).tdiv 32)):=by
 have h:=fW p;unfold cH;have e1:i64.wrap (2048-aW p)=2048-aW p:=au (by omega) (by omega);rw[e1,Int.tdiv_eq_ediv_of_nonneg (by omega),Int.tdiv_eq_ediv_of_nonneg (by omega),au (n:=(2048-aW p)/32) (by omega) (by omega),au (n:=aW p/32) (by omega) (by omega),au (by omega) (by omega),au (by omega) (by omega)]
theorem oz(p b:Int):31≤cH p b∧cH p b≤2017:=by
 have h:=fW p;unfold cH
 split<;>omega
theorem lH{a b:Int}(h:a=b):nI a=nI b:=by rw[h]
theorem aa7(p:Int):(if 31<(if 2017<p then 2017 else p)then(if 2017<p then 2017 else p)else 31)=aW p:=by
 unfold aW
 by_cases h1:2017<p
 ·simp only[h1,if_true];rw[if_pos (by decide),if_neg (by omega)]
 ·simp only[h1,if_false]
  by_cases h2:31<p
  ·rw[if_pos h2,if_neg (by omega)]
  ·rw[if_neg h2];split<;>omega
abbrev Et:an:=e1I aW
theorem Nt(p:Int):aH Tryz.prog [] [] f257 ((VZ).wr (p,())) [] [.fr [.sym],.auto]=
 End.leaf (LV.one (VV.sc (SV.int i64 (SI.sym (if(31:Int)<if(2017:Int)<p then(2017:Int)else p then if(2017:Int)<p then(2017:
 Int)else p else(31:Int)))))) []:=by kernel_rfl
theorem Nu:∀p_∈([]:List (FuncId×an)),p_.2.Ok Tryz.prog p_.1:=aw
theorem sK:Et.Ok Tryz.prog 257:=by
 refine(an.aS call257 fun x_ y_ Q H_=>?_).sym;obtain⟨p,_⟩:=x_;have hq:=H_.2;refine(ar (tab:= []) mixed Nu func257 rfl (LT:= []) (ks:= [.fr [.sym],.auto]) (aK.nil _)).use (D:= []) ?_ hq;show(aH _ _ _ _ ((VZ).wr (p,())) [] _).sat _;rw[Nt];exact⟨lH (aa7 p),rfl⟩
abbrev sL:an:=e2I cH
theorem I1(h:Int→Int)(p b:Int):aH Tryz.prog [(257,e1I h)] [] f260 ((aa6).wr (p,b,())) [] [.fr [.sym],.auto]=
 End.ite (b==(0:Int)) (End.leaf (LV.one (VV.sc (SV.int i64 (SI.sym (i64.wrap (h p+i64.wrap ((i64.wrap ((2048:
 Int)-h p)).tdiv (32:Int)))))))) []) (End.leaf (LV.one (VV.sc (SV.int i64 (SI.sym (i64.wrap (h p-i64.wrap ((h p).tdiv (32
 :Int)))))))) []):=by kernel_rfl
theorem I2:∀p_∈([(257,e1I aW)]:List (FuncId×an)),p_.2.Ok Tryz.prog p_.1:=(al sK aw)
theorem pP:sL.Ok Tryz.prog 260:=by
 refine(an.aS call260 fun x_ y_ Q H_=>?_).sym;obtain⟨p,b,_⟩:=x_;have hq:=H_.2;refine(ar (tab:= [(257,e1I aW)]) mixed I2 func260 rfl (LT:= []) (ks:= [.fr [.sym],.auto]) (aK.nil _)).use (D:= []) ?_ hq;show(aH _ _ _ _ ((aa6).wr (p,b,())) [] _).sat _;rw[I1 aW];refine⟨fun h=>⟨lH ?_,rfl⟩,fun h=>⟨lH ?_,rfl⟩⟩
 ·rw[sJ,if_pos (beq_iff_eq.1 h)]
 ·rw[sJ,if_neg (bne_iff_ne.1 (by simpa using h))]
def mU(a b c:Int):Int:=if a<b then b else if c<a then c else a
abbrev aa8:an:=e3I mU
theorem V0(a b c:Int):aH Tryz.prog [] [] f58 ((ara).wr (a,b,c,())) [] [.fr [.sym],.auto]=
 End.ite (decide (a<b)) (End.leaf (LV.one (VV.sc (SV.int i64 (SI.sym b)))) []) (End.ite (decide (c<a)) (End.leaf (LV.one (VV.sc (SV.int
 i64 (SI.sym c)))) []) (End.leaf (LV.one (VV.sc (SV.int i64 (SI.sym a)))) [])):=by kernel_rfl
theorem V1:∀p_∈([]:List (FuncId×an)),p_.2.Ok Tryz.prog p_.1:=aw
theorem Eu:aa8.Ok Tryz.prog 58:=by
 refine(an.aS call58 fun x_ y_ Q H_=>?_).sym;obtain⟨a,b,c,_⟩:=x_;have hq:=H_.2;refine(ar (tab:= []) mixed V1 func58 rfl (LT:= []) (ks:= [.fr [.sym],.auto]) (aK.nil _)).use (D:= []) ?_ hq;show(aH _ _ _ _ ((ara).wr (a,b,c,())) [] _).sat _;rw[V0];refine⟨fun h=>⟨lH ?_,rfl⟩,fun h=>⟨fun h2=>⟨lH ?_,rfl⟩,fun h2=>⟨lH ?_,rfl⟩⟩⟩
 ·unfold mU;rw[if_pos (of_decide_eq_true h)]
 ·unfold mU;rw[if_neg (of_decide_eq_false h),if_pos (of_decide_eq_true h2)]
 ·unfold mU;rw[if_neg (of_decide_eq_false h),if_neg (of_decide_eq_false h2)]
abbrev Nv:an:=e1I aW
theorem Nw(c:Int→Int→Int→Int)(p:Int):aH Tryz.prog [(58,e3I c)] [] f275 ((VZ).wr (p,())) [] [.fr [.sym],.auto]=
 End.leaf (LV.one (VV.sc (SV.int i64 (SI.sym (c p (31:Int) (2017:Int)))))) []:=by kernel_rfl
theorem Nx:∀p_∈([(58,e3I mU)]:List (FuncId×an)),p_.2.Ok Tryz.prog p_.1:=(al Eu aw)
theorem y7:Nv.Ok Tryz.prog 275:=by
 refine(an.aS call275 fun x_ y_ Q H_=>?_).sym;obtain⟨p,_⟩:=x_;have hq:=H_.2;refine(ar (tab:= [(58,e3I mU)]) mixed Nx func275 rfl (LT:= []) (ks:= [.fr [.sym],.auto]) (aK.nil _)).use (D:= []) ?_ hq;show(aH _ _ _ _ ((VZ).wr (p,())) [] _).sat _;rw[Nw mU];exact⟨rfl,rfl⟩
abbrev xq:an:=e2I cH
theorem I3(h:Int→Int)(p b:Int):aH Tryz.prog [(275,e1I h)] [] f278 ((aa6).wr (p,b,())) [] [.fr [.sym],.auto]=
 End.ite (b==(0:Int)) (End.leaf (LV.one (VV.sc (SV.int i64 (SI.sym (i64.wrap (h p+i64.wrap ((i64.wrap ((2048:
 Int)-h p)).tdiv (32:Int)))))))) []) (End.leaf (LV.one (VV.sc (SV.int i64 (SI.sym (i64.wrap (h p-i64.wrap ((h p).tdiv (32
 :Int)))))))) []):=by kernel_rfl
theorem I4:∀p_∈([(275,e1I aW)]:List (FuncId×an)),p_.2.Ok Tryz.prog p_.1:=(al y7 aw)
theorem vn:xq.Ok Tryz.prog 278:=by
 refine(an.aS call278 fun x_ y_ Q H_=>?_).sym;obtain⟨p,b,_⟩:=x_;have hq:=H_.2;refine(ar (tab:= [(275,e1I aW)]) mixed I4 func278 rfl (LT:= []) (ks:= [.fr [.sym],.auto]) (aK.nil _)).use (D:= []) ?_ hq;show(aH _ _ _ _ ((aa6).wr (p,b,())) [] _).sat _;rw[I3 aW];refine⟨fun h=>⟨lH ?_,rfl⟩,fun h=>⟨lH ?_,rfl⟩⟩
 ·rw[sJ,if_pos (beq_iff_eq.1 h)]
 ·rw[sJ,if_neg (bne_iff_ne.1 (by simpa using h))]
abbrev av8:aQ (Option Ev.Item) Unit:=fG 332 (ai (j0 1 0) ag)
abbrev sM:aQ Hp (List Int×Unit):=ai av8 (ae (cE 0 (.int .u16)) ag)
abbrev sN:aQ (List LV) (Int×Unit):=ai (ah (aD 0 0)) (ae (ah (aA .i64)) ag)
abbrev qP:aQ (List LV) (Int×Int×Unit):=ai (ah (aD 0 0)) (ae (ah (aA .i64)) (ae (ah (aA .i64)) ag))
def qD(p:List Int)(n:Int):Bool:=decide (1≤n∧n<p.length)
theorem aa9{b c:Bool}(h:b=c):nB b=nB c:=by rw[h]
theorem wrap_u16(n:Int):u16.wrap n=n%65536:=by
 simp only[wrap,IntKind.bits,signed];simp
def gD(p:List Int):Prop:=∀i,0≤p.getD i 0∧p.getD i 0≤65535
def kj(p:List Int)(n:Int):Int:=if qD p n=true then p.getD n.toNat 0 else 0
def c9(p:List Int)(n b:Int):List Int:=if qD p n=true then p.set n.toNat (cH (p.getD n.toNat 0) b)else p
def aba:an:=an.cm [] (sN) (sM) fun x_ y_=>(fun(n:Int) (p:List Int)=>.leaf none (nB (qD p n)) []) x_.1 y_.1
theorem V2(n:Int)(p:List Int):aH Tryz.prog [] [] f310 ((sN).wr (n,())) ((sM).wr (p,())) [.fr [.sym],.auto]=
 End.ite (decide ((1:Int)≤n)==true) (End.leaf (LV.one (VV.sc (SV.bool (SB.sym (decide (n<(↑p.length:Int))))))) [some (Item.ba [SV.sl (1:
 Nat) (0:Nat)] (332:Nat)),some (Item.own (0:Nat) (Ty.int u16) p)]) (End.leaf (LV.one (VV.sc (SV.bool (SB.sym false)))) [some (Item.ba
 [SV.sl (1:Nat) (0:Nat)] (332:Nat)),some (Item.own (0:Nat) (Ty.int u16) p)]):=by kernel_rfl
theorem SO:aba.Ok Tryz.prog 310:=by
 refine(an.aS call310 fun x_ y_ Q H_=>?_).sym;obtain⟨n,_⟩:=x_;obtain⟨p,_⟩:=y_;have hq:=H_.2;refine(ar mixed aw func310 rfl (LT:= []) (ks:= [.fr [.sym],.auto]) (aK.nil _)).use (D:= []) ?_ hq;show(aH _ _ _ _ ((sN).wr (n,())) ((sM).wr (p,())) _).sat _;rw[V2];refine⟨fun h=>⟨aa9 ?_,rfl⟩,fun h=>⟨aa9 ?_,rfl⟩⟩
 ·have h:1≤n:=by simpa using h
  unfold qD;exact decide_eq_decide.2 ⟨fun h'=>⟨h,h'⟩,fun h'=>h'.2⟩
 ·have h:¬ 1≤n:=by simpa using h
  unfold qD;exact(decide_eq_false fun h'=>h h'.1).symm
def V3:an:=an.cm [] (sN) (sM) fun x_ y_=>(fun(n:Int) (p:List Int)=>.leaf (some (gD p)) (nI (kj p n)) []) x_.1 y_.1
theorem abb(n:Int)(p:List Int):aH Tryz.prog [(310,aba)] [] f262 ((sN).wr (n,())) ((sM).wr (p,())) [.fr [.sym],.auto]=
 End.ite (!qD p n) (End.leaf (LV.one (VV.sc (SV.int i64 (SI.sym (0:Int))))) [some (Item.ba [SV.sl (1:Nat) (0:Nat)] (332:Nat)),some
 (Item.own (0:Nat) (Ty.int u16) p)]) (End.need ((0:Int)≤n∧n<(↑p.length:Int)) (End.leaf (LV.one (VV.sc (SV.int i64 (SI.sym
 (i64.wrap (p.getD n.toNat (0:Int))))))) [some (Item.ba [SV.sl (1:Nat) (0:Nat)] (332:Nat)),some (Item.own (0:Nat) (Ty.int
 u16) p)])):=by kernel_rfl
theorem y8:V3.Ok Tryz.prog 262:=by
 refine(an.aS call262 fun x_ y_ Q H_=>?_).sym;obtain⟨n,_⟩:=x_;obtain⟨p,_⟩:=y_;obtain⟨hn,hq⟩:=H_;have hn:gD p:=hn;refine(ar mixed ((al SO aw)) func262 rfl (LT:= []) (ks:= [.fr [.sym],.auto]) (aK.nil _)).use (D:= []) ?_ hq;show(aH _ _ _ _ ((sN).wr (n,())) ((sM).wr (p,())) _).sat _;rw[abb];refine⟨fun h=>⟨lH ?_,rfl⟩,fun h=>?_⟩
 ·have h:¬qD p n=true:=by simpa using h
  unfold kj;rw[if_neg h]
 ·have h:qD p n=true:=by simpa using h
  have hh:1≤n∧n<p.length:=of_decide_eq_true h;have hr:=hn n.toNat;refine⟨by omega,lH ?_,rfl⟩;unfold kj;rw[if_pos h,au (by omega) (by omega)]
def Ew:an:=an.cm [] (qP) (sM) fun x_ y_=>(fun(n b:Int) (p:List Int)=>.leaf (some (gD p)) (.c6 []) [(1,.own 0 (.int .u16) (c9 p n b))]) x_.1 x_.2.1 y_.1
theorem Ny(n b:Int)(p:List Int):aH Tryz.prog [(310,aba),(260,sL)] [] f263 ((qP).wr (n,b,())) ((sM).wr (p,())) [.fr [.sym],.auto]=
 End.ite (qD p n) (End.need ((0:Int)≤n∧n<(↑p.length:Int)) (End.need ((0:Int)≤n∧n<(↑p.length:Int)) (End.leaf (LV.c6 []) [some
 (Item.ba [SV.sl (1:Nat) (0:Nat)] (332:Nat)),some (Item.own (0:Nat) (Ty.int u16) (p.set n.toNat (u16.wrap (cH
 (i64.wrap (p.getD n.toNat (0:Int))) b))))]))) (End.leaf (LV.c6 []) [some (Item.ba [SV.sl (1:Nat) (0:Nat)] (332:Nat)),some (Item.own
 (0:Nat) (Ty.int u16) p)]):=by kernel_rfl
theorem y9:Ew.Ok Tryz.prog 263:=by
 refine(an.aS call263 fun x_ y_ Q H_=>?_).sym;obtain⟨n,b,_⟩:=x_;obtain⟨p,_⟩:=y_;obtain⟨hn,hq⟩:=H_;have hn:gD p:=hn;refine(ar mixed ((al SO (al pP aw))) func263 rfl (LT:= []) (ks:= [.fr [.sym],.auto]) (aK.nil _)).use (D:= [(1,.own 0 (.int .u16) (c9 p n b))]) ?_ hq;show(aH _ _ _ _ ((qP).wr (n,b,())) ((sM).wr (p,())) _).sat _;rw[Ny];refine⟨fun h=>?_,fun h=>?_⟩
 ·have hh:1≤n∧n<p.length:=of_decide_eq_true h;have hr:=hn n.toNat;have ha:=oz (p.getD n.toNat 0) b
  have e:c9 p n b=p.set n.toNat (u16.wrap (cH (i64.wrap (p.getD n.toNat 0)) b)):=by
   unfold c9;rw[if_pos h,au (by omega) (by omega)]
   congr 1
   rw[wrap_u16];omega
  refine⟨by omega,by omega,rfl,?_⟩;rw[e];rfl
 ·have h:¬qD p n=true:=by simpa using h
  have e:c9 p n b=p:=if_neg h;refine⟨rfl,?_⟩;rw[e];rfl
end Go.Proofs.YtnbkagglkajbkaaGreat
end
noncomputable section
namespace Go.Ev
open Go
open Go.IntKind (i64 signed u16 u64 wrap)
theorem ja{α:Type}{l:List α}{k:Nat}(z:α)(h:k<l.length):l.drop k=l.getD k z::l.drop (k+1):=by
 rw[List.drop_eq_getElem_cons h];simp[List.getD_eq_getElem?_getD,List.getElem?_eq_getElem h]
theorem aN.getD{l:List Int}(h:aN l)(i:Nat):By (l.getD i 0):=by
 rw[List.getD_eq_getElem?_getD]
 cases hi:l[i]? with
 |none=>exact⟨Int.le_refl _,by decide⟩
 |some z=>exact h z (List.mem_of_getElem? hi)
theorem aN.set{l:List Int}(h:aN l)(i:Nat){z:Int}(hz:By z):aN (l.set i z):=fun y hy=>by
 rcases List.mem_or_eq_of_mem_set hy with hy|rfl
 ·exact h y hy
 ·exact hz
theorem aN.nil:aN []:=fun _ h=>by cases h
theorem aN.cons{z:Int}{l:List Int}(hz:By z)(h:aN l):aN (z::l):=fun y hy=>by
 rcases List.mem_cons.1 hy with rfl|hy
 ·exact hz
 ·exact h y hy
inductive Tr (X:Type) where
 |ret (x:X)
 |ite (b:Bool) (t e:Tr X)
 |need (p:Prop) (t:Tr X)
 |fail
def Tr.Is{X:Type}:Tr X→X→Prop
 | .ret x,y=>x=y
 | .ite b t e,y=>(b=true→t.Is y)∧(b=false→e.Is y)
 | .need p t,y=>p∧t.Is y
 | .fail,_=>False
theorem ao{X:Type}{x y:X}:(Tr.ret x).Is y↔x=y:=Iff.rfl
theorem aq{X:Type}{p:Prop}{t:Tr X}{y:X}:(Tr.need p t).Is y↔p∧t.Is y:=Iff.rfl
theorem cu{X:Type}{b:Bool}{t e:Tr X}{y:X}:(Tr.ite b t e).Is y↔(b=true→t.Is y)∧(b=false→e.Is y):=Iff.rfl
theorem a5{X:Type}{c:Prop}[Decidable c]{t e:Tr X}{y:X}:(Tr.ite (decide c) t e).Is y↔(c→t.Is y)∧(¬c→e.Is y):=by
 simp only[cu,decide_eq_true_eq,decide_eq_false_iff_not]
theorem a6{X:Type}{t e:Tr X}{y:X}:(Tr.ite true t e).Is y↔t.Is y:=by simp[cu]
theorem bw{X:Type}{t e:Tr X}{y:X}:(Tr.ite false t e).Is y↔e.Is y:=by simp[cu]
theorem dV{X:Type}{a b:Int}{t e:Tr X}{y:X}:(Tr.ite (a==b) t e).Is y↔(a=b→t.Is y)∧(a≠b→e.Is y):=by
 simp only[cu,beq_iff_eq,beq_eq_false_iff_ne]
theorem vo{X:Type}{a b:Int}{t e:Tr X}{y:X}:(Tr.ite (a !=b) t e).Is y↔(a=b→e.Is y)∧(a≠b→t.Is y):=by
 simp only[cu,bne_iff_ne,bne_eq_false_iff_eq];exact And.comm
theorem km{X:Type}{b:Bool}{t e:Tr X}{y:X}:(Tr.ite (!b) t e).Is y↔(b=true→e.Is y)∧(b=false→t.Is y):=by
 cases b<;>simp[cu]
theorem iR(b:Bool):(b==true)=b:=by cases b<;>rfl
def Tr.val{X:Type}(d:X):Tr X→X
 | .ret x=>x
 | .ite b t e=>bif b then t.val d else e.val d
 | .need _ t=>t.val d
 | .fail=>d
def Tr.end{X:Type}(V:X→LV)(D:X→List (Nat×Item))(hp:Hp):Tr X→End
 | .ret x=>.leaf (V x) (aI (D x) hp)
 | .ite b t e=>.ite b (t.end V D hp) (e.end V D hp)
 | .need p t=>.need p (t.end V D hp)
 | .fail=>.fail
theorem Tr.mV{X:Type}{V:X→LV}{D:X→List (Nat×Item)}{hp:Hp}:∀ {t:Tr X} {x:X},t.Is x→(t.end V D hp).sat fun v dP=>v=V x∧dP=aI (D x) hp
 | .ret _,_,h=>by cases h;exact⟨rfl,rfl⟩
 | .ite _ _ _,_,h=>⟨fun e=>Tr.mV (h.1 e),fun e=>Tr.mV (h.2 e)⟩
 | .need _ _,_,h=>⟨h.1,Tr.mV h.2⟩
 | .fail,_,h=>h
def cQ{X Y Z:Type}(tys:List (Option Ty))(A:aQ (List LV) X)(H:aQ Hp Y)(pre:X→Y→Prop)(sp:X→Y→Z)(V:Z→LV)(D:Z→List (Nat×Item)):an:=an.cm tys A H fun x y=>.leaf (some (pre x y)) (V (sp x y)) (D (sp x y))
def I5{X Y Z Z':Type}(tys:List (Option Ty))(A:aQ (List LV) X)(H:aQ Hp Y)(pre:X→Y→Prop)(c:X→Y→Bool)(sp:X→Y→Z)(SP:X→Y→Z')(V:Z→LV)(D:Z→List (Nat×Item))(V':Z'→LV)(D':Z'→List (Nat×Item)):an:=
 an.cm tys A H fun x y=>.ite (c x y) (.leaf (some (pre x y)) (V (sp x y)) (D (sp x y))) (.leaf (some (pre x y)) (V' (SP x y)) (D' (SP x y)))
theorem bJ{P:Program}(kO:P.follows .mixedOrders=true){tab:List (FuncId×an)}(qB:∀p∈tab,p.2.Ok P p.1){f:FuncId}{fn:Func}(hf:P.funcs[f]? =some fn)(hb:fn.body.isSome=true)(he:u7 P f){tys:List (Option Ty)}{X Y Z:Type}{A:aQ (List LV) X}{H:aQ Hp Y}
  {LT:X→Y→df} (hL:∀x y,aK P (H.wr y) (LT x y) (aJ fn)) {ks:List Wk} {V:Z→LV} {D:Z→List (Nat×Item)} {T:X→Y→Tr Z} {pre:X→Y→Prop} {sp:X→Y→Z}
  (hT:∀x y,aH P tab (LT x y) fn (A.wr x) (H.wr y) ks=(T x y).end V D (H.wr y)) (hI:∀x y,pre x y→(T x y).Is (sp x y)):
  (cQ tys A H pre sp V D).Ok P f:=by
 refine(an.aS he fun x y Q h=>?_).sym;refine(ar kO qB hf hb (ks:=ks) (hL x y)).use (V:=V (sp x y)) (D:=D (sp x y)) ?_ h.2;rw[hT];exact Tr.mV (hI x y h.1)
theorem Ey{P:Program}(kO:P.follows .mixedOrders=true){tab:List (FuncId×an)}(qB:∀p∈tab,p.2.Ok P p.1){f:FuncId}{fn:Func}(hf:P.funcs[f]? =some fn)(hb:fn.body.isSome=true)(he:u7 P f){tys:List (Option Ty)}{X Y Z Z':Type}{A:aQ (List LV) X}{H:aQ Hp Y}
  {LT:X→Y→df} (hL:∀x y,aK P (H.wr y) (LT x y) (aJ fn)) {ks:List Wk} {V:Z→LV} {D:Z→List (Nat×Item)} {V':Z'→LV} {D':Z'→List (Nat×Item)} {T:X→Y→Tr (Z⊕Z')} {pre:X→Y→Prop} {c:X→Y→Bool} {sp:X→Y→Z} {SP:X→Y→Z'}
  (hT:∀x y,aH P tab (LT x y) fn (A.wr x) (H.wr y) ks=(T x y).end (Sum.elim V V') (Sum.elim D D') (H.wr y)) (hI:∀x y,pre x y→(c x y=true→(T x y).Is (.inl (sp x y)))∧(c x y=false→(T x y).Is (.inr (SP x y)))):
  (I5 tys A H pre c sp SP V D V' D').Ok P f:=by
 refine(an.aS he fun x y Q h=>?_).sym
 cases hc:c x y with
 |true=>
  have h1:=h.1 hc;refine(ar kO qB hf hb (ks:=ks) (hL x y)).use (V:=V (sp x y)) (D:=D (sp x y)) ?_ h1.2;rw[hT];exact Tr.mV (V:=Sum.elim V V') (D:=Sum.elim D D') ((hI x y h1.1).1 hc)
 |false=>
  have h1:=h.2 hc;refine(ar kO qB hf hb (ks:=ks) (hL x y)).use (V:=V' (SP x y)) (D:=D' (SP x y)) ?_ h1.2;rw[hT];exact Tr.mV (V:=Sum.elim V V') (D:=Sum.elim D D') ((hI x y h1.1).2 hc)
theorem arb{P:Program}(kO:P.follows .mixedOrders=true){tab:List (FuncId×an)}(qB:∀p∈tab,p.2.Ok P p.1){f:FuncId}{fn:Func}(hf:P.funcs[f]? =some fn)(hb:fn.body.isSome=true)(he:u7 P f){tys:List (Option Ty)}{X Y Z:Type}{A:aQ (List LV) X}{H:aQ Hp Y}
  {LT:X→Y→df} (hL:∀x y,aK P (H.wr y) (LT x y) (aJ fn)) {ks:List Wk} {V:Z→LV} {D:Z→List (Nat×Item)} {T:X→Y→Tr Z} {out:X→Y→Out}
  (hT:∀x y,aH P tab (LT x y) fn (A.wr x) (H.wr y) ks=(T x y).end V D (H.wr y)) (hO:∀x y Q,(out x y).holds Q→∃z,(T x y).Is z∧Q (V z) (D z)):
  (an.cm tys A H out).Ok P f:=by
 refine(an.aS he fun x y Q h=>?_).sym;obtain⟨z,h1,h2⟩:=hO x y Q h;refine(ar kO qB hf hb (ks:=ks) (hL x y)).use (V:=V z) (D:=D z) ?_ h2;rw[hT];exact Tr.mV h1
inductive cK {X Z:Type} (L:X→Tr (X⊕Z)):X→Z→Prop where
 |stop {x z} (h:(L x).Is (.inr z)):cK L x z
 |go {x y z} (h:(L x).Is (.inl y)) (t:cK L y z):cK L x z
inductive za {X Z:Type} (L:X→Tr (X⊕Z)):Nat→X→Z→Prop where
 |stop {n x z} (h:(L x).Is (.inr z)):za L n x z
 |go {n x y z} (h:(L x).Is (.inl y)) (t:za L n y z):za L (n+1) x z
theorem cK.n{X Z:Type}{L:X→Tr (X⊕Z)}{x:X}{z:Z}(h:cK L x z):∃n,za L n x z:=by
 induction h with
 |stop h=>exact⟨0,.stop h⟩
 |go h _ ih=>obtain⟨n,h'⟩:=ih;exact⟨n+1,.go h h'⟩
theorem cK.iter{X Z:Type}{L:X→Tr (X⊕Z)}{z:Z}(f:Nat→X)(n:Nat)(h:∀k,k<n→(L (f k)).Is (.inl (f (k+1))))(he:(L (f n)).Is (.inr z)):cK L (f 0) z:=by
 have key:∀m k,k+m=n→cK L (f k) z:=by
  intro m
  induction m with
  |zero=>intro k hk;have:k=n:=by omega
         subst this;exact .stop he
  |succ m ih=>intro k hk;exact .go (h k (by omega)) (ih (k+1) (by omega))
 exact key n 0 (by omega)
def Tr.res{X Z:Type}(C:X→St)(E:Z→Exit×St):Tr (X⊕Z)→aG
 | .ret (.inl y)=>.leaf .normal (C y)
 | .ret (.inr z)=>.leaf (E z).1 (E z).2
 | .ite b t e=>.ite b (t.res C E) (e.res C E)
 | .need p t=>.need p (t.res C E)
 | .fail=>.fail
theorem Tr.Ez{X Z:Type}{C:X→St}{E:Z→Exit×St}{y:X}:∀ {t:Tr (X⊕Z)},t.Is (.inl y)→(t.res C E).sat fun e s=>e= .normal∧s=C y
 | .ret _,h=>by cases h;exact⟨rfl,rfl⟩
 | .ite _ _ _,h=>⟨fun e=>Tr.Ez (h.1 e),fun e=>Tr.Ez (h.2 e)⟩
 | .need _ _,h=>⟨h.1,Tr.Ez h.2⟩
 | .fail,h=>h
theorem Tr.sO{X Z:Type}{C:X→St}{E:Z→Exit×St}{z:Z}:∀ {t:Tr (X⊕Z)},t.Is (.inr z)→(t.res C E).sat fun e s=>e=(E z).1∧s=(E z).2
 | .ret _,h=>by cases h;exact⟨rfl,rfl⟩
 | .ite _ _ _,h=>⟨fun e=>Tr.sO (h.1 e),fun e=>Tr.sO (h.2 e)⟩
 | .need _ _,h=>⟨h.1,Tr.sO h.2⟩
 | .fail,h=>h
theorem cn{P:Program}(kO:P.follows .mixedOrders=true){tab:List (FuncId×an)}(qB:∀p∈tab,p.2.Ok P p.1){LT:df}{fn:Func}{id:Nat}{hp:Hp}{ws:Exit→List Wk}(hL:aK P hp LT (aP fn id))
  {X Z:Type} {C:aQ St X} {E:Z→Exit×St} {L:X→Tr (X⊕Z)} {pre:X→Prop} {sp:X→Z} {F:X→aG}
  (hT:∀x,ct P tab LT fn id hp ws (C.wr x)=(L x).res C.wr E) (hE:∀z,(E z).1≠ .normal) (hF:∀x R,(F x).sat R→pre x∧R (E (sp x)).1 (E (sp x)).2) (hI:∀x,pre x→cK L x (sp x)) (x:X):
  Ex P hp (.loop (aP fn id)) (C.wr x) (F x):=by
 intro W β₀ R Q hs hq β a w hr;obtain⟨hx,hs2⟩:=hF x R hs;obtain⟨n,hn⟩:=(hI x hx).n
 have key:Ex P hp (.loop (aP fn id)) (C.wr x) (.leaf (E (sp x)).1 (E (sp x)).2):=by
  refine Ex.cJ (X:=Nat×X) (fun p=>p.1) (fun p=>C.wr p.2) (fun p=>za L p.1 p.2 (sp x)) (fun p=>(L p.2).res C.wr E) (fun _=>.leaf (E (sp x)).1 (E (sp x)).2) (fun p _=>by have:=SL kO qB hL (P:=P) (ws:=ws) (st:=C.wr p.2);rw[hT]at this;exact this) (fun p R hp hs=>?_) (x:=(n,x)) hn;obtain⟨k,y⟩:=p
  cases hp with
  |stop h=>exact aG.oq (fun e s ⟨h1,h2⟩=>.inr ⟨by rw[h1];exact hE _,by rw[h1,h2];exact hs⟩) (Tr.sO h)
  |go h t=>exact aG.oq (fun e s ⟨h1,h2⟩=>.inl ⟨h1,(_,_),h2,t,Nat.lt_succ_self _,hs⟩) (Tr.Ez h)
 exact key W β₀ R Q hs2 hq β a w hr
abbrev e9{X Z:Type}(pre:X→Prop)(sp:X→Z)(E:Z→Exit×St)(x:X):aG:=.need (pre x) (.leaf (E (sp x)).1 (E (sp x)).2)
abbrev mW{X Z Z':Type}(pre:X→Prop)(c:X→Bool)(sp:X→Z)(SP:X→Z')(E:Z→Exit×St)(E':Z'→Exit×St)(x:X):aG:=.need (pre x) (.ite (c x) (.leaf (E (sp x)).1 (E (sp x)).2) (.leaf (E' (SP x)).1 (E' (SP x)).2))
theorem fH{X Z:Type}{E:Z→Exit×St}{pre:X→Prop}{sp:X→Z}:∀ (x:X) (R:Exit→St→Prop),(e9 pre sp E x).sat R→pre x∧R (E (sp x)).1 (E (sp x)).2:=fun _ _ h=>h
theorem oA{X Z Z':Type}{E:Z→Exit×St}{E':Z'→Exit×St}{pre:X→Prop}{c:X→Bool}{sp:X→Z}{SP:X→Z'}:∀ (x:X) (R:Exit→St→Prop),(mW pre c sp SP E E' x).sat R→
  pre x∧R (Sum.elim E E' (bif c x then .inl (sp x)else .inr (SP x))).1 (Sum.elim E E' (bif c x then .inl (sp x)else .inr (SP x))).2:=fun x R h=>⟨h.1,by
 cases hc:c x with
 |true=>exact h.2.1 hc
 |false=>exact h.2.2 hc⟩
def wT(n:List Wk)(id:Nat)(x r:List Wk):Exit→List Wk
 | .normal=>n
 | .exit i=>if i=id then x else n
 | .ret=>r
 |_=> []
def gA(n:Nat)(r:List LV):List LV:=List.replicate n .bP++r
def cx{X:Type}(c:aQ Item X):aQ (Option Item) X where
 rd x:=match x with
  |some x=>c.rd x
  |none=>none
 wr x:=some (c.wr x)
 ok:=by
  intro x v h
  split at h
  ·rw[c.ok h]
  ·cases h
def xd{X:Type}(e:TypeId)(r:aQ (List SV) X):aQ Item X where
 rd x:=match x with
  | .ba cells e'=>if e'=e then r.rd cells else none
  |_=>none
 wr x:=.ba (r.wr x) e
 ok:=by
  intro x v h
  split at h
  ·split at h
   ·rename_i e;subst e;rw[r.ok h]
   ·cases h
  ·cases h
end Go.Ev
end
noncomputable section
namespace Go.Proofs.YtnbkagglkajbkaaGreat
open Go Go.Ev Go.Proofs.Tryz
open Go.IntKind (i64 signed u16 u64 wrap)
set_option maxRecDepth 1000000
abbrev jCo:aQ Ev.Item Int:=(xd 249 (ai (j0 1 0) (ae (aA .u64) ag))).lV (fun x=>x.1) (fun w=>(w,())) (fun _=>rfl)
abbrev xe:aQ Hp (Int×List Int×Unit):=ae (cx jCo) (ae (cE 0 u8) ag)
abbrev akc:aQ (List LV) (Int×Unit):=ai (ah (aD 0 0)) (ae (ah (aA .u64)) ag)
abbrev ko:aQ (List LV) Unit:=ai (ah (aD 0 0)) ag
def dG(w:Int)(l:List Int):Int×List Int:=if w<16777216 then(w*256,l++ [0])else(w,l)
def da:Nat→Int→List Int→List Int
 |0,_,l=>l
 |i+1,n,l=>if 0<n then da i ((n+l.getD i 0)/256) (l.set i ((n+l.getD i 0)%256))else l
abbrev SQ:Type:=Int×(List Int)
abbrev aoF(x:SQ):LV:=LV.c6 []
abbrev aoG(x:SQ):List (Nat×Ev.Item):= [(0,Item.ba [SV.sl 1 1,SV.int u64 (SI.sym x.1)] 249),(1,Item.own 1
 (Ty.int IntKind.u8) x.2)]
def abc(w:Int)(l:List Int):Tr (SQ):=(.ite (decide (w<16777216)) (.need ((l.length+1)*1≤70368744177664∧l.length+
 1≤70368744177664) (.ret (shl u64 w 8,l++ [0]))) (.ret (w,l)))
theorem V4(w:Int)(l:List Int):aH Tryz.prog [] [] f259 ((ko).wr (())) ((xe).wr (w,l,())) [.one 1,.fr [.sym],.syms,.auto,.aF]=(abc w l).end aoF aoG ((xe).wr (w,l,())):=by kernel_rfl
theorem abd(w:Int)(l:List Int):aK Tryz.prog ((xe).wr (w,l,())) [] (aJ f259):=(aK.nil _)
abbrev pQ(w:Int)(l:List Int):Prop:=0≤w∧w<72057594037927936∧l.length<1099511627776
abbrev abe(w:Int)(l:List Int):SQ:=dG w l
def abf:an:=cQ [] (ko) (xe) (fun x_ y_=>pQ y_.1 y_.2.1) (fun x_ y_=>abe y_.1 y_.2.1) aoF aoG
theorem akd(w:Int)(l:List Int)(h_:pQ w l):(abc w l).Is (abe w l):=by
 delta abe;obtain⟨h1,h2,h3⟩:=h_;simp only[abc,dG,a5,aq,ao];refine⟨fun h=>⟨by omega,?_⟩,fun h=>?_⟩
 ·rw[if_pos h]
  have:shl .u64 w 8=w*256:=by
   have:=gL .u64 w 8 (by decide);rw[show((8:Nat):Int)=8 from rfl]at this;rw[this,wrap_u64]<;>omega
  rw[this]
 ·rw[if_neg h]
theorem SR:abf.Ok Tryz.prog 259:=
 bJ mixed aw func259 (by kernel_rfl) call259 (fun x_ y_=>abd y_.1 y_.2.1) (fun x_ y_=>V4 y_.1 y_.2.1) (fun x_ y_ h=>akd y_.1 y_.2.1 h)
abbrev zb:Type:=Int×Int×Int×(List Int)
abbrev zd:aQ St zb:=(aT (ai (ah (aD (0) (0))) (ae (ah (aA u64)) (jk 2 (ae (ah (aA
 i64)) (jk 34 ag))))) (ae (cx jCo) (ae (cE (0) (Ty.int IntKind.u8)) ag))).lV (fun y=>(y.1.1,y.1.2.1,y.2.1,y.2.2.1)) (fun x
 =>((x.1,(x.2.1,())),(x.2.2.1,(x.2.2.2,())))) (fun _=>rfl)
abbrev Nz:List Wk:= [.fr (cb 39 [(0,.ak),(1,.ak),(4,.ak)]),.syms,.auto,.aF]
abbrev abg:Exit→List Wk:=wT Nz 0 [.fr (cb 39 []),.syms,.auto,.aF] [.fr (cb 39 []),.syms,.auto,.aF]
abbrev NA:Type:=Int×(List Int)
abbrev abh(x:NA):Exit×St:=(Exit.exit 0,⟨(gA 39 []),[some (jCo.wr x.1),some (Item.own 0 (Ty.int IntKind.u8) x.2)]⟩)
def ze(m:Int)(i:Int)(w':Int)(l':List Int):Tr (zb⊕(NA)):=(.ite (decide (0≤i)==true) (.ite (decide (0<
 m)) (.need (0≤i∧i<(↑l'.length:Int)) (.need (0≤i∧i<(↑l'.length:Int)) (.ret (.inl (shr u64 (u64.wrap (m+
 u64.wrap (l'.getD i.toNat 0))) 8,i64.wrap (i-1),w',l'.set i.toNat (IntKind.u8.wrap (u64.wrap (m+u64.wrap
 (l'.getD i.toNat 0))))))))) (.ret (.inr (w',l')))) (.ret (.inr (w',l'))))
theorem NB(n:Int)(w:Int)(l:List Int)(m:Int)(i:Int)(w':Int)(l':List Int):ct Tryz.prog [] [] f258 0 ((xe).wr (w,l,())) abg (zd.wr (m,i,w',l'))=(ze m i w' l').res zd.wr abh:=by kernel_rfl
abbrev zf(m:Int)(i:Int)(w':Int)(l':List Int):Prop:= -1≤i∧i<l'.length∧l'.length<1099511627776∧0≤m∧m<72057594037927936∧aN l'
abbrev NC(m:Int)(i:Int)(w':Int)(l':List Int):NA:=(w',da (i+1).toNat m l')
abbrev ND:zb→aG:=e9 (fun x_=>zf x_.1 x_.2.1 x_.2.2.1 x_.2.2.2) (fun x_=>NC x_.1 x_.2.1 x_.2.2.1 x_.2.2.2) abh
theorem abi(m:Int)(i:Int)(w':Int)(l':List Int)(h_:zf m i w' l'):cK (fun x_:zb=>ze x_.1 x_.2.1 x_.2.2.1 x_.2.2.2) (m,i,w',l') (NC m i w' l'):=by
 delta NC;obtain⟨h1,h2,h6,h3,h4,h5⟩:=h_;obtain⟨k,hk⟩:∃k:Nat,i=(k:Int)-1:=⟨(i+1).toNat,by omega⟩;subst hk;clear h1
 induction k generalizing m l' with
 |zero=>
  refine .stop ?_;simp only[ze,iR,a5,aq,ao];exact⟨fun h=>by omega,fun h=>rfl⟩
 |succ k ih=>
  by_cases hm:0<m
  ·have hb:By (l'.getD k 0):=h5.getD k;have hk:((k:Nat)+1:Int)-1=k:=(by omega);have sP:=ih ((m+l'.getD k 0)/256) (l'.set k ((m+l'.getD k 0)%256)) (by rw[List.length_set];omega) (by have:=hb.1;omega) (by have:=hb.2;omega) (h5.set k ⟨by omega,by omega⟩) (by rw[List.length_set];omega)
   have e:da (((k+1:Nat):Int)-1+1).toNat m l'=da ((k:Int)-1+1).toNat ((m+l'.getD k 0)/256) (l'.set k ((m+l'.getD k 0)%256)):=by
    rw[show(((k+1:Nat):Int)-1+1).toNat=k+1 from by omega,show((k:Int)-1+1).toNat=k from by omega,da,if_pos hm]
   rw[e];refine .go ?_ sP;simp only[ze,iR,a5,aq,ao];have h2':(k:Int)<l'.length:=(by omega);have ek:(((k+1:Nat):Int)-1)=(k:Int):=(by omega);rw[ek];have e1:u64.wrap (l'.getD k 0)=l'.getD k 0:=wrap_u64 hb.1 (by have:=hb.2;omega);have e2:u64.wrap (m+l'.getD k 0)=m+l'.getD k 0:=wrap_u64 (by have:=hb.1;omega) (by have:=hb.2;omega);refine⟨fun _=>⟨fun _=>⟨⟨by omega,h2'⟩,⟨by omega,h2'⟩,?_⟩,fun h=>absurd hm h⟩,fun h=>by omega⟩;have hb1:=hb.1;have sa:=hb.2;have e3:shr .u64 (m+l'.getD k 0) 8=(m+l'.getD k 0)/256:=cz .u64 _ 8 (by decide);rw[Int.toNat_natCast,e1,e2,e3,wrap_u8,au (n:=(k:Int)-1) (by omega) (by omega)]
  ·have e:da (((k+1:Nat):Int)-1+1).toNat m l'=l':=by
    rw[show(((k+1:Nat):Int)-1+1).toNat=k+1 from by omega,da,if_neg hm]
   rw[e];refine .stop ?_;simp only[ze,iR,a5,aq,ao];exact⟨fun _=>⟨fun h=>absurd h hm,fun _=>trivial⟩,fun h=>by omega⟩
theorem V5(n:Int)(w:Int)(l:List Int):∀x:zb,Ex Tryz.prog ((xe).wr (w,l,())) (.loop (aP f258 0)) (zd.wr x) (ND x):=
 cn mixed aw (ws:=abg) (aK.nil _) (fun x_=>NB n w l x_.1 x_.2.1 x_.2.2.1 x_.2.2.2) (fun z e=>by cases e) fH (fun x_ h=>abi x_.1 x_.2.1 x_.2.2.1 x_.2.2.2 h)
abbrev SS:Type:=List Int
abbrev aoH(x:SS):LV:=LV.c6 []
abbrev aoI(x:SS):List (Nat×Ev.Item):= [(1,Item.own 0 (Ty.int IntKind.u8) x)]
def abj(n:Int)(w:Int)(l:List Int):Tr (SS):=(.need (zf n (i64.wrap ((↑l.length:Int)-1)) w l) (.ret
 (da (Int.toNat (i64.wrap ((↑l.length:Int)-1)+1)) n l)))
theorem V6(n:Int)(w:Int)(l:List Int):aH Tryz.prog [] [(0,bU zd ((xe).wr (w,l,())) Nz (ND))] f258 ((akc).wr (n,())) ((xe).wr (w,l,())) [.fr [.sym],.syms,.auto,.aF]=(abj n w l).end aoH aoI ((xe).wr (w,l,())):=by kernel_rfl
theorem abk(n:Int)(w:Int)(l:List Int):aK Tryz.prog ((xe).wr (w,l,())) [(0,bU zd ((xe).wr (w,l,())) Nz (ND))] (aJ f258):=(aK.bI (iu (by kernel_rfl) (bM (hp:=(xe).wr (w,l,())) (V5 n w l)) iE))
abbrev xr(n:Int)(w:Int)(l:List Int):Prop:=l.length<1099511627776∧0≤n∧n<72057594037927936∧aN l
abbrev abl(n:Int)(w:Int)(l:List Int):SS:=da l.length n l
def abm:an:=cQ [] (akc) (xe) (fun x_ y_=>xr x_.1 y_.1 y_.2.1) (fun x_ y_=>abl x_.1 y_.1 y_.2.1) aoH aoI
theorem ake(n:Int)(w:Int)(l:List Int)(h_:xr n w l):(abj n w l).Is (abl n w l):=by
 delta abl;obtain⟨h1,h2,h3,h4⟩:=h_;have e:i64.wrap ((l.length:Int)-1)=l.length-1:=au (by omega) (by omega);simp only[abj,aq,ao,e];refine⟨⟨by omega,by omega,h1,h2,h3,h4⟩,?_⟩;rw[show((l.length:Int)-1+1).toNat=l.length from by omega]
theorem SU:abm.Ok Tryz.prog 258:=
 bJ mixed aw func258 (by kernel_rfl) call258 (fun x_ y_=>abk x_.1 y_.1 y_.2.1) (fun x_ y_=>V6 x_.1 y_.1 y_.2.1) (fun x_ y_ h=>ake x_.1 y_.1 y_.2.1 h)
def pS(w:Int)(l:List Int):Prop:=16777216≤w∧w<4294967296∧aN l∧l.length<1099511627776
theorem eJ:∀ (i:Nat) (n:Int) (l:List Int),(da i n l).length=l.length
 |0,_,_=>rfl
 |i+1,n,l=>by
  unfold da
  split
  ·rw[eJ i,List.length_set]
  ·rfl
theorem zg:∀ (i:Nat) (n:Int) (l:List Int),aN l→aN (da i n l)
 |0,_,_,h=>h
 |i+1,n,l,h=>by
  unfold da
  split
  ·exact zg i _ _ (h.set i ⟨by omega,by omega⟩)
  ·exact h
def bD(p b w:Int)(l:List Int):Int×List Int:=if b=0 then dG (w/2048*aW p) l else dG (w-w/2048*aW p) (da l.length (w/2048*aW p) l)
theorem js{w:Int}(p:Int)(h:16777216≤w)(h':w<4294967296):253952≤w/2048*aW p∧w/2048*aW p<4294967296∧253952≤w-w/2048*aW p:=by
 have h1:=fW p;generalize aW p=q at*;have h2:8192≤w/2048:=by omega
 have h3:w/2048*2048≤w:=by omega
 generalize w/2048=u at*;obtain⟨q1,q2⟩:=h1;have a1:u*31≤u*q:=Int.mul_le_mul_of_nonneg_left q1 (by omega);have a2:u*q≤u*2017:=Int.mul_le_mul_of_nonneg_left q2 (by omega);generalize u*q=z at*;omega
theorem xt{w:Int}{l:List Int}(h1:65536≤w)(h2:w<4294967296)(h3:aN l)(h4:l.length<1099511627775):pS (dG w l).1 (dG w l).2:=by
 unfold dG pS
 split
 ·refine⟨by simp only;omega,by simp only;omega,h3.append (aN.cons ⟨by omega,by omega⟩ aN.nil),by simp;omega⟩
 ·exact⟨by simp only;omega,h2,h3,by simp only;omega⟩
def dW(b w:Int)(l:List Int):Int×List Int:=if b=0 then dG (w/2) l else dG (w/2) (da l.length (w/2) l)
theorem jt{p b w:Int}{l:List Int}(h:pS w l)(hl:l.length<1099511627775):pS (bD p b w l).1 (bD p b w l).2:=by
 obtain⟨h1,h2,h3,h4⟩:=h;have hb:=js p h1 h2;unfold bD
 split
 ·exact xt (by omega) (by omega) h3 hl
 ·exact xt (by omega) (by omega) (zg _ _ _ h3) (by rw[eJ];exact hl)
theorem pT{b w:Int}{l:List Int}(h:pS w l)(hl:l.length<1099511627775):pS (dW b w l).1 (dW b w l).2:=by
 obtain⟨h1,h2,h3,h4⟩:=h;unfold dW
 split
 ·exact xt (by omega) (by omega) h3 hl
 ·exact xt (by omega) (by omega) (zg _ _ _ h3) (by rw[eJ];exact hl)
theorem sQ(w:Int)(l:List Int):(dG w l).2.length≤l.length+1:=by unfold dG;split<;>simp
theorem ju(p b w:Int)(l:List Int):(bD p b w l).2.length≤l.length+1:=by
 unfold bD
 split
 ·exact sQ _ _
 ·refine Nat.le_trans (sQ _ _) (by rw[eJ];exact Nat.le_refl _)
theorem pU(b w:Int)(l:List Int):(dW b w l).2.length≤l.length+1:=by
 unfold dW
 split
 ·exact sQ _ _
 ·refine Nat.le_trans (sQ _ _) (by rw[eJ];exact Nat.le_refl _)
abbrev SW:Type:=Int×Int×(List Int)
abbrev aoJ(x:SW):LV:=LV.one (VV.sc (SV.int i64 (SI.sym x.1)))
abbrev aoK(x:SW):List (Nat×Ev.Item):= [(0,Item.ba [SV.sl 1 1,SV.int u64 (SI.sym x.2.1)] 249),(1,Item.own 1
 (Ty.int IntKind.u8) x.2.2)]
def abn(p:Int)(b:Int)(w:Int)(l:List Int):Tr (SW):=(.ite (b==0) (.need (pQ (u64.wrap (shr u64
 w 11*u64.wrap (aW p))) l) (.ret (cH p b,(dG (u64.wrap (shr u64 w 11*u64.wrap (aW p))) l).fst,(dG
 (u64.wrap (shr u64 w 11*u64.wrap (aW p))) l).snd))) (.need (xr (u64.wrap (shr u64 w 11*
 u64.wrap (aW p))) w l) (.need (pQ (u64.wrap (w-u64.wrap (shr u64 w 11*u64.wrap (aW p)))) (da
 l.length (u64.wrap (shr u64 w 11*u64.wrap (aW p))) l)) (.ret (cH p b,(dG (u64.wrap (w-u64.wrap
 (shr u64 w 11*u64.wrap (aW p)))) (da l.length (u64.wrap (shr u64 w 11*u64.wrap (aW p))) l)).fst,
 (dG (u64.wrap (w-u64.wrap (shr u64 w 11*u64.wrap (aW p)))) (da l.length (u64.wrap (shr u64
 w 11*u64.wrap (aW p))) l)).snd)))))
theorem V7(p b:Int)(w:Int)(l:List Int):aH Tryz.prog [(259,abf),(258,abm),(257,Et),(260,sL)] [] f182 ((qP).wr (p,b,())) ((xe).wr (w,l,())) [.one 1,.fr [.sym],.syms,.auto,.aF]=(abn p b w l).end aoJ aoK ((xe).wr (w,l,())):=by kernel_rfl
theorem abo(p b:Int)(w:Int)(l:List Int):aK Tryz.prog ((xe).wr (w,l,())) [] (aJ f182):=(aK.nil _)
abbrev xu(p b:Int)(w:Int)(l:List Int):Prop:=pS w l
abbrev abp(p b:Int)(w:Int)(l:List Int):SW:=(cH p b,bD p b w l)
def I6:an:=cQ [] (qP) (xe) (fun x_ y_=>xu x_.1 x_.2.1 y_.1 y_.2.1) (fun x_ y_=>abp x_.1 x_.2.1 y_.1 y_.2.1) aoJ aoK
theorem akf(p b:Int)(w:Int)(l:List Int)(h_:xu p b w l):(abn p b w l).Is (abp p b w l):=by
 delta abp;obtain⟨h1,h2,h3,h4⟩:=h_;have hb:=js p h1 h2;have hh:=fW p;have e0:u64.wrap (aW p)=aW p:=wrap_u64 (by omega) (by omega);have e1:shr .u64 w 11=w/2048:=cz .u64 w 11 (by decide);have e2:u64.wrap (w/2048*aW p)=w/2048*aW p:=wrap_u64 (by omega) (by omega);have e3:u64.wrap (w-w/2048*aW p)=w-w/2048*aW p:=wrap_u64 (by omega) (by omega);simp only[abn,bD,dV,aq,ao,e0,e1,e2,e3];refine⟨fun h=>⟨⟨by omega,by omega,h4⟩,by rw[if_pos h]⟩,fun h=>⟨⟨h4,by omega,by omega,h3⟩,⟨by omega,by omega,by rw[eJ];exact h4⟩,by rw[if_neg h]⟩⟩
theorem xw:I6.Ok Tryz.prog 182:=
 bJ mixed ((al SR (al SU (al sK (al pP aw))))) func182 (by kernel_rfl) call182 (fun x_ y_=>abo x_.1 x_.2.1 y_.1 y_.2.1) (fun x_ y_=>V7 x_.1 x_.2.1 y_.1 y_.2.1) (fun x_ y_ h=>akf x_.1 x_.2.1 y_.1 y_.2.1 h)
abbrev EA:Type:=Int×(List Int)
abbrev abq(x:EA):LV:=LV.c6 []
abbrev abr(x:EA):List (Nat×Ev.Item):= [(0,Item.ba [SV.sl 1 1,SV.int u64 (SI.sym x.1)] 249),(1,Item.own 1
 (Ty.int IntKind.u8) x.2)]
def NF(b:Int)(w:Int)(l:List Int):Tr (EA):=(.ite (b !=0) (.need (xr (u64.wrap (w.tdiv 2))
 (u64.wrap (w.tdiv 2)) l) (.need (pQ (u64.wrap (w.tdiv 2)) (da l.length (u64.wrap (w.tdiv 2)) l)) (.ret ((dG
 (u64.wrap (w.tdiv 2)) (da l.length (u64.wrap (w.tdiv 2)) l)).fst,(dG (u64.wrap (w.tdiv 2)) (da l.length
 (u64.wrap (w.tdiv 2)) l)).snd)))) (.need (pQ (u64.wrap (w.tdiv 2)) l) (.ret ((dG (u64.wrap (w.tdiv 2)) l).fst,(dG
 (u64.wrap (w.tdiv 2)) l).snd))))
theorem NG(b:Int)(w:Int)(l:List Int):aH Tryz.prog [(259,abf),(258,abm),(257,Et),(260,sL)] [] f184 ((sN).wr (b,())) ((xe).wr (w,l,())) [.one 1,.fr [.sym],.syms,.auto,.aF]=(NF b w l).end abq abr ((xe).wr (w,l,())):=by kernel_rfl
theorem V8(b:Int)(w:Int)(l:List Int):aK Tryz.prog ((xe).wr (w,l,())) [] (aJ f184):=(aK.nil _)
abbrev zh(b:Int)(w:Int)(l:List Int):Prop:=pS w l
abbrev NH(b:Int)(w:Int)(l:List Int):EA:=dW b w l
def NI:an:=cQ [] (sN) (xe) (fun x_ y_=>zh x_.1 y_.1 y_.2.1) (fun x_ y_=>NH x_.1 y_.1 y_.2.1) abq abr
theorem abt(b:Int)(w:Int)(l:List Int)(h_:zh b w l):(NF b w l).Is (NH b w l):=by
 delta NH;obtain⟨h1,h2,h3,h4⟩:=h_;have e1:w.tdiv 2=w/2:=Int.tdiv_eq_ediv_of_nonneg (by omega);have e2:u64.wrap (w/2)=w/2:=wrap_u64 (by omega) (by omega);simp only[NF,dW,vo,aq,ao,e1,e2];refine⟨fun h=>⟨⟨by omega,by omega,h4⟩,by rw[if_pos h]⟩,fun h=>⟨⟨h4,by omega,by omega,h3⟩,⟨by omega,by omega,by rw[eJ];exact h4⟩,by rw[if_neg h]⟩⟩
theorem I7:NI.Ok Tryz.prog 184:=
 bJ mixed ((al SR (al SU (al sK (al pP aw))))) func184 (by kernel_rfl) call184 (fun x_ y_=>V8 x_.1 y_.1 y_.2.1) (fun x_ y_=>NG x_.1 y_.1 y_.2.1) (fun x_ y_ h=>abt x_.1 y_.1 y_.2.1 h)
abbrev SX:Type:=Int×(List Int)
abbrev aoL(x:SX):LV:=LV.one (VV.sc (SV.ptr 0 0))
abbrev aoM(x:SX):List (Nat×Ev.Item):= [(0,Item.ba [SV.sl 1 0,SV.int u64 (SI.sym x.1)] 249),(1,Item.own 0
 (Ty.int IntKind.u8) x.2)]
def aoN:Tr (SX):=(.need ((4:Int)=4∧(0:Int)≤4∧(4:Int)≤70368744177664∧(4:Int)≤70368744177664) (.ret
 (4294967295,List.replicate 4 (0:Int))))
theorem V9:aH Tryz.prog [] [] f125 ((ag).wr (())) ((ag).wr (())) [.fr [.sym],.syms,.auto,.aF]=(aoN).end aoL aoM ((ag).wr (())):=by kernel_rfl
theorem abu:aK Tryz.prog ((ag).wr (())) [] (aJ f125):=(aK.nil _)
abbrev EB:Prop:=True
abbrev abv:SX:=(4294967295,[0,0,0,0])
def abw:an:=cQ [] (ag) (ag) (fun _ _=>EB) (fun _ _=>abv) aoL aoM
theorem akg(h_:EB):(aoN).Is (abv):=by
 delta abv;exact⟨⟨rfl,by decide,by decide,by decide⟩,rfl⟩
theorem SY:abw.Ok Tryz.prog 125:=
 bJ mixed aw func125 (by kernel_rfl) call125 (fun x_ y_=>abu) (fun x_ y_=>V9) (fun x_ y_ h=>akg h)
abbrev jTr:aQ Ev.Item Unit:=xd 332 (ai (j0 3 0) ag)
abbrev sR:aQ Hp (Int×List Int×List Int×Unit):=ae (cx jCo) (ae (cE 0 u8) (ai (cx jTr) (ae (cE 0 (.int .u16)) ag)))
abbrev arc:aQ Ev.Item Unit:=xd 332 (ai (j0 1 0) ag)
abbrev EC:aQ Hp (List Int×Unit):=ai (cx arc) (ae (cE 0 (.int .u16)) ag)
def lg(p:List Int):Nat:=p.length.log2
def MI(p:List Int):Prop:=lg p≤8∧p.length=2 ^ lg p∧gD p∧∀i:Nat,1≤i→i<2 ^ lg p→1≤p.getD i 0
theorem k9(n:Nat)(h:n≤8):shl .i64 1 n=((2 ^ n:Nat):Int):=by
 rw[gL .i64 1 n (by simp[IntKind.bits];omega),Int.one_mul];have h1:(2:Nat) ^ n≤256:=Nat.le_trans (Nat.pow_le_pow_right (by omega) h) (by decide);generalize (2:Nat) ^ n=m at*;exact au (by omega) (by omega)
theorem ED{p:List Int}(h:MI p){n:Nat}(hn:n≤lg p):kj p ((2 ^ n:Nat):Int)=0↔n=lg p:=by
 obtain⟨h1,h2,h3,h4⟩:=h;have hp:0<(2:Nat) ^ n:=Nat.two_pow_pos n;unfold kj qD
 by_cases e:n=lg p
 ·subst e;rw[h2];generalize (2:Nat) ^ lg p=m at*;rw[if_neg (by simp)];exact⟨fun _=>rfl,fun _=>rfl⟩
 ·have dQ:(2:Nat) ^ n<2 ^ lg p:=Nat.pow_lt_pow_right (by omega) (by omega);have h5:=h4 (2 ^ n) hp dQ;rw[h2];generalize (2:Nat) ^ lg p=M at*;generalize (2:Nat) ^ n=m at*;rw[if_pos (decide_eq_true ⟨by omega,by omega⟩),Int.toNat_natCast];exact⟨fun h=>by omega,fun h=>absurd h e⟩
abbrev sS:Type:=Int×(List Int)
abbrev sT:aQ St sS:=(aT (ai (ah (aD (0) (0))) (jk 2 (ae (ah (aA i64)) (jk 8 ag)))) (ai (cx
 arc) (ae (cE (0) (Ty.int u16)) ag))).lV (fun y=>(y.1.1,y.2.1)) (fun x=>((x.1,()),(x.2,()))) (fun _=>rfl)
abbrev EE:List Wk:= [.fr (cb 12 [(0,.ak),(3,.ak)]),.syms,.auto,.aF]
abbrev SZ:Exit→List Wk:=wT EE 0 [.fr (cb 12 [(3,.ak)]),.syms,.auto,.aF] [.fr (cb 12 [(2,.ak)]),.syms,.auto,.aF]
abbrev EF:Type:=Int×(List Int)
abbrev S0(x:EF):Exit×St:=(Exit.exit 0,⟨(gA 3 (LV.one (VV.sc (SV.int i64 (SI.sym x.1)))::(gA 8 []))),
 [some (arc.wr ()),some (Item.own 0 (Ty.int u16) x.2)]⟩)
def xx(n:Int)(p':List Int):Tr (sS⊕(EF)):=(.need (0≤n) (.need (gD p') (.ite (kj p' (shl i64 1 n)
 !=0) (.ret (.inl (i64.wrap (n+1),p'))) (.ret (.inr (n,p'))))))
theorem I8(p:List Int)(n:Int)(p':List Int):ct Tryz.prog [(262,V3)] [] f261 0 ((EC).wr (p,())) SZ (sT.wr (n,p'))=(xx n p').res sT.wr S0:=by kernel_rfl
abbrev vp(n:Int)(p':List Int):Prop:=n=0∧MI p'
abbrev EG(n:Int)(p':List Int):EF:=((lg p':Int),p')
abbrev EH:sS→aG:=e9 (fun x_=>vp x_.1 x_.2) (fun x_=>EG x_.1 x_.2) S0
theorem Wa(n:Int)(p':List Int)(h_:vp n p'):cK (fun x_:sS=>xx x_.1 x_.2) (n,p') (EG n p'):=by
 delta EG;obtain⟨rfl,h⟩:=h_;have h':=h;obtain⟨h1,h2,h3,h4⟩:=h';refine cK.iter (fun k=>((k:Int),p')) (lg p') (fun k hk=>?_) ?_
 ·simp only[xx,vo,aq,ao,k9 k (by omega),ED h (Nat.le_of_lt hk)];refine⟨by omega,h3,fun e=>by omega,fun _=>?_⟩;rw[au (by omega) (by omega)];rfl
 ·simp only[xx,vo,aq,ao,k9 (lg p') h1,ED h (Nat.le_refl _)];exact⟨by omega,h3,fun _=>trivial,fun e=>absurd ((ED h (Nat.le_refl _)).2 rfl) e⟩
theorem NJ(p:List Int):∀x:sS,Ex Tryz.prog ((EC).wr (p,())) (.loop (aP f261 0)) (sT.wr x) (EH x):=
 cn mixed ((al y8 aw)) (ws:=SZ) (aK.nil _) (fun x_=>I8 p x_.1 x_.2) (fun z e=>by cases e) fH (fun x_ h=>Wa x_.1 x_.2 h)
abbrev EI:Type:=Int
abbrev abx(x:EI):LV:=LV.one (VV.sc (SV.int i64 (SI.sym x)))
abbrev aby(x:EI):List (Nat×Ev.Item):= []
def abz(p:List Int):Tr (EI):=(.need (vp 0 p) (.ret ((↑(lg p):Int))))
theorem NK(p:List Int):aH Tryz.prog [(262,V3)] [(0,bU sT ((EC).wr (p,())) EE (EH))] f261 ((ko).wr (())) ((EC).wr (p,())) [.fr [.sym],.syms,.auto,.aF]=(abz p).end abx aby ((EC).wr (p,())):=by kernel_rfl
theorem Wb(p:List Int):aK Tryz.prog ((EC).wr (p,())) [(0,bU sT ((EC).wr (p,())) EE (EH))] (aJ f261):=(aK.bI (iu (by kernel_rfl) (bM (hp:=(EC).wr (p,())) (NJ p)) iE))
abbrev zi(p:List Int):Prop:=MI p
abbrev NL(p:List Int):EI:=(lg p:Int)
def NM:an:=cQ [] (ko) (EC) (fun x_ y_=>zi y_.1) (fun x_ y_=>NL y_.1) abx aby
theorem abA(p:List Int)(h_:zi p):(abz p).Is (NL p):=by
 delta NL;exact⟨⟨rfl,h_⟩,rfl⟩
theorem I9:NM.Ok Tryz.prog 261:=
 bJ mixed ((al y8 aw)) func261 (by kernel_rfl) call261 (fun x_ y_=>Wb y_.1) (fun x_ y_=>NK y_.1) (fun x_ y_ h=>abA y_.1 h)
def aZ:Nat→Int→Int→Int→List Int→List Int→Int×List Int×List Int
 |0,_,_,w,l,p=>(w,l,p)
 |k+1,v,node,w,l,p=>
  let b:=v/2 ^ k%2
  let c:=bD (kj p node) b w l
  aZ k v (2*node+b) c.1 c.2 (c9 p node b)
abbrev sU:Type:=Int×Int×Int×Int×(List Int)×(List Int)
abbrev sV:aQ St sU:=(aT (ai (ah (aD (0) (0))) (ai (ah (aD (2) (0))) (ae (ah (aA i64)) (jk 4
 (ae (ah (aA i64)) (ae (ah (aA i64)) (jk 43 ag))))))) (ae (fG (249) ((ai (j0 (1) (1)) (ae (aA u64)
 ag)))) (ae (cE (1) (Ty.int IntKind.u8)) (ai (cx jTr) (ae (cE (0) (Ty.int u16)) ag))))).lV (fun y=>(y.1.1,y.1.2.1,
 y.1.2.2.1,y.2.1.1,y.2.2.1,y.2.2.2.1)) (fun x=>((x.1,(x.2.1,(x.2.2.1,()))),((x.2.2.2.1,()),(x.2.2.2.2.1,(x.2.2.2.2.2,()))))) (fun _=>rfl)
abbrev EJ:List Wk:= [.one 1,.fr (cb 52 [(0,.ak),(1,.ak),(2,.ak),(7,.ak),(8,.ak)]),.syms,.auto,.aF]
abbrev S1:Exit→List Wk:=wT EJ 0 [.one 1,.fr (cb 52 []),.syms,.auto,.aF] [.one 1,.fr (cb 52 []),.syms,.auto,.aF]
abbrev EK:Type:=Int×(List Int)×(List Int)
abbrev S2(x:EK):Exit×St:=(Exit.exit 0,⟨(gA 52 []),[some (Item.ba [SV.sl 1 1,SV.int u64 (SI.sym x.1)]
 249),some (Item.own 1 (Ty.int IntKind.u8) x.2.1),some (jTr.wr ()),some (Item.own 0 (Ty.int u16) x.2.2)]⟩)
def xy(v':Int)(node:Int)(i:Int)(w':Int)(l':List Int)(p':List Int):Tr (sU⊕(EK)):=(.ite (decide (0≤
 i)) (.need (0≤i) (.need (gD p') (.need (xu (kj p' node) (aM i64 (shr i64 v' i) 1) w' l') (.need (gD p') (.ret (.inl
 (v',i64.wrap (i64.wrap (2*node)+aM i64 (shr i64 v' i) 1),i64.wrap (i-1),(bD (kj p' node)
 (aM i64 (shr i64 v' i) 1) w' l').fst,(bD (kj p' node) (aM i64 (shr i64 v' i) 1) w' l').snd,c9 p' node
 (aM i64 (shr i64 v' i) 1)))))))) (.ret (.inr (w',l',p'))))
theorem Ja(v:Int)(w:Int)(l:List Int)(p:List Int)(v':Int)(node:Int)(i:Int)(w':Int)(l':List Int)(p':List Int):ct Tryz.prog [(261,NM),(262,V3),(263,Ew),(182,I6)] [] f183 0 ((sR).wr (w,l,p,())) S1 (sV.wr (v',node,i,w',l',p'))=(xy v' node i w' l' p').res sV.wr S2:=by kernel_rfl
theorem Jb(p:List Int)(n b:Int):(c9 p n b).length=p.length:=by unfold c9;split<;>simp
theorem ld(p:List Int)(n b:Int):lg (c9 p n b)=lg p:=by unfold lg;rw[Jb]
theorem iS(l:List Int)(i j:Nat)(x:Int):(l.set i x).getD j 0=if i=j∧j<l.length then x else l.getD j 0:=by
 simp only[List.getD_eq_getElem?_getD,List.getElem?_set]
 by_cases h:i=j
 ·subst h
  by_cases h2:i<l.length
  ·simp[h2]
  ·simp[h2,List.getElem?_eq_none (Nat.le_of_not_lt h2)]
 ·simp[h]
theorem zj{p:List Int}(h:MI p)(n b:Int):MI (c9 p n b):=by
 obtain⟨h1,h2,h3,h4⟩:=h;have ha:=oz (p.getD n.toNat 0) b;refine⟨by rw[ld];exact h1,by rw[Jb,ld];exact h2,fun i=>?_,fun i k1 k2=>?_⟩
 ·unfold c9
  split
  ·rw[iS];split
   ·omega
   ·exact h3 i
  ·exact h3 i
 ·rw[ld]at k2;unfold c9
  split
  ·rw[iS];split
   ·omega
   ·exact h4 i k1 k2
  ·exact h4 i k1 k2
theorem EL{v:Int}(h0:0≤v)(k:Nat)(hk:k≤63):aM .i64 (shr .i64 v k) 1=v/2 ^ k%2:=by
 rw[cz .i64 v k (by simp[IntKind.bits];omega),k8 (m:=1) (by decide) _ _ (by decide)];simp
theorem EM{k n:Nat}(h:k≤n):(2:Int) ^ k≤2 ^ n:=by
 have:=Nat.pow_le_pow_right (n:=2) (by omega) h
 exact_mod_cast this
abbrev vq(v':Int)(node:Int)(i:Int)(w':Int)(l':List Int)(p':List Int):Prop:=MI p'∧pS w' l'∧0≤v'∧ -1≤i∧i<lg p'∧1≤node∧node<2 ^ (lg p'-(i+1).toNat+1)∧(l'.length:Int)+i<1099511600000
abbrev EN(v':Int)(node:Int)(i:Int)(w':Int)(l':List Int)(p':List Int):EK:=aZ (i+1).toNat v' node w' l' p'
abbrev EO:sU→aG:=e9 (fun x_=>vq x_.1 x_.2.1 x_.2.2.1 x_.2.2.2.1 x_.2.2.2.2.1 x_.2.2.2.2.2) (fun x_=>EN x_.1 x_.2.1 x_.2.2.1 x_.2.2.2.1 x_.2.2.2.2.1 x_.2.2.2.2.2) S2
theorem Wc(v':Int)(node:Int)(i:Int)(w':Int)(l':List Int)(p':List Int)(h_:vq v' node i w' l' p'):cK (fun x_:sU=>xy x_.1 x_.2.1 x_.2.2.1 x_.2.2.2.1 x_.2.2.2.2.1 x_.2.2.2.2.2) (v',node,i,w',l',p') (EN v' node i w' l' p'):=by
 delta EN;obtain⟨h1,h2,h3,h4,h5,h6,h7,h8⟩:=h_;obtain⟨k,hk⟩:∃k:Nat,i=(k:Int)-1:=⟨(i+1).toNat,by omega⟩;subst hk;clear h4
 induction k generalizing node w' l' p' with
 |zero=>
  refine .stop ?_;simp only[xy,iR,a5,aq,ao];exact⟨fun h=>by omega,fun h=>rfl⟩
 |succ k ih=>
  have e0:(((k+1:Nat):Int)-1+1).toNat=k+1:=by omega
  have e1:((k:Int)-1+1).toNat=k:=by omega
  have e2:(((k+1:Nat):Int)-1)=(k:Int):=by omega
  rw[e0]at h7 ⊢;rw[e1]at ih;rw[e2]at h5 h8 ⊢;have hlg:=h1.1;have hb:aM .i64 (shr .i64 v' k) 1=v'/2 ^ k%2:=EL h3 k (by omega);have hp:(2:Int) ^ (lg p'-(k+1)+1)≤2 ^ 8:=EM (by omega);have hp8:(2:Int) ^ 8=256:=by decide
  have hpe:(2:Int) ^ (lg p'-k+1)=2*2 ^ (lg p'-(k+1)+1):=by
   rw[show lg p'-k+1=(lg p'-(k+1)+1)+1 from by omega,Int.pow_succ,Int.mul_comm]
  generalize hbe:v'/2 ^ k%2=b at*;have sa:0≤b∧b≤1:=by omega
  have hcl:=ju (kj p' node) b w' l';have sP:=ih (2*node+b) (bD (kj p' node) b w' l').1 (bD (kj p' node) b w' l').2 (c9 p' node b) (zj h1 _ _) (jt h2 (by omega)) (by omega) (by rw[ld];omega) (by rw[ld,hpe];omega) (by omega)
  have e3:aZ (k+1) v' node w' l' p'=aZ k v' (2*node+b) (bD (kj p' node) b w' l').1 (bD (kj p' node) b w' l').2 (c9 p' node b):=by
   rw[aZ,hbe]
  rw[e3];refine .go ?_ sP;simp only[xy,iR,a5,aq,ao,hb];refine⟨fun _=>⟨by omega,h1.2.2.1,h2,h1.2.2.1,?_⟩,fun h=>by omega⟩;rw[au (n:=2*node) (by omega) (by omega),au (n:=2*node+b) (by omega) (by omega),au (n:=(k:Int)-1) (by omega) (by omega)]
theorem NN(v:Int)(w:Int)(l:List Int)(p:List Int):∀x:sU,Ex Tryz.prog ((sR).wr (w,l,p,())) (.loop (aP f183 0)) (sV.wr x) (EO x):=
 cn mixed ((al I9 (al y8 (al y9 (al xw aw))))) (ws:=S1) (aK.nil _) (fun x_=>Ja v w l p x_.1 x_.2.1 x_.2.2.1 x_.2.2.2.1 x_.2.2.2.2.1 x_.2.2.2.2.2) (fun z e=>by cases e) fH (fun x_ h=>Wc x_.1 x_.2.1 x_.2.2.1 x_.2.2.2.1 x_.2.2.2.2.1 x_.2.2.2.2.2 h)
abbrev EP:Type:=Int×(List Int)×(List Int)
abbrev abB(x:EP):LV:=LV.c6 []
abbrev abC(x:EP):List (Nat×Ev.Item):= [(0,Item.ba [SV.sl 1 1,SV.int u64 (SI.sym x.1)] 249),(1,Item.own 1
 (Ty.int IntKind.u8) x.2.1),(2,Item.ba [SV.sl 3 1] 332),(3,Item.own 1 (Ty.int u16) x.2.2)]
def NO(v:Int)(w:Int)(l:List Int)(p:List Int):Tr (EP):=(.need (zi p) (.ite (decide (v<0)==false) (.need
 (0≤(↑(lg p):Int)) (.ite (decide (shl i64 1 (↑(lg p):Int)≤v)) (.ret (w,l,p)) (.need (vq v 1 (i64.wrap ((↑(lg p):Int)
 -1)) w l p) (.ret ((aZ (Int.toNat (i64.wrap ((↑(lg p):Int)-1)+1)) v 1 w l p).fst,(aZ (Int.toNat (i64.wrap ((↑(lg p):
 Int)-1)+1)) v 1 w l p).snd.fst,(aZ (Int.toNat (i64.wrap ((↑(lg p):Int)-1)+1)) v 1 w l p).snd.snd))))) (.ret (w,l,p))))
theorem NP(v:Int)(w:Int)(l:List Int)(p:List Int):aH Tryz.prog [(261,NM),(262,V3),(263,Ew),(182,I6)] [(0,bU sV ((sR).wr (w,l,p,())) EJ (EO))] f183 (((ai (ah (aD 0 0)) (ai (ah (aD 2 0)) (ae (ah (aA .i64)) ag)))).wr (v,())) ((sR).wr (w,l,p,())) [.one 1,.one 3,.fr [.sym],.syms,.auto,.aF]=(NO v w l p).end abB abC ((sR).wr (w,l,p,())):=by kernel_rfl
theorem Wd(v:Int)(w:Int)(l:List Int)(p:List Int):aK Tryz.prog ((sR).wr (w,l,p,())) [(0,bU sV ((sR).wr (w,l,p,())) EJ (EO))] (aJ f183):=(aK.bI (iu (by kernel_rfl) (bM (hp:=(sR).wr (w,l,p,())) (NN v w l p)) iE))
abbrev oB(v:Int)(w:Int)(l:List Int)(p:List Int):Prop:=MI p∧pS w l∧0≤v∧v<2 ^ lg p∧1≤lg p∧l.length<1099511500000
abbrev NQ(v:Int)(w:Int)(l:List Int)(p:List Int):EP:=aZ (lg p) v 1 w l p
def NR:an:=cQ [] ((ai (ah (aD 0 0)) (ai (ah (aD 2 0)) (ae (ah (aA .i64)) ag)))) (sR) (fun x_ y_=>oB x_.1 y_.1 y_.2.1 y_.2.2.1) (fun x_ y_=>NQ x_.1 y_.1 y_.2.1 y_.2.2.1) abB abC
theorem abD(v:Int)(w:Int)(l:List Int)(p:List Int)(h_:oB v w l p):(NO v w l p).Is (NQ v w l p):=by
 delta NQ;obtain⟨h1,h2,h3,h4,h5,h6⟩:=h_;have hlg:=h1.1;have e1:i64.wrap ((lg p:Int)-1)=lg p-1:=au (by omega) (by omega);have e2:((lg p:Int)-1+1).toNat=lg p:=by omega
 have e3:((2 ^ lg p:Nat):Int)=2 ^ lg p:=by exact_mod_cast rfl
 simp only[NO,aq,ao,cu,beq_iff_eq,decide_eq_true_eq,decide_eq_false_iff_not,e1,e2,k9 (lg p) hlg,e3];refine⟨h1,fun _=>⟨by omega,fun h=>by omega,fun _=>⟨⟨h1,h2,h3,by omega,by omega,by omega,by rw[e2,Nat.sub_self];decide,by omega⟩,trivial⟩⟩,fun h=>?_⟩;simp at h;omega
theorem Jc:NR.Ok Tryz.prog 183:=
 bJ mixed ((al I9 (al y8 (al y9 (al xw aw))))) func183 (by kernel_rfl) call183 (fun x_ y_=>Wd x_.1 y_.1 y_.2.1 y_.2.2.1) (fun x_ y_=>NP x_.1 y_.1 y_.2.1 y_.2.2.1) (fun x_ y_ h=>abD x_.1 y_.1 y_.2.1 y_.2.2.1 h)
abbrev ard:aQ (Option Ev.Item) (Int×Unit):=fG 347 (ae (aA .i64) (ai (j0 1 0) ag))
abbrev NS:aQ Hp ((Int×Unit)×List Int×Unit):=ae ard (ae (cE 0 (.int .i64)) ag)
def ER:an:=an.cm [] (qP) (NS) fun x_ y_=>(fun(n b:Int) (c:Int×Unit) (p:List Int)=>.leaf none (.c6 []) [(1,.own 0 (.int .i64) (c9 p n b))]) x_.1 x_.2.1 y_.1 y_.2.1
theorem Jd(n b:Int)(c:Int×Unit)(p:List Int):aH Tryz.prog [(278,xq)] [] f279 ((qP).wr (n,b,())) ((NS).wr (c,p,())) [.ba 0 [.sym,.ak],.auto]=
 End.ite (decide ((1:Int)≤n)==true) (End.ite (decide (n<(↑p.length:Int))) (End.need ((0:Int)≤n∧n<(↑p.length:Int)) (End.need ((0:
 Int)≤n∧n<(↑p.length:Int)) (End.leaf (LV.c6 []) [some (Item.ba [SV.int i64 (SI.sym c.fst),SV.sl (1:Nat) (0:Nat)] (347:Nat)),
 some (Item.own (0:Nat) (Ty.int i64) (p.set n.toNat (cH (p.getD n.toNat (0:Int)) b)))]))) (End.leaf (LV.c6 []) [some (Item.ba [SV.int
 i64 (SI.sym c.fst),SV.sl (1:Nat) (0:Nat)] (347:Nat)),some (Item.own (0:Nat) (Ty.int i64) p)])) (End.leaf (LV.c6 []) [some
 (Item.ba [SV.int i64 (SI.sym c.fst),SV.sl (1:Nat) (0:Nat)] (347:Nat)),some (Item.own (0:Nat) (Ty.int i64) p)]):=by kernel_rfl
theorem CE:ER.Ok Tryz.prog 279:=by
 refine(an.aS call279 fun x_ y_ Q H_=>?_).sym;obtain⟨n,b,_⟩:=x_;obtain⟨c,p,_⟩:=y_;have hq:=H_.2;refine(ar mixed ((al vn aw)) func279 rfl (LT:= []) (ks:= [.ba 0 [.sym,.ak],.auto]) (aK.nil _)).use (D:= [(1,.own 0 (.int .i64) (c9 p n b))]) ?_ hq;show(aH _ _ _ _ ((qP).wr (n,b,())) ((NS).wr (c,p,())) _).sat _;rw[Jd];have qK:¬ (1≤n∧n<(p.length:Int))→c9 p n b=p:=fun h=>if_neg (by unfold qD;simpa using h);refine⟨fun h1=>⟨fun h2=>?_,fun h2=>?_⟩,fun h1=>?_⟩
 ·have h1:1≤n:=by simpa using h1
  have h2:n<(p.length:Int):=of_decide_eq_true h2;have e:c9 p n b=p.set n.toNat (cH (p.getD n.toNat 0) b):=if_pos (by unfold qD;exact decide_eq_true ⟨h1,h2⟩);refine⟨by omega,by omega,rfl,?_⟩;rw[e];rfl
 ·have h2:=of_decide_eq_false h2;refine⟨rfl,?_⟩;rw[qK (fun h=>h2 h.2)];rfl
 ·have h1:¬ 1≤n:=by simpa using h1
  refine⟨rfl,?_⟩;rw[qK (fun h=>h1 h.1)];rfl
abbrev Je:aQ Ev.Item Int:=(xd 277 (ai (j0 1 0) (ae (aA .u64) ag))).lV (fun x=>x.1) (fun w=>(w,())) (fun _=>rfl)
abbrev lI:aQ Hp (Int×List Int×Unit):=ae (cx Je) (ae (cE 0 u8) ag)
abbrev S3:Type:=Int×(List Int)
abbrev aoO(x:S3):LV:=LV.c6 []
abbrev aoP(x:S3):List (Nat×Ev.Item):= [(0,Item.ba [SV.sl 1 1,SV.int u64 (SI.sym x.1)] 277),(1,Item.own 1
 (Ty.int IntKind.u8) x.2)]
def abE(w:Int)(l:List Int):Tr (S3):=(.ite (decide (w<16777216)) (.need ((l.length+1)*1≤70368744177664∧l.length+
 1≤70368744177664) (.ret (u64.wrap (w*256),l++ [0]))) (.ret (w,l)))
theorem We(w:Int)(l:List Int):aH Tryz.prog [] [] f277 ((ko).wr (())) ((lI).wr (w,l,())) [.one 1,.fr [.sym],.syms,.auto,.aF]=(abE w l).end aoO aoP ((lI).wr (w,l,())):=by kernel_rfl
theorem abF(w:Int)(l:List Int):aK Tryz.prog ((lI).wr (w,l,())) [] (aJ f277):=(aK.nil _)
abbrev pV(w:Int)(l:List Int):Prop:=0≤w∧w<72057594037927936∧l.length<1099511627776
abbrev abG(w:Int)(l:List Int):S3:=dG w l
def abH:an:=cQ [] (ko) (lI) (fun x_ y_=>pV y_.1 y_.2.1) (fun x_ y_=>abG y_.1 y_.2.1) aoO aoP
theorem akh(w:Int)(l:List Int)(h_:pV w l):(abE w l).Is (abG w l):=by
 delta abG;obtain⟨h1,h2,h3⟩:=h_;simp only[abE,dG,a5,aq,ao];refine⟨fun h=>⟨by omega,?_⟩,fun h=>?_⟩
 ·rw[if_pos h,wrap_u64 (by omega) (by omega)]
 ·rw[if_neg h]
theorem S4:abH.Ok Tryz.prog 277:=
 bJ mixed aw func277 (by kernel_rfl) call277 (fun x_ y_=>abF y_.1 y_.2.1) (fun x_ y_=>We y_.1 y_.2.1) (fun x_ y_ h=>akh y_.1 y_.2.1 h)
abbrev zk:Type:=Int×Int×Int×(List Int)
abbrev zl:aQ St zk:=(aT (ai (ah (aD (0) (0))) (ae (ah (aA u64)) (jk 2 (ae (ah (aA
 i64)) (jk 35 ag))))) (ae (cx Je) (ae (cE (0) (Ty.int IntKind.u8)) ag))).lV (fun y=>(y.1.1,y.1.2.1,y.2.1,y.2.2.1)) (fun x
 =>((x.1,(x.2.1,())),(x.2.2.1,(x.2.2.2,())))) (fun _=>rfl)
abbrev NT:List Wk:= [.fr (cb 40 [(0,.ak),(1,.ak),(4,.ak)]),.syms,.auto,.aF]
abbrev abI:Exit→List Wk:=wT NT 0 [.fr (cb 40 []),.syms,.auto,.aF] [.fr (cb 40 []),.syms,.auto,.aF]
abbrev NU:Type:=Int×(List Int)
abbrev abJ(x:NU):Exit×St:=(Exit.exit 0,⟨(gA 40 []),[some (Je.wr x.1),some (Item.own 0 (Ty.int IntKind.u8) x.2)]⟩)
def zo(m:Int)(i:Int)(w':Int)(l':List Int):Tr (zk⊕(NU)):=(.ite (decide (0≤i)==true) (.ite (decide (0<
 m)) (.need (0≤i∧i<(↑l'.length:Int)) (.need (0≤i∧i<(↑l'.length:Int)) (.ret (.inl (u64.wrap ((u64.wrap (m+
 u64.wrap (l'.getD i.toNat 0))).tdiv 256),i64.wrap (i-1),w',l'.set i.toNat (IntKind.u8.wrap ((u64.wrap (m+
 u64.wrap (l'.getD i.toNat 0))).tmod 256))))))) (.ret (.inr (w',l')))) (.ret (.inr (w',l'))))
theorem NV(n:Int)(w:Int)(l:List Int)(m:Int)(i:Int)(w':Int)(l':List Int):ct Tryz.prog [] [] f276 0 ((lI).wr (w,l,())) abI (zl.wr (m,i,w',l'))=(zo m i w' l').res zl.wr abJ:=by kernel_rfl
abbrev zp(m:Int)(i:Int)(w':Int)(l':List Int):Prop:= -1≤i∧i<l'.length∧l'.length<1099511627776∧0≤m∧m<72057594037927936∧aN l'
abbrev NW(m:Int)(i:Int)(w':Int)(l':List Int):NU:=(w',da (i+1).toNat m l')
abbrev NX:zk→aG:=e9 (fun x_=>zp x_.1 x_.2.1 x_.2.2.1 x_.2.2.2) (fun x_=>NW x_.1 x_.2.1 x_.2.2.1 x_.2.2.2) abJ
theorem abK(m:Int)(i:Int)(w':Int)(l':List Int)(h_:zp m i w' l'):cK (fun x_:zk=>zo x_.1 x_.2.1 x_.2.2.1 x_.2.2.2) (m,i,w',l') (NW m i w' l'):=by
 delta NW;obtain⟨h1,h2,h6,h3,h4,h5⟩:=h_;obtain⟨k,hk⟩:∃k:Nat,i=(k:Int)-1:=⟨(i+1).toNat,by omega⟩;subst hk;clear h1
 induction k generalizing m l' with
 |zero=>
  refine .stop ?_;simp only[zo,iR,a5,aq,ao];exact⟨fun h=>by omega,fun h=>rfl⟩
 |succ k ih=>
  by_cases hm:0<m
  ·have hb:By (l'.getD k 0):=h5.getD k;have hk:((k:Nat)+1:Int)-1=k:=(by omega);have sP:=ih ((m+l'.getD k 0)/256) (l'.set k ((m+l'.getD k 0)%256)) (by rw[List.length_set];omega) (by have:=hb.1;omega) (by have:=hb.2;omega) (h5.set k ⟨by omega,by omega⟩) (by rw[List.length_set];omega)
   have e:da (((k+1:Nat):Int)-1+1).toNat m l'=da ((k:Int)-1+1).toNat ((m+l'.getD k 0)/256) (l'.set k ((m+l'.getD k 0)%256)):=by
    rw[show(((k+1:Nat):Int)-1+1).toNat=k+1 from by omega,show((k:Int)-1+1).toNat=k from by omega,da,if_pos hm]
   rw[e];refine .go ?_ sP;simp only[zo,iR,a5,aq,ao];have h2':(k:Int)<l'.length:=(by omega);have ek:(((k+1:Nat):Int)-1)=(k:Int):=(by omega);rw[ek];have e1:u64.wrap (l'.getD k 0)=l'.getD k 0:=wrap_u64 hb.1 (by have:=hb.2;omega);have e2:u64.wrap (m+l'.getD k 0)=m+l'.getD k 0:=wrap_u64 (by have:=hb.1;omega) (by have:=hb.2;omega);refine⟨fun _=>⟨fun _=>⟨⟨by omega,h2'⟩,⟨by omega,h2'⟩,?_⟩,fun h=>absurd hm h⟩,fun h=>by omega⟩;have hb1:=hb.1;have sa:=hb.2;have e3:u64.wrap ((m+l'.getD k 0).tdiv 256)=(m+l'.getD k 0)/256:=(by rw[Int.tdiv_eq_ediv_of_nonneg (by omega),wrap_u64 (by omega) (by omega)]);have e4:IntKind.u8.wrap ((m+l'.getD k 0).tmod 256)=(m+l'.getD k 0)%256:=(by rw[Int.tmod_eq_emod_of_nonneg (by omega),wrap_u8];omega);rw[Int.toNat_natCast,e1,e2,e3,e4,au (n:=(k:Int)-1) (by omega) (by omega)]
  ·have e:da (((k+1:Nat):Int)-1+1).toNat m l'=l':=by
    rw[show(((k+1:Nat):Int)-1+1).toNat=k+1 from by omega,da,if_neg hm]
   rw[e];refine .stop ?_;simp only[zo,iR,a5,aq,ao];exact⟨fun _=>⟨fun h=>absurd h hm,fun _=>trivial⟩,fun h=>by omega⟩
theorem Wf(n:Int)(w:Int)(l:List Int):∀x:zk,Ex Tryz.prog ((lI).wr (w,l,())) (.loop (aP f276 0)) (zl.wr x) (NX x):=
 cn mixed aw (ws:=abI) (aK.nil _) (fun x_=>NV n w l x_.1 x_.2.1 x_.2.2.1 x_.2.2.2) (fun z e=>by cases e) fH (fun x_ h=>abK x_.1 x_.2.1 x_.2.2.1 x_.2.2.2 h)
abbrev S5:Type:=List Int
abbrev aoQ(x:S5):LV:=LV.c6 []
abbrev aoR(x:S5):List (Nat×Ev.Item):= [(1,Item.own 0 (Ty.int IntKind.u8) x)]
def abL(n:Int)(w:Int)(l:List Int):Tr (S5):=(.need (zp n (i64.wrap ((↑l.length:Int)-1)) w l) (.ret
 (da (Int.toNat (i64.wrap ((↑l.length:Int)-1)+1)) n l)))
theorem Wg(n:Int)(w:Int)(l:List Int):aH Tryz.prog [] [(0,bU zl ((lI).wr (w,l,())) NT (NX))] f276 ((akc).wr (n,())) ((lI).wr (w,l,())) [.fr [.sym],.syms,.auto,.aF]=(abL n w l).end aoQ aoR ((lI).wr (w,l,())):=by kernel_rfl
theorem abM(n:Int)(w:Int)(l:List Int):aK Tryz.prog ((lI).wr (w,l,())) [(0,bU zl ((lI).wr (w,l,())) NT (NX))] (aJ f276):=(aK.bI (iu (by kernel_rfl) (bM (hp:=(lI).wr (w,l,())) (Wf n w l)) iE))
abbrev xz(n:Int)(w:Int)(l:List Int):Prop:=l.length<1099511627776∧0≤n∧n<72057594037927936∧aN l
abbrev abN(n:Int)(w:Int)(l:List Int):S5:=da l.length n l
def abO:an:=cQ [] (akc) (lI) (fun x_ y_=>xz x_.1 y_.1 y_.2.1) (fun x_ y_=>abN x_.1 y_.1 y_.2.1) aoQ aoR
theorem aki(n:Int)(w:Int)(l:List Int)(h_:xz n w l):(abL n w l).Is (abN n w l):=by
 delta abN;obtain⟨h1,h2,h3,h4⟩:=h_;have e:i64.wrap ((l.length:Int)-1)=l.length-1:=au (by omega) (by omega);simp only[abL,aq,ao,e];refine⟨⟨by omega,by omega,h1,h2,h3,h4⟩,?_⟩;rw[show((l.length:Int)-1+1).toNat=l.length from by omega]
theorem S6:abO.Ok Tryz.prog 276:=
 bJ mixed aw func276 (by kernel_rfl) call276 (fun x_ y_=>abM x_.1 y_.1 y_.2.1) (fun x_ y_=>Wg x_.1 y_.1 y_.2.1) (fun x_ y_ h=>aki x_.1 y_.1 y_.2.1 h)
abbrev S7:Type:=Int×Int×(List Int)
abbrev aoS(x:S7):LV:=LV.one (VV.sc (SV.int i64 (SI.sym x.1)))
abbrev aoT(x:S7):List (Nat×Ev.Item):= [(0,Item.ba [SV.sl 1 1,SV.int u64 (SI.sym x.2.1)] 277),(1,Item.own 1
 (Ty.int IntKind.u8) x.2.2)]
def abP(p:Int)(b:Int)(w:Int)(l:List Int):Tr (S7):=(.ite (b==0) (.need (pV (u64.wrap (u64.wrap
 (w.tdiv 2048)*u64.wrap (aW p))) l) (.ret (cH p b,(dG (u64.wrap (u64.wrap (w.tdiv 2048)*u64.wrap (aW
 p))) l).fst,(dG (u64.wrap (u64.wrap (w.tdiv 2048)*u64.wrap (aW p))) l).snd))) (.need (xz (u64.wrap
 (u64.wrap (w.tdiv 2048)*u64.wrap (aW p))) w l) (.need (pV (u64.wrap (w-u64.wrap (u64.wrap (w.tdiv
 2048)*u64.wrap (aW p)))) (da l.length (u64.wrap (u64.wrap (w.tdiv 2048)*u64.wrap (aW p))) l)) (.ret
 (cH p b,(dG (u64.wrap (w-u64.wrap (u64.wrap (w.tdiv 2048)*u64.wrap (aW p)))) (da l.length
 (u64.wrap (u64.wrap (w.tdiv 2048)*u64.wrap (aW p))) l)).fst,(dG (u64.wrap (w-u64.wrap
 (u64.wrap (w.tdiv 2048)*u64.wrap (aW p)))) (da l.length (u64.wrap (u64.wrap (w.tdiv 2048)*u64.wrap
 (aW p))) l)).snd)))))
theorem Wh(p b:Int)(w:Int)(l:List Int):aH Tryz.prog [(277,abH),(276,abO),(275,Nv),(278,xq)] [] f205 ((qP).wr (p,b,())) ((lI).wr (w,l,())) [.one 1,.fr [.sym],.syms,.auto,.aF]=(abP p b w l).end aoS aoT ((lI).wr (w,l,())):=by kernel_rfl
theorem abQ(p b:Int)(w:Int)(l:List Int):aK Tryz.prog ((lI).wr (w,l,())) [] (aJ f205):=(aK.nil _)
abbrev sW(p b:Int)(w:Int)(l:List Int):Prop:=pS w l
abbrev abR(p b:Int)(w:Int)(l:List Int):S7:=(cH p b,bD p b w l)
def CF:an:=cQ [] (qP) (lI) (fun x_ y_=>sW x_.1 x_.2.1 y_.1 y_.2.1) (fun x_ y_=>abR x_.1 x_.2.1 y_.1 y_.2.1) aoS aoT
theorem akj(p b:Int)(w:Int)(l:List Int)(h_:sW p b w l):(abP p b w l).Is (abR p b w l):=by
 delta abR;obtain⟨h1,h2,h3,h4⟩:=h_;have hb:=js p h1 h2;have hh:=fW p;have e0:u64.wrap (aW p)=aW p:=wrap_u64 (by omega) (by omega);have e1:u64.wrap (w.tdiv 2048)=w/2048:=by rw[Int.tdiv_eq_ediv_of_nonneg (by omega),wrap_u64 (by omega) (by omega)]
 have e2:u64.wrap (w/2048*aW p)=w/2048*aW p:=wrap_u64 (by omega) (by omega);have e3:u64.wrap (w-w/2048*aW p)=w-w/2048*aW p:=wrap_u64 (by omega) (by omega);simp only[abP,bD,dV,aq,ao,e0,e1,e2,e3];refine⟨fun h=>⟨⟨by omega,by omega,h4⟩,by rw[if_pos h]⟩,fun h=>⟨⟨h4,by omega,by omega,h3⟩,⟨by omega,by omega,by rw[eJ];exact h4⟩,by rw[if_neg h]⟩⟩
theorem sX:CF.Ok Tryz.prog 205:=
 bJ mixed ((al S4 (al S6 (al y7 (al vn aw))))) func205 (by kernel_rfl) call205 (fun x_ y_=>abQ x_.1 x_.2.1 y_.1 y_.2.1) (fun x_ y_=>Wh x_.1 x_.2.1 y_.1 y_.2.1) (fun x_ y_ h=>akj x_.1 x_.2.1 y_.1 y_.2.1 h)
abbrev ES:Type:=Int×(List Int)
abbrev abS(x:ES):LV:=LV.c6 []
abbrev abT(x:ES):List (Nat×Ev.Item):= [(0,Item.ba [SV.sl 1 1,SV.int u64 (SI.sym x.1)] 277),(1,Item.own 1
 (Ty.int IntKind.u8) x.2)]
def NY(b:Int)(w:Int)(l:List Int):Tr (ES):=(.ite (b !=0) (.need (xz (u64.wrap (w.tdiv 2))
 (u64.wrap (w.tdiv 2)) l) (.need (pV (u64.wrap (w.tdiv 2)) (da l.length (u64.wrap (w.tdiv 2)) l)) (.ret ((dG
 (u64.wrap (w.tdiv 2)) (da l.length (u64.wrap (w.tdiv 2)) l)).fst,(dG (u64.wrap (w.tdiv 2)) (da l.length
 (u64.wrap (w.tdiv 2)) l)).snd)))) (.need (pV (u64.wrap (w.tdiv 2)) l) (.ret ((dG (u64.wrap (w.tdiv 2)) l).fst,(dG
 (u64.wrap (w.tdiv 2)) l).snd))))
theorem NZ(b:Int)(w:Int)(l:List Int):aH Tryz.prog [(277,abH),(276,abO),(275,Nv),(278,xq)] [] f207 ((sN).wr (b,())) ((lI).wr (w,l,())) [.one 1,.fr [.sym],.syms,.auto,.aF]=(NY b w l).end abS abT ((lI).wr (w,l,())):=by kernel_rfl
theorem Wi(b:Int)(w:Int)(l:List Int):aK Tryz.prog ((lI).wr (w,l,())) [] (aJ f207):=(aK.nil _)
abbrev zq(b:Int)(w:Int)(l:List Int):Prop:=pS w l
abbrev N0(b:Int)(w:Int)(l:List Int):ES:=dW b w l
def ET:an:=cQ [] (sN) (lI) (fun x_ y_=>zq x_.1 y_.1 y_.2.1) (fun x_ y_=>N0 x_.1 y_.1 y_.2.1) abS abT
theorem abU(b:Int)(w:Int)(l:List Int)(h_:zq b w l):(NY b w l).Is (N0 b w l):=by
 delta N0;obtain⟨h1,h2,h3,h4⟩:=h_;have e1:w.tdiv 2=w/2:=Int.tdiv_eq_ediv_of_nonneg (by omega);have e2:u64.wrap (w/2)=w/2:=wrap_u64 (by omega) (by omega);simp only[NY,dW,vo,aq,ao,e1,e2];refine⟨fun h=>⟨⟨by omega,by omega,h4⟩,by rw[if_pos h]⟩,fun h=>⟨⟨h4,by omega,by omega,h3⟩,⟨by omega,by omega,by rw[eJ];exact h4⟩,by rw[if_neg h]⟩⟩
theorem zr:ET.Ok Tryz.prog 207:=
 bJ mixed ((al S4 (al S6 (al y7 (al vn aw))))) func207 (by kernel_rfl) call207 (fun x_ y_=>Wi x_.1 y_.1 y_.2.1) (fun x_ y_=>NZ x_.1 y_.1 y_.2.1) (fun x_ y_ h=>abU x_.1 y_.1 y_.2.1 h)
abbrev EU:Type:=Int×(List Int)
abbrev abV(x:EU):LV:=LV.one (VV.sc (SV.ptr 0 0))
abbrev abW(x:EU):List (Nat×Ev.Item):= [(0,Item.ba [SV.sl 1 0,SV.int u64 (SI.sym x.1)] 277),(1,Item.own 0
 (Ty.int IntKind.u8) x.2)]
def abX:Tr (EU):=(.need ((4:Int)=4∧(0:Int)≤4∧(4:Int)≤70368744177664∧(4:Int)≤70368744177664) (.ret
 (4294967295,List.replicate 4 (0:Int))))
theorem N1:aH Tryz.prog [] [] f203 ((ag).wr (())) ((ag).wr (())) [.fr [.sym],.syms,.auto,.aF]=(abX).end abV abW ((ag).wr (())):=by kernel_rfl
theorem Wj:aK Tryz.prog ((ag).wr (())) [] (aJ f203):=(aK.nil _)
abbrev zt:Prop:=True
abbrev N2:EU:=(4294967295,[0,0,0,0])
def EV:an:=cQ [] (ag) (ag) (fun _ _=>zt) (fun _ _=>N2) abV abW
theorem abY(h_:zt):(abX).Is (N2):=by
 delta N2;exact⟨⟨rfl,by decide,by decide,by decide⟩,rfl⟩
theorem zw:EV.Ok Tryz.prog 203:=
 bJ mixed aw func203 (by kernel_rfl) call203 (fun x_ y_=>Wj) (fun x_ y_=>N1) (fun x_ y_ h=>abY h)
abbrev pW:Type:=Int×Int×(List Int)
abbrev sY:aQ St pW:=(aT (jk 3 (ai (ah (aD (0) (0))) (ae (ah (aA i64)) (jk 30 ag)))) (ae (fG
 (347) ((ae (aA i64) (ai (j0 (1) (0)) ag)))) (ae (cE (0) (Ty.int i64)) ag))).lV (fun y=>(y.1.1,y.2.1.1,y.2.2.1))
 (fun x=>((x.1,()),((x.2.1,()),(x.2.2,())))) (fun _=>rfl)
abbrev EW:List Wk:= [.fr (cb 35 [(3,.ak),(4,.ak)]),.syms,.auto,.aF]
abbrev S8:Exit→List Wk:=wT EW 0 [.fr (cb 35 [(3,.ak)]),.syms,.auto,.aF] [.fr (cb 35 [(2,.ak)]),.syms,.auto,.aF]
abbrev EX:Type:=Int×(List Int)
abbrev S9(x:EX):Exit×St:=(Exit.exit 0,⟨(gA 3 (LV.one (VV.sc (SV.ptr 0 0))::(gA 31 []))),[some (Item.ba [SV.int
 i64 (SI.sym x.1),SV.sl 1 0] 347),some (Item.own 0 (Ty.int i64) x.2)]⟩)
def sZ(i:Int)(n:Int)(p:List Int):Tr (pW⊕(EX)):=(.ite (decide (i<(↑p.length:Int))) (.need (0≤i∧i<
 (↑p.length:Int)) (.ret (.inl (i64.wrap (i+1),n,p.set i.toNat 1024)))) (.ret (.inr (n,p))))
theorem Jf(b:Int)(i:Int)(n:Int)(p:List Int):ct Tryz.prog [(58,aa8)] [] f204 0 ((ag).wr (())) S8 (sY.wr (i,n,p))=(sZ i n p).res sY.wr S9:=by kernel_rfl
theorem akk(a b n:Nat)(x:Int)(h:a+b=n)(hb:0<b):(0::(List.replicate a x++List.replicate b 0)).set (a+1) x=(0:Int)::(List.replicate (a+1) x++List.replicate (b-1) 0):=by
 obtain⟨b,rfl⟩:∃c,b=c+1:=⟨b-1,by omega⟩;rw[List.set_cons_succ,List.set_append_right _ _ (by simp),List.length_replicate,Nat.sub_self,List.replicate_succ,List.set_cons_zero,Nat.add_sub_cancel]
 congr 1
 rw[List.replicate_succ',List.append_assoc];rfl
def kp(k:Nat):List Int:=0::List.replicate (2 ^ k-1) 1024
abbrev vr(i:Int)(n:Int)(p:List Int):Prop:=i=1∧p=List.replicate p.length 0∧1≤p.length∧p.length<1000000
abbrev EY(i:Int)(n:Int)(p:List Int):EX:=(n,0::List.replicate (p.length-1) 1024)
abbrev EZ:pW→aG:=e9 (fun x_=>vr x_.1 x_.2.1 x_.2.2) (fun x_=>EY x_.1 x_.2.1 x_.2.2) S9
theorem Wl(i:Int)(n:Int)(p:List Int)(h_:vr i n p):cK (fun x_:pW=>sZ x_.1 x_.2.1 x_.2.2) (i,n,p) (EY i n p):=by
 delta EY;obtain⟨rfl,h1,h2,h3⟩:=h_;obtain⟨m,hm⟩:∃c,p.length=c+1:=⟨p.length-1,by omega⟩;rw[hm]at h1 h3;subst h1;rw[List.length_replicate,Nat.add_sub_cancel];clear hm h2;have hl:∀k,k≤m→((0:Int)::(List.replicate k 1024++List.replicate (m-k) 0)).length=m+1:=fun k hk=>by simp;omega
 have key:=cK.iter (L:=fun x_:pW=>sZ x_.1 x_.2.1 x_.2.2) (z:=(n,0::List.replicate m 1024)) (fun k=>(((k:Int)+1),n,0::(List.replicate k 1024++List.replicate (m-k) 0))) m (fun k hk=>?_) ?_
 ·exact key
 ·simp only[sZ,a5,aq,ao,hl k (by omega)];refine⟨fun _=>⟨by omega,?_⟩,fun h=>by omega⟩;rw[au (by omega) (by omega),show((k:Int)+1).toNat=k+1 from by omega,akk k (m-k) m 1024 (by omega) (by omega),Nat.sub_sub];rfl
 ·have hl':((0:Int)::List.replicate m 1024).length=m+1:=by simp
  simp only[sZ,a5,aq,ao,Nat.sub_self,List.replicate_zero,List.append_nil,hl'];exact⟨fun h=>by omega,fun _=>trivial⟩
theorem N3(b:Int):∀x:pW,Ex Tryz.prog ((ag).wr (())) (.loop (aP f204 0)) (sY.wr x) (EZ x):=
 cn mixed ((al Eu aw)) (ws:=S8) (aK.nil _) (fun x_=>Jf b x_.1 x_.2.1 x_.2.2) (fun z e=>by cases e) fH (fun x_ h=>Wl x_.1 x_.2.1 x_.2.2 h)
abbrev E0:Type:=Int×(List Int)
abbrev abZ(x:E0):LV:=LV.one (VV.sc (SV.ptr 0 0))
abbrev ab0(x:E0):List (Nat×Ev.Item):= [(0,Item.ba [SV.int i64 (SI.sym x.1),SV.sl 1 0] 347),(1,Item.own 0
 (Ty.int i64) x.2)]
def N5(b:Int):Tr (E0):=(.need (0≤u64.wrap (mU b 1 8)) (.need (shl i64 1 (u64.wrap (mU b 1
 8))=shl i64 1 (u64.wrap (mU b 1 8))∧0≤shl i64 1 (u64.wrap (mU b 1 8))∧8*shl i64 1
 (u64.wrap (mU b 1 8))≤70368744177664∧shl i64 1 (u64.wrap (mU b 1 8))≤70368744177664) (.need (vr 1 (mU b 1 8)
 (List.replicate (shl i64 1 (u64.wrap (mU b 1 8))).toNat (0:Int))) (.ret (mU b 1 8,0::List.replicate ((List.replicate (shl
 i64 1 (u64.wrap (mU b 1 8))).toNat (0:Int)).length-1) (1024:Int))))))
theorem N6(b:Int):aH Tryz.prog [(58,aa8)] [(0,bU sY ((ag).wr (())) EW (EZ))] f204 ((VZ).wr (b,())) ((ag).wr (())) [.fr [.sym],.syms,.auto,.aF]=(N5 b).end abZ ab0 ((ag).wr (())):=by kernel_rfl
theorem Wm(b:Int):aK Tryz.prog ((ag).wr (())) [(0,bU sY ((ag).wr (())) EW (EZ))] (aJ f204):=(aK.bI (iu (by kernel_rfl) (bM (hp:=(ag).wr (())) (N3 b)) iE))
abbrev oC(b:Int):Prop:=1≤b∧b≤8
abbrev N7(b:Int):E0:=(b,kp b.toNat)
def E1:an:=cQ [] (VZ) (ag) (fun x_ y_=>oC x_.1) (fun x_ y_=>N7 x_.1) abZ ab0
theorem ab1(b:Int)(h_:oC b):(N5 b).Is (N7 b):=by
 delta N7;obtain⟨h1,h2⟩:=h_;have e1:mU b 1 8=b:=by unfold mU;rw[if_neg (by omega),if_neg (by omega)]
 obtain⟨k,rfl⟩:∃k:Nat,b=k:=⟨b.toNat,by omega⟩;have e2:u64.wrap (k:Int)=k:=wrap_u64 (by omega) (by omega);have h3:(2:Nat) ^ k≤256:=Nat.le_trans (Nat.pow_le_pow_right (by omega) (show k≤8 by omega)) (by decide);have h4:0<(2:Nat) ^ k:=Nat.two_pow_pos k;have e3:shl .i64 1 (k:Int)=((2 ^ k:Nat):Int):=k9 k (by omega);simp only[N5,aq,ao,e1,e2,e3,kp,Int.toNat_natCast,List.length_replicate];generalize (2:Nat) ^ k=m at*;refine⟨by omega,⟨trivial,by omega,by omega,by omega⟩,⟨rfl,by rw[List.length_replicate],by rw[List.length_replicate];omega,by rw[List.length_replicate];omega⟩,trivial⟩
theorem zx:E1.Ok Tryz.prog 204:=
 bJ mixed ((al Eu aw)) func204 (by kernel_rfl) call204 (fun x_ y_=>Wm x_.1) (fun x_ y_=>N6 x_.1) (fun x_ y_ h=>ab1 x_.1 h)
abbrev aBw:aQ Ev.Item Int:=(xd 347 (ae (aA .i64) (ai (j0 3 0) ag))).lV (fun x=>x.1) (fun w=>(w,())) (fun _=>rfl)
abbrev mX:aQ Hp (Int×List Int×Int×List Int×Unit):=ae (cx Je) (ae (cE 0 u8) (ae (cx aBw) (ae (cE 0 (.int .i64)) ag)))
abbrev s5:Type:=Int×Int×Int×Int×(List Int)×Int×(List Int)
abbrev s6:aQ St s5:=(aT (ai (ah (aD (0) (0))) (ai (ah (aD (2) (0))) (ae (ah (aA i64)) (jk 3
 (ae (ah (aA i64)) (ae (ah (aA i64)) (jk 44 ag))))))) (ae (fG (277) ((ai (j0 (1) (1)) (ae (aA u64)
 ag)))) (ae (cE (1) (Ty.int IntKind.u8)) (ae (fG (347) ((ae (aA i64) (ai (j0 (3) (1)) ag)))) (ae (cE (1) (Ty.int
 i64)) ag))))).lV (fun y=>(y.1.1,y.1.2.1,y.1.2.2.1,y.2.1.1,y.2.2.1,y.2.2.2.1.1,y.2.2.2.2.1)) (fun x=>((x.1,(x.2.1,(x.2.2.1,
 ()))),((x.2.2.2.1,()),(x.2.2.2.2.1,((x.2.2.2.2.2.1,()),(x.2.2.2.2.2.2,())))))) (fun _=>rfl)
abbrev E2:List Wk:= [.one 1,.one 3,.fr (cb 52 [(0,.ak),(1,.ak),(2,.ak),(6,.ak),(7,.ak)]),.syms,.auto,.aF]
abbrev Ta:Exit→List Wk:=wT E2 0 [.one 1,.one 3,.fr (cb 52 []),.syms,.auto,.aF] [.one 1,.one 3,.fr (cb 52 []),.syms,.auto,
 .aF]
abbrev E3:Type:=Int×(List Int)×Int×(List Int)
abbrev Tb(x:E3):Exit×St:=(Exit.exit 0,⟨(gA 52 []),[some (Item.ba [SV.sl 1 1,SV.int u64 (SI.sym x.1)]
 277),some (Item.own 1 (Ty.int IntKind.u8) x.2.1),some (Item.ba [SV.int i64 (SI.sym x.2.2.1),SV.sl 3 1] 347),some (Item.own 1 (Ty.int
 i64) x.2.2.2)]⟩)
def xA(v':Int)(node:Int)(i:Int)(w':Int)(l':List Int)(nJ:Int)(p':List Int):Tr (s5⊕(E3)):=
 (.ite (decide (0≤i)) (.need (0≤u64.wrap i) (.need (0≤node∧node<(↑p'.length:Int)) (.need (sW (p'.getD node.toNat 0) (aM
 i64 (shr i64 v' (u64.wrap i)) 1) w' l') (.ret (.inl (v',i64.wrap (i64.wrap (2*node)+aM i64
 (shr i64 v' (u64.wrap i)) 1),i64.wrap (i-1),(bD (p'.getD node.toNat 0) (aM i64 (shr i64 v'
 (u64.wrap i)) 1) w' l').fst,(bD (p'.getD node.toNat 0) (aM i64 (shr i64 v' (u64.wrap i)) 1) w' l').snd,nJ,
 c9 p' node (aM i64 (shr i64 v' (u64.wrap i)) 1))))))) (.ret (.inr (w',l',nJ,p'))))
theorem Jg(v:Int)(w:Int)(l:List Int)(bits:Int)(p:List Int)(v':Int)(node:Int)(i:Int)(w':Int)(l':List Int)(nJ:Int)(p':List Int):ct Tryz.prog [(279,ER),(205,CF)] [] f206 0 ((mX).wr (w,l,bits,p,())) Ta (s6.wr (v',node,i,w',l',nJ,p'))=(xA v' node i w' l' nJ p').res s6.wr Tb:=by kernel_rfl
abbrev vt(v':Int)(node:Int)(i:Int)(w':Int)(l':List Int)(nJ:Int)(p':List Int):Prop:=MI p'∧pS w' l'∧0≤v'∧ -1≤i∧i<lg p'∧1≤node∧node<2 ^ (lg p'-(i+1).toNat+1)∧(l'.length:Int)+i<1099511600000
abbrev E5(v':Int)(node:Int)(i:Int)(w':Int)(l':List Int)(nJ:Int)(p':List Int):E3:=((aZ (i+1).toNat v' node w' l' p').1,(aZ (i+1).toNat v' node w' l' p').2.1,nJ,(aZ (i+1).toNat v' node w' l' p').2.2)
abbrev E6:s5→aG:=e9 (fun x_=>vt x_.1 x_.2.1 x_.2.2.1 x_.2.2.2.1 x_.2.2.2.2.1 x_.2.2.2.2.2.1 x_.2.2.2.2.2.2) (fun x_=>E5 x_.1 x_.2.1 x_.2.2.1 x_.2.2.2.1 x_.2.2.2.2.1 x_.2.2.2.2.2.1 x_.2.2.2.2.2.2) Tb
theorem Wn(v':Int)(node:Int)(i:Int)(w':Int)(l':List Int)(nJ:Int)(p':List Int)(h_:vt v' node i w' l' nJ p'):cK (fun x_:s5=>xA x_.1 x_.2.1 x_.2.2.1 x_.2.2.2.1 x_.2.2.2.2.1 x_.2.2.2.2.2.1 x_.2.2.2.2.2.2) (v',node,i,w',l',nJ,p') (E5 v' node i w' l' nJ p'):=by
 delta E5;obtain⟨h1,h2,h3,h4,h5,h6,h7,h8⟩:=h_;obtain⟨k,hk⟩:∃k:Nat,i=(k:Int)-1:=⟨(i+1).toNat,by omega⟩;subst hk;clear h4
 induction k generalizing node w' l' p' with
 |zero=>
  refine .stop ?_;simp only[xA,iR,a5,aq,ao];exact⟨fun h=>by omega,fun h=>rfl⟩
 |succ k ih=>
  have e0:(((k+1:Nat):Int)-1+1).toNat=k+1:=by omega
  have e1:((k:Int)-1+1).toNat=k:=by omega
  have e2:(((k+1:Nat):Int)-1)=(k:Int):=by omega
  rw[e0]at h7 ⊢;rw[e1]at ih;rw[e2]at h5 h8 ⊢;have hlg:=h1.1;have hb:aM .i64 (shr .i64 v' k) 1=v'/2 ^ k%2:=EL h3 k (by omega);have hp:(2:Int) ^ (lg p'-(k+1)+1)≤2 ^ 8:=EM (by omega);have hp8:(2:Int) ^ 8=256:=by decide
  have hpe:(2:Int) ^ (lg p'-k+1)=2*2 ^ (lg p'-(k+1)+1):=by
   rw[show lg p'-k+1=(lg p'-(k+1)+1)+1 from by omega,Int.pow_succ,Int.mul_comm]
  generalize hbe:v'/2 ^ k%2=b at*;have sa:0≤b∧b≤1:=by omega
  have hcl:=ju (kj p' node) b w' l';have sP:=ih (2*node+b) (bD (kj p' node) b w' l').1 (bD (kj p' node) b w' l').2 (c9 p' node b) (zj h1 _ _) (jt h2 (by omega)) (by omega) (by rw[ld];omega) (by rw[ld,hpe];omega) (by omega)
  have e3:aZ (k+1) v' node w' l' p'=aZ k v' (2*node+b) (bD (kj p' node) b w' l').1 (bD (kj p' node) b w' l').2 (c9 p' node b):=by
   rw[aZ,hbe]
  rw[e3];refine .go ?_ sP;have hu:u64.wrap (k:Int)=k:=wrap_u64 (by omega) (by omega)
  have hlen:node<(p'.length:Int):=by
   rw[h1.2.1];have:(2:Int) ^ (lg p'-(k+1)+1)≤2 ^ lg p':=EM (by omega);have e:((2 ^ lg p':Nat):Int)=2 ^ lg p':=(by exact_mod_cast rfl);omega
  have hat:p'.getD node.toNat 0=kj p' node:=by unfold kj qD;rw[if_pos (decide_eq_true ⟨h6,hlen⟩)]
  simp only[xA,iR,a5,aq,ao,hu,hb,hat];refine⟨fun _=>⟨by omega,⟨by omega,hlen⟩,h2,?_⟩,fun h=>by omega⟩;rw[au (n:=2*node) (by omega) (by omega),au (n:=2*node+b) (by omega) (by omega),au (n:=(k:Int)-1) (by omega) (by omega)]
theorem N8(v:Int)(w:Int)(l:List Int)(bits:Int)(p:List Int):∀x:s5,Ex Tryz.prog ((mX).wr (w,l,bits,p,())) (.loop (aP f206 0)) (s6.wr x) (E6 x):=
 cn mixed ((al CE (al sX aw))) (ws:=Ta) (aK.nil _) (fun x_=>Jg v w l bits p x_.1 x_.2.1 x_.2.2.1 x_.2.2.2.1 x_.2.2.2.2.1 x_.2.2.2.2.2.1 x_.2.2.2.2.2.2) (fun z e=>by cases e) fH (fun x_ h=>Wn x_.1 x_.2.1 x_.2.2.1 x_.2.2.2.1 x_.2.2.2.2.1 x_.2.2.2.2.2.1 x_.2.2.2.2.2.2 h)
abbrev E7:Type:=Int×(List Int)×Int×(List Int)
abbrev ab2(x:E7):LV:=LV.c6 []
abbrev ab3(x:E7):List (Nat×Ev.Item):= [(0,Item.ba [SV.sl 1 1,SV.int u64 (SI.sym x.1)] 277),(1,Item.own 1
 (Ty.int IntKind.u8) x.2.1),(2,Item.ba [SV.int i64 (SI.sym x.2.2.1),SV.sl 3 1] 347),(3,Item.own 1 (Ty.int i64) x.2.2.2)]
def N9(v:Int)(w:Int)(l:List Int)(bits:Int)(p:List Int):Tr (E7):=(.ite (decide (v<0)==false) (.ite (decide
 ((↑p.length:Int)≤v)) (.ret (w,l,bits,p)) (.need (vt v 1 (i64.wrap (bits-1)) w l bits p) (.ret ((aZ (Int.toNat
 (i64.wrap (bits-1)+1)) v 1 w l p).fst,(aZ (Int.toNat (i64.wrap (bits-1)+1)) v 1 w l p).snd.fst,bits,(aZ (Int.toNat
 (i64.wrap (bits-1)+1)) v 1 w l p).snd.snd)))) (.ret (w,l,bits,p)))
theorem Oa(v:Int)(w:Int)(l:List Int)(bits:Int)(p:List Int):aH Tryz.prog [(279,ER),(205,CF)] [(0,bU s6 ((mX).wr (w,l,bits,p,())) E2 (E6))] f206 (((ai (ah (aD 0 0)) (ai (ah (aD 2 0)) (ae (ah (aA .i64)) ag)))).wr (v,())) ((mX).wr (w,l,bits,p,())) [.one 1,.one 3,.fr [.sym],.syms,.auto,.aF]=(N9 v w l bits p).end ab2 ab3 ((mX).wr (w,l,bits,p,())):=by kernel_rfl
theorem Wo(v:Int)(w:Int)(l:List Int)(bits:Int)(p:List Int):aK Tryz.prog ((mX).wr (w,l,bits,p,())) [(0,bU s6 ((mX).wr (w,l,bits,p,())) E2 (E6))] (aJ f206):=(aK.bI (iu (by kernel_rfl) (bM (hp:=(mX).wr (w,l,bits,p,())) (N8 v w l bits p)) iE))
abbrev oD(v:Int)(w:Int)(l:List Int)(bits:Int)(p:List Int):Prop:=MI p∧pS w l∧0≤v∧v<2 ^ lg p∧1≤lg p∧l.length<1099511500000∧bits=lg p
abbrev Ob(v:Int)(w:Int)(l:List Int)(bits:Int)(p:List Int):E7:=((aZ (lg p) v 1 w l p).1,(aZ (lg p) v 1 w l p).2.1,bits,(aZ (lg p) v 1 w l p).2.2)
def E8:an:=cQ [] ((ai (ah (aD 0 0)) (ai (ah (aD 2 0)) (ae (ah (aA .i64)) ag)))) (mX) (fun x_ y_=>oD x_.1 y_.1 y_.2.1 y_.2.2.1 y_.2.2.2.1) (fun x_ y_=>Ob x_.1 y_.1 y_.2.1 y_.2.2.1 y_.2.2.2.1) ab2 ab3
theorem ab4(v:Int)(w:Int)(l:List Int)(bits:Int)(p:List Int)(h_:oD v w l bits p):(N9 v w l bits p).Is (Ob v w l bits p):=by
 delta Ob;obtain⟨h1,h2,h3,h4,h5,h6,rfl⟩:=h_;have hlg:=h1.1;have e1:i64.wrap ((lg p:Int)-1)=lg p-1:=au (by omega) (by omega);have e2:((lg p:Int)-1+1).toNat=lg p:=by omega
 have e3:((2 ^ lg p:Nat):Int)=2 ^ lg p:=by exact_mod_cast rfl
 simp only[N9,aq,ao,cu,beq_iff_eq,decide_eq_true_eq,decide_eq_false_iff_not,e1,e2,h1.2.1,e3];refine⟨fun _=>⟨fun h=>by omega,fun _=>⟨⟨h1,h2,h3,by omega,by omega,by omega,by rw[e2,Nat.sub_self];decide,by omega⟩,trivial⟩⟩,fun h=>?_⟩;simp at h;omega
theorem zy:E8.Ok Tryz.prog 206:=
 bJ mixed ((al CE (al sX aw))) func206 (by kernel_rfl) call206 (fun x_ y_=>Wo x_.1 y_.1 y_.2.1 y_.2.2.1 y_.2.2.2.1) (fun x_ y_=>Oa x_.1 y_.1 y_.2.1 y_.2.2.1 y_.2.2.2.1) (fun x_ y_ h=>ab4 x_.1 y_.1 y_.2.1 y_.2.2.1 y_.2.2.2.1 h)
end Go.Proofs.YtnbkagglkajbkaaGreat
end
