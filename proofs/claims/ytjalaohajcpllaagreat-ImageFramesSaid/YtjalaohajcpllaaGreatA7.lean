/- What the laws lean on, part 7: a reader of code, plain facts, and what each function gives; no conditions. -/
import Derived.Test.YtjalaohajcpllaaGreatA6
section
set_option linter.unusedVariables false
set_option linter.unusedSimpArgs false
namespace Go.Proofs.YtjalaohajcpllaaGreat
open Go Go.Ev
set_option maxRecDepth 1000000
abbrev J2:a9 (List LV) (Int×Unit):=ae (ah (ay .i64)) ag
abbrev aas:a9 (List LV) (Int×Int×Unit):=ae (ah (ay .i64)) (ae (ah (ay .i64)) ag)
abbrev anL:a9 (List LV) (Int×Int×Int×Unit):=ae (ah (ay .i64)) (ae (ah (ay .i64)) (ae (ah (ay .i64)) ag))
def aM (p:Int):Int:=if p<31 then 31 else if 2017<p then 2017 else p
def cq (p b:Int):Int:=if b=0 then aM p+(2048-aM p)/32 else aM p-aM p/32
def e1I (g:Int→Int):au:=au.bV [] J2 ag fun x _=> .leaf none (nI (g x.1)) []
def e2I (g:Int→Int→Int):au:=au.bV [] aas ag fun x _=> .leaf none (nI (g x.1 x.2.1)) []
def e3I (g:Int→Int→Int→Int):au:=au.bV [] anL ag fun x _=> .leaf none (nI (g x.1 x.2.1 x.2.2.1)) []
theorem eY (p:Int):31≤aM p∧aM p≤2017:=by unfold aM;split<;>(try split)<;>omega
theorem tR {p b:Int}:cq p b=if b=0 then IntKind.i64.wrap (aM p+IntKind.i64.wrap ((IntKind.i64.wrap (2048-aM p)).tdiv 32)) else IntKind.i64.wrap (aM p-IntKind.i64.wrap ((aM p).tdiv 32)):=by
 have h:=eY p
 unfold cq
 have e1:IntKind.i64.wrap (2048-aM p)=2048-aM p:=aq (by omega) (by omega)
 rw[e1,Int.tdiv_eq_ediv_of_nonneg (by omega),Int.tdiv_eq_ediv_of_nonneg (by omega),aq (n:=(2048-aM p)/32) (by omega) (by omega),aq (n:=aM p/32) (by omega) (by omega),aq (by omega) (by omega),aq (by omega) (by omega)]
theorem pd (p b:Int):31≤cq p b∧cq p b≤2017:=by
 have h:=eY p
 unfold cq
 split<;>omega
theorem lP {a b:Int} (h:a=b):nI a=nI b:=by rw[h]
theorem aat (p:Int):(if 31<(if 2017<p then 2017 else p) then (if 2017<p then 2017 else p) else 31)=aM p:=by
 unfold aM
 by_cases h1:2017<p
 ·simp only[h1,if_true];rw[if_pos (by decide),if_neg (by omega)]
 ·simp only[h1,if_false]
  by_cases h2:31<p
  ·rw[if_pos h2,if_neg (by omega)]
  ·rw[if_neg h2];split<;>omega
noncomputable abbrev F1:au:=e1I aM
theorem NI (p:Int):aY Tryz.prog [] [] Tryz.f155 ((J2).wr (p,())) [] [.fr [.sym],.auto]=
 End.leaf (LV.one (VV.sc (SV.int IntKind.i64 (SI.sym (if (31:Int)<if (2017:Int)<p then (2017:Int) else p then if (2017:Int)<p then (2017:
 Int) else p else (31:Int)))))) []:=by kernel_rfl
theorem NJ: ∀ p_∈([]:List (FuncId×au)),p_.2.Ok Tryz.prog p_.1:=aD
theorem tS:F1.Ok Tryz.prog 155:=by
 refine (au.bE Tryz.call155 fun x_ y_ Q H_=>?_).sym
 obtain ⟨p,_⟩:=x_
 have hq:=H_.2
 refine (aG (tab:= []) mixed NJ Tryz.func155 rfl (LT:= []) (ks:= [.fr [.sym],.auto]) (aP.nil _)).use (D:= []) ?_ hq
 show (aY _ _ _ _ ((J2).wr (p,())) [] _).sat _
 rw[NI]
 exact ⟨lP (aat p),rfl⟩
noncomputable abbrev tT:au:=e2I cq
theorem J3 (h:Int→Int) (p b:Int):aY Tryz.prog [(155,e1I h)] [] Tryz.f158 ((aas).wr (p,b,())) [] [.fr [.sym],.auto]=
 End.ite (b==(0:Int)) (End.leaf (LV.one (VV.sc (SV.int IntKind.i64 (SI.sym (IntKind.i64.wrap (h p+IntKind.i64.wrap ((IntKind.i64.wrap ((2048:
 Int)-h p)).tdiv (32:Int)))))))) []) (End.leaf (LV.one (VV.sc (SV.int IntKind.i64 (SI.sym (IntKind.i64.wrap (h p-IntKind.i64.wrap ((h p).tdiv (32
 :Int)))))))) []):=by kernel_rfl
theorem J4: ∀ p_∈([(155,e1I aM)]:List (FuncId×au)),p_.2.Ok Tryz.prog p_.1:=(ao tS aD)
theorem qG:tT.Ok Tryz.prog 158:=by
 refine (au.bE Tryz.call158 fun x_ y_ Q H_=>?_).sym
 obtain ⟨p,b,_⟩:=x_
 have hq:=H_.2
 refine (aG (tab:= [(155,e1I aM)]) mixed J4 Tryz.func158 rfl (LT:= []) (ks:= [.fr [.sym],.auto]) (aP.nil _)).use (D:= []) ?_ hq
 show (aY _ _ _ _ ((aas).wr (p,b,())) [] _).sat _
 rw[J3 aM]
 refine ⟨fun h=>⟨lP ?_,rfl⟩,fun h=>⟨lP ?_,rfl⟩⟩
 ·rw[tR,if_pos (beq_iff_eq.1 h)]
 ·rw[tR,if_neg (bne_iff_ne.1 (by simpa using h))]
def nv (a b c:Int):Int:=if a<b then b else if c<a then c else a
noncomputable abbrev aau:au:=e3I nv
theorem VT (a b c:Int):aY Tryz.prog [] [] Tryz.f104 ((anL).wr (a,b,c,())) [] [.fr [.sym],.auto]=
 End.ite (decide (a<b)) (End.leaf (LV.one (VV.sc (SV.int IntKind.i64 (SI.sym b)))) []) (End.ite (decide (c<a)) (End.leaf (LV.one (VV.sc (SV.int
 IntKind.i64 (SI.sym c)))) []) (End.leaf (LV.one (VV.sc (SV.int IntKind.i64 (SI.sym a)))) [])):=by kernel_rfl
theorem VU: ∀ p_∈([]:List (FuncId×au)),p_.2.Ok Tryz.prog p_.1:=aD
theorem F2:aau.Ok Tryz.prog 104:=by
 refine (au.bE Tryz.call104 fun x_ y_ Q H_=>?_).sym
 obtain ⟨a,b,c,_⟩:=x_
 have hq:=H_.2
 refine (aG (tab:= []) mixed VU Tryz.func104 rfl (LT:= []) (ks:= [.fr [.sym],.auto]) (aP.nil _)).use (D:= []) ?_ hq
 show (aY _ _ _ _ ((anL).wr (a,b,c,())) [] _).sat _
 rw[VT]
 refine ⟨fun h=>⟨lP ?_,rfl⟩,fun h=>⟨fun h2=>⟨lP ?_,rfl⟩,fun h2=>⟨lP ?_,rfl⟩⟩⟩
 ·unfold nv;rw[if_pos (of_decide_eq_true h)]
 ·unfold nv;rw[if_neg (of_decide_eq_false h),if_pos (of_decide_eq_true h2)]
 ·unfold nv;rw[if_neg (of_decide_eq_false h),if_neg (of_decide_eq_false h2)]
noncomputable abbrev F3:au:=e1I aM
theorem NK (c:Int→Int→Int→Int) (p:Int):aY Tryz.prog [(104,e3I c)] [] Tryz.f139 ((J2).wr (p,())) [] [.fr [.sym],.auto]=
 End.leaf (LV.one (VV.sc (SV.int IntKind.i64 (SI.sym (c p (31:Int) (2017:Int)))))) []:=by kernel_rfl
theorem NL: ∀ p_∈([(104,e3I nv)]:List (FuncId×au)),p_.2.Ok Tryz.prog p_.1:=(ao F2 aD)
theorem tU:F3.Ok Tryz.prog 139:=by
 refine (au.bE Tryz.call139 fun x_ y_ Q H_=>?_).sym
 obtain ⟨p,_⟩:=x_
 have hq:=H_.2
 refine (aG (tab:= [(104,e3I nv)]) mixed NL Tryz.func139 rfl (LT:= []) (ks:= [.fr [.sym],.auto]) (aP.nil _)).use (D:= []) ?_ hq
 show (aY _ _ _ _ ((J2).wr (p,())) [] _).sat _
 rw[NK nv]
 exact ⟨rfl,rfl⟩
noncomputable abbrev tV:au:=e2I cq
theorem J5 (h:Int→Int) (p b:Int):aY Tryz.prog [(139,e1I h)] [] Tryz.f142 ((aas).wr (p,b,())) [] [.fr [.sym],.auto]=
 End.ite (b==(0:Int)) (End.leaf (LV.one (VV.sc (SV.int IntKind.i64 (SI.sym (IntKind.i64.wrap (h p+IntKind.i64.wrap ((IntKind.i64.wrap ((2048:
 Int)-h p)).tdiv (32:Int)))))))) []) (End.leaf (LV.one (VV.sc (SV.int IntKind.i64 (SI.sym (IntKind.i64.wrap (h p-IntKind.i64.wrap ((h p).tdiv (32
 :Int)))))))) []):=by kernel_rfl
theorem J6: ∀ p_∈([(139,e1I aM)]:List (FuncId×au)),p_.2.Ok Tryz.prog p_.1:=(ao tU aD)
theorem qH:tV.Ok Tryz.prog 142:=by
 refine (au.bE Tryz.call142 fun x_ y_ Q H_=>?_).sym
 obtain ⟨p,b,_⟩:=x_
 have hq:=H_.2
 refine (aG (tab:= [(139,e1I aM)]) mixed J6 Tryz.func142 rfl (LT:= []) (ks:= [.fr [.sym],.auto]) (aP.nil _)).use (D:= []) ?_ hq
 show (aY _ _ _ _ ((aas).wr (p,b,())) [] _).sat _
 rw[J5 aM]
 refine ⟨fun h=>⟨lP ?_,rfl⟩,fun h=>⟨lP ?_,rfl⟩⟩
 ·rw[tR,if_pos (beq_iff_eq.1 h)]
 ·rw[tR,if_neg (bne_iff_ne.1 (by simpa using h))]
abbrev arx:a9 (Option Ev.Item) Unit:=dN 213 (ak (jY 1 0) ag)
abbrev tW:a9 Hp (List Int×Unit):=ak arx (ae (cg 0 (.int .u16)) ag)
abbrev lQ:a9 (List LV) (Int×Unit):=ak (ah (aJ 0 0)) (ae (ah (ay .i64)) ag)
abbrev oA:a9 (List LV) (Int×Int×Unit):=ak (ah (aJ 0 0)) (ae (ah (ay .i64)) (ae (ah (ay .i64)) ag))
def nw (p:List Int) (n:Int):Bool:=decide (1≤n∧n<p.length)
theorem aav {b c:Bool} (h:b=c):nB b=nB c:=by rw[h]
theorem wrap_u16 (n:Int):IntKind.u16.wrap n=n%65536:=by
 simp only[IntKind.wrap,IntKind.bits,IntKind.signed]
 simp
def gD (p:List Int):Prop:= ∀ i,0≤p.getD i 0∧p.getD i 0≤65535
def dz (p:List Int) (n:Int):Int:=if nw p n=true then p.getD n.toNat 0 else 0
def bZ (p:List Int) (n b:Int):List Int:=if nw p n=true then p.set n.toNat (cq (p.getD n.toNat 0) b) else p
noncomputable def aaw:au:=au.bV [] (lQ) (tW) fun x_ y_=>(fun (n:Int) (p:List Int)=> .leaf none (nB (nw p n)) []) x_.1 y_.1
theorem VW (n:Int) (p:List Int):aY Tryz.prog [] [] Tryz.f175 ((lQ).wr (n,())) ((tW).wr (p,())) [.fr [.sym],.auto]=
 End.ite (decide ((1:Int)≤n)==true) (End.leaf (LV.one (VV.sc (SV.bool (SB.sym (decide (n<(↑p.length:Int))))))) [some (Item.a8 [SV.sl (1:
 Nat) (0:Nat)] (213:Nat)),some (Item.own (0:Nat) (Ty.int IntKind.u16) p)]) (End.leaf (LV.one (VV.sc (SV.bool (SB.sym false)))) [some (Item.a8
 [SV.sl (1:Nat) (0:Nat)] (213:Nat)),some (Item.own (0:Nat) (Ty.int IntKind.u16) p)]):=by kernel_rfl
theorem Tg:aaw.Ok Tryz.prog 175:=by
 refine (au.bE Tryz.call175 fun x_ y_ Q H_=>?_).sym
 obtain ⟨n,_⟩:=x_
 obtain ⟨p,_⟩:=y_
 have hq:=H_.2
 refine (aG mixed aD Tryz.func175 rfl (LT:= []) (ks:= [.fr [.sym],.auto]) (aP.nil _)).use (D:= []) ?_ hq
 show (aY _ _ _ _ ((lQ).wr (n,())) ((tW).wr (p,())) _).sat _
 rw[VW]
 refine ⟨fun h=>⟨aav ?_,rfl⟩,fun h=>⟨aav ?_,rfl⟩⟩
 ·have h:1≤n:=by simpa using h
  unfold nw;exact decide_eq_decide.2 ⟨fun h'=>⟨h,h'⟩,fun h'=>h'.2⟩
 ·have h: ¬ 1≤n:=by simpa using h
  unfold nw;exact (decide_eq_false fun h'=>h h'.1).symm
noncomputable def VX:au:=au.bV [] (lQ) (tW) fun x_ y_=>(fun (n:Int) (p:List Int)=> .leaf (some (gD p)) (nI (dz p n)) []) x_.1 y_.1
theorem aax (n:Int) (p:List Int):aY Tryz.prog [(175,aaw)] [] Tryz.f153 ((lQ).wr (n,())) ((tW).wr (p,())) [.fr [.sym],.auto]=
 End.ite (!nw p n) (End.leaf (LV.one (VV.sc (SV.int IntKind.i64 (SI.sym (0:Int))))) [some (Item.a8 [SV.sl (1:Nat) (0:Nat)] (213:Nat)),some
 (Item.own (0:Nat) (Ty.int IntKind.u16) p)]) (End.need ((0:Int)≤n∧n<(↑p.length:Int)) (End.leaf (LV.one (VV.sc (SV.int IntKind.i64 (SI.sym
 (IntKind.i64.wrap (p.getD n.toNat (0:Int))))))) [some (Item.a8 [SV.sl (1:Nat) (0:Nat)] (213:Nat)),some (Item.own (0:Nat) (Ty.int
 IntKind.u16) p)])):=by kernel_rfl
theorem Be:VX.Ok Tryz.prog 153:=by
 refine (au.bE Tryz.call153 fun x_ y_ Q H_=>?_).sym
 obtain ⟨n,_⟩:=x_
 obtain ⟨p,_⟩:=y_
 obtain ⟨hn,hq⟩:=H_
 have hn:gD p:=hn
 refine (aG mixed ((ao Tg aD)) Tryz.func153 rfl (LT:= []) (ks:= [.fr [.sym],.auto]) (aP.nil _)).use (D:= []) ?_ hq
 show (aY _ _ _ _ ((lQ).wr (n,())) ((tW).wr (p,())) _).sat _
 rw[aax]
 refine ⟨fun h=>⟨lP ?_,rfl⟩,fun h=>?_⟩
 ·have h: ¬ nw p n=true:=by simpa using h
  unfold dz;rw[if_neg h]
 ·have h:nw p n=true:=by simpa using h
  have hh:1≤n∧n<p.length:=of_decide_eq_true h
  have hr:=hn n.toNat
  refine ⟨by omega,lP ?_,rfl⟩
  unfold dz;rw[if_pos h,aq (by omega) (by omega)]
noncomputable def F4:au:=au.bV [] (oA) (tW) fun x_ y_=>(fun (n b:Int) (p:List Int)=> .leaf (some (gD p)) (.cV []) [(1,.own 0 (.int .u16) (bZ p n b))]) x_.1 x_.2.1 y_.1
theorem NM (n b:Int) (p:List Int):aY Tryz.prog [(175,aaw),(158,tT)] [] Tryz.f154 ((oA).wr (n,b,())) ((tW).wr (p,())) [.fr [.sym],.auto]=
 End.ite (nw p n) (End.need ((0:Int)≤n∧n<(↑p.length:Int)) (End.need ((0:Int)≤n∧n<(↑p.length:Int)) (End.leaf (LV.cV []) [some
 (Item.a8 [SV.sl (1:Nat) (0:Nat)] (213:Nat)),some (Item.own (0:Nat) (Ty.int IntKind.u16) (p.set n.toNat (IntKind.u16.wrap (cq
 (IntKind.i64.wrap (p.getD n.toNat (0:Int))) b))))]))) (End.leaf (LV.cV []) [some (Item.a8 [SV.sl (1:Nat) (0:Nat)] (213:Nat)),some (Item.own
 (0:Nat) (Ty.int IntKind.u16) p)]):=by kernel_rfl
theorem Bf:F4.Ok Tryz.prog 154:=by
 refine (au.bE Tryz.call154 fun x_ y_ Q H_=>?_).sym
 obtain ⟨n,b,_⟩:=x_
 obtain ⟨p,_⟩:=y_
 obtain ⟨hn,hq⟩:=H_
 have hn:gD p:=hn
 refine (aG mixed ((ao Tg (ao qG aD))) Tryz.func154 rfl (LT:= []) (ks:= [.fr [.sym],.auto]) (aP.nil _)).use (D:= [(1,.own 0 (.int .u16) (bZ p n b))]) ?_ hq
 show (aY _ _ _ _ ((oA).wr (n,b,())) ((tW).wr (p,())) _).sat _
 rw[NM]
 refine ⟨fun h=>?_,fun h=>?_⟩
 ·have hh:1≤n∧n<p.length:=of_decide_eq_true h
  have hr:=hn n.toNat
  have ha:=pd (p.getD n.toNat 0) b
  have e:bZ p n b=p.set n.toNat (IntKind.u16.wrap (cq (IntKind.i64.wrap (p.getD n.toNat 0)) b)):=by
   unfold bZ
   rw[if_pos h,aq (by omega) (by omega)]
   congr 1
   rw[wrap_u16];omega
  refine ⟨by omega,by omega,rfl,?_⟩
  rw[e];rfl
 ·have h: ¬ nw p n=true:=by simpa using h
  have e:bZ p n b=p:=if_neg h
  refine ⟨rfl,?_⟩
  rw[e];rfl
end Go.Proofs.YtjalaohajcpllaaGreat
end
section
set_option linter.unusedVariables false
set_option linter.unusedSimpArgs false
namespace Go.Ev
open Go
theorem gq {α:Type} {l:List α} {k:Nat} (z:α) (h:k<l.length):l.drop k=l.getD k z::l.drop (k+1):=by
 rw[List.drop_eq_getElem_cons h]
 simp[List.getD_eq_getElem?_getD,List.getElem?_eq_getElem h]
theorem aC.getD {l:List Int} (h:aC l) (i:Nat):By (l.getD i 0):=by
 rw[List.getD_eq_getElem?_getD]
 cases hi:l[i]? with
 |none=>exact ⟨Int.le_refl _,by decide⟩
 |some z=>exact h z (List.mem_of_getElem? hi)
theorem aC.set {l:List Int} (h:aC l) (i:Nat) {z:Int} (hz:By z):aC (l.set i z):=fun y hy=>by
 rcases List.mem_or_eq_of_mem_set hy with hy|rfl
 ·exact h y hy
 ·exact hz
theorem aC.nil:aC []:=fun _ h=>by cases h
theorem aC.cons {z:Int} {l:List Int} (hz:By z) (h:aC l):aC (z::l):=fun y hy=>by
 rcases List.mem_cons.1 hy with rfl|hy
 ·exact hz
 ·exact h y hy
inductive Tr (X:Type) where
 |ret (x:X)
 |ite (b:Bool) (t e:Tr X)
 |need (p:Prop) (t:Tr X)
 |fail
def Tr.Is {X:Type}:Tr X→X→Prop
 | .ret x,y=>x=y
 | .ite b t e,y=>(b=true→t.Is y)∧(b=false→e.Is y)
 | .need p t,y=>p∧t.Is y
 | .fail,_=>False
theorem aj {X:Type} {x y:X}:(Tr.ret x).Is y↔x=y:=Iff.rfl
theorem ai {X:Type} {p:Prop} {t:Tr X} {y:X}:(Tr.need p t).Is y↔p∧t.Is y:=Iff.rfl
theorem bI {X:Type} {b:Bool} {t e:Tr X} {y:X}:(Tr.ite b t e).Is y↔(b=true→t.Is y)∧(b=false→e.Is y):=Iff.rfl
theorem aN {X:Type} {c:Prop} [Decidable c] {t e:Tr X} {y:X}:(Tr.ite (decide c) t e).Is y↔(c→t.Is y)∧(¬ c→e.Is y):=by
 simp only[bI,decide_eq_true_eq,decide_eq_false_iff_not]
theorem aS {X:Type} {t e:Tr X} {y:X}:(Tr.ite true t e).Is y↔t.Is y:=by simp[bI]
theorem a7 {X:Type} {t e:Tr X} {y:X}:(Tr.ite false t e).Is y↔e.Is y:=by simp[bI]
theorem da {X:Type} {a b:Int} {t e:Tr X} {y:X}:(Tr.ite (a==b) t e).Is y↔(a=b→t.Is y)∧(a≠b→e.Is y):=by
 simp only[bI,beq_iff_eq,beq_eq_false_iff_ne]
theorem xA {X:Type} {a b:Int} {t e:Tr X} {y:X}:(Tr.ite (a !=b) t e).Is y↔(a=b→e.Is y)∧(a≠b→t.Is y):=by
 simp only[bI,bne_iff_ne,bne_eq_false_iff_eq];exact And.comm
theorem kr {X:Type} {b:Bool} {t e:Tr X} {y:X}:(Tr.ite (!b) t e).Is y↔(b=true→e.Is y)∧(b=false→t.Is y):=by
 cases b<;>simp[bI]
theorem ib (b:Bool):(b==true)=b:=by cases b<;>rfl
theorem Tr.Is.inj {X:Type}: ∀ {t:Tr X} {x y:X},t.Is x→t.Is y→x=y
 | .ret _,_,_,h,h'=>h.symm.trans h'
 | .ite true _ _,_,_,h,h'=>(h.1 rfl).inj (h'.1 rfl)
 | .ite false _ _,_,_,h,h'=>(h.2 rfl).inj (h'.2 rfl)
 | .need _ _,_,_,h,h'=>h.2.inj h'.2
def Tr.val {X:Type} (d:X):Tr X→X
 | .ret x=>x
 | .ite b t e=>bif b then t.val d else e.val d
 | .need _ t=>t.val d
 | .fail=>d
def Tr.ok {X:Type}:Tr X→Prop
 | .ret _=>True
 | .ite b t e=>(b=true→t.ok)∧(b=false→e.ok)
 | .need p t=>p∧t.ok
 | .fail=>False
def Tr.end {X:Type} (V:X→LV) (D:X→List (Nat×Item)) (hp:Hp):Tr X→End
 | .ret x=> .leaf (V x) (aK (D x) hp)
 | .ite b t e=> .ite b (t.end V D hp) (e.end V D hp)
 | .need p t=> .need p (t.end V D hp)
 | .fail=> .fail
theorem Tr.nx {X:Type} {V:X→LV} {D:X→List (Nat×Item)} {hp:Hp}: ∀ {t:Tr X} {x:X},t.Is x→(t.end V D hp).sat fun v ft=>v=V x∧ft=aK (D x) hp
 | .ret _,_,h=>by cases h;exact ⟨rfl,rfl⟩
 | .ite _ _ _,_,h=>⟨fun e=>Tr.nx (h.1 e),fun e=>Tr.nx (h.2 e)⟩
 | .need _ _,_,h=>⟨h.1,Tr.nx h.2⟩
 | .fail,_,h=>h
theorem bM {P:Program} (kV:P.follows .mixedOrders=true) {tab:List (FuncId×au)} (rL: ∀ p∈tab,p.2.Ok P p.1) {f:FuncId} {fn:Func} (hf:P.funcs[f]? =some fn) (hb:fn.body.isSome=true) (he:xr P f) {tys:List (Option Ty)} {X Y Z:Type} {A:a9 (List LV) X} {H:a9 Hp Y}
  {LT:X→Y→eW} (hL: ∀ x y,aP P (H.wr y) (LT x y) (aH fn)) {ks:List Wk} {V:Z→LV} {D:Z→List (Nat×Item)} {T:X→Y→Tr Z} {pre:X→Y→Prop} {sp:X→Y→Z}
  (hT: ∀ x y,aY P tab (LT x y) fn (A.wr x) (H.wr y) ks=(T x y).end V D (H.wr y)) (hI: ∀ x y,pre x y→(T x y).Is (sp x y)):
  (au.bV tys A H fun x y=> .leaf (some (pre x y)) (V (sp x y)) (D (sp x y))).Ok P f:=by
 refine (au.bE he fun x y Q h=>?_).sym
 refine (aG kV rL hf hb (ks:=ks) (hL x y)).use (V:=V (sp x y)) (D:=D (sp x y)) ?_ h.2
 rw[hT]
 exact Tr.nx (hI x y h.1)
theorem lR {P:Program} (kV:P.follows .mixedOrders=true) {tab:List (FuncId×au)} (rL: ∀ p∈tab,p.2.Ok P p.1) {f:FuncId} {fn:Func} (hf:P.funcs[f]? =some fn) (hb:fn.body.isSome=true) (he:xr P f) {tys:List (Option Ty)} {X Y Z Z':Type} {A:a9 (List LV) X} {H:a9 Hp Y}
  {LT:X→Y→eW} (hL: ∀ x y,aP P (H.wr y) (LT x y) (aH fn)) {ks:List Wk} {V:Z→LV} {D:Z→List (Nat×Item)} {V':Z'→LV} {D':Z'→List (Nat×Item)} {T:X→Y→Tr (Z⊕Z')} {pre:X→Y→Prop} {c:X→Y→Bool} {sp:X→Y→Z} {sp':X→Y→Z'}
  (hT: ∀ x y,aY P tab (LT x y) fn (A.wr x) (H.wr y) ks=(T x y).end (Sum.elim V V') (Sum.elim D D') (H.wr y)) (hI: ∀ x y,pre x y→(c x y=true→(T x y).Is (.inl (sp x y)))∧(c x y=false→(T x y).Is (.inr (sp' x y)))):
  (au.bV tys A H fun x y=> .ite (c x y) (.leaf (some (pre x y)) (V (sp x y)) (D (sp x y))) (.leaf (some (pre x y)) (V' (sp' x y)) (D' (sp' x y)))).Ok P f:=by
 refine (au.bE he fun x y Q h=>?_).sym
 cases hc:c x y with
 |true=>
  have h1:=h.1 hc
  refine (aG kV rL hf hb (ks:=ks) (hL x y)).use (V:=V (sp x y)) (D:=D (sp x y)) ?_ h1.2
  rw[hT]
  exact Tr.nx (V:=Sum.elim V V') (D:=Sum.elim D D') ((hI x y h1.1).1 hc)
 |false=>
  have h1:=h.2 hc
  refine (aG kV rL hf hb (ks:=ks) (hL x y)).use (V:=V' (sp' x y)) (D:=D' (sp' x y)) ?_ h1.2
  rw[hT]
  exact Tr.nx (V:=Sum.elim V V') (D:=Sum.elim D D') ((hI x y h1.1).2 hc)
theorem anM {P:Program} (kV:P.follows .mixedOrders=true) {tab:List (FuncId×au)} (rL: ∀ p∈tab,p.2.Ok P p.1) {f:FuncId} {fn:Func} (hf:P.funcs[f]? =some fn) (hb:fn.body.isSome=true) (he:xr P f) {tys:List (Option Ty)} {X Y Z:Type} {A:a9 (List LV) X} {H:a9 Hp Y}
  {LT:X→Y→eW} (hL: ∀ x y,aP P (H.wr y) (LT x y) (aH fn)) {ks:List Wk} {V:Z→LV} {D:Z→List (Nat×Item)} {T:X→Y→Tr Z} {out:X→Y→Out}
  (hT: ∀ x y,aY P tab (LT x y) fn (A.wr x) (H.wr y) ks=(T x y).end V D (H.wr y)) (hO: ∀ x y Q,(out x y).holds Q→ ∃ z,(T x y).Is z∧Q (V z) (D z)):
  (au.bV tys A H out).Ok P f:=by
 refine (au.bE he fun x y Q h=>?_).sym
 obtain ⟨z,h1,h2⟩:=hO x y Q h
 refine (aG kV rL hf hb (ks:=ks) (hL x y)).use (V:=V z) (D:=D z) ?_ h2
 rw[hT]
 exact Tr.nx h1
inductive cJ {X Z:Type} (L:X→Tr (X⊕Z)):X→Z→Prop where
 |stop {x z} (h:(L x).Is (.inr z)):cJ L x z
 |go {x y z} (h:(L x).Is (.inl y)) (t:cJ L y z):cJ L x z
inductive Bg {X Z:Type} (L:X→Tr (X⊕Z)):Nat→X→Z→Prop where
 |stop {n x z} (h:(L x).Is (.inr z)):Bg L n x z
 |go {n x y z} (h:(L x).Is (.inl y)) (t:Bg L n y z):Bg L (n+1) x z
theorem cJ.n {X Z:Type} {L:X→Tr (X⊕Z)} {x:X} {z:Z} (h:cJ L x z): ∃ n,Bg L n x z:=by
 induction h with
 |stop h=>exact ⟨0,.stop h⟩
 |go h _ ih=>obtain ⟨n,h'⟩:=ih;exact ⟨n+1,.go h h'⟩
theorem cJ.iter {X Z:Type} {L:X→Tr (X⊕Z)} {z:Z} (f:Nat→X) (n:Nat) (h: ∀ k,k<n→(L (f k)).Is (.inl (f (k+1)))) (he:(L (f n)).Is (.inr z)):cJ L (f 0) z:=by
 have key: ∀ m k,k+m=n→cJ L (f k) z:=by
  intro m
  induction m with
  |zero=>intro k hk;have:k=n:=by omega
         subst this;exact .stop he
  |succ m ih=>intro k hk;exact .go (h k (by omega)) (ih (k+1) (by omega))
 exact key n 0 (by omega)
def Tr.res {X Z:Type} (C:X→St) (E:Z→Exit×St):Tr (X⊕Z)→a6
 | .ret (.inl y)=> .leaf .normal (C y)
 | .ret (.inr z)=> .leaf (E z).1 (E z).2
 | .ite b t e=> .ite b (t.res C E) (e.res C E)
 | .need p t=> .need p (t.res C E)
 | .fail=> .fail
theorem Tr.F5 {X Z:Type} {C:X→St} {E:Z→Exit×St} {y:X}: ∀ {t:Tr (X⊕Z)},t.Is (.inl y)→(t.res C E).sat fun e s=>e= .normal∧s=C y
 | .ret _,h=>by cases h;exact ⟨rfl,rfl⟩
 | .ite _ _ _,h=>⟨fun e=>Tr.F5 (h.1 e),fun e=>Tr.F5 (h.2 e)⟩
 | .need _ _,h=>⟨h.1,Tr.F5 h.2⟩
 | .fail,h=>h
theorem Tr.tX {X Z:Type} {C:X→St} {E:Z→Exit×St} {z:Z}: ∀ {t:Tr (X⊕Z)},t.Is (.inr z)→(t.res C E).sat fun e s=>e=(E z).1∧s=(E z).2
 | .ret _,h=>by cases h;exact ⟨rfl,rfl⟩
 | .ite _ _ _,h=>⟨fun e=>Tr.tX (h.1 e),fun e=>Tr.tX (h.2 e)⟩
 | .need _ _,h=>⟨h.1,Tr.tX h.2⟩
 | .fail,h=>h
theorem bT {P:Program} (kV:P.follows .mixedOrders=true) {tab:List (FuncId×au)} (rL: ∀ p∈tab,p.2.Ok P p.1) {LT:eW} {fn:Func} {id:Nat} {hp:Hp} {ws:Exit→List Wk} (hL:aP P hp LT (aU fn id))
  {X Z:Type} {C:a9 St X} {E:Z→Exit×St} {L:X→Tr (X⊕Z)} {pre:X→Prop} {sp:X→Z} {F:X→a6}
  (hT: ∀ x,c8 P tab LT fn id hp ws (C.wr x)=(L x).res C.wr E) (hE: ∀ z,(E z).1≠ .normal) (hF: ∀ x R,(F x).sat R→pre x∧R (E (sp x)).1 (E (sp x)).2) (hI: ∀ x,pre x→cJ L x (sp x)) (x:X):
  Ex P hp (.loop (aU fn id)) (C.wr x) (F x):=by
 intro W β₀ R Q hs hq β a w hr
 obtain ⟨hx,hs2⟩:=hF x R hs
 obtain ⟨n,hn⟩:=(hI x hx).n
 have key:Ex P hp (.loop (aU fn id)) (C.wr x) (.leaf (E (sp x)).1 (E (sp x)).2):=by
  refine Ex.fw (X:=Nat×X) (fun p=>p.1) (fun p=>C.wr p.2) (fun p=>Bg L p.1 p.2 (sp x)) (fun p=>(L p.2).res C.wr E) (fun _=> .leaf (E (sp x)).1 (E (sp x)).2) (fun p _=>by have:=Tc kV rL hL (P:=P) (ws:=ws) (st:=C.wr p.2);rw[hT] at this;exact this) (fun p R hp hs=>?_) (x:=(n,x)) hn
  obtain ⟨k,y⟩:=p
  cases hp with
  |stop h=>exact a6.o6 (fun e s ⟨h1,h2⟩=> .inr ⟨by rw[h1];exact hE _,by rw[h1,h2];exact hs⟩) (Tr.tX h)
  |go h t=>exact a6.o6 (fun e s ⟨h1,h2⟩=> .inl ⟨h1,(_,_),h2,t,Nat.lt_succ_self _,hs⟩) (Tr.F5 h)
 exact key W β₀ R Q hs2 hq β a w hr
theorem dc {X Z:Type} {E:Z→Exit×St} {pre:X→Prop} {sp:X→Z}: ∀ (x:X) (R:Exit→St→Prop),(a6.need (pre x) (.leaf (E (sp x)).1 (E (sp x)).2)).sat R→pre x∧R (E (sp x)).1 (E (sp x)).2:=fun _ _ h=>h
theorem sy {X Z Z':Type} {E:Z→Exit×St} {E':Z'→Exit×St} {pre:X→Prop} {c:X→Bool} {sp:X→Z} {sp':X→Z'}: ∀ (x:X) (R:Exit→St→Prop),(a6.need (pre x) (.ite (c x) (.leaf (E (sp x)).1 (E (sp x)).2) (.leaf (E' (sp' x)).1 (E' (sp' x)).2))).sat R→
  pre x∧R (Sum.elim E E' (bif c x then .inl (sp x) else .inr (sp' x))).1 (Sum.elim E E' (bif c x then .inl (sp x) else .inr (sp' x))).2:=fun x R h=>⟨h.1,by
 cases hc:c x with
 |true=>exact h.2.1 hc
 |false=>exact h.2.2 hc⟩
def qI (n:List Wk) (id:Nat) (x r:List Wk):Exit→List Wk
 | .normal=>n
 | .exit i=>if i=id then x else n
 | .ret=>r
 |_=> []
def eE (n:Nat) (r:List LV):List LV:=List.replicate n .bl++r
def bG {X:Type} (c:a9 Item X):a9 (Option Item) X where
 rd x:=match x with
  |some x=>c.rd x
  |none=>none
 wr x:=some (c.wr x)
 ok:=by
  intro x v h
  split at h
  ·rw[c.ok h]
  ·cases h
def tY {X:Type} (e:TypeId) (r:a9 (List SV) X):a9 Item X where
 rd x:=match x with
  | .a8 cells e'=>if e'=e then r.rd cells else none
  |_=>none
 wr x:= .a8 (r.wr x) e
 ok:=by
  intro x v h
  split at h
  ·split at h
   ·rename_i e;subst e;rw[r.ok h]
   ·cases h
  ·cases h
def Out.ail (p:Nat×Item):Out→Out
 | .leaf q v d=> .leaf q v (p::d)
 | .ite b x y=> .ite b (x.ail p) (y.ail p)
 | .fail=> .fail
theorem Out.sA {p:Nat×Item} {Q:LV→List (Nat×Item)→Prop}: ∀ {o:Out},(o.ail p).holds Q→o.holds fun v d=>Q v (p::d)
 | .leaf _ _ _,h=>h
 | .ite _ _ _,h=>⟨fun e=>Out.sA (h.1 e),fun e=>Out.sA (h.2 e)⟩
 | .fail,h=>h
def au.aay (i off n:Nat) (k:IntKind) (e:au):au:=⟨e.tys,fun args hp=>match br hp i with
 |some (.a8 cells t)=>(e.run args (hp.set i (some (.a8 (DN off n k cells) t)))).ail (i,.a8 (DN off n k cells) t)
 |_=> .fail⟩
theorem au.Ok.aay {P:Program} {f:FuncId} {e:au} (he:e.Ok P f) (i off n:Nat) (k:IntKind):(e.aay i off n k).Ok P f:=by
 refine ⟨fun args hp Q h β w vals hh dG=>?_⟩
 simp only[au.aay] at h
 split at h
 ·rename_i cells t hi
  have hi:=aB hi
  obtain ⟨h1,h2⟩:=hh.Bb hi fun c=>km (off:=off) (n:=n) (k:=k)
  refine (he.calls _ _ _ (Out.sA h) β w vals h1.self (by rw[h2];exact dG)).mono ?_
  rintro en w' ⟨val,β',r,ft,rfl,⟨d,hq,rfl⟩,hd,h'⟩
  exact ⟨val,β',r,_,rfl,⟨_,hq,by rw[aK,tn hi]⟩,hd,h1.trans h'⟩
 ·exact h.elim
end Go.Ev
end
section
set_option linter.unusedVariables false
set_option linter.unusedSimpArgs false
namespace Go.Proofs.YtjalaohajcpllaaGreat
open Go Go.Ev
set_option maxRecDepth 1000000
abbrev jCo:a9 Ev.Item Int:=(tY 183 (ak (jY 1 0) (ae (ay .u64) ag))).jQ (fun x=>x.1) (fun w=>(w,())) (fun _=>rfl)
abbrev sB:a9 Hp (Int×List Int×Unit):=ae (bG jCo) (ae (cg 0 u8) ag)
abbrev VY:a9 (List LV) (Int×Unit):=ak (ah (aJ 0 0)) (ae (ah (ay .u64)) ag)
abbrev dE:a9 (List LV) Unit:=ak (ah (aJ 0 0)) ag
def ca (w:Int) (l:List Int):Int×List Int:=if w<16777216 then (w*256,l++ [0]) else (w,l)
def cm:Nat→Int→List Int→List Int
 |0,_,l=>l
 |i+1,n,l=>if 0<n then cm i ((n+l.getD i 0)/256) (l.set i ((n+l.getD i 0)%256)) else l
abbrev aaz:Type:=Int×(List Int)
noncomputable abbrev aaA (x:aaz):LV:=LV.cV []
noncomputable abbrev aaB (x:aaz):List (Nat×Ev.Item):= [(0,Item.a8 [SV.sl 1 1,SV.int IntKind.u64 (SI.sym x.1)] 183),(1,Item.own 1
 (Ty.int IntKind.u8) x.2)]
noncomputable def Th (w:Int) (l:List Int):Tr (aaz):=(.ite (decide (w<16777216)) (.need ((l.length+1)*1≤70368744177664∧l.length+
 1≤70368744177664) (.ret (shl IntKind.u64 w 8,l++ [0]))) (.ret (w,l)))
theorem VZ (w:Int) (l:List Int):aY Tryz.prog [] [] Tryz.f157 ((dE).wr (())) ((sB).wr (w,l,())) [.one 1,.fr [.sym],.syms,.auto,.ax]=(Th w l).end aaA aaB ((sB).wr (w,l,())):=by kernel_rfl
theorem aaC (w:Int) (l:List Int):aP Tryz.prog ((sB).wr (w,l,())) [] (aH Tryz.f157):=(aP.nil _)
abbrev ny (w:Int) (l:List Int):Prop:=0≤w∧w<72057594037927936∧l.length<1099511627776
noncomputable def aaD:au:=au.bV [] (dE) (sB) fun x_ y_=> .leaf (some ((fun (w:Int) (l:List Int)=>ny w l) y_.1 y_.2.1)) (aaA ((fun (w:Int) (l:List Int)=>ca w l) y_.1 y_.2.1)) (aaB ((fun (w:Int) (l:List Int)=>ca w l) y_.1 y_.2.1))
theorem aim (w:Int) (l:List Int) (h_:ny w l):(Th w l).Is (ca w l):=by
 obtain ⟨h1,h2,h3⟩:=h_
 simp only[Th,ca,aN,ai,aj]
 refine ⟨fun h=>⟨by omega,?_⟩,fun h=>?_⟩
 ·rw[if_pos h]
  have:shl .u64 w 8=w*256:=by
   have:=ia .u64 w 8 (by decide)
   rw[show ((8:Nat):Int)=8 from rfl] at this
   rw[this,wrap_u64]<;>omega
  rw[this]
 ·rw[if_neg h]
theorem Ti:aaD.Ok Tryz.prog 157:=
 bM (tys:= []) (A:=dE) (H:=sB) (LT:=fun x_ y_=>(fun (w:Int) (l:List Int)=> []) y_.1 y_.2.1) (ks:= [.one 1,.fr [.sym],.syms,.auto,.ax]) (V:=aaA) (D:=aaB) (T:=fun x_ y_=>Th y_.1 y_.2.1) (pre:=fun x_ y_=>(fun (w:Int) (l:List Int)=>ny w l) y_.1 y_.2.1) (sp:=fun x_ y_=>(fun (w:Int) (l:List Int)=>ca w l) y_.1 y_.2.1) mixed aD Tryz.func157 (by kernel_rfl) Tryz.call157 (fun x_ y_=>aaC y_.1 y_.2.1) (fun x_ y_=>VZ y_.1 y_.2.1) (fun x_ y_ h=>aim y_.1 y_.2.1 h)
abbrev Bh:Type:=Int×Int×Int×(List Int)
noncomputable abbrev xB:a9 St Bh:=(bH (ak (ah (aJ (0) (0))) (ae (ah (ay IntKind.u64)) (jk 2 (ae (ah (ay
 IntKind.i64)) (jk 34 ag))))) (ae (bG jCo) (ae (cg (0) (Ty.int IntKind.u8)) ag))).jQ (fun y=>(y.1.1,y.1.2.1,y.2.1,y.2.2.1)) (fun x
 =>((x.1,(x.2.1,())),(x.2.2.1,(x.2.2.2,())))) (fun _=>rfl)
abbrev F6:List Wk:= [.fr (cK 39 [(0,.an),(1,.an),(4,.an)]),.syms,.auto,.ax]
abbrev aaE:Exit→List Wk:=qI F6 0 [.fr (cK 39 []),.syms,.auto,.ax] [.fr (cK 39 []),.syms,.auto,.ax]
abbrev aaF:Type:=Int×(List Int)
noncomputable abbrev F7 (x:aaF):Exit×St:=(Exit.exit 0,⟨(eE 39 []),[some (jCo.wr x.1),some (Item.own 0 (Ty.int IntKind.u8) x.2)]⟩)
noncomputable def xC (m:Int) (i:Int) (w':Int) (l':List Int):Tr (Bh⊕(aaF)):=(.ite (decide (0≤i)==true) (.ite (decide (0<
 m)) (.need (0≤i∧i<(↑l'.length:Int)) (.need (0≤i∧i<(↑l'.length:Int)) (.ret (.inl (shr IntKind.u64 (IntKind.u64.wrap (m+
 IntKind.u64.wrap (l'.getD i.toNat 0))) 8,IntKind.i64.wrap (i-1),w',l'.set i.toNat (IntKind.u8.wrap (IntKind.u64.wrap (m+IntKind.u64.wrap
 (l'.getD i.toNat 0))))))))) (.ret (.inr (w',l')))) (.ret (.inr (w',l'))))
theorem NN (n:Int) (w:Int) (l:List Int) (m:Int) (i:Int) (w':Int) (l':List Int):c8 Tryz.prog [] [] Tryz.f156 0 ((sB).wr (w,l,())) aaE (xB.wr (m,i,w',l'))=(xC m i w' l').res xB.wr F7:=by kernel_rfl
abbrev tZ (m:Int) (i:Int) (w':Int) (l':List Int):Prop:= -1≤i∧i<l'.length∧l'.length<1099511627776∧0≤m∧m<72057594037927936∧aC l'
noncomputable abbrev F8 (x_:Bh):a6:= .need ((fun (m:Int) (i:Int) (w':Int) (l':List Int)=>tZ m i w' l') x_.1 x_.2.1 x_.2.2.1 x_.2.2.2) (.leaf (F7 ((fun (m:Int) (i:Int) (w':Int) (l':List Int)=>(w',cm (i+1).toNat m l')) x_.1 x_.2.1 x_.2.2.1 x_.2.2.2)).1 (F7 ((fun (m:Int) (i:Int) (w':Int) (l':List Int)=>(w',cm (i+1).toNat m l')) x_.1 x_.2.1 x_.2.2.1 x_.2.2.2)).2)
theorem aaG (m:Int) (i:Int) (w':Int) (l':List Int) (h_:tZ m i w' l'):cJ (fun x_:Bh=>xC x_.1 x_.2.1 x_.2.2.1 x_.2.2.2) (m,i,w',l') ((w',cm (i+1).toNat m l')):=by
 obtain ⟨h1,h2,h6,h3,h4,h5⟩:=h_
 obtain ⟨k,hk⟩: ∃ k:Nat,i=(k:Int)-1:=⟨(i+1).toNat,by omega⟩
 subst hk
 clear h1
 induction k generalizing m l' with
 |zero=>
  refine .stop ?_
  simp only[xC,ib,aN,ai,aj]
  exact ⟨fun h=>by omega,fun h=>rfl⟩
 |succ k ih=>
  by_cases hm:0<m
  ·have hb:By (l'.getD k 0):=h5.getD k
   have hk:((k:Nat)+1:Int)-1=k:=by omega
   have j9:=ih ((m+l'.getD k 0)/256) (l'.set k ((m+l'.getD k 0)%256)) (by rw[List.length_set];omega) (by have:=hb.1;omega) (by have:=hb.2;omega) (h5.set k ⟨by omega,by omega⟩) (by rw[List.length_set];omega)
   have e:cm (((k+1:Nat):Int)-1+1).toNat m l'=cm ((k:Int)-1+1).toNat ((m+l'.getD k 0)/256) (l'.set k ((m+l'.getD k 0)%256)):=by
    rw[show (((k+1:Nat):Int)-1+1).toNat=k+1 from by omega,show ((k:Int)-1+1).toNat=k from by omega,cm,if_pos hm]
   rw[e]
   refine .go ?_ j9
   simp only[xC,ib,aN,ai,aj]
   have h2':(k:Int)<l'.length:=by omega
   have ek:(((k+1:Nat):Int)-1)=(k:Int):=by omega
   rw[ek]
   have e1:IntKind.u64.wrap (l'.getD k 0)=l'.getD k 0:=wrap_u64 hb.1 (by have:=hb.2;omega)
   have e2:IntKind.u64.wrap (m+l'.getD k 0)=m+l'.getD k 0:=wrap_u64 (by have:=hb.1;omega) (by have:=hb.2;omega)
   refine ⟨fun _=>⟨fun _=>⟨⟨by omega,h2'⟩,⟨by omega,h2'⟩,?_⟩,fun h=>absurd hm h⟩,fun h=>by omega⟩
   have hb1:=hb.1;have xb:=hb.2;have e3:shr .u64 (m+l'.getD k 0) 8=(m+l'.getD k 0)/256:=eX .u64 _ 8 (by decide)
   rw[Int.toNat_natCast,e1,e2,e3,wrap_u8,aq (n:=(k:Int)-1) (by omega) (by omega)]
  ·have e:cm (((k+1:Nat):Int)-1+1).toNat m l'=l':=by
    rw[show (((k+1:Nat):Int)-1+1).toNat=k+1 from by omega,cm,if_neg hm]
   rw[e]
   refine .stop ?_
   simp only[xC,ib,aN,ai,aj]
   exact ⟨fun _=>⟨fun h=>absurd h hm,fun _=>trivial⟩,fun h=>by omega⟩
theorem V0 (n:Int) (w:Int) (l:List Int): ∀ x:Bh,Ex Tryz.prog ((sB).wr (w,l,())) (.loop (aU Tryz.f156 0)) (xB.wr x) (F8 x):=
 bT mixed aD (ws:=aaE) (aP.nil _) (E:=F7) (L:=fun x_=>xC x_.1 x_.2.1 x_.2.2.1 x_.2.2.2) (pre:=fun x_=>(fun (m:Int) (i:Int) (w':Int) (l':List Int)=>tZ m i w' l') x_.1 x_.2.1 x_.2.2.1 x_.2.2.2) (sp:=fun x_=>(fun (m:Int) (i:Int) (w':Int) (l':List Int)=>(w',cm (i+1).toNat m l')) x_.1 x_.2.1 x_.2.2.1 x_.2.2.2) (fun x_=>NN n w l x_.1 x_.2.1 x_.2.2.1 x_.2.2.2) (fun z e=>by cases e) dc (fun x_ h=>aaG x_.1 x_.2.1 x_.2.2.1 x_.2.2.2 h)
abbrev aaH:Type:=List Int
noncomputable abbrev aaI (x:aaH):LV:=LV.cV []
noncomputable abbrev aaJ (x:aaH):List (Nat×Ev.Item):= [(1,Item.own 0 (Ty.int IntKind.u8) x)]
noncomputable def Tj (n:Int) (w:Int) (l:List Int):Tr (aaH):=(.need (tZ n (IntKind.i64.wrap ((↑l.length:Int)-1)) w l) (.ret
 (cm (Int.toNat (IntKind.i64.wrap ((↑l.length:Int)-1)+1)) n l)))
theorem V1 (n:Int) (w:Int) (l:List Int):aY Tryz.prog [] [(0,aX xB ((sB).wr (w,l,())) F6 (F8))] Tryz.f156 ((VY).wr (n,())) ((sB).wr (w,l,())) [.fr [.sym],.syms,.auto,.ax]=(Tj n w l).end aaI aaJ ((sB).wr (w,l,())):=by kernel_rfl
theorem aaK (n:Int) (w:Int) (l:List Int):aP Tryz.prog ((sB).wr (w,l,())) [(0,aX xB ((sB).wr (w,l,())) F6 (F8))] (aH Tryz.f156):=(aP.cy (jr (by kernel_rfl) (bz (hp:=(sB).wr (w,l,())) (V0 n w l)) jH))
abbrev ua (n:Int) (w:Int) (l:List Int):Prop:=l.length<1099511627776∧0≤n∧n<72057594037927936∧aC l
noncomputable def aaL:au:=au.bV [] (VY) (sB) fun x_ y_=> .leaf (some ((fun (n:Int) (w:Int) (l:List Int)=>ua n w l) x_.1 y_.1 y_.2.1)) (aaI ((fun (n:Int) (w:Int) (l:List Int)=>cm l.length n l) x_.1 y_.1 y_.2.1)) (aaJ ((fun (n:Int) (w:Int) (l:List Int)=>cm l.length n l) x_.1 y_.1 y_.2.1))
theorem ain (n:Int) (w:Int) (l:List Int) (h_:ua n w l):(Tj n w l).Is (cm l.length n l):=by
 obtain ⟨h1,h2,h3,h4⟩:=h_
 have e:IntKind.i64.wrap ((l.length:Int)-1)=l.length-1:=aq (by omega) (by omega)
 simp only[Tj,ai,aj,e]
 refine ⟨⟨by omega,by omega,h1,h2,h3,h4⟩,?_⟩
 rw[show ((l.length:Int)-1+1).toNat=l.length from by omega]
theorem Tk:aaL.Ok Tryz.prog 156:=
 bM (tys:= []) (A:=VY) (H:=sB) (LT:=fun x_ y_=>(fun (n:Int) (w:Int) (l:List Int)=> [(0,aX xB ((sB).wr (w,l,())) F6 (F8))]) x_.1 y_.1 y_.2.1) (ks:= [.fr [.sym],.syms,.auto,.ax]) (V:=aaI) (D:=aaJ) (T:=fun x_ y_=>Tj x_.1 y_.1 y_.2.1) (pre:=fun x_ y_=>(fun (n:Int) (w:Int) (l:List Int)=>ua n w l) x_.1 y_.1 y_.2.1) (sp:=fun x_ y_=>(fun (n:Int) (w:Int) (l:List Int)=>cm l.length n l) x_.1 y_.1 y_.2.1) mixed aD Tryz.func156 (by kernel_rfl) Tryz.call156 (fun x_ y_=>aaK x_.1 y_.1 y_.2.1) (fun x_ y_=>V1 x_.1 y_.1 y_.2.1) (fun x_ y_ h=>ain x_.1 y_.1 y_.2.1 h)
def pe (w:Int) (l:List Int):Prop:=16777216≤w∧w<4294967296∧aC l∧l.length<1099511627776
theorem bX: ∀ (i:Nat) (n:Int) (l:List Int),(cm i n l).length=l.length
 |0,_,_=>rfl
 |i+1,n,l=>by
  unfold cm
  split
  ·rw[bX i,List.length_set]
  ·rfl
theorem pg: ∀ (i:Nat) (n:Int) (l:List Int),aC l→aC (cm i n l)
 |0,_,_,h=>h
 |i+1,n,l,h=>by
  unfold cm
  split
  ·exact pg i _ _ (h.set i ⟨by omega,by omega⟩)
  ·exact h
def ba (p b w:Int) (l:List Int):Int×List Int:=if b=0 then ca (w/2048*aM p) l else ca (w-w/2048*aM p) (cm l.length (w/2048*aM p) l)
theorem eI {w:Int} (p:Int) (h:16777216≤w) (h':w<4294967296):253952≤w/2048*aM p∧w/2048*aM p<4294967296∧253952≤w-w/2048*aM p:=by
 have h1:=eY p
 generalize aM p=q at*
 have h2:8192≤w/2048:=by omega
 have h3:w/2048*2048≤w:=by omega
 generalize w/2048=u at*
 obtain ⟨q1,q2⟩:=h1
 have a1:u*31≤u*q:=Int.mul_le_mul_of_nonneg_left q1 (by omega)
 have a2:u*q≤u*2017:=Int.mul_le_mul_of_nonneg_left q2 (by omega)
 generalize u*q=z at*
 omega
theorem ub {w:Int} {l:List Int} (h1:65536≤w) (h2:w<4294967296) (h3:aC l) (h4:l.length<1099511627775):pe (ca w l).1 (ca w l).2:=by
 unfold ca pe
 split
 ·refine ⟨by simp only;omega,by simp only;omega,h3.append (aC.cons ⟨by omega,by omega⟩ aC.nil),by simp;omega⟩
 ·exact ⟨by simp only;omega,h2,h3,by simp only;omega⟩
def bY (b w:Int) (l:List Int):Int×List Int:=if b=0 then ca (w/2) l else ca (w/2) (cm l.length (w/2) l)
theorem jt {p b w:Int} {l:List Int} (h:pe w l) (hl:l.length<1099511627775):pe (ba p b w l).1 (ba p b w l).2:=by
 obtain ⟨h1,h2,h3,h4⟩:=h
 have hb:=eI p h1 h2
 unfold ba
 split
 ·exact ub (by omega) (by omega) h3 hl
 ·exact ub (by omega) (by omega) (pg _ _ _ h3) (by rw[bX];exact hl)
theorem qJ {b w:Int} {l:List Int} (h:pe w l) (hl:l.length<1099511627775):pe (bY b w l).1 (bY b w l).2:=by
 obtain ⟨h1,h2,h3,h4⟩:=h
 unfold bY
 split
 ·exact ub (by omega) (by omega) h3 hl
 ·exact ub (by omega) (by omega) (pg _ _ _ h3) (by rw[bX];exact hl)
theorem uc (w:Int) (l:List Int):(ca w l).2.length≤l.length+1:=by unfold ca;split<;>simp
theorem fx (p b w:Int) (l:List Int):(ba p b w l).2.length≤l.length+1:=by
 unfold ba
 split
 ·exact uc _ _
 ·refine Nat.le_trans (uc _ _) (by rw[bX];exact Nat.le_refl _)
theorem ka (b w:Int) (l:List Int):(bY b w l).2.length≤l.length+1:=by
 unfold bY
 split
 ·exact uc _ _
 ·refine Nat.le_trans (uc _ _) (by rw[bX];exact Nat.le_refl _)
abbrev aaM:Type:=Int×Int×(List Int)
noncomputable abbrev aaN (x:aaM):LV:=LV.one (VV.sc (SV.int IntKind.i64 (SI.sym x.1)))
noncomputable abbrev aaO (x:aaM):List (Nat×Ev.Item):= [(0,Item.a8 [SV.sl 1 1,SV.int IntKind.u64 (SI.sym x.2.1)] 183),(1,Item.own 1
 (Ty.int IntKind.u8) x.2.2)]
noncomputable def Tl (p:Int) (b:Int) (w:Int) (l:List Int):Tr (aaM):=(.ite (b==0) (.need (ny (IntKind.u64.wrap (shr IntKind.u64
 w 11*IntKind.u64.wrap (aM p))) l) (.ret (cq p b,(ca (IntKind.u64.wrap (shr IntKind.u64 w 11*IntKind.u64.wrap (aM p))) l).fst,(ca
 (IntKind.u64.wrap (shr IntKind.u64 w 11*IntKind.u64.wrap (aM p))) l).snd))) (.need (ua (IntKind.u64.wrap (shr IntKind.u64 w 11*
 IntKind.u64.wrap (aM p))) w l) (.need (ny (IntKind.u64.wrap (w-IntKind.u64.wrap (shr IntKind.u64 w 11*IntKind.u64.wrap (aM p)))) (cm
 l.length (IntKind.u64.wrap (shr IntKind.u64 w 11*IntKind.u64.wrap (aM p))) l)) (.ret (cq p b,(ca (IntKind.u64.wrap (w-IntKind.u64.wrap
 (shr IntKind.u64 w 11*IntKind.u64.wrap (aM p)))) (cm l.length (IntKind.u64.wrap (shr IntKind.u64 w 11*IntKind.u64.wrap (aM p))) l)).fst,
 (ca (IntKind.u64.wrap (w-IntKind.u64.wrap (shr IntKind.u64 w 11*IntKind.u64.wrap (aM p)))) (cm l.length (IntKind.u64.wrap (shr IntKind.u64
 w 11*IntKind.u64.wrap (aM p))) l)).snd)))))
theorem V2 (p b:Int) (w:Int) (l:List Int):aY Tryz.prog [(157,aaD),(156,aaL),(155,F1),(158,tT)] [] Tryz.f119 ((oA).wr (p,b,())) ((sB).wr (w,l,())) [.one 1,.fr [.sym],.syms,.auto,.ax]=(Tl p b w l).end aaN aaO ((sB).wr (w,l,())):=by kernel_rfl
theorem aaP (p b:Int) (w:Int) (l:List Int):aP Tryz.prog ((sB).wr (w,l,())) [] (aH Tryz.f119):=(aP.nil _)
abbrev ue (p b:Int) (w:Int) (l:List Int):Prop:=pe w l
noncomputable def J7:au:=au.bV [] (oA) (sB) fun x_ y_=> .leaf (some ((fun (p b:Int) (w:Int) (l:List Int)=>ue p b w l) x_.1 x_.2.1 y_.1 y_.2.1)) (aaN ((fun (p b:Int) (w:Int) (l:List Int)=>(cq p b,ba p b w l)) x_.1 x_.2.1 y_.1 y_.2.1)) (aaO ((fun (p b:Int) (w:Int) (l:List Int)=>(cq p b,ba p b w l)) x_.1 x_.2.1 y_.1 y_.2.1))
theorem aio (p b:Int) (w:Int) (l:List Int) (h_:ue p b w l):(Tl p b w l).Is ((cq p b,ba p b w l)):=by
 obtain ⟨h1,h2,h3,h4⟩:=h_
 have hb:=eI p h1 h2
 have hh:=eY p
 have e0:IntKind.u64.wrap (aM p)=aM p:=wrap_u64 (by omega) (by omega)
 have e1:shr .u64 w 11=w/2048:=eX .u64 w 11 (by decide)
 have e2:IntKind.u64.wrap (w/2048*aM p)=w/2048*aM p:=wrap_u64 (by omega) (by omega)
 have e3:IntKind.u64.wrap (w-w/2048*aM p)=w-w/2048*aM p:=wrap_u64 (by omega) (by omega)
 simp only[Tl,ba,da,ai,aj,e0,e1,e2,e3]
 refine ⟨fun h=>⟨⟨by omega,by omega,h4⟩,by rw[if_pos h]⟩,fun h=>⟨⟨h4,by omega,by omega,h3⟩,⟨by omega,by omega,by rw[bX];exact h4⟩,by rw[if_neg h]⟩⟩
theorem zt:J7.Ok Tryz.prog 119:=
 bM (tys:= []) (A:=oA) (H:=sB) (LT:=fun x_ y_=>(fun (p b:Int) (w:Int) (l:List Int)=> []) x_.1 x_.2.1 y_.1 y_.2.1) (ks:= [.one 1,.fr [.sym],.syms,.auto,.ax]) (V:=aaN) (D:=aaO) (T:=fun x_ y_=>Tl x_.1 x_.2.1 y_.1 y_.2.1) (pre:=fun x_ y_=>(fun (p b:Int) (w:Int) (l:List Int)=>ue p b w l) x_.1 x_.2.1 y_.1 y_.2.1) (sp:=fun x_ y_=>(fun (p b:Int) (w:Int) (l:List Int)=>(cq p b,ba p b w l)) x_.1 x_.2.1 y_.1 y_.2.1) mixed ((ao Ti (ao Tk (ao tS (ao qG aD))))) Tryz.func119 (by kernel_rfl) Tryz.call119 (fun x_ y_=>aaP x_.1 x_.2.1 y_.1 y_.2.1) (fun x_ y_=>V2 x_.1 x_.2.1 y_.1 y_.2.1) (fun x_ y_ h=>aio x_.1 x_.2.1 y_.1 y_.2.1 h)
abbrev NO:Type:=Int×(List Int)
noncomputable abbrev NP (x:NO):LV:=LV.cV []
noncomputable abbrev NQ (x:NO):List (Nat×Ev.Item):= [(0,Item.a8 [SV.sl 1 1,SV.int IntKind.u64 (SI.sym x.1)] 183),(1,Item.own 1
 (Ty.int IntKind.u8) x.2)]
noncomputable def F9 (b:Int) (w:Int) (l:List Int):Tr (NO):=(.ite (b !=0) (.need (ua (IntKind.u64.wrap (w.tdiv 2))
 (IntKind.u64.wrap (w.tdiv 2)) l) (.need (ny (IntKind.u64.wrap (w.tdiv 2)) (cm l.length (IntKind.u64.wrap (w.tdiv 2)) l)) (.ret ((ca
 (IntKind.u64.wrap (w.tdiv 2)) (cm l.length (IntKind.u64.wrap (w.tdiv 2)) l)).fst,(ca (IntKind.u64.wrap (w.tdiv 2)) (cm l.length
 (IntKind.u64.wrap (w.tdiv 2)) l)).snd)))) (.need (ny (IntKind.u64.wrap (w.tdiv 2)) l) (.ret ((ca (IntKind.u64.wrap (w.tdiv 2)) l).fst,(ca
 (IntKind.u64.wrap (w.tdiv 2)) l).snd))))
theorem NR (b:Int) (w:Int) (l:List Int):aY Tryz.prog [(157,aaD),(156,aaL),(155,F1),(158,tT)] [] Tryz.f121 ((lQ).wr (b,())) ((sB).wr (w,l,())) [.one 1,.fr [.sym],.syms,.auto,.ax]=(F9 b w l).end NP NQ ((sB).wr (w,l,())):=by kernel_rfl
theorem V3 (b:Int) (w:Int) (l:List Int):aP Tryz.prog ((sB).wr (w,l,())) [] (aH Tryz.f121):=(aP.nil _)
abbrev uf (b:Int) (w:Int) (l:List Int):Prop:=pe w l
noncomputable def NS:au:=au.bV [] (lQ) (sB) fun x_ y_=> .leaf (some ((fun (b:Int) (w:Int) (l:List Int)=>uf b w l) x_.1 y_.1 y_.2.1)) (NP ((fun (b:Int) (w:Int) (l:List Int)=>bY b w l) x_.1 y_.1 y_.2.1)) (NQ ((fun (b:Int) (w:Int) (l:List Int)=>bY b w l) x_.1 y_.1 y_.2.1))
theorem aaQ (b:Int) (w:Int) (l:List Int) (h_:uf b w l):(F9 b w l).Is (bY b w l):=by
 obtain ⟨h1,h2,h3,h4⟩:=h_
 have e1:w.tdiv 2=w/2:=Int.tdiv_eq_ediv_of_nonneg (by omega)
 have e2:IntKind.u64.wrap (w/2)=w/2:=wrap_u64 (by omega) (by omega)
 simp only[F9,bY,xA,ai,aj,e1,e2]
 refine ⟨fun h=>⟨⟨by omega,by omega,h4⟩,by rw[if_pos h]⟩,fun h=>⟨⟨h4,by omega,by omega,h3⟩,⟨by omega,by omega,by rw[bX];exact h4⟩,by rw[if_neg h]⟩⟩
theorem J8:NS.Ok Tryz.prog 121:=
 bM (tys:= []) (A:=lQ) (H:=sB) (LT:=fun x_ y_=>(fun (b:Int) (w:Int) (l:List Int)=> []) x_.1 y_.1 y_.2.1) (ks:= [.one 1,.fr [.sym],.syms,.auto,.ax]) (V:=NP) (D:=NQ) (T:=fun x_ y_=>F9 x_.1 y_.1 y_.2.1) (pre:=fun x_ y_=>(fun (b:Int) (w:Int) (l:List Int)=>uf b w l) x_.1 y_.1 y_.2.1) (sp:=fun x_ y_=>(fun (b:Int) (w:Int) (l:List Int)=>bY b w l) x_.1 y_.1 y_.2.1) mixed ((ao Ti (ao Tk (ao tS (ao qG aD))))) Tryz.func121 (by kernel_rfl) Tryz.call121 (fun x_ y_=>V3 x_.1 y_.1 y_.2.1) (fun x_ y_=>NR x_.1 y_.1 y_.2.1) (fun x_ y_ h=>aaQ x_.1 y_.1 y_.2.1 h)
abbrev aaR:Type:=Int×(List Int)
noncomputable abbrev aaS (x:aaR):LV:=LV.one (VV.sc (SV.ptr 0 0))
noncomputable abbrev aaT (x:aaR):List (Nat×Ev.Item):= [(0,Item.a8 [SV.sl 1 0,SV.int IntKind.u64 (SI.sym x.1)] 183),(1,Item.own 0
 (Ty.int IntKind.u8) x.2)]
noncomputable def aaU:Tr (aaR):=(.need ((4:Int)=4∧(0:Int)≤4∧(4:Int)≤70368744177664∧(4:Int)≤70368744177664) (.ret
 (4294967295,List.replicate 4 (0:Int))))
theorem V4:aY Tryz.prog [] [] Tryz.f83 ((ag).wr (())) ((ag).wr (())) [.fr [.sym],.syms,.auto,.ax]=(aaU).end aaS aaT ((ag).wr (())):=by kernel_rfl
theorem aaV:aP Tryz.prog ((ag).wr (())) [] (aH Tryz.f83):=(aP.nil _)
abbrev zw:Prop:=True
noncomputable def aaW:au:=au.bV [] (ag) (ag) fun x_ y_=> .leaf (some (zw)) (aaS ((4294967295,[0,0,0,0]))) (aaT ((4294967295,[0,0,0,0])))
theorem aip (h_:zw):(aaU).Is ((4294967295,[0,0,0,0])):=by
 exact ⟨⟨rfl,by decide,by decide,by decide⟩,rfl⟩
theorem Tm:aaW.Ok Tryz.prog 83:=
 bM (tys:= []) (A:=ag) (H:=ag) (LT:=fun x_ y_=> []) (ks:= [.fr [.sym],.syms,.auto,.ax]) (V:=aaS) (D:=aaT) (T:=fun x_ y_=>aaU) (pre:=fun x_ y_=>zw) (sp:=fun x_ y_=>(4294967295,[0,0,0,0])) mixed aD Tryz.func83 (by kernel_rfl) Tryz.call83 (fun x_ y_=>aaV) (fun x_ y_=>V4) (fun x_ y_ h=>aip h)
abbrev jTr:a9 Ev.Item Unit:=tY 213 (ak (jY 3 0) ag)
abbrev ph:a9 Hp (Int×List Int×List Int×Unit):=ae (bG jCo) (ae (cg 0 u8) (ak (bG jTr) (ae (cg 0 (.int .u16)) ag)))
abbrev anN:a9 Ev.Item Unit:=tY 213 (ak (jY 1 0) ag)
abbrev Bi:a9 Hp (List Int×Unit):=ak (bG anN) (ae (cg 0 (.int .u16)) ag)
def lg (p:List Int):Nat:=p.length.log2
def M0 (p:List Int):Prop:=lg p≤8∧p.length=2 ^ lg p∧gD p∧ ∀ i:Nat,1≤i→i<2 ^ lg p→1≤p.getD i 0
theorem lp (n:Nat) (h:n≤8):shl .i64 1 n=((2 ^ n:Nat):Int):=by
 rw[ia .i64 1 n (by simp[IntKind.bits];omega),Int.one_mul]
 have h1:(2:Nat) ^ n≤256:=Nat.le_trans (Nat.pow_le_pow_right (by omega) h) (by decide)
 generalize (2:Nat) ^ n=m at*
 exact aq (by omega) (by omega)
theorem Ga {p:List Int} (h:M0 p) {n:Nat} (hn:n≤lg p):dz p ((2 ^ n:Nat):Int)=0↔n=lg p:=by
 obtain ⟨h1,h2,h3,h4⟩:=h
 have hp:0<(2:Nat) ^ n:=Nat.two_pow_pos n
 unfold dz nw
 by_cases e:n=lg p
 ·subst e
  rw[h2]
  generalize (2:Nat) ^ lg p=m at*
  rw[if_neg (by simp)]
  exact ⟨fun _=>rfl,fun _=>rfl⟩
 ·have fq:(2:Nat) ^ n<2 ^ lg p:=Nat.pow_lt_pow_right (by omega) (by omega)
  have h5:=h4 (2 ^ n) hp fq
  rw[h2]
  generalize (2:Nat) ^ lg p=M at*
  generalize (2:Nat) ^ n=m at*
  rw[if_pos (decide_eq_true ⟨by omega,by omega⟩),Int.toNat_natCast]
  exact ⟨fun h=>by omega,fun h=>absurd h e⟩
abbrev ug:Type:=Int×(List Int)
noncomputable abbrev qK:a9 St ug:=(bH (ak (ah (aJ (0) (0))) (jk 2 (ae (ah (ay IntKind.i64)) (jk 8 ag)))) (ak (bG
 anN) (ae (cg (0) (Ty.int IntKind.u16)) ag))).jQ (fun y=>(y.1.1,y.2.1)) (fun x=>((x.1,()),(x.2,()))) (fun _=>rfl)
abbrev zx:List Wk:= [.fr (cK 12 [(0,.an),(3,.an)]),.syms,.auto,.ax]
abbrev Tn:Exit→List Wk:=qI zx 0 [.fr (cK 12 [(3,.an)]),.syms,.auto,.ax] [.fr (cK 12 [(2,.an)]),.syms,.auto,.ax]
abbrev To:Type:=Int×(List Int)
noncomputable abbrev zy (x:To):Exit×St:=(Exit.exit 0,⟨(eE 3 (LV.one (VV.sc (SV.int IntKind.i64 (SI.sym x.1)))::(eE 8 []))),
 [some (anN.wr ()),some (Item.own 0 (Ty.int IntKind.u16) x.2)]⟩)
noncomputable def uh (n:Int) (p':List Int):Tr (ug⊕(To)):=(.need (0≤n) (.need (gD p') (.ite (dz p' (shl IntKind.i64 1 n)
 !=0) (.ret (.inl (IntKind.i64.wrap (n+1),p'))) (.ret (.inr (n,p'))))))
theorem J9 (p:List Int) (n:Int) (p':List Int):c8 Tryz.prog [(153,VX)] [] Tryz.f159 0 ((Bi).wr (p,())) Tn (qK.wr (n,p'))=(uh n p').res qK.wr zy:=by kernel_rfl
abbrev qM (n:Int) (p':List Int):Prop:=n=0∧M0 p'
noncomputable abbrev zz (x_:ug):a6:= .need ((fun (n:Int) (p':List Int)=>qM n p') x_.1 x_.2) (.leaf (zy ((fun (n:Int) (p':List Int)=>((lg p':Int),p')) x_.1 x_.2)).1 (zy ((fun (n:Int) (p':List Int)=>((lg p':Int),p')) x_.1 x_.2)).2)
theorem V5 (n:Int) (p':List Int) (h_:qM n p'):cJ (fun x_:ug=>uh x_.1 x_.2) (n,p') (((lg p':Int),p')):=by
 obtain ⟨rfl,h⟩:=h_
 have h':=h
 obtain ⟨h1,h2,h3,h4⟩:=h'
 refine cJ.iter (fun k=>((k:Int),p')) (lg p') (fun k hk=>?_) ?_
 ·simp only[uh,xA,ai,aj,lp k (by omega),Ga h (Nat.le_of_lt hk)]
  refine ⟨by omega,h3,fun e=>by omega,fun _=>?_⟩
  rw[aq (by omega) (by omega)];rfl
 ·simp only[uh,xA,ai,aj,lp (lg p') h1,Ga h (Nat.le_refl _)]
  exact ⟨by omega,h3,fun _=>trivial,fun e=>absurd ((Ga h (Nat.le_refl _)).2 rfl) e⟩
theorem NT (p:List Int): ∀ x:ug,Ex Tryz.prog ((Bi).wr (p,())) (.loop (aU Tryz.f159 0)) (qK.wr x) (zz x):=
 bT mixed ((ao Be aD)) (ws:=Tn) (aP.nil _) (E:=zy) (L:=fun x_=>uh x_.1 x_.2) (pre:=fun x_=>(fun (n:Int) (p':List Int)=>qM n p') x_.1 x_.2) (sp:=fun x_=>(fun (n:Int) (p':List Int)=>((lg p':Int),p')) x_.1 x_.2) (fun x_=>J9 p x_.1 x_.2) (fun z e=>by cases e) dc (fun x_ h=>V5 x_.1 x_.2 h)
abbrev NU:Type:=Int
noncomputable abbrev NV (x:NU):LV:=LV.one (VV.sc (SV.int IntKind.i64 (SI.sym x)))
noncomputable abbrev NW (x:NU):List (Nat×Ev.Item):= []
noncomputable def NX (p:List Int):Tr (NU):=(.need (qM 0 p) (.ret ((↑(lg p):Int))))
theorem NY (p:List Int):aY Tryz.prog [(153,VX)] [(0,aX qK ((Bi).wr (p,())) zx (zz))] Tryz.f159 ((dE).wr (())) ((Bi).wr (p,())) [.fr [.sym],.syms,.auto,.ax]=(NX p).end NV NW ((Bi).wr (p,())):=by kernel_rfl
theorem V6 (p:List Int):aP Tryz.prog ((Bi).wr (p,())) [(0,aX qK ((Bi).wr (p,())) zx (zz))] (aH Tryz.f159):=(aP.cy (jr (by kernel_rfl) (bz (hp:=(Bi).wr (p,())) (NT p)) jH))
abbrev ui (p:List Int):Prop:=M0 p
noncomputable def NZ:au:=au.bV [] (dE) (Bi) fun x_ y_=> .leaf (some ((fun (p:List Int)=>ui p) y_.1)) (NV ((fun (p:List Int)=>(lg p:Int)) y_.1)) (NW ((fun (p:List Int)=>(lg p:Int)) y_.1))
theorem aaX (p:List Int) (h_:ui p):(NX p).Is ((lg p:Int)):=by
 exact ⟨⟨rfl,h_⟩,rfl⟩
theorem Ka:NZ.Ok Tryz.prog 159:=
 bM (tys:= []) (A:=dE) (H:=Bi) (LT:=fun x_ y_=>(fun (p:List Int)=> [(0,aX qK ((Bi).wr (p,())) zx (zz))]) y_.1) (ks:= [.fr [.sym],.syms,.auto,.ax]) (V:=NV) (D:=NW) (T:=fun x_ y_=>NX y_.1) (pre:=fun x_ y_=>(fun (p:List Int)=>ui p) y_.1) (sp:=fun x_ y_=>(fun (p:List Int)=>(lg p:Int)) y_.1) mixed ((ao Be aD)) Tryz.func159 (by kernel_rfl) Tryz.call159 (fun x_ y_=>V6 y_.1) (fun x_ y_=>NY y_.1) (fun x_ y_ h=>aaX y_.1 h)
def aF:Nat→Int→Int→Int→List Int→List Int→Int×List Int×List Int
 |0,_,_,w,l,p=>(w,l,p)
 |k+1,v,node,w,l,p=>
  let b:=v/2 ^ k%2
  let c:=ba (dz p node) b w l
  aF k v (2*node+b) c.1 c.2 (bZ p node b)
abbrev uj:Type:=Int×Int×Int×Int×(List Int)×(List Int)
noncomputable abbrev qN:a9 St uj:=(bH (ak (ah (aJ (0) (0))) (ak (ah (aJ (2) (0))) (ae (ah (ay IntKind.i64)) (jk 4
 (ae (ah (ay IntKind.i64)) (ae (ah (ay IntKind.i64)) (jk 43 ag))))))) (ae (dN (183) ((ak (jY (1) (1)) (ae (ay IntKind.u64)
 ag)))) (ae (cg (1) (Ty.int IntKind.u8)) (ak (bG jTr) (ae (cg (0) (Ty.int IntKind.u16)) ag))))).jQ (fun y=>(y.1.1,y.1.2.1,
 y.1.2.2.1,y.2.1.1,y.2.2.1,y.2.2.2.1)) (fun x=>((x.1,(x.2.1,(x.2.2.1,()))),((x.2.2.2.1,()),(x.2.2.2.2.1,(x.2.2.2.2.2,()))))) (fun _=>rfl)
abbrev zA:List Wk:= [.one 1,.fr (cK 52 [(0,.an),(1,.an),(2,.an),(7,.an),(8,.an)]),.syms,.auto,.ax]
abbrev Tp:Exit→List Wk:=qI zA 0 [.one 1,.fr (cK 52 []),.syms,.auto,.ax] [.one 1,.fr (cK 52 []),.syms,.auto,.ax]
abbrev Tq:Type:=Int×(List Int)×(List Int)
noncomputable abbrev zB (x:Tq):Exit×St:=(Exit.exit 0,⟨(eE 52 []),[some (Item.a8 [SV.sl 1 1,SV.int IntKind.u64 (SI.sym x.1)]
 183),some (Item.own 1 (Ty.int IntKind.u8) x.2.1),some (jTr.wr ()),some (Item.own 0 (Ty.int IntKind.u16) x.2.2)]⟩)
noncomputable def uk (v':Int) (node:Int) (i:Int) (w':Int) (l':List Int) (p':List Int):Tr (uj⊕(Tq)):=(.ite (decide (0≤
 i)) (.need (0≤i) (.need (gD p') (.need (ue (dz p' node) (bg IntKind.i64 (shr IntKind.i64 v' i) 1) w' l') (.need (gD p') (.ret (.inl
 (v',IntKind.i64.wrap (IntKind.i64.wrap (2*node)+bg IntKind.i64 (shr IntKind.i64 v' i) 1),IntKind.i64.wrap (i-1),(ba (dz p' node)
 (bg IntKind.i64 (shr IntKind.i64 v' i) 1) w' l').fst,(ba (dz p' node) (bg IntKind.i64 (shr IntKind.i64 v' i) 1) w' l').snd,bZ p' node
 (bg IntKind.i64 (shr IntKind.i64 v' i) 1)))))))) (.ret (.inr (w',l',p'))))
theorem Kb (v:Int) (w:Int) (l:List Int) (p:List Int) (v':Int) (node:Int) (i:Int) (w':Int) (l':List Int) (p':List Int):c8 Tryz.prog [(159,NZ),(153,VX),(154,F4),(119,J7)] [] Tryz.f120 0 ((ph).wr (w,l,p,())) Tp (qN.wr (v',node,i,w',l',p'))=(uk v' node i w' l' p').res qN.wr zB:=by kernel_rfl
theorem mC (p:List Int) (n b:Int):(bZ p n b).length=p.length:=by unfold bZ;split<;>simp
theorem lq (p:List Int) (n b:Int):lg (bZ p n b)=lg p:=by unfold lg;rw[mC]
theorem iX (l:List Int) (i j:Nat) (x:Int):(l.set i x).getD j 0=if i=j∧j<l.length then x else l.getD j 0:=by
 simp only[List.getD_eq_getElem?_getD,List.getElem?_set]
 by_cases h:i=j
 ·subst h
  by_cases h2:i<l.length
  ·simp[h2]
  ·simp[h2,List.getElem?_eq_none (Nat.le_of_not_lt h2)]
 ·simp[h]
theorem Bj {p:List Int} (h:M0 p) (n b:Int):M0 (bZ p n b):=by
 obtain ⟨h1,h2,h3,h4⟩:=h
 have ha:=pd (p.getD n.toNat 0) b
 refine ⟨by rw[lq];exact h1,by rw[mC,lq];exact h2,fun i=>?_,fun i k1 k2=>?_⟩
 ·unfold bZ
  split
  ·rw[iX];split
   ·omega
   ·exact h3 i
  ·exact h3 i
 ·rw[lq] at k2
  unfold bZ
  split
  ·rw[iX];split
   ·omega
   ·exact h4 i k1 k2
  ·exact h4 i k1 k2
theorem Gb {v:Int} (h0:0≤v) (k:Nat) (hk:k≤63):bg .i64 (shr .i64 v k) 1=v/2 ^ k%2:=by
 rw[eX .i64 v k (by simp[IntKind.bits];omega),aik (m:=1) (by decide) _ _ (by decide)]
 simp
theorem eZ {k n:Nat} (h:k≤n):(2:Int) ^ k≤2 ^ n:=by
 have:=Nat.pow_le_pow_right (n:=2) (by omega) h
 exact_mod_cast this
abbrev qO (v':Int) (node:Int) (i:Int) (w':Int) (l':List Int) (p':List Int):Prop:=M0 p'∧pe w' l'∧0≤v'∧ -1≤i∧i<lg p'∧1≤node∧node<2 ^ (lg p'-(i+1).toNat+1)∧(l'.length:Int)+i<1099511600000
noncomputable abbrev zC (x_:uj):a6:= .need ((fun (v':Int) (node:Int) (i:Int) (w':Int) (l':List Int) (p':List Int)=>qO v' node i w' l' p') x_.1 x_.2.1 x_.2.2.1 x_.2.2.2.1 x_.2.2.2.2.1 x_.2.2.2.2.2) (.leaf (zB ((fun (v':Int) (node:Int) (i:Int) (w':Int) (l':List Int) (p':List Int)=>aF (i+1).toNat v' node w' l' p') x_.1 x_.2.1 x_.2.2.1 x_.2.2.2.1 x_.2.2.2.2.1 x_.2.2.2.2.2)).1 (zB ((fun (v':Int) (node:Int) (i:Int) (w':Int) (l':List Int) (p':List Int)=>aF (i+1).toNat v' node w' l' p') x_.1 x_.2.1 x_.2.2.1 x_.2.2.2.1 x_.2.2.2.2.1 x_.2.2.2.2.2)).2)
theorem V7 (v':Int) (node:Int) (i:Int) (w':Int) (l':List Int) (p':List Int) (h_:qO v' node i w' l' p'):cJ (fun x_:uj=>uk x_.1 x_.2.1 x_.2.2.1 x_.2.2.2.1 x_.2.2.2.2.1 x_.2.2.2.2.2) (v',node,i,w',l',p') (aF (i+1).toNat v' node w' l' p'):=by
 obtain ⟨h1,h2,h3,h4,h5,h6,h7,h8⟩:=h_
 obtain ⟨k,hk⟩: ∃ k:Nat,i=(k:Int)-1:=⟨(i+1).toNat,by omega⟩
 subst hk
 clear h4
 induction k generalizing node w' l' p' with
 |zero=>
  refine .stop ?_
  simp only[uk,ib,aN,ai,aj]
  exact ⟨fun h=>by omega,fun h=>rfl⟩
 |succ k ih=>
  have e0:(((k+1:Nat):Int)-1+1).toNat=k+1:=by omega
  have e1:((k:Int)-1+1).toNat=k:=by omega
  have e2:(((k+1:Nat):Int)-1)=(k:Int):=by omega
  rw[e0] at h7 ⊢
  rw[e1] at ih
  rw[e2] at h5 h8 ⊢
  have hlg:=h1.1
  have hb:bg .i64 (shr .i64 v' k) 1=v'/2 ^ k%2:=Gb h3 k (by omega)
  have hp:(2:Int) ^ (lg p'-(k+1)+1)≤2 ^ 8:=eZ (by omega)
  have hp8:(2:Int) ^ 8=256:=by decide
  have Ts:(2:Int) ^ (lg p'-k+1)=2*2 ^ (lg p'-(k+1)+1):=by
   rw[show lg p'-k+1=(lg p'-(k+1)+1)+1 from by omega,Int.pow_succ,Int.mul_comm]
  generalize hbe:v'/2 ^ k%2=b at*
  have xb:0≤b∧b≤1:=by omega
  have hcl:=fx (dz p' node) b w' l'
  have j9:=ih (2*node+b) (ba (dz p' node) b w' l').1 (ba (dz p' node) b w' l').2 (bZ p' node b) (Bj h1 _ _) (jt h2 (by omega)) (by omega) (by rw[lq];omega) (by rw[lq,Ts];omega) (by omega)
  have e3:aF (k+1) v' node w' l' p'=aF k v' (2*node+b) (ba (dz p' node) b w' l').1 (ba (dz p' node) b w' l').2 (bZ p' node b):=by
   rw[aF,hbe]
  rw[e3]
  refine .go ?_ j9
  simp only[uk,ib,aN,ai,aj,hb]
  refine ⟨fun _=>⟨by omega,h1.2.2.1,h2,h1.2.2.1,?_⟩,fun h=>by omega⟩
  rw[aq (n:=2*node) (by omega) (by omega),aq (n:=2*node+b) (by omega) (by omega),aq (n:=(k:Int)-1) (by omega) (by omega)]
theorem N0 (v:Int) (w:Int) (l:List Int) (p:List Int): ∀ x:uj,Ex Tryz.prog ((ph).wr (w,l,p,())) (.loop (aU Tryz.f120 0)) (qN.wr x) (zC x):=
 bT mixed ((ao Ka (ao Be (ao Bf (ao zt aD))))) (ws:=Tp) (aP.nil _) (E:=zB) (L:=fun x_=>uk x_.1 x_.2.1 x_.2.2.1 x_.2.2.2.1 x_.2.2.2.2.1 x_.2.2.2.2.2) (pre:=fun x_=>(fun (v':Int) (node:Int) (i:Int) (w':Int) (l':List Int) (p':List Int)=>qO v' node i w' l' p') x_.1 x_.2.1 x_.2.2.1 x_.2.2.2.1 x_.2.2.2.2.1 x_.2.2.2.2.2) (sp:=fun x_=>(fun (v':Int) (node:Int) (i:Int) (w':Int) (l':List Int) (p':List Int)=>aF (i+1).toNat v' node w' l' p') x_.1 x_.2.1 x_.2.2.1 x_.2.2.2.1 x_.2.2.2.2.1 x_.2.2.2.2.2) (fun x_=>Kb v w l p x_.1 x_.2.1 x_.2.2.1 x_.2.2.2.1 x_.2.2.2.2.1 x_.2.2.2.2.2) (fun z e=>by cases e) dc (fun x_ h=>V7 x_.1 x_.2.1 x_.2.2.1 x_.2.2.2.1 x_.2.2.2.2.1 x_.2.2.2.2.2 h)
abbrev N1:Type:=Int×(List Int)×(List Int)
noncomputable abbrev N2 (x:N1):LV:=LV.cV []
noncomputable abbrev N3 (x:N1):List (Nat×Ev.Item):= [(0,Item.a8 [SV.sl 1 1,SV.int IntKind.u64 (SI.sym x.1)] 183),(1,Item.own 1
 (Ty.int IntKind.u8) x.2.1),(2,Item.a8 [SV.sl 3 1] 213),(3,Item.own 1 (Ty.int IntKind.u16) x.2.2)]
noncomputable def Gc (v:Int) (w:Int) (l:List Int) (p:List Int):Tr (N1):=(.need (ui p) (.ite (decide (v<0)==false) (.need
 (0≤(↑(lg p):Int)) (.ite (decide (shl IntKind.i64 1 (↑(lg p):Int)≤v)) (.ret (w,l,p)) (.need (qO v 1 (IntKind.i64.wrap ((↑(lg p):Int)
 -1)) w l p) (.ret ((aF (Int.toNat (IntKind.i64.wrap ((↑(lg p):Int)-1)+1)) v 1 w l p).fst,(aF (Int.toNat (IntKind.i64.wrap ((↑(lg p):
 Int)-1)+1)) v 1 w l p).snd.fst,(aF (Int.toNat (IntKind.i64.wrap ((↑(lg p):Int)-1)+1)) v 1 w l p).snd.snd))))) (.ret (w,l,p))))
theorem N5 (v:Int) (w:Int) (l:List Int) (p:List Int):aY Tryz.prog [(159,NZ),(153,VX),(154,F4),(119,J7)] [(0,aX qN ((ph).wr (w,l,p,())) zA (zC))] Tryz.f120 (((ak (ah (aJ 0 0)) (ak (ah (aJ 2 0)) (ae (ah (ay .i64)) ag)))).wr (v,())) ((ph).wr (w,l,p,())) [.one 1,.one 3,.fr [.sym],.syms,.auto,.ax]=(Gc v w l p).end N2 N3 ((ph).wr (w,l,p,())):=by kernel_rfl
theorem V8 (v:Int) (w:Int) (l:List Int) (p:List Int):aP Tryz.prog ((ph).wr (w,l,p,())) [(0,aX qN ((ph).wr (w,l,p,())) zA (zC))] (aH Tryz.f120):=(aP.cy (jr (by kernel_rfl) (bz (hp:=(ph).wr (w,l,p,())) (N0 v w l p)) jH))
abbrev mD (v:Int) (w:Int) (l:List Int) (p:List Int):Prop:=M0 p∧pe w l∧0≤v∧v<2 ^ lg p∧1≤lg p∧l.length<1099511500000
noncomputable def N6:au:=au.bV [] ((ak (ah (aJ 0 0)) (ak (ah (aJ 2 0)) (ae (ah (ay .i64)) ag)))) (ph) fun x_ y_=> .leaf (some ((fun (v:Int) (w:Int) (l:List Int) (p:List Int)=>mD v w l p) x_.1 y_.1 y_.2.1 y_.2.2.1)) (N2 ((fun (v:Int) (w:Int) (l:List Int) (p:List Int)=>aF (lg p) v 1 w l p) x_.1 y_.1 y_.2.1 y_.2.2.1)) (N3 ((fun (v:Int) (w:Int) (l:List Int) (p:List Int)=>aF (lg p) v 1 w l p) x_.1 y_.1 y_.2.1 y_.2.2.1))
theorem aaY (v:Int) (w:Int) (l:List Int) (p:List Int) (h_:mD v w l p):(Gc v w l p).Is (aF (lg p) v 1 w l p):=by
 obtain ⟨h1,h2,h3,h4,h5,h6⟩:=h_
 have hlg:=h1.1
 have e1:IntKind.i64.wrap ((lg p:Int)-1)=lg p-1:=aq (by omega) (by omega)
 have e2:((lg p:Int)-1+1).toNat=lg p:=by omega
 have e3:((2 ^ lg p:Nat):Int)=2 ^ lg p:=by exact_mod_cast rfl
 simp only[Gc,ai,aj,bI,beq_iff_eq,decide_eq_true_eq,decide_eq_false_iff_not,e1,e2,lp (lg p) hlg,e3]
 refine ⟨h1,fun _=>⟨by omega,fun h=>by omega,fun _=>⟨⟨h1,h2,h3,by omega,by omega,by omega,by rw[e2,Nat.sub_self];decide,by omega⟩,trivial⟩⟩,fun h=>?_⟩
 simp at h;omega
theorem Kc:N6.Ok Tryz.prog 120:=
 bM (tys:= []) (A:=(ak (ah (aJ 0 0)) (ak (ah (aJ 2 0)) (ae (ah (ay .i64)) ag)))) (H:=ph) (LT:=fun x_ y_=>(fun (v:Int) (w:Int) (l:List Int) (p:List Int)=> [(0,aX qN ((ph).wr (w,l,p,())) zA (zC))]) x_.1 y_.1 y_.2.1 y_.2.2.1) (ks:= [.one 1,.one 3,.fr [.sym],.syms,.auto,.ax]) (V:=N2) (D:=N3) (T:=fun x_ y_=>Gc x_.1 y_.1 y_.2.1 y_.2.2.1) (pre:=fun x_ y_=>(fun (v:Int) (w:Int) (l:List Int) (p:List Int)=>mD v w l p) x_.1 y_.1 y_.2.1 y_.2.2.1) (sp:=fun x_ y_=>(fun (v:Int) (w:Int) (l:List Int) (p:List Int)=>aF (lg p) v 1 w l p) x_.1 y_.1 y_.2.1 y_.2.2.1) mixed ((ao Ka (ao Be (ao Bf (ao zt aD))))) Tryz.func120 (by kernel_rfl) Tryz.call120 (fun x_ y_=>V8 x_.1 y_.1 y_.2.1 y_.2.2.1) (fun x_ y_=>N5 x_.1 y_.1 y_.2.1 y_.2.2.1) (fun x_ y_ h=>aaY x_.1 y_.1 y_.2.1 y_.2.2.1 h)
end Go.Proofs.YtjalaohajcpllaaGreat
end
section
set_option linter.unusedVariables false
set_option linter.unusedSimpArgs false
namespace Go.Proofs.YtjalaohajcpllaaGreat
open Go Go.Ev
set_option maxRecDepth 1000000
abbrev anO:a9 (Option Ev.Item) (Int×Unit):=dN 168 (ae (ay .i64) (ak (jY 1 0) ag))
abbrev N7:a9 Hp ((Int×Unit)×List Int×Unit):=ae anO (ae (cg 0 (.int .i64)) ag)
noncomputable def jZ:au:=au.bV [] (oA) (N7) fun x_ y_=>(fun (n b:Int) (c:Int×Unit) (p:List Int)=> .leaf none (.cV []) [(1,.own 0 (.int .i64) (bZ p n b))]) x_.1 x_.2.1 y_.1 y_.2.1
theorem Ke (n b:Int) (c:Int×Unit) (p:List Int):aY Tryz.prog [(142,tV)] [] Tryz.f143 ((oA).wr (n,b,())) ((N7).wr (c,p,())) [.a8 0 [.sym,.an],.auto]=
 End.ite (decide ((1:Int)≤n)==true) (End.ite (decide (n<(↑p.length:Int))) (End.need ((0:Int)≤n∧n<(↑p.length:Int)) (End.need ((0:
 Int)≤n∧n<(↑p.length:Int)) (End.leaf (LV.cV []) [some (Item.a8 [SV.int IntKind.i64 (SI.sym c.fst),SV.sl (1:Nat) (0:Nat)] (168:Nat)),
 some (Item.own (0:Nat) (Ty.int IntKind.i64) (p.set n.toNat (cq (p.getD n.toNat (0:Int)) b)))]))) (End.leaf (LV.cV []) [some (Item.a8 [SV.int
 IntKind.i64 (SI.sym c.fst),SV.sl (1:Nat) (0:Nat)] (168:Nat)),some (Item.own (0:Nat) (Ty.int IntKind.i64) p)])) (End.leaf (LV.cV []) [some
 (Item.a8 [SV.int IntKind.i64 (SI.sym c.fst),SV.sl (1:Nat) (0:Nat)] (168:Nat)),some (Item.own (0:Nat) (Ty.int IntKind.i64) p)]):=by kernel_rfl
theorem gV:jZ.Ok Tryz.prog 143:=by
 refine (au.bE Tryz.call143 fun x_ y_ Q H_=>?_).sym
 obtain ⟨n,b,_⟩:=x_
 obtain ⟨c,p,_⟩:=y_
 have hq:=H_.2
 refine (aG mixed ((ao qH aD)) Tryz.func143 rfl (LT:= []) (ks:= [.a8 0 [.sym,.an],.auto]) (aP.nil _)).use (D:= [(1,.own 0 (.int .i64) (bZ p n b))]) ?_ hq
 show (aY _ _ _ _ ((oA).wr (n,b,())) ((N7).wr (c,p,())) _).sat _
 rw[Ke]
 have rO: ¬ (1≤n∧n<(p.length:Int))→bZ p n b=p:=fun h=>if_neg (by unfold nw;simpa using h)
 refine ⟨fun h1=>⟨fun h2=>?_,fun h2=>?_⟩,fun h1=>?_⟩
 ·have h1:1≤n:=by simpa using h1
  have h2:n<(p.length:Int):=of_decide_eq_true h2
  have e:bZ p n b=p.set n.toNat (cq (p.getD n.toNat 0) b):=if_pos (by unfold nw;exact decide_eq_true ⟨h1,h2⟩)
  refine ⟨by omega,by omega,rfl,?_⟩
  rw[e];rfl
 ·have h2:=of_decide_eq_false h2
  refine ⟨rfl,?_⟩
  rw[rO (fun h=>h2 h.2)];rfl
 ·have h1: ¬ 1≤n:=by simpa using h1
  refine ⟨rfl,?_⟩
  rw[rO (fun h=>h1 h.1)];rfl
end Go.Proofs.YtjalaohajcpllaaGreat
end
