/- What the laws lean on, part 7: a reader of code, plain facts, and what each function gives; no conditions. -/
import Derived.Deep.Slices
import Derived.Test.YtnbkagglkajbkaaGreatA6
set_option linter.unusedVariables false
set_option linter.unusedSimpArgs false
noncomputable section
namespace Go.Proofs.YtnbkagglkajbkaaGreat
open Go Go.Ev Go.ChangeShapes Go.WideShapes Go.ChangeAt Go.RowKit Go.Proofs.Tryz
open Go.IntKind (i64 signed u16 u64 wrap)
set_option maxRecDepth 100000
theorem avL:Bs Tryz.prog 10 22=some (List.replicate 32 (.int .u8)):=by kernel_rfl
theorem aoo:Tryz.prog.cellsOf 22=32:=by kernel_rfl
theorem Fg{β:Env}{W:World}{a:Addr}:∀ (n:Nat) (f:Nat→List Int) (g:Nat→List Value),(∀i,i<n→(g i).length=32∧(Ty.arr u8 32).has β false (f i) (g i)∧∀j,j<32→W.cell? (a.add (i*32+j))=(g i)[j]?)→
  ∃eD:List Value,aU ((Ty.arr u8 32).has β false) ((List.range n).map f) eD∧eD.length=n*32∧c8 W a eD
 |0,_,_,_=>⟨[],.nil,rfl,fun i u h=>by simp at h⟩
 |n+1,f,g,h=>by
  obtain⟨eD,h1,h2,h3⟩:=Fg n f g fun i hi=>h i (by omega);obtain⟨g1,g2,g3⟩:=h n (by omega);refine⟨eD++g n,?_,by rw[List.length_append,h2,g1];omega,fun i u hu=>?_⟩
  ·rw[List.range_succ,List.map_append]
   have aeX:aU ((Ty.arr u8 32).has β false) [f n] (g n):=by
    have:=aU.cons (R:=(Ty.arr u8 32).has β false) g2 .nil;rwa [List.append_nil]at this
   exact h1.append aeX
  ·by_cases hi:i<eD.length
   ·rw[List.getElem?_append_left hi]at hu;exact h3 i u hu
   ·rw[List.getElem?_append_right (by omega)]at hu;have dL:=(List.getElem?_eq_some_iff.1 hu).1;have:=g3 (i-eD.length) (by omega);rw[show n*32+(i-eD.length)=i from by omega,hu]at this;exact this
theorem Zx{H:Type}{enc:TypeId×Value→H}{W:World}{base:Nat}{v:Value}{d:DataW H}{p:List MemPlace}
  (ns:Value.okWide Tryz.prog W .any base 37 v) (h:DataW.Trod enc Tryz.prog W 0 (fun _=>true) true 37 v d p):
  ∃l:List (List Int),(∀k:Nat,k<l.length→(l.getD k (List.replicate 32 0)).length=32∧ay (l.getD k (List.replicate 32 0)))∧(LV.one (.sc (.rd false false (.arr u8 32) l))).den (Qm W) (kd []) v:=by
 obtain⟨fuel,h⟩:=h
 have aeX:v.cells.toList= [v]:=by
  unfold Value.okWide at ns;rw[underlying37]at ns
  cases v<;>first|rfl|(exfalso;simp[Cell.okWide,Cell.ok,underlying37]at ns)
 rw[aeX]at h;rcases Go.Deep.open_slice underlying37 h with⟨e,_⟩|⟨a,len,cap,m,n,D,Pl,e,_,hlc,_,hm,_,Ls⟩
 ·obtain rfl:v= .slice none 0 0:=by simpa using e
  exact⟨[],fun k hk=>(by simp at hk),rfl,(fun e=>by cases e),.inr (.inr ⟨rfl,rfl⟩)⟩
 ·obtain rfl:v= .slice (some a) len cap:=by simpa using e
  simp only[if_true]at hm;subst hm;rw[aoo]at Ls
  have key:∀i,∃l:List Int,∃us:List Value,i<len→l.length=32∧ay l∧us.length=32∧(Ty.arr u8 32).has VY false l us∧∀j,j<32→W.cell? (a.add (i*32+j))=us[j]? :=by
   intro i
   by_cases hi:i<len
   ·obtain⟨cs',h1,h2⟩:=Ls i (by omega);have Zf:=G4 10 avL h2;rw[← List.append_nil (List.replicate 32 (Bt.int .u8))]at Zf;obtain⟨l,us,rest,e1,hl,hu,hd,hw,hr⟩:=Lr (β:=VY) (pm:=false) 32 Zf
    cases hr
    rw[List.append_nil]at e1;obtain⟨_,c2,c3⟩:=World.cells?_some h1;refine⟨l,us,fun _=>⟨hl,fun z hz=>wf_u8 (hw z hz),by rw[← e1];exact c2,⟨hl,hd⟩,fun j hj=>?_⟩⟩;have:=c3 j hj;rw[Addr.add_add,e1]at this;exact this
   ·exact⟨[],[],fun h=>absurd h hi⟩
  have hf:=fun i=>Classical.choose_spec (key i)
  let f:Nat→List Int:=fun i=>Classical.choose (key i)
  have hg:=fun i=>Classical.choose_spec (hf i)
  let g:Nat→List Value:=fun i=>Classical.choose (hf i)
  refine⟨(List.range len).map f,fun k hk=>?_,rfl,(fun e=>by cases e),.inr (.inl ⟨rfl,rfl,by decide,?_⟩)⟩
  ·rw[List.length_map,List.length_range]at hk;have hq:=hg k hk;rw[List.getD_eq_getElem?_getD,List.getElem?_map,List.getElem?_range hk];exact⟨hq.1,hq.2.1⟩
  ·obtain⟨eD,v1,v2,v3⟩:=Fg (β:=VY) (W:=W) (a:=a) len f g fun i hi=>⟨(hg i hi).2.2.1,(hg i hi).2.2.2.1,(hg i hi).2.2.2.2⟩;refine⟨some a,len,_,rfl,by simp,hlc,(fun e=>by cases e),fun h0=>⟨a,eD,rfl,?_,v1,v3⟩⟩;have gJ:0<eD.length:=(by rw[v2];omega);have PY:=v3 0 (eD[0]'gJ) (List.getElem?_eq_getElem gJ);have:a.add 0=a:=(by cases a;simp[Addr.add]);rw[this]at PY;exact World.cell?_spot PY
end Go.Proofs.YtnbkagglkajbkaaGreat
end
noncomputable section
namespace Go.Proofs.YtnbkagglkajbkaaGreat
open Go Go.Ev Go.Proofs.Tryz
open Go.IntKind (i64 signed u16 u64 wrap)
set_option maxRecDepth 1000000
abbrev inA:aM (List LV) (Int×Unit):=ae (ah (aA .i64)) ag
abbrev aeZ:aM (List LV) (Int×Int×Unit):=ae (ah (aA .i64)) (ae (ah (aA .i64)) ag)
abbrev avM:aM (List LV) (Int×Int×Int×Unit):=ae (ah (aA .i64)) (ae (ah (aA .i64)) (ae (ah (aA .i64)) ag))
def aQ(p:Int):Int:=if p<31 then 31 else if 2017<p then 2017 else p
def cP(p b:Int):Int:=if b=0 then aQ p+(2048-aQ p)/32 else aQ p-aQ p/32
def e1I(g:Int→Int):an:=an.cl [] inA ag fun x _=>.leaf none (nI (g x.1)) []
def e2I(g:Int→Int→Int):an:=an.cl [] aeZ ag fun x _=>.leaf none (nI (g x.1 x.2.1)) []
def e3I(g:Int→Int→Int→Int):an:=an.cl [] avM ag fun x _=>.leaf none (nI (g x.1 x.2.1 x.2.2.1)) []
theorem gu(p:Int):31≤aQ p∧aQ p≤2017:=by unfold aQ;split<;>(try split)<;>omega
theorem uC{p b:Int}:cP p b=if b=0 then i64.wrap (aQ p+i64.wrap ((i64.wrap (2048-aQ p)).tdiv 32))else i64.wrap (aQ p-i64.wrap ((aQ p).tdiv 32)):=by
 have h:=gu p;unfold cP;have e1:i64.wrap (2048-aQ p)=2048-aQ p:=ao (by omega) (by omega);rw[e1,Int.tdiv_eq_ediv_of_nonneg (by omega),Int.tdiv_eq_ediv_of_nonneg (by omega),ao (n:=(2048-aQ p)/32) (by omega) (by omega),ao (n:=aQ p/32) (by omega) (by omega),ao (by omega) (by omega),ao (by omega) (by omega)]
theorem qf(p b:Int):31≤cP p b∧cP p b≤2017:=by
 have h:=gu p;unfold cP
 split<;>omega
theorem mM{a b:Int}(h:a=b):nI a=nI b:=by rw[h]
theorem ae0(p:Int):(if 31<(if 2017<p then 2017 else p)then(if 2017<p then 2017 else p)else 31)=aQ p:=by
 unfold aQ
 by_cases h1:2017<p
 ·simp only[h1,if_true];rw[if_pos (by decide),if_neg (by omega)]
 ·simp only[h1,if_false]
  by_cases h2:31<p
  ·rw[if_pos h2,if_neg (by omega)]
  ·rw[if_neg h2];split<;>omega
abbrev G5:an:=e1I aQ
theorem Qo(p:Int):aG Tryz.prog [] [] f257 ((inA).wr (p,())) [] [.fr [.sym],.auto]=
 End.leaf (LV.one (VV.sc (SV.int i64 (SI.sym (if(31:Int)<if(2017:Int)<p then(2017:Int)else p then if(2017:Int)<p then(2017:
 Int)else p else(31:Int)))))) []:=by kernel_rfl
theorem Qp:∀p_∈([]:List (FuncId×an)),p_.2.Ok Tryz.prog p_.1:=ax
theorem uD:G5.Ok Tryz.prog 257:=by
 refine(an.aN call257 fun x_ y_ Q H_=>?_).sym;obtain⟨p,_⟩:=x_;have hq:=H_.2;refine(ar (tab:= []) mixed Qp func257 rfl (LT:= []) (ks:= [.fr [.sym],.auto]) (aH.nil _)).use (D:= []) ?_ hq;show(aG _ _ _ _ ((inA).wr (p,())) [] _).sat _;rw[Qo];exact⟨mM (ae0 p),rfl⟩
abbrev uE:an:=e2I cP
theorem Lt(h:Int→Int)(p b:Int):aG Tryz.prog [(257,e1I h)] [] f260 ((aeZ).wr (p,b,())) [] [.fr [.sym],.auto]=
 End.ite (b==(0:Int)) (End.leaf (LV.one (VV.sc (SV.int i64 (SI.sym (i64.wrap (h p+i64.wrap ((i64.wrap ((2048:
 Int)-h p)).tdiv (32:Int)))))))) []) (End.leaf (LV.one (VV.sc (SV.int i64 (SI.sym (i64.wrap (h p-i64.wrap ((h p).tdiv (32
 :Int)))))))) []):=by kernel_rfl
theorem Lu:∀p_∈([(257,e1I aQ)]:List (FuncId×an)),p_.2.Ok Tryz.prog p_.1:=(aj uD ax)
theorem rz:uE.Ok Tryz.prog 260:=by
 refine(an.aN call260 fun x_ y_ Q H_=>?_).sym;obtain⟨p,b,_⟩:=x_;have hq:=H_.2;refine(ar (tab:= [(257,e1I aQ)]) mixed Lu func260 rfl (LT:= []) (ks:= [.fr [.sym],.auto]) (aH.nil _)).use (D:= []) ?_ hq;show(aG _ _ _ _ ((aeZ).wr (p,b,())) [] _).sat _;rw[Lt aQ];refine⟨fun h=>⟨mM ?_,rfl⟩,fun h=>⟨mM ?_,rfl⟩⟩
 ·rw[uC,if_pos (beq_iff_eq.1 h)]
 ·rw[uC,if_neg (bne_iff_ne.1 (by simpa using h))]
def oz(a b c:Int):Int:=if a<b then b else if c<a then c else a
abbrev ae1:an:=e3I oz
theorem Zy(a b c:Int):aG Tryz.prog [] [] f58 ((avM).wr (a,b,c,())) [] [.fr [.sym],.auto]=
 End.ite (decide (a<b)) (End.leaf (LV.one (VV.sc (SV.int i64 (SI.sym b)))) []) (End.ite (decide (c<a)) (End.leaf (LV.one (VV.sc (SV.int
 i64 (SI.sym c)))) []) (End.leaf (LV.one (VV.sc (SV.int i64 (SI.sym a)))) [])):=by kernel_rfl
theorem Zz:∀p_∈([]:List (FuncId×an)),p_.2.Ok Tryz.prog p_.1:=ax
theorem G6:ae1.Ok Tryz.prog 58:=by
 refine(an.aN call58 fun x_ y_ Q H_=>?_).sym;obtain⟨a,b,c,_⟩:=x_;have hq:=H_.2;refine(ar (tab:= []) mixed Zz func58 rfl (LT:= []) (ks:= [.fr [.sym],.auto]) (aH.nil _)).use (D:= []) ?_ hq;show(aG _ _ _ _ ((avM).wr (a,b,c,())) [] _).sat _;rw[Zy];refine⟨fun h=>⟨mM ?_,rfl⟩,fun h=>⟨fun h2=>⟨mM ?_,rfl⟩,fun h2=>⟨mM ?_,rfl⟩⟩⟩
 ·unfold oz;rw[if_pos (of_decide_eq_true h)]
 ·unfold oz;rw[if_neg (of_decide_eq_false h),if_pos (of_decide_eq_true h2)]
 ·unfold oz;rw[if_neg (of_decide_eq_false h),if_neg (of_decide_eq_false h2)]
abbrev G7:an:=e1I aQ
theorem Qq(c:Int→Int→Int→Int)(p:Int):aG Tryz.prog [(58,e3I c)] [] f275 ((inA).wr (p,())) [] [.fr [.sym],.auto]=
 End.leaf (LV.one (VV.sc (SV.int i64 (SI.sym (c p (31:Int) (2017:Int)))))) []:=by kernel_rfl
theorem Qr:∀p_∈([(58,e3I oz)]:List (FuncId×an)),p_.2.Ok Tryz.prog p_.1:=(aj G6 ax)
theorem uF:G7.Ok Tryz.prog 275:=by
 refine(an.aN call275 fun x_ y_ Q H_=>?_).sym;obtain⟨p,_⟩:=x_;have hq:=H_.2;refine(ar (tab:= [(58,e3I oz)]) mixed Qr func275 rfl (LT:= []) (ks:= [.fr [.sym],.auto]) (aH.nil _)).use (D:= []) ?_ hq;show(aG _ _ _ _ ((inA).wr (p,())) [] _).sat _;rw[Qq oz];exact⟨rfl,rfl⟩
abbrev uG:an:=e2I cP
theorem Lv(h:Int→Int)(p b:Int):aG Tryz.prog [(275,e1I h)] [] f278 ((aeZ).wr (p,b,())) [] [.fr [.sym],.auto]=
 End.ite (b==(0:Int)) (End.leaf (LV.one (VV.sc (SV.int i64 (SI.sym (i64.wrap (h p+i64.wrap ((i64.wrap ((2048:
 Int)-h p)).tdiv (32:Int)))))))) []) (End.leaf (LV.one (VV.sc (SV.int i64 (SI.sym (i64.wrap (h p-i64.wrap ((h p).tdiv (32
 :Int)))))))) []):=by kernel_rfl
theorem Lw:∀p_∈([(275,e1I aQ)]:List (FuncId×an)),p_.2.Ok Tryz.prog p_.1:=(aj uF ax)
theorem rA:uG.Ok Tryz.prog 278:=by
 refine(an.aN call278 fun x_ y_ Q H_=>?_).sym;obtain⟨p,b,_⟩:=x_;have hq:=H_.2;refine(ar (tab:= [(275,e1I aQ)]) mixed Lw func278 rfl (LT:= []) (ks:= [.fr [.sym],.auto]) (aH.nil _)).use (D:= []) ?_ hq;show(aG _ _ _ _ ((aeZ).wr (p,b,())) [] _).sat _;rw[Lv aQ];refine⟨fun h=>⟨mM ?_,rfl⟩,fun h=>⟨mM ?_,rfl⟩⟩
 ·rw[uC,if_pos (beq_iff_eq.1 h)]
 ·rw[uC,if_neg (bne_iff_ne.1 (by simpa using h))]
abbrev aAo:aM (Option Ev.Item) Unit:=dH 332 (ai (ke 1 0) ag)
abbrev uH:aM Hp (List Int×Unit):=ai aAo (ae (bS 0 (.int .u16)) ag)
abbrev lY:aM (List LV) (Int×Unit):=ai (ah (aC 0 0)) (ae (ah (aA .i64)) ag)
abbrev sG:aM (List LV) (Int×Int×Unit):=ai (ah (aC 0 0)) (ae (ah (aA .i64)) (ae (ah (aA .i64)) ag))
def oA(p:List Int)(n:Int):Bool:=decide (1≤n∧n<p.length)
theorem ae2{b c:Bool}(h:b=c):nB b=nB c:=by rw[h]
theorem wrap_u16(n:Int):u16.wrap n=n%65536:=by
 simp only[wrap,IntKind.bits,signed];simp
def gZ(p:List Int):Prop:=∀i,0≤p.getD i 0∧p.getD i 0≤65535
def ef(p:List Int)(n:Int):Int:=if oA p n=true then p.getD n.toNat 0 else 0
def b8(p:List Int)(n b:Int):List Int:=if oA p n=true then p.set n.toNat (cP (p.getD n.toNat 0) b)else p
def ae3:an:=an.cl [] (lY) (uH) fun x_ y_=>(fun(n:Int) (p:List Int)=>.leaf none (nB (oA p n)) []) x_.1 y_.1
theorem ZA(n:Int)(p:List Int):aG Tryz.prog [] [] f310 ((lY).wr (n,())) ((uH).wr (p,())) [.fr [.sym],.auto]=
 End.ite (decide ((1:Int)≤n)==true) (End.leaf (LV.one (VV.sc (SV.bool (SB.sym (decide (n<(↑p.length:Int))))))) [some (Item.aW [SV.sl (1:
 Nat) (0:Nat)] (332:Nat)),some (Item.own (0:Nat) (Ty.int u16) p)]) (End.leaf (LV.one (VV.sc (SV.bool (SB.sym false)))) [some (Item.aW
 [SV.sl (1:Nat) (0:Nat)] (332:Nat)),some (Item.own (0:Nat) (Ty.int u16) p)]):=by kernel_rfl
theorem VZ:ae3.Ok Tryz.prog 310:=by
 refine(an.aN call310 fun x_ y_ Q H_=>?_).sym;obtain⟨n,_⟩:=x_;obtain⟨p,_⟩:=y_;have hq:=H_.2;refine(ar mixed ax func310 rfl (LT:= []) (ks:= [.fr [.sym],.auto]) (aH.nil _)).use (D:= []) ?_ hq;show(aG _ _ _ _ ((lY).wr (n,())) ((uH).wr (p,())) _).sat _;rw[ZA];refine⟨fun h=>⟨ae2 ?_,rfl⟩,fun h=>⟨ae2 ?_,rfl⟩⟩
 ·have h:1≤n:=by simpa using h
  unfold oA;exact decide_eq_decide.2 ⟨fun h'=>⟨h,h'⟩,fun h'=>h'.2⟩
 ·have h:¬ 1≤n:=by simpa using h
  unfold oA;exact(decide_eq_false fun h'=>h h'.1).symm
def ZB:an:=an.cl [] (lY) (uH) fun x_ y_=>(fun(n:Int) (p:List Int)=>.leaf (some (gZ p)) (nI (ef p n)) []) x_.1 y_.1
theorem ae4(n:Int)(p:List Int):aG Tryz.prog [(310,ae3)] [] f262 ((lY).wr (n,())) ((uH).wr (p,())) [.fr [.sym],.auto]=
 End.ite (!oA p n) (End.leaf (LV.one (VV.sc (SV.int i64 (SI.sym (0:Int))))) [some (Item.aW [SV.sl (1:Nat) (0:Nat)] (332:Nat)),some
 (Item.own (0:Nat) (Ty.int u16) p)]) (End.need ((0:Int)≤n∧n<(↑p.length:Int)) (End.leaf (LV.one (VV.sc (SV.int i64 (SI.sym
 (i64.wrap (p.getD n.toNat (0:Int))))))) [some (Item.aW [SV.sl (1:Nat) (0:Nat)] (332:Nat)),some (Item.own (0:Nat) (Ty.int
 u16) p)])):=by kernel_rfl
theorem Bu:ZB.Ok Tryz.prog 262:=by
 refine(an.aN call262 fun x_ y_ Q H_=>?_).sym;obtain⟨n,_⟩:=x_;obtain⟨p,_⟩:=y_;obtain⟨hn,hq⟩:=H_;have hn:gZ p:=hn;refine(ar mixed ((aj VZ ax)) func262 rfl (LT:= []) (ks:= [.fr [.sym],.auto]) (aH.nil _)).use (D:= []) ?_ hq;show(aG _ _ _ _ ((lY).wr (n,())) ((uH).wr (p,())) _).sat _;rw[ae4];refine⟨fun h=>⟨mM ?_,rfl⟩,fun h=>?_⟩
 ·have h:¬oA p n=true:=by simpa using h
  unfold ef;rw[if_neg h]
 ·have h:oA p n=true:=by simpa using h
  have hh:1≤n∧n<p.length:=of_decide_eq_true h;have hr:=hn n.toNat;refine⟨by omega,mM ?_,rfl⟩;unfold ef;rw[if_pos h,ao (by omega) (by omega)]
def G8:an:=an.cl [] (sG) (uH) fun x_ y_=>(fun(n b:Int) (p:List Int)=>.leaf (some (gZ p)) (.cj []) [(1,.own 0 (.int .u16) (b8 p n b))]) x_.1 x_.2.1 y_.1
theorem Qs(n b:Int)(p:List Int):aG Tryz.prog [(310,ae3),(260,uE)] [] f263 ((sG).wr (n,b,())) ((uH).wr (p,())) [.fr [.sym],.auto]=
 End.ite (oA p n) (End.need ((0:Int)≤n∧n<(↑p.length:Int)) (End.need ((0:Int)≤n∧n<(↑p.length:Int)) (End.leaf (LV.cj []) [some
 (Item.aW [SV.sl (1:Nat) (0:Nat)] (332:Nat)),some (Item.own (0:Nat) (Ty.int u16) (p.set n.toNat (u16.wrap (cP
 (i64.wrap (p.getD n.toNat (0:Int))) b))))]))) (End.leaf (LV.cj []) [some (Item.aW [SV.sl (1:Nat) (0:Nat)] (332:Nat)),some (Item.own
 (0:Nat) (Ty.int u16) p)]):=by kernel_rfl
theorem Bv:G8.Ok Tryz.prog 263:=by
 refine(an.aN call263 fun x_ y_ Q H_=>?_).sym;obtain⟨n,b,_⟩:=x_;obtain⟨p,_⟩:=y_;obtain⟨hn,hq⟩:=H_;have hn:gZ p:=hn;refine(ar mixed ((aj VZ (aj rz ax))) func263 rfl (LT:= []) (ks:= [.fr [.sym],.auto]) (aH.nil _)).use (D:= [(1,.own 0 (.int .u16) (b8 p n b))]) ?_ hq;show(aG _ _ _ _ ((sG).wr (n,b,())) ((uH).wr (p,())) _).sat _;rw[Qs];refine⟨fun h=>?_,fun h=>?_⟩
 ·have hh:1≤n∧n<p.length:=of_decide_eq_true h;have hr:=hn n.toNat;have ha:=qf (p.getD n.toNat 0) b
  have e:b8 p n b=p.set n.toNat (u16.wrap (cP (i64.wrap (p.getD n.toNat 0)) b)):=by
   unfold b8;rw[if_pos h,ao (by omega) (by omega)]
   congr 1
   rw[wrap_u16];omega
  refine⟨by omega,by omega,rfl,?_⟩;rw[e];rfl
 ·have h:¬oA p n=true:=by simpa using h
  have e:b8 p n b=p:=if_neg h;refine⟨rfl,?_⟩;rw[e];rfl
end Go.Proofs.YtnbkagglkajbkaaGreat
end
noncomputable section
namespace Go.Ev
open Go
open Go.IntKind (i64 signed u16 u64 wrap)
theorem jZ{α:Type}{l:List α}{k:Nat}(z:α)(h:k<l.length):l.drop k=l.getD k z::l.drop (k+1):=by
 rw[List.drop_eq_getElem_cons h];simp[List.getD_eq_getElem?_getD,List.getElem?_eq_getElem h]
theorem ay.getD{l:List Int}(h:ay l)(i:Nat):By (l.getD i 0):=by
 rw[List.getD_eq_getElem?_getD]
 cases hi:l[i]? with
 |none=>exact⟨Int.le_refl _,by decide⟩
 |some z=>exact h z (List.mem_of_getElem? hi)
theorem ay.set{l:List Int}(h:ay l)(i:Nat){z:Int}(hz:By z):ay (l.set i z):=fun y hy=>by
 rcases List.mem_or_eq_of_mem_set hy with hy|rfl
 ·exact h y hy
 ·exact hz
theorem ay.nil:ay []:=fun _ h=>by cases h
theorem ay.cons{z:Int}{l:List Int}(hz:By z)(h:ay l):ay (z::l):=fun y hy=>by
 rcases List.mem_cons.1 hy with rfl|hy
 ·exact hz
 ·exact h y hy
inductive Tr (X:Type) where
 |ret (x:X)
 |ite (b:Bool) (t e:Tr X)
 |need (p:Prop) (t:Tr X)
 |fail
def Tr.Is{X:Type}:Tr X→X→Prop
 | .ret x,y=>x=y
 | .ite b t e,y=>(b=true→t.Is y)∧(b=false→e.Is y)
 | .need p t,y=>p∧t.Is y
 | .fail,_=>False
theorem au{X:Type}{x y:X}:(Tr.ret x).Is y↔x=y:=Iff.rfl
theorem aq{X:Type}{p:Prop}{t:Tr X}{y:X}:(Tr.need p t).Is y↔p∧t.Is y:=Iff.rfl
theorem bE{X:Type}{b:Bool}{t e:Tr X}{y:X}:(Tr.ite b t e).Is y↔(b=true→t.Is y)∧(b=false→e.Is y):=Iff.rfl
theorem aP{X:Type}{c:Prop}[Decidable c]{t e:Tr X}{y:X}:(Tr.ite (decide c) t e).Is y↔(c→t.Is y)∧(¬c→e.Is y):=by
 simp only[bE,decide_eq_true_eq,decide_eq_false_iff_not]
theorem dP{X:Type}{t e:Tr X}{y:X}:(Tr.ite true t e).Is y↔t.Is y:=by simp[bE]
theorem e9{X:Type}{t e:Tr X}{y:X}:(Tr.ite false t e).Is y↔e.Is y:=by simp[bE]
theorem eA{X:Type}{a b:Int}{t e:Tr X}{y:X}:(Tr.ite (a==b) t e).Is y↔(a=b→t.Is y)∧(a≠b→e.Is y):=by
 simp only[bE,beq_iff_eq,beq_eq_false_iff_ne]
theorem ir{X:Type}{a b:Int}{t e:Tr X}{y:X}:(Tr.ite (a !=b) t e).Is y↔(a=b→e.Is y)∧(a≠b→t.Is y):=by
 simp only[bE,bne_iff_ne,bne_eq_false_iff_eq];exact And.comm
theorem fC{X:Type}{b:Bool}{t e:Tr X}{y:X}:(Tr.ite (!b) t e).Is y↔(b=true→e.Is y)∧(b=false→t.Is y):=by
 cases b<;>simp[bE]
theorem iS(b:Bool):(b==true)=b:=by cases b<;>rfl
def Tr.val{X:Type}(d:X):Tr X→X
 | .ret x=>x
 | .ite b t e=>bif b then t.val d else e.val d
 | .need _ t=>t.val d
 | .fail=>d
def Tr.end{X:Type}(V:X→LV)(D:X→List (Nat×Item))(hp:Hp):Tr X→End
 | .ret x=>.leaf (V x) (aJ (D x) hp)
 | .ite b t e=>.ite b (t.end V D hp) (e.end V D hp)
 | .need p t=>.need p (t.end V D hp)
 | .fail=>.fail
theorem Tr.oB{X:Type}{V:X→LV}{D:X→List (Nat×Item)}{hp:Hp}:∀ {t:Tr X} {x:X},t.Is x→(t.end V D hp).sat fun v dB=>v=V x∧dB=aJ (D x) hp
 | .ret _,_,h=>by cases h;exact⟨rfl,rfl⟩
 | .ite _ _ _,_,h=>⟨fun e=>Tr.oB (h.1 e),fun e=>Tr.oB (h.2 e)⟩
 | .need _ _,_,h=>⟨h.1,Tr.oB h.2⟩
 | .fail,_,h=>h
def cv{X Y Z:Type}(tys:List (Option Ty))(A:aM (List LV) X)(H:aM Hp Y)(pre:X→Y→Prop)(sp:X→Y→Z)(V:Z→LV)(D:Z→List (Nat×Item)):an:=an.cl tys A H fun x y=>.leaf (some (pre x y)) (V (sp x y)) (D (sp x y))
def Lx{X Y Z Z':Type}(tys:List (Option Ty))(A:aM (List LV) X)(H:aM Hp Y)(pre:X→Y→Prop)(c:X→Y→Bool)(sp:X→Y→Z)(V0:X→Y→Z')(V:Z→LV)(D:Z→List (Nat×Item))(V':Z'→LV)(D':Z'→List (Nat×Item)):an:=
 an.cl tys A H fun x y=>.ite (c x y) (.leaf (some (pre x y)) (V (sp x y)) (D (sp x y))) (.leaf (some (pre x y)) (V' (V0 x y)) (D' (V0 x y)))
theorem br{P:Program}(lX:P.follows .mixedOrders=true){tab:List (FuncId×an)}(sn:∀p∈tab,p.2.Ok P p.1){f:FuncId}{fn:Func}(hf:P.funcs[f]? =some fn)(hb:fn.body.isSome=true)(he:xn P f){tys:List (Option Ty)}{X Y Z:Type}{A:aM (List LV) X}{H:aM Hp Y}
  {LT:X→Y→dG} (hL:∀x y,aH P (H.wr y) (LT x y) (aF fn)) {ks:List Wk} {V:Z→LV} {D:Z→List (Nat×Item)} {T:X→Y→Tr Z} {pre:X→Y→Prop} {sp:X→Y→Z}
  (hT:∀x y,aG P tab (LT x y) fn (A.wr x) (H.wr y) ks=(T x y).end V D (H.wr y)) (hI:∀x y,pre x y→(T x y).Is (sp x y)):
  (cv tys A H pre sp V D).Ok P f:=by
 refine(an.aN he fun x y Q h=>?_).sym;refine(ar lX sn hf hb (ks:=ks) (hL x y)).use (V:=V (sp x y)) (D:=D (sp x y)) ?_ h.2;rw[hT];exact Tr.oB (hI x y h.1)
theorem G9{P:Program}(lX:P.follows .mixedOrders=true){tab:List (FuncId×an)}(sn:∀p∈tab,p.2.Ok P p.1){f:FuncId}{fn:Func}(hf:P.funcs[f]? =some fn)(hb:fn.body.isSome=true)(he:xn P f){tys:List (Option Ty)}{X Y Z Z':Type}{A:aM (List LV) X}{H:aM Hp Y}
  {LT:X→Y→dG} (hL:∀x y,aH P (H.wr y) (LT x y) (aF fn)) {ks:List Wk} {V:Z→LV} {D:Z→List (Nat×Item)} {V':Z'→LV} {D':Z'→List (Nat×Item)} {T:X→Y→Tr (Z⊕Z')} {pre:X→Y→Prop} {c:X→Y→Bool} {sp:X→Y→Z} {V0:X→Y→Z'}
  (hT:∀x y,aG P tab (LT x y) fn (A.wr x) (H.wr y) ks=(T x y).end (Sum.elim V V') (Sum.elim D D') (H.wr y)) (hI:∀x y,pre x y→(c x y=true→(T x y).Is (.inl (sp x y)))∧(c x y=false→(T x y).Is (.inr (V0 x y)))):
  (Lx tys A H pre c sp V0 V D V' D').Ok P f:=by
 refine(an.aN he fun x y Q h=>?_).sym
 cases hc:c x y with
 |true=>
  have h1:=h.1 hc;refine(ar lX sn hf hb (ks:=ks) (hL x y)).use (V:=V (sp x y)) (D:=D (sp x y)) ?_ h1.2;rw[hT];exact Tr.oB (V:=Sum.elim V V') (D:=Sum.elim D D') ((hI x y h1.1).1 hc)
 |false=>
  have h1:=h.2 hc;refine(ar lX sn hf hb (ks:=ks) (hL x y)).use (V:=V' (V0 x y)) (D:=D' (V0 x y)) ?_ h1.2;rw[hT];exact Tr.oB (V:=Sum.elim V V') (D:=Sum.elim D D') ((hI x y h1.1).2 hc)
theorem avN{P:Program}(lX:P.follows .mixedOrders=true){tab:List (FuncId×an)}(sn:∀p∈tab,p.2.Ok P p.1){f:FuncId}{fn:Func}(hf:P.funcs[f]? =some fn)(hb:fn.body.isSome=true)(he:xn P f){tys:List (Option Ty)}{X Y Z:Type}{A:aM (List LV) X}{H:aM Hp Y}
  {LT:X→Y→dG} (hL:∀x y,aH P (H.wr y) (LT x y) (aF fn)) {ks:List Wk} {V:Z→LV} {D:Z→List (Nat×Item)} {T:X→Y→Tr Z} {out:X→Y→Out}
  (hT:∀x y,aG P tab (LT x y) fn (A.wr x) (H.wr y) ks=(T x y).end V D (H.wr y)) (hO:∀x y Q,(out x y).holds Q→∃z,(T x y).Is z∧Q (V z) (D z)):
  (an.cl tys A H out).Ok P f:=by
 refine(an.aN he fun x y Q h=>?_).sym;obtain⟨z,h1,h2⟩:=hO x y Q h;refine(ar lX sn hf hb (ks:=ks) (hL x y)).use (V:=V z) (D:=D z) ?_ h2;rw[hT];exact Tr.oB h1
inductive cX {X Z:Type} (L:X→Tr (X⊕Z)):X→Z→Prop where
 |stop {x z} (h:(L x).Is (.inr z)):cX L x z
 |go {x y z} (h:(L x).Is (.inl y)) (t:cX L y z):cX L x z
inductive Bw {X Z:Type} (L:X→Tr (X⊕Z)):Nat→X→Z→Prop where
 |stop {n x z} (h:(L x).Is (.inr z)):Bw L n x z
 |go {n x y z} (h:(L x).Is (.inl y)) (t:Bw L n y z):Bw L (n+1) x z
theorem cX.n{X Z:Type}{L:X→Tr (X⊕Z)}{x:X}{z:Z}(h:cX L x z):∃n,Bw L n x z:=by
 induction h with
 |stop h=>exact⟨0,.stop h⟩
 |go h _ ih=>obtain⟨n,h'⟩:=ih;exact⟨n+1,.go h h'⟩
theorem cX.iter{X Z:Type}{L:X→Tr (X⊕Z)}{z:Z}(f:Nat→X)(n:Nat)(h:∀k,k<n→(L (f k)).Is (.inl (f (k+1))))(he:(L (f n)).Is (.inr z)):cX L (f 0) z:=by
 have key:∀m k,k+m=n→cX L (f k) z:=by
  intro m
  induction m with
  |zero=>intro k hk;have:k=n:=by omega
         subst this;exact .stop he
  |succ m ih=>intro k hk;exact .go (h k (by omega)) (ih (k+1) (by omega))
 exact key n 0 (by omega)
def Tr.res{X Z:Type}(C:X→St)(E:Z→Exit×St):Tr (X⊕Z)→aK
 | .ret (.inl y)=>.leaf .normal (C y)
 | .ret (.inr z)=>.leaf (E z).1 (E z).2
 | .ite b t e=>.ite b (t.res C E) (e.res C E)
 | .need p t=>.need p (t.res C E)
 | .fail=>.fail
theorem Tr.Ha{X Z:Type}{C:X→St}{E:Z→Exit×St}{y:X}:∀ {t:Tr (X⊕Z)},t.Is (.inl y)→(t.res C E).sat fun e s=>e= .normal∧s=C y
 | .ret _,h=>by cases h;exact⟨rfl,rfl⟩
 | .ite _ _ _,h=>⟨fun e=>Tr.Ha (h.1 e),fun e=>Tr.Ha (h.2 e)⟩
 | .need _ _,h=>⟨h.1,Tr.Ha h.2⟩
 | .fail,h=>h
theorem Tr.uI{X Z:Type}{C:X→St}{E:Z→Exit×St}{z:Z}:∀ {t:Tr (X⊕Z)},t.Is (.inr z)→(t.res C E).sat fun e s=>e=(E z).1∧s=(E z).2
 | .ret _,h=>by cases h;exact⟨rfl,rfl⟩
 | .ite _ _ _,h=>⟨fun e=>Tr.uI (h.1 e),fun e=>Tr.uI (h.2 e)⟩
 | .need _ _,h=>⟨h.1,Tr.uI h.2⟩
 | .fail,h=>h
theorem cy{P:Program}(lX:P.follows .mixedOrders=true){tab:List (FuncId×an)}(sn:∀p∈tab,p.2.Ok P p.1){LT:dG}{fn:Func}{id:Nat}{hp:Hp}{ws:Exit→List Wk}(hL:aH P hp LT (aO fn id))
  {X Z:Type} {C:aM St X} {E:Z→Exit×St} {L:X→Tr (X⊕Z)} {pre:X→Prop} {sp:X→Z} {F:X→aK}
  (hT:∀x,cO P tab LT fn id hp ws (C.wr x)=(L x).res C.wr E) (hE:∀z,(E z).1≠ .normal) (hF:∀x R,(F x).sat R→pre x∧R (E (sp x)).1 (E (sp x)).2) (hI:∀x,pre x→cX L x (sp x)) (x:X):
  Ex P hp (.loop (aO fn id)) (C.wr x) (F x):=by
 intro W β₀ R Q hs hq β a w hr;obtain⟨hx,hs2⟩:=hF x R hs;obtain⟨n,hn⟩:=(hI x hx).n
 have key:Ex P hp (.loop (aO fn id)) (C.wr x) (.leaf (E (sp x)).1 (E (sp x)).2):=by
  refine Ex.dc (X:=Nat×X) (fun p=>p.1) (fun p=>C.wr p.2) (fun p=>Bw L p.1 p.2 (sp x)) (fun p=>(L p.2).res C.wr E) (fun _=>.leaf (E (sp x)).1 (E (sp x)).2) (fun p _=>by have:=VU lX sn hL (P:=P) (ws:=ws) (st:=C.wr p.2);rw[hT]at this;exact this) (fun p R hp hs=>?_) (x:=(n,x)) hn;obtain⟨k,y⟩:=p
  cases hp with
  |stop h=>exact aK.qa (fun e s ⟨h1,h2⟩=>.inr ⟨by rw[h1];exact hE _,by rw[h1,h2];exact hs⟩) (Tr.uI h)
  |go h t=>exact aK.qa (fun e s ⟨h1,h2⟩=>.inl ⟨h1,(_,_),h2,t,Nat.lt_succ_self _,hs⟩) (Tr.Ha h)
 exact key W β₀ R Q hs2 hq β a w hr
abbrev eB{X Z:Type}(pre:X→Prop)(sp:X→Z)(E:Z→Exit×St)(x:X):aK:=.need (pre x) (.leaf (E (sp x)).1 (E (sp x)).2)
abbrev sZ{X Z Z':Type}(pre:X→Prop)(c:X→Bool)(sp:X→Z)(V0:X→Z')(E:Z→Exit×St)(E':Z'→Exit×St)(x:X):aK:=.need (pre x) (.ite (c x) (.leaf (E (sp x)).1 (E (sp x)).2) (.leaf (E' (V0 x)).1 (E' (V0 x)).2))
theorem eV{X Z:Type}{E:Z→Exit×St}{pre:X→Prop}{sp:X→Z}:∀ (x:X) (R:Exit→St→Prop),(eB pre sp E x).sat R→pre x∧R (E (sp x)).1 (E (sp x)).2:=fun _ _ h=>h
theorem xy{X Z Z':Type}{E:Z→Exit×St}{E':Z'→Exit×St}{pre:X→Prop}{c:X→Bool}{sp:X→Z}{V0:X→Z'}:∀ (x:X) (R:Exit→St→Prop),(sZ pre c sp V0 E E' x).sat R→
  pre x∧R (Sum.elim E E' (bif c x then .inl (sp x)else .inr (V0 x))).1 (Sum.elim E E' (bif c x then .inl (sp x)else .inr (V0 x))).2:=fun x R h=>⟨h.1,by
 cases hc:c x with
 |true=>exact h.2.1 hc
 |false=>exact h.2.2 hc⟩
def xz(n:List Wk)(id:Nat)(x r:List Wk):Exit→List Wk
 | .normal=>n
 | .exit i=>if i=id then x else n
 | .ret=>r
 |_=> []
def iE(n:Nat)(r:List LV):List LV:=List.replicate n .bd++r
def bp{X:Type}(c:aM Item X):aM (Option Item) X where
 rd x:=match x with
  |some x=>c.rd x
  |none=>none
 wr x:=some (c.wr x)
 ok:=by
  intro x v h
  split at h
  ·rw[c.ok h]
  ·cases h
def mN{X:Type}(e:TypeId)(r:aM (List SV) X):aM Item X where
 rd x:=match x with
  | .aW cells e'=>if e'=e then r.rd cells else none
  |_=>none
 wr x:=.aW (r.wr x) e
 ok:=by
  intro x v h
  split at h
  ·split at h
   ·rename_i e;subst e;rw[r.ok h]
   ·cases h
  ·cases h
def Out.aop(p:Nat×Item):Out→Out
 | .leaf q v d=>.leaf q v (p::d)
 | .ite b x y=>.ite b (x.aop p) (y.aop p)
 | .fail=>.fail
theorem Out.s7{p:Nat×Item}{Q:LV→List (Nat×Item)→Prop}:∀ {o:Out},(o.aop p).holds Q→o.holds fun v d=>Q v (p::d)
 | .leaf _ _ _,h=>h
 | .ite _ _ _,h=>⟨fun e=>Out.s7 (h.1 e),fun e=>Out.s7 (h.2 e)⟩
 | .fail,h=>h
def an.ae5(i off n:Nat)(k:IntKind)(e:an):an:=⟨e.tys,fun args hp=>match bo hp i with
 |some (.aW cells t)=>(e.run args (hp.set i (some (.aW (EA off n k cells) t)))).aop (i,.aW (EA off n k cells) t)
 |_=>.fail⟩
theorem an.Ok.ae5{P:Program}{f:FuncId}{e:an}(he:e.Ok P f)(i off n:Nat)(k:IntKind):(e.ae5 i off n k).Ok P f:=by
 refine⟨fun args hp Q h β w vals hh eh=>?_⟩;simp only[an.ae5]at h
 split at h
 ·rename_i cells t hi;have hi:=aB hi;obtain⟨h1,h2⟩:=hh.Bo hi fun c=>lI (off:=off) (n:=n) (k:=k);refine(he.calls _ _ _ (Out.s7 h) β w vals h1.self (by rw[h2];exact eh)).mono ?_
  rintro en w' ⟨val,β',r,dB,rfl,⟨d,hq,rfl⟩,hd,h'⟩
  exact⟨val,β',r,_,rfl,⟨_,hq,by rw[aJ,tY hi]⟩,hd,h1.trans h'⟩
 ·exact h.elim
end Go.Ev
end
noncomputable section
namespace Go.Proofs.YtnbkagglkajbkaaGreat
open Go Go.Ev Go.Proofs.Tryz
open Go.IntKind (i64 signed u16 u64 wrap)
set_option maxRecDepth 1000000
abbrev jCo:aM Ev.Item Int:=(mN 249 (ai (ke 1 0) (ae (aA .u64) ag))).kE (fun x=>x.1) (fun w=>(w,())) (fun _=>rfl)
abbrev zi:aM Hp (Int×List Int×Unit):=ae (bp jCo) (ae (bS 0 u8) ag)
abbrev aoq:aM (List LV) (Int×Unit):=ai (ah (aC 0 0)) (ae (ah (aA .u64)) ag)
abbrev gM:aM (List LV) Unit:=ai (ah (aC 0 0)) ag
def eH(w:Int)(l:List Int):Int×List Int:=if w<16777216 then(w*256,l++ [0])else(w,l)
def dt:Nat→Int→List Int→List Int
 |0,_,l=>l
 |i+1,n,l=>if 0<n then dt i ((n+l.getD i 0)/256) (l.set i ((n+l.getD i 0)%256))else l
abbrev V1:Type:=Int×(List Int)
abbrev asz(x:V1):LV:=LV.cj []
abbrev asA(x:V1):List (Nat×Ev.Item):= [(0,Item.aW [SV.sl 1 1,SV.int u64 (SI.sym x.1)] 249),(1,Item.own 1
 (Ty.int IntKind.u8) x.2)]
def ae6(w:Int)(l:List Int):Tr (V1):=(.ite (decide (w<16777216)) (.need ((l.length+1)*1≤70368744177664∧l.length+
 1≤70368744177664) (.ret (shl u64 w 8,l++ [0]))) (.ret (w,l)))
theorem ZC(w:Int)(l:List Int):aG Tryz.prog [] [] f259 ((gM).wr (())) ((zi).wr (w,l,())) [.one 1,.fr [.sym],.syms,.auto,.aE]=(ae6 w l).end asz asA ((zi).wr (w,l,())):=by kernel_rfl
theorem ae7(w:Int)(l:List Int):aH Tryz.prog ((zi).wr (w,l,())) [] (aF f259):=(aH.nil _)
abbrev rB(w:Int)(l:List Int):Prop:=0≤w∧w<72057594037927936∧l.length<1099511627776
abbrev ae8(w:Int)(l:List Int):V1:=eH w l
def ae9:an:=cv [] (gM) (zi) (fun x_ y_=>rB y_.1 y_.2.1) (fun x_ y_=>ae8 y_.1 y_.2.1) asz asA
theorem aor(w:Int)(l:List Int)(h_:rB w l):(ae6 w l).Is (ae8 w l):=by
 delta ae8;obtain⟨h1,h2,h3⟩:=h_;simp only[ae6,eH,aP,aq,au];refine⟨fun h=>⟨by omega,?_⟩,fun h=>?_⟩
 ·rw[if_pos h]
  have:shl .u64 w 8=w*256:=by
   have:=gd .u64 w 8 (by decide);rw[show((8:Nat):Int)=8 from rfl]at this;rw[this,wrap_u64]<;>omega
  rw[this]
 ·rw[if_neg h]
theorem V2:ae9.Ok Tryz.prog 259:=
 br mixed ax func259 (by kernel_rfl) call259 (fun x_ y_=>ae7 y_.1 y_.2.1) (fun x_ y_=>ZC y_.1 y_.2.1) (fun x_ y_ h=>aor y_.1 y_.2.1 h)
abbrev Bx:Type:=Int×Int×Int×(List Int)
abbrev Bz:aM St Bx:=(aS (ai (ah (aC (0) (0))) (ae (ah (aA u64)) (jk 2 (ae (ah (aA
 i64)) (jk 34 ag))))) (ae (bp jCo) (ae (bS (0) (Ty.int IntKind.u8)) ag))).kE (fun y=>(y.1.1,y.1.2.1,y.2.1,y.2.2.1)) (fun x
 =>((x.1,(x.2.1,())),(x.2.2.1,(x.2.2.2,())))) (fun _=>rfl)
abbrev Qt:List Wk:= [.fr (cu 39 [(0,.al),(1,.al),(4,.al)]),.syms,.auto,.aE]
abbrev afa:Exit→List Wk:=xz Qt 0 [.fr (cu 39 []),.syms,.auto,.aE] [.fr (cu 39 []),.syms,.auto,.aE]
abbrev Qu:Type:=Int×(List Int)
abbrev afb(x:Qu):Exit×St:=(Exit.exit 0,⟨(iE 39 []),[some (jCo.wr x.1),some (Item.own 0 (Ty.int IntKind.u8) x.2)]⟩)
def BA(m:Int)(i:Int)(w':Int)(l':List Int):Tr (Bx⊕(Qu)):=(.ite (decide (0≤i)==true) (.ite (decide (0<
 m)) (.need (0≤i∧i<(↑l'.length:Int)) (.need (0≤i∧i<(↑l'.length:Int)) (.ret (.inl (shr u64 (u64.wrap (m+
 u64.wrap (l'.getD i.toNat 0))) 8,i64.wrap (i-1),w',l'.set i.toNat (IntKind.u8.wrap (u64.wrap (m+u64.wrap
 (l'.getD i.toNat 0))))))))) (.ret (.inr (w',l')))) (.ret (.inr (w',l'))))
theorem Qv(n:Int)(w:Int)(l:List Int)(m:Int)(i:Int)(w':Int)(l':List Int):cO Tryz.prog [] [] f258 0 ((zi).wr (w,l,())) afa (Bz.wr (m,i,w',l'))=(BA m i w' l').res Bz.wr afb:=by kernel_rfl
abbrev BB(m:Int)(i:Int)(w':Int)(l':List Int):Prop:= -1≤i∧i<l'.length∧l'.length<1099511627776∧0≤m∧m<72057594037927936∧ay l'
abbrev Qw(m:Int)(i:Int)(w':Int)(l':List Int):Qu:=(w',dt (i+1).toNat m l')
abbrev Qx:Bx→aK:=eB (fun x_=>BB x_.1 x_.2.1 x_.2.2.1 x_.2.2.2) (fun x_=>Qw x_.1 x_.2.1 x_.2.2.1 x_.2.2.2) afb
theorem afc(m:Int)(i:Int)(w':Int)(l':List Int)(h_:BB m i w' l'):cX (fun x_:Bx=>BA x_.1 x_.2.1 x_.2.2.1 x_.2.2.2) (m,i,w',l') (Qw m i w' l'):=by
 delta Qw;obtain⟨h1,h2,h6,h3,h4,h5⟩:=h_;obtain⟨k,hk⟩:∃k:Nat,i=(k:Int)-1:=⟨(i+1).toNat,by omega⟩;subst hk;clear h1
 induction k generalizing m l' with
 |zero=>
  refine .stop ?_;simp only[BA,iS,aP,aq,au];exact⟨fun h=>by omega,fun h=>rfl⟩
 |succ k ih=>
  by_cases hm:0<m
  ·have hb:By (l'.getD k 0):=h5.getD k;have hk:((k:Nat)+1:Int)-1=k:=(by omega);have lA:=ih ((m+l'.getD k 0)/256) (l'.set k ((m+l'.getD k 0)%256)) (by rw[List.length_set];omega) (by have:=hb.1;omega) (by have:=hb.2;omega) (h5.set k ⟨by omega,by omega⟩) (by rw[List.length_set];omega)
   have e:dt (((k+1:Nat):Int)-1+1).toNat m l'=dt ((k:Int)-1+1).toNat ((m+l'.getD k 0)/256) (l'.set k ((m+l'.getD k 0)%256)):=by
    rw[show(((k+1:Nat):Int)-1+1).toNat=k+1 from by omega,show((k:Int)-1+1).toNat=k from by omega,dt,if_pos hm]
   rw[e];refine .go ?_ lA;simp only[BA,iS,aP,aq,au];have VT:(k:Int)<l'.length:=(by omega);have ek:(((k+1:Nat):Int)-1)=(k:Int):=(by omega);rw[ek];have e1:u64.wrap (l'.getD k 0)=l'.getD k 0:=wrap_u64 hb.1 (by have:=hb.2;omega);have e2:u64.wrap (m+l'.getD k 0)=m+l'.getD k 0:=wrap_u64 (by have:=hb.1;omega) (by have:=hb.2;omega);refine⟨fun _=>⟨fun _=>⟨⟨by omega,VT⟩,⟨by omega,VT⟩,?_⟩,fun h=>absurd hm h⟩,fun h=>by omega⟩;have hb1:=hb.1;have uc:=hb.2;have e3:shr .u64 (m+l'.getD k 0) 8=(m+l'.getD k 0)/256:=c9 .u64 _ 8 (by decide);rw[Int.toNat_natCast,e1,e2,e3,wrap_u8,ao (n:=(k:Int)-1) (by omega) (by omega)]
  ·have e:dt (((k+1:Nat):Int)-1+1).toNat m l'=l':=by
    rw[show(((k+1:Nat):Int)-1+1).toNat=k+1 from by omega,dt,if_neg hm]
   rw[e];refine .stop ?_;simp only[BA,iS,aP,aq,au];exact⟨fun _=>⟨fun h=>absurd h hm,fun _=>trivial⟩,fun h=>by omega⟩
theorem ZD(n:Int)(w:Int)(l:List Int):∀x:Bx,Ex Tryz.prog ((zi).wr (w,l,())) (.loop (aO f258 0)) (Bz.wr x) (Qx x):=
 cy mixed ax (ws:=afa) (aH.nil _) (fun x_=>Qv n w l x_.1 x_.2.1 x_.2.2.1 x_.2.2.2) (fun z e=>by cases e) eV (fun x_ h=>afc x_.1 x_.2.1 x_.2.2.1 x_.2.2.2 h)
abbrev V3:Type:=List Int
abbrev asB(x:V3):LV:=LV.cj []
abbrev asC(x:V3):List (Nat×Ev.Item):= [(1,Item.own 0 (Ty.int IntKind.u8) x)]
def afd(n:Int)(w:Int)(l:List Int):Tr (V3):=(.need (BB n (i64.wrap ((↑l.length:Int)-1)) w l) (.ret
 (dt (Int.toNat (i64.wrap ((↑l.length:Int)-1)+1)) n l)))
theorem ZE(n:Int)(w:Int)(l:List Int):aG Tryz.prog [] [(0,bZ Bz ((zi).wr (w,l,())) Qt (Qx))] f258 ((aoq).wr (n,())) ((zi).wr (w,l,())) [.fr [.sym],.syms,.auto,.aE]=(afd n w l).end asB asC ((zi).wr (w,l,())):=by kernel_rfl
theorem afe(n:Int)(w:Int)(l:List Int):aH Tryz.prog ((zi).wr (w,l,())) [(0,bZ Bz ((zi).wr (w,l,())) Qt (Qx))] (aF f258):=(aH.bK (js (by kernel_rfl) (bP (hp:=(zi).wr (w,l,())) (ZD n w l)) jt))
abbrev zz(n:Int)(w:Int)(l:List Int):Prop:=l.length<1099511627776∧0≤n∧n<72057594037927936∧ay l
abbrev aff(n:Int)(w:Int)(l:List Int):V3:=dt l.length n l
def afg:an:=cv [] (aoq) (zi) (fun x_ y_=>zz x_.1 y_.1 y_.2.1) (fun x_ y_=>aff x_.1 y_.1 y_.2.1) asB asC
theorem aos(n:Int)(w:Int)(l:List Int)(h_:zz n w l):(afd n w l).Is (aff n w l):=by
 delta aff;obtain⟨h1,h2,h3,h4⟩:=h_;have e:i64.wrap ((l.length:Int)-1)=l.length-1:=ao (by omega) (by omega);simp only[afd,aq,au,e];refine⟨⟨by omega,by omega,h1,h2,h3,h4⟩,?_⟩;rw[show((l.length:Int)-1+1).toNat=l.length from by omega]
theorem V4:afg.Ok Tryz.prog 258:=
 br mixed ax func258 (by kernel_rfl) call258 (fun x_ y_=>afe x_.1 y_.1 y_.2.1) (fun x_ y_=>ZE x_.1 y_.1 y_.2.1) (fun x_ y_ h=>aos x_.1 y_.1 y_.2.1 h)
def w9(w:Int)(l:List Int):Prop:=16777216≤w∧w<4294967296∧ay l∧l.length<1099511627776
theorem gH:∀ (i:Nat) (n:Int) (l:List Int),(dt i n l).length=l.length
 |0,_,_=>rfl
 |i+1,n,l=>by
  unfold dt
  split
  ·rw[gH i,List.length_set]
  ·rfl
theorem BC:∀ (i:Nat) (n:Int) (l:List Int),ay l→ay (dt i n l)
 |0,_,_,h=>h
 |i+1,n,l,h=>by
  unfold dt
  split
  ·exact BC i _ _ (h.set i ⟨by omega,by omega⟩)
  ·exact h
def bQ(p b w:Int)(l:List Int):Int×List Int:=if b=0 then eH (w/2048*aQ p) l else eH (w-w/2048*aQ p) (dt l.length (w/2048*aQ p) l)
theorem iF{w:Int}(p:Int)(h:16777216≤w)(h':w<4294967296):253952≤w/2048*aQ p∧w/2048*aQ p<4294967296∧253952≤w-w/2048*aQ p:=by
 have h1:=gu p;generalize aQ p=q at*;have h2:8192≤w/2048:=by omega
 have h3:w/2048*2048≤w:=by omega
 generalize w/2048=u at*;obtain⟨q1,q2⟩:=h1;have a1:u*31≤u*q:=Int.mul_le_mul_of_nonneg_left q1 (by omega);have a2:u*q≤u*2017:=Int.mul_le_mul_of_nonneg_left q2 (by omega);generalize u*q=z at*;omega
theorem zA{w:Int}{l:List Int}(h1:65536≤w)(h2:w<4294967296)(h3:ay l)(h4:l.length<1099511627775):w9 (eH w l).1 (eH w l).2:=by
 unfold eH w9
 split
 ·refine⟨by simp only;omega,by simp only;omega,h3.append (ay.cons ⟨by omega,by omega⟩ ay.nil),by simp;omega⟩
 ·exact⟨by simp only;omega,h2,h3,by simp only;omega⟩
def fD(b w:Int)(l:List Int):Int×List Int:=if b=0 then eH (w/2) l else eH (w/2) (dt l.length (w/2) l)
theorem nz{p b w:Int}{l:List Int}(h:w9 w l)(hl:l.length<1099511627775):w9 (bQ p b w l).1 (bQ p b w l).2:=by
 obtain⟨h1,h2,h3,h4⟩:=h;have hb:=iF p h1 h2;unfold bQ
 split
 ·exact zA (by omega) (by omega) h3 hl
 ·exact zA (by omega) (by omega) (BC _ _ _ h3) (by rw[gH];exact hl)
theorem xA{b w:Int}{l:List Int}(h:w9 w l)(hl:l.length<1099511627775):w9 (fD b w l).1 (fD b w l).2:=by
 obtain⟨h1,h2,h3,h4⟩:=h;unfold fD
 split
 ·exact zA (by omega) (by omega) h3 hl
 ·exact zA (by omega) (by omega) (BC _ _ _ h3) (by rw[gH];exact hl)
theorem uJ(w:Int)(l:List Int):(eH w l).2.length≤l.length+1:=by unfold eH;split<;>simp
theorem nA(p b w:Int)(l:List Int):(bQ p b w l).2.length≤l.length+1:=by
 unfold bQ
 split
 ·exact uJ _ _
 ·refine Nat.le_trans (uJ _ _) (by rw[gH];exact Nat.le_refl _)
theorem xB(b w:Int)(l:List Int):(fD b w l).2.length≤l.length+1:=by
 unfold fD
 split
 ·exact uJ _ _
 ·refine Nat.le_trans (uJ _ _) (by rw[gH];exact Nat.le_refl _)
abbrev V5:Type:=Int×Int×(List Int)
abbrev asD(x:V5):LV:=LV.one (VV.sc (SV.int i64 (SI.sym x.1)))
abbrev asE(x:V5):List (Nat×Ev.Item):= [(0,Item.aW [SV.sl 1 1,SV.int u64 (SI.sym x.2.1)] 249),(1,Item.own 1
 (Ty.int IntKind.u8) x.2.2)]
def afh(p:Int)(b:Int)(w:Int)(l:List Int):Tr (V5):=(.ite (b==0) (.need (rB (u64.wrap (shr u64
 w 11*u64.wrap (aQ p))) l) (.ret (cP p b,(eH (u64.wrap (shr u64 w 11*u64.wrap (aQ p))) l).fst,(eH
 (u64.wrap (shr u64 w 11*u64.wrap (aQ p))) l).snd))) (.need (zz (u64.wrap (shr u64 w 11*
 u64.wrap (aQ p))) w l) (.need (rB (u64.wrap (w-u64.wrap (shr u64 w 11*u64.wrap (aQ p)))) (dt
 l.length (u64.wrap (shr u64 w 11*u64.wrap (aQ p))) l)) (.ret (cP p b,(eH (u64.wrap (w-u64.wrap
 (shr u64 w 11*u64.wrap (aQ p)))) (dt l.length (u64.wrap (shr u64 w 11*u64.wrap (aQ p))) l)).fst,
 (eH (u64.wrap (w-u64.wrap (shr u64 w 11*u64.wrap (aQ p)))) (dt l.length (u64.wrap (shr u64
 w 11*u64.wrap (aQ p))) l)).snd)))))
theorem ZF(p b:Int)(w:Int)(l:List Int):aG Tryz.prog [(259,ae9),(258,afg),(257,G5),(260,uE)] [] f182 ((sG).wr (p,b,())) ((zi).wr (w,l,())) [.one 1,.fr [.sym],.syms,.auto,.aE]=(afh p b w l).end asD asE ((zi).wr (w,l,())):=by kernel_rfl
theorem afi(p b:Int)(w:Int)(l:List Int):aH Tryz.prog ((zi).wr (w,l,())) [] (aF f182):=(aH.nil _)
abbrev zB(p b:Int)(w:Int)(l:List Int):Prop:=w9 w l
abbrev afj(p b:Int)(w:Int)(l:List Int):V5:=(cP p b,bQ p b w l)
def Ly:an:=cv [] (sG) (zi) (fun x_ y_=>zB x_.1 x_.2.1 y_.1 y_.2.1) (fun x_ y_=>afj x_.1 x_.2.1 y_.1 y_.2.1) asD asE
theorem aot(p b:Int)(w:Int)(l:List Int)(h_:zB p b w l):(afh p b w l).Is (afj p b w l):=by
 delta afj;obtain⟨h1,h2,h3,h4⟩:=h_;have hb:=iF p h1 h2;have hh:=gu p;have e0:u64.wrap (aQ p)=aQ p:=wrap_u64 (by omega) (by omega);have e1:shr .u64 w 11=w/2048:=c9 .u64 w 11 (by decide);have e2:u64.wrap (w/2048*aQ p)=w/2048*aQ p:=wrap_u64 (by omega) (by omega);have e3:u64.wrap (w-w/2048*aQ p)=w-w/2048*aQ p:=wrap_u64 (by omega) (by omega);simp only[afh,bQ,eA,aq,au,e0,e1,e2,e3];refine⟨fun h=>⟨⟨by omega,by omega,h4⟩,by rw[if_pos h]⟩,fun h=>⟨⟨h4,by omega,by omega,h3⟩,⟨by omega,by omega,by rw[gH];exact h4⟩,by rw[if_neg h]⟩⟩
theorem zC:Ly.Ok Tryz.prog 182:=
 br mixed ((aj V2 (aj V4 (aj uD (aj rz ax))))) func182 (by kernel_rfl) call182 (fun x_ y_=>afi x_.1 x_.2.1 y_.1 y_.2.1) (fun x_ y_=>ZF x_.1 x_.2.1 y_.1 y_.2.1) (fun x_ y_ h=>aot x_.1 x_.2.1 y_.1 y_.2.1 h)
abbrev Hb:Type:=Int×(List Int)
abbrev afk(x:Hb):LV:=LV.cj []
abbrev afl(x:Hb):List (Nat×Ev.Item):= [(0,Item.aW [SV.sl 1 1,SV.int u64 (SI.sym x.1)] 249),(1,Item.own 1
 (Ty.int IntKind.u8) x.2)]
def Qy(b:Int)(w:Int)(l:List Int):Tr (Hb):=(.ite (b !=0) (.need (zz (u64.wrap (w.tdiv 2))
 (u64.wrap (w.tdiv 2)) l) (.need (rB (u64.wrap (w.tdiv 2)) (dt l.length (u64.wrap (w.tdiv 2)) l)) (.ret ((eH
 (u64.wrap (w.tdiv 2)) (dt l.length (u64.wrap (w.tdiv 2)) l)).fst,(eH (u64.wrap (w.tdiv 2)) (dt l.length
 (u64.wrap (w.tdiv 2)) l)).snd)))) (.need (rB (u64.wrap (w.tdiv 2)) l) (.ret ((eH (u64.wrap (w.tdiv 2)) l).fst,(eH
 (u64.wrap (w.tdiv 2)) l).snd))))
theorem Qz(b:Int)(w:Int)(l:List Int):aG Tryz.prog [(259,ae9),(258,afg),(257,G5),(260,uE)] [] f184 ((lY).wr (b,())) ((zi).wr (w,l,())) [.one 1,.fr [.sym],.syms,.auto,.aE]=(Qy b w l).end afk afl ((zi).wr (w,l,())):=by kernel_rfl
theorem ZG(b:Int)(w:Int)(l:List Int):aH Tryz.prog ((zi).wr (w,l,())) [] (aF f184):=(aH.nil _)
abbrev BD(b:Int)(w:Int)(l:List Int):Prop:=w9 w l
abbrev QA(b:Int)(w:Int)(l:List Int):Hb:=fD b w l
def QB:an:=cv [] (lY) (zi) (fun x_ y_=>BD x_.1 y_.1 y_.2.1) (fun x_ y_=>QA x_.1 y_.1 y_.2.1) afk afl
theorem afm(b:Int)(w:Int)(l:List Int)(h_:BD b w l):(Qy b w l).Is (QA b w l):=by
 delta QA;obtain⟨h1,h2,h3,h4⟩:=h_;have e1:w.tdiv 2=w/2:=Int.tdiv_eq_ediv_of_nonneg (by omega);have e2:u64.wrap (w/2)=w/2:=wrap_u64 (by omega) (by omega);simp only[Qy,fD,ir,aq,au,e1,e2];refine⟨fun h=>⟨⟨by omega,by omega,h4⟩,by rw[if_pos h]⟩,fun h=>⟨⟨h4,by omega,by omega,h3⟩,⟨by omega,by omega,by rw[gH];exact h4⟩,by rw[if_neg h]⟩⟩
theorem Lz:QB.Ok Tryz.prog 184:=
 br mixed ((aj V2 (aj V4 (aj uD (aj rz ax))))) func184 (by kernel_rfl) call184 (fun x_ y_=>ZG x_.1 y_.1 y_.2.1) (fun x_ y_=>Qz x_.1 y_.1 y_.2.1) (fun x_ y_ h=>afm x_.1 y_.1 y_.2.1 h)
abbrev V6:Type:=Int×(List Int)
abbrev asF(x:V6):LV:=LV.one (VV.sc (SV.ptr 0 0))
abbrev asG(x:V6):List (Nat×Ev.Item):= [(0,Item.aW [SV.sl 1 0,SV.int u64 (SI.sym x.1)] 249),(1,Item.own 0
 (Ty.int IntKind.u8) x.2)]
def asH:Tr (V6):=(.need ((4:Int)=4∧(0:Int)≤4∧(4:Int)≤70368744177664∧(4:Int)≤70368744177664) (.ret
 (4294967295,List.replicate 4 (0:Int))))
theorem ZH:aG Tryz.prog [] [] f125 ((ag).wr (())) ((ag).wr (())) [.fr [.sym],.syms,.auto,.aE]=(asH).end asF asG ((ag).wr (())):=by kernel_rfl
theorem afn:aH Tryz.prog ((ag).wr (())) [] (aF f125):=(aH.nil _)
abbrev Hc:Prop:=True
abbrev afo:V6:=(4294967295,[0,0,0,0])
def afp:an:=cv [] (ag) (ag) (fun _ _=>Hc) (fun _ _=>afo) asF asG
theorem aou(h_:Hc):(asH).Is (afo):=by
 delta afo;exact⟨⟨rfl,by decide,by decide,by decide⟩,rfl⟩
theorem V7:afp.Ok Tryz.prog 125:=
 br mixed ax func125 (by kernel_rfl) call125 (fun x_ y_=>afn) (fun x_ y_=>ZH) (fun x_ y_ h=>aou h)
abbrev jTr:aM Ev.Item Unit:=mN 332 (ai (ke 3 0) ag)
abbrev uK:aM Hp (Int×List Int×List Int×Unit):=ae (bp jCo) (ae (bS 0 u8) (ai (bp jTr) (ae (bS 0 (.int .u16)) ag)))
abbrev avO:aM Ev.Item Unit:=mN 332 (ai (ke 1 0) ag)
abbrev Hd:aM Hp (List Int×Unit):=ai (bp avO) (ae (bS 0 (.int .u16)) ag)
def lg(p:List Int):Nat:=p.length.log2
def PE(p:List Int):Prop:=lg p≤8∧p.length=2 ^ lg p∧gZ p∧∀i:Nat,1≤i→i<2 ^ lg p→1≤p.getD i 0
theorem mg(n:Nat)(h:n≤8):shl .i64 1 n=((2 ^ n:Nat):Int):=by
 rw[gd .i64 1 n (by simp[IntKind.bits];omega),Int.one_mul];have h1:(2:Nat) ^ n≤256:=Nat.le_trans (Nat.pow_le_pow_right (by omega) h) (by decide);generalize (2:Nat) ^ n=m at*;exact ao (by omega) (by omega)
theorem He{p:List Int}(h:PE p){n:Nat}(hn:n≤lg p):ef p ((2 ^ n:Nat):Int)=0↔n=lg p:=by
 obtain⟨h1,h2,h3,h4⟩:=h;have hp:0<(2:Nat) ^ n:=Nat.two_pow_pos n;unfold ef oA
 by_cases e:n=lg p
 ·subst e;rw[h2];generalize (2:Nat) ^ lg p=m at*;rw[if_neg (by simp)];exact⟨fun _=>rfl,fun _=>rfl⟩
 ·have dL:(2:Nat) ^ n<2 ^ lg p:=Nat.pow_lt_pow_right (by omega) (by omega);have h5:=h4 (2 ^ n) hp dL;rw[h2];generalize (2:Nat) ^ lg p=M at*;generalize (2:Nat) ^ n=m at*;rw[if_pos (decide_eq_true ⟨by omega,by omega⟩),Int.toNat_natCast];exact⟨fun h=>by omega,fun h=>absurd h e⟩
abbrev uL:Type:=Int×(List Int)
abbrev uM:aM St uL:=(aS (ai (ah (aC (0) (0))) (jk 2 (ae (ah (aA i64)) (jk 8 ag)))) (ai (bp
 avO) (ae (bS (0) (Ty.int u16)) ag))).kE (fun y=>(y.1.1,y.2.1)) (fun x=>((x.1,()),(x.2,()))) (fun _=>rfl)
abbrev Hf:List Wk:= [.fr (cu 12 [(0,.al),(3,.al)]),.syms,.auto,.aE]
abbrev V8:Exit→List Wk:=xz Hf 0 [.fr (cu 12 [(3,.al)]),.syms,.auto,.aE] [.fr (cu 12 [(2,.al)]),.syms,.auto,.aE]
abbrev Hg:Type:=Int×(List Int)
abbrev V9(x:Hg):Exit×St:=(Exit.exit 0,⟨(iE 3 (LV.one (VV.sc (SV.int i64 (SI.sym x.1)))::(iE 8 []))),
 [some (avO.wr ()),some (Item.own 0 (Ty.int u16) x.2)]⟩)
def zD(n:Int)(p':List Int):Tr (uL⊕(Hg)):=(.need (0≤n) (.need (gZ p') (.ite (ef p' (shl i64 1 n)
 !=0) (.ret (.inl (i64.wrap (n+1),p'))) (.ret (.inr (n,p'))))))
theorem LA(p:List Int)(n:Int)(p':List Int):cO Tryz.prog [(262,ZB)] [] f261 0 ((Hd).wr (p,())) V8 (uM.wr (n,p'))=(zD n p').res uM.wr V9:=by kernel_rfl
abbrev xC(n:Int)(p':List Int):Prop:=n=0∧PE p'
abbrev Hh(n:Int)(p':List Int):Hg:=((lg p':Int),p')
abbrev Hi:uL→aK:=eB (fun x_=>xC x_.1 x_.2) (fun x_=>Hh x_.1 x_.2) V9
theorem ZI(n:Int)(p':List Int)(h_:xC n p'):cX (fun x_:uL=>zD x_.1 x_.2) (n,p') (Hh n p'):=by
 delta Hh;obtain⟨rfl,h⟩:=h_;have h':=h;obtain⟨h1,h2,h3,h4⟩:=h';refine cX.iter (fun k=>((k:Int),p')) (lg p') (fun k hk=>?_) ?_
 ·simp only[zD,ir,aq,au,mg k (by omega),He h (Nat.le_of_lt hk)];refine⟨by omega,h3,fun e=>by omega,fun _=>?_⟩;rw[ao (by omega) (by omega)];rfl
 ·simp only[zD,ir,aq,au,mg (lg p') h1,He h (Nat.le_refl _)];exact⟨by omega,h3,fun _=>trivial,fun e=>absurd ((He h (Nat.le_refl _)).2 rfl) e⟩
theorem QC(p:List Int):∀x:uL,Ex Tryz.prog ((Hd).wr (p,())) (.loop (aO f261 0)) (uM.wr x) (Hi x):=
 cy mixed ((aj Bu ax)) (ws:=V8) (aH.nil _) (fun x_=>LA p x_.1 x_.2) (fun z e=>by cases e) eV (fun x_ h=>ZI x_.1 x_.2 h)
abbrev Hj:Type:=Int
abbrev afq(x:Hj):LV:=LV.one (VV.sc (SV.int i64 (SI.sym x)))
abbrev afr(x:Hj):List (Nat×Ev.Item):= []
def afs(p:List Int):Tr (Hj):=(.need (xC 0 p) (.ret ((↑(lg p):Int))))
theorem QD(p:List Int):aG Tryz.prog [(262,ZB)] [(0,bZ uM ((Hd).wr (p,())) Hf (Hi))] f261 ((gM).wr (())) ((Hd).wr (p,())) [.fr [.sym],.syms,.auto,.aE]=(afs p).end afq afr ((Hd).wr (p,())):=by kernel_rfl
theorem ZJ(p:List Int):aH Tryz.prog ((Hd).wr (p,())) [(0,bZ uM ((Hd).wr (p,())) Hf (Hi))] (aF f261):=(aH.bK (js (by kernel_rfl) (bP (hp:=(Hd).wr (p,())) (QC p)) jt))
abbrev BE(p:List Int):Prop:=PE p
abbrev QE(p:List Int):Hj:=(lg p:Int)
def QF:an:=cv [] (gM) (Hd) (fun x_ y_=>BE y_.1) (fun x_ y_=>QE y_.1) afq afr
theorem aft(p:List Int)(h_:BE p):(afs p).Is (QE p):=by
 delta QE;exact⟨⟨rfl,h_⟩,rfl⟩
theorem LB:QF.Ok Tryz.prog 261:=
 br mixed ((aj Bu ax)) func261 (by kernel_rfl) call261 (fun x_ y_=>ZJ y_.1) (fun x_ y_=>QD y_.1) (fun x_ y_ h=>aft y_.1 h)
def bc:Nat→Int→Int→Int→List Int→List Int→Int×List Int×List Int
 |0,_,_,w,l,p=>(w,l,p)
 |k+1,v,node,w,l,p=>
  let b:=v/2 ^ k%2
  let c:=bQ (ef p node) b w l
  bc k v (2*node+b) c.1 c.2 (b8 p node b)
abbrev uN:Type:=Int×Int×Int×Int×(List Int)×(List Int)
abbrev uO:aM St uN:=(aS (ai (ah (aC (0) (0))) (ai (ah (aC (2) (0))) (ae (ah (aA i64)) (jk 4
 (ae (ah (aA i64)) (ae (ah (aA i64)) (jk 43 ag))))))) (ae (dH (249) ((ai (ke (1) (1)) (ae (aA u64)
 ag)))) (ae (bS (1) (Ty.int IntKind.u8)) (ai (bp jTr) (ae (bS (0) (Ty.int u16)) ag))))).kE (fun y=>(y.1.1,y.1.2.1,
 y.1.2.2.1,y.2.1.1,y.2.2.1,y.2.2.2.1)) (fun x=>((x.1,(x.2.1,(x.2.2.1,()))),((x.2.2.2.1,()),(x.2.2.2.2.1,(x.2.2.2.2.2,()))))) (fun _=>rfl)
abbrev Hk:List Wk:= [.one 1,.fr (cu 52 [(0,.al),(1,.al),(2,.al),(7,.al),(8,.al)]),.syms,.auto,.aE]
abbrev Wa:Exit→List Wk:=xz Hk 0 [.one 1,.fr (cu 52 []),.syms,.auto,.aE] [.one 1,.fr (cu 52 []),.syms,.auto,.aE]
abbrev Hl:Type:=Int×(List Int)×(List Int)
abbrev Wb(x:Hl):Exit×St:=(Exit.exit 0,⟨(iE 52 []),[some (Item.aW [SV.sl 1 1,SV.int u64 (SI.sym x.1)]
 249),some (Item.own 1 (Ty.int IntKind.u8) x.2.1),some (jTr.wr ()),some (Item.own 0 (Ty.int u16) x.2.2)]⟩)
def zE(v':Int)(node:Int)(i:Int)(w':Int)(l':List Int)(p':List Int):Tr (uN⊕(Hl)):=(.ite (decide (0≤
 i)) (.need (0≤i) (.need (gZ p') (.need (zB (ef p' node) (aI i64 (shr i64 v' i) 1) w' l') (.need (gZ p') (.ret (.inl
 (v',i64.wrap (i64.wrap (2*node)+aI i64 (shr i64 v' i) 1),i64.wrap (i-1),(bQ (ef p' node)
 (aI i64 (shr i64 v' i) 1) w' l').fst,(bQ (ef p' node) (aI i64 (shr i64 v' i) 1) w' l').snd,b8 p' node
 (aI i64 (shr i64 v' i) 1)))))))) (.ret (.inr (w',l',p'))))
theorem LC(v:Int)(w:Int)(l:List Int)(p:List Int)(v':Int)(node:Int)(i:Int)(w':Int)(l':List Int)(p':List Int):cO Tryz.prog [(261,QF),(262,ZB),(263,G8),(182,Ly)] [] f183 0 ((uK).wr (w,l,p,())) Wa (uO.wr (v',node,i,w',l',p'))=(zE v' node i w' l' p').res uO.wr Wb:=by kernel_rfl
theorem nC(p:List Int)(n b:Int):(b8 p n b).length=p.length:=by unfold b8;split<;>simp
theorem mh(p:List Int)(n b:Int):lg (b8 p n b)=lg p:=by unfold lg;rw[nC]
theorem jK(l:List Int)(i j:Nat)(x:Int):(l.set i x).getD j 0=if i=j∧j<l.length then x else l.getD j 0:=by
 simp only[List.getD_eq_getElem?_getD,List.getElem?_set]
 by_cases h:i=j
 ·subst h
  by_cases h2:i<l.length
  ·simp[h2]
  ·simp[h2,List.getElem?_eq_none (Nat.le_of_not_lt h2)]
 ·simp[h]
theorem BF{p:List Int}(h:PE p)(n b:Int):PE (b8 p n b):=by
 obtain⟨h1,h2,h3,h4⟩:=h;have ha:=qf (p.getD n.toNat 0) b;refine⟨by rw[mh];exact h1,by rw[nC,mh];exact h2,fun i=>?_,fun i k1 k2=>?_⟩
 ·unfold b8
  split
  ·rw[jK];split
   ·omega
   ·exact h3 i
  ·exact h3 i
 ·rw[mh]at k2;unfold b8
  split
  ·rw[jK];split
   ·omega
   ·exact h4 i k1 k2
  ·exact h4 i k1 k2
theorem Hm{v:Int}(h0:0≤v)(k:Nat)(hk:k≤63):aI .i64 (shr .i64 v k) 1=v/2 ^ k%2:=by
 rw[c9 .i64 v k (by simp[IntKind.bits];omega),ov (m:=1) (by decide) _ _ (by decide)];simp
theorem fE{k n:Nat}(h:k≤n):(2:Int) ^ k≤2 ^ n:=by
 have:=Nat.pow_le_pow_right (n:=2) (by omega) h
 exact_mod_cast this
abbrev xD(v':Int)(node:Int)(i:Int)(w':Int)(l':List Int)(p':List Int):Prop:=PE p'∧w9 w' l'∧0≤v'∧ -1≤i∧i<lg p'∧1≤node∧node<2 ^ (lg p'-(i+1).toNat+1)∧(l'.length:Int)+i<1099511600000
abbrev Hn(v':Int)(node:Int)(i:Int)(w':Int)(l':List Int)(p':List Int):Hl:=bc (i+1).toNat v' node w' l' p'
abbrev Ho:uN→aK:=eB (fun x_=>xD x_.1 x_.2.1 x_.2.2.1 x_.2.2.2.1 x_.2.2.2.2.1 x_.2.2.2.2.2) (fun x_=>Hn x_.1 x_.2.1 x_.2.2.1 x_.2.2.2.1 x_.2.2.2.2.1 x_.2.2.2.2.2) Wb
theorem ZK(v':Int)(node:Int)(i:Int)(w':Int)(l':List Int)(p':List Int)(h_:xD v' node i w' l' p'):cX (fun x_:uN=>zE x_.1 x_.2.1 x_.2.2.1 x_.2.2.2.1 x_.2.2.2.2.1 x_.2.2.2.2.2) (v',node,i,w',l',p') (Hn v' node i w' l' p'):=by
 delta Hn;obtain⟨h1,h2,h3,h4,h5,h6,h7,h8⟩:=h_;obtain⟨k,hk⟩:∃k:Nat,i=(k:Int)-1:=⟨(i+1).toNat,by omega⟩;subst hk;clear h4
 induction k generalizing node w' l' p' with
 |zero=>
  refine .stop ?_;simp only[zE,iS,aP,aq,au];exact⟨fun h=>by omega,fun h=>rfl⟩
 |succ k ih=>
  have e0:(((k+1:Nat):Int)-1+1).toNat=k+1:=by omega
  have e1:((k:Int)-1+1).toNat=k:=by omega
  have e2:(((k+1:Nat):Int)-1)=(k:Int):=by omega
  rw[e0]at h7 ⊢;rw[e1]at ih;rw[e2]at h5 h8 ⊢;have hlg:=h1.1;have hb:aI .i64 (shr .i64 v' k) 1=v'/2 ^ k%2:=Hm h3 k (by omega);have hp:(2:Int) ^ (lg p'-(k+1)+1)≤2 ^ 8:=fE (by omega);have hp8:(2:Int) ^ 8=256:=by decide
  have Wc:(2:Int) ^ (lg p'-k+1)=2*2 ^ (lg p'-(k+1)+1):=by
   rw[show lg p'-k+1=(lg p'-(k+1)+1)+1 from by omega,Int.pow_succ,Int.mul_comm]
  generalize hbe:v'/2 ^ k%2=b at*;have uc:0≤b∧b≤1:=by omega
  have hcl:=nA (ef p' node) b w' l';have lA:=ih (2*node+b) (bQ (ef p' node) b w' l').1 (bQ (ef p' node) b w' l').2 (b8 p' node b) (BF h1 _ _) (nz h2 (by omega)) (by omega) (by rw[mh];omega) (by rw[mh,Wc];omega) (by omega)
  have e3:bc (k+1) v' node w' l' p'=bc k v' (2*node+b) (bQ (ef p' node) b w' l').1 (bQ (ef p' node) b w' l').2 (b8 p' node b):=by
   rw[bc,hbe]
  rw[e3];refine .go ?_ lA;simp only[zE,iS,aP,aq,au,hb];refine⟨fun _=>⟨by omega,h1.2.2.1,h2,h1.2.2.1,?_⟩,fun h=>by omega⟩;rw[ao (n:=2*node) (by omega) (by omega),ao (n:=2*node+b) (by omega) (by omega),ao (n:=(k:Int)-1) (by omega) (by omega)]
theorem QG(v:Int)(w:Int)(l:List Int)(p:List Int):∀x:uN,Ex Tryz.prog ((uK).wr (w,l,p,())) (.loop (aO f183 0)) (uO.wr x) (Ho x):=
 cy mixed ((aj LB (aj Bu (aj Bv (aj zC ax))))) (ws:=Wa) (aH.nil _) (fun x_=>LC v w l p x_.1 x_.2.1 x_.2.2.1 x_.2.2.2.1 x_.2.2.2.2.1 x_.2.2.2.2.2) (fun z e=>by cases e) eV (fun x_ h=>ZK x_.1 x_.2.1 x_.2.2.1 x_.2.2.2.1 x_.2.2.2.2.1 x_.2.2.2.2.2 h)
abbrev Hq:Type:=Int×(List Int)×(List Int)
abbrev afu(x:Hq):LV:=LV.cj []
abbrev afv(x:Hq):List (Nat×Ev.Item):= [(0,Item.aW [SV.sl 1 1,SV.int u64 (SI.sym x.1)] 249),(1,Item.own 1
 (Ty.int IntKind.u8) x.2.1),(2,Item.aW [SV.sl 3 1] 332),(3,Item.own 1 (Ty.int u16) x.2.2)]
def QH(v:Int)(w:Int)(l:List Int)(p:List Int):Tr (Hq):=(.need (BE p) (.ite (decide (v<0)==false) (.need
 (0≤(↑(lg p):Int)) (.ite (decide (shl i64 1 (↑(lg p):Int)≤v)) (.ret (w,l,p)) (.need (xD v 1 (i64.wrap ((↑(lg p):Int)
 -1)) w l p) (.ret ((bc (Int.toNat (i64.wrap ((↑(lg p):Int)-1)+1)) v 1 w l p).fst,(bc (Int.toNat (i64.wrap ((↑(lg p):
 Int)-1)+1)) v 1 w l p).snd.fst,(bc (Int.toNat (i64.wrap ((↑(lg p):Int)-1)+1)) v 1 w l p).snd.snd))))) (.ret (w,l,p))))
theorem QI(v:Int)(w:Int)(l:List Int)(p:List Int):aG Tryz.prog [(261,QF),(262,ZB),(263,G8),(182,Ly)] [(0,bZ uO ((uK).wr (w,l,p,())) Hk (Ho))] f183 (((ai (ah (aC 0 0)) (ai (ah (aC 2 0)) (ae (ah (aA .i64)) ag)))).wr (v,())) ((uK).wr (w,l,p,())) [.one 1,.one 3,.fr [.sym],.syms,.auto,.aE]=(QH v w l p).end afu afv ((uK).wr (w,l,p,())):=by kernel_rfl
theorem ZL(v:Int)(w:Int)(l:List Int)(p:List Int):aH Tryz.prog ((uK).wr (w,l,p,())) [(0,bZ uO ((uK).wr (w,l,p,())) Hk (Ho))] (aF f183):=(aH.bK (js (by kernel_rfl) (bP (hp:=(uK).wr (w,l,p,())) (QG v w l p)) jt))
abbrev qg(v:Int)(w:Int)(l:List Int)(p:List Int):Prop:=PE p∧w9 w l∧0≤v∧v<2 ^ lg p∧1≤lg p∧l.length<1099511500000
abbrev QJ(v:Int)(w:Int)(l:List Int)(p:List Int):Hq:=bc (lg p) v 1 w l p
def QK:an:=cv [] ((ai (ah (aC 0 0)) (ai (ah (aC 2 0)) (ae (ah (aA .i64)) ag)))) (uK) (fun x_ y_=>qg x_.1 y_.1 y_.2.1 y_.2.2.1) (fun x_ y_=>QJ x_.1 y_.1 y_.2.1 y_.2.2.1) afu afv
theorem afw(v:Int)(w:Int)(l:List Int)(p:List Int)(h_:qg v w l p):(QH v w l p).Is (QJ v w l p):=by
 delta QJ;obtain⟨h1,h2,h3,h4,h5,h6⟩:=h_;have hlg:=h1.1;have e1:i64.wrap ((lg p:Int)-1)=lg p-1:=ao (by omega) (by omega);have e2:((lg p:Int)-1+1).toNat=lg p:=by omega
 have e3:((2 ^ lg p:Nat):Int)=2 ^ lg p:=by exact_mod_cast rfl
 simp only[QH,aq,au,bE,beq_iff_eq,decide_eq_true_eq,decide_eq_false_iff_not,e1,e2,mg (lg p) hlg,e3];refine⟨h1,fun _=>⟨by omega,fun h=>by omega,fun _=>⟨⟨h1,h2,h3,by omega,by omega,by omega,by rw[e2,Nat.sub_self];decide,by omega⟩,trivial⟩⟩,fun h=>?_⟩;simp at h;omega
theorem LD:QK.Ok Tryz.prog 183:=
 br mixed ((aj LB (aj Bu (aj Bv (aj zC ax))))) func183 (by kernel_rfl) call183 (fun x_ y_=>ZL x_.1 y_.1 y_.2.1 y_.2.2.1) (fun x_ y_=>QI x_.1 y_.1 y_.2.1 y_.2.2.1) (fun x_ y_ h=>afw x_.1 y_.1 y_.2.1 y_.2.2.1 h)
abbrev avP:aM (Option Ev.Item) (Int×Unit):=dH 347 (ae (aA .i64) (ai (ke 1 0) ag))
abbrev QL:aM Hp ((Int×Unit)×List Int×Unit):=ae avP (ae (bS 0 (.int .i64)) ag)
def kZ:an:=an.cl [] (sG) (QL) fun x_ y_=>(fun(n b:Int) (c:Int×Unit) (p:List Int)=>.leaf none (.cj []) [(1,.own 0 (.int .i64) (b8 p n b))]) x_.1 x_.2.1 y_.1 y_.2.1
theorem LF(n b:Int)(c:Int×Unit)(p:List Int):aG Tryz.prog [(278,uG)] [] f279 ((sG).wr (n,b,())) ((QL).wr (c,p,())) [.aW 0 [.sym,.al],.auto]=
 End.ite (decide ((1:Int)≤n)==true) (End.ite (decide (n<(↑p.length:Int))) (End.need ((0:Int)≤n∧n<(↑p.length:Int)) (End.need ((0:
 Int)≤n∧n<(↑p.length:Int)) (End.leaf (LV.cj []) [some (Item.aW [SV.int i64 (SI.sym c.fst),SV.sl (1:Nat) (0:Nat)] (347:Nat)),
 some (Item.own (0:Nat) (Ty.int i64) (p.set n.toNat (cP (p.getD n.toNat (0:Int)) b)))]))) (End.leaf (LV.cj []) [some (Item.aW [SV.int
 i64 (SI.sym c.fst),SV.sl (1:Nat) (0:Nat)] (347:Nat)),some (Item.own (0:Nat) (Ty.int i64) p)])) (End.leaf (LV.cj []) [some
 (Item.aW [SV.int i64 (SI.sym c.fst),SV.sl (1:Nat) (0:Nat)] (347:Nat)),some (Item.own (0:Nat) (Ty.int i64) p)]):=by kernel_rfl
theorem iG:kZ.Ok Tryz.prog 279:=by
 refine(an.aN call279 fun x_ y_ Q H_=>?_).sym;obtain⟨n,b,_⟩:=x_;obtain⟨c,p,_⟩:=y_;have hq:=H_.2;refine(ar mixed ((aj rA ax)) func279 rfl (LT:= []) (ks:= [.aW 0 [.sym,.al],.auto]) (aH.nil _)).use (D:= [(1,.own 0 (.int .i64) (b8 p n b))]) ?_ hq;show(aG _ _ _ _ ((sG).wr (n,b,())) ((QL).wr (c,p,())) _).sat _;rw[LF];have sC:¬ (1≤n∧n<(p.length:Int))→b8 p n b=p:=fun h=>if_neg (by unfold oA;simpa using h);refine⟨fun h1=>⟨fun h2=>?_,fun h2=>?_⟩,fun h1=>?_⟩
 ·have h1:1≤n:=by simpa using h1
  have h2:n<(p.length:Int):=of_decide_eq_true h2;have e:b8 p n b=p.set n.toNat (cP (p.getD n.toNat 0) b):=if_pos (by unfold oA;exact decide_eq_true ⟨h1,h2⟩);refine⟨by omega,by omega,rfl,?_⟩;rw[e];rfl
 ·have h2:=of_decide_eq_false h2;refine⟨rfl,?_⟩;rw[sC (fun h=>h2 h.2)];rfl
 ·have h1:¬ 1≤n:=by simpa using h1
  refine⟨rfl,?_⟩;rw[sC (fun h=>h1 h.1)];rfl
abbrev LG:aM Ev.Item Int:=(mN 277 (ai (ke 1 0) (ae (aA .u64) ag))).kE (fun x=>x.1) (fun w=>(w,())) (fun _=>rfl)
abbrev mO:aM Hp (Int×List Int×Unit):=ae (bp LG) (ae (bS 0 u8) ag)
abbrev Wd:Type:=Int×(List Int)
abbrev asI(x:Wd):LV:=LV.cj []
abbrev asJ(x:Wd):List (Nat×Ev.Item):= [(0,Item.aW [SV.sl 1 1,SV.int u64 (SI.sym x.1)] 277),(1,Item.own 1
 (Ty.int IntKind.u8) x.2)]
def afx(w:Int)(l:List Int):Tr (Wd):=(.ite (decide (w<16777216)) (.need ((l.length+1)*1≤70368744177664∧l.length+
 1≤70368744177664) (.ret (u64.wrap (w*256),l++ [0]))) (.ret (w,l)))
theorem ZM(w:Int)(l:List Int):aG Tryz.prog [] [] f277 ((gM).wr (())) ((mO).wr (w,l,())) [.one 1,.fr [.sym],.syms,.auto,.aE]=(afx w l).end asI asJ ((mO).wr (w,l,())):=by kernel_rfl
theorem afy(w:Int)(l:List Int):aH Tryz.prog ((mO).wr (w,l,())) [] (aF f277):=(aH.nil _)
abbrev rC(w:Int)(l:List Int):Prop:=0≤w∧w<72057594037927936∧l.length<1099511627776
abbrev afz(w:Int)(l:List Int):Wd:=eH w l
def afA:an:=cv [] (gM) (mO) (fun x_ y_=>rC y_.1 y_.2.1) (fun x_ y_=>afz y_.1 y_.2.1) asI asJ
theorem aov(w:Int)(l:List Int)(h_:rC w l):(afx w l).Is (afz w l):=by
 delta afz;obtain⟨h1,h2,h3⟩:=h_;simp only[afx,eH,aP,aq,au];refine⟨fun h=>⟨by omega,?_⟩,fun h=>?_⟩
 ·rw[if_pos h,wrap_u64 (by omega) (by omega)]
 ·rw[if_neg h]
theorem We:afA.Ok Tryz.prog 277:=
 br mixed ax func277 (by kernel_rfl) call277 (fun x_ y_=>afy y_.1 y_.2.1) (fun x_ y_=>ZM y_.1 y_.2.1) (fun x_ y_ h=>aov y_.1 y_.2.1 h)
abbrev BG:Type:=Int×Int×Int×(List Int)
abbrev BH:aM St BG:=(aS (ai (ah (aC (0) (0))) (ae (ah (aA u64)) (jk 2 (ae (ah (aA
 i64)) (jk 35 ag))))) (ae (bp LG) (ae (bS (0) (Ty.int IntKind.u8)) ag))).kE (fun y=>(y.1.1,y.1.2.1,y.2.1,y.2.2.1)) (fun x
 =>((x.1,(x.2.1,())),(x.2.2.1,(x.2.2.2,())))) (fun _=>rfl)
abbrev QM:List Wk:= [.fr (cu 40 [(0,.al),(1,.al),(4,.al)]),.syms,.auto,.aE]
abbrev afB:Exit→List Wk:=xz QM 0 [.fr (cu 40 []),.syms,.auto,.aE] [.fr (cu 40 []),.syms,.auto,.aE]
abbrev QN:Type:=Int×(List Int)
abbrev afC(x:QN):Exit×St:=(Exit.exit 0,⟨(iE 40 []),[some (LG.wr x.1),some (Item.own 0 (Ty.int IntKind.u8) x.2)]⟩)
def BI(m:Int)(i:Int)(w':Int)(l':List Int):Tr (BG⊕(QN)):=(.ite (decide (0≤i)==true) (.ite (decide (0<
 m)) (.need (0≤i∧i<(↑l'.length:Int)) (.need (0≤i∧i<(↑l'.length:Int)) (.ret (.inl (u64.wrap ((u64.wrap (m+
 u64.wrap (l'.getD i.toNat 0))).tdiv 256),i64.wrap (i-1),w',l'.set i.toNat (IntKind.u8.wrap ((u64.wrap (m+
 u64.wrap (l'.getD i.toNat 0))).tmod 256))))))) (.ret (.inr (w',l')))) (.ret (.inr (w',l'))))
theorem QO(n:Int)(w:Int)(l:List Int)(m:Int)(i:Int)(w':Int)(l':List Int):cO Tryz.prog [] [] f276 0 ((mO).wr (w,l,())) afB (BH.wr (m,i,w',l'))=(BI m i w' l').res BH.wr afC:=by kernel_rfl
abbrev BK(m:Int)(i:Int)(w':Int)(l':List Int):Prop:= -1≤i∧i<l'.length∧l'.length<1099511627776∧0≤m∧m<72057594037927936∧ay l'
abbrev QP(m:Int)(i:Int)(w':Int)(l':List Int):QN:=(w',dt (i+1).toNat m l')
abbrev QQ:BG→aK:=eB (fun x_=>BK x_.1 x_.2.1 x_.2.2.1 x_.2.2.2) (fun x_=>QP x_.1 x_.2.1 x_.2.2.1 x_.2.2.2) afC
theorem afD(m:Int)(i:Int)(w':Int)(l':List Int)(h_:BK m i w' l'):cX (fun x_:BG=>BI x_.1 x_.2.1 x_.2.2.1 x_.2.2.2) (m,i,w',l') (QP m i w' l'):=by
 delta QP;obtain⟨h1,h2,h6,h3,h4,h5⟩:=h_;obtain⟨k,hk⟩:∃k:Nat,i=(k:Int)-1:=⟨(i+1).toNat,by omega⟩;subst hk;clear h1
 induction k generalizing m l' with
 |zero=>
  refine .stop ?_;simp only[BI,iS,aP,aq,au];exact⟨fun h=>by omega,fun h=>rfl⟩
 |succ k ih=>
  by_cases hm:0<m
  ·have hb:By (l'.getD k 0):=h5.getD k;have hk:((k:Nat)+1:Int)-1=k:=(by omega);have lA:=ih ((m+l'.getD k 0)/256) (l'.set k ((m+l'.getD k 0)%256)) (by rw[List.length_set];omega) (by have:=hb.1;omega) (by have:=hb.2;omega) (h5.set k ⟨by omega,by omega⟩) (by rw[List.length_set];omega)
   have e:dt (((k+1:Nat):Int)-1+1).toNat m l'=dt ((k:Int)-1+1).toNat ((m+l'.getD k 0)/256) (l'.set k ((m+l'.getD k 0)%256)):=by
    rw[show(((k+1:Nat):Int)-1+1).toNat=k+1 from by omega,show((k:Int)-1+1).toNat=k from by omega,dt,if_pos hm]
   rw[e];refine .go ?_ lA;simp only[BI,iS,aP,aq,au];have VT:(k:Int)<l'.length:=(by omega);have ek:(((k+1:Nat):Int)-1)=(k:Int):=(by omega);rw[ek];have e1:u64.wrap (l'.getD k 0)=l'.getD k 0:=wrap_u64 hb.1 (by have:=hb.2;omega);have e2:u64.wrap (m+l'.getD k 0)=m+l'.getD k 0:=wrap_u64 (by have:=hb.1;omega) (by have:=hb.2;omega);refine⟨fun _=>⟨fun _=>⟨⟨by omega,VT⟩,⟨by omega,VT⟩,?_⟩,fun h=>absurd hm h⟩,fun h=>by omega⟩;have hb1:=hb.1;have uc:=hb.2;have e3:u64.wrap ((m+l'.getD k 0).tdiv 256)=(m+l'.getD k 0)/256:=(by rw[Int.tdiv_eq_ediv_of_nonneg (by omega),wrap_u64 (by omega) (by omega)]);have e4:IntKind.u8.wrap ((m+l'.getD k 0).tmod 256)=(m+l'.getD k 0)%256:=(by rw[Int.tmod_eq_emod_of_nonneg (by omega),wrap_u8];omega);rw[Int.toNat_natCast,e1,e2,e3,e4,ao (n:=(k:Int)-1) (by omega) (by omega)]
  ·have e:dt (((k+1:Nat):Int)-1+1).toNat m l'=l':=by
    rw[show(((k+1:Nat):Int)-1+1).toNat=k+1 from by omega,dt,if_neg hm]
   rw[e];refine .stop ?_;simp only[BI,iS,aP,aq,au];exact⟨fun _=>⟨fun h=>absurd h hm,fun _=>trivial⟩,fun h=>by omega⟩
theorem ZN(n:Int)(w:Int)(l:List Int):∀x:BG,Ex Tryz.prog ((mO).wr (w,l,())) (.loop (aO f276 0)) (BH.wr x) (QQ x):=
 cy mixed ax (ws:=afB) (aH.nil _) (fun x_=>QO n w l x_.1 x_.2.1 x_.2.2.1 x_.2.2.2) (fun z e=>by cases e) eV (fun x_ h=>afD x_.1 x_.2.1 x_.2.2.1 x_.2.2.2 h)
abbrev Wf:Type:=List Int
abbrev asK(x:Wf):LV:=LV.cj []
abbrev asL(x:Wf):List (Nat×Ev.Item):= [(1,Item.own 0 (Ty.int IntKind.u8) x)]
def afE(n:Int)(w:Int)(l:List Int):Tr (Wf):=(.need (BK n (i64.wrap ((↑l.length:Int)-1)) w l) (.ret
 (dt (Int.toNat (i64.wrap ((↑l.length:Int)-1)+1)) n l)))
theorem ZO(n:Int)(w:Int)(l:List Int):aG Tryz.prog [] [(0,bZ BH ((mO).wr (w,l,())) QM (QQ))] f276 ((aoq).wr (n,())) ((mO).wr (w,l,())) [.fr [.sym],.syms,.auto,.aE]=(afE n w l).end asK asL ((mO).wr (w,l,())):=by kernel_rfl
theorem afF(n:Int)(w:Int)(l:List Int):aH Tryz.prog ((mO).wr (w,l,())) [(0,bZ BH ((mO).wr (w,l,())) QM (QQ))] (aF f276):=(aH.bK (js (by kernel_rfl) (bP (hp:=(mO).wr (w,l,())) (ZN n w l)) jt))
abbrev zF(n:Int)(w:Int)(l:List Int):Prop:=l.length<1099511627776∧0≤n∧n<72057594037927936∧ay l
abbrev afG(n:Int)(w:Int)(l:List Int):Wf:=dt l.length n l
def afH:an:=cv [] (aoq) (mO) (fun x_ y_=>zF x_.1 y_.1 y_.2.1) (fun x_ y_=>afG x_.1 y_.1 y_.2.1) asK asL
theorem aow(n:Int)(w:Int)(l:List Int)(h_:zF n w l):(afE n w l).Is (afG n w l):=by
 delta afG;obtain⟨h1,h2,h3,h4⟩:=h_;have e:i64.wrap ((l.length:Int)-1)=l.length-1:=ao (by omega) (by omega);simp only[afE,aq,au,e];refine⟨⟨by omega,by omega,h1,h2,h3,h4⟩,?_⟩;rw[show((l.length:Int)-1+1).toNat=l.length from by omega]
theorem Wg:afH.Ok Tryz.prog 276:=
 br mixed ax func276 (by kernel_rfl) call276 (fun x_ y_=>afF x_.1 y_.1 y_.2.1) (fun x_ y_=>ZO x_.1 y_.1 y_.2.1) (fun x_ y_ h=>aow x_.1 y_.1 y_.2.1 h)
abbrev Wh:Type:=Int×Int×(List Int)
abbrev asM(x:Wh):LV:=LV.one (VV.sc (SV.int i64 (SI.sym x.1)))
abbrev asN(x:Wh):List (Nat×Ev.Item):= [(0,Item.aW [SV.sl 1 1,SV.int u64 (SI.sym x.2.1)] 277),(1,Item.own 1
 (Ty.int IntKind.u8) x.2.2)]
def afI(p:Int)(b:Int)(w:Int)(l:List Int):Tr (Wh):=(.ite (b==0) (.need (rC (u64.wrap (u64.wrap
 (w.tdiv 2048)*u64.wrap (aQ p))) l) (.ret (cP p b,(eH (u64.wrap (u64.wrap (w.tdiv 2048)*u64.wrap (aQ
 p))) l).fst,(eH (u64.wrap (u64.wrap (w.tdiv 2048)*u64.wrap (aQ p))) l).snd))) (.need (zF (u64.wrap
 (u64.wrap (w.tdiv 2048)*u64.wrap (aQ p))) w l) (.need (rC (u64.wrap (w-u64.wrap (u64.wrap (w.tdiv
 2048)*u64.wrap (aQ p)))) (dt l.length (u64.wrap (u64.wrap (w.tdiv 2048)*u64.wrap (aQ p))) l)) (.ret
 (cP p b,(eH (u64.wrap (w-u64.wrap (u64.wrap (w.tdiv 2048)*u64.wrap (aQ p)))) (dt l.length
 (u64.wrap (u64.wrap (w.tdiv 2048)*u64.wrap (aQ p))) l)).fst,(eH (u64.wrap (w-u64.wrap
 (u64.wrap (w.tdiv 2048)*u64.wrap (aQ p)))) (dt l.length (u64.wrap (u64.wrap (w.tdiv 2048)*u64.wrap
 (aQ p))) l)).snd)))))
theorem ZP(p b:Int)(w:Int)(l:List Int):aG Tryz.prog [(277,afA),(276,afH),(275,G7),(278,uG)] [] f205 ((sG).wr (p,b,())) ((mO).wr (w,l,())) [.one 1,.fr [.sym],.syms,.auto,.aE]=(afI p b w l).end asM asN ((mO).wr (w,l,())):=by kernel_rfl
theorem afJ(p b:Int)(w:Int)(l:List Int):aH Tryz.prog ((mO).wr (w,l,())) [] (aF f205):=(aH.nil _)
abbrev uP(p b:Int)(w:Int)(l:List Int):Prop:=w9 w l
abbrev afK(p b:Int)(w:Int)(l:List Int):Wh:=(cP p b,bQ p b w l)
def Fh:an:=cv [] (sG) (mO) (fun x_ y_=>uP x_.1 x_.2.1 y_.1 y_.2.1) (fun x_ y_=>afK x_.1 x_.2.1 y_.1 y_.2.1) asM asN
theorem aox(p b:Int)(w:Int)(l:List Int)(h_:uP p b w l):(afI p b w l).Is (afK p b w l):=by
 delta afK;obtain⟨h1,h2,h3,h4⟩:=h_;have hb:=iF p h1 h2;have hh:=gu p;have e0:u64.wrap (aQ p)=aQ p:=wrap_u64 (by omega) (by omega);have e1:u64.wrap (w.tdiv 2048)=w/2048:=by rw[Int.tdiv_eq_ediv_of_nonneg (by omega),wrap_u64 (by omega) (by omega)]
 have e2:u64.wrap (w/2048*aQ p)=w/2048*aQ p:=wrap_u64 (by omega) (by omega);have e3:u64.wrap (w-w/2048*aQ p)=w-w/2048*aQ p:=wrap_u64 (by omega) (by omega);simp only[afI,bQ,eA,aq,au,e0,e1,e2,e3];refine⟨fun h=>⟨⟨by omega,by omega,h4⟩,by rw[if_pos h]⟩,fun h=>⟨⟨h4,by omega,by omega,h3⟩,⟨by omega,by omega,by rw[gH];exact h4⟩,by rw[if_neg h]⟩⟩
theorem uQ:Fh.Ok Tryz.prog 205:=
 br mixed ((aj We (aj Wg (aj uF (aj rA ax))))) func205 (by kernel_rfl) call205 (fun x_ y_=>afJ x_.1 x_.2.1 y_.1 y_.2.1) (fun x_ y_=>ZP x_.1 x_.2.1 y_.1 y_.2.1) (fun x_ y_ h=>aox x_.1 x_.2.1 y_.1 y_.2.1 h)
abbrev Hr:Type:=Int×(List Int)
abbrev afL(x:Hr):LV:=LV.cj []
abbrev afM(x:Hr):List (Nat×Ev.Item):= [(0,Item.aW [SV.sl 1 1,SV.int u64 (SI.sym x.1)] 277),(1,Item.own 1
 (Ty.int IntKind.u8) x.2)]
def QR(b:Int)(w:Int)(l:List Int):Tr (Hr):=(.ite (b !=0) (.need (zF (u64.wrap (w.tdiv 2))
 (u64.wrap (w.tdiv 2)) l) (.need (rC (u64.wrap (w.tdiv 2)) (dt l.length (u64.wrap (w.tdiv 2)) l)) (.ret ((eH
 (u64.wrap (w.tdiv 2)) (dt l.length (u64.wrap (w.tdiv 2)) l)).fst,(eH (u64.wrap (w.tdiv 2)) (dt l.length
 (u64.wrap (w.tdiv 2)) l)).snd)))) (.need (rC (u64.wrap (w.tdiv 2)) l) (.ret ((eH (u64.wrap (w.tdiv 2)) l).fst,(eH
 (u64.wrap (w.tdiv 2)) l).snd))))
theorem QS(b:Int)(w:Int)(l:List Int):aG Tryz.prog [(277,afA),(276,afH),(275,G7),(278,uG)] [] f207 ((lY).wr (b,())) ((mO).wr (w,l,())) [.one 1,.fr [.sym],.syms,.auto,.aE]=(QR b w l).end afL afM ((mO).wr (w,l,())):=by kernel_rfl
theorem ZQ(b:Int)(w:Int)(l:List Int):aH Tryz.prog ((mO).wr (w,l,())) [] (aF f207):=(aH.nil _)
abbrev BL(b:Int)(w:Int)(l:List Int):Prop:=w9 w l
abbrev QT(b:Int)(w:Int)(l:List Int):Hr:=fD b w l
def Hs:an:=cv [] (lY) (mO) (fun x_ y_=>BL x_.1 y_.1 y_.2.1) (fun x_ y_=>QT x_.1 y_.1 y_.2.1) afL afM
theorem afN(b:Int)(w:Int)(l:List Int)(h_:BL b w l):(QR b w l).Is (QT b w l):=by
 delta QT;obtain⟨h1,h2,h3,h4⟩:=h_;have e1:w.tdiv 2=w/2:=Int.tdiv_eq_ediv_of_nonneg (by omega);have e2:u64.wrap (w/2)=w/2:=wrap_u64 (by omega) (by omega);simp only[QR,fD,ir,aq,au,e1,e2];refine⟨fun h=>⟨⟨by omega,by omega,h4⟩,by rw[if_pos h]⟩,fun h=>⟨⟨h4,by omega,by omega,h3⟩,⟨by omega,by omega,by rw[gH];exact h4⟩,by rw[if_neg h]⟩⟩
theorem BM:Hs.Ok Tryz.prog 207:=
 br mixed ((aj We (aj Wg (aj uF (aj rA ax))))) func207 (by kernel_rfl) call207 (fun x_ y_=>ZQ x_.1 y_.1 y_.2.1) (fun x_ y_=>QS x_.1 y_.1 y_.2.1) (fun x_ y_ h=>afN x_.1 y_.1 y_.2.1 h)
abbrev Ht:Type:=Int×(List Int)
abbrev afO(x:Ht):LV:=LV.one (VV.sc (SV.ptr 0 0))
abbrev afP(x:Ht):List (Nat×Ev.Item):= [(0,Item.aW [SV.sl 1 0,SV.int u64 (SI.sym x.1)] 277),(1,Item.own 0
 (Ty.int IntKind.u8) x.2)]
def afQ:Tr (Ht):=(.need ((4:Int)=4∧(0:Int)≤4∧(4:Int)≤70368744177664∧(4:Int)≤70368744177664) (.ret
 (4294967295,List.replicate 4 (0:Int))))
theorem QU:aG Tryz.prog [] [] f203 ((ag).wr (())) ((ag).wr (())) [.fr [.sym],.syms,.auto,.aE]=(afQ).end afO afP ((ag).wr (())):=by kernel_rfl
theorem ZR:aH Tryz.prog ((ag).wr (())) [] (aF f203):=(aH.nil _)
abbrev BN:Prop:=True
abbrev QV:Ht:=(4294967295,[0,0,0,0])
def Hu:an:=cv [] (ag) (ag) (fun _ _=>BN) (fun _ _=>QV) afO afP
theorem afR(h_:BN):(afQ).Is (QV):=by
 delta QV;exact⟨⟨rfl,by decide,by decide,by decide⟩,rfl⟩
theorem BO:Hu.Ok Tryz.prog 203:=
 br mixed ax func203 (by kernel_rfl) call203 (fun x_ y_=>ZR) (fun x_ y_=>QU) (fun x_ y_ h=>afR h)
abbrev rD:Type:=Int×Int×(List Int)
abbrev uR:aM St rD:=(aS (jk 3 (ai (ah (aC (0) (0))) (ae (ah (aA i64)) (jk 30 ag)))) (ae (dH
 (347) ((ae (aA i64) (ai (ke (1) (0)) ag)))) (ae (bS (0) (Ty.int i64)) ag))).kE (fun y=>(y.1.1,y.2.1.1,y.2.2.1))
 (fun x=>((x.1,()),((x.2.1,()),(x.2.2,())))) (fun _=>rfl)
abbrev Hv:List Wk:= [.fr (cu 35 [(3,.al),(4,.al)]),.syms,.auto,.aE]
abbrev Wi:Exit→List Wk:=xz Hv 0 [.fr (cu 35 [(3,.al)]),.syms,.auto,.aE] [.fr (cu 35 [(2,.al)]),.syms,.auto,.aE]
abbrev Hw:Type:=Int×(List Int)
abbrev Wj(x:Hw):Exit×St:=(Exit.exit 0,⟨(iE 3 (LV.one (VV.sc (SV.ptr 0 0))::(iE 31 []))),[some (Item.aW [SV.int
 i64 (SI.sym x.1),SV.sl 1 0] 347),some (Item.own 0 (Ty.int i64) x.2)]⟩)
def uS(i:Int)(n:Int)(p:List Int):Tr (rD⊕(Hw)):=(.ite (decide (i<(↑p.length:Int))) (.need (0≤i∧i<
 (↑p.length:Int)) (.ret (.inl (i64.wrap (i+1),n,p.set i.toNat 1024)))) (.ret (.inr (n,p))))
theorem LH(b:Int)(i:Int)(n:Int)(p:List Int):cO Tryz.prog [(58,ae1)] [] f204 0 ((ag).wr (())) Wi (uR.wr (i,n,p))=(uS i n p).res uR.wr Wj:=by kernel_rfl
theorem aoy(a b n:Nat)(x:Int)(h:a+b=n)(hb:0<b):(0::(List.replicate a x++List.replicate b 0)).set (a+1) x=(0:Int)::(List.replicate (a+1) x++List.replicate (b-1) 0):=by
 obtain⟨b,rfl⟩:∃c,b=c+1:=⟨b-1,by omega⟩;rw[List.set_cons_succ,List.set_append_right _ _ (by simp),List.length_replicate,Nat.sub_self,List.replicate_succ,List.set_cons_zero,Nat.add_sub_cancel]
 congr 1
 rw[List.replicate_succ',List.append_assoc];rfl
def bI(k:Nat):List Int:=0::List.replicate (2 ^ k-1) 1024
abbrev xE(i:Int)(n:Int)(p:List Int):Prop:=i=1∧p=List.replicate p.length 0∧1≤p.length∧p.length<1000000
abbrev Hx(i:Int)(n:Int)(p:List Int):Hw:=(n,0::List.replicate (p.length-1) 1024)
abbrev Hy:rD→aK:=eB (fun x_=>xE x_.1 x_.2.1 x_.2.2) (fun x_=>Hx x_.1 x_.2.1 x_.2.2) Wj
theorem ZS(i:Int)(n:Int)(p:List Int)(h_:xE i n p):cX (fun x_:rD=>uS x_.1 x_.2.1 x_.2.2) (i,n,p) (Hx i n p):=by
 delta Hx;obtain⟨rfl,h1,h2,h3⟩:=h_;obtain⟨m,hm⟩:∃c,p.length=c+1:=⟨p.length-1,by omega⟩;rw[hm]at h1 h3;subst h1;rw[List.length_replicate,Nat.add_sub_cancel];clear hm h2;have hl:∀k,k≤m→((0:Int)::(List.replicate k 1024++List.replicate (m-k) 0)).length=m+1:=fun k hk=>by simp;omega
 have key:=cX.iter (L:=fun x_:rD=>uS x_.1 x_.2.1 x_.2.2) (z:=(n,0::List.replicate m 1024)) (fun k=>(((k:Int)+1),n,0::(List.replicate k 1024++List.replicate (m-k) 0))) m (fun k hk=>?_) ?_
 ·exact key
 ·simp only[uS,aP,aq,au,hl k (by omega)];refine⟨fun _=>⟨by omega,?_⟩,fun h=>by omega⟩;rw[ao (by omega) (by omega),show((k:Int)+1).toNat=k+1 from by omega,aoy k (m-k) m 1024 (by omega) (by omega),Nat.sub_sub];rfl
 ·have PC:((0:Int)::List.replicate m 1024).length=m+1:=by simp
  simp only[uS,aP,aq,au,Nat.sub_self,List.replicate_zero,List.append_nil,PC];exact⟨fun h=>by omega,fun _=>trivial⟩
theorem QW(b:Int):∀x:rD,Ex Tryz.prog ((ag).wr (())) (.loop (aO f204 0)) (uR.wr x) (Hy x):=
 cy mixed ((aj G6 ax)) (ws:=Wi) (aH.nil _) (fun x_=>LH b x_.1 x_.2.1 x_.2.2) (fun z e=>by cases e) eV (fun x_ h=>ZS x_.1 x_.2.1 x_.2.2 h)
abbrev Hz:Type:=Int×(List Int)
abbrev afS(x:Hz):LV:=LV.one (VV.sc (SV.ptr 0 0))
abbrev afT(x:Hz):List (Nat×Ev.Item):= [(0,Item.aW [SV.int i64 (SI.sym x.1),SV.sl 1 0] 347),(1,Item.own 0
 (Ty.int i64) x.2)]
def QX(b:Int):Tr (Hz):=(.need (0≤u64.wrap (oz b 1 8)) (.need (shl i64 1 (u64.wrap (oz b 1
 8))=shl i64 1 (u64.wrap (oz b 1 8))∧0≤shl i64 1 (u64.wrap (oz b 1 8))∧8*shl i64 1
 (u64.wrap (oz b 1 8))≤70368744177664∧shl i64 1 (u64.wrap (oz b 1 8))≤70368744177664) (.need (xE 1 (oz b 1 8)
 (List.replicate (shl i64 1 (u64.wrap (oz b 1 8))).toNat (0:Int))) (.ret (oz b 1 8,0::List.replicate ((List.replicate (shl
 i64 1 (u64.wrap (oz b 1 8))).toNat (0:Int)).length-1) (1024:Int))))))
theorem QY(b:Int):aG Tryz.prog [(58,ae1)] [(0,bZ uR ((ag).wr (())) Hv (Hy))] f204 ((inA).wr (b,())) ((ag).wr (())) [.fr [.sym],.syms,.auto,.aE]=(QX b).end afS afT ((ag).wr (())):=by kernel_rfl
theorem ZT(b:Int):aH Tryz.prog ((ag).wr (())) [(0,bZ uR ((ag).wr (())) Hv (Hy))] (aF f204):=(aH.bK (js (by kernel_rfl) (bP (hp:=(ag).wr (())) (QW b)) jt))
abbrev g7(b:Int):Prop:=1≤b∧b≤8
abbrev QZ(b:Int):Hz:=(b,bI b.toNat)
def xF:an:=cv [] (inA) (ag) (fun x_ y_=>g7 x_.1) (fun x_ y_=>QZ x_.1) afS afT
theorem afU(b:Int)(h_:g7 b):(QX b).Is (QZ b):=by
 delta QZ;obtain⟨h1,h2⟩:=h_;have e1:oz b 1 8=b:=by unfold oz;rw[if_neg (by omega),if_neg (by omega)]
 obtain⟨k,rfl⟩:∃k:Nat,b=k:=⟨b.toNat,by omega⟩;have e2:u64.wrap (k:Int)=k:=wrap_u64 (by omega) (by omega);have h3:(2:Nat) ^ k≤256:=Nat.le_trans (Nat.pow_le_pow_right (by omega) (show k≤8 by omega)) (by decide);have h4:0<(2:Nat) ^ k:=Nat.two_pow_pos k;have e3:shl .i64 1 (k:Int)=((2 ^ k:Nat):Int):=mg k (by omega);simp only[QX,aq,au,e1,e2,e3,bI,Int.toNat_natCast,List.length_replicate];generalize (2:Nat) ^ k=m at*;refine⟨by omega,⟨trivial,by omega,by omega,by omega⟩,⟨rfl,by rw[List.length_replicate],by rw[List.length_replicate];omega,by rw[List.length_replicate];omega⟩,trivial⟩
theorem qh:xF.Ok Tryz.prog 204:=
 br mixed ((aj G6 ax)) func204 (by kernel_rfl) call204 (fun x_ y_=>ZT x_.1) (fun x_ y_=>QY x_.1) (fun x_ y_ h=>afU x_.1 h)
abbrev aE2:aM Ev.Item Int:=(mN 347 (ae (aA .i64) (ai (ke 3 0) ag))).kE (fun x=>x.1) (fun w=>(w,())) (fun _=>rfl)
abbrev oC:aM Hp (Int×List Int×Int×List Int×Unit):=ae (bp LG) (ae (bS 0 u8) (ae (bp aE2) (ae (bS 0 (.int .i64)) ag)))
abbrev uT:Type:=Int×Int×Int×Int×(List Int)×Int×(List Int)
abbrev uU:aM St uT:=(aS (ai (ah (aC (0) (0))) (ai (ah (aC (2) (0))) (ae (ah (aA i64)) (jk 3
 (ae (ah (aA i64)) (ae (ah (aA i64)) (jk 44 ag))))))) (ae (dH (277) ((ai (ke (1) (1)) (ae (aA u64)
 ag)))) (ae (bS (1) (Ty.int IntKind.u8)) (ae (dH (347) ((ae (aA i64) (ai (ke (3) (1)) ag)))) (ae (bS (1) (Ty.int
 i64)) ag))))).kE (fun y=>(y.1.1,y.1.2.1,y.1.2.2.1,y.2.1.1,y.2.2.1,y.2.2.2.1.1,y.2.2.2.2.1)) (fun x=>((x.1,(x.2.1,(x.2.2.1,
 ()))),((x.2.2.2.1,()),(x.2.2.2.2.1,((x.2.2.2.2.2.1,()),(x.2.2.2.2.2.2,())))))) (fun _=>rfl)
abbrev HA:List Wk:= [.one 1,.one 3,.fr (cu 52 [(0,.al),(1,.al),(2,.al),(6,.al),(7,.al)]),.syms,.auto,.aE]
abbrev Wl:Exit→List Wk:=xz HA 0 [.one 1,.one 3,.fr (cu 52 []),.syms,.auto,.aE] [.one 1,.one 3,.fr (cu 52 []),.syms,.auto,
 .aE]
abbrev HB:Type:=Int×(List Int)×Int×(List Int)
abbrev Wm(x:HB):Exit×St:=(Exit.exit 0,⟨(iE 52 []),[some (Item.aW [SV.sl 1 1,SV.int u64 (SI.sym x.1)]
 277),some (Item.own 1 (Ty.int IntKind.u8) x.2.1),some (Item.aW [SV.int i64 (SI.sym x.2.2.1),SV.sl 3 1] 347),some (Item.own 1 (Ty.int
 i64) x.2.2.2)]⟩)
def zG(v':Int)(node:Int)(i:Int)(w':Int)(l':List Int)(pg:Int)(p':List Int):Tr (uT⊕(HB)):=
 (.ite (decide (0≤i)) (.need (0≤u64.wrap i) (.need (0≤node∧node<(↑p'.length:Int)) (.need (uP (p'.getD node.toNat 0) (aI
 i64 (shr i64 v' (u64.wrap i)) 1) w' l') (.ret (.inl (v',i64.wrap (i64.wrap (2*node)+aI i64
 (shr i64 v' (u64.wrap i)) 1),i64.wrap (i-1),(bQ (p'.getD node.toNat 0) (aI i64 (shr i64 v'
 (u64.wrap i)) 1) w' l').fst,(bQ (p'.getD node.toNat 0) (aI i64 (shr i64 v' (u64.wrap i)) 1) w' l').snd,pg,
 b8 p' node (aI i64 (shr i64 v' (u64.wrap i)) 1))))))) (.ret (.inr (w',l',pg,p'))))
theorem LI(v:Int)(w:Int)(l:List Int)(bits:Int)(p:List Int)(v':Int)(node:Int)(i:Int)(w':Int)(l':List Int)(pg:Int)(p':List Int):cO Tryz.prog [(279,kZ),(205,Fh)] [] f206 0 ((oC).wr (w,l,bits,p,())) Wl (uU.wr (v',node,i,w',l',pg,p'))=(zG v' node i w' l' pg p').res uU.wr Wm:=by kernel_rfl
abbrev xG(v':Int)(node:Int)(i:Int)(w':Int)(l':List Int)(pg:Int)(p':List Int):Prop:=PE p'∧w9 w' l'∧0≤v'∧ -1≤i∧i<lg p'∧1≤node∧node<2 ^ (lg p'-(i+1).toNat+1)∧(l'.length:Int)+i<1099511600000
abbrev HC(v':Int)(node:Int)(i:Int)(w':Int)(l':List Int)(pg:Int)(p':List Int):HB:=((bc (i+1).toNat v' node w' l' p').1,(bc (i+1).toNat v' node w' l' p').2.1,pg,(bc (i+1).toNat v' node w' l' p').2.2)
abbrev HD:uT→aK:=eB (fun x_=>xG x_.1 x_.2.1 x_.2.2.1 x_.2.2.2.1 x_.2.2.2.2.1 x_.2.2.2.2.2.1 x_.2.2.2.2.2.2) (fun x_=>HC x_.1 x_.2.1 x_.2.2.1 x_.2.2.2.1 x_.2.2.2.2.1 x_.2.2.2.2.2.1 x_.2.2.2.2.2.2) Wm
theorem ZU(v':Int)(node:Int)(i:Int)(w':Int)(l':List Int)(pg:Int)(p':List Int)(h_:xG v' node i w' l' pg p'):cX (fun x_:uT=>zG x_.1 x_.2.1 x_.2.2.1 x_.2.2.2.1 x_.2.2.2.2.1 x_.2.2.2.2.2.1 x_.2.2.2.2.2.2) (v',node,i,w',l',pg,p') (HC v' node i w' l' pg p'):=by
 delta HC;obtain⟨h1,h2,h3,h4,h5,h6,h7,h8⟩:=h_;obtain⟨k,hk⟩:∃k:Nat,i=(k:Int)-1:=⟨(i+1).toNat,by omega⟩;subst hk;clear h4
 induction k generalizing node w' l' p' with
 |zero=>
  refine .stop ?_;simp only[zG,iS,aP,aq,au];exact⟨fun h=>by omega,fun h=>rfl⟩
 |succ k ih=>
  have e0:(((k+1:Nat):Int)-1+1).toNat=k+1:=by omega
  have e1:((k:Int)-1+1).toNat=k:=by omega
  have e2:(((k+1:Nat):Int)-1)=(k:Int):=by omega
  rw[e0]at h7 ⊢;rw[e1]at ih;rw[e2]at h5 h8 ⊢;have hlg:=h1.1;have hb:aI .i64 (shr .i64 v' k) 1=v'/2 ^ k%2:=Hm h3 k (by omega);have hp:(2:Int) ^ (lg p'-(k+1)+1)≤2 ^ 8:=fE (by omega);have hp8:(2:Int) ^ 8=256:=by decide
  have Wc:(2:Int) ^ (lg p'-k+1)=2*2 ^ (lg p'-(k+1)+1):=by
   rw[show lg p'-k+1=(lg p'-(k+1)+1)+1 from by omega,Int.pow_succ,Int.mul_comm]
  generalize hbe:v'/2 ^ k%2=b at*;have uc:0≤b∧b≤1:=by omega
  have hcl:=nA (ef p' node) b w' l';have lA:=ih (2*node+b) (bQ (ef p' node) b w' l').1 (bQ (ef p' node) b w' l').2 (b8 p' node b) (BF h1 _ _) (nz h2 (by omega)) (by omega) (by rw[mh];omega) (by rw[mh,Wc];omega) (by omega)
  have e3:bc (k+1) v' node w' l' p'=bc k v' (2*node+b) (bQ (ef p' node) b w' l').1 (bQ (ef p' node) b w' l').2 (b8 p' node b):=by
   rw[bc,hbe]
  rw[e3];refine .go ?_ lA;have hu:u64.wrap (k:Int)=k:=wrap_u64 (by omega) (by omega)
  have hlen:node<(p'.length:Int):=by
   rw[h1.2.1];have:(2:Int) ^ (lg p'-(k+1)+1)≤2 ^ lg p':=fE (by omega);have e:((2 ^ lg p':Nat):Int)=2 ^ lg p':=(by exact_mod_cast rfl);omega
  have ZV:p'.getD node.toNat 0=ef p' node:=by unfold ef oA;rw[if_pos (decide_eq_true ⟨h6,hlen⟩)]
  simp only[zG,iS,aP,aq,au,hu,hb,ZV];refine⟨fun _=>⟨by omega,⟨by omega,hlen⟩,h2,?_⟩,fun h=>by omega⟩;rw[ao (n:=2*node) (by omega) (by omega),ao (n:=2*node+b) (by omega) (by omega),ao (n:=(k:Int)-1) (by omega) (by omega)]
theorem Q0(v:Int)(w:Int)(l:List Int)(bits:Int)(p:List Int):∀x:uT,Ex Tryz.prog ((oC).wr (w,l,bits,p,())) (.loop (aO f206 0)) (uU.wr x) (HD x):=
 cy mixed ((aj iG (aj uQ ax))) (ws:=Wl) (aH.nil _) (fun x_=>LI v w l bits p x_.1 x_.2.1 x_.2.2.1 x_.2.2.2.1 x_.2.2.2.2.1 x_.2.2.2.2.2.1 x_.2.2.2.2.2.2) (fun z e=>by cases e) eV (fun x_ h=>ZU x_.1 x_.2.1 x_.2.2.1 x_.2.2.2.1 x_.2.2.2.2.1 x_.2.2.2.2.2.1 x_.2.2.2.2.2.2 h)
abbrev HE:Type:=Int×(List Int)×Int×(List Int)
abbrev afV(x:HE):LV:=LV.cj []
abbrev afW(x:HE):List (Nat×Ev.Item):= [(0,Item.aW [SV.sl 1 1,SV.int u64 (SI.sym x.1)] 277),(1,Item.own 1
 (Ty.int IntKind.u8) x.2.1),(2,Item.aW [SV.int i64 (SI.sym x.2.2.1),SV.sl 3 1] 347),(3,Item.own 1 (Ty.int i64) x.2.2.2)]
def Q1(v:Int)(w:Int)(l:List Int)(bits:Int)(p:List Int):Tr (HE):=(.ite (decide (v<0)==false) (.ite (decide
 ((↑p.length:Int)≤v)) (.ret (w,l,bits,p)) (.need (xG v 1 (i64.wrap (bits-1)) w l bits p) (.ret ((bc (Int.toNat
 (i64.wrap (bits-1)+1)) v 1 w l p).fst,(bc (Int.toNat (i64.wrap (bits-1)+1)) v 1 w l p).snd.fst,bits,(bc (Int.toNat
 (i64.wrap (bits-1)+1)) v 1 w l p).snd.snd)))) (.ret (w,l,bits,p)))
theorem Q2(v:Int)(w:Int)(l:List Int)(bits:Int)(p:List Int):aG Tryz.prog [(279,kZ),(205,Fh)] [(0,bZ uU ((oC).wr (w,l,bits,p,())) HA (HD))] f206 (((ai (ah (aC 0 0)) (ai (ah (aC 2 0)) (ae (ah (aA .i64)) ag)))).wr (v,())) ((oC).wr (w,l,bits,p,())) [.one 1,.one 3,.fr [.sym],.syms,.auto,.aE]=(Q1 v w l bits p).end afV afW ((oC).wr (w,l,bits,p,())):=by kernel_rfl
theorem ZW(v:Int)(w:Int)(l:List Int)(bits:Int)(p:List Int):aH Tryz.prog ((oC).wr (w,l,bits,p,())) [(0,bZ uU ((oC).wr (w,l,bits,p,())) HA (HD))] (aF f206):=(aH.bK (js (by kernel_rfl) (bP (hp:=(oC).wr (w,l,bits,p,())) (Q0 v w l bits p)) jt))
abbrev qk(v:Int)(w:Int)(l:List Int)(bits:Int)(p:List Int):Prop:=PE p∧w9 w l∧0≤v∧v<2 ^ lg p∧1≤lg p∧l.length<1099511500000∧bits=lg p
abbrev Q4(v:Int)(w:Int)(l:List Int)(bits:Int)(p:List Int):HE:=((bc (lg p) v 1 w l p).1,(bc (lg p) v 1 w l p).2.1,bits,(bc (lg p) v 1 w l p).2.2)
def HF:an:=cv [] ((ai (ah (aC 0 0)) (ai (ah (aC 2 0)) (ae (ah (aA .i64)) ag)))) (oC) (fun x_ y_=>qk x_.1 y_.1 y_.2.1 y_.2.2.1 y_.2.2.2.1) (fun x_ y_=>Q4 x_.1 y_.1 y_.2.1 y_.2.2.1 y_.2.2.2.1) afV afW
theorem afX(v:Int)(w:Int)(l:List Int)(bits:Int)(p:List Int)(h_:qk v w l bits p):(Q1 v w l bits p).Is (Q4 v w l bits p):=by
 delta Q4;obtain⟨h1,h2,h3,h4,h5,h6,rfl⟩:=h_;have hlg:=h1.1;have e1:i64.wrap ((lg p:Int)-1)=lg p-1:=ao (by omega) (by omega);have e2:((lg p:Int)-1+1).toNat=lg p:=by omega
 have e3:((2 ^ lg p:Nat):Int)=2 ^ lg p:=by exact_mod_cast rfl
 simp only[Q1,aq,au,bE,beq_iff_eq,decide_eq_true_eq,decide_eq_false_iff_not,e1,e2,h1.2.1,e3];refine⟨fun _=>⟨fun h=>by omega,fun _=>⟨⟨h1,h2,h3,by omega,by omega,by omega,by rw[e2,Nat.sub_self];decide,by omega⟩,trivial⟩⟩,fun h=>?_⟩;simp at h;omega
theorem BP:HF.Ok Tryz.prog 206:=
 br mixed ((aj iG (aj uQ ax))) func206 (by kernel_rfl) call206 (fun x_ y_=>ZW x_.1 y_.1 y_.2.1 y_.2.2.1 y_.2.2.2.1) (fun x_ y_=>Q2 x_.1 y_.1 y_.2.1 y_.2.2.1 y_.2.2.2.1) (fun x_ y_ h=>afX x_.1 y_.1 y_.2.1 y_.2.2.1 y_.2.2.2.1 h)
end Go.Proofs.YtnbkagglkajbkaaGreat
end
