/- What the laws lean on, part 23: a reader of code, plain facts, and what each function gives; no conditions. -/
import Derived.SizedLaws
import Derived.Test.YtliehnnljilacaaGreatA22
noncomputable section
open Go.IntKind (i64 signed u16 u32 u64 wrap wrap_u32)
set_option linter.unusedVariables false
set_option linter.unusedSimpArgs false
namespace Go.Proofs.YtliehnnljilacaaGreat
open Go Go.Ev Go.Proofs.Tryz
set_option maxHeartbeats 0
set_option maxRecDepth 1000000
abbrev tTl:Ty:=.pair tI (.pair tI (.pair tI (.arr (.int .u8) 64)))
abbrev WJ:Ty:=.pair tI (.pair tI (.pair tI tB))
abbrev aVQ:cl (List LV) (List gz×Unit):=bD (bO (gx false false WJ)) bG
abbrev a0Y:cl (List LV) (List gz×Unit):=bR (bO (cr 0 0)) aVQ
abbrev HR(l:List gz):Prop:=∀k:Nat,k<l.length→gn (l.getD k (0,0,0,[]))
abbrev RJ(l:List gz):Prop:=∀k:Nat,k<l.length→bL (l.getD k (0,0,0,[])).2.2.2∧(l.getD k (0,0,0,[])).2.2.2.length<140737488355328
def iV:List gz→fE.D→List TL×fE.D
 | [],y=>([],y)
 |o::os,y=>((AQ o y).1::(iV os (AQ o y).2).1,(iV os (AQ o y).2).2)
def z5:List gz→Int
 | []=>0
 |o::os=>o.2.2.2.length+z5 os
theorem abM:∀ (l:List gz) (k:Nat),k<l.length→((l.getD k (0,0,0,[])).2.2.2.length:Int)≤z5 l
 | [],k,h=>absurd h (Nat.not_lt_zero k)
 |o::os,0,_=>by
  have e:∀l:List gz,0≤z5 l:=fun l=>by
   induction l with
   |nil=>exact Int.le_refl _
   |cons a l ih=>exact Int.add_nonneg (Int.natCast_nonneg _) ih
  have:=e os;rw[z5,List.getD_cons_zero];omega
 |o::os,k+1,h=>by
  have:=abM os k (by simp at h;omega);rw[z5,List.getD_cons_succ];omega
theorem RJ.ok{l:List gz}(h:RJ l)(hs:z5 l≤8000):HR l:=fun k hk=>
 ⟨(h k hk).1,by have:=abM l k hk;omega⟩
theorem abN:∀ {l:List gz} {y:fE.D},HR l→uk y→uk (iV l y).2
 | [],_,_,h=>h
 |o::os,y,hl,h=>abN (l:=os) (fun k hk=>by have:=hl (k+1) (by simp;omega);rwa [List.getD_cons_succ]at this) (z4 (hl 0 (by simp)) h)
abbrev FU:Type:=(List (Int×Int×Int×ab))×Int×Int×Od×(List (Int×Int×Int×ab))
abbrev aqn:cl St FU:=(dy (bR (bO (cr (0) (0))) (jk 4 (bR (bO (pk (1) (0))) (jk 2 (bD (bO (gx false false (ag.pair (ag.pair (ag.pair ae.sl))))) (bD (bO (bX i64)) (bD (bO (bX i64)) (jk 11 bG)))))))) (bD (cb jOd) (bD (dd (0) (ag.pair (ag.pair (ag.pair (ae.arr 64))))) bG))).jr (fun y=>(y.1.1,y.1.2.1,y.1.2.2.1,y.2.1,y.2.2.1)) (fun x=>((x.1,(x.2.1,(x.2.2.1,()))),(x.2.2.2.1,(x.2.2.2.2,())))) (fun _=>rfl)
abbrev aqo:List Wk:= [.kA 5 tTl,.fr (eH 22 [(0,.bV),(5,.bV),(8,.bV),(9,.bV),(10,.bV)]),.cu,.bS,.ck]
abbrev aK8:Exit→List Wk:=ua aqo 0 [.kA 5 tTl,.fr (eH 22 [(5,.bV)]),.cu,.bS,.ck] [.kA 5 tTl,.fr (eH 22 [(4,.bV)]),.cu,.bS,.ck]
def yK(l:List (Int×Int×Int×ab))(i:Int):Int×Int×Int×ab:=l.getD i.toNat (0,0,0,[])
abbrev WK:Type:=Od×(List (Int×Int×Int×ab))
abbrev aK9(x:WK):Exit×St:=(Exit.exit 0,⟨(gE 5 (LV.one (VV.sc (SV.sl 1 0))::(gE 16 []))),[some (jOd.wr x.1),some (bE.own 0 (ag.pair (ag.pair (ag.pair (ae.arr 64)))) x.2)]⟩)
def WL(l:List (Int×Int×Int×ab))(n i:Int)(y:Od)(out:List (Int×Int×Int×ab)):Tr (FU⊕(WK)):=(.ite (decide (i<n)) (.need (0≤i∧i<(↑l.length:Int)) (.need (FT (yK l i) y) (.need ((out.length+1)*88≤ 70368744177664∧out.length+1≤70368744177664) (.ret (.inl (l,n,i64.wrap (i+1),{D:=rK,x:=(AQ (yK l i) y.x).2},out++[(AQ (yK l i) y.x).1])))))) (.ret (.inr (y,out))))
abbrev FV(l:List (Int×Int×Int×ab))(n i:Int)(y:Od)(out:List (Int×Int×Int×ab)):Prop:=0≤i∧i≤n∧n=l.length∧l.length≤1000000∧y.D=rK∧uk y.x∧HR l∧out.length=i.toNat
abbrev WM(l:List (Int×Int×Int×ab))(n i:Int)(y:Od)(out:List (Int×Int×Int×ab)):WK:=(⟨rK,(iV (l.drop i.toNat) y.x).2⟩,out++(iV (l.drop i.toNat) y.x).1)
abbrev aqp:FU→cT:=gX (aE FV) (aE WM) aK9
theorem aqq:aeX FV WL WM:=by
 intro l n i y out h_;delta WM;obtain⟨h1,h2,rfl,h4,h5,h6,h7,h8⟩:=h_;obtain⟨D,x⟩:=y;have h5:D=rK:=h5;subst h5;have h6:uk x:=h6;obtain⟨m,rfl⟩:∃m:Nat,i=m:=⟨i.toNat,by omega⟩;obtain⟨q,hq⟩:∃q,l.length-m=q:=⟨_,rfl⟩;rw[Int.toNat_natCast]at h8 ⊢;induction q generalizing m x out with
 |zero=>
  refine .stop ?_;have d:¬ (m:Int)<l.length:=by omega
  rw[List.drop_of_length_le (by omega)];simp[WL,d,bY,bH,iV]
 |succ q ih=>
  have d:(m:Int)<l.length:=by omega
  have ho:=h7 m (by omega);have w:=ih (out++ [(AQ (l.getD m (0,0,0,[])) x).1]) (AQ (l.getD m (0,0,0,[])) x).2 rfl (z4 ho h6) (z4 ho h6) (m+1) (by omega) (by omega) (by rw[List.length_append];simp;omega) (by omega);rw[gU (0,0,0,[]) (by omega:m<l.length),iV];rw[List.append_assoc,List.singleton_append]at w;refine .go ?_ w;have hw:i64.wrap ((m:Int)+1)=((m+1:Nat):Int):=by rw[bM (by omega) (by omega)];rfl
  have e0:yK l (m:Int)=l.getD m (0,0,0,[]):=by unfold yK;rw[Int.toNat_natCast]
  simp only[WL,hw,e0,bW,bF,bH];exact⟨fun _=>⟨⟨by omega,d⟩,⟨rfl,ho,h6⟩,⟨by omega,by omega⟩,by first|rfl|trivial⟩,fun h=>absurd d h⟩
theorem aeL(y_):∀x:FU,Ex aA (hOd.wr y_) (.loop (cG f9 0)) (aqn.wr x) (aqp x):=ee bJ ((bI N0 bU)) (ws:=aK8) (cn.nil _) (fun _=>by kernel_rfl) (fun z e=>by cases e) im (aT @aqq)
abbrev abO:Type:=(List (Int×Int×Int×ab))×Od
abbrev aVR(x:abO):LV:=LV.one (VV.sc (SV.rd true false (ag.pair (ag.pair (ag.pair (ae.arr 64)))) x.1))
abbrev aVS(x:abO):List ao:= [(0,jOd.wr x.2)]
def aDF(l:List (Int×Int×Int×ab))(y:Od):Tr abO:=(.need (FV l (↑l.length:Int) 0 y []) (.ret ([]++(iV (List.drop 0 l) y.x).1,{D:=rK,x:=(iV (List.drop 0 l) y.x).2})))
abbrev N2(l:List gz)(y:Od):Prop:=l.length≤1000000∧y.D=rK∧uk y.x∧HR l
abbrev aqr(l:List gz)(y:Od):abO:=((iV l y.x).1,⟨rK,(iV l y.x).2⟩)
def aVT:bT:=cj [none,some WJ] a0Y hOd (q1∘q1 N2) (q1∘q1 aqr) aVR aVS
theorem azr:ab1 N2 aDF aqr:=by
 intro l y h_;delta aqr;obtain⟨h1,h2,h3,h4⟩:=h_;simp only[aDF,bF,bH];exact⟨⟨Int.le_refl _,by omega,rfl,h1,h2,h3,h4,rfl⟩,rfl⟩
theorem abP:aVT.Ok aA 9:=az (bI N0 bU) func9 call9 (ks:= [.pN,.fr [.rd true tTl],.fr [.sym],.cu,.bS,.ck]) aqn aqo aqp aeL (fun x_=>bq (@azr x_.1))
abbrev RK:Type:=(List (Int×Int×Int×ab))×Int×Int
abbrev aDG:cl St RK:=(dy (bD (bO (gx false false (ag.pair (ag.pair (ag.pair ae.sl))))) (jk 2 (bD (bO (bX i64)) (bD (bO (bX i64)) (jk 19 bG))))) bG).jr (fun y=>(y.1.1,y.1.2.1,y.1.2.2.1)) (fun x=>((x.1,(x.2.1,(x.2.2,()))),())) (fun _=>rfl)
abbrev aDH:List Wk:= [.fr (eH 24 [(0,.bV),(3,.bV),(4,.bV)]),.cu,.bS,.ck]
abbrev aVU:Exit→List Wk:=ua aDH 0 [.fr (eH 24 [(3,.bV)]),.cu,.bS,.ck] [.fr (eH 24 [(2,.bV)]),.cu,.bS,.ck]
abbrev aVV(x:sk):Exit×St:=(Exit.exit 0,⟨(gE 3 (LV.one (VV.sc (SV.int i64 (SI.sym x)))::(gE 20 []))),[]⟩)
def aqt(l:List (Int×Int×Int×ab))(n i:Int):Tr (RK⊕(sk)):=(.ite (decide (i<(↑l.length:Int))) (.need (0≤i∧i<(↑l.length:Int)) (.ret (.inl (l,i64.wrap (n+(↑(List.length (l.getD i.toNat (0,0,0,[])).2.2.2):Int)),i64.wrap (i+1))))) (.ret (.inr n)))
abbrev N3(l:List (Int×Int×Int×ab))(n i:Int):Prop:=0≤i∧i≤l.length∧l.length≤30∧RJ l∧0≤n∧n≤i*140737488355328
abbrev aqu(l:List (Int×Int×Int×ab))(n i:Int):sk:=n+z5 (l.drop i.toNat)
abbrev aDI:RK→cT:=gX (aC N3) (aC aqu) aVV
theorem azs:aeV N3 aqt aqu:=by
 intro l n i h_;delta aqu;obtain⟨h1,h2,h3,h4,h5,h6⟩:=h_;obtain⟨m,rfl⟩:∃m:Nat,i=m:=⟨i.toNat,by omega⟩;obtain⟨q,hq⟩:∃q,l.length-m=q:=⟨_,rfl⟩;rw[Int.toNat_natCast];induction q generalizing m n with
 |zero=>
  refine .stop ?_;have d:¬ (m:Int)<l.length:=by omega
  rw[List.drop_of_length_le (by omega)];simp[aqt,d,bY,bH,z5]
 |succ q ih=>
  have d:(m:Int)<l.length:=by omega
  have ho:=(h4 m (by omega)).2;have w:=ih (n+((l.getD m (0,0,0,[])).2.2.2.length:Int)) (by omega) (m+1) (by omega) (by omega) (by omega) (by omega);rw[gU (0,0,0,[]) (by omega:m<l.length),z5,← Int.add_assoc];refine .go ?_ w;have hw:i64.wrap ((m:Int)+1)=((m+1:Nat):Int):=by rw[bM (by omega) (by omega)];rfl
  have hn:i64.wrap (n+((l.getD m (0,0,0,[])).2.2.2.length:Int))=n+((l.getD m (0,0,0,[])).2.2.2.length:Int):=bM (by omega) (by omega);simp only[aqt,hw,Int.toNat_natCast,hn,bW,bF,bH];exact⟨fun _=>⟨⟨by omega,d⟩,trivial⟩,fun h=>absurd d h⟩
theorem aqv(y_):∀x:RK,Ex aA (bG.wr y_) (.loop (cG f5 0)) (aDG.wr x) (aDI x):=ee bJ bU (ws:=aVU) (cn.nil _) (fun _=>by kernel_rfl) (fun z e=>by cases e) im (aR @azs)
def aqw(l:List (Int×Int×Int×ab)):Tr IE:=.ite (decide (30<(↑l.length:Int))) (.ret false) (.need (N3 l 0 0) (.ret (decide (0+z5 (List.drop 0 l)≤8000))))
def aqx(l:List gz):Bool:=decide (l.length≤30∧z5 l≤8000)
abbrev yL(l:List gz):Prop:=RJ l
abbrev WN(l:List gz):IE:=aqx l
def aLc:bT:=cj [some WJ] aVQ bG (q0∘q1 yL) (q0∘q1 WN) aEH aEI
theorem aqy:abY yL aqw WN:=by
 intro l h_;delta WN;unfold aqx;simp only[aqw,bW,bF,bH];refine⟨fun d=>(decide_eq_false (by omega)).symm,fun d=>⟨⟨Int.le_refl _,by omega,by omega,h_,Int.le_refl _,by omega⟩,?_⟩⟩;show decide (0+z5 l≤8000)=decide (l.length≤30∧z5 l≤8000);rw[Int.zero_add];exact decide_eq_decide.2 ⟨fun h=>⟨by omega,h⟩,fun h=>h.2⟩
theorem RL:aLc.Ok aA 5:=az bU func5 call5 (ks:=eU) aDG aDH aDI aqv (fun x_ _=>@aqy x_.1)
abbrev CC:Type:=List ab
abbrev azt(x:CC):LV:=LV.one (VV.sc (SV.rd true false (ae.arr 32) x))
abbrev azu(x:CC):List ao:= []
def azv(s:ab):Tr CC:=.need (s.length=32) (.ret ([ady s]))
abbrev z6(s:ab):Prop:=s.length=32
abbrev N5(s:ab):CC:= [ady s]
def azw:bT:=cj [] mW bG (q0∘q1 z6) (q0∘q1 N5) azt azu
theorem aeM:abY z6 azv N5:=by
 intro s h_;delta N5;exact⟨h_,rfl⟩
theorem HS:azw.Ok aA 6:=ay (bI aGb bU) func6 call6 (ks:= [.pN,.fr [.rd true (.arr u8 32)],.fr [.sym],.cu,.bS,.ck]) (fun x_ _=>@aeM x_.1)
abbrev cSt:cl (List SV) Sg:=aPO (gx false false u8)
def abQ(a b:Sg):Tr IE:=.ite ((a.1.1==b.1.1&&(a.1.2.1==b.1.2.1&&(a.1.2.2.1==b.1.2.2.1&&(a.1.2.2.2.1==b.1.2.2.2.1&&(decide (a.1.2.2.2.2=b.1.2.2.2.2)&&true)))))==true) (.ite ((a.2.1==b.2.1)==true) (.ite ((a.2.2.1==b.2.2.1)==true) (.ite ((a.2.2.2.1==b.2.2.2.1)==true) (.ite ((a.2.2.2.2.1==b.2.2.2.2.1)==true) (.ite ((a.2.2.2.2.2.1==b.2.2.2.2.2.1)==true) (.ite (decide (a.2.2.2.2.2.2.1=b.2.2.2.2.2.2.1)==true) (.ret (gP a.2.2.2.2.2.2.2 b.2.2.2.2.2.2.2)) (.ret false)) (.ret false)) (.ret false)) (.ret false)) (.ret false)) (.ret false)) (.ret false)
abbrev z7(a b:Sg):Prop:=a=b
abbrev N6(a b:Sg):IE:=true
def azz:bT:=cj [some u8,some u8] ((bD (jf cSt) (bD (jf cSt) bG))) bG (q0∘q2 z7) (q0∘q2 N6) aEH aEI
theorem aeN:ab1 z7 abQ N6:=by
 intro a b h_;delta N6;subst h_;simp[abQ,bY,bH,gP]
theorem HT:azz.Ok aA 11:=ay bU func11 call11 (ks:=eU) (fun x_ _=>@aeN x_.1 x_.2.1)
end Go.Proofs.YtliehnnljilacaaGreat
namespace Go.Proofs.YtliehnnljilacaaGreat
open Go Go.Ev Go.ChangeShapes Go.WideShapes Go.ChangeAt Go.RowKit Go.Proofs.Tryz
set_option maxRecDepth 100000
def RM(W:World):Env:=⟨fun _=>0,fun _=>.nilIface,fun pm v t l=>pm=false∧0<t.w∧dw (wx W) false W v t l⟩
theorem RN(W:World):∀ (pm:Bool) (v:Value) (t:Ty) (l:List t.D),(wx W).rd pm v t l→(RM W).rd pm v t l:=fun _ _ _ _ ⟨a,b,c⟩=>⟨a,b,c.mono (β':=wx W) (fun _ _ _ _ (h:False)=>h.elim)⟩
theorem aVW(W:World)(L:Nat→Option Kd):dx (wx W) (RM W) L L:=⟨fun _ h=>⟨h,rfl⟩,fun _ c h=>⟨c,h,Nat.le_refl _,fun _=>rfl⟩,RN W⟩
theorem aqz(W:World):cN W [] (RM W) (RM W) [] W:=by
 refine⟨fun i x h=>by simp at h,fun i j x y b h=>by simp at h,dx.refl _ _,fun i x b h=>by simp at h,rfl,rfl,Nat.le_refl _,fun _ _ _=>rfl,fun pm v t l h=>?_,fun pm v t l b h1 h2=>.inr ⟨pm,v,t,l,id,h1,h2⟩⟩;obtain⟨rfl,hw,h⟩:=h;refine⟨h.mono (RN W),fun b hb=>⟨?_,fun⟨i,x,hi,_⟩=>by simp at hi⟩⟩;obtain⟨a,n,c,rfl,hn,hc,_,hr⟩:=h;cases a with
 |none=>exact hb.elim
 |some a=>
  obtain⟨h0,rfl⟩:=hb;obtain⟨a0,gq,e,h1,h2,h3⟩:=hr h0;cases e;refine h3.lt fun e=>?_;have h4:=dh h2;rw[e,← hn]at h4;have:=Nat.mul_pos h0 hw;simp at h4;omega
theorem Gw{f:FuncId}{e:bT}(a0Z:oT aA f)(he:e.Ok aA f){args:List LV}{q:Option Prop}(gp:e.run args []= .bN q (nB true) [])(hq:iC q)(W:World){vals:Array Value}(hd:dC (LV.den (RM W) (kd [])) args vals.toList):Calls aA f vals W fun e W'=>e= .returned (.bool true)∧Kept W W':=by
 have key:=he.calls args [] (fun v d=>v=nB true∧d= []) (by rw[gp];exact⟨hq,rfl,rfl⟩) (RM W) W vals.toList (aqz W) hd;rw[show vals.toList.toArray=vals from by simp]at key;have key:=key.resolve_left (by rintro⟨val,h1,_⟩;rw[a0Z]at h1;cases h1) |>.2;refine key.mono ?_;rintro e W' ⟨val,β',r,dZ,rfl,⟨d,⟨rfl,rfl⟩,rfl⟩,h3,h4⟩;have:val= .bool true:=h3;subst this;exact⟨rfl,h4.os,h4.output,h4.size,fun b hb=>h4.bV b hb fun⟨i,x,hi,_⟩=>by simp at hi⟩
theorem td{H:Type}{P:Program}{e:TypeId}{d:DataW H}{n:Nat}(hn:n∈d.weights P e):∀ {ds:List (DataW H)},d∈ds→n∈DataW.weightsAll P e ds
 |d0::ds,hd=>by
  unfold DataW.weightsAll;rcases List.mem_cons.1 hd with rfl|h
  ·exact List.mem_append_left _ hn
  ·exact List.mem_append_right _ (td hn h)
theorem a00{H:Type}{enc:TypeId×Value→H}{W:World}{fuel:Nat}{cs:List Value}{y:DataW H×List MemPlace} (h:DataW.trod enc aA W 0 (fun _=>true) true fuel 41 cs=some y) (hw:∀n∈y.1.weights aA 41,n≤reachBytes) {l:ab} {v:Value} (hv:cs= [v]) (hd:(SV.rd false false u8 l).den (wx W) (kd []) v):l.length<140737488355328:=by
 subst hv;have key:∀n c (a:Option Addr),v= .slice a n c→n=l.length:=by
  intro n c a e;subst e;obtain⟨_,_,hr⟩:=hd;rcases hr with⟨_,_,hr⟩|⟨_,_,_,hr⟩|⟨e1,e2⟩
  ·obtain⟨a',n',c',e,hn,_⟩:=hr;cases e;exact hn
  ·obtain⟨a',n',c',e,hn,_⟩:=hr;cases e;exact hn
  ·cases e1;subst e2;rfl
 rcases open_ints underlying41 underlying5 O3 h with⟨e,_⟩|⟨a,len,cap,zs,e,_,hlc,_,hzl,hy,_⟩
 ·have:=key _ _ _ (List.cons.inj e).1;omega
 ·have hl:=key _ _ _ (List.cons.inj e).1;simp only[if_true]at hzl;rw[hy]at hw;have b1:Tryz.prog.bytesOf 5=1:=by kernel_rfl
  have:=hw (((lits .u8 (zs.take len):List (DataW H)).length+(lits .u8 (zs.drop len):List (DataW H)).length)*Tryz.prog.bytesOf 5) (by simp[DataW.weights,underlying41]);rw[b1]at this;simp[lits,reachBytes]at this;omega
theorem aLd{H:Type}{enc:TypeId×Value→H}{W:World}{fuel:Nat}{cs:List Value}{y:DataW H×List MemPlace} (h:DataW.trod enc aA W 0 (fun _=>true) true fuel 43 cs=some y) (hw:∀n∈y.1.weights aA 43,n≤reachBytes):∃m:gz,(bL m.2.2.2∧m.2.2.2.length<140737488355328)∧cs.length=4∧WJ.has (wx W) false m cs:=by
 obtain⟨xs,m,_,hy,hl,hlen,hf⟩:=DataW.trod_struct underlying43 h;have c4:Tryz.prog.cellsOf 43=4:=by kernel_rfl
 have c1:Tryz.prog.cellsOf 3=1:=by kernel_rfl
 have c3:Tryz.prog.cellsOf 41=1:=by kernel_rfl
 have f1:Ar aA 10 3=some [.int .i64]:=by kernel_rfl
 have hn:cs.length=4:=by rw[← c4];exact hl
 have hx:xs.length=4:=by exact hlen
 match cs,hn with
 | [a,b,c,e],_=>
  have g0:=hf 0 _ rfl;have g1:=hf 1 _ rfl;have g2:=hf 2 _ rfl;have g3:=hf 3 _ rfl;rw[List.getElem?_eq_getElem (by omega)]at g0 g1 g2 g3;have k0:=tt 10 f1 g0;have k1:=tt 10 f1 g1;have k2:=tt 10 f1 g2;obtain⟨l,w,k3,kb,k4⟩:=adQ g3
  have hlw:=a00 g3 (fun n hn=>hw n (by
   rw[hy];simp only[DataW.weights,underlying43];exact DataW.weights_mem_each (j:=3) rfl (by rw[List.getElem?_map,List.getElem?_eq_getElem (by omega)];rfl) n hn)) k3 k4
  cases k0 with
  |cons q0 _=>cases k1 with
  |cons q1 _=>cases k2 with
  |cons q2 _=>
   obtain⟨z0,rfl,_⟩:=q0;obtain⟨z1,rfl,_⟩:=q1;obtain⟨z2,rfl,_⟩:=q2;have k3: [e].take (Tryz.prog.cellsOf 41)= [w]:=k3;rw[c3]at k3;have k3:e=w:=(by simpa using k3);subst k3;exact⟨(z0,z1,z2,l),⟨kb,hlw⟩,rfl,[_],_,rfl,rfl,[_],_,rfl,rfl,[_],_,rfl,rfl,_,rfl,k4.1,k4.2.2⟩
theorem aDJ{β:Env}{W:World}{a:Addr}:∀ (n:Nat) (f:Nat→gz) (g:Nat→List Value),(∀i,i<n→(g i).length=4∧WJ.has β false (f i) (g i)∧∀j,j<4→W.cell? (a.add (i*4+j))=(g i)[j]?)→
  ∃gq:List Value,cI (WJ.has β false) ((List.range n).map f) gq∧gq.length=n*4∧fu W a gq
 |0,_,_,_=>⟨[],.nil,rfl,fun i u h=>by simp at h⟩
 |n+1,f,g,h=>by
  obtain⟨gq,h1,h2,h3⟩:=aDJ n f g fun i hi=>h i (by omega);obtain⟨g1,g2,g3⟩:=h n (by omega);refine⟨gq++g n,?_,by rw[List.length_append,h2,g1];omega,fun i u hu=>?_⟩
  ·rw[List.range_succ,List.map_append];have aLe:cI (WJ.has β false) [f n] (g n):=by
    have:=cI.cons (R:=WJ.has β false) g2 .nil;rwa [List.append_nil]at this
   exact h1.append aLe
  ·by_cases hi:i<gq.length
   ·rw[List.getElem?_append_left hi]at hu;exact h3 i u hu
   ·rw[List.getElem?_append_right (by omega)]at hu;have iZ:=(List.getElem?_eq_some_iff.1 hu).1;have:=g3 (i-gq.length) (by omega);rw[show n*4+(i-gq.length)=i from by omega,hu]at this;exact this
theorem azA{H:Type}{enc:TypeId×Value→H}{W:World}{fuel:Nat}{cs:List Value}{y:DataW H×List MemPlace} (h:DataW.trod enc aA W 0 (fun _=>true) true fuel 23 cs=some y) (hw:∀n∈y.1.weights aA 23,n≤reachBytes):∃ (l:List gz) (v:Value),cs= [v]∧RJ l∧(SV.rd false false WJ l).den (RM W) (kd []) v:=by
 rcases Go.Deep.open_slice underlying23 h with⟨e,_⟩|⟨a,len,cap,m,n,D,Pl,e,_,hlc,_,hm,hy,Q0⟩
 ·exact⟨[],_,e,fun k hk=>(by simp at hk),rfl,(fun e=>by cases e),.inr (.inr ⟨rfl,rfl⟩)⟩
 ·simp only[if_true]at hm;subst hm;have c4:Tryz.prog.cellsOf 43=4:=by kernel_rfl
  rw[c4]at Q0;have key:∀i,∃l:gz,∃us:List Value,i<len→(bL l.2.2.2∧l.2.2.2.length<140737488355328)∧us.length=4∧WJ.has (wx W) false l us∧∀j,j<4→W.cell? (a.add (i*4+j))=us[j]? :=by
   intro i;by_cases hi:i<len
   ·obtain⟨cs',h1,h2⟩:=Q0 i (by omega)
    obtain⟨m,m1,m2,m3⟩:=aLd h2 fun n hn=>hw n (by
     rw[hy];simp only[DataW.weights,underlying23];exact List.mem_cons_of_mem _ (List.mem_append_left _ (td hn (List.mem_map.2 ⟨i,List.mem_range.2 hi,rfl⟩))))
    obtain⟨_,c2,c3⟩:=World.cells?_some h1;refine⟨m,cs',fun _=>⟨m1,m2,m3,fun j hj=>?_⟩⟩;have:=c3 j hj;rw[Addr.add_add]at this;exact this
   ·exact⟨(0,0,0,[]),[],fun h=>absurd h hi⟩
  have hf:=fun i=>Classical.choose_spec (key i)
  let f:Nat→gz:=fun i=>Classical.choose (key i)
  have hg:=fun i=>Classical.choose_spec (hf i);refine⟨(List.range len).map f,_,e,?_,rfl,(fun e=>by cases e),.inr (.inl ⟨rfl,rfl,by decide,?_⟩)⟩
  ·intro k hk;have px:k<len:=(by simpa using hk);rw[List.getD_eq_getElem?_getD,List.getElem?_map,List.getElem?_range px];exact(hg k px).1
  ·obtain⟨gq,v1,v2,v3⟩:=aDJ (β:=wx W) (W:=W) (a:=a) len f _ fun i hi=>(hg i hi).2;refine⟨some a,len,_,rfl,by simp,hlc,(fun e=>by cases e),fun h0=>⟨a,gq,rfl,?_,v1,v3⟩⟩;have ko:0<gq.length:=(by rw[v2];omega);have GH:=v3 0 (gq[0]'ko) (List.getElem?_eq_getElem ko);have:a.add 0=a:=(by cases a;simp[Addr.add]);rw[this]at GH;exact World.cell?_spot GH
theorem RO{H:Type}{enc:TypeId×Value→H}{W:World}{base:Nat}{v:Value}{d:DataW H}{p:List MemPlace} (rD:Value.okWide aA W .any base 23 v) (h:DataW.Trod enc aA W 0 (fun _=>true) true 23 v d p) (hw:∀n∈d.weights aA 23,n≤reachBytes):∃l:List gz,RJ l∧(LV.one (.sc (.rd false false WJ l))).den (RM W) (kd []) v:=by
 obtain⟨fuel,h⟩:=h;have aLe:v.cells.toList= [v]:=by
  unfold Value.okWide at rD;rw[underlying23]at rD;cases v<;>first|rfl|(exfalso;simp[Cell.okWide,Cell.ok,underlying23]at rD)
 rw[aLe]at h;obtain⟨l,w,e,h1,h2⟩:=azA h hw;obtain rfl:v=w:=by simpa using e
 exact⟨l,h1,h2⟩
end Go.Proofs.YtliehnnljilacaaGreat
namespace Go.Proofs.YtliehnnljilacaaGreat
open Go Go.Ev Go.Proofs.Tryz
set_option maxHeartbeats 0
set_option maxRecDepth 1000000
theorem RP:∀ (l:List gz) (y:fE.D),(iV l y).1.length=l.length
 | [],_=>rfl
 |o::os,y=>by rw[iV,List.length_cons,List.length_cons,RP os]
abbrev aVX:cl (List LV) (ab×List gz×List gz×Unit):=bD cB (bD (bO (gx false false WJ)) (bD (bO (gx false false WJ)) bG))
abbrev yM:Type:=(List (Int×Int×Int×ab))×(List (Int×Int×Int×ab))×(List (Int×Int×Int×ab))×Int×Od×Od×Od
abbrev abR:cl St yM:=(dy (jk 1 (bD (bO (gx false false (ag.pair (ag.pair (ag.pair ae.sl))))) (bD (bO (gx false false (ag.pair (ag.pair (ag.pair ae.sl))))) (jk 6 (bR (bO (cr (0) (0))) (jk 1 (bR (bO (cr (1) (0))) (jk 1 (bR (bO (cr (2) (0))) (jk 1 (bD (bO (gx true false (ag.pair (ag.pair (ag.pair (ae.arr 64)))))) (bD (bO (bX i64)) (jk 113 bG))))))))))))) (bD (cb jOd) (bD (cb jOd) (bD (cb jOd) bG)))).jr (fun y=>(y.1.1,y.1.2.1,y.1.2.2.1,y.1.2.2.2.1,y.2.1,y.2.2.1,y.2.2.2.1)) (fun x=>((x.1,(x.2.1,(x.2.2.1,(x.2.2.2.1,())))),(x.2.2.2.2.1,(x.2.2.2.2.2.1,(x.2.2.2.2.2.2,()))))) (fun _=>rfl)
abbrev abS:List Wk:= [.fr (eH 130 [(1,.bV),(2,.bV),(9,.bV),(11,.bV),(13,.bV),(15,.bV),(16,.bV)]),.cu,.bS,.ck]
abbrev azB:Exit→List Wk:=ua abS 0 [.fr (eH 130 [(9,.bV),(11,.bV)]),.cu,.bS,.ck] [.fr (eH 130 [(6,.bV)]),.cu,.bS,.ck]
def RQ:Int×Int×Int×ab:=(0,0,0,[])
def gH(l:List (Int×Int×Int×ab))(i:Int):Int×Int×Int×ab:=l.getD i.toNat RQ
def yN(m:List (Int×Int×Int×ab))(i:Int):Int×Int×Int×ab:=m.getD i.toNat RQ
def jL(al:List (Int×Int×Int×ab))(i:Int):Int×Int×Int×ab:=al.getD i.toNat (0,0,0,List.replicate 64 (0:Int))
abbrev aqA(x:IE):Exit×St:=(Exit.ret,⟨(gE 6 (LV.one (VV.sc (SV.bool (SB.sym x)))::(gE 123 []))),[]⟩)
abbrev FY:Type:=Od×Od
abbrev aqB(x:FY):Exit×St:=(Exit.exit 0,⟨(gE 9 (LV.one (VV.sc (SV.ptr 0 0))::(gE 1 (LV.one (VV.sc (SV.ptr 1 0))::(gE 118 []))))),[some (jOd.wr x.1),some (jOd.wr x.2)]⟩)
abbrev FZ:Type:=IE⊕FY
abbrev aqC:FZ→Exit×St:=Sum.elim aqA aqB
def CE(l m al:List (Int×Int×Int×ab))(i:Int) (ya:Od) (yb:Od) (yo:Od):Tr (yM⊕(IE⊕FY)):=(.ite (decide (i<(↑l.length:Int))) (.ite (decide (i<(↑m.length:Int))) (.need (0≤i∧i<(↑m.length:Int)) (.need (FT (yN m i) yo) (.need (0≤i∧i<(↑l.length:Int)) (.need (FT (gH l i) yb) (.need (0≤i∧i<(↑al.length:Int)) (.ite (!((AQ (gH l i) yb.x).1.1==(jL al i).1&&((AQ (gH l i) yb.x).1.2.1==(jL al i).2.1&&((AQ (gH l i) yb.x).1.2.2.1==(jL al i).2.2.1&&(decide ((AQ (gH l i) yb.x).1.2.2.2=(jL al i).2.2.2)&&true))))) (.ret (.inr (.inl false))) (.ret (.inl (l,m,al,i64.wrap (i+1),ya,{D:=rK,x:=(AQ (gH l i) yb.x).2},{D:=rK,x:=(AQ (yN m i) yo.x).2}))))))))) (.need (0≤i∧i<(↑l.length:Int)) (.need (FT (gH l i) yb) (.need (0≤i∧i< (↑al.length:Int)) (.ite (!((AQ (gH l i) yb.x).1.1==(jL al i).1&&((AQ (gH l i) yb.x).1.2.1==(jL al i).2.1&&((AQ (gH l i) yb.x).1.2.2.1==(jL al i).2.2.1&&(decide ((AQ (gH l i) yb.x).1.2.2.2=(jL al i).2.2.2)&&true))))) (.ret (.inr (.inl false))) (.ret (.inl (l,m,al,i64.wrap (i+1),ya,{D:=rK,x:=(AQ (gH l i) yb.x).2},yo)))))))) (.ret (.inr (.inr (ya,yb)))))
abbrev z8(l m al:List (Int×Int×Int×ab))(i:Int)(ya yb yo:Od):Prop:=0≤i∧i≤l.length∧l.length≤30∧HR l∧HR m∧yb.D=rK∧uk yb.x∧yo.D=rK∧uk yo.x∧al.length=l.length∧(iV (l.drop i.toNat) yb.x).1=al.drop i.toNat
abbrev N7(l m al:List (Int×Int×Int×ab))(i:Int)(ya yb yo:Od):Tr FZ:=.ret (.inr (ya,⟨rK,(iV (l.drop i.toNat) yb.x).2⟩))
abbrev abT:yM→cT:=KN (aG z8) (aG N7) aqC
theorem aeO(l m al:List (Int×Int×Int×ab))(i:Int)(ya yb yo:Od)(h_:z8 l m al i ya yb yo)(z_:FZ)(fS:(N7 l m al i ya yb yo).Is z_):eG (fun x_:yM=>CE x_.1 x_.2.1 x_.2.2.1 x_.2.2.2.1 x_.2.2.2.2.1 x_.2.2.2.2.2.1 x_.2.2.2.2.2.2) (l,m,al,i,ya,yb,yo) z_:=by
 delta N7 at fS;obtain⟨h1,h2,h3,h4,h5,h6,h7,h8,h9,h10,H6⟩:=h_;obtain rfl:=bH.1 fS;clear fS;obtain⟨Db,xb⟩:=yb;obtain⟨Dq,xo⟩:=yo
 replace h6:Db=rK:=h6
 replace h8:Dq=rK:=h8
 subst h6 h8
 replace h7:uk xb:=h7
 replace h9:uk xo:=h9
 replace H6:(iV (l.drop i.toNat) xb).1=al.drop i.toNat:=H6
 obtain⟨k,rfl⟩:∃k:Nat,i=k:=⟨i.toNat,by omega⟩;obtain⟨q,hq⟩:∃q,l.length-k=q:=⟨_,rfl⟩;rw[Int.toNat_natCast]at H6 ⊢;induction q generalizing k xb xo with
 |zero=>
  refine .stop ?_;have d:¬ (k:Int)<l.length:=by omega
  rw[List.drop_of_length_le (by omega)];simp[CE,d,bY,bH,iV]
 |succ q ih=>
  have d:(k:Int)<l.length:=by omega
  have ho:=h4 k (by omega);rw[gU (0,0,0,[]) (by omega:k<l.length),iV,gU (0,0,0,List.replicate 64 (0:Int)) (by omega:k<al.length)]at H6;have e1:(AQ (l.getD k (0,0,0,[])) xb).1=al.getD k (0,0,0,List.replicate 64 (0:Int)):=(List.cons.inj H6).1;have e2:=(List.cons.inj H6).2;rw[gU (0,0,0,[]) (by omega:k<l.length),iV];have hw:i64.wrap ((k:Int)+1)=((k+1:Nat):Int):=by rw[bM (by omega) (by omega)];rfl
  have a1:gH l (k:Int)=l.getD k (0,0,0,[]):=by unfold gH;rw[Int.toNat_natCast];rfl
  have a3:jL al (k:Int)=al.getD k (0,0,0,List.replicate 64 (0:Int)):=by unfold jL;rw[Int.toNat_natCast]
  by_cases dm:(k:Int)<m.length
  ·have hm:=h5 k (by omega);have a2:yN m (k:Int)=m.getD k (0,0,0,[]):=(by unfold yN;rw[Int.toNat_natCast];rfl);refine .go ?_ (ih (AQ (l.getD k (0,0,0,[])) xb).2 (AQ (m.getD k (0,0,0,[])) xo).2 (z4 ho h7) (z4 hm h9) (k+1) (by first|omega|exact e2) (by first|omega|exact e2) (by first|omega|exact e2) (by first|omega|exact e2));simp only[CE,hw,a1,a2,a3,e1,bW,bF];refine⟨fun _=>⟨fun _=>⟨⟨by omega,dm⟩,⟨rfl,hm,h9⟩,⟨by omega,d⟩,⟨rfl,ho,h7⟩,⟨by omega,by omega⟩,cm.2 ⟨fun _=>bH.2 rfl,fun h=>by simp at h⟩⟩,fun h=>absurd dm h⟩,fun h=>absurd d h⟩
  ·refine .go ?_ (ih (AQ (l.getD k (0,0,0,[])) xb).2 xo (z4 ho h7) h9 (k+1) (by first|omega|exact e2) (by first|omega|exact e2) (by first|omega|exact e2) (by first|omega|exact e2));simp only[CE,hw,a1,a3,e1,bW,bF];exact⟨fun _=>⟨fun h=>absurd h dm,fun _=>⟨⟨by omega,d⟩,⟨rfl,ho,h7⟩,⟨by omega,by omega⟩,cm.2 ⟨fun _=>bH.2 rfl,fun h=>by simp at h⟩⟩⟩,fun h=>absurd d h⟩
theorem WO(y_):∀x:yM,Ex aA (bG.wr y_) (.loop (cG Tryz.f3 0)) (abR.wr x) (abT x):=Eu bJ ((bI FO (bI FL (bI RL (bI HS (bI aqm (bI abP (bI N0 (bI aqk (bI aql (bI aqj (bI HT bU)))))))))))) (ws:=azB) (cn.nil _) (fun _=>by kernel_rfl) (fun z=>by rcases z with _|_<;>(intro e;cases e)) (fun x_ h=>aeO x_.1 x_.2.1 x_.2.2.1 x_.2.2.2.1 x_.2.2.2.2.1 x_.2.2.2.2.2.1 x_.2.2.2.2.2.2 h)
def ef(s:ab):Cf:=([ady s],3)
def rk(s:ab)(l:List (Int×Int×Int×ab)):Int×Int×Int×Int×ab×Bool×Int×Int×Int×Int×ab×ab:=stE (iV (List.drop 0 l) (lK (ef s))).2
def CG(s:ab)(l:List (Int×Int×Int×ab)):Od:= {D:=rK,x:=(iV (List.drop 0 l) (lK (ef s))).2}
def aqD(s:ab)(l m:List (Int×Int×Int×ab)):Tr IE:=(.need vD (.ite ((!true)==false) (.need (yL l) (.ite ((!aqx l)==false) (.need (yL m) (.ite (!aqx m) (.ret true) (.need (z6 s) (.need (N1 (ef s)) (.need (N1 (ef s)) (.need (N1 (ef s)) (.need (n7 0) (.ite (((0:Int)!=0)==false) (.need (n7 0) (.ite (((0:Int)!=0)==false) (.need (n7 0) (.ite (((0:Int)!=0)==false) (.need (N2 l {D:=rK,x:=lK (ef s)}) (.ite ((↑(iV l (lK (ef s))).1.length:Int)!=(↑l.length:Int)) (.ret false) (.need (z8 l m (iV l (lK (ef s))).1 0 {D:=rK,x:=(iV l (lK (ef s))).2} {D:=rK,x:=lK (ef s)} {D:=rK,x:=lK (ef s)}) (.need (HQ {D:=rK,x:=(iV l (lK (ef s))).2}) (.need (HQ (CG s l)) (.need (z7 (((stE (iV l (lK (ef s))).2).1,(stE (iV l (lK (ef s))).2).2.1,(stE (iV l (lK (ef s))).2).2.2.1,(stE (iV l (lK (ef s))).2).2.2.2.1,(stE (iV l (lK (ef s))).2).2.2.2.2.1),(stE (iV l (lK (ef s))).2).2.2.2.2.2) (((rk s l).1,(rk s l).2.1,(rk s l).2.2.1,(rk s l).2.2.2.1,(rk s l).2.2.2.2.1),(rk s l).2.2.2.2.2)) (.ite (true==true) (.need (WI 0 1024 {D:=rK,x:=(iV l (lK (ef s))).2}) (.need (WI 0 1024 (CG s l)) (.ite (gP (daE 0 1024 (iV l (lK (ef s))).2) (daE 0 1024 (iV (List.drop 0 l) (lK (ef s))).2)==true) (.need (HQ {D:=rK,x:=(iV l (lK (ef s))).2}) (.need (HQ (CG s l)) (.ret (onE (iV l (lK (ef s))).2==onE (iV (List.drop 0 l) (lK (ef s))).2)))) (.ret false)))) (.ret false)))))))) (.ret false))) (.ret false))) (.ret false))))))))) (.ret true))) (.ret true)))
abbrev RR(s:ab)(l m:List gz):Prop:=(s.length=32∧bL s)∧RJ l∧RJ m
abbrev WQ(s:ab)(l m:List gz):IE:=true
def aLh:bT:=cj [none,some WJ,some WJ] aVX bG (q0∘q3 RR) (q0∘q3 WQ) aEH aEI
theorem aqE:ab6 RR aqD WQ:=by
 intro s l m h_;delta WQ;obtain⟨⟨h1,_⟩,b2,b3⟩:=h_;have hr:gy (ef s):=⟨Nat.le_refl 1,by show 1≤8;omega,by show(3:Int)≤3;omega,by show(3:Int)≤100;omega⟩
 have hk:zt (ef s).1:=fun k hk=>by
  have hk:k<1:=hk;obtain rfl:k=0:=by omega
  exact aij s
 have d0:uk (lK (ef s)):=azq hr hk;have hn:=RP l (lK (ef s));have f1:((!true)==false)=true:=rfl;have f2:(((0:Int)!=0)==false)=true:=rfl;have f3:(true==true)=true:=rfl;simp only[aqD,rk,CG,List.drop_zero,f1,f2,f3,Td,dH,bF];refine⟨trivial,b2,bY.2 ⟨fun el=>⟨b3,cm.2 ⟨fun em=>?_,fun _=>bH.2 rfl⟩⟩,fun _=>bH.2 rfl⟩⟩;have el:aqx l=true:=by simpa using el
 have h2:=b2.ok (of_decide_eq_true el).2;have h3:=b3.ok (of_decide_eq_true em).2;have dl:=abN h2 d0;have l30:=(of_decide_eq_true el).1;have m30:=(of_decide_eq_true em).1;refine⟨h1,hr,hr,hr,trivial,dH.2 ⟨trivial,dH.2 ⟨trivial,dH.2 ⟨⟨by omega,rfl,d0,h2⟩,b9.2 ⟨fun _=>⟨⟨Int.le_refl _,by omega,l30,h2,h3,rfl,d0,rfl,d0,hn,rfl⟩,⟨rfl,dl⟩,⟨rfl,dl⟩,by first|rfl|trivial,dH.2 ⟨⟨rfl,dl⟩,⟨rfl,dl⟩,dH.2 ⟨⟨rfl,dl⟩,⟨rfl,dl⟩,bH.2 (by simp)⟩⟩⟩,fun ne=>absurd (by rw[hn]) ne⟩⟩⟩⟩⟩
theorem aqF:aLh.Ok aA 3:=az (bI FO (bI FL (bI RL (bI HS (bI aqm (bI abP (bI N0 (bI aqk (bI aql (bI aqj (bI HT bU))))))))))) func3 call3 (ks:=eU) abR abS abT WO (fun x_ _=>@aqE x_.1 x_.2.1 x_.2.2.1)
end Go.Proofs.YtliehnnljilacaaGreat
