/- What the laws lean on, part 15: a reader of code, plain facts, and what each function gives; no conditions. -/
import Derived.Test.YtnbkagglkajbkaaGreatB14
set_option linter.unusedVariables false
set_option linter.unusedSimpArgs false
noncomputable section
namespace Go.Proofs.YtnbkagglkajbkaaGreat
open Go Go.Ev BJ Go.Proofs.Tryz
open Go.IntKind (i64 signed u16 u64 wrap)
set_option maxRecDepth 1000000
def ya(g:List Int→List Int):ar:=ar.dx [some (.sl u8)] rrA ag fun x _=>.leaf (some (x.1.length<2305843009213693952∧x.1.flatten.length<1152921504606846976)) (jq .u8 64 (g x.1.flatten)) []
theorem asT:ofE=ya aJ:=by kernel_rfl
theorem B4:(ya aJ).Ok Tryz.prog 22:=asT▸alg
abbrev ad2:ar:=F4
theorem ajs:ad2.Ok Tryz.prog 42:=pG
def Xc:List Int:= [83,105,103,69,100,50,53,53,49,57,32,110,111,32,69,100,50,53,53,49,57,32,99,111,108,108,105,115,105,111,110,115]
def oc(c:List Int):List Int:=if c.length≤255 then Xc++([1,(c.length:Int)]++c)else []
def Lw(g:List Int→List Int):ar:=ar.dx [some u8] bA ag fun x _=>.leaf none (.one (.sc (.sl 0 0))) [(0,.own 0 u8 (g x.1))]
abbrev av7:ar:=Lw oc
theorem Lx(c:List Int):aT Tryz.prog [(42,F4)] [] f79 (bA.wr (c,())) [] [.eW 0 u8,.auto,.aN]=
 End.ite (decide ((255:Int)<(↑c.length:Int))) (End.leaf (LV.one (VV.sc (SV.sl (0:Nat) (0:Nat)))) [some (Item.own (0:Nat) (Ty.int IntKind.u8)
 [])]) (End.need ([[(83:Int),(105:Int),(103:Int),(69:Int),(100:Int),(50:Int),(53:Int),(53:Int),(49:Int),(57:Int),(32:
 Int),(110:Int),(111:Int),(32:Int),(69:Int),(100:Int),(50:Int),(53:Int),(53:Int),(49:Int),(57:Int),(32:Int),(99:
 Int),(111:Int),(108:Int),(108:Int),(105:Int),(115:Int),(105:Int),(111:Int),(110:Int),(115:Int)],[(1:Int),IntKind.u8.wrap
 (↑c.length:Int)],c].flatten.length≤(70368744177664:Nat)∧(3:Nat)≤(140737488355328:Nat)) (End.leaf (LV.one (VV.sc (SV.sl (0:Nat) (0:
 Nat)))) [some (Item.own (0:Nat) (Ty.int IntKind.u8) [[(83:Int),(105:Int),(103:Int),(69:Int),(100:Int),(50:Int),(53:Int),(53:
 Int),(49:Int),(57:Int),(32:Int),(110:Int),(111:Int),(32:Int),(69:Int),(100:Int),(50:Int),(53:Int),(53:Int),(49:
 Int),(57:Int),(32:Int),(99:Int),(111:Int),(108:Int),(108:Int),(105:Int),(115:Int),(105:Int),(111:Int),(110:Int),(115
 :Int)],[(1:Int),IntKind.u8.wrap (↑c.length:Int)],c].flatten)])):=by kernel_rfl
theorem ad3:av7.Ok Tryz.prog 79:=by
 refine(ar.br call79 fun x_ y_ Q H_=>?_).sym;obtain⟨c,_⟩:=x_;refine(aA mixed (aj pG aE) func79 rfl (LT:= []) (ks:= [.eW 0 u8,.auto,.aN]) (aO.nil _)).use (D:= [(0,.own 0 u8 (oc c))]) ?_ H_.2;show(aT _ _ _ _ (bA.wr (c,())) [] _).sat _;rw[Lx];refine⟨fun h=>?_,fun h=>?_⟩
 ·have h:=of_decide_eq_true h;have e:oc c= []:=if_neg (by omega);rw[e];exact⟨rfl,rfl⟩
 ·have h:=of_decide_eq_false h;have e:oc c=Xc++([1,(c.length:Int)]++c):=if_pos (by omega);have ew:IntKind.u8.wrap (c.length:Int)=c.length:=by rw[wrap_u8];omega
  rw[e,ew];refine⟨⟨by simp;omega,by decide⟩,rfl,?_⟩;have e2:aF [(0,Ev.Item.own 0 u8 (Xc++([1,(c.length:Int)]++c)))] (ag.wr y_)= [some (Ev.Item.own 0 u8 (Xc++([1,(c.length:Int)]++c)))]:=rfl;rw[e2];simp[Xc]
def aoU(h:List Int):List Int:=((h.take 32).set 0 (bT .u8 ((h.take 32).getD 0 0) 7)).set 31 (bp .u8 (bT .u8 (((h.take 32).set 0 (bT .u8 ((h.take 32).getD 0 0) 7)).getD 31 0) 128) 64)
def ePa(sec fN:List Int→List Int):ar:=ar.dx [] lh ag fun x _=>.leaf (some (x.1.length=32)) (.cT [.agg [.arr (.int .u8) 32 (sec x.1)],.sc (.vb 0 0 (.int .u8) 64 32 32)]) [(0,.bm [.arr (.int .u8) 64 (fN x.1)] 41)]
def ln(s:List Int):List Int:=aoU (aJ s)
abbrev ajt:ar:=ePa ln aJ
theorem P7(fN:List Int→List Int)(s:List Int):aT Tryz.prog [(22,ya fN)] [] f77 (lh.wr (s,())) [] [.auto]=
 End.need ((0:Int)≤(0:Int)∧(0:Int)≤(32:Int)∧(32:Int)≤(32:Int)) (End.need ((1:Nat)<(2305843009213693952:Nat)∧ [List.take (32
 :Nat) (List.drop (0:Nat) s)].flatten.length<(1152921504606846976:Nat)) (End.need ((0:Int)≤(0:Int)∧(0:Int)≤(32:Int)∧(32:Int)≤
 (64:Int)) (End.need ((32:Nat)≤(List.take (32:Nat) (List.drop (0:Nat) (fN [List.take (32:Nat) (List.drop (0:Nat) s)].flatten))).length)
 (End.need ((32:Nat)≤(List.take (32:Nat) (List.drop (0:Nat) (fN [List.take (32:Nat) (List.drop (0:Nat) s)].flatten))).length) (End.need ((0
 :Int)≤(32:Int)∧(32:Int)≤(64:Int)∧(64:Int)≤(64:Int)) (End.leaf (LV.cT [VV.agg [SV.arr (Ty.int IntKind.u8) (32:Nat) (((List.take
 (32:Nat) (List.drop (0:Nat) (List.take (32:Nat) (List.drop (0:Nat) (fN [List.take (32:Nat) (List.drop (0:Nat) s)].flatten))))).set (0:
 Nat) (bT IntKind.u8 ((List.take (32:Nat) (List.drop (0:Nat) (List.take (32:Nat) (List.drop (0:Nat) (fN [List.take (32:Nat) (List.drop
 (0:Nat) s)].flatten))))).getD (0:Nat) (0:Int)) (7:Int))).set (31:Nat) (bp IntKind.u8 (bT IntKind.u8 (((List.take (32:Nat)
 (List.drop (0:Nat) (List.take (32:Nat) (List.drop (0:Nat) (fN [List.take (32:Nat) (List.drop (0:Nat) s)].flatten))))).set (0:Nat)
 (bT IntKind.u8 ((List.take (32:Nat) (List.drop (0:Nat) (List.take (32:Nat) (List.drop (0:Nat) (fN [List.take (32:Nat) (List.drop (0:
 Nat) s)].flatten))))).getD (0:Nat) (0:Int)) (7:Int))).getD (31:Nat) (0:Int)) (128:Int)) (64:Int)))],VV.sc (SV.vb (0:Nat) (0:Nat)
 (Ty.int IntKind.u8) (64:Nat) (32:Int) (32:Int))]) [some (Item.bm [SV.arr (Ty.int IntKind.u8) (64:Nat) (fN [List.take (32:Nat) (List.drop (0
 :Nat) s)].flatten)] (41:Nat))])))))):=by kernel_rfl
theorem D7:ajt.Ok Tryz.prog 77:=by
 refine(ar.br call77 fun x_ y_ Q H_=>?_).sym;obtain⟨s,_⟩:=x_;obtain⟨hn,hq⟩:=H_;have hn:s.length=32:=hn;refine(aA mixed (aj B4 aE) func77 rfl (LT:= []) (ks:= [.auto]) (aO.nil _)).use (D:= [(0,.bm [.arr (.int .u8) 64 (aJ s)] 41)]) ?_ hq;show(aT _ _ _ _ (lh.wr (s,())) [] _).sat _;rw[P7,bU hn,List.flatten_singleton];have hs:=cR s;have e1:List.take 32 (List.drop 0 (List.take 32 (List.drop 0 (aJ s))))=(aJ s).take 32:=by rw[List.drop_zero,List.drop_zero,List.take_take,Nat.min_self]
 have hl:(List.take 32 (List.drop 0 (aJ s))).length=32:=by simp[hs]
 rw[e1];exact⟨by decide,⟨by decide,by omega⟩,by decide,by omega,by omega,by decide,rfl,rfl⟩
def Xd(g:List Int→List Int):ar:=ar.dx [] lh ag fun x _=>.leaf (some (x.1.length=32)) (jq .u8 32 (g x.1)) []
theorem ad4{h:List Int}(hl:h.length=64):(aoU h).length=32:=by simp[aoU,hl]
theorem Ly(s:List Int):(ln s).length=32:=ad4 (cR s)
def aH(s:List Int):List Int:=bH (dz (ln s))
abbrev av8:ar:=Xd aH
theorem ad5(sec fN:List Int→List Int)(mb:List Int→Pt)(en:Pt→List Int)(s:List Int):aT Tryz.prog [(77,ePa sec fN),(80,eMb mb),(81,X1 en)] [] f51 ((lh).wr (s,())) [] kK=
 End.need (s.length=(32:Nat)) (End.need ((sec s).length=(32:Nat)) (End.leaf (LV.one (VV.agg [SV.arr (Ty.int IntKind.u8) (32:Nat) (en (mb (sec
 s)))])) [])):=by kernel_rfl
theorem ad6:∀p_∈([(77,ePa ln aJ),(80,eMb dz),(81,X1 bH)]:List (FuncId×ar)),p_.2.Ok Tryz.prog p_.1:=(aj D7 (aj Lb (aj sN aE)))
theorem ad7:av8.Ok Tryz.prog 51:=by
 refine(ar.br call51 fun x_ y_ Q H_=>?_).sym;obtain⟨s,_⟩:=x_;obtain⟨hn,hq⟩:=H_;have hn:s.length=32:=hn;refine(aA (tab:= [(77,ePa ln aJ),(80,eMb dz),(81,X1 bH)]) mixed ad6 func51 rfl (LT:= []) (ks:=kK) (aO.nil _)).use (D:= []) ?_ hq;show(aT _ _ _ _ ((lh).wr (s,())) [] _).sat _;rw[ad5 ln aJ dz bH];exact⟨hn,Ly s,rfl,rfl⟩
abbrev Ts:aW LV (List Int):=MT .u8 64
abbrev chA:aW (List LV) (List Int×List Int×List Int×List Int×Unit):=ae (ah (e9 false false u8)) (ae cB (ae cB (ae Ts ag)))
def eCh(g:List Int→List Int→List Int→List Int→List Int):ar:=ar.dx [some u8,none,none,none] chA ag fun x _=>.leaf (some (x.2.1.length=32∧x.2.2.1.length=32∧x.2.2.2.1.length=64)) (jq .u8 32 (g x.1 x.2.1 x.2.2.1 x.2.2.2.1)) []
def iv(c r p m:List Int):List Int:=sQ (aJ (oc c++(r++(p++m))))
theorem ad8(x:Int):al (dX x):=fun z hz=>by
 obtain⟨i,_,rfl⟩:=List.mem_map.1 hz;rw[wrap_u8];unfold By;omega
theorem qf(b:List Int):al (aJ b):=by
 have key:∀ (l:List Nat) (s a:List Int),al a→al (l.foldl (fun a i=>a++dX (s.getD i 0)) a):=by
  intro l s
  induction l with
  |nil=>exact fun a h=>h
  |cons i l ih=>exact fun a h=>ih _ (h.append (ad8 _))
 exact key _ _ [] (fun z hz=>by cases hz)
theorem He(x y:Int):By (bT .u8 x y):=by
 unfold bT By;rw[wrap_u8];omega
theorem ad9(x y:Int):By (bp .u8 x y):=by
 unfold bp By;show 0≤IntKind.u8.wrap _∧IntKind.u8.wrap _<256;rw[wrap_u8];omega
theorem D8{l:List Int}(h:al l){i:Nat}{x:Int}(hx:By x):al (l.set i x):=fun z hz=>by
 rcases List.mem_or_eq_of_mem_set hz with k|k
 ·exact h z k
 ·subst k;exact hx
theorem ajv(s:List Int):al (ln s):=D8 (D8 ((qf s).take 32) (He _ _)) (ad9 _ _)
theorem rv(s:List Int):okB (ln s):=⟨Ly s,ajv s⟩
theorem yS(b:List Int):okB (sQ b):=⟨cy _ _,oD (by decide) _ _⟩
theorem Tt(c:List Int):(oc c).length≤289:=by unfold oc Xc;split<;>simp;omega
abbrev asU:ar:=eCh iv
theorem Xe(fN pre red:List Int→List Int)(c r p m:List Int):aT Tryz.prog [(22,ya fN),(79,Lw pre),(78,Lt red)] [] f83 ((chA).wr (c,r,p,m,())) [] kK=
 End.need ((0:Int)≤(0:Int)∧(0:Int)≤(32:Int)∧(32:Int)≤(32:Int)) (End.need ((0:Int)≤(0:Int)∧(0:Int)≤(32:Int)∧(32:
 Int)≤(32:Int)) (End.need ((0:Int)≤(0:Int)∧(0:Int)≤(64:Int)∧(64:Int)≤(64:Int)) (End.need ((4:Nat)<(2305843009213693952:
 Nat)∧ [pre c,List.take (32:Nat) (List.drop (0:Nat) r),List.take (32:Nat) (List.drop (0:Nat) p),List.take (64:Nat) (List.drop (0:Nat)
 m)].flatten.length<(1152921504606846976:Nat)) (End.need ((fN [pre c,List.take (32:Nat) (List.drop (0:Nat) r),List.take (32:Nat) (List.drop
 (0:Nat) p),List.take (64:Nat) (List.drop (0:Nat) m)].flatten).length=(64:Nat)∧al (fN [pre c,List.take (32:Nat) (List.drop (0:Nat)
 r),List.take (32:Nat) (List.drop (0:Nat) p),List.take (64:Nat) (List.drop (0:Nat) m)].flatten)) (End.leaf (LV.one (VV.agg [SV.arr (Ty.int
 IntKind.u8) (32:Nat) (red (fN [pre c,List.take (32:Nat) (List.drop (0:Nat) r),List.take (32:Nat) (List.drop (0:Nat) p),List.take (64:
 Nat) (List.drop (0:Nat) m)].flatten))])) []))))):=by kernel_rfl
theorem Xf:∀p_∈([(22,ya aJ),(79,Lw oc),(78,Lt sQ)]:List (FuncId×ar)),p_.2.Ok Tryz.prog p_.1:=(aj B4 (aj ad3 (aj B3 aE)))
theorem Tu:asU.Ok Tryz.prog 83:=by
 refine(ar.br call83 fun x_ y_ Q H_=>?_).sym;obtain⟨c,r,p,m,_⟩:=x_;obtain⟨hn,hq⟩:=H_;have hn:r.length=32∧p.length=32∧m.length=64:=hn;refine(aA (tab:= [(22,ya aJ),(79,Lw oc),(78,Lt sQ)]) mixed Xf func83 rfl (LT:= []) (ks:=kK) (aO.nil _)).use (D:= []) ?_ hq;show(aT _ _ _ _ ((chA).wr (c,r,p,m,())) [] _).sat _;rw[Xe aJ oc sQ];rw[bU hn.1,bU hn.2.1,bU hn.2.2];have h1:=Tt c;have e: [oc c,r,p,m].flatten=oc c++(r++(p++m)):=by simp
 rw[e];refine⟨by decide,by decide,by decide,⟨by decide,by simp;omega⟩,⟨cR _,qf _⟩,rfl,rfl⟩
abbrev siA:aW (List LV) (List Int×List Int×List Int×Unit):=ae cB (ae (ah (e9 false false u8)) (ae Ts ag))
abbrev nSi(r:List Int×Int):LV:=.cT [.agg [.arr (.int .u8) 64 r.1],.sc (.int .i64 (.sym r.2))]
def eSi(g:List Int→List Int→List Int→List Int×Int):ar:=ar.dx [none,some u8,none] siA ag fun x _=>.leaf (some (x.1.length=32∧x.2.2.1.length=64)) (nSi (g x.1 x.2.1 x.2.2.1)) []
def kx(s c m:List Int):List Int:=sQ (aJ (oc c++((aJ s).drop 32++m)))
def xo(s c m:List Int):List Int:=bH (dz (kx s c m))++rG (iv c (bH (dz (kx s c m))) (aH s) m) (ln s) (kx s c m)
theorem Lz:∃f:List Int→List Int→List Int→List Int×Int,∀ (s c m:List Int),f s c m=(if c.length≤255 then(xo s c m,0)else(List.replicate 64 0,1)):=⟨fun s c m=>if c.length≤255 then(xo s c m,0)else(List.replicate 64 0,1),fun _ _ _=>rfl⟩
def nv:List Int→List Int→List Int→List Int×Int:=Classical.choose Lz
theorem qg(s c m:List Int):nv s c m=(if c.length≤255 then(xo s c m,0)else(List.replicate 64 0,1)):=Classical.choose_spec Lz s c m
theorem lZ(p:Pt):(bH p).length=32:=Vec.eI _
theorem iP(s:List Int):(aH s).length=32:=by unfold aH;exact lZ _
theorem B5(c r p m:List Int):okB (iv c r p m):=by unfold iv;exact yS _
theorem aea(a b c:List Int):(rG a b c).length=32:=cy _ _
theorem P8(sec fN pre red:List Int→List Int)(mb:List Int→Pt)(en:Pt→List Int)(qI:List Int→List Int)(ch:List Int→List Int→List Int→List Int→List Int)(mul:List Int→List Int→List Int→List Int)(s c m:List Int):aT Tryz.prog [(77,ePa sec fN),(22,ya fN),(79,Lw pre),(78,Lt red),(80,eMb mb),(81,X1 en),(51,Xd qI),(83,eCh ch),(82,eB3 mul),(42,ad2)] [] f38 (siA.wr (s,c,m,())) [] [.fr [.sym],.auto]=
 End.ite (decide ((255:Int)<(↑c.length:Int))) (End.leaf (LV.cT [VV.agg [SV.arr (Ty.int IntKind.u8) (64:Nat) (List.replicate (64:Nat) (0:
 Int))],VV.sc (SV.int i64 (SI.sym (1:Int)))]) []) (End.need (s.length=(32:Nat)) (End.need ((0:Int)≤(0:Int)∧(0:Int)≤(64:Int)
 ∧(64:Int)≤(64:Int)) (End.need ((3:Nat)<(2305843009213693952:Nat)∧ [pre c,List.take (32:Nat) (List.drop (32:Nat) (fN s)),List.take
 (64:Nat) (List.drop (0:Nat) m)].flatten.length<(1152921504606846976:Nat)) (End.need ((fN [pre c,List.take (32:Nat) (List.drop (32:Nat)
 (fN s)),List.take (64:Nat) (List.drop (0:Nat) m)].flatten).length=(64:Nat)∧al (fN [pre c,List.take (32:Nat) (List.drop (32:Nat)
 (fN s)),List.take (64:Nat) (List.drop (0:Nat) m)].flatten)) (End.need ((red (fN [pre c,List.take (32:Nat) (List.drop (32:Nat) (fN s)),
 List.take (64:Nat) (List.drop (0:Nat) m)].flatten)).length=(32:Nat)) (End.need (s.length=(32:Nat)) (End.need ((en (mb (red (fN [pre c,
 List.take (32:Nat) (List.drop (32:Nat) (fN s)),List.take (64:Nat) (List.drop (0:Nat) m)].flatten)))).length=(32:Nat)∧(qI s).length=
 (32:Nat)∧m.length=(64:Nat)) (End.need (okB (ch c (en (mb (red (fN [pre c,List.take (32:Nat) (List.drop (32:Nat) (fN s)),List.take (64:
 Nat) (List.drop (0:Nat) m)].flatten)))) (qI s) m)∧okB (sec s)∧okB (red (fN [pre c,List.take (32:Nat) (List.drop (32:Nat) (fN s)),
 List.take (64:Nat) (List.drop (0:Nat) m)].flatten))) (End.need ((0:Int)≤(0:Int)∧(0:Int)≤(32:Int)∧(32:Int)≤(32:Int)) (End.need
 ((0:Int)≤(0:Int)∧(0:Int)≤(32:Int)∧(32:Int)≤(32:Int)) (End.need ([List.take (32:Nat) (List.drop (0:Nat) (en (mb (red (fN [pre
 c,List.take (32:Nat) (List.drop (32:Nat) (fN s)),List.take (64:Nat) (List.drop (0:Nat) m)].flatten))))),List.take (32:Nat) (List.drop (0
 :Nat) (mul (ch c (en (mb (red (fN [pre c,List.take (32:Nat) (List.drop (32:Nat) (fN s)),List.take (64:Nat) (List.drop (0:Nat)
 m)].flatten)))) (qI s) m) (sec s) (red (fN [pre c,List.take (32:Nat) (List.drop (32:Nat) (fN s)),List.take (64:Nat) (List.drop (0:Nat)
 m)].flatten))))].flatten.length≤(70368744177664:Nat)∧(2:Nat)≤(140737488355328:Nat)) (End.need ((64:Nat)≤ [List.take (32:Nat)
 (List.drop (0:Nat) (en (mb (red (fN [pre c,List.take (32:Nat) (List.drop (32:Nat) (fN s)),List.take (64:Nat) (List.drop (0:Nat)
 m)].flatten))))),List.take (32:Nat) (List.drop (0:Nat) (mul (ch c (en (mb (red (fN [pre c,List.take (32:Nat) (List.drop (32:Nat) (fN s)),
 List.take (64:Nat) (List.drop (0:Nat) m)].flatten)))) (qI s) m) (sec s) (red (fN [pre c,List.take (32:Nat) (List.drop (32:Nat) (fN s)),
 List.take (64:Nat) (List.drop (0:Nat) m)].flatten))))].flatten.length) (End.need ((64:Nat)≤ [List.take (32:Nat) (List.drop (0:Nat) (en (mb
 (red (fN [pre c,List.take (32:Nat) (List.drop (32:Nat) (fN s)),List.take (64:Nat) (List.drop (0:Nat) m)].flatten))))),List.take (32:Nat)
 (List.drop (0:Nat) (mul (ch c (en (mb (red (fN [pre c,List.take (32:Nat) (List.drop (32:Nat) (fN s)),List.take (64:Nat) (List.drop (0:
 Nat) m)].flatten)))) (qI s) m) (sec s) (red (fN [pre c,List.take (32:Nat) (List.drop (32:Nat) (fN s)),List.take (64:Nat) (List.drop (0:
 Nat) m)].flatten))))].flatten.length) (End.leaf (LV.cT [VV.agg [SV.arr (Ty.int IntKind.u8) (64:Nat) (List.take (64:Nat) (List.drop (0:Nat)
 [List.take (32:Nat) (List.drop (0:Nat) (en (mb (red (fN [pre c,List.take (32:Nat) (List.drop (32:Nat) (fN s)),List.take (64:Nat)
 (List.drop (0:Nat) m)].flatten))))),List.take (32:Nat) (List.drop (0:Nat) (mul (ch c (en (mb (red (fN [pre c,List.take (32:Nat) (List.drop
 (32:Nat) (fN s)),List.take (64:Nat) (List.drop (0:Nat) m)].flatten)))) (qI s) m) (sec s) (red (fN [pre c,List.take (32:Nat) (List.drop (32
 :Nat) (fN s)),List.take (64:Nat) (List.drop (0:Nat) m)].flatten))))].flatten))],VV.sc (SV.int i64 (SI.sym (0:Int)))])
 [])))))))))))))):=by kernel_rfl
theorem aeb(sec fN pre red:List Int→List Int)(mb:List Int→Pt)(en:Pt→List Int)(qI:List Int→List Int)(ch:List Int→List Int→List Int→List Int→List Int)(mul:List Int→List Int→List Int→List Int){s c m:List Int}(hs:s.length=32)(hm:m.length=64)(h1:∀b,(fN b).length=64)(h2:∀b,al (fN b))(h3:∀b,okB (red b))(h4:∀q,(en q).length=32)(h5:(qI s).length=32)(h6:∀a b c d,okB (ch a b c d))(h7:okB (sec s))(h8:∀a b c,(mul a b c).length=32)(h9:(pre c).length≤289):
  ∃t_:Ev.End,aT Tryz.prog [(77,ePa sec fN),(22,ya fN),(79,Lw pre),(78,Lt red),(80,eMb mb),(81,X1 en),(51,Xd qI),(83,eCh ch),(82,eB3 mul),(42,ad2)] [] f38 (siA.wr (s,c,m,())) [] [.fr [.sym],.auto]=t_∧t_.sat fun v eK=>v=nSi (if c.length≤255 then(en (mb (red (fN (pre c++((fN s).drop 32++m)))))++mul (ch c (en (mb (red (fN (pre c++((fN s).drop 32++m)))))) (qI s) m) (sec s) (red (fN (pre c++((fN s).drop 32++m)))),0)else(List.replicate 64 0,1))∧eK= []:=by
 refine⟨_,P8 ..,?_⟩;have e1:List.take 32 (List.drop 32 (fN s))=(fN s).drop 32:=List.take_of_length_le (by rw[List.length_drop,h1];decide);have e2:List.take 64 (List.drop 0 m)=m:=bU hm;have e3: [pre c,(fN s).drop 32,m].flatten=pre c++((fN s).drop 32++m):=by simp
 rw[e1,e2,e3];have l1:(pre c++((fN s).drop 32++m)).length<1152921504606846976:=by simp[h1,hm];omega
 have l2:=h3 (fN (pre c++((fN s).drop 32++m)));generalize red (fN (pre c++((fN s).drop 32++m)))=n at*;have l3:∀ {l:List Int},l.length=32→List.take 32 (List.drop 0 l)=l:=fun h=>bU h;rw[l3 (h4 _),l3 (h8 _ _ _)];have l4:∀a b:List Int,[a,b].flatten=a++b:=fun a b=>by simp
 have l5:(en (mb n)++mul (ch c (en (mb n)) (qI s) m) (sec s) n).length=64:=by rw[List.length_append,h4,h8]
 rw[l4,bU l5];refine⟨fun h=>?_,fun h=>?_⟩
 ·have h:=of_decide_eq_true h;rw[if_neg (by omega)];exact⟨rfl,rfl⟩
 ·have h:=of_decide_eq_false h;rw[if_pos (by omega)];exact⟨hs,by decide,⟨by decide,l1⟩,⟨h1 _,h2 _⟩,l2.1,hs,⟨h4 _,h5,hm⟩,⟨h6 _ _ _ _,h7,l2⟩,by decide,by decide,⟨by omega,by decide⟩,by omega,by omega,rfl,rfl⟩
theorem P9(s c m:List Int):nv s c m=(if c.length≤255 then(bH (dz (sQ (aJ (oc c++((aJ s).drop 32++m)))))++rG (iv c (bH (dz (sQ (aJ (oc c++((aJ s).drop 32++m)))))) (aH s) m) (ln s) (sQ (aJ (oc c++((aJ s).drop 32++m)))),0)else(List.replicate 64 0,1)):=by rw[qg,xo,kx]
abbrev asW:ar:=eSi nv
theorem Xg:∀p_∈([(77,ePa ln aJ),(22,ya aJ),(79,Lw oc),(78,Lt sQ),(80,eMb dz),(81,X1 bH),(51,Xd aH),(83,eCh iv),(82,eB3 rG),(42,ad2)]:List (FuncId×ar)),p_.2.Ok Tryz.prog p_.1:=(aj D7 (aj B4 (aj ad3 (aj B3 (aj Lb (aj sN (aj ad7 (aj Tu (aj P6 (aj ajs aE))))))))))
theorem ajw:asW.Ok Tryz.prog 38:=by
 refine(ar.br call38 fun x_ y_ Q H_=>?_).sym;obtain⟨s,c,m,_⟩:=x_;obtain⟨hn,hq⟩:=H_;have hn:s.length=32∧m.length=64:=hn;have XZ:j6 Tryz.prog 38 ((siA).wr (s,c,m,())) [] (aT Tryz.prog [(77,ePa ln aJ),(22,ya aJ),(79,Lw oc),(78,Lt sQ),(80,eMb dz),(81,X1 bH),(51,Xd aH),(83,eCh iv),(82,eB3 rG),(42,ad2)] [] f38 ((siA).wr (s,c,m,())) [] [.fr [.sym],.auto]):=aA mixed Xg func38 rfl (aO.nil _);obtain⟨t_,ht_,hs_⟩:=aeb ln aJ oc sQ dz bH aH iv rG hn.1 hn.2 cR qf yS lZ (iP s) B5 (rv s) aea (Tt c);rw[← P9 s c m]at hs_;rw[ht_]at XZ;exact XZ.use (D:= []) hs_ hq
abbrev veA:aW (List LV) (List Int×List Int×List Int×List Int×Unit):=ae cB (ae (ah (e9 false false u8)) (ae Ts (ae Ts ag)))
def eVe(g:List Int→List Int→List Int→List Int→Bool):ar:=ar.dx [none,some u8,none,none] veA ag fun x _=>.leaf (some (x.1.length=32∧x.2.2.1.length=64∧x.2.2.2.1.length=64∧al x.2.2.2.1)) (nB (g x.1 x.2.1 x.2.2.1 x.2.2.2.1)) []
theorem Tv:∃f:List Int→List Int→List Int→List Int→Bool,∀ (p c m g:List Int),f p c m g=((ga p).2&&(decide (c.length≤255)&&(sP (g.drop 32)&&decide (bH (CO (iv c (g.take 32) p m) (nq (ga p).1) (g.drop 32))=g.take 32)))):=⟨fun p c m g=>(ga p).2&&(decide (c.length≤255)&&(sP (g.drop 32)&&decide (bH (CO (iv c (g.take 32) p m) (nq (ga p).1) (g.drop 32))=g.take 32))),fun _ _ _ _=>rfl⟩
def ky:List Int→List Int→List Int→List Int→Bool:=Classical.choose Tv
theorem Hf(p c m g:List Int):ky p c m g=((ga p).2&&(decide (c.length≤255)&&(sP (g.drop 32)&&decide (bH (CO (iv c (g.take 32) p m) (nq (ga p).1) (g.drop 32))=g.take 32)))):=Classical.choose_spec Tv p c m g
theorem aec{l:List Int}(h:l.length=32):List.take 32 (List.drop 0 l)=l:=bU h
theorem Hg(de:List Int→Pt×Bool)(can:List Int→Bool)(two:List Int→Pt→List Int→Pt)(ch:List Int→List Int→List Int→List Int→List Int)(neg:Pt→Pt)(en:Pt→List Int)(p c m g:List Int):aT Tryz.prog [(238,eDe de),(239,eBB can),(240,eTw two),(83,eCh ch),(241,BS neg),(81,X1 en)] [] f169 (veA.wr (p,c,m,g,())) [] kK=
 End.need ((0:Int)≤(0:Int)∧(0:Int)≤(32:Int)∧(32:Int)≤(64:Int)) (End.need ((32:Nat)≤(List.take (32:Nat) (List.drop (0:Nat)
 g)).length) (End.need ((32:Nat)≤(List.take (32:Nat) (List.drop (0:Nat) g)).length) (End.need ((0:Int)≤(32:Int)∧(32:Int)≤(64:Int)
 ∧(64:Int)≤(64:Int)) (End.need ((32:Nat)≤(List.take (32:Nat) (List.drop (32:Nat) g)).length) (End.need ((32:Nat)≤(List.take (32:
 Nat) (List.drop (32:Nat) g)).length) (End.need (p.length=(32:Nat)) (End.ite ((!(de p).snd)==false) (End.ite (decide ((255:Int)<(↑c.length:
 Int))==false) (End.need (okB (List.take (32:Nat) (List.drop (0:Nat) (List.take (32:Nat) (List.drop (32:Nat) g))))) (End.ite (!can (List.take
 (32:Nat) (List.drop (0:Nat) (List.take (32:Nat) (List.drop (32:Nat) g))))) (End.leaf (LV.one (VV.sc (SV.bool (SB.sym false)))) []) (End.need
 ((List.take (32:Nat) (List.drop (0:Nat) (List.take (32:Nat) (List.drop (0:Nat) g)))).length=(32:Nat)∧p.length=(32:Nat)∧m.length=
 (64:Nat)) (End.need ((ch c (List.take (32:Nat) (List.drop (0:Nat) (List.take (32:Nat) (List.drop (0:Nat) g)))) p m).length=(32:Nat)∧
 (List.take (32:Nat) (List.drop (0:Nat) (List.take (32:Nat) (List.drop (32:Nat) g)))).length=(32:Nat)) (End.leaf (LV.one (VV.sc (SV.bool
 (SB.sym (decide (en (two (ch c (List.take (32:Nat) (List.drop (0:Nat) (List.take (32:Nat) (List.drop (0:Nat) g)))) p m) (neg (de p).fst)
 (List.take (32:Nat) (List.drop (0:Nat) (List.take (32:Nat) (List.drop (32:Nat) g)))))=List.take (32:Nat) (List.drop (0:Nat) (List.take
 (32:Nat) (List.drop (0:Nat) g))))))))) []))))) (End.leaf (LV.one (VV.sc (SV.bool (SB.sym false)))) [])) (End.leaf (LV.one (VV.sc (SV.bool (SB.sym
 false)))) [])))))))):=by kernel_rfl
theorem Qa(de:List Int→Pt×Bool)(can:List Int→Bool)(two:List Int→Pt→List Int→Pt)(ch:List Int→List Int→List Int→List Int→List Int)(neg:Pt→Pt)(en:Pt→List Int){p c m g:List Int}(h1:p.length=32)(h2:m.length=64)(h3:g.length=64)(h4:al g)(h5:∀a b c d,(ch a b c d).length=32):
  ∃t_:Ev.End,aT Tryz.prog [(238,eDe de),(239,eBB can),(240,eTw two),(83,eCh ch),(241,BS neg),(81,X1 en)] [] f169 (veA.wr (p,c,m,g,())) [] kK=t_∧t_.sat fun v eK=>v=nB ((de p).2&&(decide (c.length≤255)&&(can (g.drop 32)&&decide (en (two (ch c (g.take 32) p m) (neg (de p).1) (g.drop 32))=g.take 32))))∧eK= []:=by
 refine⟨_,Hg ..,?_⟩;have l1:(g.take 32).length=32:=by rw[List.length_take,h3];decide
 have l2:(g.drop 32).length=32:=by rw[List.length_drop,h3]
 have e1:List.take 32 (List.drop 32 g)=g.drop 32:=List.take_of_length_le (by omega);have e2:List.take 32 (List.drop 0 g)=g.take 32:=by rw[List.drop_zero]
 rw[e1,e2,aec l1,aec l2];have hb:al (g.drop 32):=h4.drop 32;generalize de p=d at*;generalize g.take 32=r at*;generalize g.drop 32=s at*;obtain⟨a,ok⟩:=d;refine⟨by decide,by omega,by omega,by decide,by omega,by omega,h1,?_⟩
 cases ok
 ·exact⟨fun h=>(by cases h),fun _=>⟨rfl,rfl⟩⟩
 ·refine⟨fun _=>⟨fun h=>⟨⟨l2,hb⟩,fun h'=>?_,fun h'=>⟨⟨l1,h1,h2⟩,⟨h5 _ _ _ _,l2⟩,?_,rfl⟩⟩,fun h=>?_⟩,fun h=>(by cases h)⟩
  ·have h':can s=false:=(by simpa using h');rw[h'];simp;exact⟨rfl,rfl⟩
  ·have h':can s=true:=(by simpa using h');have h:c.length≤255:=(by simp at h;omega);rw[h',decide_eq_true h];simp
  ·have h:¬c.length≤255:=(by simp at h;omega);rw[decide_eq_false h];simp;exact⟨rfl,rfl⟩
abbrev ajx:ar:=eVe ky
theorem LA:∀p_∈([(238,eDe ga),(239,eBB sP),(240,eTw CO),(83,eCh iv),(241,BS nq),(81,X1 bH)]:List (FuncId×ar)),p_.2.Ok Tryz.prog p_.1:=(aj PV (aj Xb (aj aiX (aj Tu (aj aiJ (aj sN aE))))))
theorem Xh:ajx.Ok Tryz.prog 169:=by
 refine(ar.br call169 fun x_ y_ Q H_=>?_).sym;obtain⟨p,c,m,g,_⟩:=x_;obtain⟨hn,hq⟩:=H_;have hn:p.length=32∧m.length=64∧g.length=64∧al g:=hn;have XZ:j6 Tryz.prog 169 ((veA).wr (p,c,m,g,())) [] (aT Tryz.prog [(238,eDe ga),(239,eBB sP),(240,eTw CO),(83,eCh iv),(241,BS nq),(81,X1 bH)] [] f169 ((veA).wr (p,c,m,g,())) [] kK):=aA mixed LA func169 rfl (aO.nil _);obtain⟨t_,ht_,hs_⟩:=Qa ga sP CO iv nq bH hn.1 hn.2.1 hn.2.2.1 hn.2.2.2 (fun a b c d=>(B5 a b c d).1);rw[← Hf p c m g]at hs_;rw[ht_]at XZ;exact XZ.use (D:= []) hs_ hq
end Go.Proofs.YtnbkagglkajbkaaGreat
end
noncomputable section
namespace BJ
abbrev N4:=Nat×Nat×Nat×Nat
def sR(a b:Nat):Nat:=a*b%pp
def Hh(a b:Nat):Nat:=(a+b)%pp
def Qb(a b:Nat):Nat:=(pp-b+a)%pp
def ddN:Nat:=37095705934669439343138083508754565189542113879843219016388785533085940283555
def LB(p q:N4):N4:=
 let a:=sR (Qb p.2.1 p.1) (Qb q.2.1 q.1)
 let b:=sR (Hh p.2.1 p.1) (Hh q.2.1 q.1)
 let c:=Hh (sR (sR p.2.2.2 q.2.2.2) ddN) (sR (sR p.2.2.2 q.2.2.2) ddN)
 let d:=Hh (sR p.2.2.1 q.2.2.1) (sR p.2.2.1 q.2.2.1)
 (sR (Qb b a) (Qb d c),sR (Hh d c) (Hh b a),sR (Qb d c) (Hh d c),sR (Qb b a) (Hh b a))
def vals(p:E4):N4:=(p.1.val,p.2.1.val,p.2.2.1.val,p.2.2.2.val)
theorem B6(p q:E4):LB (vals p) (vals q)=vals (BA p q):=by
 have hd:dd.val=ddN:=rfl;simp only[LB,vals,BA,sR,Hh,Qb,Fin.val_mul,Fin.val_add,Fin.sub_def,hd]
def Tw(V:Nat)(p:N4)(k:Nat)(r:N4):N4:=bif Nat.beq (V/2 ^ (255-k)%2) 1 then LB (LB r r) p else LB r r
end BJ
namespace Go.Proofs.YtnbkagglkajbkaaGreat
open Go Go.Ev BJ Go.Proofs.Tryz
open Go.IntKind (i64 signed u16 u64 wrap)
theorem Qc(V:Nat)(p:E4)(k:Nat)(r:E4):Tw V (vals p) k (vals r)=vals (lf V p k r):=by
 unfold Tw lf Pp;rw[B6,B6]
 by_cases h:V/2 ^ (255-k)%2=1
 ·rw[decide_eq_true h,h];rfl
 ·have e:Nat.beq (V/2 ^ (255-k)%2) 1=false:=by
   cases e:Nat.beq (V/2 ^ (255-k)%2) 1 with
   |false=>rfl
   |true=>exact absurd (Nat.eq_of_beq_eq_true e) h
  rw[decide_eq_false h,e];rfl
def aed:N4:=(0,1,1,0)
def aee:N4:=(15112221349535400772501151409588531511454012693041857206046113283949847762202,46316835694926478169428394003475163141307993866256225615783033603165251855960,1,46827403850823179245072216630277197565144205554125654976674165829533817101731)
theorem aef:aed=vals oC:=rfl
theorem aeg:aee=vals (xc vm rN):=by decide+kernel
def alI(V:Nat):N4:=gC (Tw V aee) 256 aed
theorem Qd(V:Nat):alI V=vals (Kz V (xc vm rN)):=by
 have key:∀k,gC (Tw V aee) k aed=vals (gC (lf V (xc vm rN)) k oC):=by
  intro k
  induction k with
  |zero=>exact aef
  |succ k ih=>
   simp only[gC];rw[ih,aeg,Qc]
 exact key 256
def isN(V x y:Nat):Bool:=(fun r:N4=>Nat.beq r.1 (sR x r.2.2.1)&&Nat.beq r.2.1 (sR y r.2.2.1)) (alI V)
theorem aoV{V x y:Nat}(hV:V<2 ^ 256)(hx:x<pp)(hy:y<pp)(h:isN V x y=true):(dR V bJ).x.val=x∧(dR V bJ).y.val=y:=by
 have hi:KA (Kz V (xc vm rN)) (dR V bJ):=KF hV (yP bJ);unfold isN at h;rw[Qd]at h;generalize Kz V (xc vm rN)=p at*;generalize dR V bJ=P at*;obtain⟨h0,h1,h2,_⟩:=hi;simp only[Bool.and_eq_true]at h;have e1:p.1.val=x*p.2.2.1.val%pp:=Nat.eq_of_beq_eq_true h.1;have e2:p.2.1.val=y*p.2.2.1.val%pp:=Nat.eq_of_beq_eq_true h.2;have f1:p.1=(⟨x,hx⟩:F)*p.2.2.1:=Fin.ext (by rw[e1,Fin.val_mul]);have f2:p.2.1=(⟨y,hy⟩:F)*p.2.2.1:=Fin.ext (by rw[e2,Fin.val_mul]);rw[h1]at f1;rw[h2]at f2
 have c:∀ {a b:F},a*p.2.2.1=b*p.2.2.1→a=b:=fun {a b} e=>by
  have h3:p.2.2.1*F.inv p.2.2.1=1:=F.inv_mul h0;have e':=congrArg (fun z=>z*F.inv p.2.2.1) e
  grobner
 exact⟨by rw[c f1],by rw[c f2]⟩
def llN:Nat:=7237005577332262213973186563042994240857116359379907606001950938285454250989
theorem Xi:isN llN 0 1=true:=by decide+kernel
theorem sS:dR llN bJ=BJ.Pt.zero:=by
 obtain⟨h1,h2⟩:=aoV (V:=llN) (by decide) (by decide) (by decide) Xi;exact BJ.Pt.ext' (Fin.ext h1) (Fin.ext h2)
theorem ajy:bJ≠BJ.Pt.zero:=fun h=>by
 have:=congrArg (fun P:BJ.Pt=>P.x.val) h
 revert this
 decide
theorem og{m:Nat}(h:dR m bJ=BJ.Pt.zero)(k:Nat):dR (k*m) bJ=BJ.Pt.zero:=by
 rw[S3,h,KD]
theorem D9{n a:Nat}(hr:fJ n a)(hz:dR n bJ=BJ.Pt.zero){m:Nat}(hm:dR m bJ=BJ.Pt.zero):m%n=0:=by
 refine Classical.byContradiction fun h=>ajy ?_;have hf:=hr.sD h;have hn:=hr.1;have e:m ^ (n-1)=m ^ (n-2)*m:=by rw[← Nat.pow_succ];congr 1;omega
 have h1:dR (m ^ (n-1)) bJ=BJ.Pt.zero:=by rw[e];exact og hm _
 have h2:m ^ (n-1)=m ^ (n-1)/n*n+1:=by
  have:=Nat.div_add_mod (m ^ (n-1)) n;rw[hf,Nat.mul_comm]at this;exact this.symm
 rw[h2,lX,og hz,aih,BJ.Pt.zero_add]at h1;exact h1
theorem DH{m:Nat}(hm:dR m bJ=BJ.Pt.zero):m%llN=0:=D9 bf sS hm
theorem LC{n:Nat}(hz:dR n bJ=BJ.Pt.zero)(m:Nat):dR (m%n) bJ=dR m bJ:=by
 have h2:m=m/n*n+m%n:=by
  have:=Nat.div_add_mod m n;rw[Nat.mul_comm]at this;exact this.symm
 conv=>rhs;rw[h2,lX,og hz,BJ.Pt.zero_add]
theorem ajz(m:Nat):dR (m%llN) bJ=dR m bJ:=LC sS m
theorem LD{n a:Nat}(hr:fJ n a)(hz:dR n bJ=BJ.Pt.zero){k m:Nat}(h1:k<n)(h2:m<n)(h:dR k bJ=dR m bJ):k=m:=by
 have key:∀ {k m:Nat},k<n→m<n→k≤m→dR k bJ=dR m bJ→k=m:=fun {k m} h1 h2 hle h=>by
  have e:dR (m-k) bJ=BJ.Pt.zero:=by
   have e1:m=k+(m-k):=(by omega);rw[e1,lX]at h;have e2:(dR k bJ).add BJ.Pt.zero=(dR k bJ).add (dR (m-k) bJ):=(by rw[BJ.Pt.add_zero];exact h);exact(KE e2).symm
  have:=D9 hr hz e;rw[Nat.mod_eq_of_lt (by omega)]at this;omega
 rcases Nat.le_total k m with h3|h3
 ·exact key h1 h2 h3 h
 ·exact(key h2 h1 h3 h.symm).symm
theorem ajA{k m:Nat}(h1:k<llN)(h2:m<llN)(h:dR k bJ=dR m bJ):k=m:=LD bf sS h1 h2 h
end Go.Proofs.YtnbkagglkajbkaaGreat
end
noncomputable section
namespace Go.Proofs.YtnbkagglkajbkaaGreat
open Go Go.Ev BJ Go.Proofs.Tryz
open Go.IntKind (i64 signed u16 u64 wrap)
set_option maxRecDepth 1000000
theorem okV{n:Nat}:∀ {v:Vec Int n},nm v→al v.toList∧vd 256 v.toList=bZ v:=by
 induction n with
 |zero=>exact fun {v} _=>⟨(fun z hz=>by cases hz),rfl⟩
 |succ n ih=>
  intro v h;obtain⟨h1,h2⟩:=ih h.2;refine⟨fun z hz=>?_,?_⟩
  ·rcases List.mem_cons.1 hz with rfl|hz
   ·exact h.1
   ·exact h1 z hz
  ·show v.1+256*vd 256 v.2.toList=v.1+256*bZ v.2;rw[h2]
theorem Hi{l:List Int}(h:okB l):nm (oB l)∧bZ (oB l)=vd 256 l:=by
 have h1:nm (oB l):=Bz fun i _=>gD.getD (by decide) h.2 i;have:=(okV h1).2;rw[jx h.1]at this;exact⟨h1,this.symm⟩
def sc(n:List Int):Nat:=(vd 256 n).toNat
theorem Xj{n:List Int}(hn:okB n){p:Pt}{P:BJ.Pt}(hp:Cs p P):Cs (xX n p) (dR (sc n) P):=by
 obtain⟨h1,h2⟩:=Hi hn;rw[La,sc,← h2];exact ac3 h1 hp
theorem jy{n:List Int}(hn:okB n):Cs (dz n) (dR (sc n) bJ):=Xj hn BG
theorem aei{n m:List Int}(hn:okB n)(hm:okB m){p:Pt}{P:BJ.Pt}(hp:Cs p P):Cs (CO n p m) ((dR (sc n) P).add (dR (sc m) bJ)):=by
 obtain⟨h1,h2⟩:=Hi hn;obtain⟨h3,h4⟩:=Hi hm;rw[Ti,sc,sc,← h2,← h4];exact aio h1 h3 hp
def yb(P:BJ.Pt):List Int:=(qb P).toList
theorem yT(P:BJ.Pt):okB (yb P):=⟨Vec.eI _,(okV (KG P).1).1⟩
theorem aej{P Q:BJ.Pt}(h:yb P=yb Q):P=Q:=ac2 (Vec.toList_inj h)
theorem sT{p:Pt}{P:BJ.Pt}(h:Cs p P):bH p=yb P:=by unfold bH yb;rw[ail h]
theorem aoW(P:BJ.Pt):(ga (yb P)).2=true∧Cs (ga (yb P)).1 P:=by
 obtain⟨h1,h2⟩:=KG P;obtain⟨d1,d2,d3⟩:=Wi h1;unfold ga yb;rw[BM];refine⟨by rw[d3,h2],d1,?_⟩;rw[d2,h2];exact yP P
theorem alJ{x:Int}(h:0≤x∧x<ll):sc (dg 256 32 x)=x.toNat:=by
 have e:ll<256 ^ 32:=by decide+kernel
 unfold sc;rw[nu (by decide),Int.emod_eq_of_lt h.1 (by omega)]
theorem Qe:((llN:Nat):Int)=ll:=rfl
theorem ajB{a b c:List Int}(ha:okB a)(hb:okB b)(hc:okB c):sc (rG a b c)=(sc a*sc b+sc c)%llN:=by
 unfold rG;rw[alJ ⟨Int.emod_nonneg _ (by have:=kc;omega),Int.emod_lt_of_pos _ kc⟩];have h1:=ha.range.1;have h2:=hb.range.1;have h3:=hc.range.1;unfold sc;obtain⟨x,hx⟩:=Int.eq_ofNat_of_zero_le h1;obtain⟨y,hy⟩:=Int.eq_ofNat_of_zero_le h2;obtain⟨z,hz⟩:=Int.eq_ofNat_of_zero_le h3;rw[hx,hy,hz,← Qe];simp only[Int.toNat_natCast];rw[← Int.natCast_mul,← Int.natCast_add,← Int.natCast_emod,Int.toNat_natCast]
theorem Tx(a b c:List Int):okB (rG a b c)∧sc (rG a b c)<llN:=by
 refine⟨⟨cy _ _,oD (by decide) _ _⟩,?_⟩;unfold rG;have h1:=Int.emod_nonneg (vd 256 a*vd 256 b+vd 256 c) (show ll≠0 by have:=kc;omega);have h2:=Int.emod_lt_of_pos (vd 256 a*vd 256 b+vd 256 c) kc;rw[alJ ⟨h1,h2⟩];have:=Qe;omega
theorem LF{s:List Int}(h:okB s):sP s=true↔sc s<llN:=by
 unfold sP sc;have h1:=h.range.1;have:=Qe;rw[decide_eq_true_iff];omega
theorem ajC{a b:List Int}(ha:okB a)(hb:okB b)(h:sc a=sc b):a=b:=by
 refine adK (B:=256) (by decide) ha.2 hb.2 (by rw[ha.1,hb.1]) ?_;unfold sc at h;have h1:=ha.range.1;have h2:=hb.range.1;omega
theorem Hj(P:BJ.Pt):P.neg.add P=BJ.Pt.zero:=by rw[BJ.Pt.add_comm];exact BJ.Pt.add_neg P
theorem ajD{s c m t:List Int}(hc:c.length≤255)(ht:okB t)(hs:s.length=32):
  ky (aH s) c m (bH (dz (kx s c m))++t)=decide (t=rG (iv c (bH (dz (kx s c m))) (aH s) m) (ln s) (kx s c m)):=by
 have hn:okB (kx s c m):=yS _;have hr:=jy hn;have er:=sT hr;have ha:=jy (rv s);have ep:aH s=yb (dR (sc (ln s)) bJ):=sT ha;obtain⟨d1,d2⟩:=aoW (dR (sc (ln s)) bJ);rw[← ep]at d1 d2;have hk:okB (iv c (bH (dz (kx s c m))) (aH s) m):=B5 _ _ _ _;have hrl:(bH (dz (kx s c m))).length=32:=lZ _;have t1:(bH (dz (kx s c m))++t).take 32=bH (dz (kx s c m)):=by rw[List.take_left' hrl]
 have t2:(bH (dz (kx s c m))++t).drop 32=t:=by rw[List.drop_left' hrl]
 rw[Hf,t1,t2,d1,decide_eq_true hc,Bool.true_and,Bool.true_and];have h2:=aei hk ht (aik d2);have e2:=sT h2;rw[e2];have hmul:=ajB hk (rv s) hn;obtain⟨hm1,hm2⟩:=Tx (iv c (bH (dz (kx s c m))) (aH s) m) (ln s) (kx s c m);generalize rG (iv c (bH (dz (kx s c m))) (aH s) m) (ln s) (kx s c m)=z at*;generalize iv c (bH (dz (kx s c m))) (aH s) m=k at*;rw[er];generalize kx s c m=n at*;generalize ln s=a at*
 have key:(dR (sc k) (dR (sc a) bJ).neg).add (dR (sc t) bJ)=dR (sc n) bJ↔dR (sc t) bJ=dR (sc z) bJ:=by
  have e3:dR (sc z) bJ=(dR (sc k) (dR (sc a) bJ)).add (dR (sc n) bJ):=by
   rw[hmul,ajz,lX,S3]
  rw[e3,aif];generalize dR (sc k) (dR (sc a) bJ)=X;constructor
  ·intro h;rw[← h,← BJ.Pt.add_assoc,BJ.Pt.add_neg,BJ.Pt.zero_add]
  ·intro h;rw[h,← BJ.Pt.add_assoc,Hj,BJ.Pt.zero_add]
 by_cases h:t=z
 ·subst h;rw[decide_eq_true rfl,(LF ht).2 hm2,key.2 rfl];simp
 ·rw[decide_eq_false h]
  cases amF:sP t with
  |false=>rfl
  |true=>
   rw[Bool.true_and];refine decide_eq_false fun h'=>h ?_;exact ajC ht hm1 (ajA ((LF ht).1 amF) hm2 (key.1 (aej h')))
theorem vC(s c m:List Int):okB ((xo s c m).drop 32)∧(xo s c m).length=64∧al (xo s c m):=by
 unfold xo;have e:=jy (show okB (kx s c m)from yS _);have h1:=yT (dR (sc (kx s c m)) bJ);rw[← sT e]at h1;have h2:=(Tx (iv c (bH (dz (kx s c m))) (aH s) m) (ln s) (kx s c m)).1;rw[List.drop_left' h1.1];exact⟨h2,by rw[List.length_append,h1.1,h2.1],h1.2.append h2.2⟩
theorem aek{s c m t:List Int}(hc:c.length≤255)(ht:okB t)(hs:s.length=32):ky (aH s) c m ((xo s c m).take 32++t)=decide (t=(xo s c m).drop 32):=by
 unfold xo;have hrl:(bH (dz (kx s c m))).length=32:=lZ _;rw[List.take_left' hrl,List.drop_left' hrl];exact ajD hc ht hs
theorem ajE{s c m:List Int}(hc:c.length≤255)(hs:s.length=32):ky (aH s) c m (xo s c m)=true:=by
 have:=aek (m:=m) hc (vC s c m).1 hs;rw[List.take_append_drop]at this;rw[this];exact decide_eq_true rfl
abbrev ckA:aW (List LV) (List (List Int)×List Int×Unit):=ae (ah (e9 false false (.arr u8 32))) (ae (ah (e9 false false u8)) ag)
structure dh where
 key:Int
 blocks:Int
 cC:MM
 sign:List Int
def gd:dh:=⟨0,0,mm0,List.replicate 64 0⟩
abbrev awe:aW (List SV) dh:=(pH (uC (ae (se u8 64) ag))).nH (fun x=>⟨x.1,x.2.1,⟨x.2.2.1,x.2.2.2.1,x.2.2.2.2.1,x.2.2.2.2.2.1,x.2.2.2.2.2.2.1⟩,x.2.2.2.2.2.2.2.1⟩) (fun l=>(l.key,l.blocks,l.cC.ver,l.cC.gM,l.cC.len,l.cC.list,l.cC.plain,l.sign,())) (fun _=>rfl)
abbrev ajF(r:dh×Int):LV:=.cT [.agg (awe.wr r.1),.sc (.int .i64 (.sym r.2))]
def kA:List Int:= [98,111,111,116,106,97,99,107]
def k0:List Int:=List.replicate 32 0
def Tz(b:List Int):dh:=⟨(aU (b.take 8)).1.1,(aU (b.take 8)).1.2,(k8 ((b.drop 8).take 152)).1,b.drop 160⟩
def cS(ver:List Int→List Int→List Int→List Int→Bool)(ks:List (List Int))(b:List Int):dh×Int:=
 if b.length=224∧(aU (b.take 8)).2=true then
  (if(ks.length:Int)≤(aU (b.take 8)).1.1 then(gd,15)
   else if ver (ks.getD (aU (b.take 8)).1.1.toNat k0) kA (ct b) (b.drop 160)=true then
     (if(k8 ((b.drop 8).take 152)).2=true then(Tz b,0)else(gd,6))
   else(gd,8))
 else(gd,6)
def Qf(ks:List (List Int)):Prop:=∀k:Nat,k<ks.length→(ks.getD k k0).length=32
def eCk(g:List (List Int)→List Int→dh×Int):ar:=ar.dx [some (.arr u8 32),some u8] ckA ag fun x _=>.leaf (some (al x.2.1∧x.2.1.length<1152921504606846976∧Qf x.1)) (ajF (g x.1 x.2.1)) []
theorem LG{l:List Int}:0≤(aU l).1.1∧(aU l).1.1<8:=by
 unfold aU
 split
 ·rename_i h;simp only;have h2:=h.2;have:(bN (i64.wrap (l.getD 4 0)) (i64.wrap (l.getD 5 0))).length=8:=by rw[DC h2,h.1]
  unfold bN at this
  split at this
  ·omega
  ·simp at this
 ·exact⟨by decide,by decide⟩
theorem xp{r r':dh×Int}(h:r=r'):ajF r=ajF r':=by rw[h]
theorem LH(ver:List Int→List Int→List Int→List Int→Bool)(ks:List (List Int))(b:List Int):aT Tryz.prog [(155,pI),(169,eVe ver),(39,VI),(40,rh),(170,ahG)] [] f114 (ckA.wr (ks,b,())) [] [.fr [.sym],.auto]=
 End.ite ((↑b.length:Int)!=(224:Int)) (End.leaf (LV.cT [VV.agg [SV.int i64 (SI.sym (0:Int)),SV.int i64 (SI.sym (0:Int)),
 SV.int u64 (SI.sym (0:Int)),SV.int u64 (SI.sym (0:Int)),SV.int i64 (SI.sym (0:Int)),SV.arr (Ty.int IntKind.u8) (64:
 Nat) (List.replicate (64:Nat) (0:Int)),SV.arr (Ty.int IntKind.u8) (64:Nat) (List.replicate (64:Nat) (0:Int)),SV.arr (Ty.int IntKind.u8) (64
 :Nat) (List.replicate (64:Nat) (0:Int))],VV.sc (SV.int i64 (SI.sym (6:Int)))]) []) (End.need ((0:Int)≤(0:Int)∧(0:Int)≤(8:
 Int)∧(8:Int)≤(↑b.length:Int)) (End.ite (!(aU (List.take (8:Nat) (List.drop (0:Nat) b))).snd) (End.leaf (LV.cT [VV.agg [SV.int
 i64 (SI.sym (0:Int)),SV.int i64 (SI.sym (0:Int)),SV.int u64 (SI.sym (0:Int)),SV.int u64 (SI.sym (0:Int)),
 SV.int i64 (SI.sym (0:Int)),SV.arr (Ty.int IntKind.u8) (64:Nat) (List.replicate (64:Nat) (0:Int)),SV.arr (Ty.int IntKind.u8) (64:
 Nat) (List.replicate (64:Nat) (0:Int)),SV.arr (Ty.int IntKind.u8) (64:Nat) (List.replicate (64:Nat) (0:Int))],VV.sc (SV.int i64
 (SI.sym (6:Int)))]) []) (End.ite (decide ((↑ks.length:Int)≤(aU (List.take (8:Nat) (List.drop (0:Nat) b))).fst.fst)) (End.leaf (LV.cT
 [VV.agg [SV.int i64 (SI.sym (0:Int)),SV.int i64 (SI.sym (0:Int)),SV.int u64 (SI.sym (0:Int)),SV.int u64
 (SI.sym (0:Int)),SV.int i64 (SI.sym (0:Int)),SV.arr (Ty.int IntKind.u8) (64:Nat) (List.replicate (64:Nat) (0:Int)),SV.arr (Ty.int
 IntKind.u8) (64:Nat) (List.replicate (64:Nat) (0:Int)),SV.arr (Ty.int IntKind.u8) (64:Nat) (List.replicate (64:Nat) (0:Int))],VV.sc
 (SV.int i64 (SI.sym (15:Int)))]) []) (End.need ((0:Int)≤(160:Int)∧(160:Int)≤(↑b.length:Int)∧(↑b.length:Int)≤(↑b.length:
 Int)) (End.need ((64:Nat)≤(List.take ((↑b.length:Int)-(160:Int)).toNat (List.drop (160:Nat) b)).length) (End.need ((64:Nat)≤(List.take
 ((↑b.length:Int)-(160:Int)).toNat (List.drop (160:Nat) b)).length) (End.need ((0:Int)≤(aU (List.take (8:Nat) (List.drop (0:Nat)
 b))).fst.fst∧(aU (List.take (8:Nat) (List.drop (0:Nat) b))).fst.fst<(↑ks.length:Int)) (End.need (b.length<(1152921504606846976:
 Nat)) (End.need (List.length (ks.getD (aU (List.take (8:Nat) (List.drop (0:Nat) b))).fst.fst.toNat (List.replicate (32:Nat) (0:Int)))=
 (32:Nat)∧(64:Nat)=(64:Nat)∧(List.take (64:Nat) (List.drop (0:Nat) (List.take ((↑b.length:Int)-(160:Int)).toNat (List.drop (160:
 Nat) b)))).length=(64:Nat)∧al (List.take (64:Nat) (List.drop (0:Nat) (List.take ((↑b.length:Int)-(160:Int)).toNat (List.drop (160:
 Nat) b))))) (End.ite (!ver (ks.getD (aU (List.take (8:Nat) (List.drop (0:Nat) b))).fst.fst.toNat (List.replicate (32:Nat) (0:Int))) [(98
 :Int),(111:Int),(111:Int),(116:Int),(106:Int),(97:Int),(99:Int),(107:Int)] (ct b) (List.take (64:Nat) (List.drop (0:Nat)
 (List.take ((↑b.length:Int)-(160:Int)).toNat (List.drop (160:Nat) b))))) (End.leaf (LV.cT [VV.agg [SV.int i64 (SI.sym (0:Int)),
 SV.int i64 (SI.sym (0:Int)),SV.int u64 (SI.sym (0:Int)),SV.int u64 (SI.sym (0:Int)),SV.int i64 (SI.sym (0:
 Int)),SV.arr (Ty.int IntKind.u8) (64:Nat) (List.replicate (64:Nat) (0:Int)),SV.arr (Ty.int IntKind.u8) (64:Nat) (List.replicate (64:Nat) (0
 :Int)),SV.arr (Ty.int IntKind.u8) (64:Nat) (List.replicate (64:Nat) (0:Int))],VV.sc (SV.int i64 (SI.sym (8:Int)))]) []) (End.need
 ((0:Int)≤(8:Int)∧(8:Int)≤(160:Int)∧(160:Int)≤(↑b.length:Int)) (End.need (al (List.take (152:Nat) (List.drop (8:Nat) b)))
 (End.ite (!(k8 (List.take (152:Nat) (List.drop (8:Nat) b))).snd) (End.leaf (LV.cT [VV.agg [SV.int i64 (SI.sym (0:Int)),SV.int
 i64 (SI.sym (0:Int)),SV.int u64 (SI.sym (0:Int)),SV.int u64 (SI.sym (0:Int)),SV.int i64 (SI.sym (0:Int)),
 SV.arr (Ty.int IntKind.u8) (64:Nat) (List.replicate (64:Nat) (0:Int)),SV.arr (Ty.int IntKind.u8) (64:Nat) (List.replicate (64:Nat) (0:
 Int)),SV.arr (Ty.int IntKind.u8) (64:Nat) (List.replicate (64:Nat) (0:Int))],VV.sc (SV.int i64 (SI.sym (6:Int)))]) []) (End.leaf
 (LV.cT [VV.agg [SV.int i64 (SI.sym (aU (List.take (8:Nat) (List.drop (0:Nat) b))).fst.fst),SV.int i64 (SI.sym (aU
 (List.take (8:Nat) (List.drop (0:Nat) b))).fst.snd),SV.int u64 (SI.sym (k8 (List.take (152:Nat) (List.drop (8:Nat) b))).fst.ver),
 SV.int u64 (SI.sym (k8 (List.take (152:Nat) (List.drop (8:Nat) b))).fst.gM),SV.int i64 (SI.sym (k8 (List.take (152:Nat)
 (List.drop (8:Nat) b))).fst.len),SV.arr (Ty.int IntKind.u8) (64:Nat) (k8 (List.take (152:Nat) (List.drop (8:Nat) b))).fst.list,SV.arr
 (Ty.int IntKind.u8) (64:Nat) (k8 (List.take (152:Nat) (List.drop (8:Nat) b))).fst.plain,SV.arr (Ty.int IntKind.u8) (64:Nat) (List.take (64:
 Nat) (List.drop (0:Nat) (List.take ((↑b.length:Int)-(160:Int)).toNat (List.drop (160:Nat) b))))],VV.sc (SV.int i64 (SI.sym (0:
 Int)))]) [])))))))))))))):=by kernel_rfl
theorem Xk{ver:List Int→List Int→List Int→List Int→Bool}{ks:List (List Int)}{b:List Int}(hb:al b)(hl:b.length<1152921504606846976)(hk:Qf ks):
  ∃t_:Ev.End,aT Tryz.prog [(155,pI),(169,eVe ver),(39,VI),(40,rh),(170,ahG)] [] f114 (ckA.wr (ks,b,())) [] [.fr [.sym],.auto]=t_∧t_.sat fun v eK=>v=ajF (cS ver ks b)∧eK= []:=by
 refine⟨_,LH ..,?_⟩;have e0:List.drop 0 b=b:=rfl;rw[e0];refine⟨fun h=>?_,fun h=>?_⟩
 ·have hn:¬ (b.length=224∧(aU (b.take 8)).2=true):=fun⟨h',_⟩=>by rw[h']at h;simp at h
  exact⟨xp (r:=(gd,6)) (by unfold cS;rw[if_neg hn]),rfl⟩
 have hl':b.length=224:=by have:((b.length:Int)!=224)=false:=h
                           simp at this;omega
 have e1:List.take ((b.length:Int)-160).toNat (List.drop 160 b)=b.drop 160:=List.take_of_length_le (by rw[List.length_drop];omega);have e2:List.take 64 (List.drop 0 (b.drop 160))=b.drop 160:=by rw[List.drop_zero];exact List.take_of_length_le (by rw[List.length_drop];omega)
 have l1:(b.drop 160).length=64:=by rw[List.length_drop,hl']
 rw[e1,e2];obtain⟨k1,k2⟩:=LG (l:=b.take 8);have by1:=hb.drop 160;have by2:al (List.take 152 (List.drop 8 b)):=(hb.drop 8).take 152;refine⟨by omega,fun h1=>?_,fun h1=>?_⟩
 ·have hn:¬ (b.length=224∧(aU (b.take 8)).2=true):=fun⟨_,h'⟩=>by rw[h']at h1;simp at h1
  exact⟨xp (r:=(gd,6)) (by unfold cS;rw[if_neg hn]),rfl⟩
 have hp:b.length=224∧(aU (b.take 8)).2=true:=⟨hl',by simpa using h1⟩;refine⟨fun h2=>?_,fun h2=>?_⟩
 ·have h2:=of_decide_eq_true h2;exact⟨xp (r:=(gd,15)) (by unfold cS;rw[if_pos hp,if_pos h2]),rfl⟩
 have h2:=of_decide_eq_false h2;refine⟨by omega,by omega,by omega,by omega,by omega,⟨hk _ (by omega),rfl,l1,by1⟩,fun h3=>?_,fun h3=>?_⟩
 ·have h3:¬ver (ks.getD (aU (b.take 8)).1.1.toNat k0) kA (ct b) (b.drop 160)=true:=fun h'=>by
   have XP:(!ver (ks.getD (aU (b.take 8)).1.1.toNat k0) kA (ct b) (b.drop 160))=true:=h3;rw[h']at XP;cases XP
  exact⟨xp (r:=(gd,8)) (by unfold cS;rw[if_pos hp,if_neg h2,if_neg h3]),rfl⟩
 have XP:ver (ks.getD (aU (b.take 8)).1.1.toNat k0) kA (ct b) (b.drop 160)=true:=by
  have XP:(!ver (ks.getD (aU (b.take 8)).1.1.toNat k0) kA (ct b) (b.drop 160))=false:=h3;simpa using XP
 refine⟨by omega,by2,fun h4=>?_,fun h4=>?_⟩
 ·have h4:¬ (k8 ((b.drop 8).take 152)).2=true:=fun h'=>by rw[h']at h4;cases h4
  exact⟨xp (r:=(gd,6)) (by unfold cS;rw[if_pos hp,if_neg h2,if_pos XP,if_neg h4]),rfl⟩
 ·have h4:(k8 ((b.drop 8).take 152)).2=true:=by simpa using h4
  exact⟨xp (r:=(Tz b,0)) (by unfold cS;rw[if_pos hp,if_neg h2,if_pos XP,if_pos h4]),rfl⟩
theorem ael:(eCk (cS ky)).Ok Tryz.prog 114:=by
 refine(ar.br call114 fun x_ y_ Q h=>?_).sym;obtain⟨ks,b,_⟩:=x_;obtain⟨hn,hq⟩:=h;have hc:j6 Tryz.prog 114 (ckA.wr (ks,b,())) [] (aT Tryz.prog [(155,pI),(169,eVe ky),(39,VI),(40,rh),(170,ahG)] [] f114 (ckA.wr (ks,b,())) [] [.fr [.sym],.auto]):=aA mixed (aj AY (aj Xh (aj Om (aj wY (aj anK aE))))) func114 rfl (aO.nil _);obtain⟨t,ht,hs⟩:=Xk (ver:=ky) hn.1 hn.2.1 hn.2.2;rw[ht]at hc;exact hc.use (D:= []) hs hq
theorem B7{a b:Int}(h:(bN a b).length≠0):0≤a∧a<8∧1≤b∧b≤16∧bN a b= [66,74,75,49,a,b,0,0]:=by
 unfold bN at*
 split at h
 ·rename_i hh;exact⟨hh.1,hh.2.1,hh.2.2.1,hh.2.2.2,by rw[if_pos hh]⟩
 ·exact absurd rfl h
theorem vD{a b:Int}(h:(bN a b).length≠0):aU (bN a b)=((a,b),true):=by
 obtain⟨h1,h2,h3,h4,e⟩:=B7 h;have e4:(bN a b).getD 4 0=a:=by rw[e];rfl
 have e5:(bN a b).getD 5 0=b:=by rw[e];rfl
 have w4:i64.wrap a=a:=ax (by omega) (by omega);have w5:i64.wrap b=b:=ax (by omega) (by omega);unfold aU;rw[e4,e5,w4,w5,if_pos ⟨by rw[e];rfl,AZ _⟩]
def hh:Int:=65536
def lJ(a b c d:List Int):List Int:=a++b++c++d
abbrev hd2:aW (Option Ev.Item) (Int×Int×Unit):=iF 40 (pH ag)
structure Cut where
 g:List Int
 e:Int
 l:dh
 p:List Int
 k:List (List Int)
structure BkH (C:Cut) (sign:List Int→List Int→List Int→List Int×Int) (qI:List Int→List Int) (ck:List (List Int)→List Int→dh×Int) (ver:List Int→List Int→List Int→List Int→Bool) (s o:List Int) (a b:Int) (m:MM):Prop where
 a0:0≤a
 a8:a<8
 hl:(bN a b).length=8
 ml:(cG m.ver m.gM m.len m.list m.plain).length=152
 kk:C.k=List.replicate 8 (qI s)
 ce:(sign s kA (ct (bN a b++cG m.ver m.gM m.len m.list m.plain))).2=C.e
 cg:(sign s kA (ct (bN a b++cG m.ver m.gM m.len m.list m.plain))).1=C.g
 cl:(⟨a,b,m,(sign s kA (ct (bN a b++cG m.ver m.gM m.len m.list m.plain))).1⟩:dh)=C.l
 cp:lD (bN a b) (cG m.ver m.gM m.len m.list m.plain) (sign s kA (ct (bN a b++cG m.ver m.gM m.len m.list m.plain))).1=C.p
 e0:C.e=0
 gl:C.g.length=64
 gb:al C.g
 pl:C.p.length=224
 pb:al C.p
 ps:(qI s).length=32
 po:okB (qI o)
 k1:ck C.k C.p=(C.l,0)
 k2:(ck (List.take (a-0).toNat (List.drop 0 C.k)) C.p).2=15
 k3:ck (C.k.set a.toNat (qI o)) C.p=if ver (qI o) kA (ct C.p) C.g=true then(C.l,0)else(gd,8)
theorem vE:∀ (n:Nat) (x:Int),al (gL n x)
 |0,x=>fun z hz=>by cases hz
 |n+1,x=>fun z hz=>by
  rw[wQ]at hz;rcases List.mem_append.1 hz with h|h
  ·exact vE n x z h
  ·rw[List.mem_singleton]at h;subst h;unfold By;omega
theorem Xl(n:Nat)(x:Int):gL (n+1) x=x%256::gL n (x/256):=rfl
theorem vF:∀ (n:Nat) (x:Int),n≤8→0≤x→x<256 ^ n→dW (gL n x)=x
 |0,x,_,h0,h1=>by
  have:x=0:=by simp at h1;omega
  subst this;rfl
 |n+1,x,hn,h0,h1=>by
  have hl:=eu n (x/256);obtain⟨_,_,h3⟩:=ia (vE n (x/256)) (by omega);have ih:=vF n (x/256) (by omega) (by omega) (Int.ediv_lt_of_lt_mul (by decide) (by rw[Int.pow_succ]at h1;exact h1));rw[Xl,h3 (x%256) ⟨by omega,by omega⟩ (by omega),ih];omega
theorem aem{m:MM}(hm:0≤m.ver∧m.ver<18446744073709551616∧0≤m.gM∧m.gM<18446744073709551616)(hr:hZ m.ver m.gM m.len=true)(l1:m.list.length=64)(l2:m.plain.length=64):k8 (cG m.ver m.gM m.len m.list m.plain)=(m,true):=by
 obtain⟨r1,r2⟩:=ku hr
 have e:cG m.ver m.gM m.len m.list m.plain=gL 8 m.ver++(gL 8 m.gM++(gL 8 m.len++(m.list++m.plain))):=by
  unfold cG;rw[if_pos hr,List.take_of_length_le (by omega),List.take_of_length_le (by omega),List.append_assoc,List.append_assoc,List.append_assoc]
 have h8:(256:Int) ^ 8=18446744073709551616:=by decide
 have n1:=vF 8 m.ver (by decide) hm.1 (by omega);have n2:=vF 8 m.gM (by decide) hm.2.2.1 (by omega);have n3:=vF 8 m.len (by decide) (by omega) (by omega);have k:∀x,(gL 8 x).length=8:=fun x=>eu 8 x;have d8:(cG m.ver m.gM m.len m.list m.plain).drop 8=gL 8 m.gM++(gL 8 m.len++(m.list++m.plain)):=by rw[e,List.drop_left' (k _)]
 have d16:(cG m.ver m.gM m.len m.list m.plain).drop 16=gL 8 m.len++(m.list++m.plain):=by rw[show(16:Nat)=8+8 from rfl,← List.drop_drop,d8,List.drop_left' (k _)]
 have d24:(cG m.ver m.gM m.len m.list m.plain).drop 24=m.list++m.plain:=by rw[show(24:Nat)=16+8 from rfl,← List.drop_drop,d16,List.drop_left' (k _)]
 have d88:(cG m.ver m.gM m.len m.list m.plain).drop 88=m.plain:=by rw[show(88:Nat)=24+64 from rfl,← List.drop_drop,d24,List.drop_left' l1]
 have em:CK (cG m.ver m.gM m.len m.list m.plain)=m:=by
  unfold CK;rw[d8,d16,d24,d88,List.take_left' (k _),List.take_left' (k _),List.take_left' l1,List.take_of_length_le (l:=m.plain) (by omega),n2,n3,e,List.take_left' (k _),n1]
 unfold k8;rw[em,if_pos ⟨by rw[e];simp only[List.length_append,k,l1,l2],hr⟩]
theorem Xm{c v n:Int}{x y:List Int}(h:(cG c v n x y).length≠0):hZ c v n=true:=by
 unfold cG at h
 split at h
 ·assumption
 ·exact absurd rfl h
theorem Qg(m:MM)(h1:al m.list)(h2:al m.plain):al (cG m.ver m.gM m.len m.list m.plain):=by
 unfold cG
 split
 ·exact(((((show al (gL 8 m.ver)from vE 8 _).append (vE 8 _)).append (vE 8 _)).append (h1.take 64)).append (h2.take 64))
 ·exact fun z hz=>by cases hz
def bkG(s:List Int)(a b:Int)(m:MM):List Int:=(nv s kA (ct (bN a b++cG m.ver m.gM m.len m.list m.plain))).1
def Mf(s:List Int)(a b:Int)(m:MM):Cut:=⟨bkG s a b m,0,⟨a,b,m,bkG s a b m⟩,lD (bN a b) (cG m.ver m.gM m.len m.list m.plain) (bkG s a b m),List.replicate 8 (aH s)⟩
theorem LI{s o:List Int}{a b:Int}{m:MM}(hs:s.length=32)(ho:okB o)(hm:0≤m.ver∧m.ver<18446744073709551616∧0≤m.gM∧m.gM<18446744073709551616)(l1:m.list.length=64∧al m.list)(l2:m.plain.length=64∧al m.plain)
  (h1:(bN a b).length≠0) (h2:(cG m.ver m.gM m.len m.list m.plain).length≠0):BkH (Mf s a b m) nv aH (cS ky) ky s o a b m:=by
 obtain⟨a0,a8,b1,b16,eh⟩:=B7 h1;have hl:(bN a b).length=8:=by rw[eh];rfl
 have hb:al (bN a b):=by
  rw[eh];intro z hz;simp only[List.mem_cons,List.not_mem_nil,or_false]at hz;unfold By;omega
 have hr:=Xm h2;have hgm:=aem hm hr l1.1 l2.1;have mb:=Qg m l1.2 l2.2
 have ml:(cG m.ver m.gM m.len m.list m.plain).length=152:=by
  unfold cG;rw[if_pos hr];simp only[List.length_append,List.length_take,eu,l1.1,l2.1];rfl
 generalize hmn:cG m.ver m.gM m.len m.list m.plain=mn at*;have e0:bkG s a b m=xo s kA (ct (bN a b++mn)):=by unfold bkG;rw[hmn,qg,if_pos (by decide)]
 obtain⟨g1,g2,g3⟩:=vC s kA (ct (bN a b++mn));rw[← e0]at g1 g2 g3
 have eP:(Mf s a b m).p=bN a b++(mn++bkG s a b m):=by
  show lD (bN a b) (cG m.ver m.gM m.len m.list m.plain) (bkG s a b m)=_;rw[hmn];unfold lD;rw[if_neg (by omega),List.take_of_length_le (by omega),List.append_assoc]
 have pl:(Mf s a b m).p.length=224:=by rw[eP,List.length_append,List.length_append,hl,ml,g2]
 have pb:al (Mf s a b m).p:=by rw[eP];exact hb.append (mb.append g3)
 have t8:(Mf s a b m).p.take 8=bN a b:=by rw[eP,List.take_left' hl]
 have d8:((Mf s a b m).p.drop 8).take 152=mn:=by rw[eP,List.drop_left' hl,List.take_left' ml]
 have d160:(Mf s a b m).p.drop 160=bkG s a b m:=by rw[eP,← List.append_assoc,List.drop_left' (by rw[List.length_append,hl,ml])]
 have sg:ct (Mf s a b m).p=ct (bN a b++mn):=by
  unfold ct;rw[eP,← List.append_assoc,List.take_left' (by rw[List.length_append,hl,ml]),List.take_of_length_le (by rw[List.length_append,hl,ml];decide)]
 have gh:aU ((Mf s a b m).p.take 8)=((a,b),true):=by rw[t8];exact vD h1
 have el:Tz (Mf s a b m).p=(Mf s a b m).l:=by
  unfold Tz;rw[gh,d8,d160,hgm];rfl
 have hck:∀ks:List (List Int),cS ky ks (Mf s a b m).p=if(ks.length:Int)≤a then(gd,15)else if ky (ks.getD a.toNat k0) kA (ct (Mf s a b m).p) (bkG s a b m)=true then((Mf s a b m).l,0)else(gd,8):=fun ks=>by
  unfold cS;rw[if_pos ⟨pl,by rw[gh]⟩,gh,d8,d160,hgm,el];rfl
 have hv:ky (aH s) kA (ct (Mf s a b m).p) (bkG s a b m)=true:=by rw[sg,e0];exact ajE (by decide) hs
 have ek:(List.replicate 8 (aH s)).getD a.toNat k0=aH s:=by
  rw[List.getD_eq_getElem?_getD,List.getElem?_replicate,if_pos (by omega)];rfl
 have ek2:((List.replicate 8 (aH s)).set a.toNat (aH o)).getD a.toNat k0=aH o:=by
  rw[List.getD_eq_getElem?_getD,List.getElem?_set_self (by rw[List.length_replicate];omega)];rfl
 have po:okB (aH o):=by
  rw[show aH o=yb (dR (sc (ln o)) bJ)from sT (jy (rv o))];exact yT _
 refine⟨a0,a8,hl,by rw[hmn];exact ml,rfl,?_,rfl,rfl,rfl,rfl,g2,g3,pl,pb,iP s,po,?_,?_,?_⟩
 ·rw[qg,if_pos (by decide)];rfl
 ·show cS ky (List.replicate 8 (aH s)) _=_;rw[hck,List.length_replicate,if_neg (by omega),ek,if_pos hv]
 ·show(cS ky (List.take (a-0).toNat (List.drop 0 (List.replicate 8 (aH s)))) _).2=15;rw[hck,if_pos (by rw[List.length_take,List.drop_zero,List.length_replicate];omega)]
 ·show cS ky ((List.replicate 8 (aH s)).set a.toNat (aH o)) _=_;rw[hck,List.length_set,List.length_replicate,if_neg (by omega),ek2];rfl
end Go.Proofs.YtnbkagglkajbkaaGreat
end
noncomputable section
namespace Go.Proofs.YtnbkagglkajbkaaGreat
open Go Go.Ev Go.Proofs.Tryz
open Go.IntKind (i64 signed u16 u64 wrap)
set_option maxRecDepth 1000000
abbrev cH:Type:=Int×Int×Int×List Int
abbrev vG:aW (List SV) cH:=(ae (ay .i64) (ae (ay .u64) (ae (ay .u64) (ae (e9 false false (.int .i64)) ag)))).nH (fun x=>(x.1,x.2.1,x.2.2.1,x.2.2.2.1)) (fun y=>(y.1,y.2.1,y.2.2.1,y.2.2.2,())) (fun _=>rfl)
abbrev ajG:aW (List LV) (cH×List Int×Unit):=ae (si vG) (ae (ah (e9 false false u8)) ag)
def oh:List Int→Int→Bool
 | [],_=>true
 |s::l,n=>decide (1≤s∧s≤8192∧s≤n)&&oh l (n-s)
def dT:List Int→Int
 | []=>0
 |s::l=>s+dT l
abbrev B8:Type:=Int×(List Int)×Int×Int
abbrev B9:aW St B8:=(bD (jk 5 (ae (ah (ay i64)) (jk 32 (ae (ah (e9 false false (Ty.int i64)))
 (ae (ah (ay i64)) (ae (ah (ay i64)) (jk 20 ag))))))) ag).nH (fun y=>(y.1.1,y.1.2.1,y.1.2.2.1,y.1.2.2.2.1)) (fun
 x=>((x.1,(x.2.1,(x.2.2.1,(x.2.2.2,())))),())) (fun _=>rfl)
abbrev Qh:List Wk:= [.fr (dK 61 [(5,.an),(38,.an),(39,.an),(40,.an)]),.syms,.auto,.aN]
abbrev aeo:Exit→List Wk:=Di Qh 0 [.fr (dK 61 [(5,.an)]),.syms,.auto,.aN] [.fr (dK 61 [(4,.an)]),.syms,.auto,.aN]
abbrev Hk:Type:=Bool
abbrev TA(x:Hk):Exit×St:=(Exit.ret,⟨(jK 4 (LV.one (VV.sc (SV.bool (SB.sym x)))::(jK 56 []))),[]⟩)
abbrev Hl:Type:=Int
abbrev TB(x:Hl):Exit×St:=(Exit.exit 0,⟨(jK 5 (LV.one (VV.sc (SV.int i64 (SI.sym x)))::(jK 55 []))),[]⟩)
def Ca(n:Int)(s:List Int)(m:Int)(i:Int):Tr (B8⊕(Hk⊕Hl)):=(.ite (decide (i<m)) (.need (0≤i∧i<
 (↑s.length:Int)) (.ite (decide (s.getD i.toNat (0:Int)<1)==false) (.ite (decide (8192<s.getD i.toNat 0)==false) (.ite (decide (n<s.getD
 i.toNat 0)) (.ret (.inr (.inl (false)))) (.ret (.inl (i64.wrap (n-s.getD i.toNat 0),s,m,i64.wrap (i+1))))) (.ret (.inr (.inl
 (false))))) (.ret (.inr (.inl (false)))))) (.ret (.inr (.inr (n)))))
theorem Qi(p:cH)(d:List Int)(n:Int)(s:List Int)(m:Int)(i:Int):ee Tryz.prog [] [] f36 0 ((ag).wr (())) aeo (B9.wr (n,s,m,i))=(Ca n s m i).res B9.wr (Sum.elim TA TB):=by kernel_rfl
abbrev vH(n:Int)(s:List Int)(m:Int)(i:Int):Prop:=m=s.length∧0≤i∧i≤m∧0≤n∧n<1099511627776∧m<1099511627776
abbrev Qj(n:Int)(s:List Int)(m:Int)(i:Int):Bool:= !oh (s.drop i.toNat) n
abbrev Qk(n:Int)(s:List Int)(m:Int)(i:Int):Hk:=false
abbrev Ql(n:Int)(s:List Int)(m:Int)(i:Int):Hl:=n-dT (s.drop i.toNat)
abbrev Qm:B8→aZ:=sj (fun x_=>vH x_.1 x_.2.1 x_.2.2.1 x_.2.2.2) (fun x_=>Qj x_.1 x_.2.1 x_.2.2.1 x_.2.2.2) (fun x_=>Qk x_.1 x_.2.1 x_.2.2.1 x_.2.2.2) (fun x_=>Ql x_.1 x_.2.1 x_.2.2.1 x_.2.2.2) TA TB
theorem aep(n:Int)(s:List Int)(m:Int)(i:Int)(h_:vH n s m i):dO (fun x_:B8=>Ca x_.1 x_.2.1 x_.2.2.1 x_.2.2.2) (n,s,m,i) (bif Qj n s m i then .inl (Qk n s m i)else .inr (Ql n s m i)):=by
 delta Qj Qk Ql;obtain⟨rfl,h1,h2,h3,h4,h5⟩:=h_;obtain⟨k,rfl⟩:∃k:Nat,i=k:=⟨i.toNat,by omega⟩;obtain⟨j,hj⟩:∃j:Nat,s.length-k=j:=⟨_,rfl⟩;rw[Int.toNat_natCast]
 induction j generalizing k n with
 |zero=>
  rw[List.drop_eq_nil_of_le (by omega)];refine .stop ?_;simp only[Ca,oh,dT,bl,aq,Bool.not_true,cond_false];exact⟨fun h=>by omega,fun _=>by simp⟩
 |succ j ih=>
  have hk:k<s.length:=by omega
  rw[lN 0 hk,oh,dT];have e1:decide ((k:Int)<s.length)=true:=decide_eq_true (by omega);generalize hx:s.getD k 0=x at*
  by_cases c:1≤x∧x≤8192∧x≤n
  ·have d1:(decide (x<1)==false)=true:=(by simp;omega);have d2:(decide (8192<x)==false)=true:=(by simp;omega);have d3:decide (n<x)=false:=decide_eq_false (by omega);rw[decide_eq_true c,Bool.true_and,show n-(x+dT (s.drop (k+1)))=n-x-dT (s.drop (k+1))from by omega];refine .go ?_ (ih (n-x) (by omega) (by omega) (k+1) (by omega) (by omega) (by omega));simp only[Ca,e1,bx,ao,aq,Int.toNat_natCast,hx,d1,d2,d3,cf];rw[ax (by omega) (by omega),ax (by omega) (by omega)];exact⟨⟨by omega,by omega⟩,rfl⟩
  ·rw[decide_eq_false c,Bool.false_and];refine .stop ?_;simp only[Ca,e1,bx,ao,aq,cO,Int.toNat_natCast,hx];simp;omega
theorem Xn(p:cH)(d:List Int):∀x:B8,Ex Tryz.prog ((ag).wr (())) (.loop (aV f36 0)) (B9.wr x) (Qm x):=
 du mixed aE (ws:=aeo) (aO.nil _) (fun x_=>Qi p d x_.1 x_.2.1 x_.2.2.1 x_.2.2.2) (fun z=>by cases z<;>(intro e;cases e)) wy (fun x_ h=>aep x_.1 x_.2.1 x_.2.2.1 x_.2.2.2 h)
def oM(p:cH)(n:Int):Bool:=decide (0≤p.1∧p.1<8∧1≤p.2.2.2.length∧p.2.2.2.length≤16∧p.2.2.1≤p.2.1)&&(oh p.2.2.2 n&&decide (n-dT p.2.2.2=0))
def Hm(p:Int×Int×Int×List Int)(d:List Int):Int:=(↑d.length:Int)
def Hn(p:Int×Int×Int×List Int)(d:List Int):Int:=(↑p.snd.snd.snd.length:Int)
abbrev TC:Type:=Bool
abbrev alK(x:TC):LV:=LV.one (VV.sc (SV.bool (SB.sym x)))
abbrev alL(x:TC):List (Nat×Ev.Item):= []
def aeq(p:Int×Int×Int×List Int)(d:List Int):Tr (TC):=(.ite (decide (p.fst<0)==false) (.ite (decide (8≤p.fst)
 ==false) (.ite (decide (Hn p d<1)==false) (.ite (decide (16<Hn p d)==false) (.ite (decide (p.snd.fst<p.snd.snd.fst)) (.ret (false))
 (.need (vH (Hm p d) p.snd.snd.snd (Hn p d) 0) (.ite (!oh (List.drop 0 p.snd.snd.snd) (Hm p d)) (.ret (false)) (.ret (Hm p d-
 dT (List.drop 0 p.snd.snd.snd)==0))))) (.ret (false))) (.ret (false))) (.ret (false))) (.ret (false)))
theorem Xo(p:cH)(d:List Int):aT Tryz.prog [] [(0,cV B9 ((ag).wr (())) Qh (Qm))] f36 ((ajG).wr (p,d,())) ((ag).wr (())) [.fr [.sym],.syms,.auto,.aN]=(aeq p d).end alK alL ((ag).wr (())):=by kernel_rfl
theorem aer(p:cH)(d:List Int):aO Tryz.prog ((ag).wr (())) [(0,cV B9 ((ag).wr (())) Qh (Qm))] (aG f36):=(aO.cU (nJ (by kernel_rfl) (cJ (hp:=(ag).wr (())) (Xn p d)) oI))
abbrev yU(p:cH)(d:List Int):Prop:=d.length<1099511627776∧p.2.2.2.length<1099511627776
abbrev aes(p:cH)(d:List Int):TC:=oM p d.length
def aet:ar:=dm [] (ajG) (ag) (fun x_ y_=>yU x_.1 x_.2.1) (fun x_ y_=>aes x_.1 x_.2.1) alK alL
theorem ajH(p:cH)(d:List Int)(h_:yU p d):(aeq p d).Is (aes p d):=by
 delta aes;obtain⟨h1,h2⟩:=h_;obtain⟨a,b,c,s⟩:=p;simp only at h2;have p0:vH (d.length:Int) s (s.length:Int) 0:=⟨rfl,by omega,by omega,by omega,by omega,by omega⟩;have e0:Hm (a,b,c,s) d=d.length:=rfl;have e2:Hn (a,b,c,s) d=s.length:=rfl;simp only[aeq,cO,ao,aq,oM,e0,e2];simp;grind
theorem TD:aet.Ok Tryz.prog 36:=
 bY mixed aE func36 (by kernel_rfl) call36 (fun x_ y_=>aer x_.1 x_.2.1) (fun x_ y_=>Xo x_.1 x_.2.1) (fun x_ y_ h=>ajH x_.1 x_.2.1 h)
end Go.Proofs.YtnbkagglkajbkaaGreat
end
noncomputable section
namespace Go.Proofs.YtnbkagglkajbkaaGreat
open Go Go.Ev Go.ChangeShapes Go.WideShapes Go.ChangeAt Go.RowKit Go.Proofs.Tryz
open Go.IntKind (i64 signed u16 u64 wrap)
set_option maxRecDepth 100000
theorem Ea:Tryz.prog.cellsOf 3=1:=by kernel_rfl
theorem tH{H:Type}{enc:TypeId×Value→H}{W:World}{fuel:Nat}{cs:List Value}{y:DataW H×List MemPlace}
  (h:DataW.trod enc Tryz.prog W 0 (fun _=>true) true fuel 24 cs=some y):
  ∃ (l:List Int) (v:Value),cs= [v]∧(SV.rd false false (.int .i64) l).den (wv W) (kd []) v:=by
 rcases open_ints underlying24 underlying3 Ea h with⟨e,_⟩|⟨a,len,cap,zs,e,_,hlc,_,hzl,_,IQ,hwf⟩
 ·exact⟨[],_,e,rfl,(fun e=>by cases e),.inr (.inr ⟨rfl,rfl⟩)⟩
 ·simp only[if_true]at hzl;refine⟨zs.take len,_,e,rfl,(fun e=>by cases e),.inr (.inl ⟨rfl,rfl,by decide,?_⟩)⟩;refine⟨some a,len,cap,rfl,by simp;omega,hlc,(fun e=>by cases e),fun h0=>?_⟩;have Mv:=IQ 0 (by omega)
  have hsp:a.spot=none:=by
   have:a.add 0=a:=(by cases a;simp[Addr.add]);rw[this]at Mv;exact World.cell?_spot Mv
  refine⟨a,(zs.take len).map (.int .i64),rfl,hsp,?_,fun i u hu=>?_⟩
  ·generalize zs.take len=l
   induction l with
   |nil=>exact .nil
   |cons x l ih=>exact aQ.cons (vs:= [.int .i64 x]) rfl ih
  ·rw[List.getElem?_map]at hu;obtain⟨z,hz,rfl⟩:=map_some hu
   have hil:i<len∧i<zs.length:=by
    have:=(List.getElem?_eq_some_iff.1 hz).1;simp at this;omega
   rw[IQ i hil.2];rw[List.getElem?_take,if_pos hil.1]at hz;rw[List.getD_eq_getElem?_getD,hz];rfl
theorem yV{z:Int}(h:(Lit.int .u64 z).wf=true):0≤z∧z<18446744073709551616:=by
 have:=bounds_u64 h;omega
theorem Eb{H:Type}{enc:TypeId×Value→H}{W:World}{base:Nat}{v:Value}{d:DataW H}{p:List MemPlace}
  (c7:Value.okWide Tryz.prog W .any base 26 v) (h:DataW.Trod enc Tryz.prog W 0 (fun _=>true) true 26 v d p):
  ∃m:cH,(0≤m.2.1∧m.2.1<18446744073709551616∧0≤m.2.2.1∧m.2.2.1<18446744073709551616)∧(LV.one (.agg (vG.wr m))).den (wv W) (kd []) v:=by
 unfold Value.okWide at c7;rw[underlying26]at c7;obtain⟨cs,rfl,_,_⟩:=c7;obtain⟨fuel,h⟩:=h;simp only[Value.cells]at h;obtain⟨xs,m,_,_,hl,hlen,hf⟩:=DataW.trod_struct underlying26 h;obtain⟨cs⟩:=cs;have c4:Tryz.prog.cellsOf 26=4:=by kernel_rfl
 have c1:Tryz.prog.cellsOf 3=1:=Ea;have c2:Tryz.prog.cellsOf 23=1:=by kernel_rfl
 have c3:Tryz.prog.cellsOf 24=1:=by kernel_rfl
 have f1:tP Tryz.prog 10 3=some [.int .i64]:=by kernel_rfl
 have f2:tP Tryz.prog 10 23=some [.int .u64]:=by kernel_rfl
 simp only at hl hlen hf;have hn:cs.length=4:=by rw[← c4];first|exact hl|exact hlen|omega
 have hx:xs.length=4:=by first|exact hl|exact hlen|omega
 match cs,hn with
 | [a,b,c,e],_=>
  have g0:=hf 0 _ rfl;have g1:=hf 1 _ rfl;have g2:=hf 2 _ rfl;have g3:=hf 3 _ rfl;rw[List.getElem?_eq_getElem (by omega)]at g0 g1 g2 g3;have k0:=qK 10 f1 g0;have k1:=qK 10 f2 g1;have k2:=qK 10 f2 g2;obtain⟨l,w,k3,k4⟩:=tH g3
  cases k0 with
  |cons q0 _=>cases k1 with
  |cons q1 _=>cases k2 with
  |cons q2 _=>
   obtain⟨z0,rfl,_⟩:=q0;obtain⟨z1,rfl,w1⟩:=q1;obtain⟨z2,rfl,w2⟩:=q2;have k3: [e].take (Tryz.prog.cellsOf 24)= [w]:=k3;rw[c3]at k3;have k3:e=w:=(by simpa using k3);subst k3;have b1:=yV w1;have b2:=yV w2;exact⟨(z0,z1,z2,l),⟨b1.1,b1.2,b2.1,b2.2⟩,_,rfl,aY.jE rfl (aY.jE rfl (aY.jE rfl (aY.jE k4 .nil)))⟩
end Go.Proofs.YtnbkagglkajbkaaGreat
end
noncomputable section
namespace Go.Proofs.YtnbkagglkajbkaaGreat
open Go Go.Ev Go.Proofs.Tryz
open Go.IntKind (i64 signed u16 u64 wrap)
set_option maxRecDepth 1000000
theorem qh{pl:Int}(Q5:pl≤8192):∀ (n:Nat) (made:Int) (b:List Int) (d:Dc) (r:RH) (p1 p2 p3:List Int) (out:List dc),bE 0 out=true→cj out=made→(dE n pl made b d r p1 p2 p3 out).2=true→bE 0 (dE n pl made b d r p1 p2 p3 out).1=true∧cj (dE n pl made b d r p1 p2 p3 out).1=pl
 |0,_,_,_,_,_,_,_,_,_,_,h=>by simp[dE]at h
 |n+1,made,b,d,r,p1,p2,p3,out,h1,h2,h=>by
  rw[dE]at h ⊢;simp only at h ⊢;generalize fI r p1 p2 p3 (cL b d).2.2=x at*
  by_cases c1:(cL b d).1=true
  ·by_cases c2:made=pl
   ·simp only[if_pos c1,if_pos c2];exact⟨h1,by omega⟩
   ·by_cases c3:x.1.2=true
    ·by_cases c4:kt x.1.1 made=true∧bG x.1.1≤pl-made
     ·simp only[if_pos c1,if_neg c2,if_pos c3,if_pos c4]at h ⊢;refine qh Q5 n _ _ _ _ _ _ _ _ ?_ ?_ h
      ·rw[gB,h1,h2,bE,bE,Int.zero_add,c4.1];simp;omega
      ·rw[gA,cj,cj];omega
     ·simp only[if_pos c1,if_neg c2,if_pos c3,if_neg c4]at h;cases h
    ·simp only[if_pos c1,if_neg c2,if_neg c3]at h ⊢;exact qh Q5 n _ _ _ _ _ _ _ _ h1 h2 h
  ·simp only[if_neg c1]at h;cases h
theorem Ec(b:List Int)(n:Int):(eR b n).1=0∧((eR b n).2.length:Int)=n∧0≤n∧n≤8192∨(eR b n).1≠0∧(eR b n).2= []:=by
 unfold eR
 by_cases c:(cn b n).1=0
 ·rw[if_neg (by simpa using c)];refine .inl ⟨rfl,?_⟩;unfold cn at c ⊢
  by_cases hp:n<0∨8192<n
  ·rw[if_pos hp]at c;cases c
  ·rw[if_neg hp]at c ⊢
   by_cases h:(iq b n).2=true∧fD (ef (iq b n).1) b=true
   ·rw[if_pos h];obtain⟨k1,k2⟩:=qh (pl:=n) (by omega) 200000 0 b (0,4294967295,4) r0H (ca 8) (ca 8) (ca 6) [] rfl rfl h.1;exact⟨(OA k1).trans k2,by omega,by omega⟩
   ·rw[if_neg h]at c;cases c
 ·rw[if_pos c];exact .inr ⟨c,rfl⟩
theorem aeu:∃f:List (List Int)→List Int→dh×Int,∀ (ks:List (List Int)) (b:List Int),f ks b=(cS ky ks b):=⟨fun ks b=>cS ky ks b,fun _ _=>rfl⟩
def Qn:List (List Int)→List Int→dh×Int:=Classical.choose aeu
theorem aoX(ks:List (List Int))(b:List Int):Qn ks b=(cS ky ks b):=Classical.choose_spec aeu ks b
theorem LJ:cS ky=Qn:=by funext ks b;exact(aoX ks b).symm
def aS(ks:List (List Int))(fl rm:Int)(b:List Int):Int×List Int×dh:=
 if b.length<8 then(16,b,gd)
 else if(aU (b.take 8)).2=false then(6,b.drop 8,gd)
 else if(ks.length:Int)≤(aU (b.take 8)).1.1 then(15,b.drop 8,gd)
 else if b.length<224 then(16,b.drop 8,gd)
 else if(Qn ks (b.take 224)).2≠0 then((Qn ks (b.take 224)).2,b.drop 224,gd)
 else if rm<(Qn ks (b.take 224)).1.cC.len then(10,b.drop 224,gd)
 else if(Qn ks (b.take 224)).1.cC.ver<fl then(9,b.drop 224,gd)
 else(0,b.drop 224,(Qn ks (b.take 224)).1)
def cK(b:List Int)(l:dh):Int×List Int×List Int:=
 if(b.length:Int)<64*l.blocks then(16,b,[])
 else if aJ (b.take (64*l.blocks).toNat)≠l.cC.list then(7,b.drop (64*l.blocks).toNat,[])
 else(0,b.drop (64*l.blocks).toNat,b.take (64*l.blocks).toNat)
def jz(b:List Int)(left:Int)(sum:List Int):Int×List Int×List Int:=
 if b.length<4 then(16,b,[])
 else if eQ b=false then(6,b.drop 4,[])
 else if left<two b 2 then(10,b.drop 4,[])
 else if(b.length:Int)<4+two b 0 then(16,b.drop 4,[])
 else if aJ (b.take (4+two b 0).toNat)≠sum then(7,b.drop (4+two b 0).toNat,[])
 else((eR ((b.drop 4).take (two b 0).toNat) (two b 2)).1,b.drop (4+two b 0).toNat,(eR ((b.drop 4).take (two b 0).toNat) (two b 2)).2)
theorem TG{b:List Int}{left:Int}{sum:List Int}(hb:al b)(hl:0≤left):al (jz b left sum).2.1∧(jz b left sum).2.1.length≤b.length∧((jz b left sum).2.2.length:Int)≤left∧((jz b left sum).1≠0→(jz b left sum).2.2= []):=by
 have hd:∀n,al (b.drop n)∧(b.drop n).length≤b.length:=fun n=>⟨hb.drop n,by rw[List.length_drop];omega⟩;have hp:=Ec ((b.drop 4).take (two b 0).toNat) (two b 2);unfold jz;grind
def lp:Nat→Nat→List Int→Int→List Int→List Int→Int×List Int×List Int
 |0,_,_,_,r,d=>(0,r,d)
 |m+1,k,L,n,r,d=>
  if(jz r (n-d.length) ((L.drop (64*k)).take 64)).1≠0 then((jz r (n-d.length) ((L.drop (64*k)).take 64)).1,(jz r (n-d.length) ((L.drop (64*k)).take 64)).2.1,d++(jz r (n-d.length) ((L.drop (64*k)).take 64)).2.2)
  else lp m (k+1) L n (jz r (n-d.length) ((L.drop (64*k)).take 64)).2.1 (d++(jz r (n-d.length) ((L.drop (64*k)).take 64)).2.2)
theorem aev:gd.cC.len=0∧gd.blocks=0:=⟨rfl,rfl⟩
theorem aew{l:List Int}(h:(k8 l).2=true):0≤(k8 l).1.len∧(k8 l).1.len≤131072:=by
 unfold k8 at*
 split at h
 ·rename_i c;rw[if_pos c];have:=ku c.2;exact⟨show 0≤(CK l).len by omega,show(CK l).len≤_ by omega⟩
 ·cases h
theorem LK(l:List Int):0≤dW l∧dW l<18446744073709551616:=by
 cases l with
 |nil=>exact⟨by decide,by decide⟩
 |cons x l=>rw[dW,kG];omega
def Ed(m:MM):Prop:=0≤m.ver∧m.ver<18446744073709551616∧0≤m.gM∧m.gM<18446744073709551616
theorem Xp(ver:List Int→List Int→List Int→List Int→Bool)(ks:List (List Int))(b:List Int):Ed (cS ver ks b).1.cC:=by
 have h0:Ed gd.cC:=⟨by decide,by decide,by decide,by decide⟩
 have h1:∀l,Ed (k8 l).1:=fun l=>by
  unfold k8
  split
  ·have a:=LK (l.take 8);have b:=LK ((l.drop 8).take 8);exact⟨a.1,a.2,b.1,b.2⟩
  ·exact⟨by decide,by decide,by decide,by decide⟩
 unfold cS
 repeat' split
 all_goals first|exact h0|exact h1 _
theorem Xq{ver:List Int→List Int→List Int→List Int→Bool}{ks:List (List Int)}{b:List Int}(h:(cS ver ks b).2=0):1≤(cS ver ks b).1.blocks∧(cS ver ks b).1.blocks≤16∧0≤(cS ver ks b).1.cC.len∧(cS ver ks b).1.cC.len≤131072∧(cS ver ks b).1.key=(aU (b.take 8)).1.1∧(cS ver ks b).1.blocks=(aU (b.take 8)).1.2:=by
 unfold cS at*
 split at h
 ·rename_i c1
  split at h
  ·cases h
  ·rename_i c2
   split at h
   ·rename_i c3
    split at h
    ·rename_i c4;rw[if_pos c1,if_neg c2,if_pos c3,if_pos c4];obtain⟨g1,g2⟩:=aew c4;obtain⟨k1,k2⟩:=head_range c1.2;exact⟨k1,k2,g1,g2,rfl,rfl⟩
    ·cases h
   ·cases h
 ·cases h
theorem Ee{ks:List (List Int)}{fl rm:Int}{b:List Int}(hb:al b):al (aS ks fl rm b).2.1∧(aS ks fl rm b).2.1.length≤b.length∧0≤(aS ks fl rm b).2.2.blocks∧(aS ks fl rm b).2.2.blocks≤16∧0≤(aS ks fl rm b).2.2.cC.len∧(aS ks fl rm b).2.2.cC.len≤131072:=by
 have hd:∀n,al (b.drop n)∧(b.drop n).length≤b.length:=fun n=>⟨hb.drop n,by rw[List.length_drop];omega⟩;have hc:=Xq (ver:=ky) (ks:=ks) (b:=b.take 224);rw[LJ]at hc;have h0:=aev;unfold aS;grind
theorem LL{b:List Int}{l:dh}(hb:al b)(h0:0≤l.blocks):al (cK b l).2.1∧(cK b l).2.1.length≤b.length∧((cK b l).1=0→64*l.blocks=(cK b l).2.2.length):=by
 have hd:∀n,al (b.drop n)∧(b.drop n).length≤b.length:=fun n=>⟨hb.drop n,by rw[List.length_drop];omega⟩;have ht:(b.take (64*l.blocks).toNat).length=min (64*l.blocks).toNat b.length:=List.length_take;unfold cK;grind
theorem Ho:∀ (m k:Nat) (L:List Int) (n:Int) (r d:List Int),al r→(d.length:Int)≤n→al (lp m k L n r d).2.1∧(lp m k L n r d).2.1.length≤r.length∧((lp m k L n r d).2.2.length:Int)≤n
 |0,_,_,_,_,_,h,hd=>⟨h,Nat.le_refl _,hd⟩
 |m+1,k,L,n,r,d,h,hd=>by
  obtain⟨o1,o2,o3,o4⟩:=TG (b:=r) (left:=n-d.length) (sum:=(L.drop (64*k)).take 64) h (by omega);rw[lp];generalize jz r (n-d.length) ((L.drop (64*k)).take 64)=x at*
  split
  ·exact⟨o1,o2,by simp only[List.length_append];omega⟩
  ·obtain⟨a,b,c⟩:=Ho m (k+1) L n x.2.1 (d++x.2.2) o1 (by rw[List.length_append];omega);exact⟨a,by omega,c⟩
def Qo(l:dh)(r d:List Int):Int:=
 if(d.length:Int)<l.cC.len then 6 else if aJ d≠l.cC.plain then 7 else if r.length≠0 then 6 else 0
def dD(ks:List (List Int))(fl rm:Int)(b:List Int):Int×List Int×dh×List Int×List Int:=
 if(aS ks fl rm b).1≠0 then((aS ks fl rm b).1,(aS ks fl rm b).2.1,(aS ks fl rm b).2.2,[],[])
 else if(cK (aS ks fl rm b).2.1 (aS ks fl rm b).2.2).1≠0 then((cK (aS ks fl rm b).2.1 (aS ks fl rm b).2.2).1,(cK (aS ks fl rm b).2.1 (aS ks fl rm b).2.2).2.1,(aS ks fl rm b).2.2,(cK (aS ks fl rm b).2.1 (aS ks fl rm b).2.2).2.2,[])
 else
  (fun(l:dh) (L:List Int) (x:Int×List Int×List Int)=>(if x.1≠0 then x.1 else Qo l x.2.1 x.2.2,x.2.1,l,L,x.2.2))
   (aS ks fl rm b).2.2 (cK (aS ks fl rm b).2.1 (aS ks fl rm b).2.2).2.2
   (lp (aS ks fl rm b).2.2.blocks.toNat 0 (cK (aS ks fl rm b).2.1 (aS ks fl rm b).2.2).2.2 (aS ks fl rm b).2.2.cC.len (cK (aS ks fl rm b).2.1 (aS ks fl rm b).2.2).2.1 [])
structure Vd where
 err:Int
 oO:dh
 data:List Int
 mea:List Int
def bO(ks:List (List Int))(fl rm:Int)(b:List Int):Vd:=
 (fun(x:Int×List Int×dh×List Int×List Int)=>if x.1≠0 then(⟨x.1,gd,[],List.replicate 64 0⟩:Vd)else⟨0,x.2.2.1,x.2.2.2.2,aJ (cG x.2.2.1.cC.ver x.2.2.1.cC.gM x.2.2.1.cC.len x.2.2.1.cC.list x.2.2.1.cC.plain++x.2.2.2.2)⟩) (dD ks fl rm b)
theorem Qp(ks:List (List Int))(fl rm:Int)(b:List Int):Ed (aS ks fl rm b).2.2.cC:=by
 have h0:Ed gd.cC:=⟨by decide,by decide,by decide,by decide⟩;have h1:=Xp ky ks (b.take 224);rw[LJ]at h1;unfold aS
 repeat' split
 all_goals first|exact h0|exact h1
theorem ajI{ks:List (List Int)}{fl rm:Int}{b:List Int}(hb:al b):Ed (dD ks fl rm b).2.2.1.cC∧(dD ks fl rm b).2.2.2.2.length≤131072:=by
 obtain⟨f1,f2,f3⟩:=Ee (ks:=ks) (fl:=fl) (rm:=rm) hb;have hv:=Qp ks fl rm b;unfold dD;generalize aS ks fl rm b=f at*;obtain⟨s1,s2,s3⟩:=LL (b:=f.2.1) (l:=f.2.2) f1 f3.1;generalize cK f.2.1 f.2.2=x at*;obtain⟨r1,r2,r3⟩:=Ho f.2.2.blocks.toNat 0 x.2.2 f.2.2.cC.len x.2.1 [] s1 (by simp only[List.length_nil];omega)
 split
 ·exact⟨hv,Nat.zero_le _⟩
 ·split
  ·exact⟨hv,Nat.zero_le _⟩
  ·exact⟨hv,by simp only;omega⟩
def vdT(v:Vd):Int×Int×Int×Int×Int×Int×List Int×List Int×List Int×List Int×List Int:=(v.err,v.oO.key,v.oO.blocks,v.oO.cC.ver,v.oO.cC.gM,v.oO.cC.len,v.oO.cC.list,v.oO.cC.plain,v.oO.sign,v.data,v.mea)
end Go.Proofs.YtnbkagglkajbkaaGreat
end
