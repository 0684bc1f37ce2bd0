/- What the laws lean on, part 18: a reader of code, plain facts, and what each function gives; no conditions. -/
import Derived.Test.YtjalaohajcpllaaGreatA17
section
set_option linter.unusedVariables false
set_option linter.unusedSimpArgs false
namespace Go.Proofs.YtjalaohajcpllaaGreat
open Go Go.Ev BJ
set_option maxRecDepth 1000000
def Di (g:List Int→List Int):au:=au.bV [some (.sl u8)] rrA ag fun x _=> .leaf (some (x.1.length<2305843009213693952∧x.1.flatten.length<1152921504606846976)) (jI .u8 64 (g x.1.flatten)) []
theorem atQ:ofE=Di cT:=by kernel_rfl
theorem IS:(Di cT).Ok Tryz.prog 22:=atQ▸amu
noncomputable abbrev agT:au:=Hq
theorem alp:agT.Ok Tryz.prog 30:=pJ
def YW:List Int:= [83,105,103,69,100,50,53,53,49,57,32,110,111,32,69,100,50,53,53,49,57,32,99,111,108,108,105,115,105,111,110,115]
def om (c:List Int):List Int:=if c.length≤255 then YW++([1,(c.length:Int)]++c) else []
def MH (g:List Int→List Int):au:=au.bV [some u8] bA ag fun x _=> .leaf none (.one (.sc (.sl 0 0))) [(0,.own 0 u8 (g x.1))]
noncomputable abbrev awU:au:=MH om
theorem MI (c:List Int):aY Tryz.prog [(30,Hq)] [] Tryz.f51 (bA.wr (c,())) [] [.ct 0 u8,.auto,.ax]=
 End.ite (decide ((255:Int)<(↑c.length:Int))) (End.leaf (LV.one (VV.sc (SV.sl (0:Nat) (0:Nat)))) [some (Item.own (0:Nat) (Ty.int IntKind.u8)
 [])]) (End.need ([[(83:Int),(105:Int),(103:Int),(69:Int),(100:Int),(50:Int),(53:Int),(53:Int),(49:Int),(57:Int),(32:
 Int),(110:Int),(111:Int),(32:Int),(69:Int),(100:Int),(50:Int),(53:Int),(53:Int),(49:Int),(57:Int),(32:Int),(99:
 Int),(111:Int),(108:Int),(108:Int),(105:Int),(115:Int),(105:Int),(111:Int),(110:Int),(115:Int)],[(1:Int),IntKind.u8.wrap
 (↑c.length:Int)],c].flatten.length≤(70368744177664:Nat)∧(3:Nat)≤(140737488355328:Nat)) (End.leaf (LV.one (VV.sc (SV.sl (0:Nat) (0:
 Nat)))) [some (Item.own (0:Nat) (Ty.int IntKind.u8) [[(83:Int),(105:Int),(103:Int),(69:Int),(100:Int),(50:Int),(53:Int),(53:
 Int),(49:Int),(57:Int),(32:Int),(110:Int),(111:Int),(32:Int),(69:Int),(100:Int),(50:Int),(53:Int),(53:Int),(49:
 Int),(57:Int),(32:Int),(99:Int),(111:Int),(108:Int),(108:Int),(105:Int),(115:Int),(105:Int),(111:Int),(110:Int),(115
 :Int)],[(1:Int),IntKind.u8.wrap (↑c.length:Int)],c].flatten)])):=by kernel_rfl
theorem agU:awU.Ok Tryz.prog 51:=by
 refine (au.bE Tryz.call51 fun x_ y_ Q H_=>?_).sym
 obtain ⟨c,_⟩:=x_
 refine (aG mixed (ao pJ aD) Tryz.func51 rfl (LT:= []) (ks:= [.ct 0 u8,.auto,.ax]) (aP.nil _)).use (D:= [(0,.own 0 u8 (om c))]) ?_ H_.2
 show (aY _ _ _ _ (bA.wr (c,())) [] _).sat _
 rw[MI]
 refine ⟨fun h=>?_,fun h=>?_⟩
 ·have h:=of_decide_eq_true h
  have e:om c= []:=if_neg (by omega)
  rw[e];exact ⟨rfl,rfl⟩
 ·have h:=of_decide_eq_false h
  have e:om c=YW++([1,(c.length:Int)]++c):=if_pos (by omega)
  have ew:IntKind.u8.wrap (c.length:Int)=c.length:=by rw[wrap_u8];omega
  rw[e,ew]
  refine ⟨⟨by simp;omega,by decide⟩,rfl,?_⟩
  have e2:aK [(0,Ev.Item.own 0 u8 (YW++([1,(c.length:Int)]++c)))] (ag.wr y_)= [some (Ev.Item.own 0 u8 (YW++([1,(c.length:Int)]++c)))]:=rfl
  rw[e2]
  simp[YW]
def apC (h:List Int):List Int:=((h.take 32).set 0 (fF .u8 ((h.take 32).getD 0 0) 7)).set 31 (bD .u8 (fF .u8 (((h.take 32).set 0 (fF .u8 ((h.take 32).getD 0 0) 7)).getD 31 0) 128) 64)
def ePa (sec fD:List Int→List Int):au:=au.bV [] yq ag fun x _=> .leaf (some (x.1.length=32)) (.cV [.agg [.arr (.int .u8) 32 (sec x.1)],.sc (.vb 0 0 (.int .u8) 64 32 32)]) [(0,.a8 [.arr (.int .u8) 64 (fD x.1)] 51)]
noncomputable def wW (s:List Int):List Int:=apC (cT s)
noncomputable abbrev alq:au:=ePa wW cT
theorem Sc (fD:List Int→List Int) (s:List Int):aY Tryz.prog [(22,Di fD)] [] Tryz.f49 (yq.wr (s,())) [] [.auto]=
 End.need ((0:Int)≤(0:Int)∧(0:Int)≤(32:Int)∧(32:Int)≤(32:Int)) (End.need ((1:Nat)<(2305843009213693952:Nat)∧ [List.take (32
 :Nat) (List.drop (0:Nat) s)].flatten.length<(1152921504606846976:Nat)) (End.need ((0:Int)≤(0:Int)∧(0:Int)≤(32:Int)∧(32:Int)≤
 (64:Int)) (End.need ((32:Nat)≤(List.take (32:Nat) (List.drop (0:Nat) (fD [List.take (32:Nat) (List.drop (0:Nat) s)].flatten))).length)
 (End.need ((32:Nat)≤(List.take (32:Nat) (List.drop (0:Nat) (fD [List.take (32:Nat) (List.drop (0:Nat) s)].flatten))).length) (End.need ((0
 :Int)≤(32:Int)∧(32:Int)≤(64:Int)∧(64:Int)≤(64:Int)) (End.leaf (LV.cV [VV.agg [SV.arr (Ty.int IntKind.u8) (32:Nat) (((List.take
 (32:Nat) (List.drop (0:Nat) (List.take (32:Nat) (List.drop (0:Nat) (fD [List.take (32:Nat) (List.drop (0:Nat) s)].flatten))))).set (0:
 Nat) (fF IntKind.u8 ((List.take (32:Nat) (List.drop (0:Nat) (List.take (32:Nat) (List.drop (0:Nat) (fD [List.take (32:Nat) (List.drop
 (0:Nat) s)].flatten))))).getD (0:Nat) (0:Int)) (7:Int))).set (31:Nat) (bD IntKind.u8 (fF IntKind.u8 (((List.take (32:Nat)
 (List.drop (0:Nat) (List.take (32:Nat) (List.drop (0:Nat) (fD [List.take (32:Nat) (List.drop (0:Nat) s)].flatten))))).set (0:Nat)
 (fF IntKind.u8 ((List.take (32:Nat) (List.drop (0:Nat) (List.take (32:Nat) (List.drop (0:Nat) (fD [List.take (32:Nat) (List.drop (0:
 Nat) s)].flatten))))).getD (0:Nat) (0:Int)) (7:Int))).getD (31:Nat) (0:Int)) (128:Int)) (64:Int)))],VV.sc (SV.vb (0:Nat) (0:Nat)
 (Ty.int IntKind.u8) (64:Nat) (32:Int) (32:Int))]) [some (Item.a8 [SV.arr (Ty.int IntKind.u8) (64:Nat) (fD [List.take (32:Nat) (List.drop (0
 :Nat) s)].flatten)] (51:Nat))])))))):=by kernel_rfl
theorem Fc:alq.Ok Tryz.prog 49:=by
 refine (au.bE Tryz.call49 fun x_ y_ Q H_=>?_).sym
 obtain ⟨s,_⟩:=x_
 obtain ⟨hn,hq⟩:=H_
 have hn:s.length=32:=hn
 refine (aG mixed (ao IS aD) Tryz.func49 rfl (LT:= []) (ks:= [.auto]) (aP.nil _)).use (D:= [(0,.a8 [.arr (.int .u8) 64 (cT s)] 51)]) ?_ hq
 show (aY _ _ _ _ (yq.wr (s,())) [] _).sat _
 rw[Sc,cn hn,List.flatten_singleton]
 have hs:=gd s
 have e1:List.take 32 (List.drop 0 (List.take 32 (List.drop 0 (cT s))))=(cT s).take 32:=by rw[List.drop_zero,List.drop_zero,List.take_take,Nat.min_self]
 have hl:(List.take 32 (List.drop 0 (cT s))).length=32:=by simp[hs]
 rw[e1]
 exact ⟨by decide,⟨by decide,by omega⟩,by decide,by omega,by omega,by decide,rfl,rfl⟩
def agV (g:List Int→List Int):au:=au.bV [] yq ag fun x _=> .leaf (some (x.1.length=32)) (jI .u8 32 (g x.1)) []
theorem agW {h:List Int} (hl:h.length=64):(apC h).length=32:=by simp[apC,hl]
theorem MJ (s:List Int):(wW s).length=32:=agW (gd s)
noncomputable def IT (s:List Int):List Int:=dJ (iE (wW s))
noncomputable abbrev awV:au:=agV IT
theorem agX (sec fD:List Int→List Int) (mb:List Int→Pt) (en:Pt→List Int) (s:List Int):aY Tryz.prog [(49,ePa sec fD),(52,eMb mb),(53,eEn en)] [] Tryz.f56 ((yq).wr (s,())) [] kK=
 End.need (s.length=(32:Nat)) (End.need ((sec s).length=(32:Nat)) (End.leaf (LV.one (VV.agg [SV.arr (Ty.int IntKind.u8) (32:Nat) (en (mb (sec
 s)))])) [])):=by kernel_rfl
theorem agY: ∀ p_∈([(49,ePa wW cT),(52,eMb iE),(53,eEn dJ)]:List (FuncId×au)),p_.2.Ok Tryz.prog p_.1:=(ao Fc (ao Mr (ao C9 aD)))
theorem apD:awV.Ok Tryz.prog 56:=by
 refine (au.bE Tryz.call56 fun x_ y_ Q H_=>?_).sym
 obtain ⟨s,_⟩:=x_
 obtain ⟨hn,hq⟩:=H_
 have hn:s.length=32:=hn
 refine (aG (tab:= [(49,ePa wW cT),(52,eMb iE),(53,eEn dJ)]) mixed agY Tryz.func56 rfl (LT:= []) (ks:=kK) (aP.nil _)).use (D:= []) ?_ hq
 show (aY _ _ _ _ ((yq).wr (s,())) [] _).sat _
 rw[agX wW cT iE dJ]
 exact ⟨hn,MJ s,rfl,rfl⟩
abbrev amY:a9 LV (List Int):=ND .u8 64
abbrev chA:a9 (List LV) (List Int×List Int×List Int×List Int×Unit):=ae (ah (dB false false u8)) (ae cB (ae cB (ae amY ag)))
def eCh (g:List Int→List Int→List Int→List Int→List Int):au:=au.bV [some u8,none,none,none] chA ag fun x _=> .leaf (some (x.2.1.length=32∧x.2.2.1.length=32∧x.2.2.2.1.length=64)) (jI .u8 32 (g x.1 x.2.1 x.2.2.1 x.2.2.2.1)) []
noncomputable def wX (c r p m:List Int):List Int:=s9 (cT (om c++(r++(p++m))))
theorem agZ (x:Int):aC (dP x):=fun z hz=>by
 obtain ⟨i,_,rfl⟩:=List.mem_map.1 hz
 rw[wrap_u8];unfold By;omega
theorem Sd (b:List Int):aC (cT b):=by
 have key: ∀ (l:List Nat) (s a:List Int),aC a→aC (l.foldl (fun a i=>a++dP (s.getD i 0)) a):=by
  intro l s
  induction l with
  |nil=>exact fun a h=>h
  |cons i l ih=>exact fun a h=>ih _ (h.append (agZ _))
 exact key _ _ [] (fun z hz=>by cases hz)
theorem IU (x y:Int):By (fF .u8 x y):=by
 unfold fF By;rw[wrap_u8];omega
theorem ag0 (x y:Int):By (bD .u8 x y):=by
 unfold bD By
 show 0≤IntKind.u8.wrap _∧IntKind.u8.wrap _<256
 rw[wrap_u8];omega
theorem Ff {l:List Int} (h:aC l) {i:Nat} {x:Int} (hx:By x):aC (l.set i x):=fun z hz=>by
 rcases List.mem_or_eq_of_mem_set hz with k|k
 ·exact h z k
 ·subst k;exact hx
theorem alr (s:List Int):aC (wW s):=Ff (Ff ((Sd s).take 32) (IU _ _)) (ag0 _ _)
theorem als (s:List Int):okB (wW s):=⟨MJ s,alr s⟩
theorem IV (b:List Int):okB (s9 b):=⟨cP _ _,oC (by decide) _ _⟩
theorem Vf (c:List Int):(om c).length≤289:=by unfold om YW;split<;>simp;omega
noncomputable abbrev atT:au:=eCh wX
theorem YX (fD pre red:List Int→List Int) (c r p m:List Int):aY Tryz.prog [(22,Di fD),(51,MH pre),(50,MG red)] [] Tryz.f55 ((chA).wr (c,r,p,m,())) [] kK=
 End.need ((0:Int)≤(0:Int)∧(0:Int)≤(32:Int)∧(32:Int)≤(32:Int)) (End.need ((0:Int)≤(0:Int)∧(0:Int)≤(32:Int)∧(32:
 Int)≤(32:Int)) (End.need ((0:Int)≤(0:Int)∧(0:Int)≤(64:Int)∧(64:Int)≤(64:Int)) (End.need ((4:Nat)<(2305843009213693952:
 Nat)∧ [pre c,List.take (32:Nat) (List.drop (0:Nat) r),List.take (32:Nat) (List.drop (0:Nat) p),List.take (64:Nat) (List.drop (0:Nat)
 m)].flatten.length<(1152921504606846976:Nat)) (End.need ((fD [pre c,List.take (32:Nat) (List.drop (0:Nat) r),List.take (32:Nat) (List.drop
 (0:Nat) p),List.take (64:Nat) (List.drop (0:Nat) m)].flatten).length=(64:Nat)∧aC (fD [pre c,List.take (32:Nat) (List.drop (0:Nat)
 r),List.take (32:Nat) (List.drop (0:Nat) p),List.take (64:Nat) (List.drop (0:Nat) m)].flatten)) (End.leaf (LV.one (VV.agg [SV.arr (Ty.int
 IntKind.u8) (32:Nat) (red (fD [pre c,List.take (32:Nat) (List.drop (0:Nat) r),List.take (32:Nat) (List.drop (0:Nat) p),List.take (64:
 Nat) (List.drop (0:Nat) m)].flatten))])) []))))):=by kernel_rfl
theorem YY: ∀ p_∈([(22,Di cT),(51,MH om),(50,MG s9)]:List (FuncId×au)),p_.2.Ok Tryz.prog p_.1:=(ao IS (ao agU (ao Dh aD)))
theorem alu:atT.Ok Tryz.prog 55:=by
 refine (au.bE Tryz.call55 fun x_ y_ Q H_=>?_).sym
 obtain ⟨c,r,p,m,_⟩:=x_
 obtain ⟨hn,hq⟩:=H_
 have hn:r.length=32∧p.length=32∧m.length=64:=hn
 refine (aG (tab:= [(22,Di cT),(51,MH om),(50,MG s9)]) mixed YY Tryz.func55 rfl (LT:= []) (ks:=kK) (aP.nil _)).use (D:= []) ?_ hq
 show (aY _ _ _ _ ((chA).wr (c,r,p,m,())) [] _).sat _
 rw[YX cT om s9]
 rw[cn hn.1,cn hn.2.1,cn hn.2.2]
 have h1:=Vf c
 have e: [om c,r,p,m].flatten=om c++(r++(p++m)):=by simp
 rw[e]
 refine ⟨by decide,by decide,by decide,⟨by decide,by simp;omega⟩,⟨gd _,Sd _⟩,rfl,rfl⟩
abbrev siA:a9 (List LV) (List Int×List Int×List Int×Unit):=ae cB (ae (ah (dB false false u8)) (ae amY ag))
abbrev nSi (r:List Int×Int):LV:= .cV [.agg [.arr (.int .u8) 64 r.1],.sc (.int .i64 (.sym r.2))]
def eSi (g:List Int→List Int→List Int→List Int×Int):au:=au.bV [none,some u8,none] siA ag fun x _=> .leaf (some (x.1.length=32∧x.2.2.1.length=64)) (nSi (g x.1 x.2.1 x.2.2.1)) []
noncomputable def MK (s c m:List Int):List Int:=s9 (cT (om c++((cT s).drop 32++m)))
noncomputable def ML (s c m:List Int):List Int:=dJ (iE (MK s c m))++zi (wX c (dJ (iE (MK s c m))) (IT s) m) (wW s) (MK s c m)
theorem MM: ∃ f:List Int→List Int→List Int→List Int×Int,∀ (s c m:List Int),f s c m=(if c.length≤255 then (ML s c m,0) else (List.replicate 64 0,1)):=⟨fun s c m=>if c.length≤255 then (ML s c m,0) else (List.replicate 64 0,1),fun _ _ _=>rfl⟩
noncomputable def ql:List Int→List Int→List Int→List Int×Int:=Classical.choose MM
theorem Dj (s c m:List Int):ql s c m=(if c.length≤255 then (ML s c m,0) else (List.replicate 64 0,1)):=Classical.choose_spec MM s c m
theorem y8 (p:Pt):(dJ p).length=32:=Vec.ee _
theorem ag1 (s:List Int):(IT s).length=32:=by unfold IT;exact y8 _
theorem ag2 (c r p m:List Int):okB (wX c r p m):=by unfold wX;exact IV _
theorem ag3 (a b c:List Int):(zi a b c).length=32:=cP _ _
theorem Se (sec fD pre red:List Int→List Int) (mb:List Int→Pt) (en:Pt→List Int) (xc:List Int→List Int) (ch:List Int→List Int→List Int→List Int→List Int) (mul:List Int→List Int→List Int→List Int) (s c m:List Int):aY Tryz.prog [(49,ePa sec fD),(22,Di fD),(51,MH pre),(50,MG red),(52,eMb mb),(53,eEn en),(56,agV xc),(55,eCh ch),(54,eB3 mul),(30,agT)] [] Tryz.f26 (siA.wr (s,c,m,())) [] [.fr [.sym],.auto]=
 End.ite (decide ((255:Int)<(↑c.length:Int))) (End.leaf (LV.cV [VV.agg [SV.arr (Ty.int IntKind.u8) (64:Nat) (List.replicate (64:Nat) (0:
 Int))],VV.sc (SV.int IntKind.i64 (SI.sym (1:Int)))]) []) (End.need (s.length=(32:Nat)) (End.need ((0:Int)≤(0:Int)∧(0:Int)≤(64:Int)
 ∧(64:Int)≤(64:Int)) (End.need ((3:Nat)<(2305843009213693952:Nat)∧ [pre c,List.take (32:Nat) (List.drop (32:Nat) (fD s)),List.take
 (64:Nat) (List.drop (0:Nat) m)].flatten.length<(1152921504606846976:Nat)) (End.need ((fD [pre c,List.take (32:Nat) (List.drop (32:Nat)
 (fD s)),List.take (64:Nat) (List.drop (0:Nat) m)].flatten).length=(64:Nat)∧aC (fD [pre c,List.take (32:Nat) (List.drop (32:Nat)
 (fD s)),List.take (64:Nat) (List.drop (0:Nat) m)].flatten)) (End.need ((red (fD [pre c,List.take (32:Nat) (List.drop (32:Nat) (fD s)),
 List.take (64:Nat) (List.drop (0:Nat) m)].flatten)).length=(32:Nat)) (End.need (s.length=(32:Nat)) (End.need ((en (mb (red (fD [pre c,
 List.take (32:Nat) (List.drop (32:Nat) (fD s)),List.take (64:Nat) (List.drop (0:Nat) m)].flatten)))).length=(32:Nat)∧(xc s).length=
 (32:Nat)∧m.length=(64:Nat)) (End.need (okB (ch c (en (mb (red (fD [pre c,List.take (32:Nat) (List.drop (32:Nat) (fD s)),List.take (64:
 Nat) (List.drop (0:Nat) m)].flatten)))) (xc s) m)∧okB (sec s)∧okB (red (fD [pre c,List.take (32:Nat) (List.drop (32:Nat) (fD s)),
 List.take (64:Nat) (List.drop (0:Nat) m)].flatten))) (End.need ((0:Int)≤(0:Int)∧(0:Int)≤(32:Int)∧(32:Int)≤(32:Int)) (End.need
 ((0:Int)≤(0:Int)∧(0:Int)≤(32:Int)∧(32:Int)≤(32:Int)) (End.need ([List.take (32:Nat) (List.drop (0:Nat) (en (mb (red (fD [pre
 c,List.take (32:Nat) (List.drop (32:Nat) (fD s)),List.take (64:Nat) (List.drop (0:Nat) m)].flatten))))),List.take (32:Nat) (List.drop (0
 :Nat) (mul (ch c (en (mb (red (fD [pre c,List.take (32:Nat) (List.drop (32:Nat) (fD s)),List.take (64:Nat) (List.drop (0:Nat)
 m)].flatten)))) (xc s) m) (sec s) (red (fD [pre c,List.take (32:Nat) (List.drop (32:Nat) (fD s)),List.take (64:Nat) (List.drop (0:Nat)
 m)].flatten))))].flatten.length≤(70368744177664:Nat)∧(2:Nat)≤(140737488355328:Nat)) (End.need ((64:Nat)≤ [List.take (32:Nat)
 (List.drop (0:Nat) (en (mb (red (fD [pre c,List.take (32:Nat) (List.drop (32:Nat) (fD s)),List.take (64:Nat) (List.drop (0:Nat)
 m)].flatten))))),List.take (32:Nat) (List.drop (0:Nat) (mul (ch c (en (mb (red (fD [pre c,List.take (32:Nat) (List.drop (32:Nat) (fD s)),
 List.take (64:Nat) (List.drop (0:Nat) m)].flatten)))) (xc s) m) (sec s) (red (fD [pre c,List.take (32:Nat) (List.drop (32:Nat) (fD s)),
 List.take (64:Nat) (List.drop (0:Nat) m)].flatten))))].flatten.length) (End.need ((64:Nat)≤ [List.take (32:Nat) (List.drop (0:Nat) (en (mb
 (red (fD [pre c,List.take (32:Nat) (List.drop (32:Nat) (fD s)),List.take (64:Nat) (List.drop (0:Nat) m)].flatten))))),List.take (32:Nat)
 (List.drop (0:Nat) (mul (ch c (en (mb (red (fD [pre c,List.take (32:Nat) (List.drop (32:Nat) (fD s)),List.take (64:Nat) (List.drop (0:
 Nat) m)].flatten)))) (xc s) m) (sec s) (red (fD [pre c,List.take (32:Nat) (List.drop (32:Nat) (fD s)),List.take (64:Nat) (List.drop (0:
 Nat) m)].flatten))))].flatten.length) (End.leaf (LV.cV [VV.agg [SV.arr (Ty.int IntKind.u8) (64:Nat) (List.take (64:Nat) (List.drop (0:Nat)
 [List.take (32:Nat) (List.drop (0:Nat) (en (mb (red (fD [pre c,List.take (32:Nat) (List.drop (32:Nat) (fD s)),List.take (64:Nat)
 (List.drop (0:Nat) m)].flatten))))),List.take (32:Nat) (List.drop (0:Nat) (mul (ch c (en (mb (red (fD [pre c,List.take (32:Nat) (List.drop
 (32:Nat) (fD s)),List.take (64:Nat) (List.drop (0:Nat) m)].flatten)))) (xc s) m) (sec s) (red (fD [pre c,List.take (32:Nat) (List.drop (32
 :Nat) (fD s)),List.take (64:Nat) (List.drop (0:Nat) m)].flatten))))].flatten))],VV.sc (SV.int IntKind.i64 (SI.sym (0:Int)))])
 [])))))))))))))):=by kernel_rfl
theorem ag4 (sec fD pre red:List Int→List Int) (mb:List Int→Pt) (en:Pt→List Int) (xc:List Int→List Int) (ch:List Int→List Int→List Int→List Int→List Int) (mul:List Int→List Int→List Int→List Int) {s c m:List Int} (hs:s.length=32) (hm:m.length=64) (h1: ∀ b,(fD b).length=64) (h2: ∀ b,aC (fD b)) (h3: ∀ b,okB (red b)) (h4: ∀ q,(en q).length=32) (h5:(xc s).length=32) (h6: ∀ a b c d,okB (ch a b c d)) (h7:okB (sec s)) (h8: ∀ a b c,(mul a b c).length=32) (h9:(pre c).length≤289):
  ∃ t_:Ev.End,aY Tryz.prog [(49,ePa sec fD),(22,Di fD),(51,MH pre),(50,MG red),(52,eMb mb),(53,eEn en),(56,agV xc),(55,eCh ch),(54,eB3 mul),(30,agT)] [] Tryz.f26 (siA.wr (s,c,m,())) [] [.fr [.sym],.auto]=t_∧t_.sat fun v ft=>v=nSi (if c.length≤255 then (en (mb (red (fD (pre c++((fD s).drop 32++m)))))++mul (ch c (en (mb (red (fD (pre c++((fD s).drop 32++m)))))) (xc s) m) (sec s) (red (fD (pre c++((fD s).drop 32++m)))),0) else (List.replicate 64 0,1))∧ft= []:=by
 refine ⟨_,Se ..,?_⟩
 have e1:List.take 32 (List.drop 32 (fD s))=(fD s).drop 32:=List.take_of_length_le (by rw[List.length_drop,h1];decide)
 have e2:List.take 64 (List.drop 0 m)=m:=cn hm
 have e3: [pre c,(fD s).drop 32,m].flatten=pre c++((fD s).drop 32++m):=by simp
 rw[e1,e2,e3]
 have l1:(pre c++((fD s).drop 32++m)).length<1152921504606846976:=by simp[h1,hm];omega
 have l2:=h3 (fD (pre c++((fD s).drop 32++m)))
 generalize red (fD (pre c++((fD s).drop 32++m)))=n at*
 have l3: ∀ {l:List Int},l.length=32→List.take 32 (List.drop 0 l)=l:=fun h=>cn h
 rw[l3 (h4 _),l3 (h8 _ _ _)]
 have l4: ∀ a b:List Int,[a,b].flatten=a++b:=fun a b=>by simp
 have l5:(en (mb n)++mul (ch c (en (mb n)) (xc s) m) (sec s) n).length=64:=by rw[List.length_append,h4,h8]
 rw[l4,cn l5]
 refine ⟨fun h=>?_,fun h=>?_⟩
 ·have h:=of_decide_eq_true h
  rw[if_neg (by omega)];exact ⟨rfl,rfl⟩
 ·have h:=of_decide_eq_false h
  rw[if_pos (by omega)]
  exact ⟨hs,by decide,⟨by decide,l1⟩,⟨h1 _,h2 _⟩,l2.1,hs,⟨h4 _,h5,hm⟩,⟨h6 _ _ _ _,h7,l2⟩,by decide,by decide,⟨by omega,by decide⟩,by omega,by omega,rfl,rfl⟩
theorem Sf (s c m:List Int):ql s c m=(if c.length≤255 then (dJ (iE (s9 (cT (om c++((cT s).drop 32++m)))))++zi (wX c (dJ (iE (s9 (cT (om c++((cT s).drop 32++m)))))) (IT s) m) (wW s) (s9 (cT (om c++((cT s).drop 32++m)))),0) else (List.replicate 64 0,1)):=by rw[Dj,ML,MK]
noncomputable abbrev atV:au:=eSi ql
theorem YZ: ∀ p_∈([(49,ePa wW cT),(22,Di cT),(51,MH om),(50,MG s9),(52,eMb iE),(53,eEn dJ),(56,agV IT),(55,eCh wX),(54,eB3 zi),(30,agT)]:List (FuncId×au)),p_.2.Ok Tryz.prog p_.1:=(ao Fc (ao IS (ao agU (ao Dh (ao Mr (ao C9 (ao apD (ao alu (ao Sb (ao alp aD))))))))))
theorem alv:atV.Ok Tryz.prog 26:=by
 refine (au.bE Tryz.call26 fun x_ y_ Q H_=>?_).sym
 obtain ⟨s,c,m,_⟩:=x_
 obtain ⟨hn,hq⟩:=H_
 have hn:s.length=32∧m.length=64:=hn
 have hc_:nq Tryz.prog 26 ((siA).wr (s,c,m,())) [] (aY Tryz.prog [(49,ePa wW cT),(22,Di cT),(51,MH om),(50,MG s9),(52,eMb iE),(53,eEn dJ),(56,agV IT),(55,eCh wX),(54,eB3 zi),(30,agT)] [] Tryz.f26 ((siA).wr (s,c,m,())) [] [.fr [.sym],.auto]):=aG mixed YZ Tryz.func26 rfl (aP.nil _)
 obtain ⟨t_,ht_,hs_⟩:=ag4 wW cT om s9 iE dJ IT wX zi hn.1 hn.2 gd Sd IV y8 (ag1 s) ag2 (als s) ag3 (Vf c)
 rw[← Sf s c m] at hs_
 rw[ht_] at hc_
 exact hc_.use (D:= []) hs_ hq
end Go.Proofs.YtjalaohajcpllaaGreat
end
section
set_option linter.unusedVariables false
set_option linter.unusedSimpArgs false
namespace BJ
abbrev N4:=Nat×Nat×Nat×Nat
def td (a b:Nat):Nat:=a*b%pp
def IW (a b:Nat):Nat:=(a+b)%pp
def Sg (a b:Nat):Nat:=(pp-b+a)%pp
def ddN:Nat:=37095705934669439343138083508754565189542113879843219016388785533085940283555
def MN (p q:N4):N4:=
 let a:=td (Sg p.2.1 p.1) (Sg q.2.1 q.1)
 let b:=td (IW p.2.1 p.1) (IW q.2.1 q.1)
 let c:=IW (td (td p.2.2.2 q.2.2.2) ddN) (td (td p.2.2.2 q.2.2.2) ddN)
 let d:=IW (td p.2.2.1 q.2.2.1) (td p.2.2.1 q.2.2.1)
 (td (Sg b a) (Sg d c),td (IW d c) (IW b a),td (Sg d c) (IW d c),td (Sg b a) (IW b a))
def vals (p:E4):N4:=(p.1.val,p.2.1.val,p.2.2.1.val,p.2.2.2.val)
theorem Dk (p q:E4):MN (vals p) (vals q)=vals (CU p q):=by
 have hd:dd.val=ddN:=rfl
 simp only[MN,vals,CU,td,IW,Sg,Fin.val_mul,Fin.val_add,Fin.sub_def,hd]
def Vg (V:Nat) (p:N4) (k:Nat) (r:N4):N4:=bif Nat.beq (V/2 ^ (255-k)%2) 1 then MN (MN r r) p else MN r r
end BJ
namespace Go.Proofs.YtjalaohajcpllaaGreat
open Go Go.Ev BJ
theorem Sh (V:Nat) (p:E4) (k:Nat) (r:E4):Vg V (vals p) k (vals r)=vals (kN V p k r):=by
 unfold Vg kN X8
 rw[Dk,Dk]
 by_cases h:V/2 ^ (255-k)%2=1
 ·rw[decide_eq_true h,h];rfl
 ·have e:Nat.beq (V/2 ^ (255-k)%2) 1=false:=by
   cases e:Nat.beq (V/2 ^ (255-k)%2) 1 with
   |false=>rfl
   |true=>exact absurd (Nat.eq_of_beq_eq_true e) h
  rw[decide_eq_false h,e];rfl
def ag5:N4:=(0,1,1,0)
def ag6:N4:=(15112221349535400772501151409588531511454012693041857206046113283949847762202,46316835694926478169428394003475163141307993866256225615783033603165251855960,1,46827403850823179245072216630277197565144205554125654976674165829533817101731)
theorem ag7:ag5=vals rV:=rfl
theorem ag8:ag6=vals (zg wR rW):=by decide+kernel
def amZ (V:Nat):N4:=je (Vg V ag6) 256 ag5
theorem Si (V:Nat):amZ V=vals (L1 V (zg wR rW)):=by
 have key: ∀ k,je (Vg V ag6) k ag5=vals (je (kN V (zg wR rW)) k rV):=by
  intro k
  induction k with
  |zero=>exact ag7
  |succ k ih=>
   simp only[je]
   rw[ih,ag8,Sh]
 exact key 256
def isN (V x y:Nat):Bool:=(fun r:N4=>Nat.beq r.1 (td x r.2.2.1)&&Nat.beq r.2.1 (td y r.2.2.1)) (amZ V)
theorem apE {V x y:Nat} (hV:V<2 ^ 256) (hx:x<pp) (hy:y<pp) (h:isN V x y=true):(rH V iM).x.val=x∧(rH V iM).y.val=y:=by
 have hi:RA (L1 V (zg wR rW)) (rH V iM):=L3 hV (Iv iM)
 unfold isN at h
 rw[Si] at h
 generalize L1 V (zg wR rW)=p at*
 generalize rH V iM=P at*
 obtain ⟨h0,h1,h2,_⟩:=hi
 simp only[Bool.and_eq_true] at h
 have e1:p.1.val=x*p.2.2.1.val%pp:=Nat.eq_of_beq_eq_true h.1
 have e2:p.2.1.val=y*p.2.2.1.val%pp:=Nat.eq_of_beq_eq_true h.2
 have f1:p.1=(⟨x,hx⟩:F)*p.2.2.1:=Fin.ext (by rw[e1,Fin.val_mul])
 have f2:p.2.1=(⟨y,hy⟩:F)*p.2.2.1:=Fin.ext (by rw[e2,Fin.val_mul])
 rw[h1] at f1
 rw[h2] at f2
 have c: ∀ {a b:F},a*p.2.2.1=b*p.2.2.1→a=b:=fun {a b} e=>by
  have h3:p.2.2.1*F.inv p.2.2.1=1:=F.inv_mul h0
  have e':=congrArg (fun z=>z*F.inv p.2.2.1) e
  grobner
 exact ⟨by rw[c f1],by rw[c f2]⟩
def llN:Nat:=7237005577332262213973186563042994240857116359379907606001950938285454250989
theorem Y0:isN llN 0 1=true:=by decide+kernel
theorem Sj:rH llN iM=BJ.Pt.zero:=by
 obtain ⟨h1,h2⟩:=apE (V:=llN) (by decide) (by decide) (by decide) Y0
 exact BJ.Pt.ext' (Fin.ext h1) (Fin.ext h2)
theorem alw:iM≠BJ.Pt.zero:=fun h=>by
 have:=congrArg (fun P:BJ.Pt=>P.x.val) h
 revert this
 decide
theorem wY {m:Nat} (h:rH m iM=BJ.Pt.zero) (k:Nat):rH (k*m) iM=BJ.Pt.zero:=by
 rw[akh,h,afR]
theorem Y1 {n a:Nat} (hr:fL n a) (hz:rH n iM=BJ.Pt.zero) {m:Nat} (hm:rH m iM=BJ.Pt.zero):m%n=0:=by
 refine Classical.byContradiction fun h=>alw ?_
 have hf:=hr.sU h
 have hn:=hr.1
 have e:m ^ (n-1)=m ^ (n-2)*m:=by rw[← Nat.pow_succ];congr 1;omega
 have h1:rH (m ^ (n-1)) iM=BJ.Pt.zero:=by rw[e];exact wY hm _
 have h2:m ^ (n-1)=m ^ (n-1)/n*n+1:=by
  have:=Nat.div_add_mod (m ^ (n-1)) n
  rw[hf,Nat.mul_comm] at this;exact this.symm
 rw[h2,Iw,wY hz,aki,BJ.Pt.zero_add] at h1
 exact h1
theorem ER {m:Nat} (hm:rH m iM=BJ.Pt.zero):m%llN=0:=Y1 cz Sj hm
end Go.Proofs.YtjalaohajcpllaaGreat
end
section
set_option linter.unusedVariables false
set_option linter.unusedSimpArgs false
namespace Go.Proofs.YtjalaohajcpllaaGreat
open Go Go.Ev BJ
theorem okV {n:Nat}: ∀ {v:Vec Int n},rU v→aC v.toList∧vd 256 v.toList=dx v:=by
 induction n with
 |zero=>exact fun {v} _=>⟨(fun z hz=>by cases hz),rfl⟩
 |succ n ih=>
  intro v h
  obtain ⟨h1,h2⟩:=ih h.2
  refine ⟨fun z hz=>?_,?_⟩
  ·rcases List.mem_cons.1 hz with rfl|hz
   ·exact h.1
   ·exact h1 z hz
  ·show v.1+256*vd 256 v.2.toList=v.1+256*dx v.2
   rw[h2]
theorem alx {l:List Int} (h:okB l):rU (As l)∧dx (As l)=vd 256 l:=by
 have h1:rU (As l):=CS fun i _=>fI.getD (by decide) h.2 i
 have:=(okV h1).2
 rw[kP h.1] at this
 exact ⟨h1,this.symm⟩
noncomputable def sc (n:List Int):Nat:=(vd 256 n).toNat
theorem Y2 {n:List Int} (hn:okB n) {p:Pt} {P:BJ.Pt} (hp:Rep p P):Rep (y7 n p) (rH (sc n) P):=by
 obtain ⟨h1,h2⟩:=alx hn
 rw[Mq,sc,← h2];exact afV h1 hp
theorem Sk {n:List Int} (hn:okB n):Rep (iE n) (rH (sc n) iM):=Y2 hn afT
noncomputable def apF (P:BJ.Pt):List Int:=(s7 P).toList
theorem aly (P:BJ.Pt):okB (apF P):=⟨Vec.ee _,(okV (afW P).1).1⟩
theorem apG {p:Pt} {P:BJ.Pt} (h:Rep p P):dJ p=apF P:=by unfold dJ apF;rw[akl h]
theorem atW {x:Int} (h:0≤x∧x<ll):sc (dg 256 32 x)=x.toNat:=by
 have e:ll<256 ^ 32:=by decide+kernel
 unfold sc
 rw[na (by decide),Int.emod_eq_of_lt h.1 (by omega)]
theorem apH:((llN:Nat):Int)=ll:=rfl
theorem alz (a b c:List Int):okB (zi a b c)∧sc (zi a b c)<llN:=by
 refine ⟨⟨cP _ _,oC (by decide) _ _⟩,?_⟩
 unfold zi
 have h1:=Int.emod_nonneg (vd 256 a*vd 256 b+vd 256 c) (show ll≠0 by have:=lZ;omega)
 have h2:=Int.emod_lt_of_pos (vd 256 a*vd 256 b+vd 256 c) lZ
 rw[atW ⟨h1,h2⟩]
 have:=apH
 omega
theorem MO (s c m:List Int):okB ((ML s c m).drop 32)∧(ML s c m).length=64∧aC (ML s c m):=by
 unfold ML
 have e:=Sk (show okB (MK s c m) from IV _)
 have h1:=aly (rH (sc (MK s c m)) iM)
 rw[← apG e] at h1
 have h2:=(alz (wX c (dJ (iE (MK s c m))) (IT s) m) (wW s) (MK s c m)).1
 rw[List.drop_left' h1.1]
 exact ⟨h2,by rw[List.length_append,h1.1,h2.1],h1.2.append h2.2⟩
end Go.Proofs.YtjalaohajcpllaaGreat
end
section
set_option linter.unusedVariables false
set_option linter.unusedSimpArgs false
namespace Go.Proofs.YtjalaohajcpllaaGreat
open Go Go.Ev BJ
set_option maxRecDepth 1000000
end Go.Proofs.YtjalaohajcpllaaGreat
end
section
set_option linter.unusedVariables false
set_option linter.unusedSimpArgs false
namespace Go.Proofs.YtjalaohajcpllaaGreat
open Go Go.Ev BJ
set_option maxRecDepth 1000000
def MP:List Int:= [98,111,111,116,106,97,99,107]
def k0:List Int:=List.replicate 32 0
end Go.Proofs.YtjalaohajcpllaaGreat
end
section
set_option linter.unusedVariables false
set_option linter.unusedSimpArgs false
namespace Go.Proofs.YtjalaohajcpllaaGreat
open Go Go.Ev BJ
set_option maxRecDepth 1000000
end Go.Proofs.YtjalaohajcpllaaGreat
end
section
set_option linter.unusedVariables false
set_option linter.unusedSimpArgs false
namespace Go.Proofs.YtjalaohajcpllaaGreat
open Go Go.Ev BJ
set_option maxRecDepth 1000000
end Go.Proofs.YtjalaohajcpllaaGreat
end
section
set_option linter.unusedVariables false
set_option linter.unusedSimpArgs false
namespace Go.Proofs.YtjalaohajcpllaaGreat
open Go Go.Ev BJ
set_option maxRecDepth 1000000
end Go.Proofs.YtjalaohajcpllaaGreat
end
section
set_option linter.unusedVariables false
set_option linter.unusedSimpArgs false
namespace Go.Proofs.YtjalaohajcpllaaGreat
open Go Go.Ev BJ
set_option maxRecDepth 1000000
end Go.Proofs.YtjalaohajcpllaaGreat
end
section
set_option linter.unusedVariables false
set_option linter.unusedSimpArgs false
namespace Go.Proofs.YtjalaohajcpllaaGreat
open Go Go.Ev BJ
set_option maxRecDepth 1000000
end Go.Proofs.YtjalaohajcpllaaGreat
end
section
set_option linter.unusedVariables false
set_option linter.unusedSimpArgs false
namespace Go.Proofs.YtjalaohajcpllaaGreat
open Go Go.Ev BJ
set_option maxRecDepth 1000000
def hh:Int:=65536
end Go.Proofs.YtjalaohajcpllaaGreat
end
section
set_option linter.unusedVariables false
set_option linter.unusedSimpArgs false
namespace Go.Proofs.YtjalaohajcpllaaGreat
open Go Go.Ev BJ
set_option maxRecDepth 1000000
end Go.Proofs.YtjalaohajcpllaaGreat
end
section
set_option linter.unusedVariables false
set_option linter.unusedSimpArgs false
namespace Go.Proofs.YtjalaohajcpllaaGreat
open Go Go.Ev BJ
set_option maxRecDepth 1000000
end Go.Proofs.YtjalaohajcpllaaGreat
end
section
set_option linter.unusedVariables false
set_option linter.unusedSimpArgs false
namespace Go.Proofs.YtjalaohajcpllaaGreat
open Go Go.Ev BJ
set_option maxRecDepth 1000000
end Go.Proofs.YtjalaohajcpllaaGreat
end
section
set_option linter.unusedVariables false
set_option linter.unusedSimpArgs false
namespace Go.Proofs.YtjalaohajcpllaaGreat
open Go Go.Ev BJ
set_option maxRecDepth 1000000
def lh (a b c d:List Int):List Int:=a++b++c++d
end Go.Proofs.YtjalaohajcpllaaGreat
end
section
set_option linter.unusedVariables false
set_option linter.unusedSimpArgs false
namespace Go.Proofs.YtjalaohajcpllaaGreat
open Go Go.Ev BJ
set_option maxRecDepth 1000000
end Go.Proofs.YtjalaohajcpllaaGreat
end
section
set_option linter.unusedVariables false
set_option linter.unusedSimpArgs false
namespace Go.Proofs.YtjalaohajcpllaaGreat
open Go Go.Ev BJ
set_option maxRecDepth 1000000
end Go.Proofs.YtjalaohajcpllaaGreat
end
section
set_option linter.unusedVariables false
set_option linter.unusedSimpArgs false
namespace Go.Proofs.YtjalaohajcpllaaGreat
open Go Go.Ev BJ
set_option maxRecDepth 1000000
end Go.Proofs.YtjalaohajcpllaaGreat
end
section
set_option linter.unusedVariables false
set_option linter.unusedSimpArgs false
namespace Go.Proofs.YtjalaohajcpllaaGreat
open Go Go.Ev
set_option maxRecDepth 1000000
abbrev gh:Type:=Int×Int×Int×List Int
abbrev am0:a9 (List SV) gh:=(ae (ay .i64) (ae (ay .u64) (ae (ay .u64) (ae (dB false false (.int .i64)) ag)))).jQ (fun x=>(x.1,x.2.1,x.2.2.1,x.2.2.2.1)) (fun y=>(y.1,y.2.1,y.2.2.1,y.2.2.2,())) (fun _=>rfl)
abbrev apI:a9 (List LV) (gh×List Int×Unit):=ae (FZ am0) (ae (ah (dB false false u8)) ag)
def te:List Int→Int→Bool
 | [],_=>true
 |s::l,n=>decide (1≤s∧s≤8192∧s≤n)&&te l (n-s)
def eN:List Int→Int
 | []=>0
 |s::l=>s+eN l
abbrev Dl:Type:=Int×(List Int)×Int×Int
noncomputable abbrev yy:a9 St Dl:=(bH (jk 5 (ae (ah (ay IntKind.i64)) (jk 32 (ae (ah (dB false false (Ty.int IntKind.i64)))
 (ae (ah (ay IntKind.i64)) (ae (ah (ay IntKind.i64)) (jk 20 ag))))))) ag).jQ (fun y=>(y.1.1,y.1.2.1,y.1.2.2.1,y.1.2.2.2.1)) (fun
 x=>((x.1,(x.2.1,(x.2.2.1,(x.2.2.2,())))),())) (fun _=>rfl)
abbrev IX:List Wk:= [.fr (cK 61 [(5,.an),(38,.an),(39,.an),(40,.an)]),.syms,.auto,.ax]
abbrev ag9:Exit→List Wk:=qI IX 0 [.fr (cK 61 [(5,.an)]),.syms,.auto,.ax] [.fr (cK 61 [(4,.an)]),.syms,.auto,.ax]
abbrev Vh:Type:=Bool
noncomputable abbrev Aw (x:Vh):Exit×St:=(Exit.ret,⟨(eE 4 (LV.one (VV.sc (SV.bool (SB.sym x)))::(eE 56 []))),[]⟩)
abbrev Vi:Type:=Int
noncomputable abbrev Ax (x:Vi):Exit×St:=(Exit.exit 0,⟨(eE 5 (LV.one (VV.sc (SV.int IntKind.i64 (SI.sym x)))::(eE 55 []))),[]⟩)
noncomputable def yz (n:Int) (s:List Int) (m:Int) (i:Int):Tr (Dl⊕(Vh⊕Vi)):=(.ite (decide (i<m)) (.need (0≤i∧i<
 (↑s.length:Int)) (.ite (decide (s.getD i.toNat (0:Int)<1)==false) (.ite (decide (8192<s.getD i.toNat 0)==false) (.ite (decide (n<s.getD
 i.toNat 0)) (.ret (.inr (.inl (false)))) (.ret (.inl (IntKind.i64.wrap (n-s.getD i.toNat 0),s,m,IntKind.i64.wrap (i+1))))) (.ret (.inr (.inl
 (false))))) (.ret (.inr (.inl (false)))))) (.ret (.inr (.inr (n)))))
theorem Sl (p:gh) (d:List Int) (n:Int) (s:List Int) (m:Int) (i:Int):c8 Tryz.prog [] [] Tryz.f25 0 ((ag).wr (())) ag9 (yy.wr (n,s,m,i))=(yz n s m i).res yy.wr (Sum.elim Aw Ax):=by kernel_rfl
abbrev qm (n:Int) (s:List Int) (m:Int) (i:Int):Prop:=m=s.length∧0≤i∧i≤m∧0≤n∧n<1099511627776∧m<1099511627776
noncomputable abbrev IY (x_:Dl):a6:= .need ((fun (n:Int) (s:List Int) (m:Int) (i:Int)=>qm n s m i) x_.1 x_.2.1 x_.2.2.1 x_.2.2.2) (.ite ((fun (n:Int) (s:List Int) (m:Int) (i:Int)=> !te (s.drop i.toNat) n) x_.1 x_.2.1 x_.2.2.1 x_.2.2.2) (.leaf (Aw ((fun (n:Int) (s:List Int) (m:Int) (i:Int)=>false) x_.1 x_.2.1 x_.2.2.1 x_.2.2.2)).1 (Aw ((fun (n:Int) (s:List Int) (m:Int) (i:Int)=>false) x_.1 x_.2.1 x_.2.2.1 x_.2.2.2)).2) (.leaf (Ax ((fun (n:Int) (s:List Int) (m:Int) (i:Int)=>n-eN (s.drop i.toNat)) x_.1 x_.2.1 x_.2.2.1 x_.2.2.2)).1 (Ax ((fun (n:Int) (s:List Int) (m:Int) (i:Int)=>n-eN (s.drop i.toNat)) x_.1 x_.2.1 x_.2.2.1 x_.2.2.2)).2))
theorem aha (n:Int) (s:List Int) (m:Int) (i:Int) (h_:qm n s m i):cJ (fun x_:Dl=>yz x_.1 x_.2.1 x_.2.2.1 x_.2.2.2) (n,s,m,i) (bif !te (s.drop i.toNat) n then .inl (false) else .inr (n-eN (s.drop i.toNat))):=by
 obtain ⟨rfl,h1,h2,h3,h4,h5⟩:=h_
 obtain ⟨k,rfl⟩: ∃ k:Nat,i=k:=⟨i.toNat,by omega⟩
 obtain ⟨j,hj⟩: ∃ j:Nat,s.length-k=j:=⟨_,rfl⟩
 rw[Int.toNat_natCast]
 induction j generalizing k n with
 |zero=>
  rw[List.drop_eq_nil_of_le (by omega)]
  refine .stop ?_
  simp only[yz,te,eN,aN,aj,Bool.not_true,cond_false]
  exact ⟨fun h=>by omega,fun _=>by simp⟩
 |succ j ih=>
  have hk:k<s.length:=by omega
  rw[gq 0 hk,te,eN]
  have e1:decide ((k:Int)<s.length)=true:=decide_eq_true (by omega)
  generalize hx:s.getD k 0=x at*
  by_cases c:1≤x∧x≤8192∧x≤n
  ·have d1:(decide (x<1)==false)=true:=by simp;omega
   have d2:(decide (8192<x)==false)=true:=by simp;omega
   have d3:decide (n<x)=false:=decide_eq_false (by omega)
   rw[decide_eq_true c,Bool.true_and,show n-(x+eN (s.drop (k+1)))=n-x-eN (s.drop (k+1)) from by omega]
   refine .go ?_ (ih (n-x) (by omega) (by omega) (k+1) (by omega) (by omega) (by omega))
   simp only[yz,e1,aS,ai,aj,Int.toNat_natCast,hx,d1,d2,d3,a7]
   rw[aq (by omega) (by omega),aq (by omega) (by omega)]
   exact ⟨⟨by omega,by omega⟩,rfl⟩
  ·rw[decide_eq_false c,Bool.false_and]
   refine .stop ?_
   simp only[yz,e1,aS,ai,aj,bI,Int.toNat_natCast,hx]
   simp
   omega
theorem Y3 (p:gh) (d:List Int): ∀ x:Dl,Ex Tryz.prog ((ag).wr (())) (.loop (aU Tryz.f25 0)) (yy.wr x) (IY x):=
 bT mixed aD (ws:=ag9) (aP.nil _) (E:=Sum.elim Aw Ax) (L:=fun x_=>yz x_.1 x_.2.1 x_.2.2.1 x_.2.2.2) (pre:=fun x_=>(fun (n:Int) (s:List Int) (m:Int) (i:Int)=>qm n s m i) x_.1 x_.2.1 x_.2.2.1 x_.2.2.2) (sp:=fun x_=>bif (fun (n:Int) (s:List Int) (m:Int) (i:Int)=> !te (s.drop i.toNat) n) x_.1 x_.2.1 x_.2.2.1 x_.2.2.2 then .inl ((fun (n:Int) (s:List Int) (m:Int) (i:Int)=>false) x_.1 x_.2.1 x_.2.2.1 x_.2.2.2) else .inr ((fun (n:Int) (s:List Int) (m:Int) (i:Int)=>n-eN (s.drop i.toNat)) x_.1 x_.2.1 x_.2.2.1 x_.2.2.2)) (fun x_=>Sl p d x_.1 x_.2.1 x_.2.2.1 x_.2.2.2) (fun z=>by cases z<;>(intro e;cases e)) sy (fun x_ h=>aha x_.1 x_.2.1 x_.2.2.1 x_.2.2.2 h)
def yA (p:gh) (n:Int):Bool:=decide (0≤p.1∧p.1<8∧1≤p.2.2.2.length∧p.2.2.2.length≤16∧p.2.2.1≤p.2.1)&&(te p.2.2.2 n&&decide (n-eN p.2.2.2=0))
noncomputable def IZ (p:Int×Int×Int×List Int) (d:List Int):Int:=(↑d.length:Int)
noncomputable def I0 (p:Int×Int×Int×List Int) (d:List Int):Int:=(↑p.snd.snd.snd.length:Int)
abbrev ahb:Type:=Bool
noncomputable abbrev ahc (x:ahb):LV:=LV.one (VV.sc (SV.bool (SB.sym x)))
noncomputable abbrev ahd (x:ahb):List (Nat×Ev.Item):= []
noncomputable def Vj (p:Int×Int×Int×List Int) (d:List Int):Tr (ahb):=(.ite (decide (p.fst<0)==false) (.ite (decide (8≤p.fst)
 ==false) (.ite (decide (I0 p d<1)==false) (.ite (decide (16<I0 p d)==false) (.ite (decide (p.snd.fst<p.snd.snd.fst)) (.ret (false))
 (.need (qm (IZ p d) p.snd.snd.snd (I0 p d) 0) (.ite (!te (List.drop 0 p.snd.snd.snd) (IZ p d)) (.ret (false)) (.ret (IZ p d-
 eN (List.drop 0 p.snd.snd.snd)==0))))) (.ret (false))) (.ret (false))) (.ret (false))) (.ret (false)))
theorem Y4 (p:gh) (d:List Int):aY Tryz.prog [] [(0,aX yy ((ag).wr (())) IX (IY))] Tryz.f25 ((apI).wr (p,d,())) ((ag).wr (())) [.fr [.sym],.syms,.auto,.ax]=(Vj p d).end ahc ahd ((ag).wr (())):=by kernel_rfl
theorem ahe (p:gh) (d:List Int):aP Tryz.prog ((ag).wr (())) [(0,aX yy ((ag).wr (())) IX (IY))] (aH Tryz.f25):=(aP.cy (jr (by kernel_rfl) (bz (hp:=(ag).wr (())) (Y3 p d)) jH))
abbrev wZ (p:gh) (d:List Int):Prop:=d.length<1099511627776∧p.2.2.2.length<1099511627776
noncomputable def ahf:au:=au.bV [] (apI) (ag) fun x_ y_=> .leaf (some ((fun (p:gh) (d:List Int)=>wZ p d) x_.1 x_.2.1)) (ahc ((fun (p:gh) (d:List Int)=>yA p d.length) x_.1 x_.2.1)) (ahd ((fun (p:gh) (d:List Int)=>yA p d.length) x_.1 x_.2.1))
theorem alA (p:gh) (d:List Int) (h_:wZ p d):(Vj p d).Is (yA p d.length):=by
 obtain ⟨h1,h2⟩:=h_
 obtain ⟨a,b,c,s⟩:=p
 simp only at h2
 have p0:qm (d.length:Int) s (s.length:Int) 0:=⟨rfl,by omega,by omega,by omega,by omega,by omega⟩
 have e0:IZ (a,b,c,s) d=d.length:=rfl
 have e2:I0 (a,b,c,s) d=s.length:=rfl
 simp only[Vj,bI,ai,aj,yA,e0,e2]
 simp
 grind
theorem Vk:ahf.Ok Tryz.prog 25:=
 bM (tys:= []) (A:=apI) (H:=ag) (LT:=fun x_ y_=>(fun (p:gh) (d:List Int)=> [(0,aX yy ((ag).wr (())) IX (IY))]) x_.1 x_.2.1) (ks:= [.fr [.sym],.syms,.auto,.ax]) (V:=ahc) (D:=ahd) (T:=fun x_ y_=>Vj x_.1 x_.2.1) (pre:=fun x_ y_=>(fun (p:gh) (d:List Int)=>wZ p d) x_.1 x_.2.1) (sp:=fun x_ y_=>(fun (p:gh) (d:List Int)=>yA p d.length) x_.1 x_.2.1) mixed aD Tryz.func25 (by kernel_rfl) Tryz.call25 (fun x_ y_=>ahe x_.1 x_.2.1) (fun x_ y_=>Y4 x_.1 x_.2.1) (fun x_ y_ h=>alA x_.1 x_.2.1 h)
end Go.Proofs.YtjalaohajcpllaaGreat
end
section
set_option linter.unusedVariables false
set_option linter.unusedSimpArgs false
namespace Go.Proofs.YtjalaohajcpllaaGreat
open Go Go.Ev
set_option maxRecDepth 1000000
noncomputable abbrev apJ:au:=Di cT
theorem ahg:apJ.Ok Tryz.prog 22:=IS
noncomputable abbrev Sm:au:=eSi ql
theorem MQ:Sm.Ok Tryz.prog 26:=alv
abbrev ahh:a9 (List LV) (List Int×gh×List Int×Unit):=ae cB (ae (FZ am0) (ae (ah (dB false false u8)) ag))
abbrev MR:Type:=(List Int)×(List Int)×(List Int)×Int×Int×(List Int)×Int×Int×Int×(List Int)×(List Int)×(List Int)
noncomputable abbrev Fg:a9 St MR:=(bH (jk 2 (ae (ah (dB false false (Ty.int IntKind.u8))) (ak (ah (aJ (0) (0))) (ak (ah
 (aJ (1) (0))) (jk 3 (ak (ah (jY (2) (0))) (ak (ah (jY (3) (0))) (ae (ah (dB false false (Ty.int IntKind.u8))) (jk 14 (ae (ah
 (dB false false (Ty.int IntKind.i64))) (ae (ah (ay IntKind.i64)) (ae (ah (ay IntKind.i64)) (jk 66 ag))))))))))))) (ae (dN (22)
 ((ae (tM (Ty.int IntKind.u8) (32)) ag))) (ae (dN (26) ((ae (ay IntKind.i64) (ae (ay IntKind.u64) (ae (ay IntKind.u64) (ae
 (dB false false (Ty.int IntKind.i64)) ag)))))) (ae (cg (0) (Ty.int IntKind.u8)) (ae (cg (0) (Ty.int IntKind.u8)) ag))))).jQ (fun y=>
 (y.1.1,y.1.2.1,y.1.2.2.1,y.1.2.2.2.1,y.1.2.2.2.2.1,y.2.1.1,y.2.2.1.1,y.2.2.1.2.1,y.2.2.1.2.2.1,y.2.2.1.2.2.2.1,y.2.2.2.1,y.2.2.2.2.1)) (fun
 x=>((x.1,(x.2.1,(x.2.2.1,(x.2.2.2.1,(x.2.2.2.2.1,()))))),((x.2.2.2.2.2.1,()),((x.2.2.2.2.2.2.1,(x.2.2.2.2.2.2.2.1,(x.2.2.2.2.2.2.2.2.1,
 (x.2.2.2.2.2.2.2.2.2.1,())))),(x.2.2.2.2.2.2.2.2.2.2.1,(x.2.2.2.2.2.2.2.2.2.2.2,())))))) (fun _=>rfl)
abbrev Vl:List Wk:= [.ct 8 u8,.ct 9 u8,.fr (cK 94 [(2,.an),(3,.an),(4,.an),(8,.an),(9,.an),(10,.an),(25,.an),
 (26,.an),(27,.an)]),.syms,.auto,.ax]
abbrev am1:Exit→List Wk:=qI Vl 0 [.ct 8 u8,.ct 9 u8,.fr (cK 94 [(2,.an),(3,.an),(4,.an),(8,.an),(9,.an)]),.syms,
 .auto,.ax] [.ct 8 u8,.ct 9 u8,.fr (cK 94 [(6,.an),(7,.an)]),.syms,.auto,.ax]
noncomputable def I1 (rest:List Int) (sz:List Int) (i:Int):List Int:= [(ar (List.take (sz.getD i.toNat (0:Int)-0).toNat (List.drop
 0 rest))).snd].flatten
noncomputable def I2 (rest:List Int) (sz:List Int) (i:Int) (F:List Int):Nat:=F.length+(ar (List.take (sz.getD i.toNat (0:Int)-
 0).toNat (List.drop 0 rest))).snd.length
abbrev ahi:Type:=Int
noncomputable abbrev I3 (x:ahi):Exit×St:=(Exit.ret,⟨(eE 6 (LV.one (VV.sc (SV.gz (Value.slice none 0 0)))::(LV.one (VV.sc (SV.int
 IntKind.i64 (SI.sym x)))::(eE 86 [])))),[]⟩)
abbrev ahj:Type:=(List Int)×(List Int)×Int×Int×Int×(List Int)×(List Int)×(List Int)
noncomputable abbrev I4 (x:ahj):Exit×St:=(Exit.exit 0,⟨(eE 2 (LV.one (VV.sc (SV.rd false false (Ty.int IntKind.u8) x.1))::(LV.one
 (VV.sc (SV.ptr 0 0))::(LV.one (VV.sc (SV.ptr 1 0))::(eE 3 (LV.one (VV.sc (SV.sl 2 0))::(LV.one (VV.sc (SV.sl 3 0))::(eE 84 [])))))))),[some
 (Item.a8 [SV.arr (Ty.int IntKind.u8) 32 x.2.1] 22),some (Item.a8 [SV.int IntKind.i64 (SI.sym x.2.2.1),SV.int IntKind.u64 (SI.sym x.2.2.2.1),SV.int
 IntKind.u64 (SI.sym x.2.2.2.2.1),SV.rd false false (Ty.int IntKind.i64) x.2.2.2.2.2.1] 26),some (Item.own 0 (Ty.int IntKind.u8) x.2.2.2.2.2.2.1),
 some (Item.own 0 (Ty.int IntKind.u8) x.2.2.2.2.2.2.2)]⟩)
noncomputable def Fh (d':List Int) (rest:List Int) (sz:List Int) (m:Int) (i:Int) (s':List Int) (pk:Int) (pv:Int) (pf:Int) (ps:
 List Int) (L:List Int) (F:List Int):Tr (MR⊕(ahi⊕ahj)):=(.ite (decide (i<m)) (.need (0≤i∧i<(↑sz.length:Int)) (.need ((0:
 Int)≤0∧0≤sz.getD i.toNat 0∧sz.getD i.toNat 0≤(↑rest.length:Int)) (.ite (decide ¬(ar (List.take (sz.getD i.toNat (0:Int)-0).toNat
 (List.drop 0 rest))).fst=0) (.need (fH (List.take (sz.getD i.toNat (0:Int)-0).toNat (List.drop 0 rest))) (.ite ((ar (List.take
 (sz.getD i.toNat (0:Int)-0).toNat (List.drop 0 rest))).fst !=0) (.ret (.inr (.inl ((ar (List.take (sz.getD i.toNat (0:Int)-0).toNat
 (List.drop 0 rest))).fst)))) (.need (0≤sz.getD i.toNat 0∧sz.getD i.toNat 0≤(↑rest.length:Int)∧(↑rest.length:Int)≤(↑rest.length:Int))
 (.need (1<2305843009213693952∧0<1152921504606846976) (.need ((0:Int)≤0∧(0:Int)≤64∧(64:Int)≤64) (.need ((L.length+64)*1≤
 70368744177664∧L.length+64≤70368744177664) (.need ((F.length+0)*1≤70368744177664∧F.length+0≤70368744177664) (.ret (.inl (d',
 List.take ((↑rest.length:Int)-sz.getD i.toNat 0).toNat (List.drop (Int.toNat (sz.getD i.toNat 0)) rest),sz,m,IntKind.i64.wrap (i+1),s',pk,
 pv,pf,ps,L++List.take 64 (List.drop 0 (cT [[]].flatten)),F++ [])))))))))) (.need (fH (List.take (sz.getD i.toNat (0:Int)-0).toNat
 (List.drop 0 rest))) (.ite ((0:Int)!=0) (.ret (.inr (.inl (0)))) (.need (0≤sz.getD i.toNat 0∧sz.getD i.toNat 0≤(↑rest.length:Int)∧
 (↑rest.length:Int)≤(↑rest.length:Int)) (.need (1<2305843009213693952∧(I1 rest sz i).length<1152921504606846976) (.need ((0:Int)≤0∧
 (0:Int)≤64∧(64:Int)≤64) (.need ((L.length+64)*1≤70368744177664∧L.length+64≤70368744177664) (.need (I2 rest sz i F*1≤
 70368744177664∧I2 rest sz i F≤70368744177664) (.ret (.inl (d',List.take ((↑rest.length:Int)-sz.getD i.toNat 0).toNat (List.drop (Int.toNat
 (sz.getD i.toNat 0)) rest),sz,m,IntKind.i64.wrap (i+1),s',pk,pv,pf,ps,L++List.take 64 (List.drop 0 (cT (I1 rest sz i))),F++
 (ar (List.take (sz.getD i.toNat (0:Int)-0).toNat (List.drop 0 rest))).snd))))))))))))) (.ret (.inr (.inr (d',s',pk,pv,pf,ps,L,F)))))
theorem Y5 (s:List Int) (p:gh) (d:List Int) (d':List Int) (rest:List Int) (sz:List Int) (m:Int) (i:Int) (s':List Int) (pk:Int) (pv:Int) (pf:Int) (ps:List Int) (L:List Int) (F:List Int):c8 Tryz.prog [(25,ahf),(16,Ar),(22,apJ),(26,Sm),(29,anU),(28,Ik),(27,anV),(30,Hq)] [] Tryz.f9 0 ((ag).wr (())) am1 (Fg.wr (d',rest,sz,m,i,s',pk,pv,pf,ps,L,F))=(Fh d' rest sz m i s' pk pv pf ps L F).res Fg.wr (Sum.elim I3 I4):=by kernel_rfl
noncomputable def jE:List Int→List Int→List Int→List Int→Int×List Int×List Int
 | [],_,L,F=>(0,L,F)
 |n::l,rest,L,F=>if (ar (rest.take n.toNat)).1≠0 then ((ar (rest.take n.toNat)).1,[],[]) else jE l (rest.drop n.toNat) (L++cT (ar (rest.take n.toNat)).2) (F++(ar (rest.take n.toNat)).2)
theorem yB (b:List Int):(ar b).2.length≤4100:=by
 unfold ar
 split
 ·simp
 ·split
  ·simp
  ·rename_i h
   have:=(QL (b:=b) (by simpa using h)).2
   simp;omega
abbrev w5 (d':List Int) (rest:List Int) (sz:List Int) (m:Int) (i:Int) (s':List Int) (pk:Int) (pv:Int) (pf:Int) (ps:List Int) (L:List Int) (F:List Int):Prop:=m=sz.length∧0≤i∧i≤m∧m≤16∧te (sz.drop i.toNat) rest.length=true∧aC rest∧rest.length<1099511627776∧L.length≤64*i∧F.length≤4100*i
noncomputable abbrev Vm (x_:MR):a6:= .need ((fun (d':List Int) (rest:List Int) (sz:List Int) (m:Int) (i:Int) (s':List Int) (pk:Int) (pv:Int) (pf:Int) (ps:List Int) (L:List Int) (F:List Int)=>w5 d' rest sz m i s' pk pv pf ps L F) x_.1 x_.2.1 x_.2.2.1 x_.2.2.2.1 x_.2.2.2.2.1 x_.2.2.2.2.2.1 x_.2.2.2.2.2.2.1 x_.2.2.2.2.2.2.2.1 x_.2.2.2.2.2.2.2.2.1 x_.2.2.2.2.2.2.2.2.2.1 x_.2.2.2.2.2.2.2.2.2.2.1 x_.2.2.2.2.2.2.2.2.2.2.2) (.ite ((fun (d':List Int) (rest:List Int) (sz:List Int) (m:Int) (i:Int) (s':List Int) (pk:Int) (pv:Int) (pf:Int) (ps:List Int) (L:List Int) (F:List Int)=>decide ((jE (sz.drop i.toNat) rest L F).1≠0)) x_.1 x_.2.1 x_.2.2.1 x_.2.2.2.1 x_.2.2.2.2.1 x_.2.2.2.2.2.1 x_.2.2.2.2.2.2.1 x_.2.2.2.2.2.2.2.1 x_.2.2.2.2.2.2.2.2.1 x_.2.2.2.2.2.2.2.2.2.1 x_.2.2.2.2.2.2.2.2.2.2.1 x_.2.2.2.2.2.2.2.2.2.2.2) (.leaf (I3 ((fun (d':List Int) (rest:List Int) (sz:List Int) (m:Int) (i:Int) (s':List Int) (pk:Int) (pv:Int) (pf:Int) (ps:List Int) (L:List Int) (F:List Int)=>(jE (sz.drop i.toNat) rest L F).1) x_.1 x_.2.1 x_.2.2.1 x_.2.2.2.1 x_.2.2.2.2.1 x_.2.2.2.2.2.1 x_.2.2.2.2.2.2.1 x_.2.2.2.2.2.2.2.1 x_.2.2.2.2.2.2.2.2.1 x_.2.2.2.2.2.2.2.2.2.1 x_.2.2.2.2.2.2.2.2.2.2.1 x_.2.2.2.2.2.2.2.2.2.2.2)).1 (I3 ((fun (d':List Int) (rest:List Int) (sz:List Int) (m:Int) (i:Int) (s':List Int) (pk:Int) (pv:Int) (pf:Int) (ps:List Int) (L:List Int) (F:List Int)=>(jE (sz.drop i.toNat) rest L F).1) x_.1 x_.2.1 x_.2.2.1 x_.2.2.2.1 x_.2.2.2.2.1 x_.2.2.2.2.2.1 x_.2.2.2.2.2.2.1 x_.2.2.2.2.2.2.2.1 x_.2.2.2.2.2.2.2.2.1 x_.2.2.2.2.2.2.2.2.2.1 x_.2.2.2.2.2.2.2.2.2.2.1 x_.2.2.2.2.2.2.2.2.2.2.2)).2) (.leaf (I4 ((fun (d':List Int) (rest:List Int) (sz:List Int) (m:Int) (i:Int) (s':List Int) (pk:Int) (pv:Int) (pf:Int) (ps:List Int) (L:List Int) (F:List Int)=>(d',s',pk,pv,pf,ps,(jE (sz.drop i.toNat) rest L F).2)) x_.1 x_.2.1 x_.2.2.1 x_.2.2.2.1 x_.2.2.2.2.1 x_.2.2.2.2.2.1 x_.2.2.2.2.2.2.1 x_.2.2.2.2.2.2.2.1 x_.2.2.2.2.2.2.2.2.1 x_.2.2.2.2.2.2.2.2.2.1 x_.2.2.2.2.2.2.2.2.2.2.1 x_.2.2.2.2.2.2.2.2.2.2.2)).1 (I4 ((fun (d':List Int) (rest:List Int) (sz:List Int) (m:Int) (i:Int) (s':List Int) (pk:Int) (pv:Int) (pf:Int) (ps:List Int) (L:List Int) (F:List Int)=>(d',s',pk,pv,pf,ps,(jE (sz.drop i.toNat) rest L F).2)) x_.1 x_.2.1 x_.2.2.1 x_.2.2.2.1 x_.2.2.2.2.1 x_.2.2.2.2.2.1 x_.2.2.2.2.2.2.1 x_.2.2.2.2.2.2.2.1 x_.2.2.2.2.2.2.2.2.1 x_.2.2.2.2.2.2.2.2.2.1 x_.2.2.2.2.2.2.2.2.2.2.1 x_.2.2.2.2.2.2.2.2.2.2.2)).2))
theorem alB (d':List Int) (rest:List Int) (sz:List Int) (m:Int) (i:Int) (s':List Int) (pk:Int) (pv:Int) (pf:Int) (ps:List Int) (L:List Int) (F:List Int) (h_:w5 d' rest sz m i s' pk pv pf ps L F):cJ (fun x_:MR=>Fh x_.1 x_.2.1 x_.2.2.1 x_.2.2.2.1 x_.2.2.2.2.1 x_.2.2.2.2.2.1 x_.2.2.2.2.2.2.1 x_.2.2.2.2.2.2.2.1 x_.2.2.2.2.2.2.2.2.1 x_.2.2.2.2.2.2.2.2.2.1 x_.2.2.2.2.2.2.2.2.2.2.1 x_.2.2.2.2.2.2.2.2.2.2.2) (d',rest,sz,m,i,s',pk,pv,pf,ps,L,F) (bif decide ((jE (sz.drop i.toNat) rest L F).1≠0) then .inl ((jE (sz.drop i.toNat) rest L F).1) else .inr ((d',s',pk,pv,pf,ps,(jE (sz.drop i.toNat) rest L F).2))):=by
 obtain ⟨rfl,h1,h2,h3,h4,h5,h6,h7,h8⟩:=h_
 obtain ⟨k,rfl⟩: ∃ k:Nat,i=k:=⟨i.toNat,by omega⟩
 obtain ⟨j,hj⟩: ∃ j:Nat,sz.length-k=j:=⟨_,rfl⟩
 rw[Int.toNat_natCast] at h4 ⊢
 induction j generalizing k rest L F with
 |zero=>
  rw[List.drop_eq_nil_of_le (by omega),jE]
  refine .stop ?_
  simp only[Fh,aN,aj]
  exact ⟨fun h=>by omega,fun _=>by simp⟩
 |succ j ih=>
  have hk:k<sz.length:=by omega
  rw[gq 0 hk] at h4 ⊢
  rw[te,Bool.and_eq_true] at h4
  rw[jE]
  have e1:decide ((k:Int)<sz.length)=true:=decide_eq_true (by omega)
  have sC:I1 rest sz (k:Int)=(ar (List.take (sz.getD k 0-0).toNat (List.drop 0 rest))).2:=by unfold I1;rw[Int.toNat_natCast];simp
  have nF:I2 rest sz (k:Int) F=F.length+(ar (List.take (sz.getD k 0-0).toNat (List.drop 0 rest))).2.length:=by unfold I2;rw[Int.toNat_natCast]
  rw[Int.sub_zero,List.drop_zero] at sC nF
  generalize hx:sz.getD k 0=x at*
  have hs:=of_decide_eq_true h4.1
  have hfl:=yB (rest.take x.toNat)
  have nb:=gd (ar (rest.take x.toNat)).2
  have p0:fH (rest.take x.toNat):=⟨fun z hz=>h5 z (List.mem_of_mem_take hz),by rw[List.length_take];omega⟩
  have es:List.take 64 (List.drop 0 (cT (ar (rest.take x.toNat)).2))=cT (ar (rest.take x.toNat)).2:=by
   rw[List.drop_zero,List.take_of_length_le (by omega)]
  have er:List.take ((rest.length:Int)-x).toNat (List.drop x.toNat rest)=rest.drop x.toNat:=List.take_of_length_le (by rw[List.length_drop];omega)
  by_cases c:(ar (rest.take x.toNat)).1=0
  ·rw[if_neg (by simpa using c)]
   have d1:decide ¬(ar (rest.take x.toNat)).1=0=false:=by simpa using c
   have d2:((0:Int)!=0)=false:=rfl
   refine .go ?_ (ih (rest.drop x.toNat) (L++cT (ar (rest.take x.toNat)).2) (F++(ar (rest.take x.toNat)).2) (fun z hz=>h5 z (List.mem_of_mem_drop hz)) (by rw[List.length_drop];omega) (k+1) (by omega) (by omega) (by
    rw[List.length_drop,show ((rest.length-x.toNat:Nat):Int)=rest.length-x from by omega];exact h4.2) (by rw[List.length_append,nb];omega) (by rw[List.length_append];omega) (by omega))
   simp only[Fh,e1,aS,ai,aj,Int.toNat_natCast,hx,Int.sub_zero,List.drop_zero,d1,d2,a7,sC,nF]
   rw[List.drop_zero] at es
   rw[es,er,aq (by omega) (by omega)]
   exact ⟨⟨by omega,by omega⟩,⟨by omega,by omega,by omega⟩,p0,⟨by omega,by omega,by omega⟩,⟨by decide,by omega⟩,⟨by omega,by omega,by omega⟩,⟨by omega,by omega⟩,⟨by omega,by omega⟩,rfl⟩
  ·rw[if_pos c]
   have d1:decide ¬(ar (rest.take x.toNat)).1=0=true:=by simpa using c
   have d2:((ar (rest.take x.toNat)).1!=0)=true:=by simpa using c
   refine .stop ?_
   simp only[Fh,e1,aS,ai,aj,Int.toNat_natCast,hx,Int.sub_zero,List.drop_zero,d1,d2]
   exact ⟨⟨by omega,by omega⟩,⟨by omega,by omega,by omega⟩,p0,rfl⟩
theorem ahk (s:List Int) (p:gh) (d:List Int): ∀ x:MR,Ex Tryz.prog ((ag).wr (())) (.loop (aU Tryz.f9 0)) (Fg.wr x) (Vm x):=
 bT mixed ((ao Vk (ao yc (ao ahg (ao MQ (ao ac6 (ao EO (ao ac9 (ao pJ aD))))))))) (ws:=am1) (aP.nil _) (E:=Sum.elim I3 I4) (L:=fun x_=>Fh x_.1 x_.2.1 x_.2.2.1 x_.2.2.2.1 x_.2.2.2.2.1 x_.2.2.2.2.2.1 x_.2.2.2.2.2.2.1 x_.2.2.2.2.2.2.2.1 x_.2.2.2.2.2.2.2.2.1 x_.2.2.2.2.2.2.2.2.2.1 x_.2.2.2.2.2.2.2.2.2.2.1 x_.2.2.2.2.2.2.2.2.2.2.2) (pre:=fun x_=>(fun (d':List Int) (rest:List Int) (sz:List Int) (m:Int) (i:Int) (s':List Int) (pk:Int) (pv:Int) (pf:Int) (ps:List Int) (L:List Int) (F:List Int)=>w5 d' rest sz m i s' pk pv pf ps L F) x_.1 x_.2.1 x_.2.2.1 x_.2.2.2.1 x_.2.2.2.2.1 x_.2.2.2.2.2.1 x_.2.2.2.2.2.2.1 x_.2.2.2.2.2.2.2.1 x_.2.2.2.2.2.2.2.2.1 x_.2.2.2.2.2.2.2.2.2.1 x_.2.2.2.2.2.2.2.2.2.2.1 x_.2.2.2.2.2.2.2.2.2.2.2) (sp:=fun x_=>bif (fun (d':List Int) (rest:List Int) (sz:List Int) (m:Int) (i:Int) (s':List Int) (pk:Int) (pv:Int) (pf:Int) (ps:List Int) (L:List Int) (F:List Int)=>decide ((jE (sz.drop i.toNat) rest L F).1≠0)) x_.1 x_.2.1 x_.2.2.1 x_.2.2.2.1 x_.2.2.2.2.1 x_.2.2.2.2.2.1 x_.2.2.2.2.2.2.1 x_.2.2.2.2.2.2.2.1 x_.2.2.2.2.2.2.2.2.1 x_.2.2.2.2.2.2.2.2.2.1 x_.2.2.2.2.2.2.2.2.2.2.1 x_.2.2.2.2.2.2.2.2.2.2.2 then .inl ((fun (d':List Int) (rest:List Int) (sz:List Int) (m:Int) (i:Int) (s':List Int) (pk:Int) (pv:Int) (pf:Int) (ps:List Int) (L:List Int) (F:List Int)=>(jE (sz.drop i.toNat) rest L F).1) x_.1 x_.2.1 x_.2.2.1 x_.2.2.2.1 x_.2.2.2.2.1 x_.2.2.2.2.2.1 x_.2.2.2.2.2.2.1 x_.2.2.2.2.2.2.2.1 x_.2.2.2.2.2.2.2.2.1 x_.2.2.2.2.2.2.2.2.2.1 x_.2.2.2.2.2.2.2.2.2.2.1 x_.2.2.2.2.2.2.2.2.2.2.2) else .inr ((fun (d':List Int) (rest:List Int) (sz:List Int) (m:Int) (i:Int) (s':List Int) (pk:Int) (pv:Int) (pf:Int) (ps:List Int) (L:List Int) (F:List Int)=>(d',s',pk,pv,pf,ps,(jE (sz.drop i.toNat) rest L F).2)) x_.1 x_.2.1 x_.2.2.1 x_.2.2.2.1 x_.2.2.2.2.1 x_.2.2.2.2.2.1 x_.2.2.2.2.2.2.1 x_.2.2.2.2.2.2.2.1 x_.2.2.2.2.2.2.2.2.1 x_.2.2.2.2.2.2.2.2.2.1 x_.2.2.2.2.2.2.2.2.2.2.1 x_.2.2.2.2.2.2.2.2.2.2.2)) (fun x_=>Y5 s p d x_.1 x_.2.1 x_.2.2.1 x_.2.2.2.1 x_.2.2.2.2.1 x_.2.2.2.2.2.1 x_.2.2.2.2.2.2.1 x_.2.2.2.2.2.2.2.1 x_.2.2.2.2.2.2.2.2.1 x_.2.2.2.2.2.2.2.2.2.1 x_.2.2.2.2.2.2.2.2.2.2.1 x_.2.2.2.2.2.2.2.2.2.2.2) (fun z=>by cases z<;>(intro e;cases e)) sy (fun x_ h=>alB x_.1 x_.2.1 x_.2.2.1 x_.2.2.2.1 x_.2.2.2.2.1 x_.2.2.2.2.2.1 x_.2.2.2.2.2.2.1 x_.2.2.2.2.2.2.2.1 x_.2.2.2.2.2.2.2.2.1 x_.2.2.2.2.2.2.2.2.2.1 x_.2.2.2.2.2.2.2.2.2.2.1 x_.2.2.2.2.2.2.2.2.2.2.2 h)
noncomputable def Vn (p:Int×Int×Int×List Int) (d:List Int):List Int:= [(jE (List.drop 0 p.snd.snd.snd) d [] []).snd.fst].flatten
noncomputable def ahl (p:Int×Int×Int×List Int):Int×Int×Int×List Int:=p
noncomputable def Vo (s:List Int) (p:Int×Int×Int×List Int) (d:List Int):List Int:=gE p.fst (↑p.snd.snd.snd.length:Int)
noncomputable def MS (s:List Int) (p:Int×Int×Int×List Int) (d:List Int):List Int:=j1 p.snd.fst p.snd.snd.fst (↑d.length:Int)
 (cT (Vn p d)) (cT [d].flatten)
noncomputable def Fk (s:List Int) (p:Int×Int×Int×List Int) (d:List Int):List Int×Int:=ql s [98,111,111,116,106,97,99,
 107] (wo (sD (Vo s p d) (MS s p d) (List.replicate 64 (0:Int))))
noncomputable def I5 (s:List Int) (p:Int×Int×Int×List Int) (d:List Int):List Int:= [sD (Vo s p d) (MS s p d) (Fk s p
 d).fst,(jE (List.drop 0 p.snd.snd.snd) d [] []).snd.fst,(jE (List.drop 0 p.snd.snd.snd) d [] []).snd.snd].flatten
abbrev apK:Type:=(List Int)×Int
noncomputable abbrev apL (x:apK):LV:=LV.cV [VV.sc (SV.rd true false (Ty.int IntKind.u8) x.1),VV.sc (SV.int IntKind.i64 (SI.sym x.2))]
noncomputable abbrev apM (x:apK):List (Nat×Ev.Item):= []
noncomputable def alC (s:List Int) (p:Int×Int×Int×List Int) (d:List Int):Tr (apK):=(.need (wZ (ahl p) d) (.ite (!yA (ahl
 p) (↑d.length:Int)) (.ret ([],1)) (.need (w5 d d p.snd.snd.snd (↑p.snd.snd.snd.length:Int) 0 s p.fst p.snd.fst p.snd.snd.fst p.snd.snd.snd []
 []) (.ite (decide ¬(jE (List.drop 0 p.snd.snd.snd) d [] []).fst=0) (.ret ([],(jE (List.drop 0 p.snd.snd.snd) d [] []).fst)) (.need (1<
 2305843009213693952∧(Vn p d).length<1152921504606846976) (.need (1<2305843009213693952∧ [d].flatten.length<1152921504606846976) (.need (0≤
 p.snd.fst∧p.snd.fst<18446744073709551616∧0≤p.snd.snd.fst∧p.snd.snd.fst<18446744073709551616) (.need ((sD (Vo s p d) (MS s p d)
 (List.replicate 64 (0:Int))).length<1152921504606846976) (.need (s.length=32∧64=64) (.ite ((Fk s p d).snd !=0) (.ret ([],(Fk s p
 d).snd)) (.need (0≤p.snd.fst∧p.snd.fst<18446744073709551616∧0≤p.snd.snd.fst∧p.snd.snd.fst<18446744073709551616) (.need ((I5 s p
 d).length≤70368744177664∧3≤140737488355328) (.ret (I5 s p d,0))))))))))))))
theorem ahm (s:List Int) (p:gh) (d:List Int):aY Tryz.prog [(25,ahf),(16,Ar),(22,apJ),(26,Sm),(29,anU),(28,Ik),(27,anV),(30,Hq)] [(0,aX Fg ((ag).wr (())) Vl (Vm))] Tryz.f9 ((ahh).wr (s,p,d,())) ((ag).wr (())) [.ct 8 u8,.ct 9 u8,.aag,.fr [.rd true u8],.fr [.sym],.syms,.auto,.ax]=(alC s p d).end apL apM ((ag).wr (())):=by kernel_rfl
theorem alD (s:List Int) (p:gh) (d:List Int):aP Tryz.prog ((ag).wr (())) [(0,aX Fg ((ag).wr (())) Vl (Vm))] (aH Tryz.f9):=(aP.cy (jr (by kernel_rfl) (bz (hp:=(ag).wr (())) (ahk s p d)) jH))
def Sn:List Int:=List.replicate 64 0
noncomputable def I6 (s:List Int) (p:gh) (d L:List Int):List Int:=
 sD (gE p.1 p.2.2.2.length) (j1 p.2.1 p.2.2.1 d.length (cT L) (cT d)) (ql s MP (wo (sD (gE p.1 p.2.2.2.length) (j1 p.2.1 p.2.2.1 d.length (cT L) (cT d)) Sn))).1
noncomputable def eO (s:List Int) (p:gh) (d:List Int):Int×List Int:=
 if yA p d.length=false then (1,[])
 else if (jE p.2.2.2 d [] []).1≠0 then ((jE p.2.2.2 d [] []).1,[])
 else (0,I6 s p d (jE p.2.2.2 d [] []).2.1++(jE p.2.2.2 d [] []).2.1++(jE p.2.2.2 d [] []).2.2)
theorem Vp: ∀ (l rest L F:List Int),(jE l rest L F).2.1.length≤L.length+64*l.length∧(jE l rest L F).2.2.length≤F.length+4100*l.length
 | [],_,L,F=>by simp[jE]
 |n::l,rest,L,F=>by
  rw[jE]
  split
  ·simp
  ·have h1:=yB (rest.take n.toNat)
   have h2:=gd (ar (rest.take n.toNat)).2
   obtain ⟨k1,k2⟩:=Vp l (rest.drop n.toNat) (L++cT (ar (rest.take n.toNat)).2) (F++(ar (rest.take n.toNat)).2)
   rw[List.length_append] at k1 k2
   rw[List.length_cons];omega
theorem alE (c v s:Int) (a b:List Int):(j1 c v s a b).length≤152:=by
 unfold j1
 split
 ·simp only[List.length_append,List.length_take,eK];omega
 ·simp
theorem ahn (h m g:List Int):(sD h m g).length≤h.length+m.length+64:=by
 unfold sD
 split
 ·simp
 ·simp only[List.length_append,List.length_take];omega
theorem I7 {p:gh} {n:Int} (h:yA p n=true):0≤p.1∧p.1<8∧1≤p.2.2.2.length∧p.2.2.2.length≤16∧p.2.2.1≤p.2.1∧te p.2.2.2 n=true∧eN p.2.2.2=n:=by
 unfold yA at h
 rw[Bool.and_eq_true,Bool.and_eq_true] at h
 have h1:=of_decide_eq_true h.1
 have h2:=of_decide_eq_true h.2.2
 exact ⟨h1.1,h1.2.1,h1.2.2.1,h1.2.2.2.1,h1.2.2.2.2,h.2.1,by omega⟩
theorem Y6 (s m:List Int):(ql s MP m).2=0:=by
 rw[Dj,if_pos (by decide)]
abbrev Dm (s:List Int) (p:gh) (d:List Int):Prop:=s.length=32∧aC d∧d.length<1099511627776∧p.2.2.2.length<1099511627776∧0≤p.2.1∧p.2.1<18446744073709551616∧0≤p.2.2.1∧p.2.2.1<18446744073709551616
noncomputable def atX:au:=au.bV [none,some (.int .i64),some u8] (ahh) (ag) fun x_ y_=> .leaf (some ((fun (s:List Int) (p:gh) (d:List Int)=>Dm s p d) x_.1 x_.2.1 x_.2.2.1)) (apL ((fun (s:List Int) (p:gh) (d:List Int)=>((eO s p d).2,(eO s p d).1)) x_.1 x_.2.1 x_.2.2.1)) (apM ((fun (s:List Int) (p:gh) (d:List Int)=>((eO s p d).2,(eO s p d).1)) x_.1 x_.2.1 x_.2.2.1))
theorem apN (s:List Int) (p:gh) (d:List Int) (h_:Dm s p d):(alC s p d).Is (((eO s p d).2,(eO s p d).1)):=by
 obtain ⟨h1,h2,h3,h4,h5,h6,h7,h8⟩:=h_
 have q2:ahl p=p:=rfl
 have p0:wZ p d:=⟨h3,h4⟩
 simp only[alC,q2,ai]
 refine ⟨p0,?_⟩
 cases hm:yA p d.length with
 |false=>
  have e:eO s p d=(1,[]):=by unfold eO;rw[if_pos hm]
  simp only[e,Bool.not_false,aS,aj]
 |true=>
  obtain ⟨m1,m2,m3,m4,m5,m6,m7⟩:=I7 hm
  have p1:w5 d d p.2.2.2 (p.2.2.2.length:Int) 0 s p.1 p.2.1 p.2.2.1 p.2.2.2 [] []:=⟨rfl,by omega,by omega,by omega,m6,h2,h3,by simp,by simp⟩
  simp only[Bool.not_true,a7,ai,List.drop_zero]
  refine ⟨p1,?_⟩
  obtain ⟨l1,l2⟩:=Vp p.2.2.2 d [] []
  have q0:Vn p d=(jE p.2.2.2 d [] []).2.1:=by unfold Vn;simp
  have q7:Vo s p d=gE p.1 p.2.2.2.length:=rfl
  have q8:MS s p d=j1 p.2.1 p.2.2.1 d.length (cT (jE p.2.2.2 d [] []).2.1) (cT d):=by unfold MS;rw[q0];simp
  have q9:Fk s p d=ql s MP (wo (sD (gE p.1 p.2.2.2.length) (j1 p.2.1 p.2.2.1 d.length (cT (jE p.2.2.2 d [] []).2.1) (cT d)) Sn)):=by unfold Fk;rw[q7,q8];rfl
  have q10:I5 s p d=I6 s p d (jE p.2.2.2 d [] []).2.1++(jE p.2.2.2 d [] []).2.1++(jE p.2.2.2 d [] []).2.2:=by
   unfold I5 I6;rw[q7,q8,q9];simp
  by_cases c:(jE p.2.2.2 d [] []).1=0
  ·have e:eO s p d=(0,I6 s p d (jE p.2.2.2 d [] []).2.1++(jE p.2.2.2 d [] []).2.1++(jE p.2.2.2 d [] []).2.2):=by unfold eO;rw[if_neg (by rw[hm];simp),if_neg (by simpa using c)]
   have c1:decide ¬(jE p.2.2.2 d [] []).1=0=false:=by simpa using c
   have c2:((Fk s p d).2!=0)=false:=by rw[q9,Y6];rfl
   have hh:=EA p.1 p.2.2.2.length
   have hmn:=alE p.2.1 p.2.2.1 d.length (cT (jE p.2.2.2 d [] []).2.1) (cT d)
   have hlb:=fun g=>ahn (gE p.1 p.2.2.2.length) (j1 p.2.1 p.2.2.1 d.length (cT (jE p.2.2.2 d [] []).2.1) (cT d)) g
   have hll:(I6 s p d (jE p.2.2.2 d [] []).2.1).length≤224:=by unfold I6;have:=hlb (ql s MP (wo (sD (gE p.1 p.2.2.2.length) (j1 p.2.1 p.2.2.1 d.length (cT (jE p.2.2.2 d [] []).2.1) (cT d)) Sn))).1;omega
   have hl2:=hlb (List.replicate 64 0)
   simp only[e,c1,c2,a7,ai,aj]
   rw[q7,q8,q10,q0]
   refine ⟨⟨by decide,?_⟩,⟨by decide,by simp;omega⟩,⟨h5,h6,h7,h8⟩,?_,⟨h1,trivial⟩,⟨h5,h6,h7,h8⟩,⟨?_,by decide⟩,rfl⟩
   ·simp only[List.length_nil] at l1;omega
   ·omega
   ·simp only[List.length_append,List.length_nil] at l1 l2 ⊢;omega
  ·have e:eO s p d=((jE p.2.2.2 d [] []).1,[]):=by unfold eO;rw[if_neg (by rw[hm];simp),if_pos c]
   have c1:decide ¬(jE p.2.2.2 d [] []).1=0=true:=by simpa using c
   simp only[e,c1,aS,aj]
theorem apO:atX.Ok Tryz.prog 9:=
 bM (tys:= [none,some (.int .i64),some u8]) (A:=ahh) (H:=ag) (LT:=fun x_ y_=>(fun (s:List Int) (p:gh) (d:List Int)=> [(0,aX Fg ((ag).wr (())) Vl (Vm))]) x_.1 x_.2.1 x_.2.2.1) (ks:= [.ct 8 u8,.ct 9 u8,.aag,.fr [.rd true u8],.fr [.sym],.syms,.auto,.ax]) (V:=apL) (D:=apM) (T:=fun x_ y_=>alC x_.1 x_.2.1 x_.2.2.1) (pre:=fun x_ y_=>(fun (s:List Int) (p:gh) (d:List Int)=>Dm s p d) x_.1 x_.2.1 x_.2.2.1) (sp:=fun x_ y_=>(fun (s:List Int) (p:gh) (d:List Int)=>((eO s p d).2,(eO s p d).1)) x_.1 x_.2.1 x_.2.2.1) mixed ((ao Vk (ao yc (ao ahg (ao MQ (ao ac6 (ao EO (ao ac9 (ao pJ aD))))))))) Tryz.func9 (by kernel_rfl) Tryz.call9 (fun x_ y_=>alD x_.1 x_.2.1 x_.2.2.1) (fun x_ y_=>ahm x_.1 x_.2.1 x_.2.2.1) (fun x_ y_ h=>apN x_.1 x_.2.1 x_.2.2.1 h)
end Go.Proofs.YtjalaohajcpllaaGreat
end
section
set_option linter.unusedVariables false
set_option linter.unusedSimpArgs false
namespace Go.Proofs.YtjalaohajcpllaaGreat
open Go Go.Ev
set_option maxRecDepth 1000000
def Zk:List Int→List Int→List (List Int)
 | [],_=> []
 |n::l,rest=>(ar (rest.take n.toNat)).2::Zk l (rest.drop n.toNat)
theorem Vq: ∀ (l rest L F:List Int),(jE l rest L F).1=0→jE l rest L F=(0,L++((Zk l rest).map cT).flatten,F++(Zk l rest).flatten)∧
  ∀ a n b,l=a++n::b→(ar ((rest.drop (eN a).toNat).take n.toNat)).1=0∨ ¬ (∀ x∈a,0≤x)
 | [],rest,L,F,_=>by
  refine ⟨by simp[jE,Zk],fun a n b h=>?_⟩
  simp at h
 |n::l,rest,L,F,h=>by
  rw[jE] at h ⊢
  split at h
  ·rename_i c;exact absurd h c
  ·rename_i c
   rw[if_neg c]
   obtain ⟨h1,h2⟩:=Vq l _ _ _ h
   refine ⟨by rw[h1,Zk];simp,fun a m b e=>?_⟩
   cases a with
   |nil=>
    simp at e
    obtain ⟨rfl,rfl⟩:=e
    left
    simp only[eN]
    simpa using c
   |cons x a=>
    simp at e
    obtain ⟨rfl,rfl⟩:=e
    have:=h2 a m b rfl
    by_cases hx: ∀ y∈n::a,0≤y
    ·left
     have h0:0≤n:=hx n (by simp)
     have h3:0≤eN a:=by
      have: ∀ a:List Int,(∀ y∈a,0≤y)→0≤eN a:=fun a=>by
       induction a with
       |nil=>intro _;simp[eN]
       |cons y a ih=>intro h;have:=ih fun z hz=>h z (List.mem_cons_of_mem _ hz);have:=h y (by simp);rw[eN];omega
      exact this a fun y hy=>hx y (List.mem_cons_of_mem _ hy)
     rcases this with h|h
     ·rw[eN,show (n+eN a).toNat=n.toNat+(eN a).toNat from by omega,← List.drop_drop];exact h
     ·exact absurd (fun y hy=>hx y (List.mem_cons_of_mem _ hy)) h
    ·exact .inr hx
theorem MT {b:List Int} (hb:aC b) (h0:b.length≠0) (h:b.length≤500):(ar b).1=0:=by
 unfold ar
 rw[if_neg h0,if_neg (by rw[Lr hb h];simp)]
theorem Fl: ∀ (l rest L F:List Int),aC rest→rest.length≤500→te l rest.length=true→(jE l rest L F).1=0
 | [],rest,L,F,_,_,_=>rfl
 |n::l,rest,L,F,h1,h2,h3=>by
  rw[te,Bool.and_eq_true] at h3
  have hn:=of_decide_eq_true h3.1
  have hl:(rest.take n.toNat).length=n.toNat:=by rw[List.length_take];omega
  have hf:(ar (rest.take n.toNat)).1=0:=MT (fun z hz=>h1 z (List.mem_of_mem_take hz)) (by omega) (by omega)
  rw[jE,if_neg (by rw[hf];simp)]
  refine Fl l _ _ _ (fun z hz=>h1 z (List.mem_of_mem_drop hz)) (by rw[List.length_drop];omega) ?_
  rw[List.length_drop,show ((rest.length-n.toNat:Nat):Int)=rest.length-n from by omega];exact h3.2
theorem MU: ∀ (l:List Int) (n:Int),te l n=true→(l.length:Int)≤eN l∧eN l≤8192*l.length∧(∀ x∈l,1≤x∧x≤8192)
 | [],n,_=>by simp[eN]
 |s::l,n,h=>by
  rw[te,Bool.and_eq_true] at h
  have hs:=of_decide_eq_true h.1
  obtain ⟨h1,h2,h3⟩:=MU l _ h.2
  refine ⟨by rw[eN,List.length_cons];omega,by rw[eN,List.length_cons];omega,fun x hx=>?_⟩
  rcases List.mem_cons.1 hx with rfl|hx
  ·omega
  ·exact h3 x hx
theorem aho (s m:List Int):(ql s MP m).1.length=64∧aC (ql s MP m).1:=by
 rw[Dj,if_pos (by decide)]
 exact ⟨(MO s MP m).2.1,(MO s MP m).2.2⟩
theorem alF {s:List Int} {p:gh} {d L:List Int} (h:yA p d.length=true):gE p.1 p.2.2.2.length= [66,74,75,49,p.1,p.2.2.2.length,0,0]∧nL p.2.1 p.2.2.1 d.length=true∧(j1 p.2.1 p.2.2.1 d.length (cT L) (cT d)).length=152∧(I6 s p d L).length=224:=by
 obtain ⟨m1,m2,m3,m4,m5,m6,m7⟩:=I7 h
 obtain ⟨k1,k2,k3⟩:=MU _ _ m6
 have e1:gE p.1 p.2.2.2.length= [66,74,75,49,p.1,p.2.2.2.length,0,0]:=by unfold gE;rw[if_pos ⟨m1,m2,by omega,by omega⟩]
 have e2:nL p.2.1 p.2.2.1 d.length=true:=by unfold nL;exact decide_eq_true ⟨m5,by omega,by omega⟩
 have e3:(j1 p.2.1 p.2.2.1 d.length (cT L) (cT d)).length=152:=by
  unfold j1;rw[if_pos e2];simp only[List.length_append,List.length_take,eK,gd];rfl
 refine ⟨e1,e2,e3,?_⟩
 unfold I6 sD
 rw[if_neg (by rw[e3,e1];simp)]
 simp only[List.length_append,List.length_take,e3,(aho _ _).1,e1]
 rfl
theorem alG {s:List Int} {p:gh} {d:List Int} (h:(eO s p d).1=0):yA p d.length=true∧(jE p.2.2.2 d [] []).1=0∧
  (eO s p d).2=I6 s p d (((Zk p.2.2.2 d).map cT).flatten)++(((Zk p.2.2.2 d).map cT).flatten++(Zk p.2.2.2 d).flatten):=by
 unfold eO at*
 split at h
 ·cases h
 ·rename_i c
  rw[if_neg c]
  split at h
  ·rename_i c2;exact absurd h c2
  ·rename_i c2
   rw[if_neg c2]
   have c2:(jE p.2.2.2 d [] []).1=0:=by simpa using c2
   refine ⟨by simpa using c,c2,?_⟩
   rw[(Vq _ _ _ _ c2).1];simp
theorem So {s:List Int} {p:gh} {d:List Int} (h:yA p d.length=true) (hd:aC d) (hl:d.length≤500):(eO s p d).1=0:=by
 have:=Fl p.2.2.2 d [] [] hd hl (I7 h).2.2.2.2.2.1
 unfold eO
 rw[if_neg (by rw[h];simp),if_neg (by rw[this];simp)]
theorem Vr: ∀ (l rest:List Int),(Zk l rest).length=l.length
 | [],_=>rfl
 |n::l,rest=>by rw[Zk,List.length_cons,List.length_cons,Vr l]
theorem MV: ∀ (l:List (List Int)),((l.map cT).flatten).length=64*l.length
 | []=>rfl
 |x::l=>by rw[List.map_cons,List.flatten_cons,List.length_append,MV l,gd,List.length_cons];omega
theorem ahp {s:List Int} {p:gh} {d:List Int} (h:(eO s p d).1=0):(eO s p d).2.length=224+64*p.2.2.2.length+(Zk p.2.2.2 d).flatten.length:=by
 obtain ⟨h1,h2,h3⟩:=alG h
 rw[h3,List.length_append,List.length_append,(alF h1).2.2.2,MV,Vr];omega
def Vs:List Int:= [1,0,0,0,0,0,0,0,0,0,0,0,0,0,0,0,0,0,0,0,0,0,0,0,0,0,0,0,0,0,0,0]
theorem by7:aC [7]:=fun z hz=>by simp at hz;subst hz;exact ⟨by decide,by decide⟩
theorem atY:(eO Vs (0,0,0,[1]) [7]).1=0∧(eO Vs (0,0,0,[1]) [7]).2.length=297:=by
 have h0:(eO Vs (0,0,0,[1]) [7]).1=0:=So (by decide) by7 (by decide)
 refine ⟨h0,?_⟩
 rw[ahp h0]
 have:(Zk [1] [7]).flatten.length=9:=by decide+kernel
 rw[this];rfl
abbrev Sp:Type:=Int
noncomputable abbrev Sq (x:Sp):LV:=LV.one (VV.sc (SV.int IntKind.i64 (SI.sym x)))
noncomputable abbrev Sr (x:Sp):List (Nat×Ev.Item):= []
noncomputable def Ss (e:Int):Tr (Sp):=(.ret (e))
theorem Su (e:Int):aY Tryz.prog [] [] Tryz.f18 ((J2).wr (e,())) ((ag).wr (())) [.fr [.sym],.syms,.auto,.ax]=(Ss e).end Sq Sr ((ag).wr (())):=by kernel_rfl
theorem Y7 (e:Int):aP Tryz.prog ((ag).wr (())) [] (aH Tryz.f18):=(aP.nil _)
abbrev bt (e:Int):Prop:=True
noncomputable def I8:au:=au.bV [] (J2) (ag) fun x_ y_=> .leaf (some ((fun (e:Int)=>bt e) x_.1)) (Sq ((fun (e:Int)=>e) x_.1)) (Sr ((fun (e:Int)=>e) x_.1))
theorem ahq (e:Int) (h_:bt e):(Ss e).Is (e):=by
 exact rfl
theorem Dn:I8.Ok Tryz.prog 18:=
 bM (tys:= []) (A:=J2) (H:=ag) (LT:=fun x_ y_=>(fun (e:Int)=> []) x_.1) (ks:= [.fr [.sym],.syms,.auto,.ax]) (V:=Sq) (D:=Sr) (T:=fun x_ y_=>Ss x_.1) (pre:=fun x_ y_=>(fun (e:Int)=>bt e) x_.1) (sp:=fun x_ y_=>(fun (e:Int)=>e) x_.1) mixed aD Tryz.func18 (by kernel_rfl) Tryz.call18 (fun x_ y_=>Y7 x_.1) (fun x_ y_=>Su x_.1) (fun x_ y_ h=>ahq x_.1 h)
noncomputable def yC:List Int:= [1,0,0,0,0,0,0,0,0,0,0,0,0,0,0,0,0,0,0,0,0,0,0,0,0,0,0,0,0,0,0,0]
noncomputable def rJ:Int:=(↑(eO yC (0,0,0,[1]) [7]).snd.length:Int)
abbrev Dp:Type:=Bool
noncomputable abbrev Dq (x:Dp):LV:=LV.one (VV.sc (SV.bool (SB.sym x)))
noncomputable abbrev Dr (x:Dp):List (Nat×Ev.Item):= []
noncomputable def w6:Tr (Dp):=(.need (Dm yC (0,0,0,[1]) [7]) (.ite (decide ¬(dF [7]).fst=0) (.need (gG [7])
 (.need (bt 0) (.ite (((0:Int)==0)==true) (.need (bt 0) (.ite (((0:Int)==0)==true) (.ret (rJ==292)) (.ret (false))))
 (.ret (false))))) (.need (gG [7]) (.need (bt 0) (.ite (((0:Int)==0)==true) (.need (bt 0) (.ite (((0:Int)==0)==true) (.ret
 (rJ==297)) (.ret (false)))) (.ret (false)))))))
theorem I9:aY Tryz.prog [(9,atX),(33,QC),(18,I8)] [] Tryz.f15 ((ag).wr (())) ((ag).wr (())) [.fr [.sym],.syms,.auto,.ax]=(w6).end Dq Dr ((ag).wr (())):=by kernel_rfl
theorem MW:aP Tryz.prog ((ag).wr (())) [] (aH Tryz.f15):=(aP.nil _)
abbrev kS:Prop:=True
noncomputable def Ds:au:=au.bV [] (ag) (ag) fun x_ y_=> .leaf (some (kS)) (Dq (true)) (Dr (true))
theorem Sv (h_:kS):(w6).Is (true):=by
 obtain ⟨m1,m2⟩:=atY
 have e2:rJ=297:=by
  have e:rJ=((eO Vs (0,0,0,[1]) [7]).2.length:Int):=rfl
  rw[e,m2];rfl
 have p1:Dm yC (0,0,0,[1]) [7]:=⟨rfl,by7,by decide,by decide,by decide,by decide,by decide,by decide⟩
 have p2:gG [7]:=⟨by7,by decide⟩
 have d1:decide ¬(dF [7]).1=0=false:=by rw[Lr by7 (by decide)];rfl
 have d2:(((0:Int)==0)==true)=true:=rfl
 simp only[w6,d1,d2,a7,aS,ai,aj,e2]
 exact ⟨p1,p2,trivial,trivial,by decide⟩
theorem Dt:Ds.Ok Tryz.prog 15:=
 bM (tys:= []) (A:=ag) (H:=ag) (LT:=fun x_ y_=> []) (ks:= [.fr [.sym],.syms,.auto,.ax]) (V:=Dq) (D:=Dr) (T:=fun x_ y_=>w6) (pre:=fun x_ y_=>kS) (sp:=fun x_ y_=>true) mixed ((ao apO (ao Lq (ao Dn aD)))) Tryz.func15 (by kernel_rfl) Tryz.call15 (fun x_ y_=>MW) (fun x_ y_=>I9) (fun x_ y_ h=>Sv h)
end Go.Proofs.YtjalaohajcpllaaGreat
end
section
set_option linter.unusedVariables false
set_option linter.unusedSimpArgs false
namespace Go.Proofs.YtjalaohajcpllaaGreat
open Go Go.Ev
set_option maxRecDepth 1000000
theorem y9 {b:List Int} (hb:aC b) (h:(ar b).1=0):(dF b).1=0∧b.length≠0∧
  (ar b).2= [((dF b).2.length:Int)%256,((dF b).2.length:Int)/256,(b.length:Int)%256,(b.length:Int)/256]++(dF b).2:=by
 unfold ar at*
 split at h
 ·cases h
 ·rename_i c
  rw[if_neg c]
  split at h
  ·rename_i c2;exact absurd h c2
  ·rename_i c2
   rw[if_neg c2]
   exact ⟨by simpa using c2,c,rfl⟩
theorem ahr {b:List Int} (hb:aC b) (h:(ar b).1=0):aC (ar b).2:=by
 obtain ⟨h1,h2,h3⟩:=y9 hb h
 obtain ⟨u1,u2,u3,u4,u5,u6⟩:=EI hb h1
 rw[h3]
 refine aC.append (aC.cons ⟨by omega,by omega⟩ (aC.cons ⟨by omega,by omega⟩ (aC.cons ⟨by omega,by omega⟩ (aC.cons ⟨by omega,by omega⟩ aC.nil)))) u6
theorem MX {x y p:Int} {i:Nat} {l:List Int} (h1:l.getD i 0=p%256) (h2:l.getD (i+1) 0=p/256) (h3:0≤p) (h4:p<65536):two l i=p:=by
 rw[H9 (by rw[h1];exact ⟨by omega,by omega⟩) (by rw[h2];exact ⟨by omega,by omega⟩),h1,h2];omega
theorem Sw {p n:Int} {q more:List Int} (hp:(q.length:Int)=p) (h1:1≤p) (h2:p≤4096) (h3:1≤n) (h4:n≤8192):
  aw ([p%256,p/256,n%256,n/256]++q++more)=(if (cL q n).1≠0 then ((cL q n).1,[],0) else (0,(cL q n).2,4+p))∧iA ([p%256,p/256,n%256,n/256]++q++more)=true∧two ([p%256,p/256,n%256,n/256]++q++more) 0=p:=by
 have t0:two ([p%256,p/256,n%256,n/256]++q++more) 0=p:=MX (x:=0) (y:=0) rfl rfl (by omega) (by omega)
 have t2:two ([p%256,p/256,n%256,n/256]++q++more) 2=n:=MX (x:=0) (y:=0) rfl rfl (by omega) (by omega)
 have hs:iA ([p%256,p/256,n%256,n/256]++q++more)=true:=by
  unfold iA;rw[t0,t2];exact decide_eq_true ⟨h1,h2,h3,h4⟩
 refine ⟨?_,hs,t0⟩
 have hq:List.take p.toNat (List.drop 4 ([p%256,p/256,n%256,n/256]++q++more))=q:=by
  have e:List.drop 4 ([p%256,p/256,n%256,n/256]++q++more)=q++more:=rfl
  rw[e,List.take_append_of_le_length (by omega),List.take_of_length_le (by omega)]
 unfold aw
 rw[t0,t2,hq,if_neg (by simp),if_neg (by rw[hs];simp),if_neg (by simp;omega)]
theorem DW {b more:List Int} (hb:aC b) (h:(ar b).1=0):aw ((ar b).2++more)=(0,b,((ar b).2.length:Int)):=by
 obtain ⟨h1,h2,h3⟩:=y9 hb h
 obtain ⟨u1,u2,u3,u4,u5,u6⟩:=EI hb h1
 rw[h3,(Sw rfl (by omega) (by omega) (by omega) (by omega)).1]
 have e:cL (dF b).2 b.length=(0,b):=by unfold cL;rw[if_neg (by rw[u1];simp),u2]
 rw[e,if_neg (by simp)]
 simp;omega
abbrev Sx:Type:=Bool
noncomputable abbrev Sz (x:Sx):LV:=LV.one (VV.sc (SV.bool (SB.sym x)))
noncomputable abbrev SA (x:Sx):List (Nat×Ev.Item):= []
noncomputable def Ja (b:List Int):Tr (Sx):=(.need (kS) (.ite ((!true)==false) (.ite (decide (700<(↑b.length:Int))) (.ret
 (true)) (.need (b.length*1≤70368744177664∧b.length≤70368744177664) (.ite (decide ¬(aw b).fst=0) (.need (eu b) (.ite (decide
 ¬(aw b).fst=0) (.need (j5 b) (.ite (cA [] []==true) (.ite (((0:Int)==0)==true) (.need (bt (aw b).fst) (.ret
 ((aw b).fst==(aw b).fst))) (.ret (false))) (.ret (false)))) (.need (j5 b) (.ite (cA [] (aw b).snd.fst==true) (.ite ((0==
 (aw b).snd.snd)==true) (.need (bt (aw b).fst) (.ret ((aw b).fst==0))) (.ret (false))) (.ret (false)))))) (.need (eu b)
 (.ite (decide ¬(aw b).fst=0) (.need (j5 b) (.ite (cA (aw b).snd.fst []==true) (.ite (((aw b).snd.snd==0)==true)
 (.need (bt 0) (.ret (0==(aw b).fst))) (.ret (false))) (.ret (false)))) (.need (j5 b) (.ite (cA (aw b).snd.fst (aw
 b).snd.fst==true) (.ite (((aw b).snd.snd==(aw b).snd.snd)==true) (.need (bt 0) (.ret ((0:Int)==0))) (.ret (false))) (.ret
 (false))))))))) (.ret (true))))
theorem SC (b:List Int):aY Tryz.prog [(15,Ds),(19,aeG),(20,amn),(18,I8)] [] Tryz.f5 (((ae (ah (dB false false u8)) ag)).wr (b,())) ((ag).wr (())) [.fr [.sym],.syms,.auto,.ax]=(Ja b).end Sz SA ((ag).wr (())):=by kernel_rfl
theorem Y8 (b:List Int):aP Tryz.prog ((ag).wr (())) [] (aH Tryz.f5):=(aP.nil _)
abbrev Du (b:List Int):Prop:=aC b
noncomputable def apP:au:=au.bV [] ((ae (ah (dB false false u8)) ag)) (ag) fun x_ y_=> .leaf (some ((fun (b:List Int)=>Du b) x_.1)) (Sz ((fun (b:List Int)=>true) x_.1)) (SA ((fun (b:List Int)=>true) x_.1))
theorem ahs (b:List Int) (h_:Du b):(Ja b).Is (true):=by
 have es: ∀ l,cA l l=true:=fun l=>by simp[cA]
 simp only[Ja,ai,aN,bI,aj,es]
 refine ⟨trivial,fun _=>⟨fun _=>trivial,fun h=>?_⟩,fun h=>by simp at h⟩
 have h: ¬ 700<(b.length:Int):=by simpa using h
 have p1:eu b:=⟨h_,by omega⟩
 have p2:j5 b:=⟨h_,by omega⟩
 refine ⟨⟨by omega,by omega⟩,fun h1=>⟨p1,fun h2=>⟨p2,fun _=>⟨fun _=>⟨trivial,by simp⟩,fun h=>by simp at h⟩,fun h=>by simp at h⟩,fun h2=>by rw[h1] at h2;cases h2⟩,fun h1=>⟨p1,⟨fun h2=>(by rw[h1] at h2;cases h2),fun h2=>⟨p2,fun _=>⟨fun _=>⟨trivial,by simp⟩,fun h=>by simp at h⟩,fun h=>by simp at h⟩⟩⟩⟩
theorem aht:apP.Ok Tryz.prog 5:=
 bM (tys:= []) (A:=(ae (ah (dB false false u8)) ag)) (H:=ag) (LT:=fun x_ y_=>(fun (b:List Int)=> []) x_.1) (ks:= [.fr [.sym],.syms,.auto,.ax]) (V:=Sz) (D:=SA) (T:=fun x_ y_=>Ja x_.1) (pre:=fun x_ y_=>(fun (b:List Int)=>Du b) x_.1) (sp:=fun x_ y_=>(fun (b:List Int)=>true) x_.1) mixed ((ao Dt (ao UC (ao ajw (ao Dn aD))))) Tryz.func5 (by kernel_rfl) Tryz.call5 (fun x_ y_=>Y8 x_.1) (fun x_ y_=>SC x_.1) (fun x_ y_ h=>ahs x_.1 h)
noncomputable def w7 (b:List Int) (more:List Int):Int:=(↑(ar b).snd.length:Int)
abbrev SD:Type:=Bool
noncomputable abbrev SE (x:SD):LV:=LV.one (VV.sc (SV.bool (SB.sym x)))
noncomputable abbrev SF (x:SD):List (Nat×Ev.Item):= []
noncomputable def Jb (b:List Int) (more:List Int):Tr (SD):=(.need (kS) (.ite ((!true)==false) (.ite (decide (700<(↑b.length
 :Int))==false) (.ite (decide (100<(↑more.length:Int))) (.ret (true)) (.need (b.length*1≤70368744177664∧b.length≤70368744177664) (.ite
 (decide ¬(ar b).fst=0) (.need (fH b) (.ite (decide ¬(ar b).fst=0) (.need (gr b) (.ite ((!cA [] [])==false) (.need
 (bt (ar b).fst) (.ite (((ar b).fst !=(ar b).fst)==false) (.ite ((ar b).fst !=0) (.ite (cA [] []==true) (.need (bt
 (ar b).fst) (.ret ((ar b).fst==(ar b).fst))) (.ret (false))) (.need (0≤70368744177664∧0≤70368744177664) (.need ((0+more.length)*
 1≤70368744177664∧0+more.length≤70368744177664) (.ite (decide ¬(aw ([]++more)).fst=0) (.need (eu ([]++more)) (.need (bt
 (aw ([]++more)).fst) (.ite (((aw ([]++more)).fst==0)==true) (.ite (((0:Int)==0)==true) (.ret (cA [] b)) (.ret (false)))
 (.ret (false))))) (.need (eu ([]++more)) (.need (bt 0) (.ite (((0:Int)==0)==true) (.ite (((aw ([]++more)).snd.snd==0)==
 true) (.ret (cA (aw ([]++more)).snd.fst b)) (.ret (false))) (.ret (false))))))))) (.ite (cA [] []==true) (.need (bt (ar
 b).fst) (.ret ((ar b).fst==(ar b).fst))) (.ret (false))))) (.ite (cA [] []==true) (.need (bt (ar b).fst) (.ret ((ar b).fst
 ==(ar b).fst))) (.ret (false))))) (.need (gr b) (.ite ((!cA [] (ar b).snd)==false) (.need (bt (ar b).fst) (.ite
 (((ar b).fst !=0)==false) (.ite ((0:Int)!=0) (.ite (cA [] (ar b).snd==true) (.need (bt (ar b).fst) (.ret ((ar b).fst
 ==0))) (.ret (false))) (.need (0≤70368744177664∧0≤70368744177664) (.need ((0+more.length)*1≤70368744177664∧0+more.length≤
 70368744177664) (.ite (decide ¬(aw ([]++more)).fst=0) (.need (eu ([]++more)) (.need (bt (aw ([]++more)).fst) (.ite
 (((aw ([]++more)).fst==0)==true) (.ite (((0:Int)==0)==true) (.ret (cA [] b)) (.ret (false))) (.ret (false))))) (.need (eu ([]
 ++more)) (.need (bt 0) (.ite (((0:Int)==0)==true) (.ite (((aw ([]++more)).snd.snd==0)==true) (.ret (cA (aw ([]++
 more)).snd.fst b)) (.ret (false))) (.ret (false))))))))) (.ite (cA [] (ar b).snd==true) (.need (bt (ar b).fst) (.ret ((ar b).fst
 ==0))) (.ret (false))))) (.ite (cA [] (ar b).snd==true) (.need (bt (ar b).fst) (.ret ((ar b).fst==0))) (.ret (false)))))))
 (.need (fH b) (.ite (decide ¬(ar b).fst=0) (.need (gr b) (.ite ((!cA (ar b).snd [])==false) (.need (bt 0) (.ite ((0
 !=(ar b).fst)==false) (.ite ((ar b).fst !=0) (.ite (cA (ar b).snd []==true) (.need (bt 0) (.ret (0==(ar b).fst)))
 (.ret (false))) (.need ((ar b).snd.length*1≤70368744177664∧(ar b).snd.length≤70368744177664) (.need (((ar b).snd.length+
 more.length)*1≤70368744177664∧(ar b).snd.length+more.length≤70368744177664) (.ite (decide ¬(aw ((ar b).snd++more)).fst=0)
 (.need (eu ((ar b).snd++more)) (.need (bt (aw ((ar b).snd++more)).fst) (.ite (((aw ((ar b).snd++more)).fst==
 0)==true) (.ite ((0==w7 b more)==true) (.ret (cA [] b)) (.ret (false))) (.ret (false))))) (.need (eu ((ar b).snd++more))
 (.need (bt 0) (.ite (((0:Int)==0)==true) (.ite (((aw ((ar b).snd++more)).snd.snd==w7 b more)==true) (.ret (cA
 (aw ((ar b).snd++more)).snd.fst b)) (.ret (false))) (.ret (false))))))))) (.ite (cA (ar b).snd []==true) (.need (bt 0) (.ret
 (0==(ar b).fst))) (.ret (false))))) (.ite (cA (ar b).snd []==true) (.need (bt 0) (.ret (0==(ar b).fst))) (.ret (false)))))
 (.need (gr b) (.ite ((!cA (ar b).snd (ar b).snd)==false) (.need (bt 0) (.ite (((0:Int)!=0)==false) (.ite ((0:Int)!=
 0) (.ite (cA (ar b).snd (ar b).snd==true) (.need (bt 0) (.ret ((0:Int)==0))) (.ret (false))) (.need ((ar b).snd.length*1≤
 70368744177664∧(ar b).snd.length≤70368744177664) (.need (((ar b).snd.length+more.length)*1≤70368744177664∧(ar b).snd.length+
 more.length≤70368744177664) (.ite (decide ¬(aw ((ar b).snd++more)).fst=0) (.need (eu ((ar b).snd++more)) (.need (bt
 (aw ((ar b).snd++more)).fst) (.ite (((aw ((ar b).snd++more)).fst==0)==true) (.ite ((0==w7 b more)==true) (.ret
 (cA [] b)) (.ret (false))) (.ret (false))))) (.need (eu ((ar b).snd++more)) (.need (bt 0) (.ite (((0:Int)==0)==true) (.ite
 (((aw ((ar b).snd++more)).snd.snd==w7 b more)==true) (.ret (cA (aw ((ar b).snd++more)).snd.fst b)) (.ret (false)))
 (.ret (false))))))))) (.ite (cA (ar b).snd (ar b).snd==true) (.need (bt 0) (.ret ((0:Int)==0))) (.ret (false))))) (.ite (cA
 (ar b).snd (ar b).snd==true) (.need (bt 0) (.ret ((0:Int)==0))) (.ret (false)))))))))) (.ret (true))) (.ret (true))))
theorem SG (b more:List Int):aY Tryz.prog [(15,Ds),(19,aeG),(16,Ar),(17,Uw),(18,I8)] [] Tryz.f4 (((ae (ah (dB false false u8)) (ae (ah (dB false false u8)) ag))).wr (b,more,())) ((ag).wr (())) [.fr [.sym],.syms,.auto,.ax]=(Jb b more).end SE SF ((ag).wr (())):=by kernel_rfl
theorem Y9 (b more:List Int):aP Tryz.prog ((ag).wr (())) [] (aH Tryz.f4):=(aP.nil _)
abbrev Dv (b more:List Int):Prop:=aC b∧aC more
noncomputable def apQ:au:=au.bV [] ((ae (ah (dB false false u8)) (ae (ah (dB false false u8)) ag))) (ag) fun x_ y_=> .leaf (some ((fun (b more:List Int)=>Dv b more) x_.1 x_.2.1)) (SE ((fun (b more:List Int)=>true) x_.1 x_.2.1)) (SF ((fun (b more:List Int)=>true) x_.1 x_.2.1))
theorem ahu (b more:List Int) (h_:Dv b more):(Jb b more).Is (true):=by
 obtain ⟨hb,hm⟩:=h_
 have es: ∀ l,cA l l=true:=fun l=>by simp[cA]
 have e1:((!true)==false)=true:=rfl
 have e2:((!true)==true)=false:=rfl
 have e3: ∀ x:Int,(x !=x)=false:=fun x=>by simp
 have e4: ∀ x:Int,(x==x)=true:=fun x=>by simp
 simp only[Jb,ai,e1,aS]
 refine ⟨trivial,?_⟩
 by_cases h1:700<(b.length:Int)
 ·have d1:(decide (700<(b.length:Int))==false)=false:=by simpa using h1
  simp only[d1,a7,aj]
 ·have d1:(decide (700<(b.length:Int))==false)=true:=by simpa using h1
  simp only[d1,aS]
  by_cases h2:100<(more.length:Int)
  ·have d2:decide (100<(more.length:Int))=true:=by simpa using h2
   simp only[d2,aS,aj]
  ·have d2:decide (100<(more.length:Int))=false:=by simpa using h2
   have p1:fH b:=⟨hb,by omega⟩
   have p2:gr b:=⟨hb,by omega⟩
   have fl:=yB b
   simp only[d2,a7,ai]
   refine ⟨⟨by omega,by omega⟩,?_⟩
   by_cases h3:(ar b).1=0
   ·have d3:decide ¬(ar b).1=0=false:=by simpa using h3
    have hu:=DW (more:=more) hb h3
    have p3:eu ((ar b).2++more):=⟨(ahr hb h3).append hm,by rw[List.length_append];omega⟩
    have e5:w7 b more=(ar b).2.length:=rfl
    simp only[d3,a7,ai,es,e1,e3,e4,hu,e5,aS,aj,not_true_eq_false,decide_false,beq_self_eq_true]
    refine ⟨p1,p2,trivial,⟨by omega,by omega⟩,⟨by omega,by omega⟩,p3,trivial,trivial⟩
   ·have d3:decide ¬(ar b).1=0=true:=by simpa using h3
    have d4:((ar b).1!=0)=true:=by simpa using h3
    simp only[d3,d4,aS,ai,es,e1,e3,e4,aj,beq_self_eq_true]
    refine ⟨p1,p2,trivial,trivial,trivial⟩
theorem ahv:apQ.Ok Tryz.prog 4:=
 bM (tys:= []) (A:=(ae (ah (dB false false u8)) (ae (ah (dB false false u8)) ag))) (H:=ag) (LT:=fun x_ y_=>(fun (b more:List Int)=> []) x_.1 x_.2.1) (ks:= [.fr [.sym],.syms,.auto,.ax]) (V:=SE) (D:=SF) (T:=fun x_ y_=>Jb x_.1 x_.2.1) (pre:=fun x_ y_=>(fun (b more:List Int)=>Dv b more) x_.1 x_.2.1) (sp:=fun x_ y_=>(fun (b more:List Int)=>true) x_.1 x_.2.1) mixed ((ao Dt (ao UC (ao yc (ao XH (ao Dn aD)))))) Tryz.func4 (by kernel_rfl) Tryz.call4 (fun x_ y_=>Y9 x_.1 x_.2.1) (fun x_ y_=>SG x_.1 x_.2.1) (fun x_ y_ h=>ahu x_.1 x_.2.1 h)
end Go.Proofs.YtjalaohajcpllaaGreat
end
