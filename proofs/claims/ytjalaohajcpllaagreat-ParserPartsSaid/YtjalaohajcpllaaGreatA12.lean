/- What the laws lean on, part 12: a reader of code, plain facts, and what each function gives; no conditions. -/
import Derived.Laws.Externs
import Derived.Test.YtjalaohajcpllaaGreatA11
section
set_option linter.unusedVariables false
set_option linter.unusedSimpArgs false
namespace Go.Proofs.YtjalaohajcpllaaGreat
open Go Go.Ev
set_option maxRecDepth 100000
noncomputable abbrev aki:Func:=Tryz.f44
noncomputable abbrev XT:List (FuncId×ao):= [(73,agS),(74,XP),(75,MD),(76,Ix)]
theorem Iy: ∀ p∈XT,p.2.Ok Tryz.prog p.1:=ak XN (ak PC (ak Iw (ak MF aF)))
abbrev E9:ba Hp (HH×List Int×HH×Unit):=ae (gX 126 cHH) (ae (qd 51 .u8 64) (ae (gX 126 cHH) ag))
abbrev XU:Wk:= .aZ 2 [.sym,.aq,.sym,.aq]
abbrev suC:ba (List LV) (Int×Unit):=(jk 2 (aj (ai (aP 1 0)) (aj (ai (aP 2 0)) (ae (ai (ax .u64)) (jk 24 ag)))))
abbrev agV:Wk:= .fr (dA 29 [(2,.aq),(3,.aq),(4,.sym)])
def suW:Exit→List Wk
 | .normal=> [agV,XU,.auto]
 | .exit 0=> [agV,XU,.auto]
 |_=> []
theorem agW (h0:HH) (g:HH) (r:List Int) (h:HH) (n:Int):dR Tryz.prog XT [] aki 0 (ql.wr (h0,())) suW ((bG suC E9).wr ((n,()),(g,r,h,())))=
 aU.ite (h.n.tmod (128:Int)!=(112:Int)) (aU.need (qW h∧h.n+(1:Int)<(2305843009213693952:Int)) (aU.leaf Exit.normal ((bG suC
 E9).wr ((n,PUnit.unit),g,r,cm h [(0:Int)],PUnit.unit)))) (aU.leaf (Exit.exit (0:Nat)) ((bG suC E9).wr ((n,PUnit.unit),g,r,h,
 PUnit.unit))):=by kernel_rfl
def mO (h:HH):HH:=cm h (List.replicate ((112-h.n)%128).toNat 0)
theorem Si {h:HH} (hz: ¬ h.n%128=112):mO (cm h [0])=mO h∧((112-(cm h [0]).n)%128).toNat<((112-h.n)%128).toNat:=by
 have e1:(cm h [0]).n=h.n+1:=by rw[oz];rfl
 have e2:((112-h.n)%128).toNat=((112-(cm h [0]).n)%128).toNat+1:=by rw[e1];omega
 refine ⟨?_,by omega⟩
 unfold mO
 rw[e2,List.replicate_succ]
 rfl
theorem XV {h:HH} (hz:h.n%128=112):mO h=h:=by
 have e:((112-h.n)%128).toNat=0:=by omega
 unfold mO;rw[e];rfl
noncomputable def suF (x:(Int×Unit)×HH×List Int×HH×Unit):aU:=
 .need (qW x.2.2.2.1∧x.2.2.2.1.n+128<2305843009213693952) (.leaf (.exit 0) ((bG suC E9).wr (x.1,(x.2.1,x.2.2.1,mO x.2.2.2.1,()))))
theorem acj (h0:HH) (x):Ex Tryz.prog (ql.wr (h0,())) (.loop (aW aki 0)) ((bG suC E9).wr x) (suF x):=by
 obtain ⟨⟨n,_⟩,g,r,h,_⟩:=x
 refine Ex.need fun ⟨h1,h2⟩=>?_
 simp only at h1 h2
 refine OJ mixed Iy (LT:= []) (ws:=suW) (hp:=ql.wr (h0,())) (aQ.nil _) (fun h:HH=>((112-h.n)%128).toNat) (fun h:HH=>(bG suC E9).wr ((n,()),(g,r,h,()))) (fun h=>qW h∧h.n+(112-h.n)%128<2305843009213693952)
  (fun h=> .leaf (.exit 0) ((bG suC E9).wr ((n,()),(g,r,mO h,())))) (fun h _=>agW h0 g r h n) (fun h R hh hs=>?_) h ⟨h1,by omega⟩
 obtain ⟨hh,fD⟩:=hh
 have e:h.n.tmod 128=h.n%128:=Int.tmod_eq_emod_of_nonneg hh.n
 rw[e]
 refine ⟨fun hb=>?_,fun hb=>?_⟩
 ·have j8: ¬ h.n%128=112:=by simpa using hb
  obtain ⟨k1,k2⟩:=Si j8
  have e1:(cm h [0]).n=h.n+1:=by rw[oz];rfl
  refine ⟨⟨hh,by omega⟩,.inl ⟨rfl,cm h [0],rfl,⟨mN _ hh,by rw[e1];omega⟩,k2,?_⟩⟩
  show (aU.leaf (.exit 0) ((bG suC E9).wr ((n,()),(g,r,mO (cm h [0]),())))).sat R
  rw[k1];exact hs
 ·have j8:h.n%128=112:=by simpa using hb
  rw[XV j8] at hs
  exact .inr ⟨by simp,hs⟩
noncomputable abbrev akj:fk:= [(0,fI (bG suC E9) 1 [agV,XU,.auto] suF)]
def akk (h:HH) (n:Int):HH:=cm (cm (mO (cm h [128])) (dy (shr .u64 n 61))) (dy (shl .u64 n 3))
def agX (h:HH):List Int:=jR (akk h (IntKind.u64.wrap h.n)).s
theorem Fa (x:Int):(dy x).length=8:=rfl
theorem z8 (s:List Int):(jR s).length=64:=rfl
noncomputable def akl:ao:=ao.bS [] ((aj p0 ag)) (ql) fun x_ y_=>(fun (h:HH)=> .leaf (some (qW h∧h.n<1152921504606846976)) (iq .u8 64 (agX h)) []) y_.1
theorem XW (h:HH):aS Tryz.prog XT akj Tryz.f44 (((aj p0 ag)).wr ()) ((ql).wr (h,())) [.fr [.sym],zZ,.auto]=
 End.need (h.begun=true) (End.need (qW h∧h.n+(1:Int)<(2305843009213693952:Int)) (End.need (qW (cm h [(128:Int)])∧(cm h [(128:
 Int)]).n+(128:Int)<(2305843009213693952:Int)) (End.need (qW (mO (cm h [(128:Int)]))∧(mO (cm h [(128:Int)])).n+(8:Int)<
 (2305843009213693952:Int)) (End.need (qW (cm (mO (cm h [(128:Int)])) (dy (shr IntKind.u64 (IntKind.u64.wrap h.n) (61:Int))))∧(cm
 (mO (cm h [(128:Int)])) (dy (shr IntKind.u64 (IntKind.u64.wrap h.n) (61:Int)))).n+(8:Int)<(2305843009213693952:Int)) (End.need ((64
 :Nat)≤(64:Nat)) (End.need ((64:Nat)≤(64:Nat)) (End.leaf (LV.one (VV.agg [SV.arr (Ty.int IntKind.u8) (64:Nat) (List.take (64:Nat)
 (List.drop (0:Nat) (jR (cm (cm (mO (cm h [(128:Int)])) (dy (shr IntKind.u64 (IntKind.u64.wrap h.n) (61:Int)))) (dy (shl
 IntKind.u64 (IntKind.u64.wrap h.n) (3:Int)))).s)))])) [some (Item.aZ [SV.bool (SB.sym h.begun),SV.arr (Ty.int IntKind.u64) (8:Nat) h.s,SV.int
 IntKind.i64 (SI.sym h.n),SV.arr (Ty.int IntKind.u8) (128:Nat) h.wait] (126:Nat))]))))))):=by kernel_rfl
theorem agY:akl.Ok Tryz.prog 44:=by
 refine (ao.bf Tryz.call44 fun x_ y_ Q H_=>?_).sym
 obtain ⟨h,_⟩:=y_
 obtain ⟨hn,hq⟩:=H_
 have hn:qW h∧h.n<1152921504606846976:=hn
 refine (ay mixed Iy Tryz.func44 rfl (LT:=akj) (ks:= [.fr [.sym],zZ,.auto]) (aQ.cO (nx rfl (cP (hp:=ql.wr (h,())) (acj h)) pc))).use (D:= []) ?_ hq
 show (aS _ _ _ _ (((aj p0 ag)).wr ()) ((ql).wr (h,())) _).sat _
 rw[XW]
 obtain ⟨g1,g2⟩:=hn
 have g3:=g1.n
 have e1:(cm h [128]).n=h.n+1:=by rw[oz];rfl
 have k1:qW (cm h [128]):=mN _ g1
 have k2:qW (mO (cm h [128])):=mN _ k1
 have e2:(mO (cm h [128])).n≤h.n+128:=by unfold mO;rw[oz,e1,List.length_replicate];omega
 have k3:qW (cm (mO (cm h [128])) (dy (shr .u64 (IntKind.u64.wrap h.n) 61))):=mN _ k2
 have e3:(cm (mO (cm h [128])) (dy (shr .u64 (IntKind.u64.wrap h.n) 61))).n≤h.n+136:=by rw[oz,Fa];omega
 have e4: ∀ s,List.take 64 (List.drop 0 (jR s))=jR s:=fun s=>bN (z8 s)
 rw[e4]
 exact ⟨g1.begun,⟨g1,by omega⟩,⟨k1,by omega⟩,⟨k2,by omega⟩,⟨k3,by omega⟩,by omega,by omega,rfl,rfl⟩
noncomputable abbrev ofFn:Func:=Tryz.f22
noncomputable abbrev cO:List (FuncId×ao):= [(42,ae3),(43,XQ),(44,akl)]
abbrev rrA:ba (List LV) (List (List Int)×Unit):=ae (ai (eS false false (.sl u8))) ag
abbrev ofC:ba (List LV) (List (List Int)×Int×Int×Unit):=(jk 2 (aj (ai (aP 0 0)) (aj (ai (aP 1 0)) (jk 3 (ae (ai (eS false false (.sl u8))) (ae (ai (ax .i64)) (ae (ai (ax .i64)) (jk 9 ag))))))))
abbrev akn:Wk:= .fr (dA 19 [(2,.aq),(3,.aq),(7,.aq),(8,.sym),(9,.sym)])
abbrev ofX:ba (List LV) (Unit):=(jk 2 (aj (ai (aP 0 0)) (aj (ai (aP 1 0)) (jk 15 ag))))
abbrev aop:Wk:= .fr (dA 19 [(2,.aq),(3,.aq)])
abbrev Iz:ba Hp (List Int×HH×Unit):=ae (qd 51 .u8 64) (ae (gX 126 cHH) ag)
abbrev XX:Wk:= .aZ 1 [.sym,.aq,.sym,.aq]
def ofW:Exit→List Wk
 | .normal=> [akn,XX,.auto]
 | .exit 0=> [aop,XX,.auto]
 |_=> []
theorem agZ (l:List (List Int)) (n i:Int) (r:List Int) (h:HH):dR Tryz.prog cO [] ofFn 0 [] ofW ((bG ofC Iz).wr ((l,n,i,()),(r,h,())))=
 aU.ite (decide (i<n)) (aU.need ((0:Int)≤i∧i<(↑l.length:Int)) (aU.need (qW h∧h.n+(↑(List.length (l.getD i.toNat [])):Int)<
 (2305843009213693952:Int)) (aU.leaf Exit.normal ((bG ofC Iz).wr ((l,n,IntKind.i64.wrap (i+(1:Int)),PUnit.unit),r,cm h (l.getD i.toNat
 []),PUnit.unit))))) (aU.leaf (Exit.exit (0:Nat)) ((bG ofX Iz).wr (PUnit.unit,r,h,PUnit.unit))):=by kernel_rfl
theorem IA: ∀ p∈cO,p.2.Ok Tryz.prog p.1:=ak acg (ak XS (ak agY aF))
theorem Cl {σ:Type} (g:σ→List Int→σ) (b:List (List Int)): ∀ (m k:Nat) (s:σ),k+m=b.length→upto (fun k s=>g s (b.getD k [])) k m s=(b.drop k).foldl g s
 |0,k,s,h=>by rw[List.drop_eq_nil_of_le (by omega)];rfl
 |m+1,k,s,h=>by
  have e:b.drop k=b.getD k []::b.drop (k+1):=by
   rw[List.drop_eq_getElem_cons (by omega:k<b.length),List.getD_eq_getElem?_getD,List.getElem?_eq_getElem (by omega:k<b.length)];rfl
  rw[e]
  exact Cl g b m (k+1) _ (by omega)
theorem Cm: ∀ (l:List (List Int)) (h:HH),l.foldl cm h=cm h l.flatten
 | [],h=>rfl
 |b::l,h=>by rw[List.foldl_cons,Cm l,List.flatten_cons,Iu]
noncomputable def ako (x:(List (List Int)×Int×Int×Unit)×List Int×HH×Unit):aU:=
 .need (qW x.2.2.1∧x.1.2.1=x.1.1.length∧x.1.2.2.1=0∧x.1.1.length<2305843009213693952∧x.2.2.1.n+x.1.1.flatten.length<2305843009213693952) (.leaf (.exit 0) ((bG ofX Iz).wr ((),(x.2.1,cm x.2.2.1 x.1.1.flatten,()))))
theorem ack (x):Ex Tryz.prog [] (.loop (aW ofFn 0)) ((bG ofC Iz).wr x) (ako x):=by
 obtain ⟨⟨l,n,i,_⟩,r,h,_⟩:=x
 refine Ex.need fun ⟨h1,h2,h3,h4,h5⟩=>?_
 simp only at h1 h2 h3 h4 h5
 subst h2 h3
 have key:=gL (fn:=ofFn) (id:=0) (j:=0) (ws:=ofW) (hp:= []) mixed IA (aQ.nil _) l.length (fun k h=>(bG ofC Iz).wr ((l,(l.length:Int),(k:Int),()),(r,h,()))) (fun h=>(bG ofX Iz).wr ((),(r,h,()))) (fun k h=>cm h (l.getD k [])) (fun k h=>qW h∧h.n+(l.drop k).flatten.length<2305843009213693952)
  (fun k h R hk hm hn hx=>?_) (fun k h hk hh=>⟨mN _ hh.1,?_⟩) 0 h (by omega) ⟨h1,h5⟩
 ·rw[Nat.sub_zero,Cl cm l _ _ _ (by omega),Cm] at key;exact key
 ·obtain ⟨hh,fD⟩:=hm
  rw[agZ]
  refine ⟨fun hb=>?_,fun hb=>?_⟩
  ·have na:k<l.length:=by have:=of_decide_eq_true hb;omega
   have e:l.drop k=l.getD k []::l.drop (k+1):=by
    rw[List.drop_eq_getElem_cons na,List.getD_eq_getElem?_getD,List.getElem?_eq_getElem na];rfl
   rw[e,List.flatten_cons,List.length_append] at fD
   rw[dS k (by omega)]
   simp only[Int.toNat_natCast]
   exact ⟨by omega,⟨hh,by omega⟩,hn na⟩
  ·have:k=l.length:=by have:=of_decide_eq_false hb;omega
   exact hx this
 ·have e:l.drop k=l.getD k []::l.drop (k+1):=by
   rw[List.drop_eq_getElem_cons hk,List.getD_eq_getElem?_getD,List.getElem?_eq_getElem hk];rfl
  have h2:=hh.2
  rw[e,List.flatten_cons,List.length_append] at h2
  rw[oz]
  omega
noncomputable abbrev ofLT:fk:= [(0,fI (bG ofC Iz) 0 [akn,XX,.auto] ako)]
theorem Fb:qW It:=⟨rfl,by decide,rfl,rfl⟩
def bE (b:List Int):List Int:=agX (cm It b)
theorem eI (b:List Int):(bE b).length=64:=rfl
noncomputable def ofE:ao:=ao.bS [some (.sl u8)] (rrA) (ag) fun x_ y_=>(fun (l:List (List Int))=> .leaf (some (l.length<2305843009213693952∧l.flatten.length<1152921504606846976)) (iq .u8 64 (bE l.flatten)) []) x_.1
theorem acm (l:List (List Int)):aS Tryz.prog cO ofLT Tryz.f22 ((rrA).wr (l,())) ((ag).wr ()) [.fr [.sym],.auto]=
 End.need (qW {begun:=true,s:= [(7640891576956012808:Int),(13503953896175478587:Int),(4354685564936845355:Int),(11912009170470909681:Int),(5840696475078001361:Int),(11170449401992604703:Int),(2270897969802886507:Int),(6620516959819538809:Int)],n:=(0:Int),wait:=List.replicate (128:Nat) (0:Int)}
 ∧(↑l.length:Int)=(↑l.length:Int)∧(0:Int)=(0:Int)∧l.length<(2305843009213693952:Nat)∧(0:Int)+(↑l.flatten.length:Int)<
 (2305843009213693952:Int)) (End.need (qW (cm {begun:=true,s:= [(7640891576956012808:Int),(13503953896175478587:Int),(4354685564936845355:Int),(11912009170470909681:Int),(5840696475078001361:Int),(11170449401992604703:Int),(2270897969802886507:Int),(6620516959819538809:Int)],n:=(0:Int),wait:=List.replicate (128:Nat) (0:Int)}
 l.flatten)∧(cm {begun:=true,s:= [(7640891576956012808:Int),(13503953896175478587:Int),(4354685564936845355:Int),(11912009170470909681:Int),(5840696475078001361:Int),(11170449401992604703:Int),(2270897969802886507:Int),(6620516959819538809:Int)],n:=(0:Int),wait:=List.replicate (128:Nat) (0:Int)}
 l.flatten).n<(1152921504606846976:Int)) (End.leaf (LV.one (VV.agg [SV.arr (Ty.int IntKind.u8) (64:Nat) (agX (cm {begun:=true,s:= [(7640891576956012808:Int),(13503953896175478587:Int),(4354685564936845355:Int),(11912009170470909681:Int),(5840696475078001361:Int),(11170449401992604703:Int),(2270897969802886507:Int),(6620516959819538809:Int)],n:=(0:Int),wait:=List.replicate (128:Nat) (0:Int)}
 l.flatten))])) [])):=by kernel_rfl
theorem ae4:ofE.Ok Tryz.prog 22:=by
 refine (ao.bf Tryz.call22 fun x_ y_ Q H_=>?_).sym
 obtain ⟨l,_⟩:=x_
 obtain ⟨hn,hq⟩:=H_
 have hn:l.length<2305843009213693952∧l.flatten.length<1152921504606846976:=hn
 refine (ay mixed IA Tryz.func22 rfl (LT:=ofLT) (ks:= [.fr [.sym],.auto]) (aQ.cO (nx rfl (cP (hp:= []) ack) pc))).use (D:= []) ?_ hq
 show (aS _ _ _ _ ((rrA).wr (l,())) ((ag).wr ()) _).sat _
 rw[acm]
 have e:(cm It l.flatten).n=l.flatten.length:=by rw[oz];show (0:Int)+_=_;omega
 exact ⟨⟨Fb,rfl,rfl,hn.1,by omega⟩,⟨mN _ Fb,by show (cm It l.flatten).n<_;rw[e];omega⟩,rfl,rfl⟩
end Go.Proofs.YtjalaohajcpllaaGreat
end
section
set_option linter.unusedVariables false
set_option linter.unusedSimpArgs false
namespace Go.Proofs.YtjalaohajcpllaaGreat
open Go Go.Ev
set_option maxRecDepth 100000
def pS (b:List Int):List Int:=bE (b.take 160)
noncomputable def Fc:ao:=ao.bS [some u8] (bA) (ag) fun x_ y_=>(fun (b:List Int)=> .leaf (some (b.length<1152921504606846976)) (iq .u8 64 (pS b)) []) x_.1
theorem IB (b:List Int):aS Tryz.prog [(22,ofE)] [] Tryz.f28 ((bA).wr (b,())) ((ag).wr ()) [.fr [.sym],.auto]=
 End.need ((0:Int)≤(0:Int)∧((0:Int)≤if (160:Int)<(↑b.length:Int) then (160:Int) else (↑b.length:Int))∧(if (160:Int)<
 (↑b.length:Int) then (160:Int) else (↑b.length:Int))≤(↑b.length:Int)) (End.need ((1:Nat)<(2305843009213693952:Nat)∧ [List.take ((if
 (160:Int)<(↑b.length:Int) then (160:Int) else (↑b.length:Int))-(0:Int)).toNat (List.drop (0:Nat) b)].flatten.length<
 (1152921504606846976:Nat)) (End.leaf (LV.one (VV.agg [SV.arr (Ty.int IntKind.u8) (64:Nat) (bE [List.take ((if (160:Int)<(↑b.length:Int)
 then (160:Int) else (↑b.length:Int))-(0:Int)).toNat (List.drop (0:Nat) b)].flatten)])) [])):=by kernel_rfl
theorem Cn:Fc.Ok Tryz.prog 28:=by
 refine (ao.bf Tryz.call28 fun x_ y_ Q H_=>?_).sym
 obtain ⟨b,_⟩:=x_
 obtain ⟨hn,hq⟩:=H_
 have hn:b.length<1152921504606846976:=hn
 refine (ay mixed ((ak ae4 aF)) Tryz.func28 rfl (LT:= []) (ks:= [.fr [.sym],.auto]) (aQ.nil _)).use (D:= []) ?_ hq
 show (aS _ _ _ _ ((bA).wr (b,())) ((ag).wr ()) _).sat _
 rw[IB]
 have e:List.take ((if (160:Int)<b.length then (160:Int) else b.length)-0).toNat (List.drop 0 b)=b.take 160:=by
  rw[List.drop_zero]
  split
  ·rfl
  ·rw[List.take_of_length_le (by omega),List.take_of_length_le (by omega)]
 rw[e,List.flatten_singleton]
 refine ⟨⟨by omega,by split<;>omega,by split<;>omega⟩,⟨by omega,by simp;omega⟩,rfl,rfl⟩
end Go.Proofs.YtjalaohajcpllaaGreat
end
section
set_option linter.unusedVariables false
set_option linter.unusedSimpArgs false
namespace Go.Proofs.YtjalaohajcpllaaGreat
open Go Go.Ev
set_option maxRecDepth 100000
def tC:Nat→List Int→List Int→List Int
 |0,s,_=>s
 |k+1,s,b=>tC k (zY s (ow (b.take 128))) (b.drop 128)
def XY (s b:List Int):List Int:=tC (b.length/128) s b
end Go.Proofs.YtjalaohajcpllaaGreat
end
section
set_option linter.unusedVariables false
set_option linter.unusedSimpArgs false
namespace Go.Proofs.YtjalaohajcpllaaGreat
open Go Go.Ev
set_option maxRecDepth 100000
theorem jS (k:Nat) (s b:List Int):tC (k+1) s b=tC k (zY s (ow (b.take 128))) (b.drop 128):=rfl
theorem z9 (s b:List Int):tC 0 s b=s:=rfl
theorem qX: ∀ (k:Nat) (s b c:List Int),b.take (128*k)=c.take (128*k)→128*k≤b.length→128*k≤c.length→tC k s b=tC k s c
 |0,_,_,_,_,_,_=>rfl
 |k+1,s,b,c,h,hb,hc=>by
  have e1:b.take 128=c.take 128:=by
   have:=congrArg (List.take 128) h
   rw[List.take_take,List.take_take,Nat.min_eq_left (by omega)] at this
   exact this
  have e2:(b.drop 128).take (128*k)=(c.drop 128).take (128*k):=by
   have:=congrArg (List.drop 128) h
   rw[List.drop_take,List.drop_take,show 128*(k+1)-128=128*k from by omega] at this
   exact this
  rw[jS,jS,e1]
  exact qX k _ _ _ e2 (by rw[List.length_drop];omega) (by rw[List.length_drop];omega)
theorem Aa: ∀ (k:Nat) (s a b:List Int),a.length=128*k→b.length=128→tC (k+1) s (a++b)=zY (tC k s a) (ow b)
 |0,s,a,b,ha,hb=>by
  have:a= []:=List.eq_nil_of_length_eq_zero (by omega)
  subst this
  rw[jS,z9,z9,List.nil_append,List.take_of_length_le (by omega)]
 |k+1,s,a,b,ha,hb=>by
  rw[jS (k+1),jS k s a,List.take_append_of_le_length (by omega),List.drop_append_of_le_length (by omega)]
  exact Aa k _ (a.drop 128) b (by rw[List.length_drop];omega) hb
structure HP (h:HH) (row:List Int):Prop where
 ok:qW h
 n:h.n=row.length
 s:h.s=XY zX row
 wait:h.wait.take (row.length%128)=row.drop (row.length/128*128)
theorem HP.byte {h:HH} {row:List Int} (hp:HP h row) (c:Int):HP (kx h c) (row++ [c]):=by
 obtain ⟨h0,h1,h2,h3⟩:=hp
 have hw:=h0.wait
 have hn:(h.n%128).toNat=row.length%128:=by rw[h1];omega
 have ns:(h.wait.set (row.length%128) c).take (row.length%128+1)=row.drop (row.length/128*128)++ [c]:=by
  rw[List.take_add_one,List.take_set_of_le (Nat.le_refl _),h3]
  simp[show row.length%128<h.wait.length by omega]
 refine ⟨z6 h0 c,?_,?_,?_⟩
 ·rw[E7,h1];simp
 ·unfold kx
  by_cases hz:(h.n+1)%128=0
  ·rw[if_pos hz,hn]
   simp only
   have hl:row.length%128=127:=by omega
   have akp:h.wait.set (row.length%128) c=row.drop (row.length/128*128)++ [c]:=by
    rw[← ns,List.take_of_length_le (by simp;omega)]
   have hk:(row++ [c]).length/128=row.length/128+1:=by simp;omega
   rw[akp,h2]
   unfold XY
   rw[hk]
   have e:row++ [c]=row.take (row.length/128*128)++(row.drop (row.length/128*128)++ [c]):=by rw[← List.append_assoc,List.take_append_drop]
   rw[e,Aa _ _ _ _ (by rw[List.length_take];omega) (by simp;omega)]
   congr 1
   exact qX _ _ _ _ (by rw[List.take_take];congr 1;omega) (by omega) (by rw[List.length_take];omega)
  ·rw[if_neg hz]
   simp only
   have hk:(row++ [c]).length/128=row.length/128:=by simp;omega
   rw[h2]
   unfold XY
   rw[hk]
   exact qX _ _ _ _ (by rw[List.take_append_of_le_length (by omega)]) (by omega) (by simp;omega)
 ·have hwb:(kx h c).wait=h.wait.set (row.length%128) c:=by unfold kx;split<;>simp only[hn]
  rw[hwb]
  by_cases hz:(row.length+1)%128=0
  ·have e1:(row++ [c]).length%128=0:=by simpa using hz
   have e2:(row++ [c]).length/128*128=(row++ [c]).length:=by omega
   rw[e1,e2,List.drop_length];rfl
  ·have e1:(row++ [c]).length%128=row.length%128+1:=by simp;omega
   have e2:(row++ [c]).length/128*128=row.length/128*128:=by simp;omega
   rw[e1,e2,ns,List.drop_append_of_le_length (by omega)]
theorem HP.put: ∀ (b:List Int) {h:HH} {row:List Int},HP h row→HP (cm h b) (row++b)
 | [],h,row,hp=>by simpa [cm] using hp
 |c::b,h,row,hp=>by
  have:=HP.put b (hp.byte c)
  rw[List.append_assoc] at this
  exact this
theorem HP.new:HP It []:=⟨Fb,rfl,rfl,rfl⟩
theorem HP.of (b:List Int):HP (cm It b) b:=by simpa using HP.new.put b
end Go.Proofs.YtjalaohajcpllaaGreat
end
section
set_option linter.unusedVariables false
set_option linter.unusedSimpArgs false
namespace Go.Proofs.YtjalaohajcpllaaGreat
open Go Go.Ev
set_option maxRecDepth 100000
end Go.Proofs.YtjalaohajcpllaaGreat
end
section
set_option linter.unusedVariables false
set_option linter.unusedSimpArgs false
namespace Go.Ev
open Go
def Vec (α:Type):Nat→Type
 |0=>Unit
 |n+1=>α×Vec α n
namespace Vec
variable {α β γ:Type}
def toList: {n:Nat}→Vec α n→List α
 |0,_=> []
 |_+1,v=>v.1::toList v.2
def map (f:α→β): {n:Nat}→Vec α n→Vec β n
 |0,_=>()
 |_+1,v=>(f v.1,map f v.2)
def zip (f:α→β→γ): {n:Nat}→Vec α n→Vec β n→Vec γ n
 |0,_,_=>()
 |_+1,v,u=>(f v.1 u.1,zip f v.2 u.2)
def ofFn:(n:Nat)→(Nat→α)→Vec α n
 |0,_=>()
 |n+1,f=>(f 0,ofFn n fun i=>f (i+1))
def get [Inhabited α]: {n:Nat}→Vec α n→Nat→α
 |0,_,_=>default
 |_+1,v,0=>v.1
 |_+1,v,i+1=>get v.2 i
theorem dM: {n:Nat}→(v:Vec α n)→v.toList.length=n
 |0,_=>rfl
 |_+1,v=>by simp[toList,dM v.2]
theorem toList_inj: {n:Nat}→ {v u:Vec α n}→v.toList=u.toList→v=u
 |0,_,_,_=>rfl
 |n+1,v,u,h=>by
  simp only[toList,List.cons.injEq] at h
  exact Prod.ext h.1 (toList_inj h.2)
end Vec
def iE {α:Type} (f:Nat→α→α):Nat→α→α
 |0,a=>a
 |k+1,a=>f k (iE f k a)
theorem vL {α:Type} (f:Nat→α→α) (a:α): ∀ n,upto f 0 n a=iE f n a
 |0=>rfl
 |n+1=>by rw[BY,vL f a n,Nat.zero_add];rfl
def bg (x y c:Int):Int×Int:=((((x.toNat+y.toNat+c.toNat)%2 ^ 64:Nat):Int),(((x.toNat+y.toNat+c.toNat)/2 ^ 64:Nat):Int))
def lP (x y b:Int):Int×Int:=((((x.toNat+2 ^ 64-y.toNat-b.toNat)%2 ^ 64:Nat):Int),if x.toNat<y.toNat+b.toNat then 1 else 0)
def aor (p:Prop):Option Prop→Option Prop
 |none=>some p
 |some q=>some (p∧q)
abbrev cU3:ba (List LV) (Int×Int×Int×Unit):=ae (ai (ax .u64)) (ae (ai (ax .u64)) (ae (ai (ax .u64)) ag))
def ky (g:Int→Int→Int→Int×Int):ao:=ao.of [] cU3 ag fun x _=> .leaf (some (0≤x.2.2.1∧x.2.2.1≤1)) (.cD [.sc (.int .u64 (.sym (g x.1 x.2.1 x.2.2.1).1)),.sc (.int .u64 (.sym (g x.1 x.2.1 x.2.2.1).2))]) []
theorem PD {P:Program} {f:FuncId} {g:Int→Int→Int→Int×Int} (h: ∀ (a b c:Int) (w:World),0≤c→c≤1→(callFunc f #[.int .u64 a,.int .u64 b,.int .u64 c]).run P w= .ok (.value (.tuple #[.int .u64 (g a b c).1,.int .u64 (g a b c).2])) w):
  (ky g).Ok P f:=by
 refine ⟨fun args hp Q hq=>?_⟩
 simp only[ky,ao.of] at hq
 split at hq
 ·rename_i x y hx hy
  rw[cU3.ok hx]
  obtain ⟨a,b,c,_⟩:=x
  obtain ⟨⟨h0,h1⟩,hq⟩:=hq
  intro β w vals hh dc
  cases dc with
  |cons e1 dc=>cases dc with
   |cons e2 dc=>cases dc with
    |cons e3 dc=>
     cases dc
     simp only[LV.den,VV.den,SV.den,ai,ax,SI.val] at e1 e2 e3
     subst e1 e2 e3
     exact .inl ⟨_,h a b c w h0 h1,_,β,_,hp,rfl,⟨[],hq,rfl⟩,⟨_,rfl,.cons rfl (.cons rfl .nil)⟩,hh⟩
 ·exact hq.elim
theorem Co {P:Program} (n:String) (a b c:Int) (w:World) (hc: ¬ c.toNat>1):
  (Extern.MathBitsCarry.three n #[.int .u64 a,.int .u64 b,.int .u64 c]).run P w= .ok (a.toNat,b.toNat,c.toNat) w:=by
 have e:Extern.MathBitsCarry.three n #[.int .u64 a,.int .u64 b,.int .u64 c]=(do
  let c:=(← asInt (.int .u64 c)).toNat
  if c>1 then unsupported (.noEntry ("extern/math/bits."++n++": a carry that is neither 0 nor 1"))
  pure ((← asInt (.int .u64 a)).toNat,(← asInt (.int .u64 b)).toNat,c)):=rfl
 rw[e]
 have qD: ¬ 1<c.toNat:=hc
 simp[asInt,asIntOf]
 omega
theorem MG {P:Program} {f:FuncId} {fn:Func} (hf:P.funcs[f]? =some fn) (XZ:(fn.name=="runtime.NumGoroutine")=false) (hb:fn.body.isNone=true) (hn:Extern.findNext fn=none)
  {e:Array Value→Sem Value} (he:Extern.find fn=some e) (hee:e=(Extern.MathBitsCarry.rows.getD 0 ("",fun _=>pure undef)).2):(ky bg).Ok P f:=by
 refine PD fun a b c w h0 h1=>?_
 rw[run_callFunc_extern hf XZ hb hn he,hee]
 have hc: ¬ c.toNat>1:=by omega
 simp[Extern.MathBitsCarry.rows,Co _ _ _ _ _ hc,Extern.MathBitsCarry.pair,Extern.MathBitsCarry.m64,bg]
theorem MH {P:Program} {f:FuncId} {fn:Func} (hf:P.funcs[f]? =some fn) (XZ:(fn.name=="runtime.NumGoroutine")=false) (hb:fn.body.isNone=true) (hn:Extern.findNext fn=none)
  {e:Array Value→Sem Value} (he:Extern.find fn=some e) (hee:e=(Extern.MathBitsCarry.rows.getD 1 ("",fun _=>pure undef)).2):(ky lP).Ok P f:=by
 refine PD fun a b c w h0 h1=>?_
 rw[run_callFunc_extern hf XZ hb hn he,hee]
 have hc: ¬ c.toNat>1:=by omega
 simp[Extern.MathBitsCarry.rows,Co _ _ _ _ _ hc,Extern.MathBitsCarry.pair,Extern.MathBitsCarry.m64,lP]
 split<;>rfl
def MI (k:IntKind) {Y:Type} (r:ba (List SV) Y):(n:Nat)→ba (List SV) (Vec Int n×Y)
 |0=>r.qk (fun y=>((),y)) (fun p=>p.2) (fun _=>rfl)
 |n+1=>(ae (ax k) (MI k r n)).qk (fun p=>((p.1,p.2.1),p.2.2)) (fun p=>(p.1.1,(p.1.2,p.2))) (fun _=>rfl)
def ka (k:IntKind):(n:Nat)→ba (List SV) (Vec Int n)
 |0=>ag
 |n+1=>ae (ax k) (ka k n)
def xK (l:List Int):Vec Int 32:=Vec.ofFn 32 fun i=>l.getD i 0
end Go.Ev
end
section
namespace BJ
def aA (n:Nat):Prop:=2≤n∧ ∀ m,m∣n→m=1∨m=n
theorem vM: ∀ n:Nat,2≤n→ ∃ q,aA q∧q∣n:=by
 intro n
 induction n using Nat.strongRecOn with
 |_ n ih=>
  intro h
  by_cases hp: ∀ m,m∣n→m=1∨m=n
  ·exact ⟨n,⟨h,hp⟩,Nat.dvd_refl n⟩
  ·have ⟨m,hm⟩:=Classical.not_forall.1 hp
   have ⟨hd,hn⟩:=Classical.not_imp.1 hm
   have h1:m≠1:=fun e=>hn (.inl e)
   have h2:m≠n:=fun e=>hn (.inr e)
   have hle:m≤n:=Nat.le_of_dvd (by omega) hd
   have h0:m≠0:=by
    rintro rfl
    have:=Nat.eq_zero_of_zero_dvd hd
    omega
   obtain ⟨q,hq,hqm⟩:=ih m (by omega) (by omega)
   exact ⟨q,hq,Nat.dvd_trans hqm hd⟩
theorem aA.coprime {q a:Nat} (hq:aA q) (h: ¬ q∣a):Nat.Coprime q a:=by
 rcases hq.2 (Nat.gcd q a) (Nat.gcd_dvd_left q a) with h1|h1
 ·exact h1
 ·exact absurd (h1▸Nat.gcd_dvd_right q a) h
theorem aA.dvd_mul {q a b:Nat} (hq:aA q) (h:q∣a*b):q∣a∨q∣b:=by
 by_cases ha:q∣a
 ·exact .inl ha
 ·exact .inr ((hq.coprime ha).dvd_of_dvd_mul_left h)
theorem aA.IC {q:Nat} (hq:aA q): ∀ l:List Nat,(∀ x∈l,aA x)→q∣l.foldr (· * ·) 1→q∈l
 | [],_,h=>by
  have:q=1:=Nat.eq_one_of_dvd_one h
  have:=hq.1
  omega
 |x::l,hl,h=>by
  rcases hq.dvd_mul h with h|h
  ·rcases (hl x (by simp)).2 q h with h1|h1
   ·have:=hq.1;omega
   ·simp[h1]
  ·exact List.mem_cons_of_mem _ (hq.IC l (fun y hy=>hl y (by simp[hy])) h)
def pm (n:Nat):Nat→Nat→Nat→Nat
 |0,_,_=>1%n
 |f+1,a,e=>if e%2=1 then a*pm n f (a*a%n) (e/2)%n else pm n f (a*a%n) (e/2)
theorem PE (n:Nat): ∀ f a e,e<2 ^ f→pm n f a e=a ^ e%n:=by
 intro f
 induction f with
 |zero=>intro a e h;have:e=0:=by simpa using h
        subst this;simp[pm]
 |succ f ih=>
  intro a e h
  have h2:e/2<2 ^ f:=by rw[Nat.pow_succ] at h;omega
  have hk:(a*a%n) ^ (e/2)%n=a ^ (2*(e/2))%n:=by
   rw[← Nat.pow_mod,Nat.pow_mul,Nat.pow_two]
  simp only[pm,ih _ _ h2,hk]
  split
  ·rename_i ho
   rw[Nat.mul_mod,Nat.mod_mod,← Nat.mul_mod,Nat.mul_comm,← Nat.pow_succ]
   congr 2;omega
  ·rename_i ho
   congr 2;omega
theorem kA {n a k:Nat} (hn:2≤n) (h:a ^ k%n=1) (j:Nat):a ^ (k*j)%n=1:=by
 rw[Nat.pow_mul,Nat.pow_mod,h,Nat.one_pow,Nat.mod_eq_of_lt hn]
theorem Ff {n a m:Nat} (hm:0<m) (h:a ^ m%n=1):
  ∃ k,0<k∧a ^ k%n=1∧ ∀ j,0<j→j<k→a ^ j%n≠1:=by
 induction m using Nat.strongRecOn with
 |_ m ih=>
  by_cases hs: ∃ j,0<j∧j<m∧a ^ j%n=1
  ·obtain ⟨j,h0,h1,h2⟩:=hs
   exact ih j h1 h0 h2
  ·exact ⟨m,hm,h,fun j h0 h1 h2=>hs ⟨j,h0,h1,h2⟩⟩
theorem Cp {n a k m:Nat} (hn:2≤n) (hk:0<k) (h1:a ^ k%n=1) (Qy: ∀ j,0<j→j<k→a ^ j%n≠1)
  (hm:a ^ m%n=1):k∣m:=by
 have e:a ^ m=a ^ (k*(m/k))*a ^ (m%k):=by
  rw[← Nat.pow_add,Nat.div_add_mod]
 rw[e,Nat.mul_mod,kA hn h1,Nat.one_mul,Nat.mod_mod] at hm
 by_cases hr:m%k=0
 ·exact Nat.dvd_of_mod_eq_zero hr
 ·exact absurd hm (Qy _ (by omega) (Nat.mod_lt _ hk))
theorem tD: ∀ (m:Nat) (l:List Nat),l.Nodup→(∀ x∈l,1≤x∧x≤m)→m≤l.length→ ∀ x,1≤x→x≤m→x∈l
 |0,_,_,_,_,x,h1,h2=>by omega
 |m+1,l,hd,hl,hlen,x,h1,h2=>by
  have GQ:m+1∈l:=by
   refine Classical.byContradiction fun rD=>?_
   have hl': ∀ y∈l,1≤y∧y≤m:=fun y hy=>by
    have:=hl y hy
    have:y≠m+1:=fun e=>rD (e▸hy)
    omega
   have:=length_le m l hd hl'
   omega
  have hd':(l.erase (m+1)).Nodup:=hd.erase _
  have aqd:(l.erase (m+1)).length=l.length-1:=List.length_erase_of_mem GQ
  have hl': ∀ y∈l.erase (m+1),1≤y∧y≤m:=fun y hy=>by
   have Gw:=(List.Nodup.mem_erase_iff hd).1 hy
   have:=hl y Gw.2
   have:=Gw.1
   omega
  by_cases hx:x=m+1
  ·exact hx▸GQ
  ·exact List.mem_of_mem_erase (tD m (l.erase (m+1)) hd' hl' (by omega) x h1 (by omega))
where
 length_le: ∀ (m:Nat) (l:List Nat),l.Nodup→(∀ x∈l,1≤x∧x≤m)→l.length≤m
  |0,l,_,hl=>by
   cases l with
   |nil=>simp
   |cons a l=>have:=hl a (by simp);omega
  |m+1,l,hd,hl=>by
   have hd':(l.erase (m+1)).Nodup:=hd.erase _
   have hl': ∀ y∈l.erase (m+1),1≤y∧y≤m:=fun y hy=>by
    have Gw:=(List.Nodup.mem_erase_iff hd).1 hy
    have:=hl y Gw.2
    have:=Gw.1
    omega
   have:=length_le m _ hd' hl'
   have h3:= @List.length_erase Nat _ _ (m+1) l
   split at h3<;>omega
def fq (n a:Nat):Prop:=2≤n∧a ^ (n-1)%n=1∧ ∀ x,x%n≠0→ ∃ i,a ^ i%n=x%n
theorem akq {n a:Nat} {l:List Nat} (hn:2≤n) (hl: ∀ q∈l,aA q) (hp:l.foldr (· * ·) 1=n-1)
  (h1:a ^ (n-1)%n=1) (hq: ∀ q∈l,a ^ ((n-1)/q)%n≠1):fq n a:=by
 refine ⟨hn,h1,?_⟩
 by_cases hn2:n=2
 ·subst hn2
  intro x hx
  exact ⟨0,by simp;omega⟩
 obtain ⟨k,hk,hk1,Qy⟩:=Ff (m:=n-1) (by omega) h1
 have aos:=Cp hn hk hk1 Qy h1
 have hkn:k=n-1:=by
  refine Classical.byContradiction fun fR=>?_
  obtain ⟨c,hc⟩:=aos
  have hc2:2≤c:=by
   rcases Nat.lt_or_ge c 2 with h|h
   ·have:c=0∨c=1:=by omega
    rcases this with rfl|rfl
    ·simp at hc;omega
    ·simp at hc;omega
   ·exact h
  obtain ⟨q,hqp,c',rfl⟩:=vM c hc2
  have GQ:q∈l:=hqp.IC l hl (by rw[hp,hc];exact ⟨k*c',by rw[Nat.mul_left_comm]⟩)
  refine hq q GQ ?_
  have:(n-1)/q=k*c':=by
   rw[hc,Nat.mul_left_comm]
   exact Nat.mul_div_cancel_left _ (by have:=hqp.1;omega)
  rw[this]
  exact kA hn hk1 c'
 subst hkn
 have hinv: ∀ i,a ^ i%n≠0:=by
  intro i h0
  have:a ^ ((n-1)*(i+1))%n=1:=kA hn h1 _
  have e:(n-1)*(i+1)=i+((n-1)*(i+1)-i):=by
   have:i≤(n-1)*(i+1):=Nat.le_trans (by omega) (Nat.le_mul_of_pos_left (i+1) (by omega))
   omega
  rw[e,Nat.pow_add,Nat.mul_mod,h0,Nat.zero_mul,Nat.zero_mod] at this
  omega
 have QK: ∀ i j,i<j→j<n-1→a ^ i%n≠a ^ j%n:=by
  intro i j hij hj he
  have e1:a ^ (j+(n-1-i))%n=1:=by
   rw[Nat.pow_add,Nat.mul_mod,← he,← Nat.mul_mod,← Nat.pow_add]
   have:i+(n-1-i)=n-1:=by omega
   rw[this];exact h1
  have e2:j+(n-1-i)=(n-1)+(j-i):=by omega
  rw[e2,Nat.pow_add,Nat.mul_mod,h1,Nat.one_mul,Nat.mod_mod] at e1
  exact Qy (j-i) (by omega) (by omega) e1
 intro x hx
 have hnd:((List.range (n-1)).map fun i=>a ^ i%n).Nodup:=by
  rw[List.nodup_iff_pairwise_ne,List.pairwise_map]
  refine List.Pairwise.imp_of_mem ?_ (List.pairwise_lt_range (n:=n-1))
  intro i j hi hj hij
  exact QK i j hij (by simpa using hj)
 have:=tD (n-1) _ hnd (fun y hy=>by
  obtain ⟨i,_,rfl⟩:=List.mem_map.1 hy
  have:=hinv i
  have:=Nat.mod_lt (a ^ i) (show 0<n by omega)
  omega) (by simp) (x%n) (by omega) (by have:=Nat.mod_lt x (show 0<n by omega);omega)
 obtain ⟨i,_,hi⟩:=List.mem_map.1 this
 exact ⟨i,hi⟩
theorem fq.qY {n a:Nat} (h:fq n a) {x:Nat} (hx:x%n≠0):x ^ (n-1)%n=1:=by
 obtain ⟨hn,h1,hs⟩:=h
 obtain ⟨i,hi⟩:=hs x hx
 rw[Nat.pow_mod,← hi,← Nat.pow_mod,← Nat.pow_mul,Nat.mul_comm]
 exact kA hn h1 i
theorem fq.dD {n a:Nat} (h:fq n a):aA n:=by
 refine ⟨h.1,fun m hm=>?_⟩
 refine Classical.byContradiction fun fR=>?_
 have hn:=h.1
 have hle:m≤n:=Nat.le_of_dvd (by omega) hm
 have h1:m≠1:=fun e=>fR (.inl e)
 have h2:m≠n:=fun e=>fR (.inr e)
 have h0:m≠0:=by
  rintro rfl
  have:=Nat.eq_zero_of_zero_dvd hm
  omega
 have hf:=h.qY (x:=m) (by rw[Nat.mod_eq_of_lt (by omega)];exact h0)
 have hd:m∣m ^ (n-1):=by
  rw[show n-1=(n-2)+1 from by omega,Nat.pow_succ]
  exact Nat.dvd_mul_left m _
 have:m∣m ^ (n-1)%n:=(Nat.dvd_mod_iff hm).2 hd
 rw[hf] at this
 exact h1 (Nat.eq_one_of_dvd_one this)
def check (n a f:Nat) (l:List Nat):Bool:=
 decide (2≤n)&&decide (n-1<2 ^ f)&&l.foldr (· * ·) 1==n-1&&pm n f a (n-1)==1&&l.all fun q=>pm n f a ((n-1)/q)!=1
theorem aH {n a f:Nat} {l:List Nat} (hl: ∀ q∈l,aA q) (h:check n a f l=true):fq n a:=by
 simp only[check,Bool.and_eq_true,decide_eq_true_eq,beq_iff_eq,List.all_eq_true,bne_iff_ne] at h
 obtain ⟨⟨⟨⟨hn,hf⟩,hp⟩,h1⟩,hq⟩:=h
 refine akq hn hl hp ?_ ?_
 ·rw[← PE n f a _ hf];exact h1
 ·intro q hm
  rw[← PE n f a _ (Nat.lt_of_le_of_lt (Nat.div_le_self _ _) hf)]
  exact hq q hm
def PF (n:Nat):Nat→Nat→Bool
 |0,_=>true
 |k+1,d=>if d*d>n then true else n%d !=0&&PF n k (d+1)
theorem MJ (n:Nat): ∀ k d,PF n k d=true→(d+k)*(d+k)>n→ ∀ m,d≤m→m*m≤n→ ¬ m∣n:=by
 intro k
 induction k with
 |zero=>intro d _ hgt m h1 h2;exfalso;have:=Nat.mul_le_mul h1 h1;simp at hgt;omega
 |succ k ih=>
  intro d h hgt m h1 h2 hd
  unfold PF at h
  split at h
  ·have:=Nat.mul_le_mul h1 h1;omega
  ·simp only[Bool.and_eq_true,bne_iff_ne] at h
   by_cases he:m=d
   ·subst he;exact h.1 (Nat.mod_eq_zero_of_dvd hd)
   ·exact ih (d+1) h.2 (by rw[show d+1+k=d+(k+1) by omega];exact hgt) m (by omega) h2 hd
theorem aC {n:Nat} (k:Nat) (hn:2≤n) (hk:(2+k)*(2+k)>n) (h:PF n k 2=true):aA n:=by
 have hs:=MJ n k 2 h hk
 refine ⟨hn,fun m hm=>?_⟩
 refine Classical.byContradiction fun fR=>?_
 have h1:m≠1:=fun e=>fR (.inl e)
 have h2:m≠n:=fun e=>fR (.inr e)
 obtain ⟨c,hc⟩:=hm
 have h0:m≠0:=by rintro rfl;simp at hc;omega
 have hc0:c≠0:=by rintro rfl;simp at hc;omega
 have hc1:c≠1:=by rintro rfl;simp at hc;omega
 by_cases hmc:m≤c
 ·exact hs m (by omega) (by rw[hc];exact Nat.mul_le_mul_left m hmc) ⟨c,hc⟩
 ·exact hs c (by omega) (by rw[hc];exact Nat.mul_le_mul_right c (by omega)) ⟨m,by rw[hc,Nat.mul_comm]⟩
end BJ
end
section
namespace BJ
theorem p2:aA 2:=aC 1 (by decide) (by decide) (by decide+kernel)
theorem p3:aA 3:=aC 1 (by decide) (by decide) (by decide+kernel)
theorem ag0:aA 65147:=aC 254 (by decide) (by decide) (by decide+kernel)
theorem aou:aA 353:=aC 17 (by decide) (by decide) (by decide+kernel)
theorem ag1:aA 57467:=aC 238 (by decide) (by decide) (by decide+kernel)
theorem p7:aA 7:=aC 1 (by decide) (by decide) (by decide+kernel)
theorem aov:aA 131:=aC 10 (by decide) (by decide) (by decide+kernel)
theorem acn:fq 132049 26:=aH (f:=18) (l:= [2,2,2,2,3,3,7,131]) (by simp only[List.mem_cons,List.not_mem_nil,or_false];rintro q (rfl|rfl|rfl|rfl|rfl|rfl|rfl|rfl)<;>first|exact p2|exact p3|exact p7|exact aov) (by decide+kernel)
theorem aco:aA 132049:=acn.dD
theorem p43:aA 43:=aC 5 (by decide) (by decide) (by decide+kernel)
theorem akr:aA 3727:=aC 60 (by decide) (by decide) (by decide+kernel)
theorem X0:fq 1923133 2:=aH (f:=21) (l:= [2,2,3,43,3727]) (by simp only[List.mem_cons,List.not_mem_nil,or_false];rintro q (rfl|rfl|rfl|rfl|rfl)<;>first|exact p2|exact p3|exact p43|exact akr) (by decide+kernel)
theorem X1:aA 1923133:=X0.dD
theorem p31:aA 31:=aC 4 (by decide) (by decide) (by decide+kernel)
theorem aow:aA 107:=aC 9 (by decide) (by decide) (by decide+kernel)
theorem aox:aA 223:=aC 13 (by decide) (by decide) (by decide+kernel)
theorem aks:aA 4153:=aC 63 (by decide) (by decide) (by decide+kernel)
theorem p5:aA 5:=aC 1 (by decide) (by decide) (by decide+kernel)
theorem akt:aA 1723:=aC 40 (by decide) (by decide) (by decide+kernel)
theorem acp:fq 430751 17:=aH (f:=19) (l:= [2,5,5,5,1723]) (by simp only[List.mem_cons,List.not_mem_nil,or_false];rintro q (rfl|rfl|rfl|rfl|rfl)<;>first|exact p2|exact p5|exact akt) (by decide+kernel)
theorem acq:aA 430751:=acp.dD
theorem qZ:fq 31757755568855353 10:=aH (f:=55) (l:= [2,2,2,3,31,107,223,4153,430751]) (by simp only[List.mem_cons,List.not_mem_nil,or_false];rintro q (rfl|rfl|rfl|rfl|rfl|rfl|rfl|rfl|rfl)<;>first|exact p2|exact p3|exact p31|exact aow|exact aox|exact aks|exact acq) (by decide+kernel)
theorem q5:aA 31757755568855353:=qZ.dD
theorem ag2:aA 75707:=aC 274 (by decide) (by decide) (by decide+kernel)
theorem p13:aA 13:=aC 2 (by decide) (by decide) (by decide+kernel)
theorem aku:aA 2437:=aC 48 (by decide) (by decide) (by decide+kernel)
theorem p97:aA 97:=aC 8 (by decide) (by decide) (by decide+kernel)
theorem aoy:aA 419:=aC 19 (by decide) (by decide) (by decide+kernel)
theorem acr:fq 569003 2:=aH (f:=20) (l:= [2,7,97,419]) (by simp only[List.mem_cons,List.not_mem_nil,or_false];rintro q (rfl|rfl|rfl|rfl)<;>first|exact p2|exact p7|exact p97|exact aoy) (by decide+kernel)
theorem acs:aA 569003:=acr.dD
theorem ID:fq 2773320623 5:=aH (f:=32) (l:= [2,2437,569003]) (by simp only[List.mem_cons,List.not_mem_nil,or_false];rintro q (rfl|rfl|rfl)<;>first|exact p2|exact aku|exact acs) (by decide+kernel)
theorem IE:aA 2773320623:=ID.dD
theorem Fg:fq 72106336199 7:=aH (f:=37) (l:= [2,13,2773320623]) (by simp only[List.mem_cons,List.not_mem_nil,or_false];rintro q (rfl|rfl|rfl)<;>first|exact p2|exact p13|exact IE) (by decide+kernel)
theorem Fh:aA 72106336199:=Fg.dD
theorem p19:aA 19:=aC 3 (by decide) (by decide) (by decide+kernel)
theorem p47:aA 47:=aC 5 (by decide) (by decide) (by decide+kernel)
theorem aoz:aA 127:=aC 10 (by decide) (by decide) (by decide+kernel)
theorem aoA:aA 103:=aC 9 (by decide) (by decide) (by decide+kernel)
theorem aoB:aA 991:=aC 30 (by decide) (by decide) (by decide+kernel)
theorem X2:fq 8574133 2:=aH (f:=24) (l:= [2,2,3,7,103,991]) (by simp only[List.mem_cons,List.not_mem_nil,or_false];rintro q (rfl|rfl|rfl|rfl|rfl|rfl)<;>first|exact p2|exact p3|exact p7|exact aoA|exact aoB) (by decide+kernel)
theorem X3:aA 8574133:=X2.dD
theorem tE:fq 1919519569386763 2:=aH (f:=51) (l:= [2,3,7,19,47,47,127,8574133]) (by simp only[List.mem_cons,List.not_mem_nil,or_false];rintro q (rfl|rfl|rfl|rfl|rfl|rfl|rfl|rfl)<;>first|exact p2|exact p3|exact p7|exact p19|exact p47|exact aoz|exact X3) (by decide+kernel)
theorem tF:aA 1919519569386763:=tE.dD
theorem fZ:fq 75445702479781427272750846543864801 7:=aH (f:=116) (l:= [2,2,2,2,2,3,3,5,5,75707,72106336199,1919519569386763]) (by simp only[List.mem_cons,List.not_mem_nil,or_false];rintro q (rfl|rfl|rfl|rfl|rfl|rfl|rfl|rfl|rfl|rfl|rfl|rfl)<;>first|exact p2|exact p3|exact p5|exact ag2|exact Fh|exact tF) (by decide+kernel)
theorem ga:aA 75445702479781427272750846543864801:=fZ.dD
theorem ca:fq 74058212732561358302231226437062788676166966415465897661863160754340907 2:=aH (f:=236) (l:= [2,3,353,57467,132049,1923133,31757755568855353,75445702479781427272750846543864801]) (by simp only[List.mem_cons,List.not_mem_nil,or_false];rintro q (rfl|rfl|rfl|rfl|rfl|rfl|rfl|rfl)<;>first|exact p2|exact p3|exact aou|exact ag1|exact aco|exact X1|exact q5|exact ga) (by decide+kernel)
theorem cb:aA 74058212732561358302231226437062788676166966415465897661863160754340907:=ca.dD
theorem a7:fq 57896044618658097711785492504343953926634992332820282019728792003956564819949 2:=aH (f:=255) (l:= [2,2,3,65147,74058212732561358302231226437062788676166966415465897661863160754340907]) (by simp only[List.mem_cons,List.not_mem_nil,or_false];rintro q (rfl|rfl|rfl|rfl|rfl)<;>first|exact p2|exact p3|exact ag0|exact cb) (by decide+kernel)
theorem bT:aA 57896044618658097711785492504343953926634992332820282019728792003956564819949:=a7.dD
theorem p11:aA 11:=aC 2 (by decide) (by decide) (by decide+kernel)
theorem p23:aA 23:=aC 3 (by decide) (by decide) (by decide+kernel)
theorem ag3:aA 34123:=aC 183 (by decide) (by decide) (by decide+kernel)
theorem acu:fq 409477 2:=aH (f:=19) (l:= [2,2,3,34123]) (by simp only[List.mem_cons,List.not_mem_nil,or_false];rintro q (rfl|rfl|rfl|rfl)<;>first|exact p2|exact p3|exact ag3) (by decide+kernel)
theorem acv:aA 409477:=acu.dD
theorem Sj:fq 14741173 2:=aH (f:=24) (l:= [2,2,3,3,409477]) (by simp only[List.mem_cons,List.not_mem_nil,or_false];rintro q (rfl|rfl|rfl|rfl|rfl)<;>first|exact p2|exact p3|exact acv) (by decide+kernel)
theorem Sk:aA 14741173:=Sj.dD
theorem Sl:fq 58964693 2:=aH (f:=26) (l:= [2,2,14741173]) (by simp only[List.mem_cons,List.not_mem_nil,or_false];rintro q (rfl|rfl|rfl)<;>first|exact p2|exact Sk) (by decide+kernel)
theorem Sm:aA 58964693:=Sl.dD
theorem ag4:aA 30703:=aC 174 (by decide) (by decide) (by decide+kernel)
theorem ag5:aA 82163:=aC 285 (by decide) (by decide) (by decide+kernel)
theorem ag6:aA 22111:=aC 147 (by decide) (by decide) (by decide+kernel)
theorem acw:fq 132667 5:=aH (f:=18) (l:= [2,3,22111]) (by simp only[List.mem_cons,List.not_mem_nil,or_false];rintro q (rfl|rfl|rfl)<;>first|exact p2|exact p3|exact ag6) (by decide+kernel)
theorem acx:aA 132667:=acw.dD
theorem ag7:aA 17231:=aC 130 (by decide) (by decide) (by decide+kernel)
theorem acy:fq 137849 3:=aH (f:=18) (l:= [2,2,2,17231]) (by simp only[List.mem_cons,List.not_mem_nil,or_false];rintro q (rfl|rfl|rfl|rfl)<;>first|exact p2|exact ag7) (by decide+kernel)
theorem acz:aA 137849:=acy.dD
theorem lQ:fq 3044861653679985063343 5:=aH (f:=72) (l:= [2,3,11,30703,82163,132667,137849]) (by simp only[List.mem_cons,List.not_mem_nil,or_false];rintro q (rfl|rfl|rfl|rfl|rfl|rfl|rfl)<;>first|exact p2|exact p3|exact p11|exact ag4|exact ag5|exact acx|exact acz) (by decide+kernel)
theorem lR:aA 3044861653679985063343:=lQ.dD
theorem gw:fq 198211423230930754013084525763697 5:=aH (f:=108) (l:= [2,2,2,2,3,23,58964693,3044861653679985063343]) (by simp only[List.mem_cons,List.not_mem_nil,or_false];rintro q (rfl|rfl|rfl|rfl|rfl|rfl|rfl|rfl)<;>first|exact p2|exact p3|exact p23|exact Sm|exact lR) (by decide+kernel)
theorem gx:aA 198211423230930754013084525763697:=gw.dD
theorem aoC:aA 269:=aC 15 (by decide) (by decide) (by decide+kernel)
theorem p73:aA 73:=aC 7 (by decide) (by decide) (by decide+kernel)
theorem aoD:aA 307:=aC 16 (by decide) (by decide) (by decide+kernel)
theorem akx:aA 5879:=aC 75 (by decide) (by decide) (by decide+kernel)
theorem MK:fq 292386187 2:=aH (f:=29) (l:= [2,3,3,3,3,307,5879]) (by simp only[List.mem_cons,List.not_mem_nil,or_false];rintro q (rfl|rfl|rfl|rfl|rfl|rfl|rfl)<;>first|exact p2|exact p3|exact aoD|exact akx) (by decide+kernel)
theorem ML:aA 292386187:=MK.dD
theorem Bx:fq 213441916511 13:=aH (f:=38) (l:= [2,5,73,292386187]) (by simp only[List.mem_cons,List.not_mem_nil,or_false];rintro q (rfl|rfl|rfl|rfl)<;>first|exact p2|exact p5|exact p73|exact ML) (by decide+kernel)
theorem Bz:aA 213441916511:=Bx.dD
theorem aky:aA 1361:=aC 35 (by decide) (by decide) (by decide+kernel)
theorem akz:aA 2851:=aC 52 (by decide) (by decide) (by decide+kernel)
theorem p41:aA 41:=aC 5 (by decide) (by decide) (by decide+kernel)
theorem akA:aA 3797:=aC 60 (by decide) (by decide) (by decide+kernel)
theorem acA:fq 531581 2:=aH (f:=20) (l:= [2,2,5,7,3797]) (by simp only[List.mem_cons,List.not_mem_nil,or_false];rintro q (rfl|rfl|rfl|rfl|rfl)<;>first|exact p2|exact p5|exact p7|exact akA) (by decide+kernel)
theorem acB:aA 531581:=acA.dD
theorem akB:aA 2551:=aC 49 (by decide) (by decide) (by decide+kernel)
theorem X4:fq 1224481 13:=aH (f:=21) (l:= [2,2,2,2,2,3,5,2551]) (by simp only[List.mem_cons,List.not_mem_nil,or_false];rintro q (rfl|rfl|rfl|rfl|rfl|rfl|rfl|rfl)<;>first|exact p2|exact p3|exact p5|exact akB) (by decide+kernel)
theorem X5:aA 1224481:=X4.dD
theorem tG:fq 1257559732178653 2:=aH (f:=51) (l:= [2,2,3,7,23,531581,1224481]) (by simp only[List.mem_cons,List.not_mem_nil,or_false];rintro q (rfl|rfl|rfl|rfl|rfl|rfl|rfl)<;>first|exact p2|exact p3|exact p7|exact p23|exact acB|exact X5) (by decide+kernel)
theorem tH:aA 1257559732178653:=tG.dD
theorem oA:fq 4434155615661930479 17:=aH (f:=62) (l:= [2,41,43,1257559732178653]) (by simp only[List.mem_cons,List.not_mem_nil,or_false];rintro q (rfl|rfl|rfl|rfl)<;>first|exact p2|exact p41|exact p43|exact tH) (by decide+kernel)
theorem oB:aA 4434155615661930479:=oA.dD
theorem jh:fq 172054593956031949258510691 2:=aH (f:=88) (l:= [2,5,1361,2851,4434155615661930479]) (by simp only[List.mem_cons,List.not_mem_nil,or_false];rintro q (rfl|rfl|rfl|rfl|rfl)<;>first|exact p2|exact p5|exact aky|exact akz|exact oB) (by decide+kernel)
theorem ji:aA 172054593956031949258510691:=jh.dD
theorem eJ:fq 19757330305831588566944191468367130476339 2:=aH (f:=134) (l:= [2,269,213441916511,172054593956031949258510691]) (by simp only[List.mem_cons,List.not_mem_nil,or_false];rintro q (rfl|rfl|rfl|rfl)<;>first|exact p2|exact aoC|exact Bz|exact ji) (by decide+kernel)
theorem eK:aA 19757330305831588566944191468367130476339:=eJ.dD
theorem dZ:fq 276602624281642239937218680557139826668747 2:=aH (f:=138) (l:= [2,7,19757330305831588566944191468367130476339]) (by simp only[List.mem_cons,List.not_mem_nil,or_false];rintro q (rfl|rfl|rfl)<;>first|exact p2|exact p7|exact eK) (by decide+kernel)
theorem ee:aA 276602624281642239937218680557139826668747:=dZ.dD
theorem bV:fq 7237005577332262213973186563042994240857116359379907606001950938285454250989 2:=aH (f:=253) (l:= [2,2,3,11,198211423230930754013084525763697,276602624281642239937218680557139826668747]) (by simp only[List.mem_cons,List.not_mem_nil,or_false];rintro q (rfl|rfl|rfl|rfl|rfl|rfl)<;>first|exact p2|exact p3|exact p11|exact gx|exact ee) (by decide+kernel)
end BJ
end
section
namespace BJ
abbrev pp:Nat:=57896044618658097711785492504343953926634992332820282019728792003956564819949
abbrev F:=Fin pp
instance:NeZero pp:=⟨by decide⟩
theorem X6:aA pp:=bT
theorem F.mul_eq_zero {a b:F} (h:a*b=0):a=0∨b=0:=by
 have h1:(a.val*b.val)%pp=0:=by
  have:=congrArg Fin.val h
  rwa [Fin.val_mul] at this
 rcases X6.dvd_mul (Nat.dvd_of_mod_eq_zero h1) with h2|h2
 ·exact .inl (Fin.ext (Nat.eq_zero_of_dvd_of_lt h2 a.isLt))
 ·exact .inr (Fin.ext (Nat.eq_zero_of_dvd_of_lt h2 b.isLt))
theorem F.mz (a:F):a*0=0:=by grobner
theorem F.az:(0:F)+0=0:=by grobner
theorem F.eL {a b:F} (ha:a≠0) (hb:b≠0):a*b≠0:=fun h=>
 (F.mul_eq_zero h).elim ha hb
theorem F.cancel {a b c:F} (hc:c≠0) (h:a*c=b*c):a=b:=by
 have:(a-b)*c=0:=by grobner
 rcases F.mul_eq_zero this with h1|h1
 ·grobner
 ·exact absurd h1 hc
def F.pow (a:F) (n:Nat):F:=⟨a.val ^ n%pp,Nat.mod_lt _ (by decide)⟩
theorem F.pow_zero (a:F):F.pow a 0=1:=by
 apply Fin.ext;simp[F.pow]
theorem F.pow_succ (a:F) (n:Nat):F.pow a (n+1)=F.pow a n*a:=by
 apply Fin.ext
 simp only[F.pow,Fin.val_mul,Nat.pow_succ]
 rw[Nat.mul_mod,Nat.mod_eq_of_lt a.isLt]
def F.inv (a:F):F:=F.pow a (pp-2)
theorem F.MM {a:F} (h:a≠0):a.val%pp≠0:=by
 rw[Nat.mod_eq_of_lt a.isLt]
 intro e
 exact h (Fin.ext e)
theorem Fk:fq pp 2:=a7
theorem F.inv_mul {a:F} (h:a≠0):a*F.inv a=1:=by
 have hf:=Fk.qY (F.MM h)
 apply Fin.ext
 show (a.val*(a.val ^ (pp-2)%pp))%pp=1%pp
 rw[Nat.mul_mod,Nat.mod_mod,← Nat.mul_mod,Nat.mul_comm,← Nat.pow_succ]
 rw[show Nat.succ (pp-2)=pp-1 from by decide,hf]
 decide
def dd:F:=37095705934669439343138083508754565189542113879843219016388785533085940283555
def ii:F:=19681161376707505956807079304988542015446066515923890162744021073123829784752
theorem ae5:ii*ii= -1:=by decide+kernel
theorem akC:dd≠0:=by decide+kernel
theorem tI (s:F):s*s≠dd:=by
 intro h
 have hs:s≠0:=by
  rintro rfl
  exact akC (by rw[← h];decide+kernel)
 have hf:=Fk.qY (F.MM hs)
 have h1:(s.val*s.val)%pp=dd.val:=by
  have:=congrArg Fin.val h
  rwa [Fin.val_mul] at this
 have h2:dd.val ^ ((pp-1)/2)%pp=1:=by
  rw[← h1,← Nat.pow_mod,← Nat.pow_two,← Nat.pow_mul]
  rw[show 2*((pp-1)/2)=pp-1 from by decide]
  exact hf
 rw[← PE pp 255 _ _ (by decide+kernel)] at h2
 revert h2
 decide+kernel
theorem X7:(2:F)≠0:=by decide+kernel
def vN (x y:F):Prop:=y*y-x*x=1+dd*(x*x)*(y*y)
theorem vN.zero {x y:F} (h:vN x y):y*y-x*x-(1+dd*(x*x)*(y*y))=0:=by unfold vN at h;grobner
theorem ae6 {x1 y1 x2 y2 e:F} (h1:vN x1 y1) (h2:vN x2 y2) (he:e*e=1):dd*x1*x2*y1*y2≠e:=by
 intro hd
 unfold vN at h1 h2
 have e0:e≠0:=by rintro rfl;revert he;decide+kernel
 have CZ:x1≠0:=by rintro rfl;apply e0;rw[← hd];grobner
 have J8:y1≠0:=by rintro rfl;apply e0;rw[← hd];grobner
 have Oc:y2≠0:=by rintro rfl;apply e0;rw[← hd];grobner
 have hi:=ae5
 have k1:dd*((x1*y1*(y2+ii*x2))*(x1*y1*(y2+ii*x2)))=(y1+e*ii*x1)*(y1+e*ii*x1):=by grobner
 have k2:dd*((x1*y1*(y2-ii*x2))*(x1*y1*(y2-ii*x2)))=(y1-e*ii*x1)*(y1-e*ii*x1):=by grobner
 have sq: ∀ t u:F,dd*(t*t)=u*u→t=0:=by
  intro t u h
  refine Classical.byContradiction fun ht=>?_
  apply tI (u*F.inv t)
  have hv:=F.inv_mul ht
  have:u*F.inv t*(u*F.inv t)=(u*u)*(F.inv t*F.inv t):=by grobner
  rw[this,← h]
  have:dd*(t*t)*(F.inv t*F.inv t)=dd*((t*F.inv t)*(t*F.inv t)):=by grobner
  rw[this,hv];grobner
 have z1:=sq _ _ k1
 have z2:=sq _ _ k2
 have hxy:=F.eL CZ J8
 have w1:y2+ii*x2=0:=(F.mul_eq_zero z1).resolve_left hxy
 have w2:y2-ii*x2=0:=(F.mul_eq_zero z2).resolve_left hxy
 have:(2:F)*y2=0:=by grobner
 exact Oc ((F.mul_eq_zero this).resolve_left X7)
theorem gy {x1 y1 x2 y2:F} (h1:vN x1 y1) (h2:vN x2 y2):1+dd*x1*x2*y1*y2≠0:=by
 intro h
 exact ae6 h1 h2 (e:= -1) (by decide+kernel) (by grobner)
theorem fP {x1 y1 x2 y2:F} (h1:vN x1 y1) (h2:vN x2 y2):1-dd*x1*x2*y1*y2≠0:=by
 intro h
 exact ae6 h1 h2 (e:=1) (by decide+kernel) (by grobner)
structure Pt where
 x:F
 y:F
 on:vN x y
theorem Pt.ext' {p q:Pt} (hx:p.x=q.x) (hy:p.y=q.y):p=q:=by
 cases p;cases q;simp at hx hy;subst hx hy;rfl
def iX (x1 y1 x2 y2:F):F:=(x1*y2+y1*x2)*F.inv (1+dd*x1*x2*y1*y2)
def iY (x1 y1 x2 y2:F):F:=(y1*y2+x1*x2)*F.inv (1-dd*x1*x2*y1*y2)
theorem jU {x1 y1 x2 y2:F} (h1:vN x1 y1) (h2:vN x2 y2):iX x1 y1 x2 y2*(1+dd*x1*x2*y1*y2)=x1*y2+y1*x2:=by
 have:=F.inv_mul (gy h1 h2)
 unfold iX
 generalize F.inv (1+dd*x1*x2*y1*y2)=v at*
 grobner
theorem jV {x1 y1 x2 y2:F} (h1:vN x1 y1) (h2:vN x2 y2):iY x1 y1 x2 y2*(1-dd*x1*x2*y1*y2)=y1*y2+x1*x2:=by
 have:=F.inv_mul (fP h1 h2)
 unfold iY
 generalize F.inv (1-dd*x1*x2*y1*y2)=v at*
 grobner
theorem MN (d x1 y1 x2 y2:F):((y1*y2+x1*x2)*(y1*y2+x1*x2))*((1+d*x1*x2*y1*y2)*(1+d*x1*x2*y1*y2))-((x1*y2+y1*x2)*(x1*y2+y1*x2))*((1-d*x1*x2*y1*y2)*(1-d*x1*x2*y1*y2))-((1+d*x1*x2*y1*y2)*(1+d*x1*x2*y1*y2))*((1-d*x1*x2*y1*y2)*(1-d*x1*x2*y1*y2))-d*((x1*y2+y1*x2)*(x1*y2+y1*x2))*((y1*y2+x1*x2)*(y1*y2+x1*x2))=(y2*y2*y2*y2-4*x2*x2*y2*y2-2*x2*x2*y2*y2*d+2*x2*x2*y2*y2*y2*y2+x2*x2*x2*x2-2*x2*x2*x2*x2*y2*y2-2*x2*x2*x2*x2*y2*y2*y2*y2*d-x2*x2*x2*x2*y2*y2*y2*y2*d*d-y1*y1*x2*x2*y2*y2*y2*y2*d+y1*y1*x2*x2*x2*x2*y2*y2*d+y1*y1*x2*x2*x2*x2*y2*y2*y2*y2*d*d+x1*x1*x2*x2*y2*y2*y2*y2*d-x1*x1*x2*x2*x2*x2*y2*y2*d-x1*x1*x2*x2*x2*x2*y2*y2*y2*y2*d*d+x1*x1*y1*y1*x2*x2*x2*x2*y2*y2*y2*y2*d*d*d)*(y1*y1-x1*x1-(1+d*(x1*x1)*(y1*y1)))+(1+y2*y2-x2*x2+2*x2*x2*y2*y2+x2*x2*y2*y2*d-y1*y1*y2*y2+y1*y1*x2*x2-2*y1*y1*x2*x2*y2*y2-2*y1*y1*x2*x2*y2*y2*d+y1*y1*y1*y1*x2*x2*y2*y2*d+x1*x1*y2*y2-x1*x1*x2*x2+2*x1*x1*x2*x2*y2*y2+2*x1*x1*x2*x2*y2*y2*d+x1*x1*x1*x1*x2*x2*y2*y2*d)*(y2*y2-x2*x2-(1+d*(x2*x2)*(y2*y2))):=by grobner
theorem MO (d x1 y1 x2 y2 x3 y3:F):((x1*y2+y1*x2)*(1-d*x1*x2*y1*y2)*y3+(y1*y2+x1*x2)*(1+d*x1*x2*y1*y2)*x3)*((1+d*x2*x3*y2*y3)*(1-d*x2*x3*y2*y3)+d*x1*y1*(x2*y3+y2*x3)*(y2*y3+x2*x3))-(x1*(y2*y3+x2*x3)*(1+d*x2*x3*y2*y3)+y1*(x2*y3+y2*x3)*(1-d*x2*x3*y2*y3))*((1+d*x1*x2*y1*y2)*(1-d*x1*x2*y1*y2)+d*(x1*y2+y1*x2)*(y1*y2+x1*x2)*x3*y3)=(-y1*x2*y2*y2*y2*y2*x3*x3*y3*d-y1*x2*x2*y2*y2*y2*x3*d-y1*x2*x2*y2*y2*y2*x3*x3*x3*d-y1*x2*x2*x2*y2*y2*y3*d+y1*x2*x2*x2*y2*y2*y3*y3*y3*d+y1*x2*x2*x2*y2*y2*y2*y2*x3*x3*y3*d*d+y1*x2*x2*x2*x2*y2*x3*y3*y3*d+y1*x2*x2*x2*x2*y2*y2*y2*x3*y3*y3*d*d+x1*x2*y2*y2*y2*y2*x3*y3*y3*d-x1*x2*x2*y2*y2*y2*y3*d+x1*x2*x2*y2*y2*y2*y3*y3*y3*d-x1*x2*x2*x2*y2*y2*x3*d-x1*x2*x2*x2*y2*y2*x3*x3*x3*d-x1*x2*x2*x2*y2*y2*y2*y2*x3*y3*y3*d*d-x1*x2*x2*x2*x2*y2*x3*x3*y3*d-x1*x2*x2*x2*x2*y2*y2*y2*x3*x3*y3*d*d)*(y1*y1-x1*x1-(1+d*(x1*x1)*(y1*y1)))+(y1*y2*x3-y1*y2*x3*y3*y3+y1*y2*x3*x3*x3+y1*y2*x3*x3*x3*y3*y3*d+y1*x2*y3-y1*x2*y3*y3*y3+y1*x2*x3*x3*y3+y1*x2*x3*x3*y3*y3*y3*d-y1*x2*y2*y2*x3*x3*y3*d-y1*x2*x2*y2*x3*y3*y3*d-y1*y1*y1*y2*x3+y1*y1*y1*y2*x3*y3*y3-y1*y1*y1*y2*x3*x3*x3-y1*y1*y1*y2*x3*x3*x3*y3*y3*d-y1*y1*y1*x2*y3+y1*y1*y1*x2*y3*y3*y3-y1*y1*y1*x2*x3*x3*y3-y1*y1*y1*x2*x3*x3*y3*y3*y3*d+y1*y1*y1*x2*y2*y2*x3*x3*y3*d+y1*y1*y1*x2*x2*y2*x3*y3*y3*d+x1*y2*y3-x1*y2*y3*y3*y3+x1*y2*x3*x3*y3+x1*y2*x3*x3*y3*y3*y3*d+x1*x2*x3-x1*x2*x3*y3*y3+x1*x2*x3*x3*x3+x1*x2*x3*x3*x3*y3*y3*d+x1*x2*y2*y2*x3*y3*y3*d+x1*x2*x2*y2*x3*x3*y3*d-x1*y1*y1*y2*y3+x1*y1*y1*y2*y3*y3*y3-x1*y1*y1*y2*x3*x3*y3-x1*y1*y1*y2*x3*x3*y3*y3*y3*d-x1*y1*y1*x2*x3+x1*y1*y1*x2*x3*y3*y3-x1*y1*y1*x2*x3*x3*x3-x1*y1*y1*x2*x3*x3*x3*y3*y3*d-x1*y1*y1*x2*y2*y2*x3*y3*y3*d+x1*y1*y1*x2*y2*y2*x3*x3*x3*y3*y3*d*d-x1*y1*y1*x2*x2*y2*x3*x3*y3*d-x1*y1*y1*x2*x2*y2*x3*x3*y3*y3*y3*d*d+x1*x1*y1*y2*x3-x1*x1*y1*y2*x3*y3*y3+x1*x1*y1*y2*x3*x3*x3+x1*x1*y1*y2*x3*x3*x3*y3*y3*d+x1*x1*y1*x2*y3-x1*x1*y1*x2*y3*y3*y3+x1*x1*y1*x2*x3*x3*y3+x1*x1*y1*x2*x3*x3*y3*y3*y3*d-x1*x1*y1*x2*y2*y2*x3*x3*y3*d-x1*x1*y1*x2*y2*y2*x3*x3*y3*y3*y3*d*d-x1*x1*y1*x2*x2*y2*x3*y3*y3*d+x1*x1*y1*x2*x2*y2*x3*x3*x3*y3*y3*d*d+x1*x1*x1*y2*y3-x1*x1*x1*y2*y3*y3*y3+x1*x1*x1*y2*x3*x3*y3+x1*x1*x1*y2*x3*x3*y3*y3*y3*d+x1*x1*x1*x2*x3-x1*x1*x1*x2*x3*y3*y3+x1*x1*x1*x2*x3*x3*x3+x1*x1*x1*x2*x3*x3*x3*y3*y3*d+x1*x1*x1*x2*y2*y2*x3*y3*y3*d+x1*x1*x1*x2*x2*y2*x3*x3*y3*d)*(y2*y2-x2*x2-(1+d*(x2*x2)*(y2*y2)))+(-y1*y2*x3+y1*y2*y2*y2*x3-y1*x2*y3+y1*x2*y2*y2*y3-y1*x2*x2*y2*x3-y1*x2*x2*x2*y3+y1*y1*y1*y2*x3-y1*y1*y1*y2*y2*y2*x3+y1*y1*y1*x2*y3-y1*y1*y1*x2*y2*y2*y3+y1*y1*y1*x2*x2*y2*x3+y1*y1*y1*x2*x2*x2*y3-x1*y2*y3+x1*y2*y2*y2*y3-x1*x2*x3+x1*x2*y2*y2*x3-x1*x2*x2*y2*y3-x1*x2*x2*x2*x3+x1*y1*y1*y2*y3-x1*y1*y1*y2*y2*y2*y3+x1*y1*y1*x2*x3-x1*y1*y1*x2*y2*y2*x3-x1*y1*y1*x2*y2*y2*x3*d+x1*y1*y1*x2*x2*y2*y3+x1*y1*y1*x2*x2*y2*y3*d+x1*y1*y1*x2*x2*x2*x3-x1*x1*y1*y2*x3+x1*x1*y1*y2*y2*y2*x3-x1*x1*y1*x2*y3+x1*x1*y1*x2*y2*y2*y3+x1*x1*y1*x2*y2*y2*y3*d-x1*x1*y1*x2*x2*y2*x3-x1*x1*y1*x2*x2*y2*x3*d-x1*x1*y1*x2*x2*x2*y3-x1*x1*x1*y2*y3+x1*x1*x1*y2*y2*y2*y3-x1*x1*x1*x2*x3+x1*x1*x1*x2*y2*y2*x3-x1*x1*x1*x2*x2*y2*y3-x1*x1*x1*x2*x2*x2*x3)*(y3*y3-x3*x3-(1+d*(x3*x3)*(y3*y3))):=by grobner
theorem MP (d x1 y1 x2 y2 x3 y3:F):((y1*y2+x1*x2)*(1+d*x1*x2*y1*y2)*y3+(x1*y2+y1*x2)*(1-d*x1*x2*y1*y2)*x3)*((1+d*x2*x3*y2*y3)*(1-d*x2*x3*y2*y3)-d*x1*y1*(x2*y3+y2*x3)*(y2*y3+x2*x3))-(y1*(y2*y3+x2*x3)*(1+d*x2*x3*y2*y3)+x1*(x2*y3+y2*x3)*(1-d*x2*x3*y2*y3))*((1+d*x1*x2*y1*y2)*(1-d*x1*x2*y1*y2)-d*(x1*y2+y1*x2)*(y1*y2+x1*x2)*x3*y3)=(y1*x2*y2*y2*y2*y2*x3*y3*y3*d-y1*x2*x2*y2*y2*y2*y3*d+y1*x2*x2*y2*y2*y2*y3*y3*y3*d-y1*x2*x2*x2*y2*y2*x3*d-y1*x2*x2*x2*y2*y2*x3*x3*x3*d-y1*x2*x2*x2*y2*y2*y2*y2*x3*y3*y3*d*d-y1*x2*x2*x2*x2*y2*x3*x3*y3*d-y1*x2*x2*x2*x2*y2*y2*y2*x3*x3*y3*d*d-x1*x2*y2*y2*y2*y2*x3*x3*y3*d-x1*x2*x2*y2*y2*y2*x3*d-x1*x2*x2*y2*y2*y2*x3*x3*x3*d-x1*x2*x2*x2*y2*y2*y3*d+x1*x2*x2*x2*y2*y2*y3*y3*y3*d+x1*x2*x2*x2*y2*y2*y2*y2*x3*x3*y3*d*d+x1*x2*x2*x2*x2*y2*x3*y3*y3*d+x1*x2*x2*x2*x2*y2*y2*y2*x3*y3*y3*d*d)*(y1*y1-x1*x1-(1+d*(x1*x1)*(y1*y1)))+(y1*y2*y3-y1*y2*y3*y3*y3+y1*y2*x3*x3*y3+y1*y2*x3*x3*y3*y3*y3*d+y1*x2*x3-y1*x2*x3*y3*y3+y1*x2*x3*x3*x3+y1*x2*x3*x3*x3*y3*y3*d+y1*x2*y2*y2*x3*y3*y3*d+y1*x2*x2*y2*x3*x3*y3*d-y1*y1*y1*y2*y3+y1*y1*y1*y2*y3*y3*y3-y1*y1*y1*y2*x3*x3*y3-y1*y1*y1*y2*x3*x3*y3*y3*y3*d-y1*y1*y1*x2*x3+y1*y1*y1*x2*x3*y3*y3-y1*y1*y1*x2*x3*x3*x3-y1*y1*y1*x2*x3*x3*x3*y3*y3*d-y1*y1*y1*x2*y2*y2*x3*y3*y3*d-y1*y1*y1*x2*x2*y2*x3*x3*y3*d+x1*y2*x3-x1*y2*x3*y3*y3+x1*y2*x3*x3*x3+x1*y2*x3*x3*x3*y3*y3*d+x1*x2*y3-x1*x2*y3*y3*y3+x1*x2*x3*x3*y3+x1*x2*x3*x3*y3*y3*y3*d-x1*x2*y2*y2*x3*x3*y3*d-x1*x2*x2*y2*x3*y3*y3*d-x1*y1*y1*y2*x3+x1*y1*y1*y2*x3*y3*y3-x1*y1*y1*y2*x3*x3*x3-x1*y1*y1*y2*x3*x3*x3*y3*y3*d-x1*y1*y1*x2*y3+x1*y1*y1*x2*y3*y3*y3-x1*y1*y1*x2*x3*x3*y3-x1*y1*y1*x2*x3*x3*y3*y3*y3*d+x1*y1*y1*x2*y2*y2*x3*x3*y3*d+x1*y1*y1*x2*y2*y2*x3*x3*y3*y3*y3*d*d+x1*y1*y1*x2*x2*y2*x3*y3*y3*d-x1*y1*y1*x2*x2*y2*x3*x3*x3*y3*y3*d*d+x1*x1*y1*y2*y3-x1*x1*y1*y2*y3*y3*y3+x1*x1*y1*y2*x3*x3*y3+x1*x1*y1*y2*x3*x3*y3*y3*y3*d+x1*x1*y1*x2*x3-x1*x1*y1*x2*x3*y3*y3+x1*x1*y1*x2*x3*x3*x3+x1*x1*y1*x2*x3*x3*x3*y3*y3*d+x1*x1*y1*x2*y2*y2*x3*y3*y3*d-x1*x1*y1*x2*y2*y2*x3*x3*x3*y3*y3*d*d+x1*x1*y1*x2*x2*y2*x3*x3*y3*d+x1*x1*y1*x2*x2*y2*x3*x3*y3*y3*y3*d*d+x1*x1*x1*y2*x3-x1*x1*x1*y2*x3*y3*y3+x1*x1*x1*y2*x3*x3*x3+x1*x1*x1*y2*x3*x3*x3*y3*y3*d+x1*x1*x1*x2*y3-x1*x1*x1*x2*y3*y3*y3+x1*x1*x1*x2*x3*x3*y3+x1*x1*x1*x2*x3*x3*y3*y3*y3*d-x1*x1*x1*x2*y2*y2*x3*x3*y3*d-x1*x1*x1*x2*x2*y2*x3*y3*y3*d)*(y2*y2-x2*x2-(1+d*(x2*x2)*(y2*y2)))+(-y1*y2*y3+y1*y2*y2*y2*y3-y1*x2*x3+y1*x2*y2*y2*x3-y1*x2*x2*y2*y3-y1*x2*x2*x2*x3+y1*y1*y1*y2*y3-y1*y1*y1*y2*y2*y2*y3+y1*y1*y1*x2*x3-y1*y1*y1*x2*y2*y2*x3+y1*y1*y1*x2*x2*y2*y3+y1*y1*y1*x2*x2*x2*x3-x1*y2*x3+x1*y2*y2*y2*x3-x1*x2*y3+x1*x2*y2*y2*y3-x1*x2*x2*y2*x3-x1*x2*x2*x2*y3+x1*y1*y1*y2*x3-x1*y1*y1*y2*y2*y2*x3+x1*y1*y1*x2*y3-x1*y1*y1*x2*y2*y2*y3-x1*y1*y1*x2*y2*y2*y3*d+x1*y1*y1*x2*x2*y2*x3+x1*y1*y1*x2*x2*y2*x3*d+x1*y1*y1*x2*x2*x2*y3-x1*x1*y1*y2*y3+x1*x1*y1*y2*y2*y2*y3-x1*x1*y1*x2*x3+x1*x1*y1*x2*y2*y2*x3+x1*x1*y1*x2*y2*y2*x3*d-x1*x1*y1*x2*x2*y2*y3-x1*x1*y1*x2*x2*y2*y3*d-x1*x1*y1*x2*x2*x2*x3-x1*x1*x1*y2*x3+x1*x1*x1*y2*y2*y2*x3-x1*x1*x1*x2*y3+x1*x1*x1*x2*y2*y2*y3-x1*x1*x1*x2*x2*y2*x3-x1*x1*x1*x2*x2*x2*y3)*(y3*y3-x3*x3-(1+d*(x3*x3)*(y3*y3))):=by grobner
theorem MQ {x1 y1 x2 y2:F} (h1:vN x1 y1) (h2:vN x2 y2):vN (iX x1 y1 x2 y2) (iY x1 y1 x2 y2):=by
 have a:=jU h1 h2
 have b:=jV h1 h2
 have p:=gy h1 h2
 have q:=fP h1 h2
 have c:=MN dd x1 y1 x2 y2
 have z1:=h1.zero
 have z2:=h2.zero
 rw[z1,z2,F.mz,F.mz,F.az] at c
 unfold vN
 generalize iX x1 y1 x2 y2=X at*
 generalize iY x1 y1 x2 y2=Y at*
 rw[← a,← b] at c
 generalize 1+dd*x1*x2*y1*y2=D at*
 generalize 1-dd*x1*x2*y1*y2=E at*
 clear a b z1 z2 h1 h2
 have k:(Y*Y-X*X-(1+dd*(X*X)*(Y*Y)))*((D*D)*(E*E))=0:=by grobner
 rcases F.mul_eq_zero k with k|k
 ·grobner
 ·exact absurd k (F.eL (F.eL p p) (F.eL q q))
def Pt.add (p q:Pt):Pt:=⟨iX p.x p.y q.x q.y,iY p.x p.y q.x q.y,MQ p.on q.on⟩
def Pt.zero:Pt:=⟨0,1,by unfold vN;grobner⟩
def Pt.neg (p:Pt):Pt:=⟨-p.x,p.y,by have:=p.on;unfold vN at*;grobner⟩
theorem Pt.add_comm (p q:Pt):p.add q=q.add p:=by
 apply Pt.ext'
 ·show iX _ _ _ _=iX _ _ _ _
  unfold iX
  rw[show p.x*q.y+p.y*q.x=q.x*p.y+q.y*p.x from by grobner,show 1+dd*p.x*q.x*p.y*q.y=1+dd*q.x*p.x*q.y*p.y from by grobner]
 ·show iY _ _ _ _=iY _ _ _ _
  unfold iY
  rw[show p.y*q.y+p.x*q.x=q.y*p.y+q.x*p.x from by grobner,show 1-dd*p.x*q.x*p.y*q.y=1-dd*q.x*p.x*q.y*p.y from by grobner]
theorem Pt.add_zero (p:Pt):p.add Pt.zero=p:=by
 have h1:=jU p.on Pt.zero.on
 have h2:=jV p.on Pt.zero.on
 apply Pt.ext'
 ·show iX p.x p.y 0 1=p.x
  have e:iX p.x p.y 0 1*(1+dd*p.x*0*p.y*1)=p.x*1+p.y*0:=h1
  grobner
 ·show iY p.x p.y 0 1=p.y
  have e:iY p.x p.y 0 1*(1-dd*p.x*0*p.y*1)=p.y*1+p.x*0:=h2
  grobner
theorem Pt.add_assoc (p q r:Pt):(p.add q).add r=p.add (q.add r):=by
 obtain ⟨x1,y1,o1⟩:=p
 obtain ⟨x2,y2,o2⟩:=q
 obtain ⟨x3,y3,o3⟩:=r
 have a12:=jU o1 o2
 have b12:=jV o1 o2
 have a23:=jU o2 o3
 have b23:=jV o2 o3
 have p12:=gy o1 o2
 have q12:=fP o1 o2
 have p23:=gy o2 o3
 have q23:=fP o2 o3
 have n12:=MQ o1 o2
 have n23:=MQ o2 o3
 have aL:=jU n12 o3
 have bL:=jV n12 o3
 have aR:=jU o1 n23
 have bR:=jV o1 n23
 have pL:=gy n12 o3
 have qL:=fP n12 o3
 have pR:=gy o1 n23
 have qR:=fP o1 n23
 have ix:=MO dd x1 y1 x2 y2 x3 y3
 have iy:=MP dd x1 y1 x2 y2 x3 y3
 have z1:=o1.zero
 have z2:=o2.zero
 have z3:=o3.zero
 rw[z1,z2,z3,F.mz,F.mz,F.mz,F.az,F.az] at ix iy
 apply Pt.ext'
 ·show iX (iX x1 y1 x2 y2) (iY x1 y1 x2 y2) x3 y3=iX x1 y1 (iX x2 y2 x3 y3) (iY x2 y2 x3 y3)
  clear z1 z2 z3 o1 o2 o3 n12 n23 bL bR iy qL qR
  generalize iX (iX x1 y1 x2 y2) (iY x1 y1 x2 y2) x3 y3=XL at*
  generalize iX x1 y1 (iX x2 y2 x3 y3) (iY x2 y2 x3 y3)=XR at*
  generalize iX x1 y1 x2 y2=u at*
  generalize iY x1 y1 x2 y2=v at*
  generalize iX x2 y2 x3 y3=s at*
  generalize iY x2 y2 x3 y3=t at*
  generalize 1+dd*x1*x2*y1*y2=D at*
  generalize 1-dd*x1*x2*y1*y2=E at*
  generalize 1+dd*x2*x3*y2*y3=G at*
  generalize 1-dd*x2*x3*y2*y3=H at*
  rw[← a12,← b12,← a23,← b23] at ix
  clear a12 b12 a23 b23
  generalize hA:1+dd*u*x3*v*y3=A at*
  generalize hB:1+dd*x1*s*y1*t=B at*
  have k1:XL*(D*E*A)=(u*y3+v*x3)*(D*E):=by grobner
  have k2:XR*(G*H*B)=(x1*t+y1*s)*(G*H):=by grobner
  have k3:(u*y3+v*x3)*(D*E)*(G*H*B)=(x1*t+y1*s)*(G*H)*(D*E*A):=by grobner
  apply F.cancel (F.eL (F.eL (F.eL p12 q12) pL) (F.eL (F.eL p23 q23) pR))
  grobner
 ·show iY (iX x1 y1 x2 y2) (iY x1 y1 x2 y2) x3 y3=iY x1 y1 (iX x2 y2 x3 y3) (iY x2 y2 x3 y3)
  clear z1 z2 z3 o1 o2 o3 n12 n23 aL aR ix pL pR
  generalize iY (iX x1 y1 x2 y2) (iY x1 y1 x2 y2) x3 y3=XL at*
  generalize iY x1 y1 (iX x2 y2 x3 y3) (iY x2 y2 x3 y3)=XR at*
  generalize iX x1 y1 x2 y2=u at*
  generalize iY x1 y1 x2 y2=v at*
  generalize iX x2 y2 x3 y3=s at*
  generalize iY x2 y2 x3 y3=t at*
  generalize 1+dd*x1*x2*y1*y2=D at*
  generalize 1-dd*x1*x2*y1*y2=E at*
  generalize 1+dd*x2*x3*y2*y3=G at*
  generalize 1-dd*x2*x3*y2*y3=H at*
  rw[← a12,← b12,← a23,← b23] at iy
  clear a12 b12 a23 b23
  generalize hA:1-dd*u*x3*v*y3=A at*
  generalize hB:1-dd*x1*s*y1*t=B at*
  have k1:XL*(D*E*A)=(v*y3+u*x3)*(D*E):=by grobner
  have k2:XR*(G*H*B)=(y1*t+x1*s)*(G*H):=by grobner
  have k3:(v*y3+u*x3)*(D*E)*(G*H*B)=(y1*t+x1*s)*(G*H)*(D*E*A):=by grobner
  apply F.cancel (F.eL (F.eL (F.eL p12 q12) qL) (F.eL (F.eL p23 q23) qR))
  grobner
end BJ
end
