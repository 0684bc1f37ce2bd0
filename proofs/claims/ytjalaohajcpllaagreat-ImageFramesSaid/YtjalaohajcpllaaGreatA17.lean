/- What the laws lean on, part 17: a reader of code, plain facts, and what each function gives; no conditions. -/
import Derived.Test.YtjalaohajcpllaaGreatA16
section
set_option linter.unusedVariables false
set_option linter.unusedSimpArgs false
namespace Go.Proofs.YtjalaohajcpllaaGreat
open Go Go.Ev BJ
set_option maxRecDepth 1000000
abbrev biA:a9 (List LV) (List Int×Int×Unit):=ae cB (ae (ah (ay .i64)) ag)
def eBi (g:List Int→Int→Int):au:=au.bV [] biA ag fun x _=> .leaf (some (x.1.length=32∧0≤x.2.1∧x.2.1<256)) (nI (g x.1 x.2.1)) []
noncomputable def qk (a:List Int) (i:Int):Int:=p9 (As a) i.toNat
noncomputable def amO:au:=au.bV [] (biA) (ag) fun x_ y_=>(fun (a:List Int) (i:Int)=> .leaf (some (a.length=32∧0≤i∧i<256)) (nI (qk a i)) []) x_.1 x_.2.1
theorem YF (a:List Int) (i:Int):aY Tryz.prog [] [] Tryz.f128 ((biA).wr (a,i,())) ((ag).wr ()) [.fr [.sym],.auto]=
 End.ite (decide (i<(0:Int))==false) (End.ite (decide ((256:Int)≤i)) (End.leaf (LV.one (VV.sc (SV.int IntKind.i64 (SI.sym (0:Int))))) [])
 (End.need ((0:Int)≤IntKind.i64.wrap (i.tdiv (8:Int))∧IntKind.i64.wrap (i.tdiv (8:Int))<(32:Int)) (End.need ((0:Int)≤i.tmod (8:Int))
 (End.leaf (LV.one (VV.sc (SV.int IntKind.i64 (SI.sym (IntKind.i64.wrap (bg IntKind.u8 (shr IntKind.u8 ((List.take (32:Nat) (List.drop (0:Nat)
 a)).getD (IntKind.i64.wrap (i.tdiv (8:Int))).toNat (0:Int)) (i.tmod (8:Int))) (1:Int))))))) [])))) (End.leaf (LV.one (VV.sc (SV.int IntKind.i64
 (SI.sym (0:Int))))) []):=by kernel_rfl
theorem akM:amO.Ok Tryz.prog 128:=by
 refine (au.bE Tryz.call128 fun x_ y_ Q H_=>?_).sym
 obtain ⟨a,i,_⟩:=x_
 obtain ⟨hn,hq⟩:=H_
 have hn:a.length=32∧0≤i∧i<256:=hn
 refine (aG mixed aD Tryz.func128 rfl (LT:= []) (ks:= [.fr [.sym],.auto]) (aP.nil _)).use (D:= []) ?_ hq
 show (aY _ _ _ _ ((biA).wr (a,i,())) ((ag).wr ()) _).sat _
 rw[YF]
 obtain ⟨ha,h0,h1⟩:=hn
 obtain ⟨k,rfl⟩:=Int.eq_ofNat_of_zero_le h0
 have hk:k<256:=by omega
 have e1:IntKind.i64.wrap ((k:Int).tdiv 8)=((k/8:Nat):Int):=ko k 8 (by omega)
 have e2:(k:Int).tmod 8=((k%8:Nat):Int):=C1 k 8
 have e:qk a (k:Int)=IntKind.i64.wrap (bg .u8 (shr .u8 (a.getD (k/8) 0) ((k%8:Nat):Int)) 1):=by
  unfold qk p9
  rw[Int.toNat_natCast,U1 a (show k/8<32 by omega)]
 rw[e1,e2,cn ha,Int.toNat_natCast,e]
 refine ⟨fun _=>⟨fun h=>?_,fun _=>⟨by omega,by omega,rfl,rfl⟩⟩,fun h=>?_⟩
 ·have:=of_decide_eq_true h;omega
 ·exfalso;revert h;simp
noncomputable abbrev RZ:Func:=Tryz.f89
abbrev muC:a9 (List LV) (Int×Unit):=(jk 2 (ak (ah (aJ 0 0)) (ak (ah (aJ 1 0)) (ak (ah (aJ 2 0)) (ak (ah (aJ 3 0)) (ae (ah (ay .i64)) (jk 15 ag)))))))
abbrev ate:Wk:= .fr (cK 22 [(2,.an),(3,.an),(4,.an),(5,.an),(6,.sym)])
abbrev muX:a9 (List LV) (Unit):=(jk 4 (ak (ah (aJ 0 0)) (ak (ah (aJ 1 0)) (jk 16 ag))))
abbrev iPt:a9 (Option Ev.Item) Pt:=dN 98 (ae Td (Rg .u64 (Rg .u64 (Rg .u64 (kY .u64 5) 5) 5) 5))
abbrev muH:a9 Hp (List Int×Pt×Pt×Pt×Unit):=ae (rM 22 .u8 32) (ae iPt (ae iPt (ae iPt ag)))
abbrev akN:a9 Hp (Pt×Pt×Unit):=ae iPt (ae iPt ag)
abbrev akO (i:Nat):Wk:= .a8 i (List.replicate 21 .sym)
def muW:Exit→List Wk
 | .normal=> [ate,akO 2,akO 3,.auto]
 | .exit 0=> [.fr (cK 22 [(4,.an),(5,.an)]),.auto]
 |_=> []
theorem ape (bit:List Int→Int→Int) (dbl:Pt→Pt) (add:Pt→Pt→Pt) (n:List Int) (p r o:Pt) (i:Int):c8 Tryz.prog [(128,eBi bit),(127,Yv dbl),(129,e2Q add)] [] RZ 0 [] muW ((bH muC muH).wr ((i,()),(n,p,r,o,())))=
 a6.ite (decide ((0:Int)≤i)) (a6.need (n.length=(32:Nat)∧(0:Int)≤i∧i<(256:Int)) (a6.ite (bit n i==(1:Int)) (a6.leaf
 Exit.normal ((bH muC muH).wr ((IntKind.i64.wrap (i-(1:Int)),PUnit.unit),n,p,r,add (dbl o) p,PUnit.unit))) (a6.leaf Exit.normal ((bH muC
 muH).wr ((IntKind.i64.wrap (i-(1:Int)),PUnit.unit),n,p,r,dbl o,PUnit.unit))))) (a6.leaf (Exit.exit (0:Nat)) ((bH muX akN).wr
 (PUnit.unit,r,o,PUnit.unit))):=by kernel_rfl
noncomputable abbrev atg:List (FuncId×au):= [(128,eBi qk),(127,Yv dm),(129,e2Q eD)]
theorem akP:amO=eBi qk:=by kernel_rfl
theorem Mo:(eBi qk).Ok Tryz.prog 128:=akP▸akM
theorem agu: ∀ p∈atg,p.2.Ok Tryz.prog p.1:=ao Mo (ao C8 (ao IE aD))
def DU (bit:List Int→Int→Int) (dbl:Pt→Pt) (add:Pt→Pt→Pt) (n:List Int) (p:Pt) (k:Nat) (r:Pt):Pt:=bif bit n (255-(k:Int))==1 then add (dbl r) p else dbl r
theorem akQ (x:(Int×Unit)×List Int×Pt×Pt×Pt×Unit):Ex Tryz.prog [] (.loop (aU RZ 0)) ((bH muC muH).wr x) (.need (x.1.1=255∧x.2.1.length=32) (.leaf (.exit 0) ((bH muX akN).wr ((),(x.2.2.2.1,je (DU qk dm eD x.2.1 x.2.2.1) 256 x.2.2.2.2.1,()))))):=by
 obtain ⟨⟨i,_⟩,n,p,r,o,_⟩:=x
 refine Ex.need fun ⟨h1,h2⟩=>?_
 simp only at h1 h2
 subst h1
 have key:=hZ (fn:=RZ) (id:=0) (j:=0) (ws:=muW) (hp:= []) mixed agu (aP.nil _) 256 (fun k o=>(bH muC muH).wr ((255-(k:Int),()),(n,p,r,o,()))) (fun o=>(bH muX akN).wr ((),(r,o,()))) (DU qk dm eD n p) (fun _ _=>True)
  (fun k o R hk _ hn hx=>?_) (fun _ _ _ _=>trivial) 0 o (by omega) trivial
 ·rw[Nat.sub_zero,yg] at key;exact key
 rw[ape]
 refine ⟨fun hb=>?_,fun hb=>?_⟩
 ·have oq:k<256:=by have:=of_decide_eq_true hb;omega
  have AN:=hn oq
  have e3:IntKind.i64.wrap ((255-(k:Int))-1)=255-((k+1:Nat):Int):=by rw[aq (by omega) (by omega)];omega
  rw[e3]
  refine ⟨⟨h2,by omega,by omega⟩,fun hc=>?_,fun hc=>?_⟩
  ·have:DU qk dm eD n p k o=eD (dm o) p:=by unfold DU;rw[hc];rfl
   rw[this] at AN;exact AN
  ·have:DU qk dm eD n p k o=dm o:=by unfold DU;rw[hc];rfl
   rw[this] at AN;exact AN
 ·have:k=256:=by have:=of_decide_eq_false hb;omega
  exact hx this
abbrev mpA:a9 (List LV) (List Int×Pt×Unit):=ae cB (ae C5 ag)
def eMu (g:List Int→Pt→Pt):au:=au.bV [] mpA ag fun x _=> .leaf (some (x.1.length=32)) (C5.wr (g x.1 x.2.1)) []
def apf (w:List Int→Pt→Pt→Pt) (x:(Int×Unit)×List Int×Pt×Pt×Pt×Unit):a6:= .need (x.1.1=255∧x.2.1.length=32) (.leaf (.exit 0) ((bH muX akN).wr ((),(x.2.2.2.1,w x.2.1 x.2.2.1 x.2.2.2.2.1,()))))
abbrev apg (w:List Int→Pt→Pt→Pt):eW:= [(0,fw (bH muC muH) 0 [ate,.auto,akO 2,akO 3] (apf w))]
theorem R5 (z:Pt) (w:List Int→Pt→Pt→Pt) (bit:List Int→Int→Int) (dbl:Pt→Pt) (add:Pt→Pt→Pt) (n:List Int) (p:Pt):aY Tryz.prog [(128,eBi bit),(127,Yv dbl),(129,e2Q add),(126,e0Q z)] (apg w) RZ (mpA.wr (n,p,())) [] kK=
  .need ((255:Int)=255∧n.length=32) (.leaf (C5.wr (w n p z)) []):=by kernel_rfl
theorem Mp: ∃ f:List Int→Pt→Pt,∀ n p,f n p=CV (As n) p:=⟨fun n p=>CV (As n) p,fun _ _=>rfl⟩
noncomputable def y7:List Int→Pt→Pt:=Classical.choose Mp
theorem Mq (n:List Int) (p:Pt):y7 n p=CV (As n) p:=Classical.choose_spec Mp n p
noncomputable def Da (n:List Int) (p z:Pt):Pt:=je (DU qk dm eD n p) 256 z
noncomputable abbrev aph:au:=eMu y7
theorem akR (n:List Int) (p:Pt) (k:Nat) (hk:k<256) (r:Pt):DU qk dm eD n p k r=iD p9 dm eD (As n) p k r:=by
 unfold DU iD qk
 rw[wF,show (255-(k:Int)).toNat=255-k from by omega]
theorem Db {α:Type} {f g:Nat→α→α} {n:Nat} (h: ∀ k,k<n→ ∀ r,f k r=g k r) (a:α): ∀ m,m≤n→je f m a=je g m a
 |0,_=>rfl
 |m+1,hm=>by
  show f m (je f m a)=g m (je g m a)
  rw[Db h a m (by omega),h m (by omega)]
theorem akS (n:List Int) (p:Pt):Da n p iL=y7 n p:=by
 rw[Mq]
 unfold Da CV afo
 exact Db (fun k hk r=>akR n p k hk r) iL 256 (Nat.le_refl _)
theorem akT: ∀ p∈([(128,eBi qk),(127,Yv dm),(129,e2Q eD),(126,e0Q iL)]:List (FuncId×au)),p.2.Ok Tryz.prog p.1:=ao Mo (ao C8 (ao IE (ao Mj aD)))
theorem agv {n:List Int} {V W:Pt} (hn:n.length=32) (h:V=W):(Ev.End.need ((255:Int)=255∧n.length=32) (.leaf (C5.wr V) [])).sat fun v ft=>v=C5.wr W∧ft= []:=by
 subst h;exact ⟨⟨rfl,hn⟩,rfl,rfl⟩
theorem YG (n:List Int) (p z:Pt):Da n p z=je (DU qk dm eD n p) 256 z:=rfl
theorem agw (x:(Int×Unit)×List Int×Pt×Pt×Pt×Unit):Ex Tryz.prog [] (.loop (aU RZ 0)) ((bH muC muH).wr x) (apf Da x):=by
 unfold apf
 rw[YG]
 exact akQ x
theorem api:aP Tryz.prog [] (apg Da) (aH RZ):=aP.cy (jr rfl (c5 (hp:= []) agw) jH)
theorem agx:aph.Ok Tryz.prog 89:=by
 refine (au.bE Tryz.call89 fun x_ y_ Q H_=>?_).sym
 obtain ⟨n,p,_⟩:=x_
 obtain ⟨hn,hq⟩:=H_
 have hn:n.length=32:=hn
 have hc:nq Tryz.prog 89 (mpA.wr (n,p,())) [] (aY Tryz.prog [(128,eBi qk),(127,Yv dm),(129,e2Q eD),(126,e0Q iL)] (apg Da) RZ (mpA.wr (n,p,())) [] kK):=
  aG mixed akT Tryz.func89 rfl api
 rw[R5 iL Da qk dm eD] at hc
 exact hc.use (D:= []) (agv hn (akS n p)) hq
def eMb (g:List Int→Pt):au:=au.bV [] yq ag fun x _=> .leaf (some (x.1.length=32)) (C5.wr (g x.1)) []
noncomputable def iE (n:List Int):Pt:=y7 n qe
noncomputable abbrev apj:au:=eMb iE
theorem R6 (mu:List Int→Pt→Pt) (b:Pt) (n:List Int):aY Tryz.prog [(89,eMu mu),(90,e0Q b)] [] Tryz.f52 ((yq).wr (n,())) [] kK= .need (n.length=32) (.leaf (C5.wr (mu n b)) []):=by kernel_rfl
theorem R7: ∀ p_∈([(89,eMu y7),(90,e0Q qe)]:List (FuncId×au)),p_.2.Ok Tryz.prog p_.1:=(ao agx (ao agr aD))
theorem Mr:apj.Ok Tryz.prog 52:=by
 refine (au.bE Tryz.call52 fun x_ y_ Q H_=>?_).sym
 obtain ⟨n,_⟩:=x_
 obtain ⟨hn,hq⟩:=H_
 have hn:n.length=32:=hn
 refine (aG (tab:= [(89,eMu y7),(90,e0Q qe)]) mixed R7 Tryz.func52 rfl (LT:= []) (ks:=kK) (aP.nil _)).use (D:= []) ?_ hq
 show (aY _ _ _ _ ((yq).wr (n,())) [] _).sat _
 rw[R6 y7 qe]
 exact ⟨hn,rfl,rfl⟩
end Go.Proofs.YtjalaohajcpllaaGreat
end
section
set_option linter.unusedVariables false
set_option linter.unusedSimpArgs false
namespace Go.Proofs.YtjalaohajcpllaaGreat
open Go Go.Ev BJ
set_option maxRecDepth 1000000
end Go.Proofs.YtjalaohajcpllaaGreat
end
section
set_option linter.unusedVariables false
set_option linter.unusedSimpArgs false
namespace Go.Ev
open Go
def vd (B:Int):List Int→Int
 | []=>0
 |x::l=>x+B*vd B l
def dg (B:Int):Nat→Int→List Int
 |0,_=> []
 |n+1,x=>x%B::dg B n (x/B)
def fI (B:Int) (l:List Int):Prop:= ∀ z∈l,0≤z∧z<B
section
variable {B:Int}
theorem fI.tail {x:Int} {l:List Int} (h:fI B (x::l)):fI B l:=fun z hz=>h z (List.mem_cons_of_mem _ hz)
theorem fI.head {x:Int} {l:List Int} (h:fI B (x::l)):0≤x∧x<B:=h x (by simp)
theorem fI.take {l:List Int} (h:fI B l) (n:Nat):fI B (l.take n):=fun z hz=>h z (List.mem_of_mem_take hz)
theorem fI.drop {l:List Int} (h:fI B l) (n:Nat):fI B (l.drop n):=fun z hz=>h z (List.mem_of_mem_drop hz)
theorem fI.append {l m:List Int} (h:fI B l) (h':fI B m):fI B (l++m):=fun z hz=>by
 rcases List.mem_append.1 hz with k|k
 ·exact h z k
 ·exact h' z k
theorem fI.set {l:List Int} (h:fI B l) {i:Nat} {x:Int} (hx:0≤x∧x<B):fI B (l.set i x):=fun z hz=>by
 rcases List.mem_or_eq_of_mem_set hz with k|k
 ·exact h z k
 ·subst k;exact hx
theorem fI.Uy (hB:0<B) (n:Nat):fI B (List.replicate n 0):=fun z hz=>by
 rw[List.eq_of_mem_replicate hz];omega
theorem fI.getD {l:List Int} (hB:0<B) (h:fI B l) (i:Nat):0≤l.getD i 0∧l.getD i 0<B:=by
 rw[List.getD_eq_getElem?_getD]
 rcases Nat.lt_or_ge i l.length with h1|h1
 ·rw[List.getElem?_eq_getElem h1];exact h _ (List.getElem_mem h1)
 ·rw[List.getElem?_eq_none h1];exact ⟨by simp,by simpa using hB⟩
theorem cP: ∀ (n:Nat) (x:Int),(dg B n x).length=n
 |0,_=>rfl
 |n+1,x=>by simp[dg,cP n]
theorem oC (hB:0<B): ∀ (n:Nat) (x:Int),fI B (dg B n x)
 |0,_=>fun z hz=>by cases hz
 |n+1,x=>fun z hz=>by
  rcases List.mem_cons.1 hz with rfl|hz
  ·exact ⟨Int.emod_nonneg _ (by omega),Int.emod_lt_of_pos _ hB⟩
  ·exact oC hB n _ z hz
theorem agy (hB:0<B) (n:Nat):0<B ^ n:=Int.pow_pos hB
theorem fJ (hB:0<B): ∀ {l:List Int},fI B l→0≤vd B l
 | [],_=>by simp[vd]
 |x::l,h=>by
  have h1:=fJ hB h.tail
  have h2:=h.head
  have:=Int.mul_nonneg (Int.le_of_lt hB) h1
  simp only[vd];omega
theorem rZ (hB:0<B): ∀ {l:List Int},fI B l→vd B l<B ^ l.length
 | [],_=>by simp[vd]
 |x::l,h=>by
  have h1:=rZ hB h.tail
  have h2:=h.head
  simp only[vd,List.length_cons]
  have h3:B*(vd B l+1)≤B*B ^ l.length:=Int.mul_le_mul_of_nonneg_left (by omega) (by omega)
  rw[Int.mul_add,Int.mul_one] at h3
  rw[Int.pow_succ,Int.mul_comm (B ^ l.length)]
  omega
theorem E3 (hB:0<B) {x y:Int} (h:0≤x∧x<B):(x+B*y)/B=y∧(x+B*y)%B=x:=by
 rw[Int.add_mul_ediv_left _ _ (by omega),Int.add_mul_emod_self_left,Int.ediv_eq_zero_of_lt h.1 h.2,Int.emod_eq_of_lt h.1 h.2]
 exact ⟨by omega,rfl⟩
theorem Ms (hB:0<B): ∀ {l:List Int},fI B l→dg B l.length (vd B l)=l
 | [],_=>rfl
 |x::l,h=>by
  obtain ⟨h1,h2⟩:=E3 hB (y:=vd B l) h.head
  show (x+B*vd B l)%B::dg B l.length ((x+B*vd B l)/B)=x::l
  rw[h1,h2,Ms hB h.tail]
theorem Dd (hB:0<B) {P:Int} (hP:0<P) (x:Int):x%B+B*(x/B%P)=x%(B*P):=by
 have h1:=Int.emod_nonneg x (show B≠0 by omega)
 have h2:=Int.emod_lt_of_pos x hB
 have h3:=Int.emod_nonneg (x/B) (show P≠0 by omega)
 have h4:=Int.emod_lt_of_pos (x/B) hP
 have e1:=Int.emod_add_mul_ediv x B
 have e2:=Int.emod_add_mul_ediv (x/B) P
 have e:x=x%B+B*(x/B%P)+(B*P)*(x/B/P):=by
  rw[Int.mul_assoc,Int.add_assoc,← Int.mul_add,e2,e1]
 have fq:x%B+B*(x/B%P)<B*P:=by
  have:=Int.mul_le_mul_of_nonneg_left (show x/B%P+1≤P by omega) (show 0≤B by omega)
  rw[Int.mul_add,Int.mul_one] at this
  omega
 have hnn:0≤x%B+B*(x/B%P):=by
  have:=Int.mul_nonneg (show 0≤B by omega) h3
  omega
 have key:x%(B*P)=(x%B+B*(x/B%P))%(B*P):=by
  conv=>lhs;rw[e]
  rw[Int.add_mul_emod_self_left]
 rw[key,Int.emod_eq_of_lt hnn fq]
theorem na (hB:0<B): ∀ (n:Nat) (x:Int),vd B (dg B n x)=x%B ^ n
 |0,x=>by simp[dg,vd,Int.emod_one]
 |n+1,x=>by
  show x%B+B*vd B (dg B n (x/B))=_
  rw[na hB n,Dd hB (agy hB n),Int.pow_succ,Int.mul_comm (B ^ n)]
theorem apk (hB:0<B) {l m:List Int} (hl:fI B l) (hm:fI B m) (hn:l.length=m.length) (h:vd B l=vd B m):l=m:=by
 rw[← Ms hB hl,← Ms hB hm,hn,h]
theorem Mt (hB:0<B) {l:List Int} {n:Nat} {x:Int} (hl:fI B l) (hn:l.length=n) (h:vd B l=x%B ^ n):l=dg B n x:=
 apk hB hl (oC hB n x) (by rw[cP,hn]) (by rw[na hB,h])
theorem apl (hB:0<B) {l:List Int} {n:Nat} {x:Int} (hl:fI B l) (hn:l.length=n) (h:vd B l=x):l=dg B n x:=by
 subst h hn;exact (Ms hB hl).symm
theorem wU (hB:0<B): ∀ {n:Nat} {x:Int} {k:Nat},k<n→(dg B n x).getD k 0=x/B ^ k%B
 |0,_,k,h=>absurd h (by omega)
 |n+1,x,0,_=>by simp[dg]
 |n+1,x,k+1,h=>by
  show (x%B::dg B n (x/B)).getD (k+1) 0=_
  rw[List.getD_cons_succ,wU hB (by omega:k<n),Int.ediv_ediv_of_nonneg (by omega),Int.pow_succ,Int.mul_comm (B ^ k)]
theorem akU (hB:0<B) {l:List Int} (h:fI B l) {k:Nat} (hk:k<l.length):l.getD k 0=vd B l/B ^ k%B:=by
 conv=>lhs;rw[← Ms hB h]
 exact wU hB hk
theorem E5: ∀ (l m:List Int),vd B (l++m)=vd B l+B ^ l.length*vd B m
 | [],m=>by simp[vd]
 |x::l,m=>by
  show x+B*vd B (l++m)=x+B*vd B l+B ^ (l.length+1)*vd B m
  rw[E5 l m,Int.mul_add,Int.pow_succ,Int.mul_assoc,Int.mul_left_comm B,Int.add_assoc]
theorem De: ∀ {l:List Int} {k:Nat} {x:Int},k<l.length→vd B (l.set k x)=vd B l+(x-l.getD k 0)*B ^ k
 | [],k,_,h=>absurd h (by simp)
 |y::l,0,x,_=>by
  simp only[List.set_cons_zero,vd,List.getD_cons_zero,Int.pow_zero];omega
 |y::l,k+1,x,h=>by
  simp only[List.set_cons_succ,vd,List.getD_cons_succ]
  rw[De (by simpa using h),Int.mul_add,Int.pow_succ,Int.mul_comm B ((x-l.getD k 0)*B ^ k),Int.mul_assoc,Int.add_assoc]
theorem Df (n:Nat):vd B (List.replicate n 0)=0:=by
 induction n with
 |zero=>rfl
 |succ n ih=>rw[List.replicate_succ];simp[vd,ih]
theorem dW {l:List Int} {k:Nat} (hk:k<l.length):vd B (l.take (k+1))=vd B (l.take k)+l.getD k 0*B ^ k:=by
 rw[List.take_add_one,List.getElem?_eq_getElem hk,E5,List.length_take,Nat.min_eq_left (by omega),List.getD_eq_getElem?_getD,List.getElem?_eq_getElem hk]
 simp[vd,Int.mul_comm]
theorem agz (hB:0<B) (m:Nat): ∀ (n:Nat) (x:Int),dg B (n+m) x=dg B n x++dg B m (x/B ^ n)
 |0,x=>by simp[dg]
 |n+1,x=>by
  rw[show n+1+m=(n+m)+1 from by omega]
  show x%B::dg B (n+m) (x/B)=x%B::dg B n (x/B)++dg B m (x/B ^ (n+1))
  rw[agz hB m n,Int.ediv_ediv_of_nonneg (by omega),Int.pow_succ,Int.mul_comm (B ^ n)];rfl
theorem akV (hB:0<B) {n k:Nat} (h:k≤n) (x:Int):(dg B n x).take k=dg B k x:=by
 obtain ⟨m,rfl⟩: ∃ m,n=k+m:=⟨n-k,by omega⟩
 rw[agz hB]
 simp[cP]
theorem U8 (hB:0<B) (n:Nat):dg B n 0=List.replicate n 0:=
 (Mt hB (fI.Uy hB n) (by simp) (by rw[Df];simp)).symm
end
theorem DV {x:Int} (A C:Int) (hA:0<A) (hC:0<C) (D:Int) (hDp:0<D) (hdiv:A*D∣C):x%C/A%D=x/A%D:=by
 obtain ⟨q,rfl⟩:=hdiv
 have hq:0<q:=by
  rcases Int.lt_or_le 0 q with h|h
  ·exact h
  ·have:=Int.mul_nonneg (Int.le_of_lt (Int.mul_pos hA hDp)) (show 0≤ -q by omega)
   rw[Int.mul_neg] at this;omega
 have e:=Dd (B:=A) (P:=D*q) hA (Int.mul_pos hDp hq) x
 rw[← Int.mul_assoc] at e
 rw[← e]
 have h1:=Int.emod_nonneg x (show A≠0 by omega)
 have h2:=Int.emod_lt_of_pos x hA
 rw[(E3 hA ⟨h1,h2⟩).1,Int.emod_emod_of_dvd _ (Int.dvd_mul_right D q)]
theorem YH (V:Int) (k:Nat):V/2 ^ k=2*(V/2 ^ (k+1))+V/2 ^ k%2:=by
 have e:V/2 ^ (k+1)=V/2 ^ k/2:=by rw[Int.pow_succ,Int.ediv_ediv_of_nonneg (by exact Int.le_of_lt (Int.pow_pos (by decide)))]
 rw[e];omega
theorem agA {L r b:Int} (hL:0<L) (hr:0≤r∧r<L) (hb:0≤b∧b<2):(2*r+b)%L=if 2*r+b<L then 2*r+b else 2*r+b-L:=by
 split
 ·exact Int.emod_eq_of_lt (by omega) (by assumption)
 ·have e:2*r+b=(2*r+b-L)+L*1:=by omega
  conv=>lhs;rw[e]
  rw[Int.add_mul_emod_self_left,Int.emod_eq_of_lt (by omega) (by omega)]
theorem akW (L V b:Int):(2*V+b)%L=(2*(V%L)+b)%L:=by
 have e:=Int.emod_add_mul_ediv V L
 have:2*V+b=2*(V%L)+b+L*(2*(V/L)):=by
  conv=>lhs;rw[← e]
  rw[Int.mul_add,Int.mul_left_comm];omega
 rw[this,Int.add_mul_emod_self_left]
end Go.Ev
end
section
set_option linter.unusedVariables false
set_option linter.unusedSimpArgs false
namespace Go.Proofs.YtjalaohajcpllaaGreat
open Go Go.Ev BJ
theorem YI {x y c:Int} (hx:xe x) (hy:xe y) (hc:c=0∨c=1):mW x y c=((x-y-c)%18446744073709551616,if x<y+c then 1 else 0):=by
 unfold xe at hx hy
 obtain ⟨a,rfl⟩:=Int.eq_ofNat_of_zero_le hx.1
 obtain ⟨b,rfl⟩:=Int.eq_ofNat_of_zero_le hy.1
 obtain ⟨d,rfl⟩: ∃ d:Nat,c=(d:Int):=by rcases hc with rfl|rfl;exact ⟨0,rfl⟩;exact ⟨1,rfl⟩
 simp only[mW,Int.toNat_natCast]
 have e:(2:Nat) ^ 64=18446744073709551616:=by decide
 rw[e]
 refine Prod.ext ?_ ?_
 ·show (((a+18446744073709551616-b-d)%18446744073709551616:Nat):Int)=_
  omega
 ·show (if a<b+d then (1:Int) else 0)=_
  by_cases h:a<b+d
  ·rw[if_pos h,if_pos (by omega)]
  ·rw[if_neg h,if_neg (by omega)]
theorem Av {B:Int} (hB:1≤B) {a b:Nat} (h:a≤b):B ^ a≤B ^ b:=by
 obtain ⟨d,rfl⟩: ∃ d,b=a+d:=⟨b-a,by omega⟩
 rw[Int.pow_add]
 have h1:0<B ^ a:=Int.pow_pos (by omega)
 have h2:0<B ^ d:=Int.pow_pos (by omega)
 have:=Int.mul_le_mul_of_nonneg_left (show 1≤B ^ d by omega) (Int.le_of_lt h1)
 rwa [Int.mul_one] at this
theorem amR (k m:Nat):(k:Int).tmod (m:Int)=((k%m:Nat):Int):=by rw[Int.tmod_eq_emod_of_nonneg (by omega),← Int.natCast_emod]
abbrev qq:Int:=18446744073709551616
theorem bF:0<qq:=by decide
theorem IJ:qq=256 ^ 8:=by decide
theorem ath:qq=2 ^ 64:=by decide
theorem wV (s:Nat):((2 ^ (s*8):Nat):Int)=256 ^ s:=by
 rw[Nat.mul_comm,Nat.pow_mul,Int.natCast_pow];rfl
theorem E6 {b:Int} (hb:0<b) {m:Nat} (hm:0<m) {l:List Int} (h:fI (b ^ m) l) {k:Nat} (hk:k/m<l.length):l.getD (k/m) 0/b ^ (k%m)%b=vd (b ^ m) l/b ^ k%b:=by
 have hB:0<b ^ m:=Int.pow_pos hb
 rw[akU hB h hk]
 have fq:=Nat.mod_lt k hm
 have e1:(b ^ m)=b ^ (k%m)*b*b ^ (m-(k%m+1)):=by rw[← Int.pow_succ,← Int.pow_add];congr 1;omega
 rw[DV (b ^ (k%m)) (b ^ m) (Int.pow_pos hb) hB b hb ⟨_,e1⟩]
 rw[Int.ediv_ediv_of_nonneg (Int.le_of_lt (Int.pow_pos hB)),← Int.pow_mul,← Int.pow_add]
 congr 3
 have:=Nat.div_add_mod k m;exact this
theorem apm {B:Int} (hB:0<B) (n:Nat) (x:Int):(List.range n).map (fun i=>x/B ^ i%B)=dg B n x:=by
 apply List.ext_getElem?
 intro i
 rcases Nat.lt_or_ge i n with h|h
 ·have e:=wU hB (x:=x) h
  rw[List.getD_eq_getElem?_getD,List.getElem?_eq_getElem (by rw[cP];exact h)] at e
  rw[List.getElem?_eq_getElem (l:=dg B n x) (by rw[cP];exact h),List.getElem?_map,List.getElem?_range h]
  simpa using e.symm
 ·rw[List.getElem?_eq_none (by simpa using h),List.getElem?_eq_none (by rw[cP];exact h)]
noncomputable def xf (b:List Int):List Int:=dg qq 8 (vd 256 b)
noncomputable def yu (w:List Int):List Int:=dg 256 32 (vd qq w)
theorem akX {b:List Int} (hb:aC b) (hl:b.length≤64) {k:Nat} (hk:k<b.length):
  (xf (b.take k)).set (k/8) (bD .u64 ((xf (b.take k)).getD (k/8) 0) (shl .u64 (IntKind.u64.wrap (b.getD k 0)) ((k%8*8:Nat):Int)))=xf (b.take (k+1)):=by
 have kU:fI 256 b:=hb
 have hc:=fI.getD (by decide) kU k
 have hV0:=fJ (by decide) (kU.take k)
 have hV1:=rZ (by decide) (kU.take k)
 rw[List.length_take,Nat.min_eq_left (by omega)] at hV1
 unfold xf
 rw[dW hk]
 generalize vd 256 (b.take k)=V at*
 generalize b.getD k 0=c at*
 have hi:k/8<8:=by omega
 have hs:k%8<8:=by omega
 have oq:k=8*(k/8)+k%8:=(Nat.div_add_mod k 8).symm
 have hp:(256:Int) ^ k=qq ^ (k/8)*256 ^ (k%8):=by rw[IJ,← Int.pow_mul,← Int.pow_add,← oq]
 have hQ:0<qq ^ (k/8):=Int.pow_pos bF
 have hle:(256:Int) ^ (k%8)*256≤qq:=by
  rw[← Int.pow_succ,IJ];exact Av (by decide) (by omega)
 have hP:(0:Int)<256 ^ (k%8):=Int.pow_pos (by decide)
 have hdl:V/qq ^ (k/8)<256 ^ (k%8):=Int.ediv_lt_of_lt_mul hQ (by rw[Int.mul_comm,← hp];exact hV1)
 have hd0:0≤V/qq ^ (k/8):=Int.ediv_nonneg hV0 (Int.le_of_lt hQ)
 have eg:(dg qq 8 V).getD (k/8) 0=V/qq ^ (k/8):=by
  rw[wU bF hi,Int.emod_eq_of_lt hd0 (by omega)]
 rw[eg]
 have ew:IntKind.u64.wrap c=c:=wrap_u64 hc.1 (by omega)
 have hcP:c*256 ^ (k%8)≤255*256 ^ (k%8):=Int.mul_le_mul_of_nonneg_right (by omega) (by omega)
 have ati:0≤c*256 ^ (k%8):=Int.mul_nonneg hc.1 (by omega)
 have es:shl .u64 c ((k%8*8:Nat):Int)=c*256 ^ (k%8):=by
  rw[ia .u64 c _ (by simp[IntKind.bits];omega),wV,wrap_u64 ati (by unfold qq at hle;omega)]
 have hdiv:c*256 ^ (k%8)%((2 ^ (k%8*8):Nat):Int)=0:=by rw[wV];exact Int.mul_emod_left _ _
 have eo:bD .u64 (V/qq ^ (k/8)) (c*256 ^ (k%8))=V/qq ^ (k/8)+c*256 ^ (k%8):=by
  rw[js,pc (m:=k%8*8) ati hdiv hd0 (by rw[wV];exact hdl) (by unfold qq at hle;omega),Int.add_comm]
 rw[ew,es,eo]
 refine Mt bF ((oC bF 8 V).set ⟨by omega,by omega⟩) (by rw[List.length_set,cP]) ?_
 rw[De (by rw[cP];exact hi),eg,na bF]
 have e2:(256:Int) ^ 64=qq ^ 8:=by decide
 have hV2:V<qq ^ 8:=Int.lt_of_lt_of_le hV1 (by rw[← e2];exact Av (by decide) (by omega))
 rw[Int.emod_eq_of_lt hV0 hV2]
 have e3:(V/qq ^ (k/8)+c*256 ^ (k%8)-V/qq ^ (k/8))*qq ^ (k/8)=c*256 ^ k:=by
  rw[hp,Int.mul_comm (qq ^ (k/8)),← Int.mul_assoc];congr 1;omega
 rw[e3]
 have fq:V+c*256 ^ k<qq ^ 8:=by
  have h1:c*256 ^ k≤255*256 ^ k:=Int.mul_le_mul_of_nonneg_right (by omega) (Int.le_of_lt (Int.pow_pos (by decide)))
  have h2:(256:Int) ^ (k+1)≤256 ^ 64:=Av (by decide) (by omega)
  rw[Int.pow_succ] at h2
  rw[← e2];omega
 exact (Int.emod_eq_of_lt (Int.add_nonneg hV0 (Int.mul_nonneg hc.1 (Int.le_of_lt (Int.pow_pos (by decide))))) fq).symm
theorem agB {w:List Int} (h:fI qq w) (hl:w.length=8) {k:Nat} (hk:k<64):IntKind.u8.wrap (shr .u64 (w.getD (k/8) 0) ((k%8*8:Nat):Int))=vd qq w/256 ^ k%256:=by
 rw[eX .u64 _ _ (by simp[IntKind.bits];omega),wV,wrap_u8]
 have h':fI (256 ^ 8) w:=by rw[← IJ];exact h
 have:=E6 (b:=256) (by decide) (by decide:0<8) h' (k:=k) (by omega)
 rw[this,← IJ]
noncomputable def oh (w:List Int) (i:Int):Int:=vd qq w/2 ^ i.toNat%2
theorem YJ {w:List Int} (h:fI qq w) (hl:w.length=8) {k:Nat} (hk:k<512):bg .u64 (shr .u64 (w.getD (k/64) 0) ((k%64:Nat):Int)) 1=oh w (k:Int):=by
 rw[eX .u64 _ _ (by simp[IntKind.bits];omega),tN (m:=1) (by decide) _ 1 (by decide)]
 have h':fI (2 ^ 64) w:=by rw[← ath];exact h
 have:=E6 (b:=2) (by decide) (by decide:0<64) h' (k:=k) (by omega)
 unfold oh
 rw[Int.toNat_natCast,ath,← this]
 simp
structure Part (k:Nat) (w o:List Int):Prop where
 len:o.length=8
 YK:fI qq o
 rest: ∀ j,k≤j→o.getD j 0=w.getD j 0
theorem Part.step {k:Nat} {w o:List Int} (h:Part k w o) {z:Int} (hk:k<8) (hz:0≤z∧z<qq):Part (k+1) w (o.set k z)∧vd qq ((o.set k z).take (k+1))=vd qq (o.take k)+z*qq ^ k:=by
 obtain ⟨h1,h2,h3⟩:=h
 have hg:(o.set k z).getD k 0=z:=by rw[List.getD_eq_getElem?_getD];simp[show k<o.length by omega]
 refine ⟨⟨by rw[List.length_set,h1],h2.set hz,fun j hj=>?_⟩,?_⟩
 ·rw[← h3 j (by omega),List.getD_eq_getElem?_getD,List.getD_eq_getElem?_getD,List.getElem?_set_ne (by omega)]
 ·rw[dW (by rw[List.length_set];omega),hg,List.take_set_of_le (Nat.le_refl _)]
noncomputable def jR (w x:List Int):List Int×Int:=(dg qq 8 (vd qq w-vd qq x),if vd qq w<vd qq x then 1 else 0)
noncomputable def jD (w x:List Int):List Int:=dg qq 8 (vd qq w+vd qq x)
def E7 (sb:Int→Int→Int→Int×Int) (x:List Int) (k:Nat) (o:List Int×Int):List Int×Int:=(o.1.set k (sb (o.1.getD k 0) (x.getD k 0) o.2).1,(sb (o.1.getD k 0) (x.getD k 0) o.2).2)
def U9 (w x:List Int) (k:Nat) (o:List Int×Int):Prop:=Part k w o.1∧(o.2=0∨o.2=1)∧vd qq (o.1.take k)=vd qq (w.take k)-vd qq (x.take k)+o.2*qq ^ k
theorem E8 {w x:List Int} (hw:fI qq w) (hx:fI qq x) (lw:w.length=8) (lx:x.length=8) {k:Nat} {o:List Int×Int} (hk:k<8) (h:U9 w x k o):U9 w x (k+1) (E7 mW x k o):=by
 obtain ⟨hp,hc,hv⟩:=h
 obtain ⟨o,c⟩:=o
 simp only at hp hc hv
 have h1:=fI.getD bF hp.YK k
 have h2:=fI.getD bF hx k
 have e:=YI (x:=o.getD k 0) (y:=x.getD k 0) (c:=c) h1 h2 hc
 have ef:=hp.rest k (Nat.le_refl _)
 unfold E7
 rw[e]
 have hz:0≤(o.getD k 0-x.getD k 0-c)%18446744073709551616∧(o.getD k 0-x.getD k 0-c)%18446744073709551616<qq:=⟨Int.emod_nonneg _ (by decide),Int.emod_lt_of_pos _ (by decide)⟩
 obtain ⟨p1,p2⟩:=hp.step hk hz
 refine ⟨p1,by simp only;split<;>simp,?_⟩
 simp only
 rw[p2,hv,dW (by omega),dW (by omega),ef,Int.pow_succ,Int.mul_comm (qq ^ k) qq,← Int.mul_assoc]
 rw[ef] at h1
 generalize w.getD k 0=a at*
 generalize x.getD k 0=b at*
 have key:c+(a-b-c)%18446744073709551616=a-b+(if a<b+c then (1:Int) else 0)*qq:=by
  unfold qq at*
  split<;>omega
 have e2:c*qq ^ k+(a-b-c)%18446744073709551616*qq ^ k=(a-b+(if a<b+c then (1:Int) else 0)*qq)*qq ^ k:=by rw[← key,Int.add_mul]
 rw[Int.add_mul,Int.sub_mul] at e2
 omega
theorem agC {w x:List Int} (hw:fI qq w) (hx:fI qq x) (lw:w.length=8) (lx:x.length=8):upto (E7 mW x) 0 8 (w,0)=jR w x:=by
 have h:=mA (f:=E7 mW x) (U9 w x) (n:=8) (fun k o hk h=>E8 hw hx lw lx hk h) 8 0 (w,0) (by omega) ⟨⟨lw,hw,fun _ _=>rfl⟩,.inl rfl,by simp[vd]⟩
 generalize upto (E7 mW x) 0 8 (w,0)=o at*
 obtain ⟨o,c⟩:=o
 obtain ⟨hp,hc,hv⟩:=h
 simp only at hp hc hv
 simp only[Nat.zero_add] at hp hv
 rw[List.take_of_length_le (by rw[hp.len];decide),List.take_of_length_le (by omega),List.take_of_length_le (by omega)] at hv
 have b1:=fJ bF hp.YK
 have b2:=rZ bF hp.YK
 have b3:=fJ bF hw
 have b4:=rZ bF hw
 have b5:=fJ bF hx
 have b6:=rZ bF hx
 rw[hp.len] at b2
 rw[lw] at b4
 rw[lx] at b6
 unfold jR
 refine Prod.ext (Mt bF hp.YK hp.len ?_) ?_
 ·rw[hv]
  have:vd qq w-vd qq x+c*qq ^ 8=vd qq w-vd qq x+qq ^ 8*c:=by rw[Int.mul_comm]
  have e:vd qq o=vd qq o%qq ^ 8:=(Int.emod_eq_of_lt b1 b2).symm
  rw[hv,this,Int.add_mul_emod_self_left] at e
  rw[this];exact e
 ·simp only
  rcases hc with rfl|rfl
  ·rw[if_neg (by omega)]
  ·rw[if_pos (by omega)]
def E9 (ad:Int→Int→Int→Int×Int) (x:List Int) (k:Nat) (o:List Int×Int):List Int×Int:=(o.1.set k (ad (o.1.getD k 0) (x.getD k 0) o.2).1,(ad (o.1.getD k 0) (x.getD k 0) o.2).2)
def akY (w x:List Int) (k:Nat) (o:List Int×Int):Prop:=Part k w o.1∧(o.2=0∨o.2=1)∧vd qq (o.1.take k)+o.2*qq ^ k=vd qq (w.take k)+vd qq (x.take k)
theorem Mu {w x:List Int} (hw:fI qq w) (hx:fI qq x) (lw:w.length=8) (lx:x.length=8) {k:Nat} {o:List Int×Int} (hk:k<8) (h:akY w x k o):akY w x (k+1) (E9 bB x k o):=by
 obtain ⟨hp,hc,hv⟩:=h
 obtain ⟨o,c⟩:=o
 simp only at hp hc hv
 have h1:=fI.getD bF hp.YK k
 have h2:=fI.getD bF hx k
 have e:=kc (x:=o.getD k 0) (y:=x.getD k 0) (c:=c) h1.1 h2.1 (by omega)
 have ef:=hp.rest k (Nat.le_refl _)
 unfold E9
 rw[e]
 have hz:0≤(o.getD k 0+x.getD k 0+c)%18446744073709551616∧(o.getD k 0+x.getD k 0+c)%18446744073709551616<qq:=⟨Int.emod_nonneg _ (by decide),Int.emod_lt_of_pos _ (by decide)⟩
 obtain ⟨p1,p2⟩:=hp.step hk hz
 refine ⟨p1,by simp only;unfold qq at h1 h2;omega,?_⟩
 simp only
 rw[p2,dW (by omega),dW (by omega),ef,Int.pow_succ,Int.mul_comm (qq ^ k) qq,← Int.mul_assoc]
 rw[ef] at h1
 generalize w.getD k 0=a at*
 generalize x.getD k 0=b at*
 have key:(a+b+c)%18446744073709551616+(a+b+c)/18446744073709551616*qq=a+b+c:=by
  unfold qq at*
  omega
 have e2:(a+b+c)%18446744073709551616*qq ^ k+(a+b+c)/18446744073709551616*qq*qq ^ k=(a+b+c)*qq ^ k:=by rw[← Int.add_mul,key]
 rw[Int.add_mul (a+b),Int.add_mul a] at e2
 omega
theorem akZ {w x:List Int} (hw:fI qq w) (hx:fI qq x) (lw:w.length=8) (lx:x.length=8):(upto (E9 bB x) 0 8 (w,0)).1=jD w x:=by
 have h:=mA (f:=E9 bB x) (akY w x) (n:=8) (fun k o hk h=>Mu hw hx lw lx hk h) 8 0 (w,0) (by omega) ⟨⟨lw,hw,fun _ _=>rfl⟩,.inl rfl,by simp[vd]⟩
 generalize upto (E9 bB x) 0 8 (w,0)=o at*
 obtain ⟨o,c⟩:=o
 obtain ⟨hp,hc,hv⟩:=h
 simp only at hp hc hv
 simp only[Nat.zero_add] at hp hv
 rw[List.take_of_length_le (by rw[hp.len];decide),List.take_of_length_le (by omega),List.take_of_length_le (by omega)] at hv
 have b1:=fJ bF hp.YK
 have b2:=rZ bF hp.YK
 rw[hp.len] at b2
 unfold jD
 refine Mt bF hp.YK hp.len ?_
 rw[← hv,Int.mul_comm,Int.add_mul_emod_self_left,Int.emod_eq_of_lt b1 b2]
end Go.Proofs.YtjalaohajcpllaaGreat
end
section
set_option linter.unusedVariables false
set_option linter.unusedSimpArgs false
namespace Go.Proofs.YtjalaohajcpllaaGreat
open Go Go.Ev BJ
def gy:List Int:= [6346243789798364141,1503914060200516822,0,1152921504606846976,0,0,0,0]
def ll:Int:=7237005577332262213973186563042994240857116359379907606001950938285454250989
theorem lZ:0<ll:=by decide
theorem YL:vd qq gy=ll:=by decide+kernel
theorem agD:gy.length=8∧fI qq gy:=⟨rfl,by unfold fI gy;decide⟩
def l6 (r:List Int) (b:Int):List Int:=r.set 0 (bD .u64 (r.getD 0 0) b)
def R8 (and:List Int→List Int→List Int) (less:List Int→List Int→List Int×Int) (bit:List Int→Int→Int) (o w:List Int) (k:Nat) (r:List Int):List Int:=
 bif (less (l6 (and r r) (bit w (511-(k:Int)))) o).2==0 then (less (l6 (and r r) (bit w (511-(k:Int)))) o).1 else l6 (and r r) (bit w (511-(k:Int)))
theorem ak0 (w:List Int) (i:Int):0≤oh w i∧oh w i<2:=by unfold oh;omega
theorem qq8:(2:Int) ^ 254≤qq ^ 8:=by decide+kernel
theorem Mv:ll+ll<2 ^ 254:=by decide+kernel
theorem Va {R b:Int} (hR:0≤R∧R<ll) (hb:0≤b∧b<2):l6 (dg qq 8 (R+R)) b=dg qq 8 (2*R+b):=by
 have h1:2*R+b<qq ^ 8:=Int.lt_of_lt_of_le (by have:=Mv;omega) qq8
 have h2:R+R<qq ^ 8:=Int.lt_of_lt_of_le (by have:=Mv;omega) qq8
 have hg:(dg qq 8 (R+R)).getD 0 0=(R+R)%qq:=by rw[wU bF (by decide)];simp
 have hm:0≤(R+R)%qq:=Int.emod_nonneg (R+R) (show qq≠0 by decide)
 have hl:(R+R)%qq<18446744073709551616:=Int.emod_lt_of_pos (R+R) bF
 have hev:(R+R)%qq%2=0:=by
  show (R+R)%18446744073709551616%2=0
  omega
 have hv:vd qq (dg qq 8 (R+R))=R+R:=by rw[na bF,Int.emod_eq_of_lt (by omega) h2]
 unfold l6
 rw[hg]
 generalize (R+R)%qq=M at*
 rw[pc (m:=1) hm (by simpa using hev) hb.1 (by simpa using hb.2) (by omega)]
 refine Mt bF ((oC bF 8 _).set ⟨by omega,(by omega:M+b<18446744073709551616)⟩) (by rw[List.length_set,cP]) ?_
 rw[De (by rw[cP];decide),hg,hv,Int.emod_eq_of_lt (by omega) h1,Int.pow_zero,Int.mul_one]
 omega
theorem agE {V:Int} {w:List Int} (hw:vd qq w=V) {k:Nat} (hk:k<512):R8 jD jR oh gy w k (dg qq 8 (V/2 ^ (512-k)%ll))=dg qq 8 (V/2 ^ (512-(k+1))%ll):=by
 have hlq: ∀ {x:Int},x<ll+ll→x<qq ^ 8:=fun h=>Int.lt_of_lt_of_le (Int.lt_trans h Mv) qq8
 have e0:=YH V (512-(k+1))
 rw[show 512-(k+1)+1=512-k from by omega] at e0
 have eb:oh w (511-(k:Int))=V/2 ^ (512-(k+1))%2:=by
  unfold oh
  rw[hw,show (511-(k:Int)).toNat=512-(k+1) from by omega]
 have hb:0≤V/2 ^ (512-(k+1))%2∧V/2 ^ (512-(k+1))%2<2:=by omega
 have hR:0≤V/2 ^ (512-k)%ll∧V/2 ^ (512-k)%ll<ll:=⟨Int.emod_nonneg _ (by have:=lZ;omega),Int.emod_lt_of_pos _ lZ⟩
 have em:(V/2 ^ (512-(k+1)))%ll=(2*(V/2 ^ (512-k)%ll)+V/2 ^ (512-(k+1))%2)%ll:=by
  conv=>lhs;rw[e0]
  exact akW _ _ _
 rw[em,agA lZ hR hb]
 have es:jD (dg qq 8 (V/2 ^ (512-k)%ll)) (dg qq 8 (V/2 ^ (512-k)%ll))=dg qq 8 (V/2 ^ (512-k)%ll+V/2 ^ (512-k)%ll):=by
  unfold jD
  rw[na bF,Int.emod_eq_of_lt hR.1 (hlq (by omega))]
 unfold R8
 rw[eb,es,Va hR hb]
 generalize V/2 ^ (512-k)%ll=R at*
 generalize V/2 ^ (512-(k+1))%2=b at*
 have el:jR (dg qq 8 (2*R+b)) gy=(dg qq 8 (2*R+b-ll),if 2*R+b<ll then 1 else 0):=by
  unfold jR
  rw[YL,na bF,Int.emod_eq_of_lt (by omega) (hlq (by omega))]
 rw[el]
 by_cases h:2*R+b<ll
 ·rw[if_pos h,if_pos h];rfl
 ·rw[if_neg h,if_neg h];rfl
noncomputable def yw (w:List Int):List Int:=dg 256 32 (vd qq w%ll)
def Mw (mu:Int→Int→Int×Int) (ad:Int→Int→Int→Int×Int) (x y c o:Int):Int×Int:=
 ((ad o (ad (mu x y).2 c 0).1 0).1,IntKind.u64.wrap (IntKind.u64.wrap ((mu x y).1+(ad (mu x y).2 c 0).2)+(ad o (ad (mu x y).2 c 0).1 0).2))
theorem agF {x y c o:Int} (hx:xe x) (hy:xe y) (hc:xe c) (ho:xe o):xe (Mw bs bB x y c o).1∧xe (Mw bs bB x y c o).2∧(Mw bs bB x y c o).1+qq*(Mw bs bB x y c o).2=o+x*y+c:=by
 unfold Mw
 rw[EV hx hy]
 unfold xe at*
 have Jd:0≤x*y:=Int.mul_nonneg hx.1 hy.1
 have M1:x*y≤18446744073709551615*18446744073709551615:=Int.mul_le_mul (by omega) (by omega) hy.1 (by decide)
 simp only
 generalize x*y=m at*
 have q0:0≤m%18446744073709551616:=by omega
 rw[kc q0 hc.1 (by decide)]
 simp only
 rw[kc ho.1 (by omega) (by decide)]
 simp only
 rw[wrap_u64 (n:=m/18446744073709551616+(m%18446744073709551616+c+0)/18446744073709551616) (by omega) (by omega),wrap_u64 (by omega) (by omega)]
 unfold qq
 omega
def Mx (mu:Int→Int→Int×Int) (ad:Int→Int→Int→Int×Int) (a b:List Int) (u:Nat) (j:Nat) (s:Int×List Int):Int×List Int:=
 ((Mw mu ad (a.getD u 0) (b.getD j 0) s.1 (s.2.getD (u+j) 0)).2,s.2.set (u+j) (Mw mu ad (a.getD u 0) (b.getD j 0) s.1 (s.2.getD (u+j) 0)).1)
def agG (mu:Int→Int→Int×Int) (ad:Int→Int→Int→Int×Int) (a b:List Int) (u:Nat) (o:List Int):List Int:=
 (upto (Mx mu ad a b u) 0 4 (0,o)).2.set (u+4) (upto (Mx mu ad a b u) 0 4 (0,o)).1
structure ak1 (a b o:List Int) (u j:Nat) (s:Int×List Int):Prop where
 len:s.2.length=8
 YK:fI qq s.2
 car:xe s.1
 rest: ∀ i,u+4≤i→s.2.getD i 0=o.getD i 0
 val:vd qq s.2+s.1*qq ^ (u+j)=vd qq o+a.getD u 0*vd qq (b.take j)*qq ^ u
theorem Fa {a b o:List Int} (ha:fI qq a) (hb:fI qq b) (lb:b.length=8) {u j:Nat} (hu:u<4) (hj:j<4) {s:Int×List Int} (h:ak1 a b o u j s):ak1 a b o u (j+1) (Mx bs bB a b u j s):=by
 obtain ⟨h1,h2,h3,h4,h5⟩:=h
 obtain ⟨c,s⟩:=s
 simp only at h1 h2 h3 h4 h5
 have fq:u+j<s.length:=by omega
 obtain ⟨g1,g2,g3⟩:=agF (fI.getD bF ha u) (fI.getD bF hb j) h3 (fI.getD bF h2 (u+j))
 unfold Mx
 simp only
 generalize Mw bs bB (a.getD u 0) (b.getD j 0) c (s.getD (u+j) 0)=p at*
 refine ⟨by rw[List.length_set];exact h1,h2.set g1,g2,fun i hi=>?_,?_⟩
 ·rw[← h4 i hi,List.getD_eq_getElem?_getD,List.getD_eq_getElem?_getD,List.getElem?_set_ne (by omega)]
 ·simp only
  rw[De fq,dW (by omega),show u+(j+1)=(u+j)+1 from by omega,Int.pow_succ]
  generalize s.getD (u+j) 0=o0 at*
  generalize a.getD u 0=x at*
  generalize b.getD j 0=y at*
  have e1:x*(vd qq (b.take j)+y*qq ^ j)*qq ^ u=x*vd qq (b.take j)*qq ^ u+x*y*qq ^ (u+j):=by
   rw[Int.mul_add,Int.add_mul,Int.pow_add,Int.mul_comm (qq ^ u),← Int.mul_assoc x y (qq ^ j),Int.mul_assoc (x*y) (qq ^ j)]
  have e2:(p.1+qq*p.2)*qq ^ (u+j)=(o0+x*y+c)*qq ^ (u+j):=by rw[g3]
  have e3:p.2*(qq ^ (u+j)*qq)=qq*p.2*qq ^ (u+j):=by
   rw[Int.mul_comm (qq ^ (u+j)),← Int.mul_assoc,Int.mul_comm p.2]
  rw[e1,e3,Int.sub_mul]
  rw[Int.add_mul,Int.add_mul (o0+x*y),Int.add_mul o0] at e2
  omega
structure ak2 (a b:List Int) (u:Nat) (o:List Int):Prop where
 len:o.length=8
 YK:fI qq o
 rest: ∀ i,u+4≤i→o.getD i 0=0
 val:vd qq o=vd qq (a.take u)*vd qq (b.take 4)
theorem yx {a b o:List Int} (ha:fI qq a) (hb:fI qq b) (la:a.length=8) (lb:b.length=8) {u:Nat} (hu:u<4) (h:ak2 a b u o):ak2 a b (u+1) (agG bs bB a b u o):=by
 have k:=mA (f:=Mx bs bB a b u) (ak1 a b o u) (n:=4) (fun j s hj hs=>Fa ha hb lb hu hj hs) 4 0 (0,o) (by omega) ⟨h.len,h.YK,by unfold xe;omega,fun _ _=>rfl,by simp[vd]⟩
 unfold agG
 generalize upto (Mx bs bB a b u) 0 4 (0,o)=s at*
 obtain ⟨c,s⟩:=s
 obtain ⟨k1,k2,k3,k4,k5⟩:=k
 simp only at k1 k2 k3 k4 k5
 simp only
 refine ⟨by rw[List.length_set];exact k1,k2.set k3,fun i hi=>?_,?_⟩
 ·rw[List.getD_eq_getElem?_getD,List.getElem?_set_ne (by omega),← List.getD_eq_getElem?_getD,k4 i (by omega),h.rest i (by omega)]
 ·have e0:s.getD (u+4) 0=0:=by rw[k4 _ (Nat.le_refl _),h.rest _ (Nat.le_refl _)]
  rw[De (by omega),e0,Int.sub_zero,show u+4=u+(0+4) from by omega,k5,h.val,dW (l:=a) (by omega),Nat.zero_add,Int.add_mul,Int.mul_assoc (a.getD u 0) (qq ^ u),Int.mul_comm (qq ^ u),Int.mul_assoc]
noncomputable def l7 (a b:List Int):List Int:=dg qq 8 (vd qq (a.take 4)*vd qq (b.take 4))
theorem YM {a b:List Int} (ha:fI qq a) (hb:fI qq b) (la:a.length=8) (lb:b.length=8):upto (agG bs bB a b) 0 4 (List.replicate 8 0)=l7 a b:=by
 have h:=mA (f:=agG bs bB a b) (ak2 a b) (n:=4) (fun u o hu ho=>yx ha hb la lb hu ho) 4 0 (List.replicate 8 0) (by omega) ⟨by simp,fI.Uy bF 8,fun i _=>by
  rw[List.getD_eq_getElem?_getD,List.getElem?_replicate];split<;>rfl,by rw[Df];simp[vd]⟩
 exact apl bF h.YK h.len h.val
theorem agH (b:List Int):(xf b).length=8∧fI qq (xf b):=⟨cP _ _,oC bF _ _⟩
theorem Vb {b:List Int} (hb:aC b) (hl:b.length≤64):vd qq (xf b)=vd 256 b:=by
 unfold xf
 have h1:=fJ (by decide) (show fI 256 b from hb)
 have h2:=rZ (by decide) (show fI 256 b from hb)
 have e:(256:Int) ^ 64=qq ^ 8:=by decide+kernel
 have h3:(256:Int) ^ b.length≤256 ^ 64:=Av (by decide) hl
 rw[na bF,Int.emod_eq_of_lt h1 (by rw[← e];omega)]
theorem My {b:List Int} (hb:aC b) (hl:b.length=32):vd qq ((xf b).take 4)=vd 256 b:=by
 unfold xf
 have h1:=fJ (by decide) (show fI 256 b from hb)
 have h2:=rZ (by decide) (show fI 256 b from hb)
 have e:(256:Int) ^ 32=qq ^ 4:=by decide+kernel
 rw[hl] at h2
 rw[akV bF (by decide),na bF,Int.emod_eq_of_lt h1 (by rw[← e];exact h2)]
end Go.Proofs.YtjalaohajcpllaaGreat
end
section
set_option linter.unusedVariables false
set_option linter.unusedSimpArgs false
namespace Go.Proofs.YtjalaohajcpllaaGreat
open Go Go.Ev BJ
set_option maxRecDepth 1000000
abbrev cW:a9 LV (List Int):=ND .u64 8
abbrev wA:a9 (List LV) (List Int×Unit):=ae cW ag
abbrev w2A:a9 (List LV) (List Int×List Int×Unit):=ae cW (ae cW ag)
abbrev iW:a9 (Option Ev.Item) (List Int):=rM 146 .u64 8
abbrev iB:a9 (Option Ev.Item) (List Int):=rM 22 .u8 32
abbrev iG (i:Nat):Wk:= .gC i 0 8 .u64
abbrev nPW (r:List Int×Int):LV:= .cV [.agg [.arr (.int .u64) 8 r.1],.sc (.int .u64 (.sym r.2))]
def okW (w:List Int):Prop:=w.length=8∧fI 18446744073709551616 w
def okB (b:List Int):Prop:=b.length=32∧aC b
theorem Fb {w:List Int} (h:okW w):List.take 8 (List.drop 0 w)=w:=cn h.1
def eWW (g:List Int→List Int→List Int):au:=au.bV [] w2A ag fun x _=> .leaf (some (okW x.1∧okW x.2.1)) (jI .u64 8 (g x.1 x.2.1)) []
def amT (g:List Int→List Int→List Int×Int):au:=au.bV [] w2A ag fun x _=> .leaf (some (okW x.1∧okW x.2.1)) (nPW (g x.1 x.2.1)) []
abbrev wiA:a9 (List LV) (List Int×Int×Unit):=ae cW (ae (ah (ay .i64)) ag)
def atk (g:List Int→Int→Int):au:=au.bV [] wiA ag fun x _=> .leaf (some (okW x.1∧0≤x.2.1∧x.2.1<512)) (nU (g x.1 x.2.1)) []
def e0W (c:List Int):au:=au.bV [] ag ag fun _ _=> .leaf none (jI .u64 8 c) []
def eWB (g:List Int→List Int):au:=au.bV [] wA ag fun x _=> .leaf (some (okW x.1)) (jI .u8 32 (g x.1)) []
def eOf (g:List Int→List Int):au:=au.bV [some u8] bA ag fun x _=> .leaf (some (aC x.1∧x.1.length≤64)) (jI .u64 8 (g x.1)) []
noncomputable abbrev ak5:Func:=Tryz.f87
abbrev soC:a9 (List LV) (List Int×Int×Int×Unit):=(jk 2 (ak (ah (aJ 0 0)) (ak (ah (aJ 1 0)) (jk 2 (ae (ah (dB false false u8)) (ae (ah (ay .i64)) (ae (ah (ay .i64)) (jk 18 ag))))))))
abbrev atm:Wk:= .fr (cK 27 [(2,.an),(3,.an),(6,.an),(7,.sym),(8,.sym)])
abbrev soX:a9 (List LV) (Unit):=(jk 2 (ak (ah (aJ 0 0)) (ak (ah (aJ 1 0)) (jk 23 ag))))
abbrev awF:Wk:= .fr (cK 27 [(2,.an),(3,.an)])
abbrev soH:a9 Hp (List Int×List Int×Unit):=ae iW (ae iW ag)
def soW:Exit→List Wk
 | .normal=> [atm,iG 0,iG 1,.auto]
 | .exit 0=> [awF,iG 0,iG 1,.auto]
 |_=> []
theorem apo (b:List Int) (n i:Int) (r m:List Int):c8 Tryz.prog [] [] ak5 0 [] soW ((bH soC soH).wr ((b,n,i,()),(r,m,())))=
 a6.ite (decide (i<n)) (a6.need ((0:Int)≤i∧i<(↑b.length:Int)) (a6.need ((0:Int)≤IntKind.i64.wrap (i.tdiv (8:Int))∧
 IntKind.i64.wrap (i.tdiv (8:Int))<(8:Int)) (a6.need ((0:Int)≤IntKind.i64.wrap (i.tmod (8:Int)*(8:Int))) (a6.need ((0:Int)≤
 IntKind.i64.wrap (i.tdiv (8:Int))∧IntKind.i64.wrap (i.tdiv (8:Int))<(8:Int)) (a6.leaf Exit.normal ((bH soC soH).wr ((b,n,IntKind.i64.wrap
 (i+(1:Int)),PUnit.unit),r,m.set ((0:Nat)+(IntKind.i64.wrap (i.tdiv (8:Int))).toNat) (bD IntKind.u64 ((List.take (8:Nat) (List.drop (0
 :Nat) m)).getD (IntKind.i64.wrap (i.tdiv (8:Int))).toNat (0:Int)) (shl IntKind.u64 (IntKind.u64.wrap (b.getD i.toNat (0:Int))) (IntKind.i64.wrap
 (i.tmod (8:Int)*(8:Int))))),PUnit.unit))))))) (a6.leaf (Exit.exit (0:Nat)) ((bH soX soH).wr (PUnit.unit,r,m,PUnit.unit))):=by kernel_rfl
def atn (g:List Int→List Int) (x:(List Int×Int×Int×Unit)×List Int×List Int×Unit):a6:= .need (aC x.1.1∧x.1.1.length≤64∧x.1.2.1=x.1.1.length∧x.1.2.2.1=0∧x.2.2.1=List.replicate 8 0) (.leaf (.exit 0) ((bH soX soH).wr ((),(x.2.1,g x.1.1,()))))
theorem amV (k:Nat):IntKind.i64.wrap ((k:Int).tmod 8*8)=((k%8*8:Nat):Int):=by
 rw[show (k:Int).tmod 8=((k%8:Nat):Int) from amR k 8,aq (by omega) (by omega)];omega
theorem ak6:xf []=List.replicate 8 0:=U8 bF 8
theorem ak7 (x):Ex Tryz.prog [] (.loop (aU ak5 0)) ((bH soC soH).wr x) (atn xf x):=by
 obtain ⟨⟨b,n,i,_⟩,r,m,_⟩:=x
 refine Ex.need fun ⟨h1,h2,h3,h4,h5⟩=>?_
 simp only at h1 h2 h3 h4 h5
 subst h3 h4 h5
 have key:=hZ (fn:=ak5) (id:=0) (j:=0) (ws:=soW) (hp:= []) mixed aD (aP.nil _) b.length (fun k (_:Unit)=>(bH soC soH).wr ((b,(b.length:Int),(k:Int),()),(r,xf (b.take k),()))) (fun _=>(bH soX soH).wr ((),(r,xf b,()))) (fun _ u=>u) (fun _ _=>True)
  (fun k o R hk _ hn hx=>?_) (fun _ _ _ _=>trivial) 0 () (by omega) trivial
 ·rw[List.take_zero,ak6] at key;exact key
 rw[apo]
 refine ⟨fun hb=>?_,fun hb=>?_⟩
 ·have oq:k<b.length:=by have:=of_decide_eq_true hb;omega
  have e1:IntKind.i64.wrap ((k:Int).tdiv 8)=((k/8:Nat):Int):=ko k 8 (by omega)
  rw[e1,amV,cn (agH _).1,Int.toNat_natCast,Int.toNat_natCast,Nat.zero_add,akX h1 h2 oq,eB k (by omega)]
  exact ⟨by omega,by omega,by omega,by omega,hn oq⟩
 ·have:k=b.length:=by have:=of_decide_eq_false hb;omega
  subst this
  have:=hx rfl
  rw[List.take_length];exact this
noncomputable abbrev ato (g:List Int→List Int):eW:= [(0,fw (bH soC soH) 0 [atm,iG 0,iG 1,.auto] (atn g))]
noncomputable abbrev awG:au:=eOf xf
theorem agI (g:List Int→List Int) (b:List Int):aY Tryz.prog [] (ato g) ak5 (bA.wr (b,())) [] [.fr [.sym],.lN 0 0 8 .u64,.auto]=
 End.need (aC b∧b.length≤(64:Nat)∧(↑b.length:Int)=(↑b.length:Int)∧(0:Int)=(0:Int)∧ [(0:Int),(0:Int),(0:Int),(0:
 Int),(0:Int),(0:Int),(0:Int),(0:Int)]=List.replicate (8:Nat) (0:Int)) (End.leaf (LV.one (VV.agg [SV.arr (Ty.int IntKind.u64) (8:
 Nat) (g b)])) []):=by kernel_rfl
theorem agJ:awG.Ok Tryz.prog 87:=by
 refine (au.bE Tryz.call87 fun x_ y_ Q H_=>?_).sym
 obtain ⟨b,_⟩:=x_
 obtain ⟨hn,hq⟩:=H_
 have hn:aC b∧b.length≤64:=hn
 refine (aG mixed aD Tryz.func87 rfl (LT:=ato xf) (ks:= [.fr [.sym],.lN 0 0 8 .u64,.auto]) (aP.cy (jr rfl (c5 (hp:= []) ak7) jH))).use (D:= []) ?_ hq
 show (aY _ _ _ _ (bA.wr (b,())) [] _).sat _
 rw[agI]
 exact ⟨⟨hn.1,hn.2,rfl,rfl,rfl⟩,rfl,rfl⟩
noncomputable abbrev ak8:Func:=Tryz.f125
abbrev byC:a9 (List LV) (Int×Unit):=(jk 1 (ak (ah (aJ 0 0)) (ak (ah (aJ 1 0)) (ak (ah (aJ 2 0)) (jk 1 (ae (ah (ay .i64)) (jk 15 ag)))))))
abbrev atq:Wk:= .fr (cK 21 [(1,.an),(2,.an),(3,.an),(5,.sym)])
abbrev byX:a9 (List LV) (Unit):=(jk 2 (ak (ah (aJ 1 0)) (ak (ah (aJ 2 0)) (jk 17 ag))))
abbrev awI:Wk:= .fr (cK 21 [(2,.an),(3,.an)])
abbrev byH:a9 Hp (List Int×List Int×List Int×Unit):=ae iW (ae iB (ae iB ag))
def byW:Exit→List Wk
 | .normal=> [atq,iG 0,.gC 1 0 32 .u8,.gC 2 0 32 .u8,.auto]
 | .exit 0=> [awI,iG 0,.gC 1 0 32 .u8,.gC 2 0 32 .u8]
 |_=> []
theorem apq (i:Int) (w r o:List Int):c8 Tryz.prog [] [] ak8 0 [] byW ((bH byC byH).wr ((i,()),(w,r,o,())))=
 a6.ite (decide (i<(32:Int))) (a6.need ((0:Int)≤IntKind.i64.wrap (i.tdiv (8:Int))∧IntKind.i64.wrap (i.tdiv (8:Int))<(8:Int))
 (a6.need ((0:Int)≤IntKind.i64.wrap (i.tmod (8:Int)*(8:Int))) (a6.need ((0:Int)≤i∧i<(32:Int)) (a6.leaf Exit.normal ((bH byC
 byH).wr ((IntKind.i64.wrap (i+(1:Int)),PUnit.unit),w,r,o.set ((0:Nat)+i.toNat) (IntKind.u8.wrap (shr IntKind.u64 ((List.take (8:Nat)
 (List.drop (0:Nat) w)).getD (IntKind.i64.wrap (i.tdiv (8:Int))).toNat (0:Int)) (IntKind.i64.wrap (i.tmod (8:Int)*(8:Int))))),
 PUnit.unit)))))) (a6.leaf (Exit.exit (0:Nat)) ((bH byX byH).wr (PUnit.unit,w,r,o,PUnit.unit))):=by kernel_rfl
def atr (g:List Int→List Int) (x:(Int×Unit)×List Int×List Int×List Int×Unit):a6:= .need (x.1.1=0∧okW x.2.1∧x.2.2.2.1.length=32) (.leaf (.exit 0) ((bH byX byH).wr ((),(x.2.1,x.2.2.1,g x.2.1,()))))
theorem ak9 (x):Ex Tryz.prog [] (.loop (aU ak8 0)) ((bH byC byH).wr x) (atr yu x):=by
 obtain ⟨⟨i,_⟩,w,r,o,_⟩:=x
 refine Ex.need fun ⟨h1,h2,h3⟩=>?_
 simp only at h1 h2 h3
 subst h1
 have key:=hZ (fn:=ak8) (id:=0) (j:=0) (ws:=byW) (hp:= []) mixed aD (aP.nil _) 32 (fun k o=>(bH byC byH).wr (((k:Int),()),(w,r,o,()))) (fun o=>(bH byX byH).wr ((),(w,r,o,()))) (fun k o=>o.set k (vd qq w/256 ^ k%256)) (fun _ _=>True)
  (fun k o R hk _ hn hx=>?_) (fun _ _ _ _=>trivial) 0 o (by omega) trivial
 ·rw[Nat.sub_zero,VR (fun k=>vd qq w/256 ^ k%256) h3,apm (by decide)] at key;exact key
 rw[apq]
 refine ⟨fun hb=>?_,fun hb=>?_⟩
 ·have oq:k<32:=by have:=of_decide_eq_true hb;omega
  have e1:IntKind.i64.wrap ((k:Int).tdiv 8)=((k/8:Nat):Int):=ko k 8 (by omega)
  rw[e1,amV,Fb h2,Int.toNat_natCast,Int.toNat_natCast,Nat.zero_add,agB h2.2 h2.1 (by omega),eB k (by omega)]
  exact ⟨by omega,by omega,by omega,hn oq⟩
 ·have:k=32:=by have:=of_decide_eq_false hb;omega
  exact hx this
noncomputable abbrev ats (g:List Int→List Int):eW:= [(0,fw (bH byC byH) 0 [atq,iG 0,.gC 1 0 32 .u8,.gC 2 0 32 .u8,.auto] (atr g))]
noncomputable abbrev ala:au:=eWB yu
theorem Mz (g:List Int→List Int) (w:List Int):aY Tryz.prog [] (ats g) ak8 (wA.wr (w,())) [] kR=
 End.need ((0:Int)=(0:Int)∧okW w∧(32:Nat)=(32:Nat)) (End.leaf (LV.one (VV.agg [SV.arr (Ty.int IntKind.u8) (32:Nat) (g w)])) []):=by kernel_rfl
theorem YN:ala.Ok Tryz.prog 125:=by
 refine (au.bE Tryz.call125 fun x_ y_ Q H_=>?_).sym
 obtain ⟨w,_⟩:=x_
 obtain ⟨hn,hq⟩:=H_
 have hn:okW w:=hn
 refine (aG mixed aD Tryz.func125 rfl (LT:=ats yu) (ks:=kR) (aP.cy (jr rfl (c5 (hp:= []) ak9) jH))).use (D:= []) ?_ hq
 show (aY _ _ _ _ (wA.wr (w,())) [] _).sat _
 rw[Mz]
 exact ⟨⟨rfl,hn,rfl⟩,rfl,rfl⟩
noncomputable abbrev leFn:Func:=Tryz.f123
abbrev leC:a9 (List LV) (Int×Int×Unit):=(jk 2 (ak (ah (aJ 0 0)) (ak (ah (aJ 1 0)) (ak (ah (aJ 2 0)) (jk 1 (ae (ah (ay .u64)) (jk 1 (ae (ah (ay .i64)) (jk 18 ag)))))))))
abbrev atu:Wk:= .fr (cK 27 [(2,.an),(3,.an),(4,.an),(6,.sym),(8,.sym)])
abbrev leX:a9 (List LV) (Int×Unit):=(jk 2 (ak (ah (aJ 0 0)) (jk 1 (ak (ah (aJ 2 0)) (jk 1 (ae (ah (ay .u64)) (jk 20 ag)))))))
abbrev awK:Wk:= .fr (cK 27 [(2,.an),(4,.an),(6,.sym)])
abbrev M3:a9 Hp (List Int×List Int×List Int×Unit):=ae iW (ae iW (ae iW ag))
def leW:Exit→List Wk
 | .normal=> [atu,iG 0,iG 1,iG 2,.auto]
 | .exit 0=> [awK,iG 0,iG 1,iG 2]
 |_=> []
theorem apr (sb:Int→Int→Int→Int×Int) (c i:Int) (w x r:List Int):c8 Tryz.prog [(160,(lE sb).sym)] [] leFn 0 [] leW ((bH leC M3).wr ((c,i,()),(w,x,r,())))=
 a6.ite (decide (i<(8:Int))) (a6.need ((0:Int)≤i∧i<(8:Int)) (a6.need ((0:Int)≤i∧i<(8:Int)) (a6.need ((0:Int)≤c∧c≤(1
 :Int)) (a6.need ((0:Int)≤i∧i<(8:Int)) (a6.leaf Exit.normal ((bH leC M3).wr (((sb ((List.take (8:Nat) (List.drop (0:Nat) w)).getD
 i.toNat (0:Int)) ((List.take (8:Nat) (List.drop (0:Nat) x)).getD i.toNat (0:Int)) c).snd,IntKind.i64.wrap (i+(1:Int)),PUnit.unit),w.set
 ((0:Nat)+i.toNat) (sb ((List.take (8:Nat) (List.drop (0:Nat) w)).getD i.toNat (0:Int)) ((List.take (8:Nat) (List.drop (0:Nat) x)).getD
 i.toNat (0:Int)) c).fst,x,r,PUnit.unit))))))) (a6.leaf (Exit.exit (0:Nat)) ((bH leX M3).wr ((c,PUnit.unit),w,x,r,PUnit.unit))):=by kernel_rfl
def atv (g:List Int→List Int→List Int×Int) (x:(Int×Int×Unit)×List Int×List Int×List Int×Unit):a6:= .need (x.1.1=0∧x.1.2.1=0∧okW x.2.1∧okW x.2.2.1) (.leaf (.exit 0) ((bH leX M3).wr (((g x.2.1 x.2.2.1).2,()),((g x.2.1 x.2.2.1).1,x.2.2.1,x.2.2.2.1,()))))
abbrev aps:au:=(lE mW).sym
theorem agK:aps.Ok Tryz.prog 160:=(Rf Tryz.func160 (by kernel_rfl) (by kernel_rfl) (by kernel_rfl) (by kernel_rfl) rfl).sym
theorem MA: ∀ p∈ [(160,(lE mW).sym)],p.2.Ok Tryz.prog p.1:=ao agK aD
theorem alb (x):Ex Tryz.prog [] (.loop (aU leFn 0)) ((bH leC M3).wr x) (atv jR x):=by
 obtain ⟨⟨c,i,_⟩,w,x,r,_⟩:=x
 refine Ex.need fun ⟨h1,h2,h3,h4⟩=>?_
 simp only at h1 h2 h3 h4
 subst h1 h2
 have key:=hZ (fn:=leFn) (id:=0) (j:=0) (ws:=leW) (hp:= []) mixed MA (aP.nil _) 8 (fun k (o:List Int×Int)=>(bH leC M3).wr ((o.2,(k:Int),()),(o.1,x,r,()))) (fun (o:List Int×Int)=>(bH leX M3).wr ((o.2,()),(o.1,x,r,()))) (E7 mW x) (U9 w x)
  (fun k o R hk hi hn hx=>?_) (fun k o hk hi=>E8 h3.2 h4.2 h3.1 h4.1 hk hi) 0 (w,0) (by omega) ⟨⟨h3.1,h3.2,fun _ _=>rfl⟩,.inl rfl,by simp[vd]⟩
 ·rw[Nat.sub_zero,agC h3.2 h4.2 h3.1 h4.1] at key;exact key
 rw[apr mW]
 refine ⟨fun hb=>?_,fun hb=>?_⟩
 ·have oq:k<8:=by have:=of_decide_eq_true hb;omega
  rw[cn hi.1.len,Fb h4,Int.toNat_natCast,Nat.zero_add,eB k (by omega)]
  exact ⟨by omega,by omega,(by rcases hi.2.1 with e|e<;>rw[e]<;>decide),by omega,hn oq⟩
 ·have:k=8:=by have:=of_decide_eq_false hb;omega
  exact hx this
noncomputable abbrev atw (g:List Int→List Int→List Int×Int):eW:= [(0,fw (bH leC M3) 0 [atu,iG 0,iG 1,iG 2,.auto] (atv g))]
noncomputable abbrev apt:au:=amT jR
theorem R9 (sb:Int→Int→Int→Int×Int) (g:List Int→List Int→List Int×Int) (w x:List Int):aY Tryz.prog [(160,(lE sb).sym)] (atw g) leFn (w2A.wr (w,x,())) [] [.fr [.sym],.lN 0 0 8 .u64,.auto]=
 End.need ((0:Int)=(0:Int)∧(0:Int)=(0:Int)∧okW w∧okW x) (End.leaf (LV.cV [VV.agg [SV.arr (Ty.int IntKind.u64) (8:Nat) (g w x).fst],
 VV.sc (SV.int IntKind.u64 (SI.sym (g w x).snd))]) []):=by kernel_rfl
theorem agL:apt.Ok Tryz.prog 123:=by
 refine (au.bE Tryz.call123 fun x_ y_ Q H_=>?_).sym
 obtain ⟨w,x,_⟩:=x_
 obtain ⟨hn,hq⟩:=H_
 have hn:okW w∧okW x:=hn
 refine (aG mixed MA Tryz.func123 rfl (LT:=atw jR) (ks:= [.fr [.sym],.lN 0 0 8 .u64,.auto]) (aP.cy (jr rfl (c5 (hp:= []) alb) jH))).use (D:= []) ?_ hq
 show (aY _ _ _ _ (w2A.wr (w,x,())) [] _).sat _
 rw[R9 mW]
 exact ⟨⟨rfl,rfl,hn.1,hn.2⟩,rfl,rfl⟩
noncomputable abbrev alc:Func:=Tryz.f95
abbrev anC:a9 (List LV) (Int×Int×Unit):=(jk 2 (ak (ah (aJ 0 0)) (ak (ah (aJ 1 0)) (ak (ah (aJ 2 0)) (ae (ah (ay .u64)) (jk 1 (ae (ah (ay .i64)) (jk 17 ag))))))))
abbrev aty:Wk:= .fr (cK 25 [(2,.an),(3,.an),(4,.an),(5,.sym),(7,.sym)])
abbrev anX:a9 (List LV) (Unit):=(jk 2 (ak (ah (aJ 0 0)) (jk 1 (ak (ah (aJ 2 0)) (jk 20 ag)))))
abbrev awM:Wk:= .fr (cK 25 [(2,.an),(4,.an)])
def anW:Exit→List Wk
 | .normal=> [aty,iG 0,iG 1,iG 2,.auto]
 | .exit 0=> [awM,iG 0,iG 1,iG 2]
 |_=> []
theorem apu (ad:Int→Int→Int→Int×Int) (c i:Int) (w x r:List Int):c8 Tryz.prog [(138,(lE ad).sym)] [] alc 0 [] anW ((bH anC M3).wr ((c,i,()),(w,x,r,())))=
 a6.ite (decide (i<(8:Int))) (a6.need ((0:Int)≤i∧i<(8:Int)) (a6.need ((0:Int)≤i∧i<(8:Int)) (a6.need ((0:Int)≤c∧c≤(1
 :Int)) (a6.need ((0:Int)≤i∧i<(8:Int)) (a6.leaf Exit.normal ((bH anC M3).wr (((ad ((List.take (8:Nat) (List.drop (0:Nat) w)).getD
 i.toNat (0:Int)) ((List.take (8:Nat) (List.drop (0:Nat) x)).getD i.toNat (0:Int)) c).snd,IntKind.i64.wrap (i+(1:Int)),PUnit.unit),w.set
 ((0:Nat)+i.toNat) (ad ((List.take (8:Nat) (List.drop (0:Nat) w)).getD i.toNat (0:Int)) ((List.take (8:Nat) (List.drop (0:Nat) x)).getD
 i.toNat (0:Int)) c).fst,x,r,PUnit.unit))))))) (a6.leaf (Exit.exit (0:Nat)) ((bH anX M3).wr (PUnit.unit,w,x,r,PUnit.unit))):=by kernel_rfl
def atz (g:List Int→List Int→List Int) (x:(Int×Int×Unit)×List Int×List Int×List Int×Unit):a6:= .need (x.1.1=0∧x.1.2.1=0∧okW x.2.1∧okW x.2.2.1) (.leaf (.exit 0) ((bH anX M3).wr ((),(g x.2.1 x.2.2.1,x.2.2.1,x.2.2.2.1,()))))
theorem MB: ∀ p∈ [(138,(lE bB).sym)],p.2.Ok Tryz.prog p.1:=ao CY aD
theorem ald (x):Ex Tryz.prog [] (.loop (aU alc 0)) ((bH anC M3).wr x) (atz jD x):=by
 obtain ⟨⟨c,i,_⟩,w,x,r,_⟩:=x
 refine Ex.need fun ⟨h1,h2,h3,h4⟩=>?_
 simp only at h1 h2 h3 h4
 subst h1 h2
 have key:=hZ (fn:=alc) (id:=0) (j:=0) (ws:=anW) (hp:= []) mixed MB (aP.nil _) 8 (fun k (o:List Int×Int)=>(bH anC M3).wr ((o.2,(k:Int),()),(o.1,x,r,()))) (fun (o:List Int×Int)=>(bH anX M3).wr ((),(o.1,x,r,()))) (E9 bB x) (akY w x)
  (fun k o R hk hi hn hx=>?_) (fun k o hk hi=>Mu h3.2 h4.2 h3.1 h4.1 hk hi) 0 (w,0) (by omega) ⟨⟨h3.1,h3.2,fun _ _=>rfl⟩,.inl rfl,by simp[vd]⟩
 ·rw[Nat.sub_zero,akZ h3.2 h4.2 h3.1 h4.1] at key;exact key
 rw[apu bB]
 refine ⟨fun hb=>?_,fun hb=>?_⟩
 ·have oq:k<8:=by have:=of_decide_eq_true hb;omega
  rw[cn hi.1.len,Fb h4,Int.toNat_natCast,Nat.zero_add,eB k (by omega)]
  exact ⟨by omega,by omega,(by rcases hi.2.1 with e|e<;>rw[e]<;>decide),by omega,hn oq⟩
 ·have:k=8:=by have:=of_decide_eq_false hb;omega
  exact hx this
noncomputable abbrev atA (g:List Int→List Int→List Int):eW:= [(0,fw (bH anC M3) 0 [aty,iG 0,iG 1,iG 2,.auto] (atz g))]
noncomputable abbrev atB:au:=eWW jD
theorem YO (ad:Int→Int→Int→Int×Int) (g:List Int→List Int→List Int) (w x:List Int):aY Tryz.prog [(138,(lE ad).sym)] (atA g) alc (w2A.wr (w,x,())) [] [.fr [.sym],.lN 0 0 8 .u64,.auto]=
 End.need ((0:Int)=(0:Int)∧(0:Int)=(0:Int)∧okW w∧okW x) (End.leaf (LV.one (VV.agg [SV.arr (Ty.int IntKind.u64) (8:Nat) (g w x)]))
 []):=by kernel_rfl
theorem Vc:atB.Ok Tryz.prog 95:=by
 refine (au.bE Tryz.call95 fun x_ y_ Q H_=>?_).sym
 obtain ⟨w,x,_⟩:=x_
 obtain ⟨hn,hq⟩:=H_
 have hn:okW w∧okW x:=hn
 refine (aG mixed MB Tryz.func95 rfl (LT:=atA jD) (ks:= [.fr [.sym],.lN 0 0 8 .u64,.auto]) (aP.cy (jr rfl (c5 (hp:= []) ald) jH))).use (D:= []) ?_ hq
 show (aY _ _ _ _ (w2A.wr (w,x,())) [] _).sat _
 rw[YO bB]
 exact ⟨⟨rfl,rfl,hn.1,hn.2⟩,rfl,rfl⟩
noncomputable abbrev apv:au:=atk oh
theorem Sa (w:List Int) (i:Int):aY Tryz.prog [] [] Tryz.f122 (wiA.wr (w,i,())) [] kK=
 End.need ((0:Int)≤IntKind.i64.wrap (i.tdiv (64:Int))∧IntKind.i64.wrap (i.tdiv (64:Int))<(8:Int)) (End.need ((0:Int)≤i.tmod (64:
 Int)) (End.leaf (LV.one (VV.sc (SV.int IntKind.u64 (SI.sym (bg IntKind.u64 (shr IntKind.u64 ((List.take (8:Nat) (List.drop (0:Nat) w)).getD
 (IntKind.i64.wrap (i.tdiv (64:Int))).toNat (0:Int)) (i.tmod (64:Int))) (1:Int)))))) [])):=by kernel_rfl
theorem agM:apv.Ok Tryz.prog 122:=by
 refine (au.bE Tryz.call122 fun x_ y_ Q H_=>?_).sym
 obtain ⟨w,i,_⟩:=x_
 obtain ⟨hn,hq⟩:=H_
 have hn:okW w∧0≤i∧i<512:=hn
 refine (aG mixed aD Tryz.func122 rfl (LT:= []) (ks:=kK) (aP.nil _)).use (D:= []) ?_ hq
 show (aY _ _ _ _ (wiA.wr (w,i,())) [] _).sat _
 rw[Sa]
 obtain ⟨hw,h0,h1⟩:=hn
 obtain ⟨k,rfl⟩:=Int.eq_ofNat_of_zero_le h0
 have hk:k<512:=by omega
 have e1:IntKind.i64.wrap ((k:Int).tdiv 64)=((k/64:Nat):Int):=ko k 64 (by omega)
 rw[e1,show (k:Int).tmod 64=((k%64:Nat):Int) from amR k 64,Fb hw,Int.toNat_natCast,YJ hw.2 hw.1 hk]
 exact ⟨by omega,by omega,rfl,rfl⟩
noncomputable abbrev ale:au:=e0W gy
theorem MC:aY Tryz.prog [] [] Tryz.f124 [] [] [.fr [.sym],.lN 0 0 8 .u64,.auto]= .leaf (jI .u64 8 gy) []:=by kernel_rfl
theorem YP:ale.Ok Tryz.prog 124:=by
 refine (au.bE Tryz.call124 fun x_ y_ Q H_=>?_).sym
 refine (aG mixed aD Tryz.func124 rfl (LT:= []) (ks:= [.fr [.sym],.lN 0 0 8 .u64,.auto]) (aP.nil _)).use (D:= []) ?_ H_.2
 show (aY _ _ _ _ [] [] _).sat _
 rw[MC]
 exact ⟨rfl,rfl⟩
noncomputable abbrev alf:Func:=Tryz.f88
abbrev reC:a9 (List LV) (Int×Unit):=(jk 1 (ak (ah (aJ 0 0)) (ak (ah (aJ 1 0)) (ak (ah (aJ 2 0)) (ae (ah (ay .i64)) (jk 27 ag))))))
abbrev atC:Wk:= .fr (cK 32 [(1,.an),(2,.an),(3,.an),(4,.sym)])
abbrev reX:a9 (List LV) (Unit):=(jk 2 (ak (ah (aJ 1 0)) (ak (ah (aJ 2 0)) (jk 28 ag))))
abbrev awO:Wk:= .fr (cK 32 [(2,.an),(3,.an)])
abbrev reH:a9 Hp (List Int×List Int×List Int×Unit):=ae iW (ae iB (ae iW ag))
def reW:Exit→List Wk
 | .normal=> [atC,iG 0,.gC 1 0 32 .u8,iG 2,.auto]
 | .exit 0=> [awO,iG 0,.gC 1 0 32 .u8,iG 2]
 |_=> []
noncomputable abbrev agN (and:List Int→List Int→List Int) (less:List Int→List Int→List Int×Int) (bit:List Int→Int→Int) (o:List Int):List (FuncId×au):= [(95,eWW and),(122,atk bit),(123,amT less),(124,e0W o)]
theorem apw (and:List Int→List Int→List Int) (less:List Int→List Int→List Int×Int) (bit:List Int→Int→Int) (o:List Int) (i:Int) (w b r:List Int):c8 Tryz.prog (agN and less bit o) [] alf 0 [] reW ((bH reC reH).wr ((i,()),(w,b,r,())))=
 a6.ite (decide ((0:Int)≤i)) (a6.need (okW r∧okW r) (a6.need (okW w∧(0:Int)≤i∧i<(512:Int)) (a6.need (okW ((and r r).set (0:Nat)
 (bD IntKind.u64 ((and r r).getD (0:Nat) (0:Int)) (bit w i)))∧okW o) (a6.ite ((less ((and r r).set (0:Nat) (bD IntKind.u64 ((and r
 r).getD (0:Nat) (0:Int)) (bit w i))) o).snd==(0:Int)) (a6.leaf Exit.normal ((bH reC reH).wr ((IntKind.i64.wrap (i-(1:Int)),PUnit.unit),
 w,b,(less ((and r r).set (0:Nat) (bD IntKind.u64 ((and r r).getD (0:Nat) (0:Int)) (bit w i))) o).fst,PUnit.unit))) (a6.leaf Exit.normal
 ((bH reC reH).wr ((IntKind.i64.wrap (i-(1:Int)),PUnit.unit),w,b,(and r r).set (0:Nat) (bD IntKind.u64 ((and r r).getD (0:Nat) (0:
 Int)) (bit w i)),PUnit.unit))))))) (a6.leaf (Exit.exit (0:Nat)) ((bH reX reH).wr (PUnit.unit,w,b,r,PUnit.unit))):=by kernel_rfl
theorem MD: ∀ p∈agN jD jR oh gy,p.2.Ok Tryz.prog p.1:=ao Vc (ao agM (ao agL (ao YP aD)))
def atD (g:List Int→List Int) (x:(Int×Unit)×List Int×List Int×List Int×Unit):a6:= .need (x.1.1=511∧okW x.2.1∧x.2.2.2.1=List.replicate 8 0) (.leaf (.exit 0) ((bH reX reH).wr ((),(x.2.1,x.2.2.1,g x.2.1,()))))
noncomputable def ME (w:List Int):List Int:=dg qq 8 (vd qq w%ll)
noncomputable def gg (V:Int) (k:Nat):List Int:=dg qq 8 (V/2 ^ (512-k)%ll)
theorem YQ (V:Int) (k:Nat) (hk:k<512) (b:Int) (hb:0≤b∧b<2):okW (gg V k)∧okW (l6 (jD (gg V k) (gg V k)) b):=by
 refine ⟨⟨cP _ _,oC bF _ _⟩,?_⟩
 have hR:0≤V/2 ^ (512-k)%ll∧V/2 ^ (512-k)%ll<ll:=⟨Int.emod_nonneg _ (by have:=lZ;omega),Int.emod_lt_of_pos _ lZ⟩
 have es:jD (gg V k) (gg V k)=dg qq 8 (V/2 ^ (512-k)%ll+V/2 ^ (512-k)%ll):=by
  unfold jD gg
  rw[na bF,Int.emod_eq_of_lt hR.1 (Int.lt_of_lt_of_le (Int.lt_trans (by omega) Mv) qq8)]
 rw[es,Va hR hb]
 exact ⟨cP _ _,oC bF _ _⟩
theorem alh (x):Ex Tryz.prog [] (.loop (aU alf 0)) ((bH reC reH).wr x) (atD ME x):=by
 obtain ⟨⟨i,_⟩,w,b,r,_⟩:=x
 refine Ex.need fun ⟨h1,h2,h3⟩=>?_
 simp only at h1 h2 h3
 subst h1 h3
 have hw0:=fJ bF h2.2
 have hw1:=rZ bF h2.2
 rw[h2.1] at hw1
 have key:=hZ (fn:=alf) (id:=0) (j:=0) (ws:=reW) (hp:= []) mixed MD (aP.nil _) 512 (fun k (_:Unit)=>(bH reC reH).wr ((511-(k:Int),()),(w,b,gg (vd qq w) k,()))) (fun _=>(bH reX reH).wr ((),(w,b,ME w,()))) (fun _ u=>u) (fun _ _=>True)
  (fun k o R hk _ hn hx=>?_) (fun _ _ _ _=>trivial) 0 () (by omega) trivial
 ·have e:gg (vd qq w) 0=List.replicate 8 0:=by
   unfold gg
   have e:qq ^ 8=2 ^ 512:=by decide+kernel
   rw[Nat.sub_zero,Int.ediv_eq_zero_of_lt hw0 (by rw[← e];exact hw1),Int.zero_emod,U8 bF]
  rw[e] at key;exact key
 rw[apw]
 refine ⟨fun hb=>?_,fun hb=>?_⟩
 ·have oq:k<512:=by have:=of_decide_eq_true hb;omega
  have e3:IntKind.i64.wrap ((511-(k:Int))-1)=511-((k+1:Nat):Int):=by rw[aq (by omega) (by omega)];omega
  obtain ⟨g1,g2⟩:=YQ (vd qq w) k oq (oh w (511-(k:Int))) (ak0 _ _)
  have hs:R8 jD jR oh gy w k (gg (vd qq w) k)=gg (vd qq w) (k+1):=agE rfl oq
  have AN:=hn oq
  rw[e3]
  refine ⟨⟨g1,g1⟩,⟨h2,by omega,by omega⟩,⟨g2,agD⟩,fun hc=>?_,fun hc=>?_⟩
  ·have:R8 jD jR oh gy w k (gg (vd qq w) k)=(jR (l6 (jD (gg (vd qq w) k) (gg (vd qq w) k)) (oh w (511-(k:Int)))) gy).1:=by
    have se:((jR (l6 (jD (gg (vd qq w) k) (gg (vd qq w) k)) (oh w (511-(k:Int)))) gy).2==0)=true:=hc
    unfold R8;rw[se];rfl
   rw[← hs,this] at AN;exact AN
  ·have:R8 jD jR oh gy w k (gg (vd qq w) k)=l6 (jD (gg (vd qq w) k) (gg (vd qq w) k)) (oh w (511-(k:Int))):=by
    have se:((jR (l6 (jD (gg (vd qq w) k) (gg (vd qq w) k)) (oh w (511-(k:Int)))) gy).2==0)=false:=hc
    unfold R8;rw[se];rfl
   rw[← hs,this] at AN;exact AN
 ·have:k=512:=by have:=of_decide_eq_false hb;omega
  subst this
  have:=hx rfl
  have e:gg (vd qq w) 512=ME w:=by unfold gg ME;rw[Nat.sub_self,Int.pow_zero,Int.ediv_one]
  rw[e];exact this
noncomputable abbrev atE (g:List Int→List Int):eW:= [(0,fw (bH reC reH) 0 [atC,iG 0,.gC 1 0 32 .u8,iG 2,.auto] (atD g))]
noncomputable abbrev atG:au:=eWB yw
noncomputable abbrev agO (and:List Int→List Int→List Int) (less:List Int→List Int→List Int×Int) (bit:List Int→Int→Int) (o:List Int) (byt:List Int→List Int):List (FuncId×au):=(125,eWB byt)::agN and less bit o
theorem YR: ∀ p∈agO jD jR oh gy yu,p.2.Ok Tryz.prog p.1:=ao YN MD
theorem YS (and:List Int→List Int→List Int) (less:List Int→List Int→List Int×Int) (bit:List Int→Int→Int) (o:List Int) (byt:List Int→List Int) (g:List Int→List Int) (w:List Int):aY Tryz.prog (agO and less bit o byt) (atE g) alf (wA.wr (w,())) [] kR=
 End.need ((511:Int)=(511:Int)∧okW w∧ [(0:Int),(0:Int),(0:Int),(0:Int),(0:Int),(0:Int),(0:Int),(0:Int)]=List.replicate
 (8:Nat) (0:Int)) (End.need (okW (g w)) (End.leaf (LV.one (VV.agg [SV.arr (Ty.int IntKind.u8) (32:Nat) (byt (g w))])) [])):=by kernel_rfl
theorem ali (w:List Int):okW (ME w):=⟨cP _ _,oC bF _ _⟩
theorem apx (w:List Int):yu (ME w)=yw w:=by
 unfold yu yw ME
 rw[na bF,Int.emod_eq_of_lt (Int.emod_nonneg _ (by have:=lZ;omega)) (Int.lt_of_lt_of_le (Int.lt_trans (Int.emod_lt_of_pos _ lZ) (by have:=Mv;have:=lZ;omega)) qq8)]
theorem Vd:atG.Ok Tryz.prog 88:=by
 refine (au.bE Tryz.call88 fun x_ y_ Q H_=>?_).sym
 obtain ⟨w,_⟩:=x_
 obtain ⟨hn,hq⟩:=H_
 have hn:okW w:=hn
 refine (aG mixed YR Tryz.func88 rfl (LT:=atE ME) (ks:=kR) (aP.cy (jr rfl (c5 (hp:= []) alh) jH))).use (D:= []) ?_ hq
 show (aY _ _ _ _ (wA.wr (w,())) [] _).sat _
 rw[YS]
 refine ⟨⟨rfl,hn,rfl⟩,ali w,?_,rfl⟩
 rw[apx]
end Go.Proofs.YtjalaohajcpllaaGreat
end
section
set_option linter.unusedVariables false
set_option linter.unusedSimpArgs false
namespace Go.Proofs.YtjalaohajcpllaaGreat
open Go Go.Ev BJ
set_option maxRecDepth 1000000
noncomputable abbrev IK:Func:=Tryz.f94
abbrev tjC:a9 (List LV) (Int×Int×Int×Int×Unit):=(jk 2 (ak (ah (aJ 0 0)) (ak (ah (aJ 1 0)) (ak (ah (aJ 2 0)) (ak (ah (aJ 3 0)) (ae (ah (ay .i64)) (ae (ah (ay .u64)) (jk 4 (ae (ah (ay .i64)) (jk 2 (ae (ah (ay .i64)) (jk 45 ag))))))))))))
abbrev atI:Wk:= .fr (cK 61 [(2,.an),(3,.an),(4,.an),(5,.an),(6,.sym),(7,.sym),(12,.sym),(15,.sym)])
abbrev tjX:a9 (List LV) (Int×Int×Int×Unit):=(jk 2 (ak (ah (aJ 0 0)) (ak (ah (aJ 1 0)) (ak (ah (aJ 2 0)) (ak (ah (aJ 3 0)) (ae (ah (ay .i64)) (ae (ah (ay .u64)) (jk 4 (ae (ah (ay .i64)) (jk 48 ag))))))))))
abbrev awQ:Wk:= .fr (cK 61 [(2,.an),(3,.an),(4,.an),(5,.an),(6,.sym),(7,.sym),(12,.sym)])
abbrev tiC:a9 (List LV) (Int×Unit):=(jk 2 (ak (ah (aJ 0 0)) (ak (ah (aJ 1 0)) (ak (ah (aJ 2 0)) (ak (ah (aJ 3 0)) (jk 6 (ae (ah (ay .i64)) (jk 48 ag))))))))
abbrev atK:Wk:= .fr (cK 61 [(2,.an),(3,.an),(4,.an),(5,.an),(12,.sym)])
abbrev tiX:a9 (List LV) (Unit):=(jk 4 (ak (ah (aJ 2 0)) (ak (ah (aJ 3 0)) (jk 55 ag))))
abbrev awS:Wk:= .fr (cK 61 [(4,.an),(5,.an)])
abbrev M4:a9 Hp (List Int×List Int×List Int×List Int×Unit):=ae iW (ae iW (ae iW (ae iW ag)))
def tjW:Exit→List Wk
 | .normal=> [atI,iG 0,iG 1,iG 2,iG 3,.auto]
 | .exit 2=> [awQ,iG 0,iG 1,iG 2,iG 3,.auto]
 |_=> []
def apy (mu:Int→Int→Int×Int):au:=au.bV [] (ae (ah (ay .u64)) (ae (ah (ay .u64)) ag)) ag fun x _=> .leaf none (.cV [.sc (.int .u64 (.sym (mu x.1 x.2.1).1)),.sc (.int .u64 (.sym (mu x.1 x.2.1).2))]) []
noncomputable abbrev Ve (ad:Int→Int→Int→Int×Int) (mu:Int→Int→Int×Int):List (FuncId×au):= [(138,(lE ad).sym),(137,apy mu)]
theorem apz (ad:Int→Int→Int→Int×Int) (mu:Int→Int→Int×Int) (u c i j:Int) (a b r o:List Int):c8 Tryz.prog (Ve ad mu) [] IK 2 [] tjW ((bH tjC M4).wr ((u,c,i,j,()),(a,b,r,o,())))=
 a6.ite (decide (j<(4:Int))) (a6.need ((0:Int)≤u∧u<(8:Int)) (a6.need ((0:Int)≤j∧j<(8:Int)) (a6.need ((0:Int)≤(0:Int)∧
 (0:Int)≤(1:Int)) (a6.need ((0:Int)≤IntKind.i64.wrap (u+j)∧IntKind.i64.wrap (u+j)<(8:Int)) (a6.need ((0:Int)≤(0:Int)∧(0:
 Int)≤(1:Int)) (a6.need ((0:Int)≤IntKind.i64.wrap (u+j)∧IntKind.i64.wrap (u+j)<(8:Int)) (a6.leaf Exit.normal ((bH tjC M4).wr ((u,
 IntKind.u64.wrap (IntKind.u64.wrap ((mu ((List.take (8:Nat) (List.drop (0:Nat) a)).getD u.toNat (0:Int)) ((List.take (8:Nat) (List.drop (0:
 Nat) b)).getD j.toNat (0:Int))).fst+(ad (mu ((List.take (8:Nat) (List.drop (0:Nat) a)).getD u.toNat (0:Int)) ((List.take (8:Nat) (List.drop
 (0:Nat) b)).getD j.toNat (0:Int))).snd c (0:Int)).snd)+(ad ((List.take (8:Nat) (List.drop (0:Nat) o)).getD (IntKind.i64.wrap (u+j)).toNat
 (0:Int)) (ad (mu ((List.take (8:Nat) (List.drop (0:Nat) a)).getD u.toNat (0:Int)) ((List.take (8:Nat) (List.drop (0:Nat) b)).getD j.toNat
 (0:Int))).snd c (0:Int)).fst (0:Int)).snd),i,IntKind.i64.wrap (j+(1:Int)),PUnit.unit),a,b,r,o.set ((0:Nat)+(IntKind.i64.wrap (u+
 j)).toNat) (ad ((List.take (8:Nat) (List.drop (0:Nat) o)).getD (IntKind.i64.wrap (u+j)).toNat (0:Int)) (ad (mu ((List.take (8:Nat) (List.drop
 (0:Nat) a)).getD u.toNat (0:Int)) ((List.take (8:Nat) (List.drop (0:Nat) b)).getD j.toNat (0:Int))).snd c (0:Int)).fst (0:Int)).fst,
 PUnit.unit))))))))) (a6.leaf (Exit.exit (2:Nat)) ((bH tjX M4).wr ((u,c,i,PUnit.unit),a,b,r,o,PUnit.unit))):=by kernel_rfl
theorem agP:afY=apy bs:=by kernel_rfl
theorem YT:(apy bs).Ok Tryz.prog 137:=agP▸L6
theorem Dg: ∀ p∈Ve bB bs,p.2.Ok Tryz.prog p.1:=ao CY (ao YT aD)
abbrev tjT:Type:=(Int×Int×Int×Int×Unit)×List Int×List Int×List Int×List Int×Unit
def atL (g:List Int→List Int→Int→List Int→Int×List Int) (x:tjT):a6:= .need (x.1.2.2.2.1=0∧x.1.2.1=0∧0≤x.1.1∧x.1.1<4∧okW x.2.1∧okW x.2.2.1∧okW x.2.2.2.2.1) (.leaf (.exit 2) ((bH tjX M4).wr ((x.1.1,(g x.2.1 x.2.2.1 x.1.1 x.2.2.2.2.1).1,x.1.2.2.1,()),(x.2.1,x.2.2.1,x.2.2.2.1,(g x.2.1 x.2.2.1 x.1.1 x.2.2.2.2.1).2,()))))
noncomputable def tjG (a b:List Int) (u:Int) (o:List Int):Int×List Int:=upto (Mx bs bB a b u.toNat) 0 4 (0,o)
theorem alj (x:tjT):Ex Tryz.prog [] (.loop (aU IK 2)) ((bH tjC M4).wr x) (atL tjG x):=by
 obtain ⟨⟨u,c,i,j,_⟩,a,b,r,o,_⟩:=x
 refine Ex.need fun ⟨h1,h2,h3,h4,h5,h6,h7⟩=>?_
 simp only at h1 h2 h3 h4 h5 h6 h7
 subst h1 h2
 obtain ⟨u,rfl⟩:=Int.eq_ofNat_of_zero_le h3
 have hu:u<4:=by omega
 have key:=hZ (fn:=IK) (id:=2) (j:=2) (ws:=tjW) (hp:= []) mixed Dg (aP.nil _) 4 (fun k (s:Int×List Int)=>(bH tjC M4).wr (((u:Int),s.1,i,(k:Int),()),(a,b,r,s.2,()))) (fun (s:Int×List Int)=>(bH tjX M4).wr (((u:Int),s.1,i,()),(a,b,r,s.2,()))) (Mx bs bB a b u) (ak1 a b o u)
  (fun k s R hk hi hn hx=>?_) (fun k s hk hi=>Fa h5.2 h6.2 h6.1 hu hk hi) 0 (0,o) (by omega) ⟨h7.1,h7.2,by unfold xe;omega,fun _ _=>rfl,by simp[vd]⟩
 ·exact key
 rw[apz bB bs]
 refine ⟨fun hb=>?_,fun hb=>?_⟩
 ·have oq:k<4:=by have:=of_decide_eq_true hb;omega
  have e:IntKind.i64.wrap ((u:Int)+(k:Int))=((u+k:Nat):Int):=by rw[aq (by omega) (by omega)];omega
  rw[e,cn hi.len,Fb h5,Fb h6,Int.toNat_natCast,Int.toNat_natCast,Int.toNat_natCast,Nat.zero_add,eB k (by omega)]
  exact ⟨by omega,by omega,by decide,by omega,by decide,by omega,hn oq⟩
 ·have:k=4:=by have:=of_decide_eq_false hb;omega
  exact hx this
noncomputable abbrev atM (g:List Int→List Int→Int→List Int→Int×List Int):eW:= [(2,fw (bH tjC M4) 0 [atI,iG 0,iG 1,iG 2,iG 3,.auto] (atL g))]
def tiW:Exit→List Wk
 | .normal=> [atK,iG 0,iG 1,iG 2,iG 3,.auto]
 | .exit 0=> [awS,iG 0,iG 1,iG 2,iG 3]
 |_=> []
theorem apA (g:List Int→List Int→Int→List Int→Int×List Int) (ad:Int→Int→Int→Int×Int) (mu:Int→Int→Int×Int) (i:Int) (a b r o:List Int):c8 Tryz.prog (Ve ad mu) (atM g) IK 0 [] tiW ((bH tiC M4).wr ((i,()),(a,b,r,o,())))=
 a6.ite (decide (i<(4:Int))) (a6.need ((0:Int)=(0:Int)∧(0:Int)=(0:Int)∧(0:Int)≤i∧i<(4:Int)∧okW a∧okW b∧okW o)
 (a6.need ((0:Int)≤IntKind.i64.wrap (i+(4:Int))∧IntKind.i64.wrap (i+(4:Int))<(8:Int)) (a6.leaf Exit.normal ((bH tiC M4).wr
 ((IntKind.i64.wrap (i+(1:Int)),PUnit.unit),a,b,r,(g a b i o).snd.set ((0:Nat)+(IntKind.i64.wrap (i+(4:Int))).toNat) (g a b i o).fst,
 PUnit.unit))))) (a6.leaf (Exit.exit (0:Nat)) ((bH tiX M4).wr (PUnit.unit,a,b,r,o,PUnit.unit))):=by kernel_rfl
abbrev tiT:Type:=(Int×Unit)×List Int×List Int×List Int×List Int×Unit
def atN (g:List Int→List Int→List Int) (x:tiT):a6:= .need (x.1.1=0∧okW x.2.1∧okW x.2.2.1∧x.2.2.2.2.1=List.replicate 8 0) (.leaf (.exit 0) ((bH tiX M4).wr ((),(x.2.1,x.2.2.1,x.2.2.2.1,g x.2.1 x.2.2.1,()))))
theorem alk: ∀ p∈atM tjG,lO (fT (aH IK) p.1)=true∧ ∀ st,Ex Tryz.prog [] (.loop (aU IK p.1)) st (p.2 st):=jr rfl (c5 (hp:= []) alj) jH
theorem alm (x:tiT):Ex Tryz.prog [] (.loop (aU IK 0)) ((bH tiC M4).wr x) (atN l7 x):=by
 obtain ⟨⟨i,_⟩,a,b,r,o,_⟩:=x
 refine Ex.need fun ⟨h1,h2,h3,h4⟩=>?_
 simp only at h1 h2 h3 h4
 subst h1 h4
 have key:=hZ (fn:=IK) (id:=0) (j:=0) (ws:=tiW) (hp:= []) mixed Dg (aP.inner rfl alk) 4 (fun k (o:List Int)=>(bH tiC M4).wr (((k:Int),()),(a,b,r,o,()))) (fun (o:List Int)=>(bH tiX M4).wr ((),(a,b,r,o,()))) (agG bs bB a b) (ak2 a b)
  (fun k o R hk hi hn hx=>?_) (fun k o hk hi=>yx h2.2 h3.2 h2.1 h3.1 hk hi) 0 (List.replicate 8 0) (by omega) ⟨by simp,fI.Uy bF 8,fun i _=>by
  rw[List.getD_eq_getElem?_getD,List.getElem?_replicate];split<;>rfl,by rw[Df];simp[vd]⟩
 ·rw[Nat.sub_zero,YM h2.2 h3.2 h2.1 h3.1] at key;exact key
 rw[apA]
 refine ⟨fun hb=>?_,fun hb=>?_⟩
 ·have oq:k<4:=by have:=of_decide_eq_true hb;omega
  have e:IntKind.i64.wrap ((k:Int)+4)=((k+4:Nat):Int):=by rw[aq (by omega) (by omega)];omega
  have hs:=yx h2.2 h3.2 h2.1 h3.1 oq hi
  have AN:=hn oq
  rw[e,eB k (by omega),Int.toNat_natCast,Nat.zero_add]
  exact ⟨⟨rfl,rfl,by omega,by omega,h2,h3,hi.len,hi.YK⟩,by omega,AN⟩
 ·have:k=4:=by have:=of_decide_eq_false hb;omega
  exact hx this
noncomputable abbrev atO (g:List Int→List Int→List Int):eW:= [(0,fw (bH tiC M4) 0 [atK,iG 0,iG 1,iG 2,iG 3,.auto] (atN g))]
noncomputable abbrev aln:au:=eWW l7
theorem MF (g:List Int→List Int→List Int) (ad:Int→Int→Int→Int×Int) (mu:Int→Int→Int×Int) (w x:List Int):aY Tryz.prog (Ve ad mu) (atO g) IK (w2A.wr (w,x,())) [] [.fr [.sym],.lN 0 0 8 .u64,.auto]=
 End.need ((0:Int)=(0:Int)∧okW w∧okW x∧ [(0:Int),(0:Int),(0:Int),(0:Int),(0:Int),(0:Int),(0:Int),(0:Int)]=
 List.replicate (8:Nat) (0:Int)) (End.leaf (LV.one (VV.agg [SV.arr (Ty.int IntKind.u64) (8:Nat) (g w x)])) []):=by kernel_rfl
theorem YU:aln.Ok Tryz.prog 94:=by
 refine (au.bE Tryz.call94 fun x_ y_ Q H_=>?_).sym
 obtain ⟨w,x,_⟩:=x_
 obtain ⟨hn,hq⟩:=H_
 have hn:okW w∧okW x:=hn
 refine (aG mixed Dg Tryz.func94 rfl (LT:=atO l7) (ks:= [.fr [.sym],.lN 0 0 8 .u64,.auto]) (aP.cy (jr rfl (c5 (hp:= []) alm) jH))).use (D:= []) ?_ hq
 show (aY _ _ _ _ (w2A.wr (w,x,())) [] _).sat _
 rw[MF]
 exact ⟨⟨rfl,hn.1,hn.2,rfl⟩,rfl,rfl⟩
abbrev b3A:a9 (List LV) (List Int×List Int×List Int×Unit):=ae cB (ae cB (ae cB ag))
abbrev apB:a9 (List LV) (List Int×Unit):=ae (ND .u8 64) ag
noncomputable def s9 (b:List Int):List Int:=dg 256 32 (vd 256 b%ll)
noncomputable def zi (a b c:List Int):List Int:=dg 256 32 ((vd 256 a*vd 256 b+vd 256 c)%ll)
def MG (g:List Int→List Int):au:=au.bV [] apB ag fun x _=> .leaf (some (x.1.length=64∧aC x.1)) (jI .u8 32 (g x.1)) []
def eB3 (g:List Int→List Int→List Int→List Int):au:=au.bV [] b3A ag fun x _=> .leaf (some (okB x.1∧okB x.2.1∧okB x.2.2.1)) (jI .u8 32 (g x.1 x.2.1 x.2.2.1)) []
theorem IL (b:List Int):okW (xf b):=agH b
theorem alo (w x:List Int):okW (jD w x):=⟨cP _ _,oC bF _ _⟩
theorem YV (w x:List Int):okW (l7 w x):=⟨cP _ _,oC bF _ _⟩
theorem okB.val {b:List Int} (h:okB b):vd qq (xf b)=vd 256 b:=Vb h.2 (by rw[h.1];decide)
theorem okB.range {b:List Int} (h:okB b):0≤vd 256 b∧vd 256 b<2 ^ 256:=by
 have h1:=fJ (by decide) (show fI 256 b from h.2)
 have h2:=rZ (by decide) (show fI 256 b from h.2)
 have e:(256:Int) ^ 32=2 ^ 256:=by decide+kernel
 rw[h.1,e] at h2
 exact ⟨h1,h2⟩
noncomputable abbrev agQ:au:=MG s9
theorem IM (of:List Int→List Int) (red:List Int→List Int) (b:List Int):aY Tryz.prog [(87,eOf of),(88,eWB red)] [] Tryz.f50 ((apB).wr (b,())) [] kR=
 End.need ((0:Int)≤(0:Int)∧(0:Int)≤(64:Int)∧(64:Int)≤(64:Int)) (End.need (aC (List.take (64:Nat) (List.drop (0:Nat) b))∧
 (List.take (64:Nat) (List.drop (0:Nat) b)).length≤(64:Nat)) (End.need (okW (of (List.take (64:Nat) (List.drop (0:Nat) b)))) (End.leaf
 (LV.one (VV.agg [SV.arr (Ty.int IntKind.u8) (32:Nat) (red (of (List.take (64:Nat) (List.drop (0:Nat) b))))])) []))):=by kernel_rfl
theorem IN: ∀ p_∈([(87,eOf xf),(88,eWB yw)]:List (FuncId×au)),p_.2.Ok Tryz.prog p_.1:=(ao agJ (ao Vd aD))
theorem Dh:agQ.Ok Tryz.prog 50:=by
 refine (au.bE Tryz.call50 fun x_ y_ Q H_=>?_).sym
 obtain ⟨b,_⟩:=x_
 obtain ⟨hn,hq⟩:=H_
 have hn:b.length=64∧aC b:=hn
 refine (aG (tab:= [(87,eOf xf),(88,eWB yw)]) mixed IN Tryz.func50 rfl (LT:= []) (ks:=kR) (aP.nil _)).use (D:= []) ?_ hq
 show (aY _ _ _ _ ((apB).wr (b,())) [] _).sat _
 rw[IM xf yw]
 rw[cn hn.1]
 refine ⟨by decide,⟨hn.2,by rw[hn.1];decide⟩,IL b,?_,rfl⟩
 have:yw (xf b)=s9 b:=by unfold yw s9;rw[Vb hn.2 (by rw[hn.1];decide)]
 rw[this]
theorem agR {x:Int} (h:x<2 ^ 512):x<qq ^ 8:=by
 have e:qq ^ 8=2 ^ 512:=by decide+kernel
 rw[e];exact h
noncomputable abbrev agS:au:=eB3 zi
theorem IP (of:List Int→List Int) (and times:List Int→List Int→List Int) (red:List Int→List Int) (a b c:List Int):aY Tryz.prog [(87,eOf of),(95,eWW and),(94,eWW times),(88,eWB red)] [] Tryz.f54 ((b3A).wr (a,b,c,())) [] kR=
 End.need ((0:Int)≤(0:Int)∧(0:Int)≤(32:Int)∧(32:Int)≤(32:Int)) (End.need (aC (List.take (32:Nat) (List.drop (0:Nat) a))∧
 (List.take (32:Nat) (List.drop (0:Nat) a)).length≤(64:Nat)) (End.need ((0:Int)≤(0:Int)∧(0:Int)≤(32:Int)∧(32:Int)≤(32:
 Int)) (End.need (aC (List.take (32:Nat) (List.drop (0:Nat) b))∧(List.take (32:Nat) (List.drop (0:Nat) b)).length≤(64:Nat)) (End.need
 (okW (of (List.take (32:Nat) (List.drop (0:Nat) a)))∧okW (of (List.take (32:Nat) (List.drop (0:Nat) b)))) (End.need ((0:Int)≤(0:Int)∧
 (0:Int)≤(32:Int)∧(32:Int)≤(32:Int)) (End.need (aC (List.take (32:Nat) (List.drop (0:Nat) c))∧(List.take (32:Nat) (List.drop (0
 :Nat) c)).length≤(64:Nat)) (End.need (okW (times (of (List.take (32:Nat) (List.drop (0:Nat) a))) (of (List.take (32:Nat) (List.drop (0:
 Nat) b))))∧okW (of (List.take (32:Nat) (List.drop (0:Nat) c)))) (End.need (okW (and (times (of (List.take (32:Nat) (List.drop (0:Nat) a)))
 (of (List.take (32:Nat) (List.drop (0:Nat) b)))) (of (List.take (32:Nat) (List.drop (0:Nat) c))))) (End.leaf (LV.one (VV.agg [SV.arr (Ty.int
 IntKind.u8) (32:Nat) (red (and (times (of (List.take (32:Nat) (List.drop (0:Nat) a))) (of (List.take (32:Nat) (List.drop (0:Nat) b)))) (of
 (List.take (32:Nat) (List.drop (0:Nat) c)))))])) []))))))))):=by kernel_rfl
theorem IQ: ∀ p_∈([(87,eOf xf),(95,eWW jD),(94,eWW l7),(88,eWB yw)]:List (FuncId×au)),p_.2.Ok Tryz.prog p_.1:=(ao agJ (ao Vc (ao YU (ao Vd aD))))
theorem Sb:agS.Ok Tryz.prog 54:=by
 refine (au.bE Tryz.call54 fun x_ y_ Q H_=>?_).sym
 obtain ⟨a,b,c,_⟩:=x_
 obtain ⟨hn,hq⟩:=H_
 have hn:okB a∧okB b∧okB c:=hn
 refine (aG (tab:= [(87,eOf xf),(95,eWW jD),(94,eWW l7),(88,eWB yw)]) mixed IQ Tryz.func54 rfl (LT:= []) (ks:=kR) (aP.nil _)).use (D:= []) ?_ hq
 show (aY _ _ _ _ ((b3A).wr (a,b,c,())) [] _).sat _
 rw[IP xf jD l7 yw]
 obtain ⟨ha,hb,hc⟩:=hn
 rw[cn ha.1,cn hb.1,cn hc.1]
 refine ⟨by decide,⟨ha.2,by rw[ha.1];decide⟩,by decide,⟨hb.2,by rw[hb.1];decide⟩,⟨IL a,IL b⟩,by decide,⟨hc.2,by rw[hc.1];decide⟩,⟨YV _ _,IL c⟩,alo _ _,?_,rfl⟩
 have:yw (jD (l7 (xf a) (xf b)) (xf c))=zi a b c:=by
  unfold yw zi jD l7
  have h1:=ha.range
  have h2:=hb.range
  have h3:=hc.range
  have h4:((2:Int) ^ 256-1)*(2 ^ 256-1)+2 ^ 256<2 ^ 512:=by decide+kernel
  have h5:vd 256 a*vd 256 b≤(2 ^ 256-1)*(2 ^ 256-1):=Int.mul_le_mul (by omega) (by omega) h2.1 (by decide+kernel)
  have h6:0≤vd 256 a*vd 256 b:=Int.mul_nonneg h1.1 h2.1
  rw[My ha.2 ha.1,My hb.2 hb.1,na bF,na bF,hc.val,Int.emod_eq_of_lt (a:=vd 256 a*vd 256 b) h6 (agR (Int.lt_trans (by omega) h4)),Int.emod_eq_of_lt (by omega) (agR (Int.lt_trans (by omega) h4))]
 rw[this]
end Go.Proofs.YtjalaohajcpllaaGreat
end
