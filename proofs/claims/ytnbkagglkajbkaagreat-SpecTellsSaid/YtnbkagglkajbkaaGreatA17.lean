/- What the laws lean on, part 17: a reader of code, plain facts, and what each function gives; no conditions. -/
import Derived.Test.YtnbkagglkajbkaaGreatA16
set_option linter.unusedVariables false
set_option linter.unusedSimpArgs false
noncomputable section
namespace Go.Proofs.YtnbkagglkajbkaaGreat
open Go Go.Ev BJ Go.Proofs.Tryz
open Go.IntKind (i64 signed u16 u64 wrap)
set_option maxRecDepth 1000000
abbrev Up:Func:=f240
abbrev twC:aM (List LV) (Int×Unit):=(jk 3 (ai (ah (aC 0 0)) (jk 1 (ai (ah (aC 1 0)) (ai (ah (aC 2 0)) (jk 1 (ai (ah (aC 3 0)) (ai (ah (aC 4 0)) (ae (ah (aA .i64)) (jk 32 ag))))))))))
abbrev aB6:Wk:=.fr (cu 43 [(3,.al),(5,.al),(6,.al),(8,.al),(9,.al),(10,.sym)])
abbrev twX:aM (List LV) (Unit):=(jk 6 (ai (ah (aC 0 0)) (jk 2 (ai (ah (aC 1 0)) (jk 33 ag)))))
abbrev aF9:Wk:=.fr (cu 43 [(6,.al),(9,.al)])
abbrev ptC{Y:Type}(r:aM (List SV) Y):aM (List SV) (Pt×Y):=(ae yX (qH .u64 (qH .u64 (qH .u64 (qH .u64 r 5) 5) 5) 5)).kE (fun x=>((x.1,x.2.1,x.2.2.1,x.2.2.2.1,x.2.2.2.2.1),x.2.2.2.2.2)) (fun y=>(y.1.1,y.1.2.1,y.1.2.2.1,y.1.2.2.2.1,y.1.2.2.2.2,y.2)) (fun _=>rfl)
abbrev aGa:aM (List SV) (Pt×Pt×Pt×Pt×Unit):=ptC (ptC (ptC (ptC ag)))
abbrev twH:aM Hp (List Int×List Int×Pt×(Pt×Pt×Pt×Pt×Unit)×Pt×Unit):=ae (gL 22 .u8 32) (ae (gL 22 .u8 32) (ae iPt (ae (dH 362 aGa) (ae iPt ag))))
def twW:Exit→List Wk
 | .normal=> [aB6,aqI 2,.aW 3 (List.replicate 84 .sym),aqI 4,.auto]
 | .exit 0=> [aF9,.auto]
 |_=> []
abbrev twI(bit:List Int→Int→Int)(a b:List Int)(i:Int):Int:=i64.wrap (bit a i+i64.wrap (2*bit b i))
theorem axh(bit:List Int→Int→Int)(dbl:Pt→Pt)(add:Pt→Pt→Pt)(a b:List Int)(r p0 p1 p2 p3 o:Pt)(i:Int):cO Tryz.prog [(191,eBi bit),(190,JN dbl),(192,e2Q add)] [] Up 0 [] twW ((aS twC twH).wr ((i,()),(a,b,r,(p0,p1,p2,p3,()),o,())))=
  .ite (decide (0≤i)) (.need (a.length=32∧0≤i∧i<256) (.need (b.length=32∧0≤i∧i<256) (.ite (decide (0<twI bit a b i))
   (.need (0≤twI bit a b i∧twI bit a b i<4) (.leaf .normal ((aS twC twH).wr ((i64.wrap (i-1),()),(a,b,r,(p0,p1,p2,p3,()),add (dbl o) (yw (twI bit a b i) [p0,p1,p2,p3]),())))))
   (.leaf .normal ((aS twC twH).wr ((i64.wrap (i-1),()),(a,b,r,(p0,p1,p2,p3,()),dbl o,())))))))
   (.leaf (.exit 0) ((aS twX aqH).wr ((),(r,o,())))):=by kernel_rfl
def twG(bit:List Int→Int→Int)(dbl:Pt→Pt)(add:Pt→Pt→Pt)(a b:List Int)(l:List Pt)(k:Nat)(r:Pt):Pt:=bif decide (0<twI bit a b (255-(k:Int)))then add (dbl r) (yw (twI bit a b (255-(k:Int))) l)else dbl r
abbrev twT:Type:=(Int×Unit)×List Int×List Int×Pt×(Pt×Pt×Pt×Pt×Unit)×Pt×Unit
def axi(w:List Int→List Int→Pt→Pt→Pt→Pt→Pt→Pt)(x:twT):aK:=.need (x.1.1=255∧x.2.1.length=32∧x.2.2.1.length=32) (.leaf (.exit 0) ((aS twX aqH).wr ((),(x.2.2.2.1,w x.2.1 x.2.2.1 x.2.2.2.2.1.1 x.2.2.2.2.1.2.1 x.2.2.2.2.1.2.2.1 x.2.2.2.2.1.2.2.2.1 x.2.2.2.2.2.1,()))))
theorem Yd{a:List Int}{i:Int}:l7 a i=0∨l7 a i=1:=akr _
theorem acm(a b:List Int)(i:Int):0≤twI l7 a b i∧twI l7 a b i<4:=by
 rcases Yd (a:=a) (i:=i)with h|h<;>rcases Yd (a:=b) (i:=i)with h'|h'<;>unfold twI<;>rw[h,h']<;>decide
theorem aqK(x:twT):Ex Tryz.prog [] (.loop (aO Up 0)) ((aS twC twH).wr x) (.need (x.1.1=255∧x.2.1.length=32∧x.2.2.1.length=32) (.leaf (.exit 0) ((aS twX aqH).wr ((),(x.2.2.2.1,gw (twG l7 dS er x.2.1 x.2.2.1 [x.2.2.2.2.1.1,x.2.2.2.2.1.2.1,x.2.2.2.2.1.2.2.1,x.2.2.2.2.1.2.2.2.1]) 256 x.2.2.2.2.2.1,()))))):=by
 obtain⟨⟨i,_⟩,a,b,r,⟨p0,p1,p2,p3,_⟩,o,_⟩:=x;refine Ex.need fun⟨h1,h2,h3⟩=>?_;simp only at h1 h2 h3;subst h1
 have key:=dN (fn:=Up) (id:=0) (j:=0) (ws:=twW) (hp:= []) mixed akW (aH.nil _) 256 (fun k o=>(aS twC twH).wr ((255-(k:Int),()),(a,b,r,(p0,p1,p2,p3,()),o,()))) (fun o=>(aS twX aqH).wr ((),(r,o,()))) (twG l7 dS er a b [p0,p1,p2,p3]) (fun _ _=>True)
  (fun k o R hk _ hn hx=>?_) (fun _ _ _ _=>trivial) 0 o (by omega) trivial
 ·rw[Nat.sub_zero,nP]at key;exact key
 rw[axh];refine⟨fun hb=>?_,fun hb=>?_⟩
 ·have jz:k<256:=by have:=of_decide_eq_true hb;omega
  have ob:=hn jz;have e3:i64.wrap ((255-(k:Int))-1)=255-((k+1:Nat):Int):=by rw[ao (by omega) (by omega)];omega
  rw[e3];refine⟨⟨h2,by omega,by omega⟩,⟨h3,by omega,by omega⟩,fun hc=>⟨acm _ _ _,?_⟩,fun hc=>?_⟩
  ·have:twG l7 dS er a b [p0,p1,p2,p3] k o=er (dS o) (yw (twI l7 a b (255-(k:Int))) [p0,p1,p2,p3]):=(by unfold twG;rw[hc];rfl);rw[this]at ob;exact ob
  ·have:twG l7 dS er a b [p0,p1,p2,p3] k o=dS o:=(by unfold twG;rw[hc];rfl);rw[this]at ob;exact ob
 ·have:k=256:=by have:=of_decide_eq_false hb;omega
  exact hx this
abbrev axj(w:List Int→List Int→Pt→Pt→Pt→Pt→Pt→Pt):dG:= [(0,dc (aS twC twH) 0 [aB6,.auto,aqI 2,.aW 3 (List.replicate 84 .sym),aqI 4] (axi w))]
abbrev twA:aM (List LV) (List Int×Pt×List Int×Unit):=ae cB (ae Eh (ae cB ag))
def eTw(g:List Int→Pt→List Int→Pt):an:=an.cl [] twA ag fun x _=>.leaf (some (x.1.length=32∧x.2.2.1.length=32)) (Eh.wr (g x.1 x.2.1 x.2.2.1)) []
abbrev akY(z b:Pt)(bit:List Int→Int→Int)(dbl:Pt→Pt)(add:Pt→Pt→Pt):List (FuncId×an):= [(191,eBi bit),(190,JN dbl),(192,e2Q add),(189,e0Q z),(134,e0Q b)]
theorem acn(z b:Pt)(w:List Int→List Int→Pt→Pt→Pt→Pt→Pt→Pt)(bit:List Int→Int→Int)(dbl:Pt→Pt)(add:Pt→Pt→Pt)(n m:List Int)(p:Pt):aG Tryz.prog (akY z b bit dbl add) (axj w) Up (twA.wr (n,p,m,())) [] kK=
  .need ((255:Int)=255∧n.length=32∧m.length=32) (.leaf (Eh.wr (w n m z p b (add p b) z)) []):=by kernel_rfl
theorem Ye:∃f:List Int→Pt→List Int→Pt,∀n p m,f n p m=aks (kP n) p (kP m):=⟨fun n p m=>aks (kP n) p (kP m),fun _ _ _=>rfl⟩
def EH:List Int→Pt→List Int→Pt:=Classical.choose Ye
theorem Yf(n:List Int)(p:Pt)(m:List Int):EH n p m=aks (kP n) p (kP m):=Classical.choose_spec Ye n p m
def Uq(a b:List Int)(p0 p1 p2 p3 o:Pt):Pt:=gw (twG l7 dS er a b [p0,p1,p2,p3]) 256 o
theorem axk(a b:List Int)(l:Vec Pt 4)(k:Nat)(hk:k<256)(r:Pt):twG l7 dS er a b l.toList k r=sa mw dS er (kP a) (kP b) l (255-(k:Int)) r:=by
 unfold twG sa aqi twI l7;rw[jg];rfl
theorem aqL(n m:List Int)(p:Pt):Uq n m gk p ic (er p ic) gk=EH n p m:=by
 rw[Yf];unfold Uq aks aub;exact oU (fun k hk r=>axk n m (aqh gk p ic (er p ic)) k hk r) gk 256 (Nat.le_refl _)
theorem akZ{n m:List Int}{V W:Pt}(hn:n.length=32)(hm:m.length=32)(h:V=W):(Ev.End.need ((255:Int)=255∧n.length=32∧m.length=32) (.leaf (Eh.wr V) [])).sat fun v dB=>v=Eh.wr W∧dB= []:=by
 subst h;exact⟨⟨rfl,hn,hm⟩,rfl,rfl⟩
theorem ak0(a b:List Int)(p0 p1 p2 p3 o:Pt):Uq a b p0 p1 p2 p3 o=gw (twG l7 dS er a b [p0,p1,p2,p3]) 256 o:=rfl
theorem ak1(x:twT):Ex Tryz.prog [] (.loop (aO Up 0)) ((aS twC twH).wr x) (axi Uq x):=by
 unfold axi;rw[ak0];exact aqK x
theorem axl:aH Tryz.prog [] (axj Uq) (aF Up):=aH.bK (js rfl (bD (hp:= []) ak1) jt)
theorem axm:∀p∈akY gk ic l7 dS er,p.2.Ok Tryz.prog p.1:=aj Oo (aj DT (aj JS (aj Oh (aj akR ax))))
abbrev aB8:an:=eTw EH
theorem aqM:aB8.Ok Tryz.prog 240:=by
 refine(an.aN call240 fun x_ y_ Q H_=>?_).sym;obtain⟨n,p,m,_⟩:=x_;obtain⟨hn,hq⟩:=H_;have hn:n.length=32∧m.length=32:=hn
 have hc:iq Tryz.prog 240 (twA.wr (n,p,m,())) [] (aG Tryz.prog (akY gk ic l7 dS er) (axj Uq) Up (twA.wr (n,p,m,())) [] kK):=
  ar mixed axm func240 rfl axl
 rw[acn gk ic Uq l7 dS er]at hc;exact hc.use (D:= []) (akZ hn.1 hn.2 (aqL n m p)) hq
end Go.Proofs.YtnbkagglkajbkaaGreat
end
noncomputable section
namespace Go.Ev
open Go
open Go.IntKind (i64 signed u16 u64 wrap)
def vd(B:Int):List Int→Int
 | []=>0
 |x::l=>x+B*vd B l
def dg(B:Int):Nat→Int→List Int
 |0,_=> []
 |n+1,x=>x%B::dg B n (x/B)
def iN(B:Int)(l:List Int):Prop:=∀z∈l,0≤z∧z<B
noncomputable section
variable {B:Int}
theorem iN.tail{x:Int}{l:List Int}(h:iN B (x::l)):iN B l:=fun z hz=>h z (List.mem_cons_of_mem _ hz)
theorem iN.head{x:Int}{l:List Int}(h:iN B (x::l)):0≤x∧x<B:=h x (by simp)
theorem iN.take{l:List Int}(h:iN B l)(n:Nat):iN B (l.take n):=fun z hz=>h z (List.mem_of_mem_take hz)
theorem iN.set{l:List Int}(h:iN B l){i:Nat}{x:Int}(hx:0≤x∧x<B):iN B (l.set i x):=fun z hz=>by
 rcases List.mem_or_eq_of_mem_set hz with k|k
 ·exact h z k
 ·subst k;exact hx
theorem iN.atK(hB:0<B)(n:Nat):iN B (List.replicate n 0):=fun z hz=>by
 rw[List.eq_of_mem_replicate hz];omega
theorem iN.getD{l:List Int}(hB:0<B)(h:iN B l)(i:Nat):0≤l.getD i 0∧l.getD i 0<B:=by
 rw[List.getD_eq_getElem?_getD];rcases Nat.lt_or_ge i l.length with h1|h1
 ·rw[List.getElem?_eq_getElem h1];exact h _ (List.getElem_mem h1)
 ·rw[List.getElem?_eq_none h1];exact⟨by simp,by simpa using hB⟩
theorem bX:∀ (n:Nat) (x:Int),(dg B n x).length=n
 |0,_=>rfl
 |n+1,x=>by simp[dg,bX n]
theorem n5(hB:0<B):∀ (n:Nat) (x:Int),iN B (dg B n x)
 |0,_=>fun z hz=>by cases hz
 |n+1,x=>fun z hz=>by
  rcases List.mem_cons.1 hz with rfl|hz
  ·exact⟨Int.emod_nonneg _ (by omega),Int.emod_lt_of_pos _ hB⟩
  ·exact n5 hB n _ z hz
theorem ak2(hB:0<B)(n:Nat):0<B ^ n:=Int.pow_pos hB
theorem eE(hB:0<B):∀ {l:List Int},iN B l→0≤vd B l
 | [],_=>by simp[vd]
 |x::l,h=>by
  have h1:=eE hB h.tail;have h2:=h.head;have:=Int.mul_nonneg (Int.le_of_lt hB) h1;simp only[vd];omega
theorem pq(hB:0<B):∀ {l:List Int},iN B l→vd B l<B ^ l.length
 | [],_=>by simp[vd]
 |x::l,h=>by
  have h1:=pq hB h.tail;have h2:=h.head;simp only[vd,List.length_cons];have h3:B*(vd B l+1)≤B*B ^ l.length:=Int.mul_le_mul_of_nonneg_left (by omega) (by omega);rw[Int.mul_add,Int.mul_one]at h3;rw[Int.pow_succ,Int.mul_comm (B ^ l.length)];omega
theorem F1(hB:0<B){x y:Int}(h:0≤x∧x<B):(x+B*y)/B=y∧(x+B*y)%B=x:=by
 rw[Int.add_mul_ediv_left _ _ (by omega),Int.add_mul_emod_self_left,Int.ediv_eq_zero_of_lt h.1 h.2,Int.emod_eq_of_lt h.1 h.2];exact⟨by omega,rfl⟩
theorem Oq(hB:0<B):∀ {l:List Int},iN B l→dg B l.length (vd B l)=l
 | [],_=>rfl
 |x::l,h=>by
  obtain⟨h1,h2⟩:=F1 hB (y:=vd B l) h.head;show(x+B*vd B l)%B::dg B l.length ((x+B*vd B l)/B)=x::l;rw[h1,h2,Oq hB h.tail]
theorem oV(hB:0<B){P:Int}(hP:0<P)(x:Int):x%B+B*(x/B%P)=x%(B*P):=by
 have h1:=Int.emod_nonneg x (show B≠0 by omega);have h2:=Int.emod_lt_of_pos x hB;have h3:=Int.emod_nonneg (x/B) (show P≠0 by omega);have h4:=Int.emod_lt_of_pos (x/B) hP;have e1:=Int.emod_add_mul_ediv x B;have e2:=Int.emod_add_mul_ediv (x/B) P
 have e:x=x%B+B*(x/B%P)+(B*P)*(x/B/P):=by
  rw[Int.mul_assoc,Int.add_assoc,← Int.mul_add,e2,e1]
 have dL:x%B+B*(x/B%P)<B*P:=by
  have:=Int.mul_le_mul_of_nonneg_left (show x/B%P+1≤P by omega) (show 0≤B by omega);rw[Int.mul_add,Int.mul_one]at this;omega
 have hnn:0≤x%B+B*(x/B%P):=by
  have:=Int.mul_nonneg (show 0≤B by omega) h3;omega
 have key:x%(B*P)=(x%B+B*(x/B%P))%(B*P):=by
  conv=>lhs;rw[e]
  rw[Int.add_mul_emod_self_left]
 rw[key,Int.emod_eq_of_lt hnn dL]
theorem mE(hB:0<B):∀ (n:Nat) (x:Int),vd B (dg B n x)=x%B ^ n
 |0,x=>by simp[dg,vd,Int.emod_one]
 |n+1,x=>by
  show x%B+B*vd B (dg B n (x/B))=_;rw[mE hB n,oV hB (ak2 hB n),Int.pow_succ,Int.mul_comm (B ^ n)]
theorem axn(hB:0<B){l m:List Int}(hl:iN B l)(hm:iN B m)(hn:l.length=m.length)(h:vd B l=vd B m):l=m:=by
 rw[← Oq hB hl,← Oq hB hm,hn,h]
theorem F2(hB:0<B){l:List Int}{n:Nat}{x:Int}(hl:iN B l)(hn:l.length=n)(h:vd B l=x%B ^ n):l=dg B n x:=
 axn hB hl (n5 hB n x) (by rw[bX,hn]) (by rw[mE hB,h])
theorem mF(hB:0<B):∀ {n:Nat} {x:Int} {k:Nat},k<n→(dg B n x).getD k 0=x/B ^ k%B
 |0,_,k,h=>absurd h (by omega)
 |n+1,x,0,_=>by simp[dg]
 |n+1,x,k+1,h=>by
  show(x%B::dg B n (x/B)).getD (k+1) 0=_;rw[List.getD_cons_succ,mF hB (by omega:k<n),Int.ediv_ediv_of_nonneg (by omega),Int.pow_succ,Int.mul_comm (B ^ k)]
theorem aqN(hB:0<B){l:List Int}(h:iN B l){k:Nat}(hk:k<l.length):l.getD k 0=vd B l/B ^ k%B:=by
 conv=>lhs;rw[← Oq hB h]
 exact mF hB hk
theorem F3:∀ (l m:List Int),vd B (l++m)=vd B l+B ^ l.length*vd B m
 | [],m=>by simp[vd]
 |x::l,m=>by
  show x+B*vd B (l++m)=x+B*vd B l+B ^ (l.length+1)*vd B m;rw[F3 l m,Int.mul_add,Int.pow_succ,Int.mul_assoc,Int.mul_left_comm B,Int.add_assoc]
theorem JZ:∀ {l:List Int} {k:Nat} {x:Int},k<l.length→vd B (l.set k x)=vd B l+(x-l.getD k 0)*B ^ k
 | [],k,_,h=>absurd h (by simp)
 |y::l,0,x,_=>by
  simp only[List.set_cons_zero,vd,List.getD_cons_zero,Int.pow_zero];omega
 |y::l,k+1,x,h=>by
  simp only[List.set_cons_succ,vd,List.getD_cons_succ];rw[JZ (by simpa using h),Int.mul_add,Int.pow_succ,Int.mul_comm B ((x-l.getD k 0)*B ^ k),Int.mul_assoc,Int.add_assoc]
theorem ak3(n:Nat):vd B (List.replicate n 0)=0:=by
 induction n with
 |zero=>rfl
 |succ n ih=>rw[List.replicate_succ];simp[vd,ih]
theorem fM{l:List Int}{k:Nat}(hk:k<l.length):vd B (l.take (k+1))=vd B (l.take k)+l.getD k 0*B ^ k:=by
 rw[List.take_add_one,List.getElem?_eq_getElem hk,F3,List.length_take,Nat.min_eq_left (by omega),List.getD_eq_getElem?_getD,List.getElem?_eq_getElem hk];simp[vd,Int.mul_comm]
theorem J0(hB:0<B)(n:Nat):dg B n 0=List.replicate n 0:=
 (F2 hB (iN.atK hB n) (by simp) (by rw[ak3];simp)).symm
end
theorem EI{x:Int}(A C:Int)(hA:0<A)(hC:0<C)(D:Int)(hDp:0<D)(hdiv:A*D∣C):x%C/A%D=x/A%D:=by
 obtain⟨q,rfl⟩:=hdiv
 have hq:0<q:=by
  rcases Int.lt_or_le 0 q with h|h
  ·exact h
  ·have:=Int.mul_nonneg (Int.le_of_lt (Int.mul_pos hA hDp)) (show 0≤ -q by omega);rw[Int.mul_neg]at this;omega
 have e:=oV (B:=A) (P:=D*q) hA (Int.mul_pos hDp hq) x;rw[← Int.mul_assoc]at e;rw[← e];have h1:=Int.emod_nonneg x (show A≠0 by omega);have h2:=Int.emod_lt_of_pos x hA;rw[(F1 hA ⟨h1,h2⟩).1,Int.emod_emod_of_dvd _ (Int.dvd_mul_right D q)]
theorem F4(V:Int)(k:Nat):V/2 ^ k=2*(V/2 ^ (k+1))+V/2 ^ k%2:=by
 have e:V/2 ^ (k+1)=V/2 ^ k/2:=by rw[Int.pow_succ,Int.ediv_ediv_of_nonneg (by exact Int.le_of_lt (Int.pow_pos (by decide)))]
 rw[e];omega
theorem Ot{L r b:Int}(hL:0<L)(hr:0≤r∧r<L)(hb:0≤b∧b<2):(2*r+b)%L=if 2*r+b<L then 2*r+b else 2*r+b-L:=by
 split
 ·exact Int.emod_eq_of_lt (by omega) (by assumption)
 ·have e:2*r+b=(2*r+b-L)+L*1:=by omega
  conv=>lhs;rw[e]
  rw[Int.add_mul_emod_self_left,Int.emod_eq_of_lt (by omega) (by omega)]
theorem Yg(L V b:Int):(2*V+b)%L=(2*(V%L)+b)%L:=by
 have e:=Int.emod_add_mul_ediv V L
 have:2*V+b=2*(V%L)+b+L*(2*(V/L)):=by
  conv=>lhs;rw[← e]
  rw[Int.mul_add,Int.mul_left_comm];omega
 rw[this,Int.add_mul_emod_self_left]
end Go.Ev
end
noncomputable section
namespace Go.Proofs.YtnbkagglkajbkaaGreat
open Go Go.Ev BJ Go.Proofs.Tryz
open Go.IntKind (i64 signed u16 u64 wrap)
set_option maxRecDepth 1000000
theorem aco{x y c:Int}(hx:KD x)(hy:KD y)(hc:c=0∨c=1):nQ x y c=((x-y-c)%18446744073709551616,if x<y+c then 1 else 0):=by
 unfold KD at hx hy;obtain⟨a,rfl⟩:=Int.eq_ofNat_of_zero_le hx.1;obtain⟨b,rfl⟩:=Int.eq_ofNat_of_zero_le hy.1;obtain⟨d,rfl⟩:∃d:Nat,c=(d:Int):=by rcases hc with rfl|rfl;exact⟨0,rfl⟩;exact⟨1,rfl⟩
 simp only[nQ,Int.toNat_natCast];have e:(2:Nat) ^ 64=18446744073709551616:=by decide
 rw[e];refine Prod.ext ?_ ?_
 ·show(((a+18446744073709551616-b-d)%18446744073709551616:Nat):Int)=_;omega
 ·show(if a<b+d then(1:Int)else 0)=_
  by_cases h:a<b+d
  ·rw[if_pos h,if_pos (by omega)]
  ·rw[if_neg h,if_neg (by omega)]
theorem mG{B:Int}(hB:1≤B){a b:Nat}(h:a≤b):B ^ a≤B ^ b:=by
 obtain⟨d,rfl⟩:∃d,b=a+d:=⟨b-a,by omega⟩;rw[Int.pow_add];have h1:0<B ^ a:=Int.pow_pos (by omega);have h2:0<B ^ d:=Int.pow_pos (by omega);have:=Int.mul_le_mul_of_nonneg_left (show 1≤B ^ d by omega) (Int.le_of_lt h1);rwa [Int.mul_one]at this
theorem Ou(k m:Nat):(k:Int).tmod (m:Int)=((k%m:Nat):Int):=by rw[Int.tmod_eq_emod_of_nonneg (by omega),← Int.natCast_emod]
abbrev qq:Int:=18446744073709551616
theorem cb:0<qq:=by decide
theorem J1:qq=256 ^ 8:=by decide
theorem aB9:qq=2 ^ 64:=by decide
theorem qY(s:Nat):((2 ^ (s*8):Nat):Int)=256 ^ s:=by
 rw[Nat.mul_comm,Nat.pow_mul,Int.natCast_pow];rfl
theorem sg{b:Int}(hb:0<b){m:Nat}(hm:0<m){l:List Int}(h:iN (b ^ m) l){k:Nat}(hk:k/m<l.length):l.getD (k/m) 0/b ^ (k%m)%b=vd (b ^ m) l/b ^ k%b:=by
 have hB:0<b ^ m:=Int.pow_pos hb;rw[aqN hB h hk];have dL:=Nat.mod_lt k hm;have e1:(b ^ m)=b ^ (k%m)*b*b ^ (m-(k%m+1)):=by rw[← Int.pow_succ,← Int.pow_add];congr 1;omega
 rw[EI (b ^ (k%m)) (b ^ m) (Int.pow_pos hb) hB b hb ⟨_,e1⟩];rw[Int.ediv_ediv_of_nonneg (Int.le_of_lt (Int.pow_pos hB)),← Int.pow_mul,← Int.pow_add]
 congr 3
 have:=Nat.div_add_mod k m;exact this
theorem ak4{B:Int}(hB:0<B)(n:Nat)(x:Int):(List.range n).map (fun i=>x/B ^ i%B)=dg B n x:=by
 apply List.ext_getElem?
 intro i;rcases Nat.lt_or_ge i n with h|h
 ·have e:=mF hB (x:=x) h;rw[List.getD_eq_getElem?_getD,List.getElem?_eq_getElem (by rw[bX];exact h)]at e;rw[List.getElem?_eq_getElem (l:=dg B n x) (by rw[bX];exact h),List.getElem?_map,List.getElem?_range h];simpa using e.symm
 ·rw[List.getElem?_eq_none (by simpa using h),List.getElem?_eq_none (by rw[bX];exact h)]
def Aq(b:List Int):List Int:=dg qq 8 (vd 256 b)
def yy(w:List Int):List Int:=dg 256 32 (vd qq w)
theorem aqO{b:List Int}(hb:ay b)(hl:b.length≤64){k:Nat}(hk:k<b.length):
  (Aq (b.take k)).set (k/8) (bn .u64 ((Aq (b.take k)).getD (k/8) 0) (shl .u64 (u64.wrap (b.getD k 0)) ((k%8*8:Nat):Int)))=Aq (b.take (k+1)):=by
 have gV:iN 256 b:=hb;have hc:=iN.getD (by decide) gV k;have hV0:=eE (by decide) (gV.take k);have hV1:=pq (by decide) (gV.take k);rw[List.length_take,Nat.min_eq_left (by omega)]at hV1;unfold Aq;rw[fM hk];generalize vd 256 (b.take k)=V at*;generalize b.getD k 0=c at*;have hi:k/8<8:=by omega
 have hs:k%8<8:=by omega
 have jz:k=8*(k/8)+k%8:=(Nat.div_add_mod k 8).symm;have hp:(256:Int) ^ k=qq ^ (k/8)*256 ^ (k%8):=by rw[J1,← Int.pow_mul,← Int.pow_add,← jz]
 have hQ:0<qq ^ (k/8):=Int.pow_pos cb
 have hle:(256:Int) ^ (k%8)*256≤qq:=by
  rw[← Int.pow_succ,J1];exact mG (by decide) (by omega)
 have hP:(0:Int)<256 ^ (k%8):=Int.pow_pos (by decide);have hdl:V/qq ^ (k/8)<256 ^ (k%8):=Int.ediv_lt_of_lt_mul hQ (by rw[Int.mul_comm,← hp];exact hV1);have hd0:0≤V/qq ^ (k/8):=Int.ediv_nonneg hV0 (Int.le_of_lt hQ)
 have eg:(dg qq 8 V).getD (k/8) 0=V/qq ^ (k/8):=by
  rw[mF cb hi,Int.emod_eq_of_lt hd0 (by omega)]
 rw[eg];have ew:u64.wrap c=c:=wrap_u64 hc.1 (by omega);have hcP:c*256 ^ (k%8)≤255*256 ^ (k%8):=Int.mul_le_mul_of_nonneg_right (by omega) (by omega);have axo:0≤c*256 ^ (k%8):=Int.mul_nonneg hc.1 (by omega)
 have es:shl .u64 c ((k%8*8:Nat):Int)=c*256 ^ (k%8):=by
  rw[gd .u64 c _ (by simp[IntKind.bits];omega),qY,wrap_u64 axo (by unfold qq at hle;omega)]
 have hdiv:c*256 ^ (k%8)%((2 ^ (k%8*8):Nat):Int)=0:=by rw[qY];exact Int.mul_emod_left _ _
 have eo:bn .u64 (V/qq ^ (k/8)) (c*256 ^ (k%8))=V/qq ^ (k/8)+c*256 ^ (k%8):=by
  rw[gY,ow (m:=k%8*8) axo hdiv hd0 (by rw[qY];exact hdl) (by unfold qq at hle;omega),Int.add_comm]
 rw[ew,es,eo];refine F2 cb ((n5 cb 8 V).set ⟨by omega,by omega⟩) (by rw[List.length_set,bX]) ?_;rw[JZ (by rw[bX];exact hi),eg,mE cb];have e2:(256:Int) ^ 64=qq ^ 8:=by decide
 have hV2:V<qq ^ 8:=Int.lt_of_lt_of_le hV1 (by rw[← e2];exact mG (by decide) (by omega));rw[Int.emod_eq_of_lt hV0 hV2]
 have e3:(V/qq ^ (k/8)+c*256 ^ (k%8)-V/qq ^ (k/8))*qq ^ (k/8)=c*256 ^ k:=by
  rw[hp,Int.mul_comm (qq ^ (k/8)),← Int.mul_assoc];congr 1;omega
 rw[e3]
 have dL:V+c*256 ^ k<qq ^ 8:=by
  have h1:c*256 ^ k≤255*256 ^ k:=Int.mul_le_mul_of_nonneg_right (by omega) (Int.le_of_lt (Int.pow_pos (by decide)));have h2:(256:Int) ^ (k+1)≤256 ^ 64:=mG (by decide) (by omega);rw[Int.pow_succ]at h2;rw[← e2];omega
 exact(Int.emod_eq_of_lt (Int.add_nonneg hV0 (Int.mul_nonneg hc.1 (Int.le_of_lt (Int.pow_pos (by decide))))) dL).symm
theorem ak5{w:List Int}(h:iN qq w)(hl:w.length=8){k:Nat}(hk:k<64):IntKind.u8.wrap (shr .u64 (w.getD (k/8) 0) ((k%8*8:Nat):Int))=vd qq w/256 ^ k%256:=by
 rw[c9 .u64 _ _ (by simp[IntKind.bits];omega),qY,wrap_u8];have h':iN (256 ^ 8) w:=by rw[← J1];exact h
 have:=sg (b:=256) (by decide) (by decide:0<8) h' (k:=k) (by omega);rw[this,← J1]
def oW(w:List Int)(i:Int):Int:=vd qq w/2 ^ i.toNat%2
theorem acp{w:List Int}(h:iN qq w)(hl:w.length=8){k:Nat}(hk:k<512):aI .u64 (shr .u64 (w.getD (k/64) 0) ((k%64:Nat):Int)) 1=oW w (k:Int):=by
 rw[c9 .u64 _ _ (by simp[IntKind.bits];omega),ry (m:=1) (by decide) _ 1 (by decide)];have h':iN (2 ^ 64) w:=by rw[← aB9];exact h
 have:=sg (b:=2) (by decide) (by decide:0<64) h' (k:=k) (by omega);unfold oW;rw[Int.toNat_natCast,aB9,← this];simp
structure Part (k:Nat) (w o:List Int):Prop where
 len:o.length=8
 inb:iN qq o
 rest:∀j,k≤j→o.getD j 0=w.getD j 0
theorem Part.step{k:Nat}{w o:List Int}(h:Part k w o){z:Int}(hk:k<8)(hz:0≤z∧z<qq):Part (k+1) w (o.set k z)∧vd qq ((o.set k z).take (k+1))=vd qq (o.take k)+z*qq ^ k:=by
 obtain⟨h1,h2,h3⟩:=h;have hg:(o.set k z).getD k 0=z:=by rw[List.getD_eq_getElem?_getD];simp[show k<o.length by omega]
 refine⟨⟨by rw[List.length_set,h1],h2.set hz,fun j hj=>?_⟩,?_⟩
 ·rw[← h3 j (by omega),List.getD_eq_getElem?_getD,List.getD_eq_getElem?_getD,List.getElem?_set_ne (by omega)]
 ·rw[fM (by rw[List.length_set];omega),hg,List.take_set_of_le (Nat.le_refl _)]
def ig(w x:List Int):List Int×Int:=(dg qq 8 (vd qq w-vd qq x),if vd qq w<vd qq x then 1 else 0)
def n7(w x:List Int):List Int:=dg qq 8 (vd qq w+vd qq x)
def F5(sb:Int→Int→Int→Int×Int)(x:List Int)(k:Nat)(o:List Int×Int):List Int×Int:=(o.1.set k (sb (o.1.getD k 0) (x.getD k 0) o.2).1,(sb (o.1.getD k 0) (x.getD k 0) o.2).2)
def Yh(w x:List Int)(k:Nat)(o:List Int×Int):Prop:=Part k w o.1∧(o.2=0∨o.2=1)∧vd qq (o.1.take k)=vd qq (w.take k)-vd qq (x.take k)+o.2*qq ^ k
theorem F6{w x:List Int}(hw:iN qq w)(hx:iN qq x)(lw:w.length=8)(lx:x.length=8){k:Nat}{o:List Int×Int}(hk:k<8)(h:Yh w x k o):Yh w x (k+1) (F5 nQ x k o):=by
 obtain⟨hp,hc,hv⟩:=h;obtain⟨o,c⟩:=o;simp only at hp hc hv;have h1:=iN.getD cb hp.inb k;have h2:=iN.getD cb hx k;have e:=aco (x:=o.getD k 0) (y:=x.getD k 0) (c:=c) h1 h2 hc;have eX:=hp.rest k (Nat.le_refl _);unfold F5;rw[e];have hz:0≤(o.getD k 0-x.getD k 0-c)%18446744073709551616∧(o.getD k 0-x.getD k 0-c)%18446744073709551616<qq:=⟨Int.emod_nonneg _ (by decide),Int.emod_lt_of_pos _ (by decide)⟩;obtain⟨p1,p2⟩:=hp.step hk hz;refine⟨p1,by simp only;split<;>simp,?_⟩;simp only;rw[p2,hv,fM (by omega),fM (by omega),eX,Int.pow_succ,Int.mul_comm (qq ^ k) qq,← Int.mul_assoc];rw[eX]at h1;generalize w.getD k 0=a at*;generalize x.getD k 0=b at*
 have key:c+(a-b-c)%18446744073709551616=a-b+(if a<b+c then(1:Int)else 0)*qq:=by
  unfold qq at*
  split<;>omega
 have e2:c*qq ^ k+(a-b-c)%18446744073709551616*qq ^ k=(a-b+(if a<b+c then(1:Int)else 0)*qq)*qq ^ k:=by rw[← key,Int.add_mul]
 rw[Int.add_mul,Int.sub_mul]at e2;omega
theorem ak6{w x:List Int}(hw:iN qq w)(hx:iN qq x)(lw:w.length=8)(lx:x.length=8):upto (F5 nQ x) 0 8 (w,0)=ig w x:=by
 have h:=uz (f:=F5 nQ x) (Yh w x) (n:=8) (fun k o hk h=>F6 hw hx lw lx hk h) 8 0 (w,0) (by omega) ⟨⟨lw,hw,fun _ _=>rfl⟩,.inl rfl,by simp[vd]⟩;generalize upto (F5 nQ x) 0 8 (w,0)=o at*;obtain⟨o,c⟩:=o;obtain⟨hp,hc,hv⟩:=h;simp only at hp hc hv;simp only[Nat.zero_add]at hp hv;rw[List.take_of_length_le (by rw[hp.len];decide),List.take_of_length_le (by omega),List.take_of_length_le (by omega)]at hv;have b1:=eE cb hp.inb;have b2:=pq cb hp.inb;have b3:=eE cb hw;have b4:=pq cb hw;have b5:=eE cb hx;have b6:=pq cb hx;rw[hp.len]at b2;rw[lw]at b4;rw[lx]at b6;unfold ig;refine Prod.ext (F2 cb hp.inb hp.len ?_) ?_
 ·rw[hv];have:vd qq w-vd qq x+c*qq ^ 8=vd qq w-vd qq x+qq ^ 8*c:=by rw[Int.mul_comm]
  have e:vd qq o=vd qq o%qq ^ 8:=(Int.emod_eq_of_lt b1 b2).symm;rw[hv,this,Int.add_mul_emod_self_left]at e;rw[this];exact e
 ·simp only;rcases hc with rfl|rfl
  ·rw[if_neg (by omega)]
  ·rw[if_pos (by omega)]
def F7(ad:Int→Int→Int→Int×Int)(x:List Int)(k:Nat)(o:List Int×Int):List Int×Int:=(o.1.set k (ad (o.1.getD k 0) (x.getD k 0) o.2).1,(ad (o.1.getD k 0) (x.getD k 0) o.2).2)
def aqQ(w x:List Int)(k:Nat)(o:List Int×Int):Prop:=Part k w o.1∧(o.2=0∨o.2=1)∧vd qq (o.1.take k)+o.2*qq ^ k=vd qq (w.take k)+vd qq (x.take k)
theorem Ov{w x:List Int}(hw:iN qq w)(hx:iN qq x)(lw:w.length=8)(lx:x.length=8){k:Nat}{o:List Int×Int}(hk:k<8)(h:aqQ w x k o):aqQ w x (k+1) (F7 bU x k o):=by
 obtain⟨hp,hc,hv⟩:=h;obtain⟨o,c⟩:=o;simp only at hp hc hv;have h1:=iN.getD cb hp.inb k;have h2:=iN.getD cb hx k;have e:=rS (x:=o.getD k 0) (y:=x.getD k 0) (c:=c) h1.1 h2.1 (by omega);have eX:=hp.rest k (Nat.le_refl _);unfold F7;rw[e];have hz:0≤(o.getD k 0+x.getD k 0+c)%18446744073709551616∧(o.getD k 0+x.getD k 0+c)%18446744073709551616<qq:=⟨Int.emod_nonneg _ (by decide),Int.emod_lt_of_pos _ (by decide)⟩;obtain⟨p1,p2⟩:=hp.step hk hz;refine⟨p1,by simp only;unfold qq at h1 h2;omega,?_⟩;simp only;rw[p2,fM (by omega),fM (by omega),eX,Int.pow_succ,Int.mul_comm (qq ^ k) qq,← Int.mul_assoc];rw[eX]at h1;generalize w.getD k 0=a at*;generalize x.getD k 0=b at*
 have key:(a+b+c)%18446744073709551616+(a+b+c)/18446744073709551616*qq=a+b+c:=by
  unfold qq at*;omega
 have e2:(a+b+c)%18446744073709551616*qq ^ k+(a+b+c)/18446744073709551616*qq*qq ^ k=(a+b+c)*qq ^ k:=by rw[← Int.add_mul,key]
 rw[Int.add_mul (a+b),Int.add_mul a]at e2;omega
theorem aqR{w x:List Int}(hw:iN qq w)(hx:iN qq x)(lw:w.length=8)(lx:x.length=8):(upto (F7 bU x) 0 8 (w,0)).1=n7 w x:=by
 have h:=uz (f:=F7 bU x) (aqQ w x) (n:=8) (fun k o hk h=>Ov hw hx lw lx hk h) 8 0 (w,0) (by omega) ⟨⟨lw,hw,fun _ _=>rfl⟩,.inl rfl,by simp[vd]⟩;generalize upto (F7 bU x) 0 8 (w,0)=o at*;obtain⟨o,c⟩:=o;obtain⟨hp,hc,hv⟩:=h;simp only at hp hc hv;simp only[Nat.zero_add]at hp hv;rw[List.take_of_length_le (by rw[hp.len];decide),List.take_of_length_le (by omega),List.take_of_length_le (by omega)]at hv;have b1:=eE cb hp.inb;have b2:=pq cb hp.inb;rw[hp.len]at b2;unfold n7;refine F2 cb hp.inb hp.len ?_;rw[← hv,Int.mul_comm,Int.add_mul_emod_self_left,Int.emod_eq_of_lt b1 b2]
def ff:List Int:= [6346243789798364141,1503914060200516822,0,1152921504606846976,0,0,0,0]
def ll:Int:=7237005577332262213973186563042994240857116359379907606001950938285454250989
theorem fN:0<ll:=by decide
theorem F8:vd qq ff=ll:=by decide+kernel
theorem Ow:ff.length=8∧iN qq ff:=⟨rfl,by unfold iN ff;decide⟩
def m6(r:List Int)(b:Int):List Int:=r.set 0 (bn .u64 (r.getD 0 0) b)
def Ur(and:List Int→List Int→List Int)(less:List Int→List Int→List Int×Int)(bit:List Int→Int→Int)(o w:List Int)(k:Nat)(r:List Int):List Int:=
 bif (less (m6 (and r r) (bit w (511-(k:Int)))) o).2==0 then(less (m6 (and r r) (bit w (511-(k:Int)))) o).1 else m6 (and r r) (bit w (511-(k:Int)))
theorem aqS(w:List Int)(i:Int):0≤oW w i∧oW w i<2:=by unfold oW;omega
theorem qq8:(2:Int) ^ 254≤qq ^ 8:=by decide+kernel
theorem Ox:ll+ll<2 ^ 254:=by decide+kernel
theorem Yi{R b:Int}(hR:0≤R∧R<ll)(hb:0≤b∧b<2):m6 (dg qq 8 (R+R)) b=dg qq 8 (2*R+b):=by
 have h1:2*R+b<qq ^ 8:=Int.lt_of_lt_of_le (by have:=Ox;omega) qq8;have h2:R+R<qq ^ 8:=Int.lt_of_lt_of_le (by have:=Ox;omega) qq8;have hg:(dg qq 8 (R+R)).getD 0 0=(R+R)%qq:=by rw[mF cb (by decide)];simp
 have hm:0≤(R+R)%qq:=Int.emod_nonneg (R+R) (show qq≠0 by decide);have hl:(R+R)%qq<18446744073709551616:=Int.emod_lt_of_pos (R+R) cb
 have hev:(R+R)%qq%2=0:=by
  show(R+R)%18446744073709551616%2=0;omega
 have hv:vd qq (dg qq 8 (R+R))=R+R:=by rw[mE cb,Int.emod_eq_of_lt (by omega) h2]
 unfold m6;rw[hg];generalize (R+R)%qq=M at*;rw[ow (m:=1) hm (by simpa using hev) hb.1 (by simpa using hb.2) (by omega)];refine F2 cb ((n5 cb 8 _).set ⟨by omega,(by omega:M+b<18446744073709551616)⟩) (by rw[List.length_set,bX]) ?_;rw[JZ (by rw[bX];decide),hg,hv,Int.emod_eq_of_lt (by omega) h1,Int.pow_zero,Int.mul_one];omega
theorem ak7{V:Int}{w:List Int}(hw:vd qq w=V){k:Nat}(hk:k<512):Ur n7 ig oW ff w k (dg qq 8 (V/2 ^ (512-k)%ll))=dg qq 8 (V/2 ^ (512-(k+1))%ll):=by
 have hlq:∀ {x:Int},x<ll+ll→x<qq ^ 8:=fun h=>Int.lt_of_lt_of_le (Int.lt_trans h Ox) qq8;have e0:=F4 V (512-(k+1));rw[show 512-(k+1)+1=512-k from by omega]at e0
 have eb:oW w (511-(k:Int))=V/2 ^ (512-(k+1))%2:=by
  unfold oW;rw[hw,show(511-(k:Int)).toNat=512-(k+1)from by omega]
 have hb:0≤V/2 ^ (512-(k+1))%2∧V/2 ^ (512-(k+1))%2<2:=by omega
 have hR:0≤V/2 ^ (512-k)%ll∧V/2 ^ (512-k)%ll<ll:=⟨Int.emod_nonneg _ (by have:=fN;omega),Int.emod_lt_of_pos _ fN⟩
 have em:(V/2 ^ (512-(k+1)))%ll=(2*(V/2 ^ (512-k)%ll)+V/2 ^ (512-(k+1))%2)%ll:=by
  conv=>lhs;rw[e0]
  exact Yg _ _ _
 rw[em,Ot fN hR hb]
 have es:n7 (dg qq 8 (V/2 ^ (512-k)%ll)) (dg qq 8 (V/2 ^ (512-k)%ll))=dg qq 8 (V/2 ^ (512-k)%ll+V/2 ^ (512-k)%ll):=by
  unfold n7;rw[mE cb,Int.emod_eq_of_lt hR.1 (hlq (by omega))]
 unfold Ur;rw[eb,es,Yi hR hb];generalize V/2 ^ (512-k)%ll=R at*;generalize V/2 ^ (512-(k+1))%2=b at*
 have el:ig (dg qq 8 (2*R+b)) ff=(dg qq 8 (2*R+b-ll),if 2*R+b<ll then 1 else 0):=by
  unfold ig;rw[F8,mE cb,Int.emod_eq_of_lt (by omega) (hlq (by omega))]
 rw[el]
 by_cases h:2*R+b<ll
 ·rw[if_pos h,if_pos h];rfl
 ·rw[if_neg h,if_neg h];rfl
def Oy(w:List Int):List Int:=dg 256 32 (vd qq w%ll)
theorem ak8(b:List Int):(Aq b).length=8∧iN qq (Aq b):=⟨bX _ _,n5 cb _ _⟩
theorem Yj{b:List Int}(hb:ay b)(hl:b.length≤64):vd qq (Aq b)=vd 256 b:=by
 unfold Aq;have h1:=eE (by decide) (show iN 256 b from hb);have h2:=pq (by decide) (show iN 256 b from hb);have e:(256:Int) ^ 64=qq ^ 8:=by decide+kernel
 have h3:(256:Int) ^ b.length≤256 ^ 64:=mG (by decide) hl;rw[mE cb,Int.emod_eq_of_lt h1 (by rw[← e];omega)]
abbrev cW:aM LV (List Int):=uA .u64 8
abbrev wA:aM (List LV) (List Int×Unit):=ae cW ag
abbrev w2A:aM (List LV) (List Int×List Int×Unit):=ae cW (ae cW ag)
abbrev iW:aM (Option Ev.Item) (List Int):=gL 204 .u64 8
abbrev iB:aM (Option Ev.Item) (List Int):=gL 22 .u8 32
abbrev sy(i:Nat):Wk:=.eG i 0 8 .u64
abbrev nPW(r:List Int×Int):LV:=.cj [.agg [.arr (.int .u64) 8 r.1],.sc (.int .u64 (.sym r.2))]
def okW(w:List Int):Prop:=w.length=8∧iN 18446744073709551616 w
def okB(b:List Int):Prop:=b.length=32∧ay b
theorem Yk{w:List Int}(h:okW w):List.take 8 (List.drop 0 w)=w:=aY h.1
def eWW(g:List Int→List Int→List Int):an:=an.cl [] w2A ag fun x _=>.leaf (some (okW x.1∧okW x.2.1)) (dO .u64 8 (g x.1 x.2.1)) []
def Oz(g:List Int→List Int→List Int×Int):an:=an.cl [] w2A ag fun x _=>.leaf (some (okW x.1∧okW x.2.1)) (nPW (g x.1 x.2.1)) []
abbrev wiA:aM (List LV) (List Int×Int×Unit):=ae cW (ae (ah (aA .i64)) ag)
def aCb(g:List Int→Int→Int):an:=an.cl [] wiA ag fun x _=>.leaf (some (okW x.1∧0≤x.2.1∧x.2.1<512)) (nU (g x.1 x.2.1)) []
def e0W(c:List Int):an:=an.cl [] ag ag fun _ _=>.leaf none (dO .u64 8 c) []
def eWB(g:List Int→List Int):an:=an.cl [] wA ag fun x _=>.leaf (some (okW x.1)) (dO .u8 32 (g x.1)) []
def eOf(g:List Int→List Int):an:=an.cl [some u8] bA ag fun x _=>.leaf (some (ay x.1∧x.1.length≤64)) (dO .u64 8 (g x.1)) []
abbrev aqT:Func:=f131
abbrev soC:aM (List LV) (List Int×Int×Int×Unit):=(jk 2 (ai (ah (aC 0 0)) (ai (ah (aC 1 0)) (jk 2 (ae (ah (fh false false u8)) (ae (ah (aA .i64)) (ae (ah (aA .i64)) (jk 18 ag))))))))
abbrev aCe:Wk:=.fr (cu 27 [(2,.al),(3,.al),(6,.al),(7,.sym),(8,.sym)])
abbrev soX:aM (List LV) (Unit):=(jk 2 (ai (ah (aC 0 0)) (ai (ah (aC 1 0)) (jk 23 ag))))
abbrev aGe:Wk:=.fr (cu 27 [(2,.al),(3,.al)])
abbrev soH:aM Hp (List Int×List Int×Unit):=ae iW (ae iW ag)
def soW:Exit→List Wk
 | .normal=> [aCe,sy 0,sy 1,.auto]
 | .exit 0=> [aGe,sy 0,sy 1,.auto]
 |_=> []
theorem axq(b:List Int)(n i:Int)(r m:List Int):cO Tryz.prog [] [] aqT 0 [] soW ((aS soC soH).wr ((b,n,i,()),(r,m,())))=
 aK.ite (decide (i<n)) (aK.need ((0:Int)≤i∧i<(↑b.length:Int)) (aK.need ((0:Int)≤i64.wrap (i.tdiv (8:Int))∧
 i64.wrap (i.tdiv (8:Int))<(8:Int)) (aK.need ((0:Int)≤i64.wrap (i.tmod (8:Int)*(8:Int))) (aK.need ((0:Int)≤
 i64.wrap (i.tdiv (8:Int))∧i64.wrap (i.tdiv (8:Int))<(8:Int)) (aK.leaf Exit.normal ((aS soC soH).wr ((b,n,i64.wrap
 (i+(1:Int)),PUnit.unit),r,m.set ((0:Nat)+(i64.wrap (i.tdiv (8:Int))).toNat) (bn u64 ((List.take (8:Nat) (List.drop (0
 :Nat) m)).getD (i64.wrap (i.tdiv (8:Int))).toNat (0:Int)) (shl u64 (u64.wrap (b.getD i.toNat (0:Int))) (i64.wrap
 (i.tmod (8:Int)*(8:Int))))),PUnit.unit))))))) (aK.leaf (Exit.exit (0:Nat)) ((aS soX soH).wr (PUnit.unit,r,m,PUnit.unit))):=by kernel_rfl
def aCf(g:List Int→List Int)(x:(List Int×Int×Int×Unit)×List Int×List Int×Unit):aK:=.need (ay x.1.1∧x.1.1.length≤64∧x.1.2.1=x.1.1.length∧x.1.2.2.1=0∧x.2.2.1=List.replicate 8 0) (.leaf (.exit 0) ((aS soX soH).wr ((),(x.2.1,g x.1.1,()))))
theorem auo(k:Nat):i64.wrap ((k:Int).tmod 8*8)=((k%8*8:Nat):Int):=by
 rw[show(k:Int).tmod 8=((k%8:Nat):Int)from Ou k 8,ao (by omega) (by omega)];omega
theorem aqU:Aq []=List.replicate 8 0:=J0 cb 8
theorem aqV(x):Ex Tryz.prog [] (.loop (aO aqT 0)) ((aS soC soH).wr x) (aCf Aq x):=by
 obtain⟨⟨b,n,i,_⟩,r,m,_⟩:=x;refine Ex.need fun⟨h1,h2,h3,h4,h5⟩=>?_;simp only at h1 h2 h3 h4 h5;subst h3 h4 h5
 have key:=dN (fn:=aqT) (id:=0) (j:=0) (ws:=soW) (hp:= []) mixed ax (aH.nil _) b.length (fun k (_:Unit)=>(aS soC soH).wr ((b,(b.length:Int),(k:Int),()),(r,Aq (b.take k),()))) (fun _=>(aS soX soH).wr ((),(r,Aq b,()))) (fun _ u=>u) (fun _ _=>True)
  (fun k o R hk _ hn hx=>?_) (fun _ _ _ _=>trivial) 0 () (by omega) trivial
 ·rw[List.take_zero,aqU]at key;exact key
 rw[axq];refine⟨fun hb=>?_,fun hb=>?_⟩
 ·have jz:k<b.length:=by have:=of_decide_eq_true hb;omega
  have e1:i64.wrap ((k:Int).tdiv 8)=((k/8:Nat):Int):=fP k 8 (by omega);rw[e1,auo,aY (ak8 _).1,Int.toNat_natCast,Int.toNat_natCast,Nat.zero_add,aqO h1 h2 jz,cJ k (by omega)];exact⟨by omega,by omega,by omega,by omega,hn jz⟩
 ·have:k=b.length:=by have:=of_decide_eq_false hb;omega
  subst this;have:=hx rfl;rw[List.take_length];exact this
abbrev aCg(g:List Int→List Int):dG:= [(0,dc (aS soC soH) 0 [aCe,sy 0,sy 1,.auto] (aCf g))]
abbrev aGf:an:=eOf Aq
theorem ak9(g:List Int→List Int)(b:List Int):aG Tryz.prog [] (aCg g) aqT (bA.wr (b,())) [] [.fr [.sym],.gK 0 0 8 .u64,.auto]=
 End.need (ay b∧b.length≤(64:Nat)∧(↑b.length:Int)=(↑b.length:Int)∧(0:Int)=(0:Int)∧ [(0:Int),(0:Int),(0:Int),(0:
 Int),(0:Int),(0:Int),(0:Int),(0:Int)]=List.replicate (8:Nat) (0:Int)) (End.leaf (LV.one (VV.agg [SV.arr (Ty.int u64) (8:
 Nat) (g b)])) []):=by kernel_rfl
theorem ala:aGf.Ok Tryz.prog 131:=by
 refine(an.aN call131 fun x_ y_ Q H_=>?_).sym;obtain⟨b,_⟩:=x_;obtain⟨hn,hq⟩:=H_;have hn:ay b∧b.length≤64:=hn;refine(ar mixed ax func131 rfl (LT:=aCg Aq) (ks:= [.fr [.sym],.gK 0 0 8 .u64,.auto]) (aH.bK (js rfl (bD (hp:= []) aqV) jt))).use (D:= []) ?_ hq;show(aG _ _ _ _ (bA.wr (b,())) [] _).sat _;rw[ak9];exact⟨⟨hn.1,hn.2,rfl,rfl,rfl⟩,rfl,rfl⟩
abbrev aqW:Func:=f188
abbrev byC:aM (List LV) (Int×Unit):=(jk 1 (ai (ah (aC 0 0)) (ai (ah (aC 1 0)) (ai (ah (aC 2 0)) (jk 1 (ae (ah (aA .i64)) (jk 15 ag)))))))
abbrev aCi:Wk:=.fr (cu 21 [(1,.al),(2,.al),(3,.al),(5,.sym)])
abbrev byX:aM (List LV) (Unit):=(jk 2 (ai (ah (aC 1 0)) (ai (ah (aC 2 0)) (jk 17 ag))))
abbrev aGh:Wk:=.fr (cu 21 [(2,.al),(3,.al)])
abbrev byH:aM Hp (List Int×List Int×List Int×Unit):=ae iW (ae iB (ae iB ag))
def byW:Exit→List Wk
 | .normal=> [aCi,sy 0,.eG 1 0 32 .u8,.eG 2 0 32 .u8,.auto]
 | .exit 0=> [aGh,sy 0,.eG 1 0 32 .u8,.eG 2 0 32 .u8]
 |_=> []
theorem axr(i:Int)(w r o:List Int):cO Tryz.prog [] [] aqW 0 [] byW ((aS byC byH).wr ((i,()),(w,r,o,())))=
 aK.ite (decide (i<(32:Int))) (aK.need ((0:Int)≤i64.wrap (i.tdiv (8:Int))∧i64.wrap (i.tdiv (8:Int))<(8:Int))
 (aK.need ((0:Int)≤i64.wrap (i.tmod (8:Int)*(8:Int))) (aK.need ((0:Int)≤i∧i<(32:Int)) (aK.leaf Exit.normal ((aS byC
 byH).wr ((i64.wrap (i+(1:Int)),PUnit.unit),w,r,o.set ((0:Nat)+i.toNat) (IntKind.u8.wrap (shr u64 ((List.take (8:Nat)
 (List.drop (0:Nat) w)).getD (i64.wrap (i.tdiv (8:Int))).toNat (0:Int)) (i64.wrap (i.tmod (8:Int)*(8:Int))))),
 PUnit.unit)))))) (aK.leaf (Exit.exit (0:Nat)) ((aS byX byH).wr (PUnit.unit,w,r,o,PUnit.unit))):=by kernel_rfl
def aCj(g:List Int→List Int)(x:(Int×Unit)×List Int×List Int×List Int×Unit):aK:=.need (x.1.1=0∧okW x.2.1∧x.2.2.2.1.length=32) (.leaf (.exit 0) ((aS byX byH).wr ((),(x.2.1,x.2.2.1,g x.2.1,()))))
theorem aqX(x):Ex Tryz.prog [] (.loop (aO aqW 0)) ((aS byC byH).wr x) (aCj yy x):=by
 obtain⟨⟨i,_⟩,w,r,o,_⟩:=x;refine Ex.need fun⟨h1,h2,h3⟩=>?_;simp only at h1 h2 h3;subst h1
 have key:=dN (fn:=aqW) (id:=0) (j:=0) (ws:=byW) (hp:= []) mixed ax (aH.nil _) 32 (fun k o=>(aS byC byH).wr (((k:Int),()),(w,r,o,()))) (fun o=>(aS byX byH).wr ((),(w,r,o,()))) (fun k o=>o.set k (vd qq w/256 ^ k%256)) (fun _ _=>True)
  (fun k o R hk _ hn hx=>?_) (fun _ _ _ _=>trivial) 0 o (by omega) trivial
 ·rw[Nat.sub_zero,jJ (fun k=>vd qq w/256 ^ k%256) h3,ak4 (by decide)]at key;exact key
 rw[axr];refine⟨fun hb=>?_,fun hb=>?_⟩
 ·have jz:k<32:=by have:=of_decide_eq_true hb;omega
  have e1:i64.wrap ((k:Int).tdiv 8)=((k/8:Nat):Int):=fP k 8 (by omega);rw[e1,auo,Yk h2,Int.toNat_natCast,Int.toNat_natCast,Nat.zero_add,ak5 h2.2 h2.1 (by omega),cJ k (by omega)];exact⟨by omega,by omega,by omega,hn jz⟩
 ·have:k=32:=by have:=of_decide_eq_false hb;omega
  exact hx this
abbrev aCk(g:List Int→List Int):dG:= [(0,dc (aS byC byH) 0 [aCi,sy 0,.eG 1 0 32 .u8,.eG 2 0 32 .u8,.auto] (aCj g))]
abbrev aqY:an:=eWB yy
theorem OA(g:List Int→List Int)(w:List Int):aG Tryz.prog [] (aCk g) aqW (wA.wr (w,())) [] kR=
 End.need ((0:Int)=(0:Int)∧okW w∧(32:Nat)=(32:Nat)) (End.leaf (LV.one (VV.agg [SV.arr (Ty.int IntKind.u8) (32:Nat) (g w)])) []):=by kernel_rfl
theorem acq:aqY.Ok Tryz.prog 188:=by
 refine(an.aN call188 fun x_ y_ Q H_=>?_).sym;obtain⟨w,_⟩:=x_;obtain⟨hn,hq⟩:=H_;have hn:okW w:=hn;refine(ar mixed ax func188 rfl (LT:=aCk yy) (ks:=kR) (aH.bK (js rfl (bD (hp:= []) aqX) jt))).use (D:= []) ?_ hq;show(aG _ _ _ _ (wA.wr (w,())) [] _).sat _;rw[OA];exact⟨⟨rfl,hn,rfl⟩,rfl,rfl⟩
abbrev leFn:Func:=f186
abbrev leC:aM (List LV) (Int×Int×Unit):=(jk 2 (ai (ah (aC 0 0)) (ai (ah (aC 1 0)) (ai (ah (aC 2 0)) (jk 1 (ae (ah (aA .u64)) (jk 1 (ae (ah (aA .i64)) (jk 18 ag)))))))))
abbrev aCm:Wk:=.fr (cu 27 [(2,.al),(3,.al),(4,.al),(6,.sym),(8,.sym)])
abbrev leX:aM (List LV) (Int×Unit):=(jk 2 (ai (ah (aC 0 0)) (jk 1 (ai (ah (aC 2 0)) (jk 1 (ae (ah (aA .u64)) (jk 20 ag)))))))
abbrev aGj:Wk:=.fr (cu 27 [(2,.al),(4,.al),(6,.sym)])
abbrev PI:aM Hp (List Int×List Int×List Int×Unit):=ae iW (ae iW (ae iW ag))
def leW:Exit→List Wk
 | .normal=> [aCm,sy 0,sy 1,sy 2,.auto]
 | .exit 0=> [aGj,sy 0,sy 1,sy 2]
 |_=> []
theorem axs(sb:Int→Int→Int→Int×Int)(c i:Int)(w x r:List Int):cO Tryz.prog [(264,(nR sb).sym)] [] leFn 0 [] leW ((aS leC PI).wr ((c,i,()),(w,x,r,())))=
 aK.ite (decide (i<(8:Int))) (aK.need ((0:Int)≤i∧i<(8:Int)) (aK.need ((0:Int)≤i∧i<(8:Int)) (aK.need ((0:Int)≤c∧c≤(1
 :Int)) (aK.need ((0:Int)≤i∧i<(8:Int)) (aK.leaf Exit.normal ((aS leC PI).wr (((sb ((List.take (8:Nat) (List.drop (0:Nat) w)).getD
 i.toNat (0:Int)) ((List.take (8:Nat) (List.drop (0:Nat) x)).getD i.toNat (0:Int)) c).snd,i64.wrap (i+(1:Int)),PUnit.unit),w.set
 ((0:Nat)+i.toNat) (sb ((List.take (8:Nat) (List.drop (0:Nat) w)).getD i.toNat (0:Int)) ((List.take (8:Nat) (List.drop (0:Nat) x)).getD
 i.toNat (0:Int)) c).fst,x,r,PUnit.unit))))))) (aK.leaf (Exit.exit (0:Nat)) ((aS leX PI).wr ((c,PUnit.unit),w,x,r,PUnit.unit))):=by kernel_rfl
def aCn(g:List Int→List Int→List Int×Int)(x:(Int×Int×Unit)×List Int×List Int×List Int×Unit):aK:=.need (x.1.1=0∧x.1.2.1=0∧okW x.2.1∧okW x.2.2.1) (.leaf (.exit 0) ((aS leX PI).wr (((g x.2.1 x.2.2.1).2,()),((g x.2.1 x.2.2.1).1,x.2.2.1,x.2.2.2.1,()))))
abbrev axt:an:=(nR nQ).sym
theorem alb:axt.Ok Tryz.prog 264:=(TC func264 (by kernel_rfl) (by kernel_rfl) (by kernel_rfl) (by kernel_rfl) rfl).sym
theorem OB:∀p∈ [(264,(nR nQ).sym)],p.2.Ok Tryz.prog p.1:=aj alb ax
theorem aqZ(x):Ex Tryz.prog [] (.loop (aO leFn 0)) ((aS leC PI).wr x) (aCn ig x):=by
 obtain⟨⟨c,i,_⟩,w,x,r,_⟩:=x;refine Ex.need fun⟨h1,h2,h3,h4⟩=>?_;simp only at h1 h2 h3 h4;subst h1 h2
 have key:=dN (fn:=leFn) (id:=0) (j:=0) (ws:=leW) (hp:= []) mixed OB (aH.nil _) 8 (fun k (o:List Int×Int)=>(aS leC PI).wr ((o.2,(k:Int),()),(o.1,x,r,()))) (fun(o:List Int×Int)=>(aS leX PI).wr ((o.2,()),(o.1,x,r,()))) (F5 nQ x) (Yh w x)
  (fun k o R hk hi hn hx=>?_) (fun k o hk hi=>F6 h3.2 h4.2 h3.1 h4.1 hk hi) 0 (w,0) (by omega) ⟨⟨h3.1,h3.2,fun _ _=>rfl⟩,.inl rfl,by simp[vd]⟩
 ·rw[Nat.sub_zero,ak6 h3.2 h4.2 h3.1 h4.1]at key;exact key
 rw[axs nQ];refine⟨fun hb=>?_,fun hb=>?_⟩
 ·have jz:k<8:=by have:=of_decide_eq_true hb;omega
  rw[aY hi.1.len,Yk h4,Int.toNat_natCast,Nat.zero_add,cJ k (by omega)];exact⟨by omega,by omega,(by rcases hi.2.1 with e|e<;>rw[e]<;>decide),by omega,hn jz⟩
 ·have:k=8:=by have:=of_decide_eq_false hb;omega
  exact hx this
abbrev aCo(g:List Int→List Int→List Int×Int):dG:= [(0,dc (aS leC PI) 0 [aCm,sy 0,sy 1,sy 2,.auto] (aCn g))]
abbrev axu:an:=Oz ig
theorem Us(sb:Int→Int→Int→Int×Int)(g:List Int→List Int→List Int×Int)(w x:List Int):aG Tryz.prog [(264,(nR sb).sym)] (aCo g) leFn (w2A.wr (w,x,())) [] [.fr [.sym],.gK 0 0 8 .u64,.auto]=
 End.need ((0:Int)=(0:Int)∧(0:Int)=(0:Int)∧okW w∧okW x) (End.leaf (LV.cj [VV.agg [SV.arr (Ty.int u64) (8:Nat) (g w x).fst],
 VV.sc (SV.int u64 (SI.sym (g w x).snd))]) []):=by kernel_rfl
theorem OC:axu.Ok Tryz.prog 186:=by
 refine(an.aN call186 fun x_ y_ Q H_=>?_).sym;obtain⟨w,x,_⟩:=x_;obtain⟨hn,hq⟩:=H_;have hn:okW w∧okW x:=hn;refine(ar mixed OB func186 rfl (LT:=aCo ig) (ks:= [.fr [.sym],.gK 0 0 8 .u64,.auto]) (aH.bK (js rfl (bD (hp:= []) aqZ) jt))).use (D:= []) ?_ hq;show(aG _ _ _ _ (w2A.wr (w,x,())) [] _).sat _;rw[Us nQ];exact⟨⟨rfl,rfl,hn.1,hn.2⟩,rfl,rfl⟩
abbrev aq0:Func:=f139
abbrev anC:aM (List LV) (Int×Int×Unit):=(jk 2 (ai (ah (aC 0 0)) (ai (ah (aC 1 0)) (ai (ah (aC 2 0)) (ae (ah (aA .u64)) (jk 1 (ae (ah (aA .i64)) (jk 17 ag))))))))
abbrev aCq:Wk:=.fr (cu 25 [(2,.al),(3,.al),(4,.al),(5,.sym),(7,.sym)])
abbrev anX:aM (List LV) (Unit):=(jk 2 (ai (ah (aC 0 0)) (jk 1 (ai (ah (aC 2 0)) (jk 20 ag)))))
abbrev aGl:Wk:=.fr (cu 25 [(2,.al),(4,.al)])
def anW:Exit→List Wk
 | .normal=> [aCq,sy 0,sy 1,sy 2,.auto]
 | .exit 0=> [aGl,sy 0,sy 1,sy 2]
 |_=> []
theorem axv(ad:Int→Int→Int→Int×Int)(c i:Int)(w x r:List Int):cO Tryz.prog [(201,(nR ad).sym)] [] aq0 0 [] anW ((aS anC PI).wr ((c,i,()),(w,x,r,())))=
 aK.ite (decide (i<(8:Int))) (aK.need ((0:Int)≤i∧i<(8:Int)) (aK.need ((0:Int)≤i∧i<(8:Int)) (aK.need ((0:Int)≤c∧c≤(1
 :Int)) (aK.need ((0:Int)≤i∧i<(8:Int)) (aK.leaf Exit.normal ((aS anC PI).wr (((ad ((List.take (8:Nat) (List.drop (0:Nat) w)).getD
 i.toNat (0:Int)) ((List.take (8:Nat) (List.drop (0:Nat) x)).getD i.toNat (0:Int)) c).snd,i64.wrap (i+(1:Int)),PUnit.unit),w.set
 ((0:Nat)+i.toNat) (ad ((List.take (8:Nat) (List.drop (0:Nat) w)).getD i.toNat (0:Int)) ((List.take (8:Nat) (List.drop (0:Nat) x)).getD
 i.toNat (0:Int)) c).fst,x,r,PUnit.unit))))))) (aK.leaf (Exit.exit (0:Nat)) ((aS anX PI).wr (PUnit.unit,w,x,r,PUnit.unit))):=by kernel_rfl
def aCr(g:List Int→List Int→List Int)(x:(Int×Int×Unit)×List Int×List Int×List Int×Unit):aK:=.need (x.1.1=0∧x.1.2.1=0∧okW x.2.1∧okW x.2.2.1) (.leaf (.exit 0) ((aS anX PI).wr ((),(g x.2.1 x.2.2.1,x.2.2.1,x.2.2.2.1,()))))
theorem OD:∀p∈ [(201,(nR bU).sym)],p.2.Ok Tryz.prog p.1:=aj N5 ax
theorem aq1(x):Ex Tryz.prog [] (.loop (aO aq0 0)) ((aS anC PI).wr x) (aCr n7 x):=by
 obtain⟨⟨c,i,_⟩,w,x,r,_⟩:=x;refine Ex.need fun⟨h1,h2,h3,h4⟩=>?_;simp only at h1 h2 h3 h4;subst h1 h2
 have key:=dN (fn:=aq0) (id:=0) (j:=0) (ws:=anW) (hp:= []) mixed OD (aH.nil _) 8 (fun k (o:List Int×Int)=>(aS anC PI).wr ((o.2,(k:Int),()),(o.1,x,r,()))) (fun(o:List Int×Int)=>(aS anX PI).wr ((),(o.1,x,r,()))) (F7 bU x) (aqQ w x)
  (fun k o R hk hi hn hx=>?_) (fun k o hk hi=>Ov h3.2 h4.2 h3.1 h4.1 hk hi) 0 (w,0) (by omega) ⟨⟨h3.1,h3.2,fun _ _=>rfl⟩,.inl rfl,by simp[vd]⟩
 ·rw[Nat.sub_zero,aqR h3.2 h4.2 h3.1 h4.1]at key;exact key
 rw[axv bU];refine⟨fun hb=>?_,fun hb=>?_⟩
 ·have jz:k<8:=by have:=of_decide_eq_true hb;omega
  rw[aY hi.1.len,Yk h4,Int.toNat_natCast,Nat.zero_add,cJ k (by omega)];exact⟨by omega,by omega,(by rcases hi.2.1 with e|e<;>rw[e]<;>decide),by omega,hn jz⟩
 ·have:k=8:=by have:=of_decide_eq_false hb;omega
  exact hx this
abbrev aCs(g:List Int→List Int→List Int):dG:= [(0,dc (aS anC PI) 0 [aCq,sy 0,sy 1,sy 2,.auto] (aCr g))]
abbrev aCt:an:=eWW n7
theorem acr(ad:Int→Int→Int→Int×Int)(g:List Int→List Int→List Int)(w x:List Int):aG Tryz.prog [(201,(nR ad).sym)] (aCs g) aq0 (w2A.wr (w,x,())) [] [.fr [.sym],.gK 0 0 8 .u64,.auto]=
 End.need ((0:Int)=(0:Int)∧(0:Int)=(0:Int)∧okW w∧okW x) (End.leaf (LV.one (VV.agg [SV.arr (Ty.int u64) (8:Nat) (g w x)]))
 []):=by kernel_rfl
theorem aq2:aCt.Ok Tryz.prog 139:=by
 refine(an.aN call139 fun x_ y_ Q H_=>?_).sym;obtain⟨w,x,_⟩:=x_;obtain⟨hn,hq⟩:=H_;have hn:okW w∧okW x:=hn;refine(ar mixed OD func139 rfl (LT:=aCs n7) (ks:= [.fr [.sym],.gK 0 0 8 .u64,.auto]) (aH.bK (js rfl (bD (hp:= []) aq1) jt))).use (D:= []) ?_ hq;show(aG _ _ _ _ (w2A.wr (w,x,())) [] _).sat _;rw[acr bU];exact⟨⟨rfl,rfl,hn.1,hn.2⟩,rfl,rfl⟩
abbrev axw:an:=aCb oW
theorem Ut(w:List Int)(i:Int):aG Tryz.prog [] [] f185 (wiA.wr (w,i,())) [] kK=
 End.need ((0:Int)≤i64.wrap (i.tdiv (64:Int))∧i64.wrap (i.tdiv (64:Int))<(8:Int)) (End.need ((0:Int)≤i.tmod (64:
 Int)) (End.leaf (LV.one (VV.sc (SV.int u64 (SI.sym (aI u64 (shr u64 ((List.take (8:Nat) (List.drop (0:Nat) w)).getD
 (i64.wrap (i.tdiv (64:Int))).toNat (0:Int)) (i.tmod (64:Int))) (1:Int)))))) [])):=by kernel_rfl
theorem alc:axw.Ok Tryz.prog 185:=by
 refine(an.aN call185 fun x_ y_ Q H_=>?_).sym;obtain⟨w,i,_⟩:=x_;obtain⟨hn,hq⟩:=H_;have hn:okW w∧0≤i∧i<512:=hn;refine(ar mixed ax func185 rfl (LT:= []) (ks:=kK) (aH.nil _)).use (D:= []) ?_ hq;show(aG _ _ _ _ (wiA.wr (w,i,())) [] _).sat _;rw[Ut];obtain⟨hw,h0,h1⟩:=hn;obtain⟨k,rfl⟩:=Int.eq_ofNat_of_zero_le h0;have hk:k<512:=by omega
 have e1:i64.wrap ((k:Int).tdiv 64)=((k/64:Nat):Int):=fP k 64 (by omega);rw[e1,show(k:Int).tmod 64=((k%64:Nat):Int)from Ou k 64,Yk hw,Int.toNat_natCast,acp hw.2 hw.1 hk];exact⟨by omega,by omega,rfl,rfl⟩
abbrev aq3:an:=e0W ff
theorem OE:aG Tryz.prog [] [] f187 [] [] [.fr [.sym],.gK 0 0 8 .u64,.auto]= .leaf (dO .u64 8 ff) []:=by kernel_rfl
theorem F9:aq3.Ok Tryz.prog 187:=by
 refine(an.aN call187 fun x_ y_ Q H_=>?_).sym;refine(ar mixed ax func187 rfl (LT:= []) (ks:= [.fr [.sym],.gK 0 0 8 .u64,.auto]) (aH.nil _)).use (D:= []) ?_ H_.2;show(aG _ _ _ _ [] [] _).sat _;rw[OE];exact⟨rfl,rfl⟩
abbrev aq4:Func:=f132
abbrev reC:aM (List LV) (Int×Unit):=(jk 1 (ai (ah (aC 0 0)) (ai (ah (aC 1 0)) (ai (ah (aC 2 0)) (ae (ah (aA .i64)) (jk 27 ag))))))
abbrev aCu:Wk:=.fr (cu 32 [(1,.al),(2,.al),(3,.al),(4,.sym)])
abbrev reX:aM (List LV) (Unit):=(jk 2 (ai (ah (aC 1 0)) (ai (ah (aC 2 0)) (jk 28 ag))))
abbrev aGn:Wk:=.fr (cu 32 [(2,.al),(3,.al)])
abbrev reH:aM Hp (List Int×List Int×List Int×Unit):=ae iW (ae iB (ae iW ag))
def reW:Exit→List Wk
 | .normal=> [aCu,sy 0,.eG 1 0 32 .u8,sy 2,.auto]
 | .exit 0=> [aGn,sy 0,.eG 1 0 32 .u8,sy 2]
 |_=> []
abbrev ald(and:List Int→List Int→List Int)(less:List Int→List Int→List Int×Int)(bit:List Int→Int→Int)(o:List Int):List (FuncId×an):= [(139,eWW and),(185,aCb bit),(186,Oz less),(187,e0W o)]
theorem axx(and:List Int→List Int→List Int)(less:List Int→List Int→List Int×Int)(bit:List Int→Int→Int)(o:List Int)(i:Int)(w b r:List Int):cO Tryz.prog (ald and less bit o) [] aq4 0 [] reW ((aS reC reH).wr ((i,()),(w,b,r,())))=
 aK.ite (decide ((0:Int)≤i)) (aK.need (okW r∧okW r) (aK.need (okW w∧(0:Int)≤i∧i<(512:Int)) (aK.need (okW ((and r r).set (0:Nat)
 (bn u64 ((and r r).getD (0:Nat) (0:Int)) (bit w i)))∧okW o) (aK.ite ((less ((and r r).set (0:Nat) (bn u64 ((and r
 r).getD (0:Nat) (0:Int)) (bit w i))) o).snd==(0:Int)) (aK.leaf Exit.normal ((aS reC reH).wr ((i64.wrap (i-(1:Int)),PUnit.unit),
 w,b,(less ((and r r).set (0:Nat) (bn u64 ((and r r).getD (0:Nat) (0:Int)) (bit w i))) o).fst,PUnit.unit))) (aK.leaf Exit.normal
 ((aS reC reH).wr ((i64.wrap (i-(1:Int)),PUnit.unit),w,b,(and r r).set (0:Nat) (bn u64 ((and r r).getD (0:Nat) (0:
 Int)) (bit w i)),PUnit.unit))))))) (aK.leaf (Exit.exit (0:Nat)) ((aS reX reH).wr (PUnit.unit,w,b,r,PUnit.unit))):=by kernel_rfl
theorem OF:∀p∈ald n7 ig oW ff,p.2.Ok Tryz.prog p.1:=aj aq2 (aj alc (aj OC (aj F9 ax)))
def aCv(g:List Int→List Int)(x:(Int×Unit)×List Int×List Int×List Int×Unit):aK:=.need (x.1.1=511∧okW x.2.1∧x.2.2.2.1=List.replicate 8 0) (.leaf (.exit 0) ((aS reX reH).wr ((),(x.2.1,x.2.2.1,g x.2.1,()))))
def OG(w:List Int):List Int:=dg qq 8 (vd qq w%ll)
def gB(V:Int)(k:Nat):List Int:=dg qq 8 (V/2 ^ (512-k)%ll)
theorem acs(V:Int)(k:Nat)(hk:k<512)(b:Int)(hb:0≤b∧b<2):okW (gB V k)∧okW (m6 (n7 (gB V k) (gB V k)) b):=by
 refine⟨⟨bX _ _,n5 cb _ _⟩,?_⟩;have hR:0≤V/2 ^ (512-k)%ll∧V/2 ^ (512-k)%ll<ll:=⟨Int.emod_nonneg _ (by have:=fN;omega),Int.emod_lt_of_pos _ fN⟩
 have es:n7 (gB V k) (gB V k)=dg qq 8 (V/2 ^ (512-k)%ll+V/2 ^ (512-k)%ll):=by
  unfold n7 gB;rw[mE cb,Int.emod_eq_of_lt hR.1 (Int.lt_of_lt_of_le (Int.lt_trans (by omega) Ox) qq8)]
 rw[es,Yi hR hb];exact⟨bX _ _,n5 cb _ _⟩
theorem aq6(x):Ex Tryz.prog [] (.loop (aO aq4 0)) ((aS reC reH).wr x) (aCv OG x):=by
 obtain⟨⟨i,_⟩,w,b,r,_⟩:=x;refine Ex.need fun⟨h1,h2,h3⟩=>?_;simp only at h1 h2 h3;subst h1 h3;have hw0:=eE cb h2.2;have hw1:=pq cb h2.2;rw[h2.1]at hw1
 have key:=dN (fn:=aq4) (id:=0) (j:=0) (ws:=reW) (hp:= []) mixed OF (aH.nil _) 512 (fun k (_:Unit)=>(aS reC reH).wr ((511-(k:Int),()),(w,b,gB (vd qq w) k,()))) (fun _=>(aS reX reH).wr ((),(w,b,OG w,()))) (fun _ u=>u) (fun _ _=>True)
  (fun k o R hk _ hn hx=>?_) (fun _ _ _ _=>trivial) 0 () (by omega) trivial
 ·have e:gB (vd qq w) 0=List.replicate 8 0:=by
   unfold gB;have e:qq ^ 8=2 ^ 512:=(by decide+kernel);rw[Nat.sub_zero,Int.ediv_eq_zero_of_lt hw0 (by rw[← e];exact hw1),Int.zero_emod,J0 cb]
  rw[e]at key;exact key
 rw[axx];refine⟨fun hb=>?_,fun hb=>?_⟩
 ·have jz:k<512:=by have:=of_decide_eq_true hb;omega
  have e3:i64.wrap ((511-(k:Int))-1)=511-((k+1:Nat):Int):=by rw[ao (by omega) (by omega)];omega
  obtain⟨g1,g2⟩:=acs (vd qq w) k jz (oW w (511-(k:Int))) (aqS _ _);have hs:Ur n7 ig oW ff w k (gB (vd qq w) k)=gB (vd qq w) (k+1):=ak7 rfl jz;have ob:=hn jz;rw[e3];refine⟨⟨g1,g1⟩,⟨h2,by omega,by omega⟩,⟨g2,Ow⟩,fun hc=>?_,fun hc=>?_⟩
  ·have:Ur n7 ig oW ff w k (gB (vd qq w) k)=(ig (m6 (n7 (gB (vd qq w) k) (gB (vd qq w) k)) (oW w (511-(k:Int)))) ff).1:=by
    have sQ:((ig (m6 (n7 (gB (vd qq w) k) (gB (vd qq w) k)) (oW w (511-(k:Int)))) ff).2==0)=true:=hc;unfold Ur;rw[sQ];rfl
   rw[← hs,this]at ob;exact ob
  ·have:Ur n7 ig oW ff w k (gB (vd qq w) k)=m6 (n7 (gB (vd qq w) k) (gB (vd qq w) k)) (oW w (511-(k:Int))):=by
    have sQ:((ig (m6 (n7 (gB (vd qq w) k) (gB (vd qq w) k)) (oW w (511-(k:Int)))) ff).2==0)=false:=hc;unfold Ur;rw[sQ];rfl
   rw[← hs,this]at ob;exact ob
 ·have:k=512:=by have:=of_decide_eq_false hb;omega
  subst this;have:=hx rfl;have e:gB (vd qq w) 512=OG w:=by unfold gB OG;rw[Nat.sub_self,Int.pow_zero,Int.ediv_one]
  rw[e];exact this
abbrev aCw(g:List Int→List Int):dG:= [(0,dc (aS reC reH) 0 [aCu,sy 0,.eG 1 0 32 .u8,sy 2,.auto] (aCv g))]
abbrev aCx:an:=eWB Oy
abbrev ale(and:List Int→List Int→List Int)(less:List Int→List Int→List Int×Int)(bit:List Int→Int→Int)(o:List Int)(Yc:List Int→List Int):List (FuncId×an):=(188,eWB Yc)::ald and less bit o
theorem acu:∀p∈ale n7 ig oW ff yy,p.2.Ok Tryz.prog p.1:=aj acq OF
theorem acv(and:List Int→List Int→List Int)(less:List Int→List Int→List Int×Int)(bit:List Int→Int→Int)(o:List Int)(Yc:List Int→List Int)(g:List Int→List Int)(w:List Int):aG Tryz.prog (ale and less bit o Yc) (aCw g) aq4 (wA.wr (w,())) [] kR=
 End.need ((511:Int)=(511:Int)∧okW w∧ [(0:Int),(0:Int),(0:Int),(0:Int),(0:Int),(0:Int),(0:Int),(0:Int)]=List.replicate
 (8:Nat) (0:Int)) (End.need (okW (g w)) (End.leaf (LV.one (VV.agg [SV.arr (Ty.int IntKind.u8) (32:Nat) (Yc (g w))])) [])):=by kernel_rfl
theorem aq7(w:List Int):okW (OG w):=⟨bX _ _,n5 cb _ _⟩
theorem axy(w:List Int):yy (OG w)=Oy w:=by
 unfold yy Oy OG;rw[mE cb,Int.emod_eq_of_lt (Int.emod_nonneg _ (by have:=fN;omega)) (Int.lt_of_lt_of_le (Int.lt_trans (Int.emod_lt_of_pos _ fN) (by have:=Ox;have:=fN;omega)) qq8)]
theorem aq8:aCx.Ok Tryz.prog 132:=by
 refine(an.aN call132 fun x_ y_ Q H_=>?_).sym;obtain⟨w,_⟩:=x_;obtain⟨hn,hq⟩:=H_;have hn:okW w:=hn;refine(ar mixed acu func132 rfl (LT:=aCw OG) (ks:=kR) (aH.bK (js rfl (bD (hp:= []) aq6) jt))).use (D:= []) ?_ hq;show(aG _ _ _ _ (wA.wr (w,())) [] _).sat _;rw[acv];refine⟨⟨rfl,hn,rfl⟩,aq7 w,?_,rfl⟩;rw[axy]
abbrev alf:aM (List LV) (List Int×Unit):=ae (uA .u8 64) ag
def axz:List Int:=dg 256 32 ll
def tJ(b:List Int):Bool:=decide (vd 256 b<ll)
def qZ(b:List Int):List Int:=dg 256 32 (vd 256 b%ll)
def e0B(c:List Int):an:=an.cl [] ag ag fun _ _=>.leaf none (dO .u8 32 c) []
def eBB(g:List Int→Bool):an:=an.cl [] kL ag fun x _=>.leaf (some (okB x.1)) (nB (g x.1)) []
def acw(g:List Int→List Int):an:=an.cl [] alf ag fun x _=>.leaf (some (x.1.length=64∧ay x.1)) (dO .u8 32 (g x.1)) []
theorem alg(b:List Int):okW (Aq b):=ak8 b
theorem okB.val{b:List Int}(h:okB b):vd qq (Aq b)=vd 256 b:=Yj h.2 (by rw[h.1];decide)
theorem okB.range{b:List Int}(h:okB b):0≤vd 256 b∧vd 256 b<2 ^ 256:=by
 have h1:=eE (by decide) (show iN 256 b from h.2);have h2:=pq (by decide) (show iN 256 b from h.2);have e:(256:Int) ^ 32=2 ^ 256:=by decide+kernel
 rw[h.1,e]at h2;exact⟨h1,h2⟩
abbrev aq9:an:=eBB tJ
theorem OH(o:List Int)(of:List Int→List Int)(less:List Int→List Int→List Int×Int)(b:List Int):aG Tryz.prog [(187,e0W o),(131,eOf of),(186,Oz less)] [] f239 ((kL).wr (b,())) [] kK=
 End.need ((0:Int)≤(0:Int)∧(0:Int)≤(32:Int)∧(32:Int)≤(32:Int)) (End.need (ay (List.take (32:Nat) (List.drop (0:Nat) b))∧
 (List.take (32:Nat) (List.drop (0:Nat) b)).length≤(64:Nat)) (End.need (okW (of (List.take (32:Nat) (List.drop (0:Nat) b)))∧okW o)
 (End.leaf (LV.one (VV.sc (SV.bool (SB.sym ((less (of (List.take (32:Nat) (List.drop (0:Nat) b))) o).snd==(1:Int)))))) []))):=by kernel_rfl
theorem OI:∀p_∈([(187,e0W ff),(131,eOf Aq),(186,Oz ig)]:List (FuncId×an)),p_.2.Ok Tryz.prog p_.1:=(aj F9 (aj ala (aj OC ax)))
theorem acx:aq9.Ok Tryz.prog 239:=by
 refine(an.aN call239 fun x_ y_ Q H_=>?_).sym;obtain⟨b,_⟩:=x_;obtain⟨hn,hq⟩:=H_;have hn:okB b:=hn;refine(ar (tab:= [(187,e0W ff),(131,eOf Aq),(186,Oz ig)]) mixed OI func239 rfl (LT:= []) (ks:=kK) (aH.nil _)).use (D:= []) ?_ hq;show(aG _ _ _ _ ((kL).wr (b,())) [] _).sat _;rw[OH ff Aq ig];rw[aY hn.1];refine⟨by decide,⟨hn.2,by rw[hn.1];decide⟩,⟨alg b,Ow⟩,?_,rfl⟩
 have:((ig (Aq b) ff).2==1)=tJ b:=by
  unfold ig tJ;rw[hn.val,F8]
  by_cases h:vd 256 b<ll
  ·rw[if_pos h,decide_eq_true h];rfl
  ·rw[if_neg h,decide_eq_false h];rfl
 rw[this]
abbrev alh:an:=acw qZ
theorem J2(of:List Int→List Int)(red:List Int→List Int)(b:List Int):aG Tryz.prog [(131,eOf of),(132,eWB red)] [] f78 ((alf).wr (b,())) [] kR=
 End.need ((0:Int)≤(0:Int)∧(0:Int)≤(64:Int)∧(64:Int)≤(64:Int)) (End.need (ay (List.take (64:Nat) (List.drop (0:Nat) b))∧
 (List.take (64:Nat) (List.drop (0:Nat) b)).length≤(64:Nat)) (End.need (okW (of (List.take (64:Nat) (List.drop (0:Nat) b)))) (End.leaf
 (LV.one (VV.agg [SV.arr (Ty.int IntKind.u8) (32:Nat) (red (of (List.take (64:Nat) (List.drop (0:Nat) b))))])) []))):=by kernel_rfl
theorem J3:∀p_∈([(131,eOf Aq),(132,eWB Oy)]:List (FuncId×an)),p_.2.Ok Tryz.prog p_.1:=(aj ala (aj aq8 ax))
theorem Uu:alh.Ok Tryz.prog 78:=by
 refine(an.aN call78 fun x_ y_ Q H_=>?_).sym;obtain⟨b,_⟩:=x_;obtain⟨hn,hq⟩:=H_;have hn:b.length=64∧ay b:=hn;refine(ar (tab:= [(131,eOf Aq),(132,eWB Oy)]) mixed J3 func78 rfl (LT:= []) (ks:=kR) (aH.nil _)).use (D:= []) ?_ hq;show(aG _ _ _ _ ((alf).wr (b,())) [] _).sat _;rw[J2 Aq Oy];rw[aY hn.1];refine⟨by decide,⟨hn.2,by rw[hn.1];decide⟩,alg b,?_,rfl⟩;have:Oy (Aq b)=qZ b:=by unfold Oy qZ;rw[Yj hn.2 (by rw[hn.1];decide)]
 rw[this]
def acy(g:List Int→List Int):an:=an.cl [some (.sl u8)] rrA ag fun x _=>.leaf (some (x.1.length<2305843009213693952∧x.1.flatten.length<1152921504606846976)) (dO .u8 64 (g x.1.flatten)) []
theorem aCy:ofE=acy gp:=by kernel_rfl
theorem ali:(acy gp).Ok Tryz.prog 22:=aCy▸atU
def Uv:List Int:= [83,105,103,69,100,50,53,53,49,57,32,110,111,32,69,100,50,53,53,49,57,32,99,111,108,108,105,115,105,111,110,115]
def lp(c:List Int):List Int:=if c.length≤255 then Uv++([1,(c.length:Int)]++c)else []
def acz(g:List Int→List Int):an:=an.cl [some u8] bA ag fun x _=>.leaf none (.one (.sc (.sl 0 0))) [(0,.own 0 u8 (g x.1))]
abbrev aGo:an:=acz lp
theorem OJ(c:List Int):aG Tryz.prog [(42,aoS)] [] f79 (bA.wr (c,())) [] [.dh 0 u8,.auto,.aE]=
 End.ite (decide ((255:Int)<(↑c.length:Int))) (End.leaf (LV.one (VV.sc (SV.sl (0:Nat) (0:Nat)))) [some (Item.own (0:Nat) (Ty.int IntKind.u8)
 [])]) (End.need ([[(83:Int),(105:Int),(103:Int),(69:Int),(100:Int),(50:Int),(53:Int),(53:Int),(49:Int),(57:Int),(32:
 Int),(110:Int),(111:Int),(32:Int),(69:Int),(100:Int),(50:Int),(53:Int),(53:Int),(49:Int),(57:Int),(32:Int),(99:
 Int),(111:Int),(108:Int),(108:Int),(105:Int),(115:Int),(105:Int),(111:Int),(110:Int),(115:Int)],[(1:Int),IntKind.u8.wrap
 (↑c.length:Int)],c].flatten.length≤(70368744177664:Nat)∧(3:Nat)≤(140737488355328:Nat)) (End.leaf (LV.one (VV.sc (SV.sl (0:Nat) (0:
 Nat)))) [some (Item.own (0:Nat) (Ty.int IntKind.u8) [[(83:Int),(105:Int),(103:Int),(69:Int),(100:Int),(50:Int),(53:Int),(53:
 Int),(49:Int),(57:Int),(32:Int),(110:Int),(111:Int),(32:Int),(69:Int),(100:Int),(50:Int),(53:Int),(53:Int),(49:
 Int),(57:Int),(32:Int),(99:Int),(111:Int),(108:Int),(108:Int),(105:Int),(115:Int),(105:Int),(111:Int),(110:Int),(115
 :Int)],[(1:Int),IntKind.u8.wrap (↑c.length:Int)],c].flatten)])):=by kernel_rfl
theorem axB:aGo.Ok Tryz.prog 79:=by
 refine(an.aN call79 fun x_ y_ Q H_=>?_).sym;obtain⟨c,_⟩:=x_;refine(ar mixed (aj Sv ax) func79 rfl (LT:= []) (ks:= [.dh 0 u8,.auto,.aE]) (aH.nil _)).use (D:= [(0,.own 0 u8 (lp c))]) ?_ H_.2;show(aG _ _ _ _ (bA.wr (c,())) [] _).sat _;rw[OJ];refine⟨fun h=>?_,fun h=>?_⟩
 ·have h:=of_decide_eq_true h;have e:lp c= []:=if_neg (by omega);rw[e];exact⟨rfl,rfl⟩
 ·have h:=of_decide_eq_false h;have e:lp c=Uv++([1,(c.length:Int)]++c):=if_pos (by omega);have ew:IntKind.u8.wrap (c.length:Int)=c.length:=by rw[wrap_u8];omega
  rw[e,ew];refine⟨⟨by simp;omega,by decide⟩,rfl,?_⟩;have e2:aJ [(0,Ev.Item.own 0 u8 (Uv++([1,(c.length:Int)]++c)))] (ag.wr y_)= [some (Ev.Item.own 0 u8 (Uv++([1,(c.length:Int)]++c)))]:=rfl;rw[e2];simp[Uv]
abbrev alj:aM LV (List Int):=uA .u8 64
abbrev chA:aM (List LV) (List Int×List Int×List Int×List Int×Unit):=ae (ah (fh false false u8)) (ae cB (ae cB (ae alj ag)))
def eCh(g:List Int→List Int→List Int→List Int→List Int):an:=an.cl [some u8,none,none,none] chA ag fun x _=>.leaf (some (x.2.1.length=32∧x.2.2.1.length=32∧x.2.2.2.1.length=64)) (dO .u8 32 (g x.1 x.2.1 x.2.2.1 x.2.2.2.1)) []
def pr(c r p m:List Int):List Int:=qZ (gp (lp c++(r++(p++m))))
theorem OK(x:Int):ay (ck x):=fun z hz=>by
 obtain⟨i,_,rfl⟩:=List.mem_map.1 hz;rw[wrap_u8];unfold By;omega
theorem alk(b:List Int):ay (gp b):=by
 have key:∀ (l:List Nat) (s a:List Int),ay a→ay (l.foldl (fun a i=>a++ck (s.getD i 0)) a):=by
  intro l s
  induction l with
  |nil=>exact fun a h=>h
  |cons i l ih=>exact fun a h=>ih _ (h.append (OK _))
 exact key _ _ [] (fun z hz=>by cases hz)
theorem Yl(b:List Int):okB (qZ b):=⟨bX _ _,n5 (by decide) _ _⟩
theorem J4(c:List Int):(lp c).length≤289:=by unfold lp Uv;split<;>simp;omega
abbrev aCA:an:=eCh pr
theorem acA(Ga pre red:List Int→List Int)(c r p m:List Int):aG Tryz.prog [(22,acy Ga),(79,acz pre),(78,acw red)] [] f83 ((chA).wr (c,r,p,m,())) [] kK=
 End.need ((0:Int)≤(0:Int)∧(0:Int)≤(32:Int)∧(32:Int)≤(32:Int)) (End.need ((0:Int)≤(0:Int)∧(0:Int)≤(32:Int)∧(32:
 Int)≤(32:Int)) (End.need ((0:Int)≤(0:Int)∧(0:Int)≤(64:Int)∧(64:Int)≤(64:Int)) (End.need ((4:Nat)<(2305843009213693952:
 Nat)∧ [pre c,List.take (32:Nat) (List.drop (0:Nat) r),List.take (32:Nat) (List.drop (0:Nat) p),List.take (64:Nat) (List.drop (0:Nat)
 m)].flatten.length<(1152921504606846976:Nat)) (End.need ((Ga [pre c,List.take (32:Nat) (List.drop (0:Nat) r),List.take (32:Nat) (List.drop
 (0:Nat) p),List.take (64:Nat) (List.drop (0:Nat) m)].flatten).length=(64:Nat)∧ay (Ga [pre c,List.take (32:Nat) (List.drop (0:Nat)
 r),List.take (32:Nat) (List.drop (0:Nat) p),List.take (64:Nat) (List.drop (0:Nat) m)].flatten)) (End.leaf (LV.one (VV.agg [SV.arr (Ty.int
 IntKind.u8) (32:Nat) (red (Ga [pre c,List.take (32:Nat) (List.drop (0:Nat) r),List.take (32:Nat) (List.drop (0:Nat) p),List.take (64:
 Nat) (List.drop (0:Nat) m)].flatten))])) []))))):=by kernel_rfl
theorem acB:∀p_∈([(22,acy gp),(79,acz lp),(78,acw qZ)]:List (FuncId×an)),p_.2.Ok Tryz.prog p_.1:=(aj ali (aj axB (aj Uu ax)))
theorem ara:aCA.Ok Tryz.prog 83:=by
 refine(an.aN call83 fun x_ y_ Q H_=>?_).sym;obtain⟨c,r,p,m,_⟩:=x_;obtain⟨hn,hq⟩:=H_;have hn:r.length=32∧p.length=32∧m.length=64:=hn;refine(ar (tab:= [(22,acy gp),(79,acz lp),(78,acw qZ)]) mixed acB func83 rfl (LT:= []) (ks:=kK) (aH.nil _)).use (D:= []) ?_ hq;show(aG _ _ _ _ ((chA).wr (c,r,p,m,())) [] _).sat _;rw[acA gp lp qZ];rw[aY hn.1,aY hn.2.1,aY hn.2.2];have h1:=J4 c;have e: [lp c,r,p,m].flatten=lp c++(r++(p++m)):=by simp
 rw[e];refine⟨by decide,by decide,by decide,⟨by decide,by simp;omega⟩,⟨Dh _,alk _⟩,rfl,rfl⟩
theorem OL(c r p m:List Int):okB (pr c r p m):=by unfold pr;exact Yl _
abbrev veA:aM (List LV) (List Int×List Int×List Int×List Int×Unit):=ae cB (ae (ah (fh false false u8)) (ae alj (ae alj ag)))
def eVe(g:List Int→List Int→List Int→List Int→Bool):an:=an.cl [none,some u8,none,none] veA ag fun x _=>.leaf (some (x.1.length=32∧x.2.2.1.length=64∧x.2.2.2.1.length=64∧ay x.2.2.2.1)) (nB (g x.1 x.2.1 x.2.2.1 x.2.2.2.1)) []
theorem Ym:∃f:List Int→List Int→List Int→List Int→Bool,∀ (p c m g:List Int),f p c m g=((gm p).2&&(decide (c.length≤255)&&(tJ (g.drop 32)&&decide (jm (EH (pr c (g.take 32) p m) (nX (gm p).1) (g.drop 32))=g.take 32)))):=⟨fun p c m g=>(gm p).2&&(decide (c.length≤255)&&(tJ (g.drop 32)&&decide (jm (EH (pr c (g.take 32) p m) (nX (gm p).1) (g.drop 32))=g.take 32))),fun _ _ _ _=>rfl⟩
def pH:List Int→List Int→List Int→List Int→Bool:=Classical.choose Ym
theorem Yn(p c m g:List Int):pH p c m g=((gm p).2&&(decide (c.length≤255)&&(tJ (g.drop 32)&&decide (jm (EH (pr c (g.take 32) p m) (nX (gm p).1) (g.drop 32))=g.take 32)))):=Classical.choose_spec Ym p c m g
theorem alm{l:List Int}(h:l.length=32):List.take 32 (List.drop 0 l)=l:=aY h
theorem J5(de:List Int→Pt×Bool)(can:List Int→Bool)(two:List Int→Pt→List Int→Pt)(ch:List Int→List Int→List Int→List Int→List Int)(neg:Pt→Pt)(en:Pt→List Int)(p c m g:List Int):aG Tryz.prog [(238,eDe de),(239,eBB can),(240,eTw two),(83,eCh ch),(241,JN neg),(81,eEn en)] [] f169 (veA.wr (p,c,m,g,())) [] kK=
 End.need ((0:Int)≤(0:Int)∧(0:Int)≤(32:Int)∧(32:Int)≤(64:Int)) (End.need ((32:Nat)≤(List.take (32:Nat) (List.drop (0:Nat)
 g)).length) (End.need ((32:Nat)≤(List.take (32:Nat) (List.drop (0:Nat) g)).length) (End.need ((0:Int)≤(32:Int)∧(32:Int)≤(64:Int)
 ∧(64:Int)≤(64:Int)) (End.need ((32:Nat)≤(List.take (32:Nat) (List.drop (32:Nat) g)).length) (End.need ((32:Nat)≤(List.take (32:
 Nat) (List.drop (32:Nat) g)).length) (End.need (p.length=(32:Nat)) (End.ite ((!(de p).snd)==false) (End.ite (decide ((255:Int)<(↑c.length:
 Int))==false) (End.need (okB (List.take (32:Nat) (List.drop (0:Nat) (List.take (32:Nat) (List.drop (32:Nat) g))))) (End.ite (!can (List.take
 (32:Nat) (List.drop (0:Nat) (List.take (32:Nat) (List.drop (32:Nat) g))))) (End.leaf (LV.one (VV.sc (SV.bool (SB.sym false)))) []) (End.need
 ((List.take (32:Nat) (List.drop (0:Nat) (List.take (32:Nat) (List.drop (0:Nat) g)))).length=(32:Nat)∧p.length=(32:Nat)∧m.length=
 (64:Nat)) (End.need ((ch c (List.take (32:Nat) (List.drop (0:Nat) (List.take (32:Nat) (List.drop (0:Nat) g)))) p m).length=(32:Nat)∧
 (List.take (32:Nat) (List.drop (0:Nat) (List.take (32:Nat) (List.drop (32:Nat) g)))).length=(32:Nat)) (End.leaf (LV.one (VV.sc (SV.bool
 (SB.sym (decide (en (two (ch c (List.take (32:Nat) (List.drop (0:Nat) (List.take (32:Nat) (List.drop (0:Nat) g)))) p m) (neg (de p).fst)
 (List.take (32:Nat) (List.drop (0:Nat) (List.take (32:Nat) (List.drop (32:Nat) g)))))=List.take (32:Nat) (List.drop (0:Nat) (List.take
 (32:Nat) (List.drop (0:Nat) g))))))))) []))))) (End.leaf (LV.one (VV.sc (SV.bool (SB.sym false)))) [])) (End.leaf (LV.one (VV.sc (SV.bool (SB.sym
 false)))) [])))))))):=by kernel_rfl
theorem Uw(de:List Int→Pt×Bool)(can:List Int→Bool)(two:List Int→Pt→List Int→Pt)(ch:List Int→List Int→List Int→List Int→List Int)(neg:Pt→Pt)(en:Pt→List Int){p c m g:List Int}(h1:p.length=32)(h2:m.length=64)(h3:g.length=64)(h4:ay g)(h5:∀a b c d,(ch a b c d).length=32):
  ∃t_:Ev.End,aG Tryz.prog [(238,eDe de),(239,eBB can),(240,eTw two),(83,eCh ch),(241,JN neg),(81,eEn en)] [] f169 (veA.wr (p,c,m,g,())) [] kK=t_∧t_.sat fun v dB=>v=nB ((de p).2&&(decide (c.length≤255)&&(can (g.drop 32)&&decide (en (two (ch c (g.take 32) p m) (neg (de p).1) (g.drop 32))=g.take 32))))∧dB= []:=by
 refine⟨_,J5 ..,?_⟩;have l1:(g.take 32).length=32:=by rw[List.length_take,h3];decide
 have l2:(g.drop 32).length=32:=by rw[List.length_drop,h3]
 have e1:List.take 32 (List.drop 32 g)=g.drop 32:=List.take_of_length_le (by omega);have e2:List.take 32 (List.drop 0 g)=g.take 32:=by rw[List.drop_zero]
 rw[e1,e2,alm l1,alm l2];have hb:ay (g.drop 32):=h4.drop 32;generalize de p=d at*;generalize g.take 32=r at*;generalize g.drop 32=s at*;obtain⟨a,ok⟩:=d;refine⟨by decide,by omega,by omega,by decide,by omega,by omega,h1,?_⟩
 cases ok
 ·exact⟨fun h=>(by cases h),fun _=>⟨rfl,rfl⟩⟩
 ·refine⟨fun _=>⟨fun h=>⟨⟨l2,hb⟩,fun h'=>?_,fun h'=>⟨⟨l1,h1,h2⟩,⟨h5 _ _ _ _,l2⟩,?_,rfl⟩⟩,fun h=>?_⟩,fun h=>(by cases h)⟩
  ·have h':can s=false:=(by simpa using h');rw[h'];simp;exact⟨rfl,rfl⟩
  ·have h':can s=true:=(by simpa using h');have h:c.length≤255:=(by simp at h;omega);rw[h',decide_eq_true h];simp
  ·have h:¬c.length≤255:=(by simp at h;omega);rw[decide_eq_false h];simp;exact⟨rfl,rfl⟩
abbrev arb:an:=eVe pH
theorem OM:∀p_∈([(238,eDe gm),(239,eBB tJ),(240,eTw EH),(83,eCh pr),(241,JN nX),(81,eEn jm)]:List (FuncId×an)),p_.2.Ok Tryz.prog p_.1:=(aj Uo (aj acx (aj aqM (aj ara (aj aqD (aj Un ax))))))
theorem acC:arb.Ok Tryz.prog 169:=by
 refine(an.aN call169 fun x_ y_ Q H_=>?_).sym;obtain⟨p,c,m,g,_⟩:=x_;obtain⟨hn,hq⟩:=H_;have hn:p.length=32∧m.length=64∧g.length=64∧ay g:=hn;have hc_:iq Tryz.prog 169 ((veA).wr (p,c,m,g,())) [] (aG Tryz.prog [(238,eDe gm),(239,eBB tJ),(240,eTw EH),(83,eCh pr),(241,JN nX),(81,eEn jm)] [] f169 ((veA).wr (p,c,m,g,())) [] kK):=ar mixed OM func169 rfl (aH.nil _);obtain⟨t_,ht_,hs_⟩:=Uw gm tJ EH pr nX jm hn.1 hn.2.1 hn.2.2.1 hn.2.2.2 (fun a b c d=>(OL a b c d).1);rw[← Yn p c m g]at hs_;rw[ht_]at hc_;exact hc_.use (D:= []) hs_ hq
end Go.Proofs.YtnbkagglkajbkaaGreat
end
noncomputable section
namespace BJ
end BJ
namespace Go.Proofs.YtnbkagglkajbkaaGreat
open Go Go.Ev BJ Go.Proofs.Tryz
open Go.IntKind (i64 signed u16 u64 wrap)
end Go.Proofs.YtnbkagglkajbkaaGreat
end
noncomputable section
namespace Go.Proofs.YtnbkagglkajbkaaGreat
open Go Go.Ev BJ Go.Proofs.Tryz
open Go.IntKind (i64 signed u16 u64 wrap)
set_option maxRecDepth 1000000
theorem okV{n:Nat}:∀ {v:Vec Int n},m8 v→ay v.toList∧vd 256 v.toList=bx v:=by
 induction n with
 |zero=>exact fun {v} _=>⟨(fun z hz=>by cases hz),rfl⟩
 |succ n ih=>
  intro v h;obtain⟨h1,h2⟩:=ih h.2;refine⟨fun z hz=>?_,?_⟩
  ·rcases List.mem_cons.1 hz with rfl|hz
   ·exact h.1
   ·exact h1 z hz
  ·show v.1+256*vd 256 v.2.toList=v.1+256*bx v.2;rw[h2]
theorem Ar{l:List Int}(h:okB l):m8 (kP l)∧bx (kP l)=vd 256 l:=by
 have h1:m8 (kP l):=Dt fun i _=>iN.getD (by decide) h.2 i;have:=(okV h1).2;rw[iv h.1]at this;exact⟨h1,this.symm⟩
def sc(n:List Int):Nat:=(vd 256 n).toNat
theorem aln{n m:List Int}(hn:okB n)(hm:okB m){p:Pt}{P:BJ.Pt}(hp:NW p P):NW (EH n p m) ((mZ (sc n) P).add (mZ (sc m) lS)):=by
 obtain⟨h1,h2⟩:=Ar hn;obtain⟨h3,h4⟩:=Ar hm;rw[Yf,sc,sc,← h2,← h4];exact aqj h1 h3 hp
def arc(P:BJ.Pt):List Int:=(aqf P).toList
theorem axD{p:Pt}{P:BJ.Pt}(h:NW p P):jm p=arc P:=by unfold jm arc;rw[aqg h]
abbrev ckA:aM (List LV) (List (List Int)×List Int×Unit):=ae (ah (fh false false (.arr u8 32))) (ae (ah (fh false false u8)) ag)
structure cK where
 key:Int
 blocks:Int
 bz:MM
 sign:List Int
def dW:cK:=⟨0,0,mm0,List.replicate 64 0⟩
abbrev axE:aM (List SV) cK:=(vN (z5 (ae (so u8 64) ag))).kE (fun x=>⟨x.1,x.2.1,⟨x.2.2.1,x.2.2.2.1,x.2.2.2.2.1,x.2.2.2.2.2.1,x.2.2.2.2.2.2.1⟩,x.2.2.2.2.2.2.2.1⟩) (fun l=>(l.key,l.blocks,l.bz.ver,l.bz.lh,l.bz.len,l.bz.list,l.bz.plain,l.sign,())) (fun _=>rfl)
abbrev acD(r:cK×Int):LV:=.cj [.agg (axE.wr r.1),.sc (.int .i64 (.sym r.2))]
def J6:List Int:= [98,111,111,116,106,97,99,107]
def k0:List Int:=List.replicate 32 0
def alo(b:List Int):cK:=⟨(aD (b.take 8)).1.1,(aD (b.take 8)).1.2,(gP ((b.drop 8).take 152)).1,b.drop 160⟩
def cS(ver:List Int→List Int→List Int→List Int→Bool)(ks:List (List Int))(b:List Int):cK×Int:=
 if b.length=224∧(aD (b.take 8)).2=true then
  (if(ks.length:Int)≤(aD (b.take 8)).1.1 then(dW,15)
   else if ver (ks.getD (aD (b.take 8)).1.1.toNat k0) J6 (fI b) (b.drop 160)=true then
     (if(gP ((b.drop 8).take 152)).2=true then(alo b,0)else(dW,6))
   else(dW,8))
 else(dW,6)
def Ux(ks:List (List Int)):Prop:=∀k:Nat,k<ks.length→(ks.getD k k0).length=32
def eCk(g:List (List Int)→List Int→cK×Int):an:=an.cl [some (.arr u8 32),some u8] ckA ag fun x _=>.leaf (some (ay x.2.1∧x.2.1.length<1152921504606846976∧Ux x.1)) (acD (g x.1 x.2.1)) []
theorem zb{l:List Int}:0≤(aD l).1.1∧(aD l).1.1<8:=by
 unfold aD
 split
 ·rename_i h;simp only;have h2:=h.2;have:(nK (i64.wrap (l.getD 4 0)) (i64.wrap (l.getD 5 0))).length=8:=by rw[nO h2,h.1]
  unfold nK at this
  split at this
  ·omega
  ·simp at this
 ·exact⟨by decide,by decide⟩
theorem kM{r r':cK×Int}(h:r=r'):acD r=acD r':=by rw[h]
theorem ON(ver:List Int→List Int→List Int→List Int→Bool)(ks:List (List Int))(b:List Int):aG Tryz.prog [(155,km),(169,eVe ver),(39,aaP),(40,Aj),(170,apF)] [] f114 (ckA.wr (ks,b,())) [] [.fr [.sym],.auto]=
 End.ite ((↑b.length:Int)!=(224:Int)) (End.leaf (LV.cj [VV.agg [SV.int i64 (SI.sym (0:Int)),SV.int i64 (SI.sym (0:Int)),
 SV.int u64 (SI.sym (0:Int)),SV.int u64 (SI.sym (0:Int)),SV.int i64 (SI.sym (0:Int)),SV.arr (Ty.int IntKind.u8) (64:
 Nat) (List.replicate (64:Nat) (0:Int)),SV.arr (Ty.int IntKind.u8) (64:Nat) (List.replicate (64:Nat) (0:Int)),SV.arr (Ty.int IntKind.u8) (64
 :Nat) (List.replicate (64:Nat) (0:Int))],VV.sc (SV.int i64 (SI.sym (6:Int)))]) []) (End.need ((0:Int)≤(0:Int)∧(0:Int)≤(8:
 Int)∧(8:Int)≤(↑b.length:Int)) (End.ite (!(aD (List.take (8:Nat) (List.drop (0:Nat) b))).snd) (End.leaf (LV.cj [VV.agg [SV.int
 i64 (SI.sym (0:Int)),SV.int i64 (SI.sym (0:Int)),SV.int u64 (SI.sym (0:Int)),SV.int u64 (SI.sym (0:Int)),
 SV.int i64 (SI.sym (0:Int)),SV.arr (Ty.int IntKind.u8) (64:Nat) (List.replicate (64:Nat) (0:Int)),SV.arr (Ty.int IntKind.u8) (64:
 Nat) (List.replicate (64:Nat) (0:Int)),SV.arr (Ty.int IntKind.u8) (64:Nat) (List.replicate (64:Nat) (0:Int))],VV.sc (SV.int i64
 (SI.sym (6:Int)))]) []) (End.ite (decide ((↑ks.length:Int)≤(aD (List.take (8:Nat) (List.drop (0:Nat) b))).fst.fst)) (End.leaf (LV.cj
 [VV.agg [SV.int i64 (SI.sym (0:Int)),SV.int i64 (SI.sym (0:Int)),SV.int u64 (SI.sym (0:Int)),SV.int u64
 (SI.sym (0:Int)),SV.int i64 (SI.sym (0:Int)),SV.arr (Ty.int IntKind.u8) (64:Nat) (List.replicate (64:Nat) (0:Int)),SV.arr (Ty.int
 IntKind.u8) (64:Nat) (List.replicate (64:Nat) (0:Int)),SV.arr (Ty.int IntKind.u8) (64:Nat) (List.replicate (64:Nat) (0:Int))],VV.sc
 (SV.int i64 (SI.sym (15:Int)))]) []) (End.need ((0:Int)≤(160:Int)∧(160:Int)≤(↑b.length:Int)∧(↑b.length:Int)≤(↑b.length:
 Int)) (End.need ((64:Nat)≤(List.take ((↑b.length:Int)-(160:Int)).toNat (List.drop (160:Nat) b)).length) (End.need ((64:Nat)≤(List.take
 ((↑b.length:Int)-(160:Int)).toNat (List.drop (160:Nat) b)).length) (End.need ((0:Int)≤(aD (List.take (8:Nat) (List.drop (0:Nat)
 b))).fst.fst∧(aD (List.take (8:Nat) (List.drop (0:Nat) b))).fst.fst<(↑ks.length:Int)) (End.need (b.length<(1152921504606846976:
 Nat)) (End.need (List.length (ks.getD (aD (List.take (8:Nat) (List.drop (0:Nat) b))).fst.fst.toNat (List.replicate (32:Nat) (0:Int)))=
 (32:Nat)∧(64:Nat)=(64:Nat)∧(List.take (64:Nat) (List.drop (0:Nat) (List.take ((↑b.length:Int)-(160:Int)).toNat (List.drop (160:
 Nat) b)))).length=(64:Nat)∧ay (List.take (64:Nat) (List.drop (0:Nat) (List.take ((↑b.length:Int)-(160:Int)).toNat (List.drop (160:
 Nat) b))))) (End.ite (!ver (ks.getD (aD (List.take (8:Nat) (List.drop (0:Nat) b))).fst.fst.toNat (List.replicate (32:Nat) (0:Int))) [(98
 :Int),(111:Int),(111:Int),(116:Int),(106:Int),(97:Int),(99:Int),(107:Int)] (fI b) (List.take (64:Nat) (List.drop (0:Nat)
 (List.take ((↑b.length:Int)-(160:Int)).toNat (List.drop (160:Nat) b))))) (End.leaf (LV.cj [VV.agg [SV.int i64 (SI.sym (0:Int)),
 SV.int i64 (SI.sym (0:Int)),SV.int u64 (SI.sym (0:Int)),SV.int u64 (SI.sym (0:Int)),SV.int i64 (SI.sym (0:
 Int)),SV.arr (Ty.int IntKind.u8) (64:Nat) (List.replicate (64:Nat) (0:Int)),SV.arr (Ty.int IntKind.u8) (64:Nat) (List.replicate (64:Nat) (0
 :Int)),SV.arr (Ty.int IntKind.u8) (64:Nat) (List.replicate (64:Nat) (0:Int))],VV.sc (SV.int i64 (SI.sym (8:Int)))]) []) (End.need
 ((0:Int)≤(8:Int)∧(8:Int)≤(160:Int)∧(160:Int)≤(↑b.length:Int)) (End.need (ay (List.take (152:Nat) (List.drop (8:Nat) b)))
 (End.ite (!(gP (List.take (152:Nat) (List.drop (8:Nat) b))).snd) (End.leaf (LV.cj [VV.agg [SV.int i64 (SI.sym (0:Int)),SV.int
 i64 (SI.sym (0:Int)),SV.int u64 (SI.sym (0:Int)),SV.int u64 (SI.sym (0:Int)),SV.int i64 (SI.sym (0:Int)),
 SV.arr (Ty.int IntKind.u8) (64:Nat) (List.replicate (64:Nat) (0:Int)),SV.arr (Ty.int IntKind.u8) (64:Nat) (List.replicate (64:Nat) (0:
 Int)),SV.arr (Ty.int IntKind.u8) (64:Nat) (List.replicate (64:Nat) (0:Int))],VV.sc (SV.int i64 (SI.sym (6:Int)))]) []) (End.leaf
 (LV.cj [VV.agg [SV.int i64 (SI.sym (aD (List.take (8:Nat) (List.drop (0:Nat) b))).fst.fst),SV.int i64 (SI.sym (aD
 (List.take (8:Nat) (List.drop (0:Nat) b))).fst.snd),SV.int u64 (SI.sym (gP (List.take (152:Nat) (List.drop (8:Nat) b))).fst.ver),
 SV.int u64 (SI.sym (gP (List.take (152:Nat) (List.drop (8:Nat) b))).fst.lh),SV.int i64 (SI.sym (gP (List.take (152:Nat)
 (List.drop (8:Nat) b))).fst.len),SV.arr (Ty.int IntKind.u8) (64:Nat) (gP (List.take (152:Nat) (List.drop (8:Nat) b))).fst.list,SV.arr
 (Ty.int IntKind.u8) (64:Nat) (gP (List.take (152:Nat) (List.drop (8:Nat) b))).fst.plain,SV.arr (Ty.int IntKind.u8) (64:Nat) (List.take (64:
 Nat) (List.drop (0:Nat) (List.take ((↑b.length:Int)-(160:Int)).toNat (List.drop (160:Nat) b))))],VV.sc (SV.int i64 (SI.sym (0:
 Int)))]) [])))))))))))))):=by kernel_rfl
theorem acE{ver:List Int→List Int→List Int→List Int→Bool}{ks:List (List Int)}{b:List Int}(hb:ay b)(hl:b.length<1152921504606846976)(hk:Ux ks):
  ∃t_:Ev.End,aG Tryz.prog [(155,km),(169,eVe ver),(39,aaP),(40,Aj),(170,apF)] [] f114 (ckA.wr (ks,b,())) [] [.fr [.sym],.auto]=t_∧t_.sat fun v dB=>v=acD (cS ver ks b)∧dB= []:=by
 refine⟨_,ON ..,?_⟩;have e0:List.drop 0 b=b:=rfl;rw[e0];refine⟨fun h=>?_,fun h=>?_⟩
 ·have hn:¬ (b.length=224∧(aD (b.take 8)).2=true):=fun⟨h',_⟩=>by rw[h']at h;simp at h
  exact⟨kM (r:=(dW,6)) (by unfold cS;rw[if_neg hn]),rfl⟩
 have PC:b.length=224:=by have:((b.length:Int)!=224)=false:=h
                          simp at this;omega
 have e1:List.take ((b.length:Int)-160).toNat (List.drop 160 b)=b.drop 160:=List.take_of_length_le (by rw[List.length_drop];omega);have e2:List.take 64 (List.drop 0 (b.drop 160))=b.drop 160:=by rw[List.drop_zero];exact List.take_of_length_le (by rw[List.length_drop];omega)
 have l1:(b.drop 160).length=64:=by rw[List.length_drop,PC]
 rw[e1,e2];obtain⟨k1,k2⟩:=zb (l:=b.take 8);have by1:=hb.drop 160;have by2:ay (List.take 152 (List.drop 8 b)):=(hb.drop 8).take 152;refine⟨by omega,fun h1=>?_,fun h1=>?_⟩
 ·have hn:¬ (b.length=224∧(aD (b.take 8)).2=true):=fun⟨_,h'⟩=>by rw[h']at h1;simp at h1
  exact⟨kM (r:=(dW,6)) (by unfold cS;rw[if_neg hn]),rfl⟩
 have hp:b.length=224∧(aD (b.take 8)).2=true:=⟨PC,by simpa using h1⟩;refine⟨fun h2=>?_,fun h2=>?_⟩
 ·have h2:=of_decide_eq_true h2;exact⟨kM (r:=(dW,15)) (by unfold cS;rw[if_pos hp,if_pos h2]),rfl⟩
 have h2:=of_decide_eq_false h2;refine⟨by omega,by omega,by omega,by omega,by omega,⟨hk _ (by omega),rfl,l1,by1⟩,fun h3=>?_,fun h3=>?_⟩
 ·have h3:¬ver (ks.getD (aD (b.take 8)).1.1.toNat k0) J6 (fI b) (b.drop 160)=true:=fun h'=>by
   have EM:(!ver (ks.getD (aD (b.take 8)).1.1.toNat k0) J6 (fI b) (b.drop 160))=true:=h3;rw[h']at EM;cases EM
  exact⟨kM (r:=(dW,8)) (by unfold cS;rw[if_pos hp,if_neg h2,if_neg h3]),rfl⟩
 have EM:ver (ks.getD (aD (b.take 8)).1.1.toNat k0) J6 (fI b) (b.drop 160)=true:=by
  have EM:(!ver (ks.getD (aD (b.take 8)).1.1.toNat k0) J6 (fI b) (b.drop 160))=false:=h3;simpa using EM
 refine⟨by omega,by2,fun h4=>?_,fun h4=>?_⟩
 ·have h4:¬ (gP ((b.drop 8).take 152)).2=true:=fun h'=>by rw[h']at h4;cases h4
  exact⟨kM (r:=(dW,6)) (by unfold cS;rw[if_pos hp,if_neg h2,if_pos EM,if_neg h4]),rfl⟩
 ·have h4:(gP ((b.drop 8).take 152)).2=true:=by simpa using h4
  exact⟨kM (r:=(alo b,0)) (by unfold cS;rw[if_pos hp,if_neg h2,if_pos EM,if_pos h4]),rfl⟩
theorem alp:(eCk (cS pH)).Ok Tryz.prog 114:=by
 refine(an.aN call114 fun x_ y_ Q h=>?_).sym;obtain⟨ks,b,_⟩:=x_;obtain⟨hn,hq⟩:=h;have hc:iq Tryz.prog 114 (ckA.wr (ks,b,())) [] (aG Tryz.prog [(155,km),(169,eVe pH),(39,aaP),(40,Aj),(170,apF)] [] f114 (ckA.wr (ks,b,())) [] [.fr [.sym],.auto]):=ar mixed (aj CM (aj acC (aj avV (aj abl (aj awC ax))))) func114 rfl (aH.nil _);obtain⟨t,ht,hs⟩:=acE (ver:=pH) hn.1 hn.2.1 hn.2.2;rw[ht]at hc;exact hc.use (D:= []) hs hq
end Go.Proofs.YtnbkagglkajbkaaGreat
end
