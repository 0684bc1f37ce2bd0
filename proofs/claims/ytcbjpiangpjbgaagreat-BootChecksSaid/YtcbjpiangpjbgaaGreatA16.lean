/- What the laws lean on, part 16: a reader of code, plain facts, and what each function gives; no conditions. -/
import Derived.Test.YtcbjpiangpjbgaaGreatA15
set_option linter.unusedVariables false
set_option linter.unusedSimpArgs false
noncomputable section
namespace Go.Proofs.YtcbjpiangpjbgaaGreat
open Go Go.Ev BJ Go.Proofs.Tryz
open Go.IntKind (i64 signed u32 u64 wrap wrap_u32)
set_option maxRecDepth 1000000
abbrev PN:Func:=f99
abbrev twC:aY (List LV) (Int×Unit):=(jk 3 (aq (ah (aU 0 0)) (jk 1 (aq (ah (aU 1 0)) (aq (ah (aU 2 0)) (jk 1 (aq (ah (aU 3 0)) (aq (ah (aU 4 0)) (ag (ah (aC .i64)) (jk 32 ae))))))))))
abbrev aEa:Wk:=.fr (cC 43 [(3,.al),(5,.al),(6,.al),(8,.al),(9,.al),(10,.sym)])
abbrev twX:aY (List LV) (Unit):=(jk 6 (aq (ah (aU 0 0)) (jk 2 (aq (ah (aU 1 0)) (jk 33 ae)))))
abbrev aIj:Wk:=.fr (cC 43 [(6,.al),(9,.al)])
abbrev ptC{Y:Type}(r:aY (List SV) Y):aY (List SV) (Pt×Y):=(ag jX (pc .u64 (pc .u64 (pc .u64 (pc .u64 r 5) 5) 5) 5)).kB (fun x=>((x.1,x.2.1,x.2.2.1,x.2.2.2.1,x.2.2.2.2.1),x.2.2.2.2.2)) (fun y=>(y.1.1,y.1.2.1,y.1.2.2.1,y.1.2.2.2.1,y.1.2.2.2.2,y.2)) (fun _=>rfl)
abbrev aIk:aY (List SV) (Pt×Pt×Pt×Pt×Unit):=ptC (ptC (ptC (ptC ae)))
abbrev twH:aY Hp (List Int×List Int×Pt×(Pt×Pt×Pt×Pt×Unit)×Pt×Unit):=ag (gJ 52 .u8 32) (ag (gJ 52 .u8 32) (ag iPt (ag (kY 218 aIk) (ag iPt ae))))
def twW:Exit→List Wk
 | .normal=> [aEa,ap7 2,.bH 3 (List.replicate 84 .sym),ap7 4,.auto]
 | .exit 0=> [aIj,.auto]
 |_=> []
abbrev twI(bit:List Int→Int→Int)(a b:List Int)(i:Int):Int:=i64.wrap (bit a i+i64.wrap (2*bit b i))
theorem ayB(bit:List Int→Int→Int)(dbl:Pt→Pt)(add:Pt→Pt→Pt)(a b:List Int)(r p0 p1 p2 p3 o:Pt)(i:Int):cY Tryz.prog [(148,Yl bit),(147,FG dbl),(146,e2Q add)] [] PN 0 [] twW ((bg twC twH).wr ((i,()),(a,b,r,(p0,p1,p2,p3,()),o,())))=
  .ite (decide (0≤i)) (.need (a.length=32∧0≤i∧i<256) (.need (b.length=32∧0≤i∧i<256) (.ite (decide (0<twI bit a b i))
   (.need (0≤twI bit a b i∧twI bit a b i<4) (.leaf .normal ((bg twC twH).wr ((i64.wrap (i-1),()),(a,b,r,(p0,p1,p2,p3,()),add (dbl o) (wv (twI bit a b i) [p0,p1,p2,p3]),())))))
   (.leaf .normal ((bg twC twH).wr ((i64.wrap (i-1),()),(a,b,r,(p0,p1,p2,p3,()),dbl o,())))))))
   (.leaf (.exit 0) ((bg twX ap6).wr ((),(r,o,())))):=by kernel_rfl
def twG(bit:List Int→Int→Int)(dbl:Pt→Pt)(add:Pt→Pt→Pt)(a b:List Int)(l:List Pt)(k:Nat)(r:Pt):Pt:=bif decide (0<twI bit a b (255-(k:Int)))then add (dbl r) (wv (twI bit a b (255-(k:Int))) l)else dbl r
abbrev twT:Type:=(Int×Unit)×List Int×List Int×Pt×(Pt×Pt×Pt×Pt×Unit)×Pt×Unit
def ayC(w:List Int→List Int→Pt→Pt→Pt→Pt→Pt→Pt)(x:twT):aW:=.need (x.1.1=255∧x.2.1.length=32∧x.2.2.1.length=32) (.leaf (.exit 0) ((bg twX ap6).wr ((),(x.2.2.2.1,w x.2.1 x.2.2.1 x.2.2.2.2.1.1 x.2.2.2.2.1.2.1 x.2.2.2.2.1.2.2.1 x.2.2.2.2.1.2.2.2.1 x.2.2.2.2.2.1,()))))
theorem Ue{a:List Int}{i:Int}:lB a i=0∨lB a i=1:=ait _
theorem Yn(a b:List Int)(i:Int):0≤twI lB a b i∧twI lB a b i<4:=by
 rcases Ue (a:=a) (i:=i)with h|h<;>rcases Ue (a:=b) (i:=i)with h'|h'<;>unfold twI<;>rw[h,h']<;>decide
theorem ap9(x:twT):Ex Tryz.prog [] (.loop (a9 PN 0)) ((bg twC twH).wr x) (.need (x.1.1=255∧x.2.1.length=32∧x.2.2.1.length=32) (.leaf (.exit 0) ((bg twX ap6).wr ((),(x.2.2.2.1,fG (twG lB dT eD x.2.1 x.2.2.1 [x.2.2.2.2.1.1,x.2.2.2.2.1.2.1,x.2.2.2.2.1.2.2.1,x.2.2.2.2.1.2.2.2.1]) 256 x.2.2.2.2.2.1,()))))):=by
 obtain⟨⟨i,_⟩,a,b,r,⟨p0,p1,p2,p3,_⟩,o,_⟩:=x;refine Ex.need fun⟨h1,h2,h3⟩=>?_;simp only at h1 h2 h3;subst h1
 have key:=dP (fn:=PN) (id:=0) (j:=0) (ws:=twW) (hp:= []) mixed aiY (aJ.nil _) 256 (fun k o=>(bg twC twH).wr ((255-(k:Int),()),(a,b,r,(p0,p1,p2,p3,()),o,()))) (fun o=>(bg twX ap6).wr ((),(r,o,()))) (twG lB dT eD a b [p0,p1,p2,p3]) (fun _ _=>True)
  (fun k o R hk _ hn hx=>?_) (fun _ _ _ _=>trivial) 0 o (by omega) trivial
 ·rw[Nat.sub_zero,mU]at key;exact key
 rw[ayB];refine⟨fun hb=>?_,fun hb=>?_⟩
 ·have jl:k<256:=by have:=of_decide_eq_true hb;omega
  have nh:=hn jl;have e3:i64.wrap ((255-(k:Int))-1)=255-((k+1:Nat):Int):=by rw[ar (by omega) (by omega)];omega
  rw[e3];refine⟨⟨h2,by omega,by omega⟩,⟨h3,by omega,by omega⟩,fun hc=>⟨Yn _ _ _,?_⟩,fun hc=>?_⟩
  ·have:twG lB dT eD a b [p0,p1,p2,p3] k o=eD (dT o) (wv (twI lB a b (255-(k:Int))) [p0,p1,p2,p3]):=(by unfold twG;rw[hc];rfl);rw[this]at nh;exact nh
  ·have:twG lB dT eD a b [p0,p1,p2,p3] k o=dT o:=(by unfold twG;rw[hc];rfl);rw[this]at nh;exact nh
 ·have:k=256:=by have:=of_decide_eq_false hb;omega
  exact hx this
abbrev ayD(w:List Int→List Int→Pt→Pt→Pt→Pt→Pt→Pt):dL:= [(0,dx (bg twC twH) 0 [aEa,.auto,ap7 2,.bH 3 (List.replicate 84 .sym),ap7 4] (ayC w))]
abbrev twA:aY (List LV) (List Int×Pt×List Int×Unit):=ag cB (ag A2 (ag cB ae))
def eTw(g:List Int→Pt→List Int→Pt):ao:=ao.cH [] twA ae fun x _=>.leaf (some (x.1.length=32∧x.2.2.1.length=32)) (A2.wr (g x.1 x.2.1 x.2.2.1)) []
abbrev ai0(z b:Pt)(bit:List Int→Int→Int)(dbl:Pt→Pt)(add:Pt→Pt→Pt):List (FuncId×ao):= [(148,Yl bit),(147,FG dbl),(146,e2Q add),(145,e0Q z),(144,e0Q b)]
theorem Yo(z b:Pt)(w:List Int→List Int→Pt→Pt→Pt→Pt→Pt→Pt)(bit:List Int→Int→Int)(dbl:Pt→Pt)(add:Pt→Pt→Pt)(n m:List Int)(p:Pt):aN Tryz.prog (ai0 z b bit dbl add) (ayD w) PN (twA.wr (n,p,m,())) [] kK=
  .need ((255:Int)=255∧n.length=32∧m.length=32) (.leaf (A2.wr (w n m z p b (add p b) z)) []):=by kernel_rfl
theorem Uf:∃f:List Int→Pt→List Int→Pt,∀n p m,f n p m=aiu (kp n) p (kp m):=⟨fun n p m=>aiu (kp n) p (kp m),fun _ _ _=>rfl⟩
def Bp:List Int→Pt→List Int→Pt:=Classical.choose Uf
theorem Ug(n:List Int)(p:Pt)(m:List Int):Bp n p m=aiu (kp n) p (kp m):=Classical.choose_spec Uf n p m
def PO(a b:List Int)(p0 p1 p2 p3 o:Pt):Pt:=fG (twG lB dT eD a b [p0,p1,p2,p3]) 256 o
theorem ayE(a b:List Int)(l:Vec Pt 4)(k:Nat)(hk:k<256)(r:Pt):twG lB dT eD a b l.toList k r=qC lP dT eD (kp a) (kp b) l (255-(k:Int)) r:=by
 unfold twG qC apH twI lB;rw[iL];rfl
theorem aqa(n m:List Int)(p:Pt):PO n m gm p gX (eD p gX) gm=Bp n p m:=by
 rw[Ug];unfold PO aiu auu;exact nR (fun k hk r=>ayE n m (apG gm p gX (eD p gX)) k hk r) gm 256 (Nat.le_refl _)
theorem ai1{n m:List Int}{V W:Pt}(hn:n.length=32)(hm:m.length=32)(h:V=W):(Ev.End.need ((255:Int)=255∧n.length=32∧m.length=32) (.leaf (A2.wr V) [])).sat fun v dI=>v=A2.wr W∧dI= []:=by
 subst h;exact⟨⟨rfl,hn,hm⟩,rfl,rfl⟩
theorem ai2(a b:List Int)(p0 p1 p2 p3 o:Pt):PO a b p0 p1 p2 p3 o=fG (twG lB dT eD a b [p0,p1,p2,p3]) 256 o:=rfl
theorem ai3(x:twT):Ex Tryz.prog [] (.loop (a9 PN 0)) ((bg twC twH).wr x) (ayC PO x):=by
 unfold ayC;rw[ai2];exact ap9 x
theorem ayF:aJ Tryz.prog [] (ayD PO) (aD PN):=aJ.bW (jc rfl (bQ (hp:= []) ai3) jh)
theorem ayG:∀p∈ai0 gm gX lB dT eD,p.2.Ok Tryz.prog p.1:=aj KO (aj AG (aj FL (aj KI (aj aiT aw))))
abbrev aEc:ao:=eTw Bp
theorem aqb:aEc.Ok Tryz.prog 99:=by
 refine(ao.ba call99 fun x_ y_ Q H_=>?_).sym;obtain⟨n,p,m,_⟩:=x_;obtain⟨hn,hq⟩:=H_;have hn:n.length=32∧m.length=32:=hn
 have hc:gI Tryz.prog 99 (twA.wr (n,p,m,())) [] (aN Tryz.prog (ai0 gm gX lB dT eD) (ayD PO) PN (twA.wr (n,p,m,())) [] kK):=
  au mixed ayG func99 rfl ayF
 rw[Yo gm gX PO lB dT eD]at hc;exact hc.use (D:= []) (ai1 hn.1 hn.2 (aqa n m p)) hq
end Go.Proofs.YtcbjpiangpjbgaaGreat
end
noncomputable section
namespace Go.Ev
open Go
open Go.IntKind (i64 signed u32 u64 wrap wrap_u32)
def vd(B:Int):List Int→Int
 | []=>0
 |x::l=>x+B*vd B l
def dg(B:Int):Nat→Int→List Int
 |0,_=> []
 |n+1,x=>x%B::dg B n (x/B)
def gP(B:Int)(l:List Int):Prop:=∀z∈l,0≤z∧z<B
noncomputable section
variable {B:Int}
theorem gP.tail{x:Int}{l:List Int}(h:gP B (x::l)):gP B l:=fun z hz=>h z (List.mem_cons_of_mem _ hz)
theorem gP.head{x:Int}{l:List Int}(h:gP B (x::l)):0≤x∧x<B:=h x (by simp)
theorem gP.take{l:List Int}(h:gP B l)(n:Nat):gP B (l.take n):=fun z hz=>h z (List.mem_of_mem_take hz)
theorem gP.drop{l:List Int}(h:gP B l)(n:Nat):gP B (l.drop n):=fun z hz=>h z (List.mem_of_mem_drop hz)
theorem gP.append{l m:List Int}(h:gP B l)(h':gP B m):gP B (l++m):=fun z hz=>by
 rcases List.mem_append.1 hz with k|k
 ·exact h z k
 ·exact h' z k
theorem gP.set{l:List Int}(h:gP B l){i:Nat}{x:Int}(hx:0≤x∧x<B):gP B (l.set i x):=fun z hz=>by
 rcases List.mem_or_eq_of_mem_set hz with k|k
 ·exact h z k
 ·subst k;exact hx
theorem gP.aEd(hB:0<B)(n:Nat):gP B (List.replicate n 0):=fun z hz=>by
 rw[List.eq_of_mem_replicate hz];omega
theorem gP.getD{l:List Int}(hB:0<B)(h:gP B l)(i:Nat):0≤l.getD i 0∧l.getD i 0<B:=by
 rw[List.getD_eq_getElem?_getD];rcases Nat.lt_or_ge i l.length with h1|h1
 ·rw[List.getElem?_eq_getElem h1];exact h _ (List.getElem_mem h1)
 ·rw[List.getElem?_eq_none h1];exact⟨by simp,by simpa using hB⟩
theorem cn:∀ (n:Nat) (x:Int),(dg B n x).length=n
 |0,_=>rfl
 |n+1,x=>by simp[dg,cn n]
theorem na(hB:0<B):∀ (n:Nat) (x:Int),gP B (dg B n x)
 |0,_=>fun z hz=>by cases hz
 |n+1,x=>fun z hz=>by
  rcases List.mem_cons.1 hz with rfl|hz
  ·exact⟨Int.emod_nonneg _ (by omega),Int.emod_lt_of_pos _ hB⟩
  ·exact na hB n _ z hz
theorem ai4(hB:0<B)(n:Nat):0<B ^ n:=Int.pow_pos hB
theorem eI(hB:0<B):∀ {l:List Int},gP B l→0≤vd B l
 | [],_=>by simp[vd]
 |x::l,h=>by
  have h1:=eI hB h.tail;have h2:=h.head;have:=Int.mul_nonneg (Int.le_of_lt hB) h1;simp only[vd];omega
theorem ob(hB:0<B):∀ {l:List Int},gP B l→vd B l<B ^ l.length
 | [],_=>by simp[vd]
 |x::l,h=>by
  have h1:=ob hB h.tail;have h2:=h.head;simp only[vd,List.length_cons];have h3:B*(vd B l+1)≤B*B ^ l.length:=Int.mul_le_mul_of_nonneg_left (by omega) (by omega);rw[Int.mul_add,Int.mul_one]at h3;rw[Int.pow_succ,Int.mul_comm (B ^ l.length)];omega
theorem Cv(hB:0<B){x y:Int}(h:0≤x∧x<B):(x+B*y)/B=y∧(x+B*y)%B=x:=by
 rw[Int.add_mul_ediv_left _ _ (by omega),Int.add_mul_emod_self_left,Int.ediv_eq_zero_of_lt h.1 h.2,Int.emod_eq_of_lt h.1 h.2];exact⟨by omega,rfl⟩
theorem KP(hB:0<B):∀ {l:List Int},gP B l→dg B l.length (vd B l)=l
 | [],_=>rfl
 |x::l,h=>by
  obtain⟨h1,h2⟩:=Cv hB (y:=vd B l) h.head;show(x+B*vd B l)%B::dg B l.length ((x+B*vd B l)/B)=x::l;rw[h1,h2,KP hB h.tail]
theorem nS(hB:0<B){P:Int}(hP:0<P)(x:Int):x%B+B*(x/B%P)=x%(B*P):=by
 have h1:=Int.emod_nonneg x (show B≠0 by omega);have h2:=Int.emod_lt_of_pos x hB;have h3:=Int.emod_nonneg (x/B) (show P≠0 by omega);have h4:=Int.emod_lt_of_pos (x/B) hP;have e1:=Int.emod_add_mul_ediv x B;have e2:=Int.emod_add_mul_ediv (x/B) P
 have e:x=x%B+B*(x/B%P)+(B*P)*(x/B/P):=by
  rw[Int.mul_assoc,Int.add_assoc,← Int.mul_add,e2,e1]
 have dU:x%B+B*(x/B%P)<B*P:=by
  have:=Int.mul_le_mul_of_nonneg_left (show x/B%P+1≤P by omega) (show 0≤B by omega);rw[Int.mul_add,Int.mul_one]at this;omega
 have hnn:0≤x%B+B*(x/B%P):=by
  have:=Int.mul_nonneg (show 0≤B by omega) h3;omega
 have key:x%(B*P)=(x%B+B*(x/B%P))%(B*P):=by
  conv=>lhs;rw[e]
  rw[Int.add_mul_emod_self_left]
 rw[key,Int.emod_eq_of_lt hnn dU]
theorem lV(hB:0<B):∀ (n:Nat) (x:Int),vd B (dg B n x)=x%B ^ n
 |0,x=>by simp[dg,vd,Int.emod_one]
 |n+1,x=>by
  show x%B+B*vd B (dg B n (x/B))=_;rw[lV hB n,nS hB (ai4 hB n),Int.pow_succ,Int.mul_comm (B ^ n)]
theorem ayH(hB:0<B){l m:List Int}(hl:gP B l)(hm:gP B m)(hn:l.length=m.length)(h:vd B l=vd B m):l=m:=by
 rw[← KP hB hl,← KP hB hm,hn,h]
theorem Cw(hB:0<B){l:List Int}{n:Nat}{x:Int}(hl:gP B l)(hn:l.length=n)(h:vd B l=x%B ^ n):l=dg B n x:=
 ayH hB hl (na hB n x) (by rw[cn,hn]) (by rw[lV hB,h])
theorem lW(hB:0<B):∀ {n:Nat} {x:Int} {k:Nat},k<n→(dg B n x).getD k 0=x/B ^ k%B
 |0,_,k,h=>absurd h (by omega)
 |n+1,x,0,_=>by simp[dg]
 |n+1,x,k+1,h=>by
  show(x%B::dg B n (x/B)).getD (k+1) 0=_;rw[List.getD_cons_succ,lW hB (by omega:k<n),Int.ediv_ediv_of_nonneg (by omega),Int.pow_succ,Int.mul_comm (B ^ k)]
theorem aqc(hB:0<B){l:List Int}(h:gP B l){k:Nat}(hk:k<l.length):l.getD k 0=vd B l/B ^ k%B:=by
 conv=>lhs;rw[← KP hB h]
 exact lW hB hk
theorem Cx:∀ (l m:List Int),vd B (l++m)=vd B l+B ^ l.length*vd B m
 | [],m=>by simp[vd]
 |x::l,m=>by
  show x+B*vd B (l++m)=x+B*vd B l+B ^ (l.length+1)*vd B m;rw[Cx l m,Int.mul_add,Int.pow_succ,Int.mul_assoc,Int.mul_left_comm B,Int.add_assoc]
theorem FV:∀ {l:List Int} {k:Nat} {x:Int},k<l.length→vd B (l.set k x)=vd B l+(x-l.getD k 0)*B ^ k
 | [],k,_,h=>absurd h (by simp)
 |y::l,0,x,_=>by
  simp only[List.set_cons_zero,vd,List.getD_cons_zero,Int.pow_zero];omega
 |y::l,k+1,x,h=>by
  simp only[List.set_cons_succ,vd,List.getD_cons_succ];rw[FV (by simpa using h),Int.mul_add,Int.pow_succ,Int.mul_comm B ((x-l.getD k 0)*B ^ k),Int.mul_assoc,Int.add_assoc]
theorem ai5(n:Nat):vd B (List.replicate n 0)=0:=by
 induction n with
 |zero=>rfl
 |succ n ih=>rw[List.replicate_succ];simp[vd,ih]
theorem fM{l:List Int}{k:Nat}(hk:k<l.length):vd B (l.take (k+1))=vd B (l.take k)+l.getD k 0*B ^ k:=by
 rw[List.take_add_one,List.getElem?_eq_getElem hk,Cx,List.length_take,Nat.min_eq_left (by omega),List.getD_eq_getElem?_getD,List.getElem?_eq_getElem hk];simp[vd,Int.mul_comm]
theorem FW(hB:0<B)(n:Nat):dg B n 0=List.replicate n 0:=
 (Cw hB (gP.aEd hB n) (by simp) (by rw[ai5];simp)).symm
end
theorem Bq{x:Int}(A C:Int)(hA:0<A)(hC:0<C)(D:Int)(hDp:0<D)(hdiv:A*D∣C):x%C/A%D=x/A%D:=by
 obtain⟨q,rfl⟩:=hdiv
 have hq:0<q:=by
  rcases Int.lt_or_le 0 q with h|h
  ·exact h
  ·have:=Int.mul_nonneg (Int.le_of_lt (Int.mul_pos hA hDp)) (show 0≤ -q by omega);rw[Int.mul_neg]at this;omega
 have e:=nS (B:=A) (P:=D*q) hA (Int.mul_pos hDp hq) x;rw[← Int.mul_assoc]at e;rw[← e];have h1:=Int.emod_nonneg x (show A≠0 by omega);have h2:=Int.emod_lt_of_pos x hA;rw[(Cv hA ⟨h1,h2⟩).1,Int.emod_emod_of_dvd _ (Int.dvd_mul_right D q)]
theorem Cy(V:Int)(k:Nat):V/2 ^ k=2*(V/2 ^ (k+1))+V/2 ^ k%2:=by
 have e:V/2 ^ (k+1)=V/2 ^ k/2:=by rw[Int.pow_succ,Int.ediv_ediv_of_nonneg (by exact Int.le_of_lt (Int.pow_pos (by decide)))]
 rw[e];omega
theorem KQ{L r b:Int}(hL:0<L)(hr:0≤r∧r<L)(hb:0≤b∧b<2):(2*r+b)%L=if 2*r+b<L then 2*r+b else 2*r+b-L:=by
 split
 ·exact Int.emod_eq_of_lt (by omega) (by assumption)
 ·have e:2*r+b=(2*r+b-L)+L*1:=by omega
  conv=>lhs;rw[e]
  rw[Int.add_mul_emod_self_left,Int.emod_eq_of_lt (by omega) (by omega)]
theorem Uh(L V b:Int):(2*V+b)%L=(2*(V%L)+b)%L:=by
 have e:=Int.emod_add_mul_ediv V L
 have:2*V+b=2*(V%L)+b+L*(2*(V/L)):=by
  conv=>lhs;rw[← e]
  rw[Int.mul_add,Int.mul_left_comm];omega
 rw[this,Int.add_mul_emod_self_left]
end Go.Ev
end
noncomputable section
namespace Go.Proofs.YtcbjpiangpjbgaaGreat
open Go Go.Ev BJ Go.Proofs.Tryz
open Go.IntKind (i64 signed u32 u64 wrap wrap_u32)
set_option maxRecDepth 1000000
theorem Yp{x y c:Int}(hx:G8 x)(hy:G8 y)(hc:c=0∨c=1):mV x y c=((x-y-c)%18446744073709551616,if x<y+c then 1 else 0):=by
 unfold G8 at hx hy;obtain⟨a,rfl⟩:=Int.eq_ofNat_of_zero_le hx.1;obtain⟨b,rfl⟩:=Int.eq_ofNat_of_zero_le hy.1;obtain⟨d,rfl⟩:∃d:Nat,c=(d:Int):=by rcases hc with rfl|rfl;exact⟨0,rfl⟩;exact⟨1,rfl⟩
 simp only[mV,Int.toNat_natCast];have e:(2:Nat) ^ 64=18446744073709551616:=by decide
 rw[e];refine Prod.ext ?_ ?_
 ·show(((a+18446744073709551616-b-d)%18446744073709551616:Nat):Int)=_;omega
 ·show(if a<b+d then(1:Int)else 0)=_
  by_cases h:a<b+d
  ·rw[if_pos h,if_pos (by omega)]
  ·rw[if_neg h,if_neg (by omega)]
theorem lX{B:Int}(hB:1≤B){a b:Nat}(h:a≤b):B ^ a≤B ^ b:=by
 obtain⟨d,rfl⟩:∃d,b=a+d:=⟨b-a,by omega⟩;rw[Int.pow_add];have h1:0<B ^ a:=Int.pow_pos (by omega);have h2:0<B ^ d:=Int.pow_pos (by omega);have:=Int.mul_le_mul_of_nonneg_left (show 1≤B ^ d by omega) (Int.le_of_lt h1);rwa [Int.mul_one]at this
theorem KR(k m:Nat):(k:Int).tmod (m:Int)=((k%m:Nat):Int):=by rw[Int.tmod_eq_emod_of_nonneg (by omega),← Int.natCast_emod]
abbrev qq:Int:=18446744073709551616
theorem cv:0<qq:=by decide
theorem FY:qq=256 ^ 8:=by decide
theorem aEe:qq=2 ^ 64:=by decide
theorem pG(s:Nat):((2 ^ (s*8):Nat):Int)=256 ^ s:=by
 rw[Nat.mul_comm,Nat.pow_mul,Int.natCast_pow];rfl
theorem qF{b:Int}(hb:0<b){m:Nat}(hm:0<m){l:List Int}(h:gP (b ^ m) l){k:Nat}(hk:k/m<l.length):l.getD (k/m) 0/b ^ (k%m)%b=vd (b ^ m) l/b ^ k%b:=by
 have hB:0<b ^ m:=Int.pow_pos hb;rw[aqc hB h hk];have dU:=Nat.mod_lt k hm;have e1:(b ^ m)=b ^ (k%m)*b*b ^ (m-(k%m+1)):=by rw[← Int.pow_succ,← Int.pow_add];congr 1;omega
 rw[Bq (b ^ (k%m)) (b ^ m) (Int.pow_pos hb) hB b hb ⟨_,e1⟩];rw[Int.ediv_ediv_of_nonneg (Int.le_of_lt (Int.pow_pos hB)),← Int.pow_mul,← Int.pow_add]
 congr 3
 have:=Nat.div_add_mod k m;exact this
theorem ai6{B:Int}(hB:0<B)(n:Nat)(x:Int):(List.range n).map (fun i=>x/B ^ i%B)=dg B n x:=by
 apply List.ext_getElem?
 intro i;rcases Nat.lt_or_ge i n with h|h
 ·have e:=lW hB (x:=x) h;rw[List.getD_eq_getElem?_getD,List.getElem?_eq_getElem (by rw[cn];exact h)]at e;rw[List.getElem?_eq_getElem (l:=dg B n x) (by rw[cn];exact h),List.getElem?_map,List.getElem?_range h];simpa using e.symm
 ·rw[List.getElem?_eq_none (by simpa using h),List.getElem?_eq_none (by rw[cn];exact h)]
def yl(b:List Int):List Int:=dg qq 8 (vd 256 b)
def wy(w:List Int):List Int:=dg 256 32 (vd qq w)
theorem aqd{b:List Int}(hb:ax b)(hl:b.length≤64){k:Nat}(hk:k<b.length):
  (yl (b.take k)).set (k/8) (bq .u64 ((yl (b.take k)).getD (k/8) 0) (shl .u64 (u64.wrap (b.getD k 0)) ((k%8*8:Nat):Int)))=yl (b.take (k+1)):=by
 have gR:gP 256 b:=hb;have hc:=gP.getD (by decide) gR k;have hV0:=eI (by decide) (gR.take k);have hV1:=ob (by decide) (gR.take k);rw[List.length_take,Nat.min_eq_left (by omega)]at hV1;unfold yl;rw[fM hk];generalize vd 256 (b.take k)=V at*;generalize b.getD k 0=c at*;have hi:k/8<8:=by omega
 have hs:k%8<8:=by omega
 have jl:k=8*(k/8)+k%8:=(Nat.div_add_mod k 8).symm;have hp:(256:Int) ^ k=qq ^ (k/8)*256 ^ (k%8):=by rw[FY,← Int.pow_mul,← Int.pow_add,← jl]
 have hQ:0<qq ^ (k/8):=Int.pow_pos cv
 have hle:(256:Int) ^ (k%8)*256≤qq:=by
  rw[← Int.pow_succ,FY];exact lX (by decide) (by omega)
 have hP:(0:Int)<256 ^ (k%8):=Int.pow_pos (by decide);have hdl:V/qq ^ (k/8)<256 ^ (k%8):=Int.ediv_lt_of_lt_mul hQ (by rw[Int.mul_comm,← hp];exact hV1);have hd0:0≤V/qq ^ (k/8):=Int.ediv_nonneg hV0 (Int.le_of_lt hQ)
 have eg:(dg qq 8 V).getD (k/8) 0=V/qq ^ (k/8):=by
  rw[lW cv hi,Int.emod_eq_of_lt hd0 (by omega)]
 rw[eg];have ew:u64.wrap c=c:=wrap_u64 hc.1 (by omega);have hcP:c*256 ^ (k%8)≤255*256 ^ (k%8):=Int.mul_le_mul_of_nonneg_right (by omega) (by omega);have ayI:0≤c*256 ^ (k%8):=Int.mul_nonneg hc.1 (by omega)
 have es:shl .u64 c ((k%8*8:Nat):Int)=c*256 ^ (k%8):=by
  rw[iE .u64 c _ (by simp[IntKind.bits];omega),pG,wrap_u64 ayI (by unfold qq at hle;omega)]
 have hdiv:c*256 ^ (k%8)%((2 ^ (k%8*8):Nat):Int)=0:=by rw[pG];exact Int.mul_emod_left _ _
 have eo:bq .u64 (V/qq ^ (k/8)) (c*256 ^ (k%8))=V/qq ^ (k/8)+c*256 ^ (k%8):=by
  rw[eK,nw (m:=k%8*8) ayI hdiv hd0 (by rw[pG];exact hdl) (by unfold qq at hle;omega),Int.add_comm]
 rw[ew,es,eo];refine Cw cv ((na cv 8 V).set ⟨by omega,by omega⟩) (by rw[List.length_set,cn]) ?_;rw[FV (by rw[cn];exact hi),eg,lV cv];have e2:(256:Int) ^ 64=qq ^ 8:=by decide
 have XA:V<qq ^ 8:=Int.lt_of_lt_of_le hV1 (by rw[← e2];exact lX (by decide) (by omega));rw[Int.emod_eq_of_lt hV0 XA]
 have e3:(V/qq ^ (k/8)+c*256 ^ (k%8)-V/qq ^ (k/8))*qq ^ (k/8)=c*256 ^ k:=by
  rw[hp,Int.mul_comm (qq ^ (k/8)),← Int.mul_assoc];congr 1;omega
 rw[e3]
 have dU:V+c*256 ^ k<qq ^ 8:=by
  have h1:c*256 ^ k≤255*256 ^ k:=Int.mul_le_mul_of_nonneg_right (by omega) (Int.le_of_lt (Int.pow_pos (by decide)));have h2:(256:Int) ^ (k+1)≤256 ^ 64:=lX (by decide) (by omega);rw[Int.pow_succ]at h2;rw[← e2];omega
 exact(Int.emod_eq_of_lt (Int.add_nonneg hV0 (Int.mul_nonneg hc.1 (Int.le_of_lt (Int.pow_pos (by decide))))) dU).symm
theorem ai7{w:List Int}(h:gP qq w)(hl:w.length=8){k:Nat}(hk:k<64):IntKind.u8.wrap (shr .u64 (w.getD (k/8) 0) ((k%8*8:Nat):Int))=vd qq w/256 ^ k%256:=by
 rw[ee .u64 _ _ (by simp[IntKind.bits];omega),pG,wrap_u8];have h':gP (256 ^ 8) w:=by rw[← FY];exact h
 have:=qF (b:=256) (by decide) (by decide:0<8) h' (k:=k) (by omega);rw[this,← FY]
def nT(w:List Int)(i:Int):Int:=vd qq w/2 ^ i.toNat%2
theorem Yq{w:List Int}(h:gP qq w)(hl:w.length=8){k:Nat}(hk:k<512):bd .u64 (shr .u64 (w.getD (k/64) 0) ((k%64:Nat):Int)) 1=nT w (k:Int):=by
 rw[ee .u64 _ _ (by simp[IntKind.bits];omega),pZ (m:=1) (by decide) _ 1 (by decide)];have h':gP (2 ^ 64) w:=by rw[← aEe];exact h
 have:=qF (b:=2) (by decide) (by decide:0<64) h' (k:=k) (by omega);unfold nT;rw[Int.toNat_natCast,aEe,← this];simp
structure Part (k:Nat) (w o:List Int):Prop where
 len:o.length=8
 inb:gP qq o
 rest:∀j,k≤j→o.getD j 0=w.getD j 0
theorem Part.step{k:Nat}{w o:List Int}(h:Part k w o){z:Int}(hk:k<8)(hz:0≤z∧z<qq):Part (k+1) w (o.set k z)∧vd qq ((o.set k z).take (k+1))=vd qq (o.take k)+z*qq ^ k:=by
 obtain⟨h1,h2,h3⟩:=h;have hg:(o.set k z).getD k 0=z:=by rw[List.getD_eq_getElem?_getD];simp[show k<o.length by omega]
 refine⟨⟨by rw[List.length_set,h1],h2.set hz,fun j hj=>?_⟩,?_⟩
 ·rw[← h3 j (by omega),List.getD_eq_getElem?_getD,List.getD_eq_getElem?_getD,List.getElem?_set_ne (by omega)]
 ·rw[fM (by rw[List.length_set];omega),hg,List.take_set_of_le (Nat.le_refl _)]
def gZ(w x:List Int):List Int×Int:=(dg qq 8 (vd qq w-vd qq x),if vd qq w<vd qq x then 1 else 0)
def nb(w x:List Int):List Int:=dg qq 8 (vd qq w+vd qq x)
def Cz(sb:Int→Int→Int→Int×Int)(x:List Int)(k:Nat)(o:List Int×Int):List Int×Int:=(o.1.set k (sb (o.1.getD k 0) (x.getD k 0) o.2).1,(sb (o.1.getD k 0) (x.getD k 0) o.2).2)
def Ui(w x:List Int)(k:Nat)(o:List Int×Int):Prop:=Part k w o.1∧(o.2=0∨o.2=1)∧vd qq (o.1.take k)=vd qq (w.take k)-vd qq (x.take k)+o.2*qq ^ k
theorem CA{w x:List Int}(hw:gP qq w)(hx:gP qq x)(lw:w.length=8)(lx:x.length=8){k:Nat}{o:List Int×Int}(hk:k<8)(h:Ui w x k o):Ui w x (k+1) (Cz mV x k o):=by
 obtain⟨hp,hc,hv⟩:=h;obtain⟨o,c⟩:=o;simp only at hp hc hv;have h1:=gP.getD cv hp.inb k;have h2:=gP.getD cv hx k;have e:=Yp (x:=o.getD k 0) (y:=x.getD k 0) (c:=c) h1 h2 hc;have eU:=hp.rest k (Nat.le_refl _);unfold Cz;rw[e];have hz:0≤(o.getD k 0-x.getD k 0-c)%18446744073709551616∧(o.getD k 0-x.getD k 0-c)%18446744073709551616<qq:=⟨Int.emod_nonneg _ (by decide),Int.emod_lt_of_pos _ (by decide)⟩;obtain⟨p1,p2⟩:=hp.step hk hz;refine⟨p1,by simp only;split<;>simp,?_⟩;simp only;rw[p2,hv,fM (by omega),fM (by omega),eU,Int.pow_succ,Int.mul_comm (qq ^ k) qq,← Int.mul_assoc];rw[eU]at h1;generalize w.getD k 0=a at*;generalize x.getD k 0=b at*
 have key:c+(a-b-c)%18446744073709551616=a-b+(if a<b+c then(1:Int)else 0)*qq:=by
  unfold qq at*
  split<;>omega
 have e2:c*qq ^ k+(a-b-c)%18446744073709551616*qq ^ k=(a-b+(if a<b+c then(1:Int)else 0)*qq)*qq ^ k:=by rw[← key,Int.add_mul]
 rw[Int.add_mul,Int.sub_mul]at e2;omega
theorem ai8{w x:List Int}(hw:gP qq w)(hx:gP qq x)(lw:w.length=8)(lx:x.length=8):upto (Cz mV x) 0 8 (w,0)=gZ w x:=by
 have h:=td (f:=Cz mV x) (Ui w x) (n:=8) (fun k o hk h=>CA hw hx lw lx hk h) 8 0 (w,0) (by omega) ⟨⟨lw,hw,fun _ _=>rfl⟩,.inl rfl,by simp[vd]⟩;generalize upto (Cz mV x) 0 8 (w,0)=o at*;obtain⟨o,c⟩:=o;obtain⟨hp,hc,hv⟩:=h;simp only at hp hc hv;simp only[Nat.zero_add]at hp hv;rw[List.take_of_length_le (by rw[hp.len];decide),List.take_of_length_le (by omega),List.take_of_length_le (by omega)]at hv;have b1:=eI cv hp.inb;have b2:=ob cv hp.inb;have b3:=eI cv hw;have b4:=ob cv hw;have b5:=eI cv hx;have b6:=ob cv hx;rw[hp.len]at b2;rw[lw]at b4;rw[lx]at b6;unfold gZ;refine Prod.ext (Cw cv hp.inb hp.len ?_) ?_
 ·rw[hv];have:vd qq w-vd qq x+c*qq ^ 8=vd qq w-vd qq x+qq ^ 8*c:=by rw[Int.mul_comm]
  have e:vd qq o=vd qq o%qq ^ 8:=(Int.emod_eq_of_lt b1 b2).symm;rw[hv,this,Int.add_mul_emod_self_left]at e;rw[this];exact e
 ·simp only;rcases hc with rfl|rfl
  ·rw[if_neg (by omega)]
  ·rw[if_pos (by omega)]
def CB(ad:Int→Int→Int→Int×Int)(x:List Int)(k:Nat)(o:List Int×Int):List Int×Int:=(o.1.set k (ad (o.1.getD k 0) (x.getD k 0) o.2).1,(ad (o.1.getD k 0) (x.getD k 0) o.2).2)
def aqf(w x:List Int)(k:Nat)(o:List Int×Int):Prop:=Part k w o.1∧(o.2=0∨o.2=1)∧vd qq (o.1.take k)+o.2*qq ^ k=vd qq (w.take k)+vd qq (x.take k)
theorem KS{w x:List Int}(hw:gP qq w)(hx:gP qq x)(lw:w.length=8)(lx:x.length=8){k:Nat}{o:List Int×Int}(hk:k<8)(h:aqf w x k o):aqf w x (k+1) (CB cl x k o):=by
 obtain⟨hp,hc,hv⟩:=h;obtain⟨o,c⟩:=o;simp only at hp hc hv;have h1:=gP.getD cv hp.inb k;have h2:=gP.getD cv hx k;have e:=qn (x:=o.getD k 0) (y:=x.getD k 0) (c:=c) h1.1 h2.1 (by omega);have eU:=hp.rest k (Nat.le_refl _);unfold CB;rw[e];have hz:0≤(o.getD k 0+x.getD k 0+c)%18446744073709551616∧(o.getD k 0+x.getD k 0+c)%18446744073709551616<qq:=⟨Int.emod_nonneg _ (by decide),Int.emod_lt_of_pos _ (by decide)⟩;obtain⟨p1,p2⟩:=hp.step hk hz;refine⟨p1,by simp only;unfold qq at h1 h2;omega,?_⟩;simp only;rw[p2,fM (by omega),fM (by omega),eU,Int.pow_succ,Int.mul_comm (qq ^ k) qq,← Int.mul_assoc];rw[eU]at h1;generalize w.getD k 0=a at*;generalize x.getD k 0=b at*
 have key:(a+b+c)%18446744073709551616+(a+b+c)/18446744073709551616*qq=a+b+c:=by
  unfold qq at*;omega
 have e2:(a+b+c)%18446744073709551616*qq ^ k+(a+b+c)/18446744073709551616*qq*qq ^ k=(a+b+c)*qq ^ k:=by rw[← Int.add_mul,key]
 rw[Int.add_mul (a+b),Int.add_mul a]at e2;omega
theorem aqg{w x:List Int}(hw:gP qq w)(hx:gP qq x)(lw:w.length=8)(lx:x.length=8):(upto (CB cl x) 0 8 (w,0)).1=nb w x:=by
 have h:=td (f:=CB cl x) (aqf w x) (n:=8) (fun k o hk h=>KS hw hx lw lx hk h) 8 0 (w,0) (by omega) ⟨⟨lw,hw,fun _ _=>rfl⟩,.inl rfl,by simp[vd]⟩;generalize upto (CB cl x) 0 8 (w,0)=o at*;obtain⟨o,c⟩:=o;obtain⟨hp,hc,hv⟩:=h;simp only at hp hc hv;simp only[Nat.zero_add]at hp hv;rw[List.take_of_length_le (by rw[hp.len];decide),List.take_of_length_le (by omega),List.take_of_length_le (by omega)]at hv;have b1:=eI cv hp.inb;have b2:=ob cv hp.inb;rw[hp.len]at b2;unfold nb;refine Cw cv hp.inb hp.len ?_;rw[← hv,Int.mul_comm,Int.add_mul_emod_self_left,Int.emod_eq_of_lt b1 b2]
def ff:List Int:= [6346243789798364141,1503914060200516822,0,1152921504606846976,0,0,0,0]
def ll:Int:=7237005577332262213973186563042994240857116359379907606001950938285454250989
theorem fN:0<ll:=by decide
theorem CC:vd qq ff=ll:=by decide+kernel
theorem KT:ff.length=8∧gP qq ff:=⟨rfl,by unfold gP ff;decide⟩
def mj(r:List Int)(b:Int):List Int:=r.set 0 (bq .u64 (r.getD 0 0) b)
def PQ(and:List Int→List Int→List Int)(less:List Int→List Int→List Int×Int)(bit:List Int→Int→Int)(o w:List Int)(k:Nat)(r:List Int):List Int:=
 bif (less (mj (and r r) (bit w (511-(k:Int)))) o).2==0 then(less (mj (and r r) (bit w (511-(k:Int)))) o).1 else mj (and r r) (bit w (511-(k:Int)))
theorem aqh(w:List Int)(i:Int):0≤nT w i∧nT w i<2:=by unfold nT;omega
theorem qq8:(2:Int) ^ 254≤qq ^ 8:=by decide+kernel
theorem KU:ll+ll<2 ^ 254:=by decide+kernel
theorem Uj{R b:Int}(hR:0≤R∧R<ll)(hb:0≤b∧b<2):mj (dg qq 8 (R+R)) b=dg qq 8 (2*R+b):=by
 have h1:2*R+b<qq ^ 8:=Int.lt_of_lt_of_le (by have:=KU;omega) qq8;have h2:R+R<qq ^ 8:=Int.lt_of_lt_of_le (by have:=KU;omega) qq8;have hg:(dg qq 8 (R+R)).getD 0 0=(R+R)%qq:=by rw[lW cv (by decide)];simp
 have hm:0≤(R+R)%qq:=Int.emod_nonneg (R+R) (show qq≠0 by decide);have hl:(R+R)%qq<18446744073709551616:=Int.emod_lt_of_pos (R+R) cv
 have hev:(R+R)%qq%2=0:=by
  show(R+R)%18446744073709551616%2=0;omega
 have hv:vd qq (dg qq 8 (R+R))=R+R:=by rw[lV cv,Int.emod_eq_of_lt (by omega) h2]
 unfold mj;rw[hg];generalize (R+R)%qq=M at*;rw[nw (m:=1) hm (by simpa using hev) hb.1 (by simpa using hb.2) (by omega)];refine Cw cv ((na cv 8 _).set ⟨by omega,(by omega:M+b<18446744073709551616)⟩) (by rw[List.length_set,cn]) ?_;rw[FV (by rw[cn];decide),hg,hv,Int.emod_eq_of_lt (by omega) h1,Int.pow_zero,Int.mul_one];omega
theorem ai9{V:Int}{w:List Int}(hw:vd qq w=V){k:Nat}(hk:k<512):PQ nb gZ nT ff w k (dg qq 8 (V/2 ^ (512-k)%ll))=dg qq 8 (V/2 ^ (512-(k+1))%ll):=by
 have hlq:∀ {x:Int},x<ll+ll→x<qq ^ 8:=fun h=>Int.lt_of_lt_of_le (Int.lt_trans h KU) qq8;have e0:=Cy V (512-(k+1));rw[show 512-(k+1)+1=512-k from by omega]at e0
 have eb:nT w (511-(k:Int))=V/2 ^ (512-(k+1))%2:=by
  unfold nT;rw[hw,show(511-(k:Int)).toNat=512-(k+1)from by omega]
 have hb:0≤V/2 ^ (512-(k+1))%2∧V/2 ^ (512-(k+1))%2<2:=by omega
 have hR:0≤V/2 ^ (512-k)%ll∧V/2 ^ (512-k)%ll<ll:=⟨Int.emod_nonneg _ (by have:=fN;omega),Int.emod_lt_of_pos _ fN⟩
 have em:(V/2 ^ (512-(k+1)))%ll=(2*(V/2 ^ (512-k)%ll)+V/2 ^ (512-(k+1))%2)%ll:=by
  conv=>lhs;rw[e0]
  exact Uh _ _ _
 rw[em,KQ fN hR hb]
 have es:nb (dg qq 8 (V/2 ^ (512-k)%ll)) (dg qq 8 (V/2 ^ (512-k)%ll))=dg qq 8 (V/2 ^ (512-k)%ll+V/2 ^ (512-k)%ll):=by
  unfold nb;rw[lV cv,Int.emod_eq_of_lt hR.1 (hlq (by omega))]
 unfold PQ;rw[eb,es,Uj hR hb];generalize V/2 ^ (512-k)%ll=R at*;generalize V/2 ^ (512-(k+1))%2=b at*
 have el:gZ (dg qq 8 (2*R+b)) ff=(dg qq 8 (2*R+b-ll),if 2*R+b<ll then 1 else 0):=by
  unfold gZ;rw[CC,lV cv,Int.emod_eq_of_lt (by omega) (hlq (by omega))]
 rw[el]
 by_cases h:2*R+b<ll
 ·rw[if_pos h,if_pos h];rfl
 ·rw[if_neg h,if_neg h];rfl
def KV(w:List Int):List Int:=dg 256 32 (vd qq w%ll)
theorem aja(b:List Int):(yl b).length=8∧gP qq (yl b):=⟨cn _ _,na cv _ _⟩
theorem Uk{b:List Int}(hb:ax b)(hl:b.length≤64):vd qq (yl b)=vd 256 b:=by
 unfold yl;have h1:=eI (by decide) (show gP 256 b from hb);have h2:=ob (by decide) (show gP 256 b from hb);have e:(256:Int) ^ 64=qq ^ 8:=by decide+kernel
 have h3:(256:Int) ^ b.length≤256 ^ 64:=lX (by decide) hl;rw[lV cv,Int.emod_eq_of_lt h1 (by rw[← e];omega)]
abbrev cW:aY LV (List Int):=te .u64 8
abbrev wA:aY (List LV) (List Int×Unit):=ag cW ae
abbrev w2A:aY (List LV) (List Int×List Int×Unit):=ag cW (ag cW ae)
abbrev iW:aY (Option Ev.Item) (List Int):=gJ 211 .u64 8
abbrev iB:aY (Option Ev.Item) (List Int):=gJ 52 .u8 32
abbrev qX(i:Nat):Wk:=.db i 0 8 .u64
abbrev nPW(r:List Int×Int):LV:=.cG [.agg [.arr (.int .u64) 8 r.1],.sc (.int .u64 (.sym r.2))]
def okW(w:List Int):Prop:=w.length=8∧gP 18446744073709551616 w
def okB(b:List Int):Prop:=b.length=32∧ax b
theorem Ul{w:List Int}(h:okW w):List.take 8 (List.drop 0 w)=w:=bI h.1
def eWW(g:List Int→List Int→List Int):ao:=ao.cH [] w2A ae fun x _=>.leaf (some (okW x.1∧okW x.2.1)) (dQ .u64 8 (g x.1 x.2.1)) []
def KW(g:List Int→List Int→List Int×Int):ao:=ao.cH [] w2A ae fun x _=>.leaf (some (okW x.1∧okW x.2.1)) (nPW (g x.1 x.2.1)) []
abbrev wiA:aY (List LV) (List Int×Int×Unit):=ag cW (ag (ah (aC .i64)) ae)
def aEg(g:List Int→Int→Int):ao:=ao.cH [] wiA ae fun x _=>.leaf (some (okW x.1∧0≤x.2.1∧x.2.1<512)) (nU (g x.1 x.2.1)) []
def e0W(c:List Int):ao:=ao.cH [] ae ae fun _ _=>.leaf none (dQ .u64 8 c) []
def eWB(g:List Int→List Int):ao:=ao.cH [] wA ae fun x _=>.leaf (some (okW x.1)) (dQ .u8 32 (g x.1)) []
def eOf(g:List Int→List Int):ao:=ao.cH [some u8] bA ae fun x _=>.leaf (some (ax x.1∧x.1.length≤64)) (dQ .u64 8 (g x.1)) []
abbrev aqi:Func:=f141
abbrev soC:aY (List LV) (List Int×Int×Int×Unit):=(jk 2 (aq (ah (aU 0 0)) (aq (ah (aU 1 0)) (jk 2 (ag (ah (fR false false u8)) (ag (ah (aC .i64)) (ag (ah (aC .i64)) (jk 18 ae))))))))
abbrev aEj:Wk:=.fr (cC 27 [(2,.al),(3,.al),(6,.al),(7,.sym),(8,.sym)])
abbrev soX:aY (List LV) (Unit):=(jk 2 (aq (ah (aU 0 0)) (aq (ah (aU 1 0)) (jk 23 ae))))
abbrev aIo:Wk:=.fr (cC 27 [(2,.al),(3,.al)])
abbrev soH:aY Hp (List Int×List Int×Unit):=ag iW (ag iW ae)
def soW:Exit→List Wk
 | .normal=> [aEj,qX 0,qX 1,.auto]
 | .exit 0=> [aIo,qX 0,qX 1,.auto]
 |_=> []
theorem ayK(b:List Int)(n i:Int)(r m:List Int):cY Tryz.prog [] [] aqi 0 [] soW ((bg soC soH).wr ((b,n,i,()),(r,m,())))=
 aW.ite (decide (i<n)) (aW.need ((0:Int)≤i∧i<(↑b.length:Int)) (aW.need ((0:Int)≤i64.wrap (i.tdiv (8:Int))∧
 i64.wrap (i.tdiv (8:Int))<(8:Int)) (aW.need ((0:Int)≤i64.wrap (i.tmod (8:Int)*(8:Int))) (aW.need ((0:Int)≤
 i64.wrap (i.tdiv (8:Int))∧i64.wrap (i.tdiv (8:Int))<(8:Int)) (aW.leaf Exit.normal ((bg soC soH).wr ((b,n,i64.wrap
 (i+(1:Int)),PUnit.unit),r,m.set ((0:Nat)+(i64.wrap (i.tdiv (8:Int))).toNat) (bq u64 ((List.take (8:Nat) (List.drop (0
 :Nat) m)).getD (i64.wrap (i.tdiv (8:Int))).toNat (0:Int)) (shl u64 (u64.wrap (b.getD i.toNat (0:Int))) (i64.wrap
 (i.tmod (8:Int)*(8:Int))))),PUnit.unit))))))) (aW.leaf (Exit.exit (0:Nat)) ((bg soX soH).wr (PUnit.unit,r,m,PUnit.unit))):=by kernel_rfl
def aEk(g:List Int→List Int)(x:(List Int×Int×Int×Unit)×List Int×List Int×Unit):aW:=.need (ax x.1.1∧x.1.1.length≤64∧x.1.2.1=x.1.1.length∧x.1.2.2.1=0∧x.2.2.1=List.replicate 8 0) (.leaf (.exit 0) ((bg soX soH).wr ((),(x.2.1,g x.1.1,()))))
theorem auI(k:Nat):i64.wrap ((k:Int).tmod 8*8)=((k%8*8:Nat):Int):=by
 rw[show(k:Int).tmod 8=((k%8:Nat):Int)from KR k 8,ar (by omega) (by omega)];omega
theorem aqj:yl []=List.replicate 8 0:=FW cv 8
theorem aqk(x):Ex Tryz.prog [] (.loop (a9 aqi 0)) ((bg soC soH).wr x) (aEk yl x):=by
 obtain⟨⟨b,n,i,_⟩,r,m,_⟩:=x;refine Ex.need fun⟨h1,h2,h3,h4,h5⟩=>?_;simp only at h1 h2 h3 h4 h5;subst h3 h4 h5
 have key:=dP (fn:=aqi) (id:=0) (j:=0) (ws:=soW) (hp:= []) mixed aw (aJ.nil _) b.length (fun k (_:Unit)=>(bg soC soH).wr ((b,(b.length:Int),(k:Int),()),(r,yl (b.take k),()))) (fun _=>(bg soX soH).wr ((),(r,yl b,()))) (fun _ u=>u) (fun _ _=>True)
  (fun k o R hk _ hn hx=>?_) (fun _ _ _ _=>trivial) 0 () (by omega) trivial
 ·rw[List.take_zero,aqj]at key;exact key
 rw[ayK];refine⟨fun hb=>?_,fun hb=>?_⟩
 ·have jl:k<b.length:=by have:=of_decide_eq_true hb;omega
  have e1:i64.wrap ((k:Int).tdiv 8)=((k/8:Nat):Int):=fS k 8 (by omega);rw[e1,auI,bI (aja _).1,Int.toNat_natCast,Int.toNat_natCast,Nat.zero_add,aqd h1 h2 jl,cS k (by omega)];exact⟨by omega,by omega,by omega,by omega,hn jl⟩
 ·have:k=b.length:=by have:=of_decide_eq_false hb;omega
  subst this;have:=hx rfl;rw[List.take_length];exact this
abbrev aEl(g:List Int→List Int):dL:= [(0,dx (bg soC soH) 0 [aEj,qX 0,qX 1,.auto] (aEk g))]
abbrev aIp:ao:=eOf yl
theorem ajb(g:List Int→List Int)(b:List Int):aN Tryz.prog [] (aEl g) aqi (bA.wr (b,())) [] [.fr [.sym],.fQ 0 0 8 .u64,.auto]=
 End.need (ax b∧b.length≤(64:Nat)∧(↑b.length:Int)=(↑b.length:Int)∧(0:Int)=(0:Int)∧ [(0:Int),(0:Int),(0:Int),(0:
 Int),(0:Int),(0:Int),(0:Int),(0:Int)]=List.replicate (8:Nat) (0:Int)) (End.leaf (LV.one (VV.agg [SV.arr (Ty.int u64) (8:
 Nat) (g b)])) []):=by kernel_rfl
theorem ajc:aIp.Ok Tryz.prog 141:=by
 refine(ao.ba call141 fun x_ y_ Q H_=>?_).sym;obtain⟨b,_⟩:=x_;obtain⟨hn,hq⟩:=H_;have hn:ax b∧b.length≤64:=hn;refine(au mixed aw func141 rfl (LT:=aEl yl) (ks:= [.fr [.sym],.fQ 0 0 8 .u64,.auto]) (aJ.bW (jc rfl (bQ (hp:= []) aqk) jh))).use (D:= []) ?_ hq;show(aN _ _ _ _ (bA.wr (b,())) [] _).sat _;rw[ajb];exact⟨⟨hn.1,hn.2,rfl,rfl,rfl⟩,rfl,rfl⟩
abbrev aql:Func:=f220
abbrev byC:aY (List LV) (Int×Unit):=(jk 1 (aq (ah (aU 0 0)) (aq (ah (aU 1 0)) (aq (ah (aU 2 0)) (jk 1 (ag (ah (aC .i64)) (jk 15 ae)))))))
abbrev aEn:Wk:=.fr (cC 21 [(1,.al),(2,.al),(3,.al),(5,.sym)])
abbrev byX:aY (List LV) (Unit):=(jk 2 (aq (ah (aU 1 0)) (aq (ah (aU 2 0)) (jk 17 ae))))
abbrev aIr:Wk:=.fr (cC 21 [(2,.al),(3,.al)])
abbrev byH:aY Hp (List Int×List Int×List Int×Unit):=ag iW (ag iB (ag iB ae))
def byW:Exit→List Wk
 | .normal=> [aEn,qX 0,.db 1 0 32 .u8,.db 2 0 32 .u8,.auto]
 | .exit 0=> [aIr,qX 0,.db 1 0 32 .u8,.db 2 0 32 .u8]
 |_=> []
theorem ayL(i:Int)(w r o:List Int):cY Tryz.prog [] [] aql 0 [] byW ((bg byC byH).wr ((i,()),(w,r,o,())))=
 aW.ite (decide (i<(32:Int))) (aW.need ((0:Int)≤i64.wrap (i.tdiv (8:Int))∧i64.wrap (i.tdiv (8:Int))<(8:Int))
 (aW.need ((0:Int)≤i64.wrap (i.tmod (8:Int)*(8:Int))) (aW.need ((0:Int)≤i∧i<(32:Int)) (aW.leaf Exit.normal ((bg byC
 byH).wr ((i64.wrap (i+(1:Int)),PUnit.unit),w,r,o.set ((0:Nat)+i.toNat) (IntKind.u8.wrap (shr u64 ((List.take (8:Nat)
 (List.drop (0:Nat) w)).getD (i64.wrap (i.tdiv (8:Int))).toNat (0:Int)) (i64.wrap (i.tmod (8:Int)*(8:Int))))),
 PUnit.unit)))))) (aW.leaf (Exit.exit (0:Nat)) ((bg byX byH).wr (PUnit.unit,w,r,o,PUnit.unit))):=by kernel_rfl
def aEo(g:List Int→List Int)(x:(Int×Unit)×List Int×List Int×List Int×Unit):aW:=.need (x.1.1=0∧okW x.2.1∧x.2.2.2.1.length=32) (.leaf (.exit 0) ((bg byX byH).wr ((),(x.2.1,x.2.2.1,g x.2.1,()))))
theorem aqm(x):Ex Tryz.prog [] (.loop (a9 aql 0)) ((bg byC byH).wr x) (aEo wy x):=by
 obtain⟨⟨i,_⟩,w,r,o,_⟩:=x;refine Ex.need fun⟨h1,h2,h3⟩=>?_;simp only at h1 h2 h3;subst h1
 have key:=dP (fn:=aql) (id:=0) (j:=0) (ws:=byW) (hp:= []) mixed aw (aJ.nil _) 32 (fun k o=>(bg byC byH).wr (((k:Int),()),(w,r,o,()))) (fun o=>(bg byX byH).wr ((),(w,r,o,()))) (fun k o=>o.set k (vd qq w/256 ^ k%256)) (fun _ _=>True)
  (fun k o R hk _ hn hx=>?_) (fun _ _ _ _=>trivial) 0 o (by omega) trivial
 ·rw[Nat.sub_zero,jx (fun k=>vd qq w/256 ^ k%256) h3,ai6 (by decide)]at key;exact key
 rw[ayL];refine⟨fun hb=>?_,fun hb=>?_⟩
 ·have jl:k<32:=by have:=of_decide_eq_true hb;omega
  have e1:i64.wrap ((k:Int).tdiv 8)=((k/8:Nat):Int):=fS k 8 (by omega);rw[e1,auI,Ul h2,Int.toNat_natCast,Int.toNat_natCast,Nat.zero_add,ai7 h2.2 h2.1 (by omega),cS k (by omega)];exact⟨by omega,by omega,by omega,hn jl⟩
 ·have:k=32:=by have:=of_decide_eq_false hb;omega
  exact hx this
abbrev aEp(g:List Int→List Int):dL:= [(0,dx (bg byC byH) 0 [aEn,qX 0,.db 1 0 32 .u8,.db 2 0 32 .u8,.auto] (aEo g))]
abbrev aqn:ao:=eWB wy
theorem KX(g:List Int→List Int)(w:List Int):aN Tryz.prog [] (aEp g) aql (wA.wr (w,())) [] kR=
 End.need ((0:Int)=(0:Int)∧okW w∧(32:Nat)=(32:Nat)) (End.leaf (LV.one (VV.agg [SV.arr (Ty.int IntKind.u8) (32:Nat) (g w)])) []):=by kernel_rfl
theorem Yr:aqn.Ok Tryz.prog 220:=by
 refine(ao.ba call220 fun x_ y_ Q H_=>?_).sym;obtain⟨w,_⟩:=x_;obtain⟨hn,hq⟩:=H_;have hn:okW w:=hn;refine(au mixed aw func220 rfl (LT:=aEp wy) (ks:=kR) (aJ.bW (jc rfl (bQ (hp:= []) aqm) jh))).use (D:= []) ?_ hq;show(aN _ _ _ _ (wA.wr (w,())) [] _).sat _;rw[KX];exact⟨⟨rfl,hn,rfl⟩,rfl,rfl⟩
abbrev leFn:Func:=f142
abbrev leC:aY (List LV) (Int×Int×Unit):=(jk 2 (aq (ah (aU 0 0)) (aq (ah (aU 1 0)) (aq (ah (aU 2 0)) (jk 1 (ag (ah (aC .u64)) (jk 1 (ag (ah (aC .i64)) (jk 18 ae)))))))))
abbrev aEr:Wk:=.fr (cC 27 [(2,.al),(3,.al),(4,.al),(6,.sym),(8,.sym)])
abbrev leX:aY (List LV) (Int×Unit):=(jk 2 (aq (ah (aU 0 0)) (jk 1 (aq (ah (aU 2 0)) (jk 1 (ag (ah (aC .u64)) (jk 20 ae)))))))
abbrev aIt:Wk:=.fr (cC 27 [(2,.al),(4,.al),(6,.sym)])
abbrev Mf:aY Hp (List Int×List Int×List Int×Unit):=ag iW (ag iW (ag iW ae))
def leW:Exit→List Wk
 | .normal=> [aEr,qX 0,qX 1,qX 2,.auto]
 | .exit 0=> [aIt,qX 0,qX 1,qX 2]
 |_=> []
theorem ayM(sb:Int→Int→Int→Int×Int)(c i:Int)(w x r:List Int):cY Tryz.prog [(191,(mW sb).sym)] [] leFn 0 [] leW ((bg leC Mf).wr ((c,i,()),(w,x,r,())))=
 aW.ite (decide (i<(8:Int))) (aW.need ((0:Int)≤i∧i<(8:Int)) (aW.need ((0:Int)≤i∧i<(8:Int)) (aW.need ((0:Int)≤c∧c≤(1
 :Int)) (aW.need ((0:Int)≤i∧i<(8:Int)) (aW.leaf Exit.normal ((bg leC Mf).wr (((sb ((List.take (8:Nat) (List.drop (0:Nat) w)).getD
 i.toNat (0:Int)) ((List.take (8:Nat) (List.drop (0:Nat) x)).getD i.toNat (0:Int)) c).snd,i64.wrap (i+(1:Int)),PUnit.unit),w.set
 ((0:Nat)+i.toNat) (sb ((List.take (8:Nat) (List.drop (0:Nat) w)).getD i.toNat (0:Int)) ((List.take (8:Nat) (List.drop (0:Nat) x)).getD
 i.toNat (0:Int)) c).fst,x,r,PUnit.unit))))))) (aW.leaf (Exit.exit (0:Nat)) ((bg leX Mf).wr ((c,PUnit.unit),w,x,r,PUnit.unit))):=by kernel_rfl
def aEs(g:List Int→List Int→List Int×Int)(x:(Int×Int×Unit)×List Int×List Int×List Int×Unit):aW:=.need (x.1.1=0∧x.1.2.1=0∧okW x.2.1∧okW x.2.2.1) (.leaf (.exit 0) ((bg leX Mf).wr (((g x.2.1 x.2.2.1).2,()),((g x.2.1 x.2.2.1).1,x.2.2.1,x.2.2.2.1,()))))
abbrev ayN:ao:=(mW mV).sym
theorem ajd:ayN.Ok Tryz.prog 191:=(OT func191 (by kernel_rfl) (by kernel_rfl) (by kernel_rfl) (by kernel_rfl) rfl).sym
theorem KY:∀p∈ [(191,(mW mV).sym)],p.2.Ok Tryz.prog p.1:=aj ajd aw
theorem aqo(x):Ex Tryz.prog [] (.loop (a9 leFn 0)) ((bg leC Mf).wr x) (aEs gZ x):=by
 obtain⟨⟨c,i,_⟩,w,x,r,_⟩:=x;refine Ex.need fun⟨h1,h2,h3,h4⟩=>?_;simp only at h1 h2 h3 h4;subst h1 h2
 have key:=dP (fn:=leFn) (id:=0) (j:=0) (ws:=leW) (hp:= []) mixed KY (aJ.nil _) 8 (fun k (o:List Int×Int)=>(bg leC Mf).wr ((o.2,(k:Int),()),(o.1,x,r,()))) (fun(o:List Int×Int)=>(bg leX Mf).wr ((o.2,()),(o.1,x,r,()))) (Cz mV x) (Ui w x)
  (fun k o R hk hi hn hx=>?_) (fun k o hk hi=>CA h3.2 h4.2 h3.1 h4.1 hk hi) 0 (w,0) (by omega) ⟨⟨h3.1,h3.2,fun _ _=>rfl⟩,.inl rfl,by simp[vd]⟩
 ·rw[Nat.sub_zero,ai8 h3.2 h4.2 h3.1 h4.1]at key;exact key
 rw[ayM mV];refine⟨fun hb=>?_,fun hb=>?_⟩
 ·have jl:k<8:=by have:=of_decide_eq_true hb;omega
  rw[bI hi.1.len,Ul h4,Int.toNat_natCast,Nat.zero_add,cS k (by omega)];exact⟨by omega,by omega,(by rcases hi.2.1 with e|e<;>rw[e]<;>decide),by omega,hn jl⟩
 ·have:k=8:=by have:=of_decide_eq_false hb;omega
  exact hx this
abbrev aEt(g:List Int→List Int→List Int×Int):dL:= [(0,dx (bg leC Mf) 0 [aEr,qX 0,qX 1,qX 2,.auto] (aEs g))]
abbrev ayO:ao:=KW gZ
theorem PR(sb:Int→Int→Int→Int×Int)(g:List Int→List Int→List Int×Int)(w x:List Int):aN Tryz.prog [(191,(mW sb).sym)] (aEt g) leFn (w2A.wr (w,x,())) [] [.fr [.sym],.fQ 0 0 8 .u64,.auto]=
 End.need ((0:Int)=(0:Int)∧(0:Int)=(0:Int)∧okW w∧okW x) (End.leaf (LV.cG [VV.agg [SV.arr (Ty.int u64) (8:Nat) (g w x).fst],
 VV.sc (SV.int u64 (SI.sym (g w x).snd))]) []):=by kernel_rfl
theorem KZ:ayO.Ok Tryz.prog 142:=by
 refine(ao.ba call142 fun x_ y_ Q H_=>?_).sym;obtain⟨w,x,_⟩:=x_;obtain⟨hn,hq⟩:=H_;have hn:okW w∧okW x:=hn;refine(au mixed KY func142 rfl (LT:=aEt gZ) (ks:= [.fr [.sym],.fQ 0 0 8 .u64,.auto]) (aJ.bW (jc rfl (bQ (hp:= []) aqo) jh))).use (D:= []) ?_ hq;show(aN _ _ _ _ (w2A.wr (w,x,())) [] _).sat _;rw[PR mV];exact⟨⟨rfl,rfl,hn.1,hn.2⟩,rfl,rfl⟩
abbrev aqp:Func:=f218
abbrev anC:aY (List LV) (Int×Int×Unit):=(jk 2 (aq (ah (aU 0 0)) (aq (ah (aU 1 0)) (aq (ah (aU 2 0)) (ag (ah (aC .u64)) (jk 1 (ag (ah (aC .i64)) (jk 17 ae))))))))
abbrev aEv:Wk:=.fr (cC 25 [(2,.al),(3,.al),(4,.al),(5,.sym),(7,.sym)])
abbrev anX:aY (List LV) (Unit):=(jk 2 (aq (ah (aU 0 0)) (jk 1 (aq (ah (aU 2 0)) (jk 20 ae)))))
abbrev aIv:Wk:=.fr (cC 25 [(2,.al),(4,.al)])
def anW:Exit→List Wk
 | .normal=> [aEv,qX 0,qX 1,qX 2,.auto]
 | .exit 0=> [aIv,qX 0,qX 1,qX 2]
 |_=> []
theorem ayP(ad:Int→Int→Int→Int×Int)(c i:Int)(w x r:List Int):cY Tryz.prog [(233,(mW ad).sym)] [] aqp 0 [] anW ((bg anC Mf).wr ((c,i,()),(w,x,r,())))=
 aW.ite (decide (i<(8:Int))) (aW.need ((0:Int)≤i∧i<(8:Int)) (aW.need ((0:Int)≤i∧i<(8:Int)) (aW.need ((0:Int)≤c∧c≤(1
 :Int)) (aW.need ((0:Int)≤i∧i<(8:Int)) (aW.leaf Exit.normal ((bg anC Mf).wr (((ad ((List.take (8:Nat) (List.drop (0:Nat) w)).getD
 i.toNat (0:Int)) ((List.take (8:Nat) (List.drop (0:Nat) x)).getD i.toNat (0:Int)) c).snd,i64.wrap (i+(1:Int)),PUnit.unit),w.set
 ((0:Nat)+i.toNat) (ad ((List.take (8:Nat) (List.drop (0:Nat) w)).getD i.toNat (0:Int)) ((List.take (8:Nat) (List.drop (0:Nat) x)).getD
 i.toNat (0:Int)) c).fst,x,r,PUnit.unit))))))) (aW.leaf (Exit.exit (0:Nat)) ((bg anX Mf).wr (PUnit.unit,w,x,r,PUnit.unit))):=by kernel_rfl
def aEw(g:List Int→List Int→List Int)(x:(Int×Int×Unit)×List Int×List Int×List Int×Unit):aW:=.need (x.1.1=0∧x.1.2.1=0∧okW x.2.1∧okW x.2.2.1) (.leaf (.exit 0) ((bg anX Mf).wr ((),(g x.2.1 x.2.2.1,x.2.2.1,x.2.2.2.1,()))))
theorem K0:∀p∈ [(233,(mW cl).sym)],p.2.Ok Tryz.prog p.1:=aj Kw aw
theorem aqq(x):Ex Tryz.prog [] (.loop (a9 aqp 0)) ((bg anC Mf).wr x) (aEw nb x):=by
 obtain⟨⟨c,i,_⟩,w,x,r,_⟩:=x;refine Ex.need fun⟨h1,h2,h3,h4⟩=>?_;simp only at h1 h2 h3 h4;subst h1 h2
 have key:=dP (fn:=aqp) (id:=0) (j:=0) (ws:=anW) (hp:= []) mixed K0 (aJ.nil _) 8 (fun k (o:List Int×Int)=>(bg anC Mf).wr ((o.2,(k:Int),()),(o.1,x,r,()))) (fun(o:List Int×Int)=>(bg anX Mf).wr ((),(o.1,x,r,()))) (CB cl x) (aqf w x)
  (fun k o R hk hi hn hx=>?_) (fun k o hk hi=>KS h3.2 h4.2 h3.1 h4.1 hk hi) 0 (w,0) (by omega) ⟨⟨h3.1,h3.2,fun _ _=>rfl⟩,.inl rfl,by simp[vd]⟩
 ·rw[Nat.sub_zero,aqg h3.2 h4.2 h3.1 h4.1]at key;exact key
 rw[ayP cl];refine⟨fun hb=>?_,fun hb=>?_⟩
 ·have jl:k<8:=by have:=of_decide_eq_true hb;omega
  rw[bI hi.1.len,Ul h4,Int.toNat_natCast,Nat.zero_add,cS k (by omega)];exact⟨by omega,by omega,(by rcases hi.2.1 with e|e<;>rw[e]<;>decide),by omega,hn jl⟩
 ·have:k=8:=by have:=of_decide_eq_false hb;omega
  exact hx this
abbrev aEx(g:List Int→List Int→List Int):dL:= [(0,dx (bg anC Mf) 0 [aEv,qX 0,qX 1,qX 2,.auto] (aEw g))]
abbrev aEy:ao:=eWW nb
theorem Ys(ad:Int→Int→Int→Int×Int)(g:List Int→List Int→List Int)(w x:List Int):aN Tryz.prog [(233,(mW ad).sym)] (aEx g) aqp (w2A.wr (w,x,())) [] [.fr [.sym],.fQ 0 0 8 .u64,.auto]=
 End.need ((0:Int)=(0:Int)∧(0:Int)=(0:Int)∧okW w∧okW x) (End.leaf (LV.one (VV.agg [SV.arr (Ty.int u64) (8:Nat) (g w x)]))
 []):=by kernel_rfl
theorem aqr:aEy.Ok Tryz.prog 218:=by
 refine(ao.ba call218 fun x_ y_ Q H_=>?_).sym;obtain⟨w,x,_⟩:=x_;obtain⟨hn,hq⟩:=H_;have hn:okW w∧okW x:=hn;refine(au mixed K0 func218 rfl (LT:=aEx nb) (ks:= [.fr [.sym],.fQ 0 0 8 .u64,.auto]) (aJ.bW (jc rfl (bQ (hp:= []) aqq) jh))).use (D:= []) ?_ hq;show(aN _ _ _ _ (w2A.wr (w,x,())) [] _).sat _;rw[Ys cl];exact⟨⟨rfl,rfl,hn.1,hn.2⟩,rfl,rfl⟩
abbrev ayQ:ao:=aEg nT
theorem PS(w:List Int)(i:Int):aN Tryz.prog [] [] f219 (wiA.wr (w,i,())) [] kK=
 End.need ((0:Int)≤i64.wrap (i.tdiv (64:Int))∧i64.wrap (i.tdiv (64:Int))<(8:Int)) (End.need ((0:Int)≤i.tmod (64:
 Int)) (End.leaf (LV.one (VV.sc (SV.int u64 (SI.sym (bd u64 (shr u64 ((List.take (8:Nat) (List.drop (0:Nat) w)).getD
 (i64.wrap (i.tdiv (64:Int))).toNat (0:Int)) (i.tmod (64:Int))) (1:Int)))))) [])):=by kernel_rfl
theorem aje:ayQ.Ok Tryz.prog 219:=by
 refine(ao.ba call219 fun x_ y_ Q H_=>?_).sym;obtain⟨w,i,_⟩:=x_;obtain⟨hn,hq⟩:=H_;have hn:okW w∧0≤i∧i<512:=hn;refine(au mixed aw func219 rfl (LT:= []) (ks:=kK) (aJ.nil _)).use (D:= []) ?_ hq;show(aN _ _ _ _ (wiA.wr (w,i,())) [] _).sat _;rw[PS];obtain⟨hw,h0,h1⟩:=hn;obtain⟨k,rfl⟩:=Int.eq_ofNat_of_zero_le h0;have hk:k<512:=by omega
 have e1:i64.wrap ((k:Int).tdiv 64)=((k/64:Nat):Int):=fS k 64 (by omega);rw[e1,show(k:Int).tmod 64=((k%64:Nat):Int)from KR k 64,Ul hw,Int.toNat_natCast,Yq hw.2 hw.1 hk];exact⟨by omega,by omega,rfl,rfl⟩
abbrev aqs:ao:=e0W ff
theorem K1:aN Tryz.prog [] [] f143 [] [] [.fr [.sym],.fQ 0 0 8 .u64,.auto]= .leaf (dQ .u64 8 ff) []:=by kernel_rfl
theorem CD:aqs.Ok Tryz.prog 143:=by
 refine(ao.ba call143 fun x_ y_ Q H_=>?_).sym;refine(au mixed aw func143 rfl (LT:= []) (ks:= [.fr [.sym],.fQ 0 0 8 .u64,.auto]) (aJ.nil _)).use (D:= []) ?_ H_.2;show(aN _ _ _ _ [] [] _).sat _;rw[K1];exact⟨rfl,rfl⟩
abbrev aqt:Func:=f194
abbrev reC:aY (List LV) (Int×Unit):=(jk 1 (aq (ah (aU 0 0)) (aq (ah (aU 1 0)) (aq (ah (aU 2 0)) (ag (ah (aC .i64)) (jk 27 ae))))))
abbrev aEz:Wk:=.fr (cC 32 [(1,.al),(2,.al),(3,.al),(4,.sym)])
abbrev reX:aY (List LV) (Unit):=(jk 2 (aq (ah (aU 1 0)) (aq (ah (aU 2 0)) (jk 28 ae))))
abbrev aIx:Wk:=.fr (cC 32 [(2,.al),(3,.al)])
abbrev reH:aY Hp (List Int×List Int×List Int×Unit):=ag iW (ag iB (ag iW ae))
def reW:Exit→List Wk
 | .normal=> [aEz,qX 0,.db 1 0 32 .u8,qX 2,.auto]
 | .exit 0=> [aIx,qX 0,.db 1 0 32 .u8,qX 2]
 |_=> []
abbrev ajf(and:List Int→List Int→List Int)(less:List Int→List Int→List Int×Int)(bit:List Int→Int→Int)(o:List Int):List (FuncId×ao):= [(218,eWW and),(219,aEg bit),(142,KW less),(143,e0W o)]
theorem ayR(and:List Int→List Int→List Int)(less:List Int→List Int→List Int×Int)(bit:List Int→Int→Int)(o:List Int)(i:Int)(w b r:List Int):cY Tryz.prog (ajf and less bit o) [] aqt 0 [] reW ((bg reC reH).wr ((i,()),(w,b,r,())))=
 aW.ite (decide ((0:Int)≤i)) (aW.need (okW r∧okW r) (aW.need (okW w∧(0:Int)≤i∧i<(512:Int)) (aW.need (okW ((and r r).set (0:Nat)
 (bq u64 ((and r r).getD (0:Nat) (0:Int)) (bit w i)))∧okW o) (aW.ite ((less ((and r r).set (0:Nat) (bq u64 ((and r
 r).getD (0:Nat) (0:Int)) (bit w i))) o).snd==(0:Int)) (aW.leaf Exit.normal ((bg reC reH).wr ((i64.wrap (i-(1:Int)),PUnit.unit),
 w,b,(less ((and r r).set (0:Nat) (bq u64 ((and r r).getD (0:Nat) (0:Int)) (bit w i))) o).fst,PUnit.unit))) (aW.leaf Exit.normal
 ((bg reC reH).wr ((i64.wrap (i-(1:Int)),PUnit.unit),w,b,(and r r).set (0:Nat) (bq u64 ((and r r).getD (0:Nat) (0:
 Int)) (bit w i)),PUnit.unit))))))) (aW.leaf (Exit.exit (0:Nat)) ((bg reX reH).wr (PUnit.unit,w,b,r,PUnit.unit))):=by kernel_rfl
theorem K2:∀p∈ajf nb gZ nT ff,p.2.Ok Tryz.prog p.1:=aj aqr (aj aje (aj KZ (aj CD aw)))
def aEA(g:List Int→List Int)(x:(Int×Unit)×List Int×List Int×List Int×Unit):aW:=.need (x.1.1=511∧okW x.2.1∧x.2.2.2.1=List.replicate 8 0) (.leaf (.exit 0) ((bg reX reH).wr ((),(x.2.1,x.2.2.1,g x.2.1,()))))
def K3(w:List Int):List Int:=dg qq 8 (vd qq w%ll)
def gB(V:Int)(k:Nat):List Int:=dg qq 8 (V/2 ^ (512-k)%ll)
theorem Yt(V:Int)(k:Nat)(hk:k<512)(b:Int)(hb:0≤b∧b<2):okW (gB V k)∧okW (mj (nb (gB V k) (gB V k)) b):=by
 refine⟨⟨cn _ _,na cv _ _⟩,?_⟩;have hR:0≤V/2 ^ (512-k)%ll∧V/2 ^ (512-k)%ll<ll:=⟨Int.emod_nonneg _ (by have:=fN;omega),Int.emod_lt_of_pos _ fN⟩
 have es:nb (gB V k) (gB V k)=dg qq 8 (V/2 ^ (512-k)%ll+V/2 ^ (512-k)%ll):=by
  unfold nb gB;rw[lV cv,Int.emod_eq_of_lt hR.1 (Int.lt_of_lt_of_le (Int.lt_trans (by omega) KU) qq8)]
 rw[es,Uj hR hb];exact⟨cn _ _,na cv _ _⟩
theorem aqv(x):Ex Tryz.prog [] (.loop (a9 aqt 0)) ((bg reC reH).wr x) (aEA K3 x):=by
 obtain⟨⟨i,_⟩,w,b,r,_⟩:=x;refine Ex.need fun⟨h1,h2,h3⟩=>?_;simp only at h1 h2 h3;subst h1 h3;have hw0:=eI cv h2.2;have hw1:=ob cv h2.2;rw[h2.1]at hw1
 have key:=dP (fn:=aqt) (id:=0) (j:=0) (ws:=reW) (hp:= []) mixed K2 (aJ.nil _) 512 (fun k (_:Unit)=>(bg reC reH).wr ((511-(k:Int),()),(w,b,gB (vd qq w) k,()))) (fun _=>(bg reX reH).wr ((),(w,b,K3 w,()))) (fun _ u=>u) (fun _ _=>True)
  (fun k o R hk _ hn hx=>?_) (fun _ _ _ _=>trivial) 0 () (by omega) trivial
 ·have e:gB (vd qq w) 0=List.replicate 8 0:=by
   unfold gB;have e:qq ^ 8=2 ^ 512:=(by decide+kernel);rw[Nat.sub_zero,Int.ediv_eq_zero_of_lt hw0 (by rw[← e];exact hw1),Int.zero_emod,FW cv]
  rw[e]at key;exact key
 rw[ayR];refine⟨fun hb=>?_,fun hb=>?_⟩
 ·have jl:k<512:=by have:=of_decide_eq_true hb;omega
  have e3:i64.wrap ((511-(k:Int))-1)=511-((k+1:Nat):Int):=by rw[ar (by omega) (by omega)];omega
  obtain⟨g1,g2⟩:=Yt (vd qq w) k jl (nT w (511-(k:Int))) (aqh _ _);have hs:PQ nb gZ nT ff w k (gB (vd qq w) k)=gB (vd qq w) (k+1):=ai9 rfl jl;have nh:=hn jl;rw[e3];refine⟨⟨g1,g1⟩,⟨h2,by omega,by omega⟩,⟨g2,KT⟩,fun hc=>?_,fun hc=>?_⟩
  ·have:PQ nb gZ nT ff w k (gB (vd qq w) k)=(gZ (mj (nb (gB (vd qq w) k) (gB (vd qq w) k)) (nT w (511-(k:Int)))) ff).1:=by
    have rA:((gZ (mj (nb (gB (vd qq w) k) (gB (vd qq w) k)) (nT w (511-(k:Int)))) ff).2==0)=true:=hc;unfold PQ;rw[rA];rfl
   rw[← hs,this]at nh;exact nh
  ·have:PQ nb gZ nT ff w k (gB (vd qq w) k)=mj (nb (gB (vd qq w) k) (gB (vd qq w) k)) (nT w (511-(k:Int))):=by
    have rA:((gZ (mj (nb (gB (vd qq w) k) (gB (vd qq w) k)) (nT w (511-(k:Int)))) ff).2==0)=false:=hc;unfold PQ;rw[rA];rfl
   rw[← hs,this]at nh;exact nh
 ·have:k=512:=by have:=of_decide_eq_false hb;omega
  subst this;have:=hx rfl;have e:gB (vd qq w) 512=K3 w:=by unfold gB K3;rw[Nat.sub_self,Int.pow_zero,Int.ediv_one]
  rw[e];exact this
abbrev aEB(g:List Int→List Int):dL:= [(0,dx (bg reC reH) 0 [aEz,qX 0,.db 1 0 32 .u8,qX 2,.auto] (aEA g))]
abbrev aEC:ao:=eWB KV
abbrev ajg(and:List Int→List Int→List Int)(less:List Int→List Int→List Int×Int)(bit:List Int→Int→Int)(o:List Int)(Ud:List Int→List Int):List (FuncId×ao):=(220,eWB Ud)::ajf and less bit o
theorem Yu:∀p∈ajg nb gZ nT ff wy,p.2.Ok Tryz.prog p.1:=aj Yr K2
theorem Yv(and:List Int→List Int→List Int)(less:List Int→List Int→List Int×Int)(bit:List Int→Int→Int)(o:List Int)(Ud:List Int→List Int)(g:List Int→List Int)(w:List Int):aN Tryz.prog (ajg and less bit o Ud) (aEB g) aqt (wA.wr (w,())) [] kR=
 End.need ((511:Int)=(511:Int)∧okW w∧ [(0:Int),(0:Int),(0:Int),(0:Int),(0:Int),(0:Int),(0:Int),(0:Int)]=List.replicate
 (8:Nat) (0:Int)) (End.need (okW (g w)) (End.leaf (LV.one (VV.agg [SV.arr (Ty.int IntKind.u8) (32:Nat) (Ud (g w))])) [])):=by kernel_rfl
theorem aqw(w:List Int):okW (K3 w):=⟨cn _ _,na cv _ _⟩
theorem ayS(w:List Int):wy (K3 w)=KV w:=by
 unfold wy KV K3;rw[lV cv,Int.emod_eq_of_lt (Int.emod_nonneg _ (by have:=fN;omega)) (Int.lt_of_lt_of_le (Int.lt_trans (Int.emod_lt_of_pos _ fN) (by have:=KU;have:=fN;omega)) qq8)]
theorem aqx:aEC.Ok Tryz.prog 194:=by
 refine(ao.ba call194 fun x_ y_ Q H_=>?_).sym;obtain⟨w,_⟩:=x_;obtain⟨hn,hq⟩:=H_;have hn:okW w:=hn;refine(au mixed Yu func194 rfl (LT:=aEB K3) (ks:=kR) (aJ.bW (jc rfl (bQ (hp:= []) aqv) jh))).use (D:= []) ?_ hq;show(aN _ _ _ _ (wA.wr (w,())) [] _).sat _;rw[Yv];refine⟨⟨rfl,hn,rfl⟩,aqw w,?_,rfl⟩;rw[ayS]
abbrev ajh:aY (List LV) (List Int×Unit):=ag (te .u8 64) ae
def ayT:List Int:=dg 256 32 ll
def sn(b:List Int):Bool:=decide (vd 256 b<ll)
def pH(b:List Int):List Int:=dg 256 32 (vd 256 b%ll)
def e0B(c:List Int):ao:=ao.cH [] ae ae fun _ _=>.leaf none (dQ .u8 32 c) []
def eBB(g:List Int→Bool):ao:=ao.cH [] ki ae fun x _=>.leaf (some (okB x.1)) (nB (g x.1)) []
def Yw(g:List Int→List Int):ao:=ao.cH [] ajh ae fun x _=>.leaf (some (x.1.length=64∧ax x.1)) (dQ .u8 32 (g x.1)) []
theorem aji(b:List Int):okW (yl b):=aja b
theorem okB.val{b:List Int}(h:okB b):vd qq (yl b)=vd 256 b:=Uk h.2 (by rw[h.1];decide)
theorem okB.range{b:List Int}(h:okB b):0≤vd 256 b∧vd 256 b<2 ^ 256:=by
 have h1:=eI (by decide) (show gP 256 b from h.2);have h2:=ob (by decide) (show gP 256 b from h.2);have e:(256:Int) ^ 32=2 ^ 256:=by decide+kernel
 rw[h.1,e]at h2;exact⟨h1,h2⟩
abbrev aqy:ao:=eBB sn
theorem K4(o:List Int)(of:List Int→List Int)(less:List Int→List Int→List Int×Int)(b:List Int):aN Tryz.prog [(143,e0W o),(141,eOf of),(142,KW less)] [] f98 ((ki).wr (b,())) [] kK=
 End.need ((0:Int)≤(0:Int)∧(0:Int)≤(32:Int)∧(32:Int)≤(32:Int)) (End.need (ax (List.take (32:Nat) (List.drop (0:Nat) b))∧
 (List.take (32:Nat) (List.drop (0:Nat) b)).length≤(64:Nat)) (End.need (okW (of (List.take (32:Nat) (List.drop (0:Nat) b)))∧okW o)
 (End.leaf (LV.one (VV.sc (SV.bool (SB.sym ((less (of (List.take (32:Nat) (List.drop (0:Nat) b))) o).snd==(1:Int)))))) []))):=by kernel_rfl
theorem K5:∀p_∈([(143,e0W ff),(141,eOf yl),(142,KW gZ)]:List (FuncId×ao)),p_.2.Ok Tryz.prog p_.1:=(aj CD (aj ajc (aj KZ aw)))
theorem Yx:aqy.Ok Tryz.prog 98:=by
 refine(ao.ba call98 fun x_ y_ Q H_=>?_).sym;obtain⟨b,_⟩:=x_;obtain⟨hn,hq⟩:=H_;have hn:okB b:=hn;refine(au (tab:= [(143,e0W ff),(141,eOf yl),(142,KW gZ)]) mixed K5 func98 rfl (LT:= []) (ks:=kK) (aJ.nil _)).use (D:= []) ?_ hq;show(aN _ _ _ _ ((ki).wr (b,())) [] _).sat _;rw[K4 ff yl gZ];rw[bI hn.1];refine⟨by decide,⟨hn.2,by rw[hn.1];decide⟩,⟨aji b,KT⟩,?_,rfl⟩
 have:((gZ (yl b) ff).2==1)=sn b:=by
  unfold gZ sn;rw[hn.val,CC]
  by_cases h:vd 256 b<ll
  ·rw[if_pos h,decide_eq_true h];rfl
  ·rw[if_neg h,decide_eq_false h];rfl
 rw[this]
abbrev ajj:ao:=Yw pH
theorem FZ(of:List Int→List Int)(red:List Int→List Int)(b:List Int):aN Tryz.prog [(141,eOf of),(194,eWB red)] [] f149 ((ajh).wr (b,())) [] kR=
 End.need ((0:Int)≤(0:Int)∧(0:Int)≤(64:Int)∧(64:Int)≤(64:Int)) (End.need (ax (List.take (64:Nat) (List.drop (0:Nat) b))∧
 (List.take (64:Nat) (List.drop (0:Nat) b)).length≤(64:Nat)) (End.need (okW (of (List.take (64:Nat) (List.drop (0:Nat) b)))) (End.leaf
 (LV.one (VV.agg [SV.arr (Ty.int IntKind.u8) (32:Nat) (red (of (List.take (64:Nat) (List.drop (0:Nat) b))))])) []))):=by kernel_rfl
theorem F1:∀p_∈([(141,eOf yl),(194,eWB KV)]:List (FuncId×ao)),p_.2.Ok Tryz.prog p_.1:=(aj ajc (aj aqx aw))
theorem PT:ajj.Ok Tryz.prog 149:=by
 refine(ao.ba call149 fun x_ y_ Q H_=>?_).sym;obtain⟨b,_⟩:=x_;obtain⟨hn,hq⟩:=H_;have hn:b.length=64∧ax b:=hn;refine(au (tab:= [(141,eOf yl),(194,eWB KV)]) mixed F1 func149 rfl (LT:= []) (ks:=kR) (aJ.nil _)).use (D:= []) ?_ hq;show(aN _ _ _ _ ((ajh).wr (b,())) [] _).sat _;rw[FZ yl KV];rw[bI hn.1];refine⟨by decide,⟨hn.2,by rw[hn.1];decide⟩,aji b,?_,rfl⟩;have:KV (yl b)=pH b:=by unfold KV pH;rw[Uk hn.2 (by rw[hn.1];decide)]
 rw[this]
def ajk(g:List Int→List Int):ao:=ao.cH [some (.sl u8)] rrA ae fun x _=>.leaf (some (x.1.length<2305843009213693952∧x.1.flatten.length<1152921504606846976)) (dQ .u8 64 (g x.1.flatten)) []
theorem aED:ofE=ajk la:=by kernel_rfl
theorem ayV:(ajk la).Ok Tryz.prog 103:=aED▸atu
def PU:List Int:= [83,105,103,69,100,50,53,53,49,57,32,110,111,32,69,100,50,53,53,49,57,32,99,111,108,108,105,115,105,111,110,115]
def kI(c:List Int):List Int:=if c.length≤255 then PU++([1,(c.length:Int)]++c)else []
def Yy(g:List Int→List Int):ao:=ao.cH [some u8] bA ae fun x _=>.leaf none (.one (.sc (.sl 0 0))) [(0,.own 0 u8 (g x.1))]
abbrev aIy:ao:=Yy kI
theorem K6(c:List Int):aN Tryz.prog [(48,Iv)] [] f150 (bA.wr (c,())) [] [.mO 0 u8,.auto,.aE]=
 End.ite (decide ((255:Int)<(↑c.length:Int))) (End.leaf (LV.one (VV.sc (SV.sl (0:Nat) (0:Nat)))) [some (Item.own (0:Nat) (Ty.int IntKind.u8)
 [])]) (End.need ([[(83:Int),(105:Int),(103:Int),(69:Int),(100:Int),(50:Int),(53:Int),(53:Int),(49:Int),(57:Int),(32:
 Int),(110:Int),(111:Int),(32:Int),(69:Int),(100:Int),(50:Int),(53:Int),(53:Int),(49:Int),(57:Int),(32:Int),(99:
 Int),(111:Int),(108:Int),(108:Int),(105:Int),(115:Int),(105:Int),(111:Int),(110:Int),(115:Int)],[(1:Int),IntKind.u8.wrap
 (↑c.length:Int)],c].flatten.length≤(70368744177664:Nat)∧(3:Nat)≤(140737488355328:Nat)) (End.leaf (LV.one (VV.sc (SV.sl (0:Nat) (0:
 Nat)))) [some (Item.own (0:Nat) (Ty.int IntKind.u8) [[(83:Int),(105:Int),(103:Int),(69:Int),(100:Int),(50:Int),(53:Int),(53:
 Int),(49:Int),(57:Int),(32:Int),(110:Int),(111:Int),(32:Int),(69:Int),(100:Int),(50:Int),(53:Int),(53:Int),(49:
 Int),(57:Int),(32:Int),(99:Int),(111:Int),(108:Int),(108:Int),(105:Int),(115:Int),(105:Int),(111:Int),(110:Int),(115
 :Int)],[(1:Int),IntKind.u8.wrap (↑c.length:Int)],c].flatten)])):=by kernel_rfl
theorem ayW:aIy.Ok Tryz.prog 150:=by
 refine(ao.ba call150 fun x_ y_ Q H_=>?_).sym;obtain⟨c,_⟩:=x_;refine(au mixed (aj rN aw) func150 rfl (LT:= []) (ks:= [.mO 0 u8,.auto,.aE]) (aJ.nil _)).use (D:= [(0,.own 0 u8 (kI c))]) ?_ H_.2;show(aN _ _ _ _ (bA.wr (c,())) [] _).sat _;rw[K6];refine⟨fun h=>?_,fun h=>?_⟩
 ·have h:=of_decide_eq_true h;have e:kI c= []:=if_neg (by omega);rw[e];exact⟨rfl,rfl⟩
 ·have h:=of_decide_eq_false h;have e:kI c=PU++([1,(c.length:Int)]++c):=if_pos (by omega);have ew:IntKind.u8.wrap (c.length:Int)=c.length:=by rw[wrap_u8];omega
  rw[e,ew];refine⟨⟨by simp;omega,by decide⟩,rfl,?_⟩;have e2:aV [(0,Ev.Item.own 0 u8 (PU++([1,(c.length:Int)]++c)))] (ae.wr y_)= [some (Ev.Item.own 0 u8 (PU++([1,(c.length:Int)]++c)))]:=rfl;rw[e2];simp[PU]
abbrev ajl:aY LV (List Int):=te .u8 64
abbrev chA:aY (List LV) (List Int×List Int×List Int×List Int×Unit):=ag (ah (fR false false u8)) (ag cB (ag cB (ag ajl ae)))
def eCh(g:List Int→List Int→List Int→List Int→List Int):ao:=ao.cH [some u8,none,none,none] chA ae fun x _=>.leaf (some (x.2.1.length=32∧x.2.2.1.length=32∧x.2.2.2.1.length=64)) (dQ .u8 32 (g x.1 x.2.1 x.2.2.1 x.2.2.2.1)) []
def oc(c r p m:List Int):List Int:=pH (la (kI c++(r++(p++m))))
theorem K7(x:Int):ax (cD x):=fun z hz=>by
 obtain⟨i,_,rfl⟩:=List.mem_map.1 hz;rw[wrap_u8];unfold By;omega
theorem ayX(b:List Int):ax (la b):=by
 have key:∀ (l:List Nat) (s a:List Int),ax a→ax (l.foldl (fun a i=>a++cD (s.getD i 0)) a):=by
  intro l s
  induction l with
  |nil=>exact fun a h=>h
  |cons i l ih=>exact fun a h=>ih _ (h.append (K7 _))
 exact key _ _ [] (fun z hz=>by cases hz)
theorem Um(b:List Int):okB (pH b):=⟨cn _ _,na (by decide) _ _⟩
theorem F2(c:List Int):(kI c).length≤289:=by unfold kI PU;split<;>simp;omega
abbrev aEF:ao:=eCh oc
theorem Yz(CE pre red:List Int→List Int)(c r p m:List Int):aN Tryz.prog [(103,ajk CE),(150,Yy pre),(149,Yw red)] [] f100 ((chA).wr (c,r,p,m,())) [] kK=
 End.need ((0:Int)≤(0:Int)∧(0:Int)≤(32:Int)∧(32:Int)≤(32:Int)) (End.need ((0:Int)≤(0:Int)∧(0:Int)≤(32:Int)∧(32:
 Int)≤(32:Int)) (End.need ((0:Int)≤(0:Int)∧(0:Int)≤(64:Int)∧(64:Int)≤(64:Int)) (End.need ((4:Nat)<(2305843009213693952:
 Nat)∧ [pre c,List.take (32:Nat) (List.drop (0:Nat) r),List.take (32:Nat) (List.drop (0:Nat) p),List.take (64:Nat) (List.drop (0:Nat)
 m)].flatten.length<(1152921504606846976:Nat)) (End.need ((CE [pre c,List.take (32:Nat) (List.drop (0:Nat) r),List.take (32:Nat) (List.drop
 (0:Nat) p),List.take (64:Nat) (List.drop (0:Nat) m)].flatten).length=(64:Nat)∧ax (CE [pre c,List.take (32:Nat) (List.drop (0:Nat)
 r),List.take (32:Nat) (List.drop (0:Nat) p),List.take (64:Nat) (List.drop (0:Nat) m)].flatten)) (End.leaf (LV.one (VV.agg [SV.arr (Ty.int
 IntKind.u8) (32:Nat) (red (CE [pre c,List.take (32:Nat) (List.drop (0:Nat) r),List.take (32:Nat) (List.drop (0:Nat) p),List.take (64:
 Nat) (List.drop (0:Nat) m)].flatten))])) []))))):=by kernel_rfl
theorem YA:∀p_∈([(103,ajk la),(150,Yy kI),(149,Yw pH)]:List (FuncId×ao)),p_.2.Ok Tryz.prog p_.1:=(aj ayV (aj ayW (aj PT aw)))
theorem aqz:aEF.Ok Tryz.prog 100:=by
 refine(ao.ba call100 fun x_ y_ Q H_=>?_).sym;obtain⟨c,r,p,m,_⟩:=x_;obtain⟨hn,hq⟩:=H_;have hn:r.length=32∧p.length=32∧m.length=64:=hn;refine(au (tab:= [(103,ajk la),(150,Yy kI),(149,Yw pH)]) mixed YA func100 rfl (LT:= []) (ks:=kK) (aJ.nil _)).use (D:= []) ?_ hq;show(aN _ _ _ _ ((chA).wr (c,r,p,m,())) [] _).sat _;rw[Yz la kI pH];rw[bI hn.1,bI hn.2.1,bI hn.2.2];have h1:=F2 c;have e: [kI c,r,p,m].flatten=kI c++(r++(p++m)):=by simp
 rw[e];refine⟨by decide,by decide,by decide,⟨by decide,by simp;omega⟩,⟨N9 _,ayX _⟩,rfl,rfl⟩
theorem K8(c r p m:List Int):okB (oc c r p m):=by unfold oc;exact Um _
abbrev veA:aY (List LV) (List Int×List Int×List Int×List Int×Unit):=ag cB (ag (ah (fR false false u8)) (ag ajl (ag ajl ae)))
def eVe(g:List Int→List Int→List Int→List Int→Bool):ao:=ao.cH [none,some u8,none,none] veA ae fun x _=>.leaf (some (x.1.length=32∧x.2.2.1.length=64∧x.2.2.2.1.length=64∧ax x.2.2.2.1)) (nB (g x.1 x.2.1 x.2.2.1 x.2.2.2.1)) []
theorem Un:∃f:List Int→List Int→List Int→List Int→Bool,∀ (p c m g:List Int),f p c m g=((gp p).2&&(decide (c.length≤255)&&(sn (g.drop 32)&&decide (iQ (Bp (oc c (g.take 32) p m) (m7 (gp p).1) (g.drop 32))=g.take 32)))):=⟨fun p c m g=>(gp p).2&&(decide (c.length≤255)&&(sn (g.drop 32)&&decide (iQ (Bp (oc c (g.take 32) p m) (m7 (gp p).1) (g.drop 32))=g.take 32))),fun _ _ _ _=>rfl⟩
def pI:List Int→List Int→List Int→List Int→Bool:=Classical.choose Un
theorem Uo(p c m g:List Int):pI p c m g=((gp p).2&&(decide (c.length≤255)&&(sn (g.drop 32)&&decide (iQ (Bp (oc c (g.take 32) p m) (m7 (gp p).1) (g.drop 32))=g.take 32)))):=Classical.choose_spec Un p c m g
theorem ajm{l:List Int}(h:l.length=32):List.take 32 (List.drop 0 l)=l:=bI h
theorem F3(de:List Int→Pt×Bool)(can:List Int→Bool)(two:List Int→Pt→List Int→Pt)(ch:List Int→List Int→List Int→List Int→List Int)(neg:Pt→Pt)(en:Pt→List Int)(p c m g:List Int):aN Tryz.prog [(97,eDe de),(98,eBB can),(99,eTw two),(100,eCh ch),(101,FG neg),(102,eEn en)] [] f71 (veA.wr (p,c,m,g,())) [] kK=
 End.need ((0:Int)≤(0:Int)∧(0:Int)≤(32:Int)∧(32:Int)≤(64:Int)) (End.need ((32:Nat)≤(List.take (32:Nat) (List.drop (0:Nat)
 g)).length) (End.need ((32:Nat)≤(List.take (32:Nat) (List.drop (0:Nat) g)).length) (End.need ((0:Int)≤(32:Int)∧(32:Int)≤(64:Int)
 ∧(64:Int)≤(64:Int)) (End.need ((32:Nat)≤(List.take (32:Nat) (List.drop (32:Nat) g)).length) (End.need ((32:Nat)≤(List.take (32:
 Nat) (List.drop (32:Nat) g)).length) (End.need (p.length=(32:Nat)) (End.ite ((!(de p).snd)==false) (End.ite (decide ((255:Int)<(↑c.length:
 Int))==false) (End.need (okB (List.take (32:Nat) (List.drop (0:Nat) (List.take (32:Nat) (List.drop (32:Nat) g))))) (End.ite (!can (List.take
 (32:Nat) (List.drop (0:Nat) (List.take (32:Nat) (List.drop (32:Nat) g))))) (End.leaf (LV.one (VV.sc (SV.bool (SB.sym false)))) []) (End.need
 ((List.take (32:Nat) (List.drop (0:Nat) (List.take (32:Nat) (List.drop (0:Nat) g)))).length=(32:Nat)∧p.length=(32:Nat)∧m.length=
 (64:Nat)) (End.need ((ch c (List.take (32:Nat) (List.drop (0:Nat) (List.take (32:Nat) (List.drop (0:Nat) g)))) p m).length=(32:Nat)∧
 (List.take (32:Nat) (List.drop (0:Nat) (List.take (32:Nat) (List.drop (32:Nat) g)))).length=(32:Nat)) (End.leaf (LV.one (VV.sc (SV.bool
 (SB.sym (decide (en (two (ch c (List.take (32:Nat) (List.drop (0:Nat) (List.take (32:Nat) (List.drop (0:Nat) g)))) p m) (neg (de p).fst)
 (List.take (32:Nat) (List.drop (0:Nat) (List.take (32:Nat) (List.drop (32:Nat) g)))))=List.take (32:Nat) (List.drop (0:Nat) (List.take
 (32:Nat) (List.drop (0:Nat) g))))))))) []))))) (End.leaf (LV.one (VV.sc (SV.bool (SB.sym false)))) [])) (End.leaf (LV.one (VV.sc (SV.bool (SB.sym
 false)))) [])))))))):=by kernel_rfl
theorem PV(de:List Int→Pt×Bool)(can:List Int→Bool)(two:List Int→Pt→List Int→Pt)(ch:List Int→List Int→List Int→List Int→List Int)(neg:Pt→Pt)(en:Pt→List Int){p c m g:List Int}(h1:p.length=32)(h2:m.length=64)(h3:g.length=64)(h4:ax g)(h5:∀a b c d,(ch a b c d).length=32):
  ∃t_:Ev.End,aN Tryz.prog [(97,eDe de),(98,eBB can),(99,eTw two),(100,eCh ch),(101,FG neg),(102,eEn en)] [] f71 (veA.wr (p,c,m,g,())) [] kK=t_∧t_.sat fun v dI=>v=nB ((de p).2&&(decide (c.length≤255)&&(can (g.drop 32)&&decide (en (two (ch c (g.take 32) p m) (neg (de p).1) (g.drop 32))=g.take 32))))∧dI= []:=by
 refine⟨_,F3 ..,?_⟩;have l1:(g.take 32).length=32:=by rw[List.length_take,h3];decide
 have l2:(g.drop 32).length=32:=by rw[List.length_drop,h3]
 have e1:List.take 32 (List.drop 32 g)=g.drop 32:=List.take_of_length_le (by omega);have e2:List.take 32 (List.drop 0 g)=g.take 32:=by rw[List.drop_zero]
 rw[e1,e2,ajm l1,ajm l2];have hb:ax (g.drop 32):=h4.drop 32;generalize de p=d at*;generalize g.take 32=r at*;generalize g.drop 32=s at*;obtain⟨a,ok⟩:=d;refine⟨by decide,by omega,by omega,by decide,by omega,by omega,h1,?_⟩
 cases ok
 ·exact⟨fun h=>(by cases h),fun _=>⟨rfl,rfl⟩⟩
 ·refine⟨fun _=>⟨fun h=>⟨⟨l2,hb⟩,fun h'=>?_,fun h'=>⟨⟨l1,h1,h2⟩,⟨h5 _ _ _ _,l2⟩,?_,rfl⟩⟩,fun h=>?_⟩,fun h=>(by cases h)⟩
  ·have h':can s=false:=(by simpa using h');rw[h'];simp;exact⟨rfl,rfl⟩
  ·have h':can s=true:=(by simpa using h');have h:c.length≤255:=(by simp at h;omega);rw[h',decide_eq_true h];simp
  ·have h:¬c.length≤255:=(by simp at h;omega);rw[decide_eq_false h];simp;exact⟨rfl,rfl⟩
abbrev aqA:ao:=eVe pI
theorem K9:∀p_∈([(97,eDe gp),(98,eBB sn),(99,eTw Bp),(100,eCh oc),(101,FG m7),(102,eEn iQ)]:List (FuncId×ao)),p_.2.Ok Tryz.prog p_.1:=(aj PM (aj Yx (aj aqb (aj aqz (aj ap2 (aj PL aw))))))
theorem YB:aqA.Ok Tryz.prog 71:=by
 refine(ao.ba call71 fun x_ y_ Q H_=>?_).sym;obtain⟨p,c,m,g,_⟩:=x_;obtain⟨hn,hq⟩:=H_;have hn:p.length=32∧m.length=64∧g.length=64∧ax g:=hn;have ou:gI Tryz.prog 71 ((veA).wr (p,c,m,g,())) [] (aN Tryz.prog [(97,eDe gp),(98,eBB sn),(99,eTw Bp),(100,eCh oc),(101,FG m7),(102,eEn iQ)] [] f71 ((veA).wr (p,c,m,g,())) [] kK):=au mixed K9 func71 rfl (aJ.nil _);obtain⟨t_,ht_,hs_⟩:=PV gp sn Bp oc m7 iQ hn.1 hn.2.1 hn.2.2.1 hn.2.2.2 (fun a b c d=>(K8 a b c d).1);rw[← Uo p c m g]at hs_;rw[ht_]at ou;exact ou.use (D:= []) hs_ hq
end Go.Proofs.YtcbjpiangpjbgaaGreat
end
noncomputable section
namespace BJ
abbrev N4:=Nat×Nat×Nat×Nat
def so(a b:Nat):Nat:=a*b%pp
def F4(a b:Nat):Nat:=(a+b)%pp
def PW(a b:Nat):Nat:=(pp-b+a)%pp
def ddN:Nat:=37095705934669439343138083508754565189542113879843219016388785533085940283555
def La(p q:N4):N4:=
 let a:=so (PW p.2.1 p.1) (PW q.2.1 q.1)
 let b:=so (F4 p.2.1 p.1) (F4 q.2.1 q.1)
 let c:=F4 (so (so p.2.2.2 q.2.2.2) ddN) (so (so p.2.2.2 q.2.2.2) ddN)
 let d:=F4 (so p.2.2.1 q.2.2.1) (so p.2.2.1 q.2.2.1)
 (so (PW b a) (PW d c),so (F4 d c) (F4 b a),so (PW d c) (F4 d c),so (PW b a) (F4 b a))
def vals(p:E4):N4:=(p.1.val,p.2.1.val,p.2.2.1.val,p.2.2.2.val)
theorem AH(p q:E4):La (vals p) (vals q)=vals (qW p q):=by
 have hd:dd.val=ddN:=rfl;simp only[La,vals,qW,so,F4,PW,Fin.val_mul,Fin.val_add,Fin.sub_def,hd]
def Up(V:Nat)(p:N4)(k:Nat)(r:N4):N4:=bif Nat.beq (V/2 ^ (255-k)%2) 1 then La (La r r) p else La r r
end BJ
namespace Go.Proofs.YtcbjpiangpjbgaaGreat
open Go Go.Ev BJ Go.Proofs.Tryz
open Go.IntKind (i64 signed u32 u64 wrap wrap_u32)
theorem PX(V:Nat)(p:E4)(k:Nat)(r:E4):Up V (vals p) k (vals r)=vals (me V p k r):=by
 unfold Up me Pb;rw[AH,AH]
 by_cases h:V/2 ^ (255-k)%2=1
 ·rw[decide_eq_true h,h];rfl
 ·have e:Nat.beq (V/2 ^ (255-k)%2) 1=false:=by
   cases e:Nat.beq (V/2 ^ (255-k)%2) 1 with
   |false=>rfl
   |true=>exact absurd (Nat.eq_of_beq_eq_true e) h
  rw[decide_eq_false h,e];rfl
def ajn:N4:=(0,1,1,0)
def ajo:N4:=(15112221349535400772501151409588531511454012693041857206046113283949847762202,46316835694926478169428394003475163141307993866256225615783033603165251855960,1,46827403850823179245072216630277197565144205554125654976674165829533817101731)
theorem ajp:ajn=vals lj:=rfl
theorem ajq:ajo=vals (qV uA rn):=by decide+kernel
def auK(V:Nat):N4:=fG (Up V ajo) 256 ajn
theorem PY(V:Nat):auK V=vals (Ch V (qV uA rn)):=by
 have key:∀k,fG (Up V ajo) k ajn=vals (fG (me V (qV uA rn)) k lj):=by
  intro k
  induction k with
  |zero=>exact ajp
  |succ k ih=>
   simp only[fG];rw[ih,ajq,PX]
 exact key 256
def isN(V x y:Nat):Bool:=(fun r:N4=>Nat.beq r.1 (so x r.2.2.1)&&Nat.beq r.2.1 (so y r.2.2.1)) (auK V)
theorem ayY{V x y:Nat}(hV:V<2 ^ 256)(hx:x<pp)(hy:y<pp)(h:isN V x y=true):(ja V fc).x.val=x∧(ja V fc).y.val=y:=by
 have hi:Fy (Ch V (qV uA rn)) (ja V fc):=Ko hV (uD fc);unfold isN at h;rw[PY]at h;generalize Ch V (qV uA rn)=p at*;generalize ja V fc=P at*;obtain⟨h0,h1,h2,_⟩:=hi;simp only[Bool.and_eq_true]at h;have e1:p.1.val=x*p.2.2.1.val%pp:=Nat.eq_of_beq_eq_true h.1;have e2:p.2.1.val=y*p.2.2.1.val%pp:=Nat.eq_of_beq_eq_true h.2;have f1:p.1=(⟨x,hx⟩:F)*p.2.2.1:=Fin.ext (by rw[e1,Fin.val_mul]);have f2:p.2.1=(⟨y,hy⟩:F)*p.2.2.1:=Fin.ext (by rw[e2,Fin.val_mul]);rw[h1]at f1;rw[h2]at f2
 have c:∀ {a b:F},a*p.2.2.1=b*p.2.2.1→a=b:=fun {a b} e=>by
  have h3:p.2.2.1*F.inv p.2.2.1=1:=F.inv_mul h0;have e':=congrArg (fun z=>z*F.inv p.2.2.1) e
  grobner
 exact⟨by rw[c f1],by rw[c f2]⟩
def llN:Nat:=7237005577332262213973186563042994240857116359379907606001950938285454250989
theorem YC:isN llN 0 1=true:=by decide+kernel
theorem PZ:ja llN fc=BJ.Pt.zero:=by
 obtain⟨h1,h2⟩:=ayY (V:=llN) (by decide) (by decide) (by decide) YC;exact BJ.Pt.ext' (Fin.ext h1) (Fin.ext h2)
theorem aqB:fc≠BJ.Pt.zero:=fun h=>by
 have:=congrArg (fun P:BJ.Pt=>P.x.val) h
 revert this
 decide
theorem uM{m:Nat}(h:ja m fc=BJ.Pt.zero)(k:Nat):ja (k*m) fc=BJ.Pt.zero:=by
 rw[apy,h,Kk]
theorem YD{n a:Nat}(hr:gf n a)(hz:ja n fc=BJ.Pt.zero){m:Nat}(hm:ja m fc=BJ.Pt.zero):m%n=0:=by
 refine Classical.byContradiction fun h=>aqB ?_;have hf:=hr.vV h;have hn:=hr.1;have e:m ^ (n-1)=m ^ (n-2)*m:=by rw[← Nat.pow_succ];congr 1;omega
 have h1:ja (m ^ (n-1)) fc=BJ.Pt.zero:=by rw[e];exact uM hm _
 have h2:m ^ (n-1)=m ^ (n-1)/n*n+1:=by
  have:=Nat.div_add_mod (m ^ (n-1)) n;rw[hf,Nat.mul_comm]at this;exact this.symm
 rw[h2,uE,uM hz,apA,BJ.Pt.zero_add]at h1;exact h1
theorem B9{m:Nat}(hm:ja m fc=BJ.Pt.zero):m%llN=0:=YD cy PZ hm
end Go.Proofs.YtcbjpiangpjbgaaGreat
end
noncomputable section
namespace Go.Proofs.YtcbjpiangpjbgaaGreat
open Go Go.Ev BJ Go.Proofs.Tryz
open Go.IntKind (i64 signed u32 u64 wrap wrap_u32)
set_option maxRecDepth 1000000
theorem okV{n:Nat}:∀ {v:Vec Int n},mo v→ax v.toList∧vd 256 v.toList=bN v:=by
 induction n with
 |zero=>exact fun {v} _=>⟨(fun z hz=>by cases hz),rfl⟩
 |succ n ih=>
  intro v h;obtain⟨h1,h2⟩:=ih h.2;refine⟨fun z hz=>?_,?_⟩
  ·rcases List.mem_cons.1 hz with rfl|hz
   ·exact h.1
   ·exact h1 z hz
  ·show v.1+256*vd 256 v.2.toList=v.1+256*bN v.2;rw[h2]
theorem ym{l:List Int}(h:okB l):mo (kp l)∧bN (kp l)=vd 256 l:=by
 have h1:mo (kp l):=Ag fun i _=>gP.getD (by decide) h.2 i;have:=(okV h1).2;rw[ib h.1]at this;exact⟨h1,this.symm⟩
def sc(n:List Int):Nat:=(vd 256 n).toNat
theorem ajr{n m:List Int}(hn:okB n)(hm:okB m){p:Pt}{P:BJ.Pt}(hp:Km p P):Km (Bp n p m) ((ja (sc n) P).add (ja (sc m) fc)):=by
 obtain⟨h1,h2⟩:=ym hn;obtain⟨h3,h4⟩:=ym hm;rw[Ug,sc,sc,← h2,← h4];exact apI h1 h3 hp
def aqC(P:BJ.Pt):List Int:=(apE P).toList
theorem ayZ{p:Pt}{P:BJ.Pt}(h:Km p P):iQ p=aqC P:=by unfold iQ aqC;rw[apF h]
abbrev ckA:aY (List LV) (List (List Int)×List Int×Unit):=ag (ah (fR false false (.arr u8 32))) (ag (ah (fR false false u8)) ae)
structure rr where
 key:Int
 blocks:Int
 cM:MM
 sign:List Int
def kJ:rr:=⟨0,0,mm0,List.replicate 64 0⟩
abbrev aEG:aY (List SV) rr:=(zJ (Eb (ag (tc u8 64) ae))).kB (fun x=>⟨x.1,x.2.1,⟨x.2.2.1,x.2.2.2.1,x.2.2.2.2.1,x.2.2.2.2.2.1,x.2.2.2.2.2.2.1⟩,x.2.2.2.2.2.2.2.1⟩) (fun l=>(l.key,l.blocks,l.cM.ver,l.cM.lu,l.cM.len,l.cM.list,l.cM.plain,l.sign,())) (fun _=>rfl)
abbrev YE(r:rr×Int):LV:=.cG [.agg (aEG.wr r.1),.sc (.int .i64 (.sym r.2))]
def F5:List Int:= [98,111,111,116,106,97,99,107]
def k0:List Int:=List.replicate 32 0
def ajs(b:List Int):rr:=⟨(bc (b.take 8)).1.1,(bc (b.take 8)).1.2,(gL ((b.drop 8).take 152)).1,b.drop 160⟩
def c8(ver:List Int→List Int→List Int→List Int→Bool)(ks:List (List Int))(b:List Int):rr×Int:=
 if b.length=224∧(bc (b.take 8)).2=true then
  (if(ks.length:Int)≤(bc (b.take 8)).1.1 then(kJ,15)
   else if ver (ks.getD (bc (b.take 8)).1.1.toNat k0) F5 (fD b) (b.drop 160)=true then
     (if(gL ((b.drop 8).take 152)).2=true then(ajs b,0)else(kJ,6))
   else(kJ,8))
 else(kJ,6)
def F6(ks:List (List Int)):Prop:=∀k:Nat,k<ks.length→(ks.getD k k0).length=32
def eCk(g:List (List Int)→List Int→rr×Int):ao:=ao.cH [some (.arr u8 32),some u8] ckA ae fun x _=>.leaf (some (ax x.2.1∧x.2.1.length<1152921504606846976∧F6 x.1)) (YE (g x.1 x.2.1)) []
theorem xd{l:List Int}:0≤(bc l).1.1∧(bc l).1.1<8:=by
 unfold bc
 split
 ·rename_i h;simp only;have h2:=h.2;have:(mQ (i64.wrap (l.getD 4 0)) (i64.wrap (l.getD 5 0))).length=8:=by rw[mS h2,h.1]
  unfold mQ at this
  split at this
  ·omega
  ·simp at this
 ·exact⟨by decide,by decide⟩
theorem kj{r r':rr×Int}(h:r=r'):YE r=YE r':=by rw[h]
theorem Lb(ver:List Int→List Int→List Int→List Int→Bool)(ks:List (List Int))(b:List Int):aN Tryz.prog [(70,mR),(71,eVe ver),(72,Wd),(73,x8),(74,aoh)] [] f41 (ckA.wr (ks,b,())) [] [.fr [.sym],.auto]=
 End.ite ((↑b.length:Int)!=(224:Int)) (End.leaf (LV.cG [VV.agg [SV.int i64 (SI.sym (0:Int)),SV.int i64 (SI.sym (0:Int)),
 SV.int u64 (SI.sym (0:Int)),SV.int u64 (SI.sym (0:Int)),SV.int i64 (SI.sym (0:Int)),SV.arr (Ty.int IntKind.u8) (64:
 Nat) (List.replicate (64:Nat) (0:Int)),SV.arr (Ty.int IntKind.u8) (64:Nat) (List.replicate (64:Nat) (0:Int)),SV.arr (Ty.int IntKind.u8) (64
 :Nat) (List.replicate (64:Nat) (0:Int))],VV.sc (SV.int i64 (SI.sym (6:Int)))]) []) (End.need ((0:Int)≤(0:Int)∧(0:Int)≤(8:
 Int)∧(8:Int)≤(↑b.length:Int)) (End.ite (!(bc (List.take (8:Nat) (List.drop (0:Nat) b))).snd) (End.leaf (LV.cG [VV.agg [SV.int
 i64 (SI.sym (0:Int)),SV.int i64 (SI.sym (0:Int)),SV.int u64 (SI.sym (0:Int)),SV.int u64 (SI.sym (0:Int)),
 SV.int i64 (SI.sym (0:Int)),SV.arr (Ty.int IntKind.u8) (64:Nat) (List.replicate (64:Nat) (0:Int)),SV.arr (Ty.int IntKind.u8) (64:
 Nat) (List.replicate (64:Nat) (0:Int)),SV.arr (Ty.int IntKind.u8) (64:Nat) (List.replicate (64:Nat) (0:Int))],VV.sc (SV.int i64
 (SI.sym (6:Int)))]) []) (End.ite (decide ((↑ks.length:Int)≤(bc (List.take (8:Nat) (List.drop (0:Nat) b))).fst.fst)) (End.leaf (LV.cG
 [VV.agg [SV.int i64 (SI.sym (0:Int)),SV.int i64 (SI.sym (0:Int)),SV.int u64 (SI.sym (0:Int)),SV.int u64
 (SI.sym (0:Int)),SV.int i64 (SI.sym (0:Int)),SV.arr (Ty.int IntKind.u8) (64:Nat) (List.replicate (64:Nat) (0:Int)),SV.arr (Ty.int
 IntKind.u8) (64:Nat) (List.replicate (64:Nat) (0:Int)),SV.arr (Ty.int IntKind.u8) (64:Nat) (List.replicate (64:Nat) (0:Int))],VV.sc
 (SV.int i64 (SI.sym (15:Int)))]) []) (End.need ((0:Int)≤(160:Int)∧(160:Int)≤(↑b.length:Int)∧(↑b.length:Int)≤(↑b.length:
 Int)) (End.need ((64:Nat)≤(List.take ((↑b.length:Int)-(160:Int)).toNat (List.drop (160:Nat) b)).length) (End.need ((64:Nat)≤(List.take
 ((↑b.length:Int)-(160:Int)).toNat (List.drop (160:Nat) b)).length) (End.need ((0:Int)≤(bc (List.take (8:Nat) (List.drop (0:Nat)
 b))).fst.fst∧(bc (List.take (8:Nat) (List.drop (0:Nat) b))).fst.fst<(↑ks.length:Int)) (End.need (b.length<(1152921504606846976:
 Nat)) (End.need (List.length (ks.getD (bc (List.take (8:Nat) (List.drop (0:Nat) b))).fst.fst.toNat (List.replicate (32:Nat) (0:Int)))=
 (32:Nat)∧(64:Nat)=(64:Nat)∧(List.take (64:Nat) (List.drop (0:Nat) (List.take ((↑b.length:Int)-(160:Int)).toNat (List.drop (160:
 Nat) b)))).length=(64:Nat)∧ax (List.take (64:Nat) (List.drop (0:Nat) (List.take ((↑b.length:Int)-(160:Int)).toNat (List.drop (160:
 Nat) b))))) (End.ite (!ver (ks.getD (bc (List.take (8:Nat) (List.drop (0:Nat) b))).fst.fst.toNat (List.replicate (32:Nat) (0:Int))) [(98
 :Int),(111:Int),(111:Int),(116:Int),(106:Int),(97:Int),(99:Int),(107:Int)] (fD b) (List.take (64:Nat) (List.drop (0:Nat)
 (List.take ((↑b.length:Int)-(160:Int)).toNat (List.drop (160:Nat) b))))) (End.leaf (LV.cG [VV.agg [SV.int i64 (SI.sym (0:Int)),
 SV.int i64 (SI.sym (0:Int)),SV.int u64 (SI.sym (0:Int)),SV.int u64 (SI.sym (0:Int)),SV.int i64 (SI.sym (0:
 Int)),SV.arr (Ty.int IntKind.u8) (64:Nat) (List.replicate (64:Nat) (0:Int)),SV.arr (Ty.int IntKind.u8) (64:Nat) (List.replicate (64:Nat) (0
 :Int)),SV.arr (Ty.int IntKind.u8) (64:Nat) (List.replicate (64:Nat) (0:Int))],VV.sc (SV.int i64 (SI.sym (8:Int)))]) []) (End.need
 ((0:Int)≤(8:Int)∧(8:Int)≤(160:Int)∧(160:Int)≤(↑b.length:Int)) (End.need (ax (List.take (152:Nat) (List.drop (8:Nat) b)))
 (End.ite (!(gL (List.take (152:Nat) (List.drop (8:Nat) b))).snd) (End.leaf (LV.cG [VV.agg [SV.int i64 (SI.sym (0:Int)),SV.int
 i64 (SI.sym (0:Int)),SV.int u64 (SI.sym (0:Int)),SV.int u64 (SI.sym (0:Int)),SV.int i64 (SI.sym (0:Int)),
 SV.arr (Ty.int IntKind.u8) (64:Nat) (List.replicate (64:Nat) (0:Int)),SV.arr (Ty.int IntKind.u8) (64:Nat) (List.replicate (64:Nat) (0:
 Int)),SV.arr (Ty.int IntKind.u8) (64:Nat) (List.replicate (64:Nat) (0:Int))],VV.sc (SV.int i64 (SI.sym (6:Int)))]) []) (End.leaf
 (LV.cG [VV.agg [SV.int i64 (SI.sym (bc (List.take (8:Nat) (List.drop (0:Nat) b))).fst.fst),SV.int i64 (SI.sym (bc
 (List.take (8:Nat) (List.drop (0:Nat) b))).fst.snd),SV.int u64 (SI.sym (gL (List.take (152:Nat) (List.drop (8:Nat) b))).fst.ver),
 SV.int u64 (SI.sym (gL (List.take (152:Nat) (List.drop (8:Nat) b))).fst.lu),SV.int i64 (SI.sym (gL (List.take (152:Nat)
 (List.drop (8:Nat) b))).fst.len),SV.arr (Ty.int IntKind.u8) (64:Nat) (gL (List.take (152:Nat) (List.drop (8:Nat) b))).fst.list,SV.arr
 (Ty.int IntKind.u8) (64:Nat) (gL (List.take (152:Nat) (List.drop (8:Nat) b))).fst.plain,SV.arr (Ty.int IntKind.u8) (64:Nat) (List.take (64:
 Nat) (List.drop (0:Nat) (List.take ((↑b.length:Int)-(160:Int)).toNat (List.drop (160:Nat) b))))],VV.sc (SV.int i64 (SI.sym (0:
 Int)))]) [])))))))))))))):=by kernel_rfl
theorem YF{ver:List Int→List Int→List Int→List Int→Bool}{ks:List (List Int)}{b:List Int}(hb:ax b)(hl:b.length<1152921504606846976)(hk:F6 ks):
  ∃t_:Ev.End,aN Tryz.prog [(70,mR),(71,eVe ver),(72,Wd),(73,x8),(74,aoh)] [] f41 (ckA.wr (ks,b,())) [] [.fr [.sym],.auto]=t_∧t_.sat fun v dI=>v=YE (c8 ver ks b)∧dI= []:=by
 refine⟨_,Lb ..,?_⟩;have e0:List.drop 0 b=b:=rfl;rw[e0];refine⟨fun h=>?_,fun h=>?_⟩
 ·have hn:¬ (b.length=224∧(bc (b.take 8)).2=true):=fun⟨h',_⟩=>by rw[h']at h;simp at h
  exact⟨kj (r:=(kJ,6)) (by unfold c8;rw[if_neg hn]),rfl⟩
 have Ro:b.length=224:=by have:((b.length:Int)!=224)=false:=h
                          simp at this;omega
 have e1:List.take ((b.length:Int)-160).toNat (List.drop 160 b)=b.drop 160:=List.take_of_length_le (by rw[List.length_drop];omega);have e2:List.take 64 (List.drop 0 (b.drop 160))=b.drop 160:=by rw[List.drop_zero];exact List.take_of_length_le (by rw[List.length_drop];omega)
 have l1:(b.drop 160).length=64:=by rw[List.length_drop,Ro]
 rw[e1,e2];obtain⟨k1,k2⟩:=xd (l:=b.take 8);have by1:=hb.drop 160;have by2:ax (List.take 152 (List.drop 8 b)):=(hb.drop 8).take 152;refine⟨by omega,fun h1=>?_,fun h1=>?_⟩
 ·have hn:¬ (b.length=224∧(bc (b.take 8)).2=true):=fun⟨_,h'⟩=>by rw[h']at h1;simp at h1
  exact⟨kj (r:=(kJ,6)) (by unfold c8;rw[if_neg hn]),rfl⟩
 have hp:b.length=224∧(bc (b.take 8)).2=true:=⟨Ro,by simpa using h1⟩;refine⟨fun h2=>?_,fun h2=>?_⟩
 ·have h2:=of_decide_eq_true h2;exact⟨kj (r:=(kJ,15)) (by unfold c8;rw[if_pos hp,if_pos h2]),rfl⟩
 have h2:=of_decide_eq_false h2;refine⟨by omega,by omega,by omega,by omega,by omega,⟨hk _ (by omega),rfl,l1,by1⟩,fun h3=>?_,fun h3=>?_⟩
 ·have h3:¬ver (ks.getD (bc (b.take 8)).1.1.toNat k0) F5 (fD b) (b.drop 160)=true:=fun h'=>by
   have Bs:(!ver (ks.getD (bc (b.take 8)).1.1.toNat k0) F5 (fD b) (b.drop 160))=true:=h3;rw[h']at Bs;cases Bs
  exact⟨kj (r:=(kJ,8)) (by unfold c8;rw[if_pos hp,if_neg h2,if_neg h3]),rfl⟩
 have Bs:ver (ks.getD (bc (b.take 8)).1.1.toNat k0) F5 (fD b) (b.drop 160)=true:=by
  have Bs:(!ver (ks.getD (bc (b.take 8)).1.1.toNat k0) F5 (fD b) (b.drop 160))=false:=h3;simpa using Bs
 refine⟨by omega,by2,fun h4=>?_,fun h4=>?_⟩
 ·have h4:¬ (gL ((b.drop 8).take 152)).2=true:=fun h'=>by rw[h']at h4;cases h4
  exact⟨kj (r:=(kJ,6)) (by unfold c8;rw[if_pos hp,if_neg h2,if_pos Bs,if_neg h4]),rfl⟩
 ·have h4:(gL ((b.drop 8).take 152)).2=true:=by simpa using h4
  exact⟨kj (r:=(ajs b,0)) (by unfold c8;rw[if_pos hp,if_neg h2,if_pos Bs,if_pos h4]),rfl⟩
theorem ajt:(eCk (c8 pI)).Ok Tryz.prog 41:=by
 refine(ao.ba call41 fun x_ y_ Q h=>?_).sym;obtain⟨ks,b,_⟩:=x_;obtain⟨hn,hq⟩:=h;have hc:gI Tryz.prog 41 (ckA.wr (ks,b,())) [] (aN Tryz.prog [(70,mR),(71,eVe pI),(72,Wd),(73,x8),(74,aoh)] [] f41 (ckA.wr (ks,b,())) [] [.fr [.sym],.auto]):=au mixed (aj Nx (aj YB (aj awF (aj WS (aj axx aw))))) func41 rfl (aJ.nil _);obtain⟨t,ht,hs⟩:=YF (ver:=pI) hn.1 hn.2.1 hn.2.2;rw[ht]at hc;exact hc.use (D:= []) hs hq
end Go.Proofs.YtcbjpiangpjbgaaGreat
end
noncomputable section
namespace Go.Proofs.YtcbjpiangpjbgaaGreat
open Go Go.Ev Go.Proofs.Tryz
open Go.IntKind (i64 signed u32 u64 wrap wrap_u32)
set_option maxRecDepth 1000000
theorem aju:∃f:List (List Int)→List Int→rr×Int,∀ (ks:List (List Int)) (b:List Int),f ks b=(c8 pI ks b):=⟨fun ks b=>c8 pI ks b,fun _ _=>rfl⟩
def mr:List (List Int)→List Int→rr×Int:=Classical.choose aju
theorem ay0(ks:List (List Int))(b:List Int):mr ks b=(c8 pI ks b):=Classical.choose_spec aju ks b
theorem ajv:c8 pI=mr:=by funext ks b;exact(ay0 ks b).symm
theorem ajw{l:List Int}(h:(gL l).2=true):0≤(gL l).1.len∧(gL l).1.len≤131072:=by
 unfold gL at*
 split at h
 ·rename_i c;rw[if_pos c];have:=kC c.2;exact⟨show 0≤(dy l).len by omega,show(dy l).len≤_ by omega⟩
 ·cases h
theorem Lc(l:List Int):0≤aZ l∧aZ l<18446744073709551616:=by
 cases l with
 |nil=>exact⟨by decide,by decide⟩
 |cons x l=>rw[aZ,jy];omega
def CF(m:MM):Prop:=0≤m.ver∧m.ver<18446744073709551616∧0≤m.lu∧m.lu<18446744073709551616
theorem YG(ver:List Int→List Int→List Int→List Int→Bool)(ks:List (List Int))(b:List Int):CF (c8 ver ks b).1.cM:=by
 have h0:CF kJ.cM:=⟨by decide,by decide,by decide,by decide⟩
 have h1:∀l,CF (gL l).1:=fun l=>by
  unfold gL
  split
  ·have a:=Lc (l.take 8);have b:=Lc ((l.drop 8).take 8);exact⟨a.1,a.2,b.1,b.2⟩
  ·exact⟨by decide,by decide,by decide,by decide⟩
 unfold c8
 repeat' split
 all_goals first|exact h0|exact h1 _
theorem YH{ver:List Int→List Int→List Int→List Int→Bool}{ks:List (List Int)}{b:List Int}(h:(c8 ver ks b).2=0):1≤(c8 ver ks b).1.blocks∧(c8 ver ks b).1.blocks≤16∧0≤(c8 ver ks b).1.cM.len∧(c8 ver ks b).1.cM.len≤131072∧(c8 ver ks b).1.key=(bc (b.take 8)).1.1∧(c8 ver ks b).1.blocks=(bc (b.take 8)).1.2:=by
 unfold c8 at*
 split at h
 ·rename_i c1
  split at h
  ·cases h
  ·rename_i c2
   split at h
   ·rename_i c3
    split at h
    ·rename_i c4;rw[if_pos c1,if_neg c2,if_pos c3,if_pos c4];obtain⟨g1,g2⟩:=ajw c4;obtain⟨k1,k2⟩:=head_range c1.2;exact⟨k1,k2,g1,g2,rfl,rfl⟩
    ·cases h
   ·cases h
 ·cases h
abbrev ay1:ao:=eCk mr
theorem ay2:ay1.Ok Tryz.prog 41:=by rw[ay1,← ajv];exact ajt
abbrev aEH:aY (List LV) (List (List Int)×Int×Int×List Int×Unit):=ag (ah (fR false false (.arr u8 32))) (ag (ah (aC .u64)) (ag (ah (aC .i64)) (ag (ah (fR false false u8)) ae)))
def b9(ks:List (List Int))(fl rm:Int)(b:List Int):rr×Int:=
 if(mr ks b).2≠0 then(kJ,(mr ks b).2)else if rm<(mr ks b).1.cM.len then(kJ,10)else if(mr ks b).1.cM.ver<fl then(kJ,9)else((mr ks b).1,0)
def ajx(x:rr×Int):Int×Int×Int×Int×Int×List Int×List Int×List Int×Int:=(x.1.key,x.1.blocks,x.1.cM.ver,x.1.cM.lu,x.1.cM.len,x.1.cM.list,x.1.cM.plain,x.1.sign,x.2)
theorem aEI(e:Int):ajx (kJ,e)=(0,0,0,0,0,List.replicate 64 0,List.replicate 64 0,List.replicate 64 0,e):=rfl
theorem aEJ(x:rr)(e:Int):ajx (x,e)=(x.key,x.blocks,x.cM.ver,x.cM.lu,x.cM.len,x.cM.list,x.cM.plain,x.sign,e):=rfl
theorem AI(c v s:Int)(a b:List Int):(k8 c v s a b).length≤152:=by
 unfold k8
 split
 ·simp only[List.length_append,List.length_take,dk];omega
 ·simp
theorem Uq{ks:List (List Int)}{fl rm:Int}{b:List Int}(h:(b9 ks fl rm b).2=0):b9 ks fl rm b=((mr ks b).1,0)∧(mr ks b).2=0∧1≤(mr ks b).1.blocks∧(mr ks b).1.blocks≤16∧0≤(mr ks b).1.cM.len∧(mr ks b).1.cM.len≤rm∧CF (mr ks b).1.cM:=by
 have hc:=YH (ver:=pI) (ks:=ks) (b:=b);have hv:=YG pI ks b;rw[ajv]at hc hv;unfold b9 at h ⊢;grind
end Go.Proofs.YtcbjpiangpjbgaaGreat
end
