/- What the laws lean on, part 14: a reader of code, plain facts, and what each function gives; no conditions. -/
import Derived.Test.YtnbkagglkajbkaaGreatB13
set_option linter.unusedVariables false
set_option linter.unusedSimpArgs false
noncomputable section
namespace Go.Ev
open Go
open Go.IntKind (i64 signed u16 u64 wrap)
def vd(B:Int):List Int→Int
 | []=>0
 |x::l=>x+B*vd B l
def dg(B:Int):Nat→Int→List Int
 |0,_=> []
 |n+1,x=>x%B::dg B n (x/B)
def gD(B:Int)(l:List Int):Prop:=∀z∈l,0≤z∧z<B
noncomputable section
variable {B:Int}
theorem gD.tail{x:Int}{l:List Int}(h:gD B (x::l)):gD B l:=fun z hz=>h z (List.mem_cons_of_mem _ hz)
theorem gD.head{x:Int}{l:List Int}(h:gD B (x::l)):0≤x∧x<B:=h x (by simp)
theorem gD.take{l:List Int}(h:gD B l)(n:Nat):gD B (l.take n):=fun z hz=>h z (List.mem_of_mem_take hz)
theorem gD.set{l:List Int}(h:gD B l){i:Nat}{x:Int}(hx:0≤x∧x<B):gD B (l.set i x):=fun z hz=>by
 rcases List.mem_or_eq_of_mem_set hz with k|k
 ·exact h z k
 ·subst k;exact hx
theorem gD.SJ(hB:0<B)(n:Nat):gD B (List.replicate n 0):=fun z hz=>by
 rw[List.eq_of_mem_replicate hz];omega
theorem gD.getD{l:List Int}(hB:0<B)(h:gD B l)(i:Nat):0≤l.getD i 0∧l.getD i 0<B:=by
 rw[List.getD_eq_getElem?_getD];rcases Nat.lt_or_ge i l.length with h1|h1
 ·rw[List.getElem?_eq_getElem h1];exact h _ (List.getElem_mem h1)
 ·rw[List.getElem?_eq_none h1];exact⟨by simp,by simpa using hB⟩
theorem cy:∀ (n:Nat) (x:Int),(dg B n x).length=n
 |0,_=>rfl
 |n+1,x=>by simp[dg,cy n]
theorem oD(hB:0<B):∀ (n:Nat) (x:Int),gD B (dg B n x)
 |0,_=>fun z hz=>by cases hz
 |n+1,x=>fun z hz=>by
  rcases List.mem_cons.1 hz with rfl|hz
  ·exact⟨Int.emod_nonneg _ (by omega),Int.emod_lt_of_pos _ hB⟩
  ·exact oD hB n _ z hz
theorem adJ(hB:0<B)(n:Nat):0<B ^ n:=Int.pow_pos hB
theorem eS(hB:0<B):∀ {l:List Int},gD B l→0≤vd B l
 | [],_=>by simp[vd]
 |x::l,h=>by
  have h1:=eS hB h.tail;have h2:=h.head;have:=Int.mul_nonneg (Int.le_of_lt hB) h1;simp only[vd];omega
theorem rQ(hB:0<B):∀ {l:List Int},gD B l→vd B l<B ^ l.length
 | [],_=>by simp[vd]
 |x::l,h=>by
  have h1:=rQ hB h.tail;have h2:=h.head;simp only[vd,List.length_cons];have h3:B*(vd B l+1)≤B*B ^ l.length:=Int.mul_le_mul_of_nonneg_left (by omega) (by omega);rw[Int.mul_add,Int.mul_one]at h3;rw[Int.pow_succ,Int.mul_comm (B ^ l.length)];omega
theorem DX(hB:0<B){x y:Int}(h:0≤x∧x<B):(x+B*y)/B=y∧(x+B*y)%B=x:=by
 rw[Int.add_mul_ediv_left _ _ (by omega),Int.add_mul_emod_self_left,Int.ediv_eq_zero_of_lt h.1 h.2,Int.emod_eq_of_lt h.1 h.2];exact⟨by omega,rfl⟩
theorem Lc(hB:0<B):∀ {l:List Int},gD B l→dg B l.length (vd B l)=l
 | [],_=>rfl
 |x::l,h=>by
  obtain⟨h1,h2⟩:=DX hB (y:=vd B l) h.head;show(x+B*vd B l)%B::dg B l.length ((x+B*vd B l)/B)=x::l;rw[h1,h2,Lc hB h.tail]
theorem BW(hB:0<B){P:Int}(hP:0<P)(x:Int):x%B+B*(x/B%P)=x%(B*P):=by
 have h1:=Int.emod_nonneg x (show B≠0 by omega);have h2:=Int.emod_lt_of_pos x hB;have h3:=Int.emod_nonneg (x/B) (show P≠0 by omega);have h4:=Int.emod_lt_of_pos (x/B) hP;have e1:=Int.emod_add_mul_ediv x B;have e2:=Int.emod_add_mul_ediv (x/B) P
 have e:x=x%B+B*(x/B%P)+(B*P)*(x/B/P):=by
  rw[Int.mul_assoc,Int.add_assoc,← Int.mul_add,e2,e1]
 have eV:x%B+B*(x/B%P)<B*P:=by
  have:=Int.mul_le_mul_of_nonneg_left (show x/B%P+1≤P by omega) (show 0≤B by omega);rw[Int.mul_add,Int.mul_one]at this;omega
 have hnn:0≤x%B+B*(x/B%P):=by
  have:=Int.mul_nonneg (show 0≤B by omega) h3;omega
 have key:x%(B*P)=(x%B+B*(x/B%P))%(B*P):=by
  conv=>lhs;rw[e]
  rw[Int.add_mul_emod_self_left]
 rw[key,Int.emod_eq_of_lt hnn eV]
theorem nu(hB:0<B):∀ (n:Nat) (x:Int),vd B (dg B n x)=x%B ^ n
 |0,x=>by simp[dg,vd,Int.emod_one]
 |n+1,x=>by
  show x%B+B*vd B (dg B n (x/B))=_;rw[nu hB n,BW hB (adJ hB n),Int.pow_succ,Int.mul_comm (B ^ n)]
theorem adK(hB:0<B){l m:List Int}(hl:gD B l)(hm:gD B m)(hn:l.length=m.length)(h:vd B l=vd B m):l=m:=by
 rw[← Lc hB hl,← Lc hB hm,hn,h]
theorem Ld(hB:0<B){l:List Int}{n:Nat}{x:Int}(hl:gD B l)(hn:l.length=n)(h:vd B l=x%B ^ n):l=dg B n x:=
 adK hB hl (oD hB n x) (by rw[cy,hn]) (by rw[nu hB,h])
theorem aoF(hB:0<B){l:List Int}{n:Nat}{x:Int}(hl:gD B l)(hn:l.length=n)(h:vd B l=x):l=dg B n x:=by
 subst h hn;exact(Lc hB hl).symm
theorem vA(hB:0<B):∀ {n:Nat} {x:Int} {k:Nat},k<n→(dg B n x).getD k 0=x/B ^ k%B
 |0,_,k,h=>absurd h (by omega)
 |n+1,x,0,_=>by simp[dg]
 |n+1,x,k+1,h=>by
  show(x%B::dg B n (x/B)).getD (k+1) 0=_;rw[List.getD_cons_succ,vA hB (by omega:k<n),Int.ediv_ediv_of_nonneg (by omega),Int.pow_succ,Int.mul_comm (B ^ k)]
theorem Tj(hB:0<B){l:List Int}(h:gD B l){k:Nat}(hk:k<l.length):l.getD k 0=vd B l/B ^ k%B:=by
 conv=>lhs;rw[← Lc hB h]
 exact vA hB hk
theorem DY:∀ (l m:List Int),vd B (l++m)=vd B l+B ^ l.length*vd B m
 | [],m=>by simp[vd]
 |x::l,m=>by
  show x+B*vd B (l++m)=x+B*vd B l+B ^ (l.length+1)*vd B m;rw[DY l m,Int.mul_add,Int.pow_succ,Int.mul_assoc,Int.mul_left_comm B,Int.add_assoc]
theorem BX:∀ {l:List Int} {k:Nat} {x:Int},k<l.length→vd B (l.set k x)=vd B l+(x-l.getD k 0)*B ^ k
 | [],k,_,h=>absurd h (by simp)
 |y::l,0,x,_=>by
  simp only[List.set_cons_zero,vd,List.getD_cons_zero,Int.pow_zero];omega
 |y::l,k+1,x,h=>by
  simp only[List.set_cons_succ,vd,List.getD_cons_succ];rw[BX (by simpa using h),Int.mul_add,Int.pow_succ,Int.mul_comm B ((x-l.getD k 0)*B ^ k),Int.mul_assoc,Int.add_assoc]
theorem BY(n:Nat):vd B (List.replicate n 0)=0:=by
 induction n with
 |zero=>rfl
 |succ n ih=>rw[List.replicate_succ];simp[vd,ih]
theorem eC{l:List Int}{k:Nat}(hk:k<l.length):vd B (l.take (k+1))=vd B (l.take k)+l.getD k 0*B ^ k:=by
 rw[List.take_add_one,List.getElem?_eq_getElem hk,DY,List.length_take,Nat.min_eq_left (by omega),List.getD_eq_getElem?_getD,List.getElem?_eq_getElem hk];simp[vd,Int.mul_comm]
theorem adL(hB:0<B)(m:Nat):∀ (n:Nat) (x:Int),dg B (n+m) x=dg B n x++dg B m (x/B ^ n)
 |0,x=>by simp[dg]
 |n+1,x=>by
  rw[show n+1+m=(n+m)+1 from by omega];show x%B::dg B (n+m) (x/B)=x%B::dg B n (x/B)++dg B m (x/B ^ (n+1));rw[adL hB m n,Int.ediv_ediv_of_nonneg (by omega),Int.pow_succ,Int.mul_comm (B ^ n)];rfl
theorem aiY(hB:0<B){n k:Nat}(h:k≤n)(x:Int):(dg B n x).take k=dg B k x:=by
 obtain⟨m,rfl⟩:∃m,n=k+m:=⟨n-k,by omega⟩;rw[adL hB];simp[cy]
theorem Tk(hB:0<B)(n:Nat):dg B n 0=List.replicate n 0:=
 (Ld hB (gD.SJ hB n) (by simp) (by rw[BY];simp)).symm
end
theorem CP{x:Int}(A C:Int)(hA:0<A)(hC:0<C)(D:Int)(hDp:0<D)(hdiv:A*D∣C):x%C/A%D=x/A%D:=by
 obtain⟨q,rfl⟩:=hdiv
 have hq:0<q:=by
  rcases Int.lt_or_le 0 q with h|h
  ·exact h
  ·have:=Int.mul_nonneg (Int.le_of_lt (Int.mul_pos hA hDp)) (show 0≤ -q by omega);rw[Int.mul_neg]at this;omega
 have e:=BW (B:=A) (P:=D*q) hA (Int.mul_pos hDp hq) x;rw[← Int.mul_assoc]at e;rw[← e];have h1:=Int.emod_nonneg x (show A≠0 by omega);have h2:=Int.emod_lt_of_pos x hA;rw[(DX hA ⟨h1,h2⟩).1,Int.emod_emod_of_dvd _ (Int.dvd_mul_right D q)]
theorem WY(V:Int)(k:Nat):V/2 ^ k=2*(V/2 ^ (k+1))+V/2 ^ k%2:=by
 have e:V/2 ^ (k+1)=V/2 ^ k/2:=by rw[Int.pow_succ,Int.ediv_ediv_of_nonneg (by exact Int.le_of_lt (Int.pow_pos (by decide)))]
 rw[e];omega
theorem adM{L r b:Int}(hL:0<L)(hr:0≤r∧r<L)(hb:0≤b∧b<2):(2*r+b)%L=if 2*r+b<L then 2*r+b else 2*r+b-L:=by
 split
 ·exact Int.emod_eq_of_lt (by omega) (by assumption)
 ·have e:2*r+b=(2*r+b-L)+L*1:=by omega
  conv=>lhs;rw[e]
  rw[Int.add_mul_emod_self_left,Int.emod_eq_of_lt (by omega) (by omega)]
theorem aiZ(L V b:Int):(2*V+b)%L=(2*(V%L)+b)%L:=by
 have e:=Int.emod_add_mul_ediv V L
 have:2*V+b=2*(V%L)+b+L*(2*(V/L)):=by
  conv=>lhs;rw[← e]
  rw[Int.mul_add,Int.mul_left_comm];omega
 rw[this,Int.add_mul_emod_self_left]
end Go.Ev
end
noncomputable section
namespace Go.Proofs.YtnbkagglkajbkaaGreat
open Go Go.Ev BJ Go.Proofs.Tryz
open Go.IntKind (i64 signed u16 u64 wrap)
set_option maxRecDepth 1000000
theorem WZ{x y c:Int}(hx:vV x)(hy:vV y)(hc:c=0∨c=1):nd x y c=((x-y-c)%18446744073709551616,if x<y+c then 1 else 0):=by
 unfold vV at hx hy;obtain⟨a,rfl⟩:=Int.eq_ofNat_of_zero_le hx.1;obtain⟨b,rfl⟩:=Int.eq_ofNat_of_zero_le hy.1;obtain⟨d,rfl⟩:∃d:Nat,c=(d:Int):=by rcases hc with rfl|rfl;exact⟨0,rfl⟩;exact⟨1,rfl⟩
 simp only[nd,Int.toNat_natCast];have e:(2:Nat) ^ 64=18446744073709551616:=by decide
 rw[e];refine Prod.ext ?_ ?_
 ·show(((a+18446744073709551616-b-d)%18446744073709551616:Nat):Int)=_;omega
 ·show(if a<b+d then(1:Int)else 0)=_
  by_cases h:a<b+d
  ·rw[if_pos h,if_pos (by omega)]
  ·rw[if_neg h,if_neg (by omega)]
theorem yR{B:Int}(hB:1≤B){a b:Nat}(h:a≤b):B ^ a≤B ^ b:=by
 obtain⟨d,rfl⟩:∃d,b=a+d:=⟨b-a,by omega⟩;rw[Int.pow_add];have h1:0<B ^ a:=Int.pow_pos (by omega);have h2:0<B ^ d:=Int.pow_pos (by omega);have:=Int.mul_le_mul_of_nonneg_left (show 1≤B ^ d by omega) (Int.le_of_lt h1);rwa [Int.mul_one]at this
theorem alC(k m:Nat):(k:Int).tmod (m:Int)=((k%m:Nat):Int):=by rw[Int.tmod_eq_emod_of_nonneg (by omega),← Int.natCast_emod]
abbrev qq:Int:=18446744073709551616
theorem bz:0<qq:=by decide
theorem G8:qq=256 ^ 8:=by decide
theorem asi:qq=2 ^ 64:=by decide
theorem vB(s:Nat):((2 ^ (s*8):Nat):Int)=256 ^ s:=by
 rw[Nat.mul_comm,Nat.pow_mul,Int.natCast_pow];rfl
theorem DZ{b:Int}(hb:0<b){m:Nat}(hm:0<m){l:List Int}(h:gD (b ^ m) l){k:Nat}(hk:k/m<l.length):l.getD (k/m) 0/b ^ (k%m)%b=vd (b ^ m) l/b ^ k%b:=by
 have hB:0<b ^ m:=Int.pow_pos hb;rw[Tj hB h hk];have eV:=Nat.mod_lt k hm;have e1:(b ^ m)=b ^ (k%m)*b*b ^ (m-(k%m+1)):=by rw[← Int.pow_succ,← Int.pow_add];congr 1;omega
 rw[CP (b ^ (k%m)) (b ^ m) (Int.pow_pos hb) hB b hb ⟨_,e1⟩];rw[Int.ediv_ediv_of_nonneg (Int.le_of_lt (Int.pow_pos hB)),← Int.pow_mul,← Int.pow_add]
 congr 3
 have:=Nat.div_add_mod k m;exact this
theorem aoG{B:Int}(hB:0<B)(n:Nat)(x:Int):(List.range n).map (fun i=>x/B ^ i%B)=dg B n x:=by
 apply List.ext_getElem?
 intro i;rcases Nat.lt_or_ge i n with h|h
 ·have e:=vA hB (x:=x) h;rw[List.getD_eq_getElem?_getD,List.getElem?_eq_getElem (by rw[cy];exact h)]at e;rw[List.getElem?_eq_getElem (l:=dg B n x) (by rw[cy];exact h),List.getElem?_map,List.getElem?_range h];simpa using e.symm
 ·rw[List.getElem?_eq_none (by simpa using h),List.getElem?_eq_none (by rw[cy];exact h)]
def rR(b:List Int):List Int:=dg qq 8 (vd 256 b)
def xl(w:List Int):List Int:=dg 256 32 (vd qq w)
theorem ai0{b:List Int}(hb:al b)(hl:b.length≤64){k:Nat}(hk:k<b.length):
  (rR (b.take k)).set (k/8) (bp .u64 ((rR (b.take k)).getD (k/8) 0) (shl .u64 (u64.wrap (b.getD k 0)) ((k%8*8:Nat):Int)))=rR (b.take (k+1)):=by
 have j5:gD 256 b:=hb;have hc:=gD.getD (by decide) j5 k;have hV0:=eS (by decide) (j5.take k);have hV1:=rQ (by decide) (j5.take k);rw[List.length_take,Nat.min_eq_left (by omega)]at hV1;unfold rR;rw[eC hk];generalize vd 256 (b.take k)=V at*;generalize b.getD k 0=c at*;have hi:k/8<8:=by omega
 have hs:k%8<8:=by omega
 have l9:k=8*(k/8)+k%8:=(Nat.div_add_mod k 8).symm;have hp:(256:Int) ^ k=qq ^ (k/8)*256 ^ (k%8):=by rw[G8,← Int.pow_mul,← Int.pow_add,← l9]
 have hQ:0<qq ^ (k/8):=Int.pow_pos bz
 have hle:(256:Int) ^ (k%8)*256≤qq:=by
  rw[← Int.pow_succ,G8];exact yR (by decide) (by omega)
 have hP:(0:Int)<256 ^ (k%8):=Int.pow_pos (by decide);have hdl:V/qq ^ (k/8)<256 ^ (k%8):=Int.ediv_lt_of_lt_mul hQ (by rw[Int.mul_comm,← hp];exact hV1);have hd0:0≤V/qq ^ (k/8):=Int.ediv_nonneg hV0 (Int.le_of_lt hQ)
 have eg:(dg qq 8 V).getD (k/8) 0=V/qq ^ (k/8):=by
  rw[vA bz hi,Int.emod_eq_of_lt hd0 (by omega)]
 rw[eg];have ew:u64.wrap c=c:=wrap_u64 hc.1 (by omega);have hcP:c*256 ^ (k%8)≤255*256 ^ (k%8):=Int.mul_le_mul_of_nonneg_right (by omega) (by omega);have asj:0≤c*256 ^ (k%8):=Int.mul_nonneg hc.1 (by omega)
 have es:shl .u64 c ((k%8*8:Nat):Int)=c*256 ^ (k%8):=by
  rw[g6 .u64 c _ (by simp[IntKind.bits];omega),vB,wrap_u64 asj (by unfold qq at hle;omega)]
 have hdiv:c*256 ^ (k%8)%((2 ^ (k%8*8):Nat):Int)=0:=by rw[vB];exact Int.mul_emod_left _ _
 have eo:bp .u64 (V/qq ^ (k/8)) (c*256 ^ (k%8))=V/qq ^ (k/8)+c*256 ^ (k%8):=by
  rw[iG,nK (m:=k%8*8) asj hdiv hd0 (by rw[vB];exact hdl) (by unfold qq at hle;omega),Int.add_comm]
 rw[ew,es,eo];refine Ld bz ((oD bz 8 V).set ⟨by omega,by omega⟩) (by rw[List.length_set,cy]) ?_;rw[BX (by rw[cy];exact hi),eg,nu bz];have e2:(256:Int) ^ 64=qq ^ 8:=by decide
 have hV2:V<qq ^ 8:=Int.lt_of_lt_of_le hV1 (by rw[← e2];exact yR (by decide) (by omega));rw[Int.emod_eq_of_lt hV0 hV2]
 have e3:(V/qq ^ (k/8)+c*256 ^ (k%8)-V/qq ^ (k/8))*qq ^ (k/8)=c*256 ^ k:=by
  rw[hp,Int.mul_comm (qq ^ (k/8)),← Int.mul_assoc];congr 1;omega
 rw[e3]
 have eV:V+c*256 ^ k<qq ^ 8:=by
  have h1:c*256 ^ k≤255*256 ^ k:=Int.mul_le_mul_of_nonneg_right (by omega) (Int.le_of_lt (Int.pow_pos (by decide)));have h2:(256:Int) ^ (k+1)≤256 ^ 64:=yR (by decide) (by omega);rw[Int.pow_succ]at h2;rw[← e2];omega
 exact(Int.emod_eq_of_lt (Int.add_nonneg hV0 (Int.mul_nonneg hc.1 (Int.le_of_lt (Int.pow_pos (by decide))))) eV).symm
theorem adN{w:List Int}(h:gD qq w)(hl:w.length=8){k:Nat}(hk:k<64):IntKind.u8.wrap (shr .u64 (w.getD (k/8) 0) ((k%8*8:Nat):Int))=vd qq w/256 ^ k%256:=by
 rw[ft .u64 _ _ (by simp[IntKind.bits];omega),vB,wrap_u8];have h':gD (256 ^ 8) w:=by rw[← G8];exact h
 have:=DZ (b:=256) (by decide) (by decide:0<8) h' (k:=k) (by omega);rw[this,← G8]
def ob(w:List Int)(i:Int):Int:=vd qq w/2 ^ i.toNat%2
theorem W0{w:List Int}(h:gD qq w)(hl:w.length=8){k:Nat}(hk:k<512):bg .u64 (shr .u64 (w.getD (k/64) 0) ((k%64:Nat):Int)) 1=ob w (k:Int):=by
 rw[ft .u64 _ _ (by simp[IntKind.bits];omega),tK (m:=1) (by decide) _ 1 (by decide)];have h':gD (2 ^ 64) w:=by rw[← asi];exact h
 have:=DZ (b:=2) (by decide) (by decide:0<64) h' (k:=k) (by omega);unfold ob;rw[Int.toNat_natCast,asi,← this];simp
structure Part (k:Nat) (w o:List Int):Prop where
 len:o.length=8
 W1:gD qq o
 rest:∀j,k≤j→o.getD j 0=w.getD j 0
theorem Part.step{k:Nat}{w o:List Int}(h:Part k w o){z:Int}(hk:k<8)(hz:0≤z∧z<qq):Part (k+1) w (o.set k z)∧vd qq ((o.set k z).take (k+1))=vd qq (o.take k)+z*qq ^ k:=by
 obtain⟨h1,h2,h3⟩:=h;have hg:(o.set k z).getD k 0=z:=by rw[List.getD_eq_getElem?_getD];simp[show k<o.length by omega]
 refine⟨⟨by rw[List.length_set,h1],h2.set hz,fun j hj=>?_⟩,?_⟩
 ·rw[← h3 j (by omega),List.getD_eq_getElem?_getD,List.getD_eq_getElem?_getD,List.getElem?_set_ne (by omega)]
 ·rw[eC (by rw[List.length_set];omega),hg,List.take_set_of_le (Nat.le_refl _)]
def gZ(w x:List Int):List Int×Int:=(dg qq 8 (vd qq w-vd qq x),if vd qq w<vd qq x then 1 else 0)
def jY(w x:List Int):List Int:=dg qq 8 (vd qq w+vd qq x)
def D0(sb:Int→Int→Int→Int×Int)(x:List Int)(k:Nat)(o:List Int×Int):List Int×Int:=(o.1.set k (sb (o.1.getD k 0) (x.getD k 0) o.2).1,(sb (o.1.getD k 0) (x.getD k 0) o.2).2)
def Tl(w x:List Int)(k:Nat)(o:List Int×Int):Prop:=Part k w o.1∧(o.2=0∨o.2=1)∧vd qq (o.1.take k)=vd qq (w.take k)-vd qq (x.take k)+o.2*qq ^ k
theorem D1{w x:List Int}(hw:gD qq w)(hx:gD qq x)(lw:w.length=8)(lx:x.length=8){k:Nat}{o:List Int×Int}(hk:k<8)(h:Tl w x k o):Tl w x (k+1) (D0 nd x k o):=by
 obtain⟨hp,hc,hv⟩:=h;obtain⟨o,c⟩:=o;simp only at hp hc hv;have h1:=gD.getD bz hp.W1 k;have h2:=gD.getD bz hx k;have e:=WZ (x:=o.getD k 0) (y:=x.getD k 0) (c:=c) h1 h2 hc;have eJ:=hp.rest k (Nat.le_refl _);unfold D0;rw[e];have hz:0≤(o.getD k 0-x.getD k 0-c)%18446744073709551616∧(o.getD k 0-x.getD k 0-c)%18446744073709551616<qq:=⟨Int.emod_nonneg _ (by decide),Int.emod_lt_of_pos _ (by decide)⟩;obtain⟨p1,p2⟩:=hp.step hk hz;refine⟨p1,by simp only;split<;>simp,?_⟩;simp only;rw[p2,hv,eC (by omega),eC (by omega),eJ,Int.pow_succ,Int.mul_comm (qq ^ k) qq,← Int.mul_assoc];rw[eJ]at h1;generalize w.getD k 0=a at*;generalize x.getD k 0=b at*
 have key:c+(a-b-c)%18446744073709551616=a-b+(if a<b+c then(1:Int)else 0)*qq:=by
  unfold qq at*
  split<;>omega
 have e2:c*qq ^ k+(a-b-c)%18446744073709551616*qq ^ k=(a-b+(if a<b+c then(1:Int)else 0)*qq)*qq ^ k:=by rw[← key,Int.add_mul]
 rw[Int.add_mul,Int.sub_mul]at e2;omega
theorem adO{w x:List Int}(hw:gD qq w)(hx:gD qq x)(lw:w.length=8)(lx:x.length=8):upto (D0 nd x) 0 8 (w,0)=gZ w x:=by
 have h:=mU (f:=D0 nd x) (Tl w x) (n:=8) (fun k o hk h=>D1 hw hx lw lx hk h) 8 0 (w,0) (by omega) ⟨⟨lw,hw,fun _ _=>rfl⟩,.inl rfl,by simp[vd]⟩;generalize upto (D0 nd x) 0 8 (w,0)=o at*;obtain⟨o,c⟩:=o;obtain⟨hp,hc,hv⟩:=h;simp only at hp hc hv;simp only[Nat.zero_add]at hp hv;rw[List.take_of_length_le (by rw[hp.len];decide),List.take_of_length_le (by omega),List.take_of_length_le (by omega)]at hv;have b1:=eS bz hp.W1;have b2:=rQ bz hp.W1;have b3:=eS bz hw;have b4:=rQ bz hw;have b5:=eS bz hx;have b6:=rQ bz hx;rw[hp.len]at b2;rw[lw]at b4;rw[lx]at b6;unfold gZ;refine Prod.ext (Ld bz hp.W1 hp.len ?_) ?_
 ·rw[hv];have:vd qq w-vd qq x+c*qq ^ 8=vd qq w-vd qq x+qq ^ 8*c:=by rw[Int.mul_comm]
  have e:vd qq o=vd qq o%qq ^ 8:=(Int.emod_eq_of_lt b1 b2).symm;rw[hv,this,Int.add_mul_emod_self_left]at e;rw[this];exact e
 ·simp only;rcases hc with rfl|rfl
  ·rw[if_neg (by omega)]
  ·rw[if_pos (by omega)]
def D2(ad:Int→Int→Int→Int×Int)(x:List Int)(k:Nat)(o:List Int×Int):List Int×Int:=(o.1.set k (ad (o.1.getD k 0) (x.getD k 0) o.2).1,(ad (o.1.getD k 0) (x.getD k 0) o.2).2)
def ai1(w x:List Int)(k:Nat)(o:List Int×Int):Prop:=Part k w o.1∧(o.2=0∨o.2=1)∧vd qq (o.1.take k)+o.2*qq ^ k=vd qq (w.take k)+vd qq (x.take k)
theorem Le{w x:List Int}(hw:gD qq w)(hx:gD qq x)(lw:w.length=8)(lx:x.length=8){k:Nat}{o:List Int×Int}(hk:k<8)(h:ai1 w x k o):ai1 w x (k+1) (D2 bt x k o):=by
 obtain⟨hp,hc,hv⟩:=h;obtain⟨o,c⟩:=o;simp only at hp hc hv;have h1:=gD.getD bz hp.W1 k;have h2:=gD.getD bz hx k;have e:=kI (x:=o.getD k 0) (y:=x.getD k 0) (c:=c) h1.1 h2.1 (by omega);have eJ:=hp.rest k (Nat.le_refl _);unfold D2;rw[e];have hz:0≤(o.getD k 0+x.getD k 0+c)%18446744073709551616∧(o.getD k 0+x.getD k 0+c)%18446744073709551616<qq:=⟨Int.emod_nonneg _ (by decide),Int.emod_lt_of_pos _ (by decide)⟩;obtain⟨p1,p2⟩:=hp.step hk hz;refine⟨p1,by simp only;unfold qq at h1 h2;omega,?_⟩;simp only;rw[p2,eC (by omega),eC (by omega),eJ,Int.pow_succ,Int.mul_comm (qq ^ k) qq,← Int.mul_assoc];rw[eJ]at h1;generalize w.getD k 0=a at*;generalize x.getD k 0=b at*
 have key:(a+b+c)%18446744073709551616+(a+b+c)/18446744073709551616*qq=a+b+c:=by
  unfold qq at*;omega
 have e2:(a+b+c)%18446744073709551616*qq ^ k+(a+b+c)/18446744073709551616*qq*qq ^ k=(a+b+c)*qq ^ k:=by rw[← Int.add_mul,key]
 rw[Int.add_mul (a+b),Int.add_mul a]at e2;omega
theorem ai2{w x:List Int}(hw:gD qq w)(hx:gD qq x)(lw:w.length=8)(lx:x.length=8):(upto (D2 bt x) 0 8 (w,0)).1=jY w x:=by
 have h:=mU (f:=D2 bt x) (ai1 w x) (n:=8) (fun k o hk h=>Le hw hx lw lx hk h) 8 0 (w,0) (by omega) ⟨⟨lw,hw,fun _ _=>rfl⟩,.inl rfl,by simp[vd]⟩;generalize upto (D2 bt x) 0 8 (w,0)=o at*;obtain⟨o,c⟩:=o;obtain⟨hp,hc,hv⟩:=h;simp only at hp hc hv;simp only[Nat.zero_add]at hp hv;rw[List.take_of_length_le (by rw[hp.len];decide),List.take_of_length_le (by omega),List.take_of_length_le (by omega)]at hv;have b1:=eS bz hp.W1;have b2:=rQ bz hp.W1;rw[hp.len]at b2;unfold jY;refine Ld bz hp.W1 hp.len ?_;rw[← hv,Int.mul_comm,Int.add_mul_emod_self_left,Int.emod_eq_of_lt b1 b2]
def eT:List Int:= [6346243789798364141,1503914060200516822,0,1152921504606846976,0,0,0,0]
def ll:Int:=7237005577332262213973186563042994240857116359379907606001950938285454250989
theorem kc:0<ll:=by decide
theorem D3:vd qq eT=ll:=by decide+kernel
theorem Lf:eT.length=8∧gD qq eT:=⟨rfl,by unfold gD eT;decide⟩
def mB(r:List Int)(b:Int):List Int:=r.set 0 (bp .u64 (r.getD 0 0) b)
def P2(and:List Int→List Int→List Int)(less:List Int→List Int→List Int×Int)(bit:List Int→Int→Int)(o w:List Int)(k:Nat)(r:List Int):List Int:=
 bif (less (mB (and r r) (bit w (511-(k:Int)))) o).2==0 then(less (mB (and r r) (bit w (511-(k:Int)))) o).1 else mB (and r r) (bit w (511-(k:Int)))
theorem ai3(w:List Int)(i:Int):0≤ob w i∧ob w i<2:=by unfold ob;omega
theorem qq8:(2:Int) ^ 254≤qq ^ 8:=by decide+kernel
theorem Lg:ll+ll<2 ^ 254:=by decide+kernel
theorem Tm{R b:Int}(hR:0≤R∧R<ll)(hb:0≤b∧b<2):mB (dg qq 8 (R+R)) b=dg qq 8 (2*R+b):=by
 have h1:2*R+b<qq ^ 8:=Int.lt_of_lt_of_le (by have:=Lg;omega) qq8;have h2:R+R<qq ^ 8:=Int.lt_of_lt_of_le (by have:=Lg;omega) qq8;have hg:(dg qq 8 (R+R)).getD 0 0=(R+R)%qq:=by rw[vA bz (by decide)];simp
 have hm:0≤(R+R)%qq:=Int.emod_nonneg (R+R) (show qq≠0 by decide);have hl:(R+R)%qq<18446744073709551616:=Int.emod_lt_of_pos (R+R) bz
 have hev:(R+R)%qq%2=0:=by
  show(R+R)%18446744073709551616%2=0;omega
 have hv:vd qq (dg qq 8 (R+R))=R+R:=by rw[nu bz,Int.emod_eq_of_lt (by omega) h2]
 unfold mB;rw[hg];generalize (R+R)%qq=M at*;rw[nK (m:=1) hm (by simpa using hev) hb.1 (by simpa using hb.2) (by omega)];refine Ld bz ((oD bz 8 _).set ⟨by omega,(by omega:M+b<18446744073709551616)⟩) (by rw[List.length_set,cy]) ?_;rw[BX (by rw[cy];decide),hg,hv,Int.emod_eq_of_lt (by omega) h1,Int.pow_zero,Int.mul_one];omega
theorem adP{V:Int}{w:List Int}(hw:vd qq w=V){k:Nat}(hk:k<512):P2 jY gZ ob eT w k (dg qq 8 (V/2 ^ (512-k)%ll))=dg qq 8 (V/2 ^ (512-(k+1))%ll):=by
 have hlq:∀ {x:Int},x<ll+ll→x<qq ^ 8:=fun h=>Int.lt_of_lt_of_le (Int.lt_trans h Lg) qq8;have e0:=WY V (512-(k+1));rw[show 512-(k+1)+1=512-k from by omega]at e0
 have eb:ob w (511-(k:Int))=V/2 ^ (512-(k+1))%2:=by
  unfold ob;rw[hw,show(511-(k:Int)).toNat=512-(k+1)from by omega]
 have hb:0≤V/2 ^ (512-(k+1))%2∧V/2 ^ (512-(k+1))%2<2:=by omega
 have hR:0≤V/2 ^ (512-k)%ll∧V/2 ^ (512-k)%ll<ll:=⟨Int.emod_nonneg _ (by have:=kc;omega),Int.emod_lt_of_pos _ kc⟩
 have em:(V/2 ^ (512-(k+1)))%ll=(2*(V/2 ^ (512-k)%ll)+V/2 ^ (512-(k+1))%2)%ll:=by
  conv=>lhs;rw[e0]
  exact aiZ _ _ _
 rw[em,adM kc hR hb]
 have es:jY (dg qq 8 (V/2 ^ (512-k)%ll)) (dg qq 8 (V/2 ^ (512-k)%ll))=dg qq 8 (V/2 ^ (512-k)%ll+V/2 ^ (512-k)%ll):=by
  unfold jY;rw[nu bz,Int.emod_eq_of_lt hR.1 (hlq (by omega))]
 unfold P2;rw[eb,es,Tm hR hb];generalize V/2 ^ (512-k)%ll=R at*;generalize V/2 ^ (512-(k+1))%2=b at*
 have el:gZ (dg qq 8 (2*R+b)) eT=(dg qq 8 (2*R+b-ll),if 2*R+b<ll then 1 else 0):=by
  unfold gZ;rw[D3,nu bz,Int.emod_eq_of_lt (by omega) (hlq (by omega))]
 rw[el]
 by_cases h:2*R+b<ll
 ·rw[if_pos h,if_pos h];rfl
 ·rw[if_neg h,if_neg h];rfl
def xm(w:List Int):List Int:=dg 256 32 (vd qq w%ll)
def Lh(mu:Int→Int→Int×Int)(ad:Int→Int→Int→Int×Int)(x y c o:Int):Int×Int:=
 ((ad o (ad (mu x y).2 c 0).1 0).1,u64.wrap (u64.wrap ((mu x y).1+(ad (mu x y).2 c 0).2)+(ad o (ad (mu x y).2 c 0).1 0).2))
theorem adQ{x y c o:Int}(hx:vV x)(hy:vV y)(hc:vV c)(ho:vV o):vV (Lh bn bt x y c o).1∧vV (Lh bn bt x y c o).2∧(Lh bn bt x y c o).1+qq*(Lh bn bt x y c o).2=o+x*y+c:=by
 unfold Lh;rw[DO hx hy];unfold vV at*;have C1:0≤x*y:=Int.mul_nonneg hx.1 hy.1;have hm1:x*y≤18446744073709551615*18446744073709551615:=Int.mul_le_mul (by omega) (by omega) hy.1 (by decide);simp only;generalize x*y=m at*;have q0:0≤m%18446744073709551616:=by omega
 rw[kI q0 hc.1 (by decide)];simp only;rw[kI ho.1 (by omega) (by decide)];simp only;rw[wrap_u64 (n:=m/18446744073709551616+(m%18446744073709551616+c+0)/18446744073709551616) (by omega) (by omega),wrap_u64 (by omega) (by omega)];unfold qq;omega
def Li(mu:Int→Int→Int×Int)(ad:Int→Int→Int→Int×Int)(a b:List Int)(u:Nat)(j:Nat)(s:Int×List Int):Int×List Int:=
 ((Lh mu ad (a.getD u 0) (b.getD j 0) s.1 (s.2.getD (u+j) 0)).2,s.2.set (u+j) (Lh mu ad (a.getD u 0) (b.getD j 0) s.1 (s.2.getD (u+j) 0)).1)
def adR(mu:Int→Int→Int×Int)(ad:Int→Int→Int→Int×Int)(a b:List Int)(u:Nat)(o:List Int):List Int:=
 (upto (Li mu ad a b u) 0 4 (0,o)).2.set (u+4) (upto (Li mu ad a b u) 0 4 (0,o)).1
structure ai4 (a b o:List Int) (u j:Nat) (s:Int×List Int):Prop where
 len:s.2.length=8
 W1:gD qq s.2
 car:vV s.1
 rest:∀i,u+4≤i→s.2.getD i 0=o.getD i 0
 val:vd qq s.2+s.1*qq ^ (u+j)=vd qq o+a.getD u 0*vd qq (b.take j)*qq ^ u
theorem D4{a b o:List Int}(ha:gD qq a)(hb:gD qq b)(lb:b.length=8){u j:Nat}(hu:u<4)(hj:j<4){s:Int×List Int}(h:ai4 a b o u j s):ai4 a b o u (j+1) (Li bn bt a b u j s):=by
 obtain⟨h1,h2,h3,h4,h5⟩:=h;obtain⟨c,s⟩:=s;simp only at h1 h2 h3 h4 h5;have eV:u+j<s.length:=by omega
 obtain⟨g1,g2,g3⟩:=adQ (gD.getD bz ha u) (gD.getD bz hb j) h3 (gD.getD bz h2 (u+j));unfold Li;simp only;generalize Lh bn bt (a.getD u 0) (b.getD j 0) c (s.getD (u+j) 0)=p at*;refine⟨by rw[List.length_set];exact h1,h2.set g1,g2,fun i hi=>?_,?_⟩
 ·rw[← h4 i hi,List.getD_eq_getElem?_getD,List.getD_eq_getElem?_getD,List.getElem?_set_ne (by omega)]
 ·simp only;rw[BX eV,eC (by omega),show u+(j+1)=(u+j)+1 from by omega,Int.pow_succ];generalize s.getD (u+j) 0=o0 at*;generalize a.getD u 0=x at*;generalize b.getD j 0=y at*
  have e1:x*(vd qq (b.take j)+y*qq ^ j)*qq ^ u=x*vd qq (b.take j)*qq ^ u+x*y*qq ^ (u+j):=by
   rw[Int.mul_add,Int.add_mul,Int.pow_add,Int.mul_comm (qq ^ u),← Int.mul_assoc x y (qq ^ j),Int.mul_assoc (x*y) (qq ^ j)]
  have e2:(p.1+qq*p.2)*qq ^ (u+j)=(o0+x*y+c)*qq ^ (u+j):=by rw[g3]
  have e3:p.2*(qq ^ (u+j)*qq)=qq*p.2*qq ^ (u+j):=by
   rw[Int.mul_comm (qq ^ (u+j)),← Int.mul_assoc,Int.mul_comm p.2]
  rw[e1,e3,Int.sub_mul];rw[Int.add_mul,Int.add_mul (o0+x*y),Int.add_mul o0]at e2;omega
structure ai5 (a b:List Int) (u:Nat) (o:List Int):Prop where
 len:o.length=8
 W1:gD qq o
 rest:∀i,u+4≤i→o.getD i 0=0
 val:vd qq o=vd qq (a.take u)*vd qq (b.take 4)
theorem xn{a b o:List Int}(ha:gD qq a)(hb:gD qq b)(la:a.length=8)(lb:b.length=8){u:Nat}(hu:u<4)(h:ai5 a b u o):ai5 a b (u+1) (adR bn bt a b u o):=by
 have k:=mU (f:=Li bn bt a b u) (ai4 a b o u) (n:=4) (fun j s hj hs=>D4 ha hb lb hu hj hs) 4 0 (0,o) (by omega) ⟨h.len,h.W1,by unfold vV;omega,fun _ _=>rfl,by simp[vd]⟩;unfold adR;generalize upto (Li bn bt a b u) 0 4 (0,o)=s at*;obtain⟨c,s⟩:=s;obtain⟨k1,k2,k3,k4,k5⟩:=k;simp only at k1 k2 k3 k4 k5;simp only;refine⟨by rw[List.length_set];exact k1,k2.set k3,fun i hi=>?_,?_⟩
 ·rw[List.getD_eq_getElem?_getD,List.getElem?_set_ne (by omega),← List.getD_eq_getElem?_getD,k4 i (by omega),h.rest i (by omega)]
 ·have e0:s.getD (u+4) 0=0:=by rw[k4 _ (Nat.le_refl _),h.rest _ (Nat.le_refl _)]
  rw[BX (by omega),e0,Int.sub_zero,show u+4=u+(0+4)from by omega,k5,h.val,eC (l:=a) (by omega),Nat.zero_add,Int.add_mul,Int.mul_assoc (a.getD u 0) (qq ^ u),Int.mul_comm (qq ^ u),Int.mul_assoc]
def mC(a b:List Int):List Int:=dg qq 8 (vd qq (a.take 4)*vd qq (b.take 4))
theorem W2{a b:List Int}(ha:gD qq a)(hb:gD qq b)(la:a.length=8)(lb:b.length=8):upto (adR bn bt a b) 0 4 (List.replicate 8 0)=mC a b:=by
 have h:=mU (f:=adR bn bt a b) (ai5 a b) (n:=4) (fun u o hu ho=>xn ha hb la lb hu ho) 4 0 (List.replicate 8 0) (by omega) ⟨by simp,gD.SJ bz 8,fun i _=>by
  rw[List.getD_eq_getElem?_getD,List.getElem?_replicate];split<;>rfl,by rw[BY];simp[vd]⟩
 exact aoF bz h.W1 h.len h.val
theorem adS(b:List Int):(rR b).length=8∧gD qq (rR b):=⟨cy _ _,oD bz _ _⟩
theorem Tn{b:List Int}(hb:al b)(hl:b.length≤64):vd qq (rR b)=vd 256 b:=by
 unfold rR;have h1:=eS (by decide) (show gD 256 b from hb);have h2:=rQ (by decide) (show gD 256 b from hb);have e:(256:Int) ^ 64=qq ^ 8:=by decide+kernel
 have h3:(256:Int) ^ b.length≤256 ^ 64:=yR (by decide) hl;rw[nu bz,Int.emod_eq_of_lt h1 (by rw[← e];omega)]
theorem Lj{b:List Int}(hb:al b)(hl:b.length=32):vd qq ((rR b).take 4)=vd 256 b:=by
 unfold rR;have h1:=eS (by decide) (show gD 256 b from hb);have h2:=rQ (by decide) (show gD 256 b from hb);have e:(256:Int) ^ 32=qq ^ 4:=by decide+kernel
 rw[hl]at h2;rw[aiY bz (by decide),nu bz,Int.emod_eq_of_lt h1 (by rw[← e];exact h2)]
abbrev cW:aW LV (List Int):=MT .u64 8
abbrev wA:aW (List LV) (List Int×Unit):=ae cW ag
abbrev w2A:aW (List LV) (List Int×List Int×Unit):=ae cW (ae cW ag)
abbrev iW:aW (Option Ev.Item) (List Int):=oJ 204 .u64 8
abbrev iB:aW (Option Ev.Item) (List Int):=oJ 22 .u8 32
abbrev iV(i:Nat):Wk:=.j7 i 0 8 .u64
abbrev nPW(r:List Int×Int):LV:=.cT [.agg [.arr (.int .u64) 8 r.1],.sc (.int .u64 (.sym r.2))]
def okW(w:List Int):Prop:=w.length=8∧gD 18446744073709551616 w
def okB(b:List Int):Prop:=b.length=32∧al b
theorem D5{w:List Int}(h:okW w):List.take 8 (List.drop 0 w)=w:=bU h.1
def eWW(g:List Int→List Int→List Int):ar:=ar.dx [] w2A ag fun x _=>.leaf (some (okW x.1∧okW x.2.1)) (jq .u64 8 (g x.1 x.2.1)) []
def Lk(g:List Int→List Int→List Int×Int):ar:=ar.dx [] w2A ag fun x _=>.leaf (some (okW x.1∧okW x.2.1)) (nPW (g x.1 x.2.1)) []
abbrev wiA:aW (List LV) (List Int×Int×Unit):=ae cW (ae (ah (ay .i64)) ag)
def asm(g:List Int→Int→Int):ar:=ar.dx [] wiA ag fun x _=>.leaf (some (okW x.1∧0≤x.2.1∧x.2.1<512)) (nU (g x.1 x.2.1)) []
def e0W(c:List Int):ar:=ar.dx [] ag ag fun _ _=>.leaf none (jq .u64 8 c) []
def eWB(g:List Int→List Int):ar:=ar.dx [] wA ag fun x _=>.leaf (some (okW x.1)) (jq .u8 32 (g x.1)) []
def eOf(g:List Int→List Int):ar:=ar.dx [some u8] bA ag fun x _=>.leaf (some (al x.1∧x.1.length≤64)) (jq .u64 8 (g x.1)) []
abbrev ai8:Func:=f131
abbrev soC:aW (List LV) (List Int×Int×Int×Unit):=(jk 2 (ak (ah (aP 0 0)) (ak (ah (aP 1 0)) (jk 2 (ae (ah (e9 false false u8)) (ae (ah (ay .i64)) (ae (ah (ay .i64)) (jk 18 ag))))))))
abbrev asp:Wk:=.fr (dK 27 [(2,.an),(3,.an),(6,.an),(7,.sym),(8,.sym)])
abbrev soX:aW (List LV) (Unit):=(jk 2 (ak (ah (aP 0 0)) (ak (ah (aP 1 0)) (jk 23 ag))))
abbrev avS:Wk:=.fr (dK 27 [(2,.an),(3,.an)])
abbrev soH:aW Hp (List Int×List Int×Unit):=ae iW (ae iW ag)
def soW:Exit→List Wk
 | .normal=> [asp,iV 0,iV 1,.auto]
 | .exit 0=> [avS,iV 0,iV 1,.auto]
 |_=> []
theorem aoH(b:List Int)(n i:Int)(r m:List Int):ee Tryz.prog [] [] ai8 0 [] soW ((bD soC soH).wr ((b,n,i,()),(r,m,())))=
 aZ.ite (decide (i<n)) (aZ.need ((0:Int)≤i∧i<(↑b.length:Int)) (aZ.need ((0:Int)≤i64.wrap (i.tdiv (8:Int))∧
 i64.wrap (i.tdiv (8:Int))<(8:Int)) (aZ.need ((0:Int)≤i64.wrap (i.tmod (8:Int)*(8:Int))) (aZ.need ((0:Int)≤
 i64.wrap (i.tdiv (8:Int))∧i64.wrap (i.tdiv (8:Int))<(8:Int)) (aZ.leaf Exit.normal ((bD soC soH).wr ((b,n,i64.wrap
 (i+(1:Int)),PUnit.unit),r,m.set ((0:Nat)+(i64.wrap (i.tdiv (8:Int))).toNat) (bp u64 ((List.take (8:Nat) (List.drop (0
 :Nat) m)).getD (i64.wrap (i.tdiv (8:Int))).toNat (0:Int)) (shl u64 (u64.wrap (b.getD i.toNat (0:Int))) (i64.wrap
 (i.tmod (8:Int)*(8:Int))))),PUnit.unit))))))) (aZ.leaf (Exit.exit (0:Nat)) ((bD soX soH).wr (PUnit.unit,r,m,PUnit.unit))):=by kernel_rfl
def asq(g:List Int→List Int)(x:(List Int×Int×Int×Unit)×List Int×List Int×Unit):aZ:=.need (al x.1.1∧x.1.1.length≤64∧x.1.2.1=x.1.1.length∧x.1.2.2.1=0∧x.2.2.1=List.replicate 8 0) (.leaf (.exit 0) ((bD soX soH).wr ((),(x.2.1,g x.1.1,()))))
theorem alF(k:Nat):i64.wrap ((k:Int).tmod 8*8)=((k%8*8:Nat):Int):=by
 rw[show(k:Int).tmod 8=((k%8:Nat):Int)from alC k 8,ax (by omega) (by omega)];omega
theorem ai9:rR []=List.replicate 8 0:=Tk bz 8
theorem aja(x):Ex Tryz.prog [] (.loop (aV ai8 0)) ((bD soC soH).wr x) (asq rR x):=by
 obtain⟨⟨b,n,i,_⟩,r,m,_⟩:=x;refine Ex.need fun⟨h1,h2,h3,h4,h5⟩=>?_;simp only at h1 h2 h3 h4 h5;subst h3 h4 h5
 have key:=gJ (fn:=ai8) (id:=0) (j:=0) (ws:=soW) (hp:= []) mixed aE (aO.nil _) b.length (fun k (_:Unit)=>(bD soC soH).wr ((b,(b.length:Int),(k:Int),()),(r,rR (b.take k),()))) (fun _=>(bD soX soH).wr ((),(r,rR b,()))) (fun _ u=>u) (fun _ _=>True)
  (fun k o R hk _ hn hx=>?_) (fun _ _ _ _=>trivial) 0 () (by omega) trivial
 ·rw[List.take_zero,ai9]at key;exact key
 rw[aoH];refine⟨fun hb=>?_,fun hb=>?_⟩
 ·have l9:k<b.length:=by have:=of_decide_eq_true hb;omega
  have e1:i64.wrap ((k:Int).tdiv 8)=((k/8:Nat):Int):=kP k 8 (by omega);rw[e1,alF,bU (adS _).1,Int.toNat_natCast,Int.toNat_natCast,Nat.zero_add,ai0 h1 h2 l9,dY k (by omega)];exact⟨by omega,by omega,by omega,by omega,hn l9⟩
 ·have:k=b.length:=by have:=of_decide_eq_false hb;omega
  subst this;have:=hx rfl;rw[List.take_length];exact this
abbrev asr(g:List Int→List Int):fq:= [(0,fF (bD soC soH) 0 [asp,iV 0,iV 1,.auto] (asq g))]
abbrev avT:ar:=eOf rR
theorem adT(g:List Int→List Int)(b:List Int):aT Tryz.prog [] (asr g) ai8 (bA.wr (b,())) [] [.fr [.sym],.mT 0 0 8 .u64,.auto]=
 End.need (al b∧b.length≤(64:Nat)∧(↑b.length:Int)=(↑b.length:Int)∧(0:Int)=(0:Int)∧ [(0:Int),(0:Int),(0:Int),(0:
 Int),(0:Int),(0:Int),(0:Int),(0:Int)]=List.replicate (8:Nat) (0:Int)) (End.leaf (LV.one (VV.agg [SV.arr (Ty.int u64) (8:
 Nat) (g b)])) []):=by kernel_rfl
theorem P3:avT.Ok Tryz.prog 131:=by
 refine(ar.br call131 fun x_ y_ Q H_=>?_).sym;obtain⟨b,_⟩:=x_;obtain⟨hn,hq⟩:=H_;have hn:al b∧b.length≤64:=hn;refine(aA mixed aE func131 rfl (LT:=asr rR) (ks:= [.fr [.sym],.mT 0 0 8 .u64,.auto]) (aO.cU (nJ rfl (cN (hp:= []) aja) oI))).use (D:= []) ?_ hq;show(aT _ _ _ _ (bA.wr (b,())) [] _).sat _;rw[adT];exact⟨⟨hn.1,hn.2,rfl,rfl,rfl⟩,rfl,rfl⟩
abbrev ajb:Func:=f188
abbrev byC:aW (List LV) (Int×Unit):=(jk 1 (ak (ah (aP 0 0)) (ak (ah (aP 1 0)) (ak (ah (aP 2 0)) (jk 1 (ae (ah (ay .i64)) (jk 15 ag)))))))
abbrev ast:Wk:=.fr (dK 21 [(1,.an),(2,.an),(3,.an),(5,.sym)])
abbrev byX:aW (List LV) (Unit):=(jk 2 (ak (ah (aP 1 0)) (ak (ah (aP 2 0)) (jk 17 ag))))
abbrev avV:Wk:=.fr (dK 21 [(2,.an),(3,.an)])
abbrev byH:aW Hp (List Int×List Int×List Int×Unit):=ae iW (ae iB (ae iB ag))
def byW:Exit→List Wk
 | .normal=> [ast,iV 0,.j7 1 0 32 .u8,.j7 2 0 32 .u8,.auto]
 | .exit 0=> [avV,iV 0,.j7 1 0 32 .u8,.j7 2 0 32 .u8]
 |_=> []
theorem aoI(i:Int)(w r o:List Int):ee Tryz.prog [] [] ajb 0 [] byW ((bD byC byH).wr ((i,()),(w,r,o,())))=
 aZ.ite (decide (i<(32:Int))) (aZ.need ((0:Int)≤i64.wrap (i.tdiv (8:Int))∧i64.wrap (i.tdiv (8:Int))<(8:Int))
 (aZ.need ((0:Int)≤i64.wrap (i.tmod (8:Int)*(8:Int))) (aZ.need ((0:Int)≤i∧i<(32:Int)) (aZ.leaf Exit.normal ((bD byC
 byH).wr ((i64.wrap (i+(1:Int)),PUnit.unit),w,r,o.set ((0:Nat)+i.toNat) (IntKind.u8.wrap (shr u64 ((List.take (8:Nat)
 (List.drop (0:Nat) w)).getD (i64.wrap (i.tdiv (8:Int))).toNat (0:Int)) (i64.wrap (i.tmod (8:Int)*(8:Int))))),
 PUnit.unit)))))) (aZ.leaf (Exit.exit (0:Nat)) ((bD byX byH).wr (PUnit.unit,w,r,o,PUnit.unit))):=by kernel_rfl
def asu(g:List Int→List Int)(x:(Int×Unit)×List Int×List Int×List Int×Unit):aZ:=.need (x.1.1=0∧okW x.2.1∧x.2.2.2.1.length=32) (.leaf (.exit 0) ((bD byX byH).wr ((),(x.2.1,x.2.2.1,g x.2.1,()))))
theorem ajc(x):Ex Tryz.prog [] (.loop (aV ajb 0)) ((bD byC byH).wr x) (asu xl x):=by
 obtain⟨⟨i,_⟩,w,r,o,_⟩:=x;refine Ex.need fun⟨h1,h2,h3⟩=>?_;simp only at h1 h2 h3;subst h1
 have key:=gJ (fn:=ajb) (id:=0) (j:=0) (ws:=byW) (hp:= []) mixed aE (aO.nil _) 32 (fun k o=>(bD byC byH).wr (((k:Int),()),(w,r,o,()))) (fun o=>(bD byX byH).wr ((),(w,r,o,()))) (fun k o=>o.set k (vd qq w/256 ^ k%256)) (fun _ _=>True)
  (fun k o R hk _ hn hx=>?_) (fun _ _ _ _=>trivial) 0 o (by omega) trivial
 ·rw[Nat.sub_zero,UM (fun k=>vd qq w/256 ^ k%256) h3,aoG (by decide)]at key;exact key
 rw[aoI];refine⟨fun hb=>?_,fun hb=>?_⟩
 ·have l9:k<32:=by have:=of_decide_eq_true hb;omega
  have e1:i64.wrap ((k:Int).tdiv 8)=((k/8:Nat):Int):=kP k 8 (by omega);rw[e1,alF,D5 h2,Int.toNat_natCast,Int.toNat_natCast,Nat.zero_add,adN h2.2 h2.1 (by omega),dY k (by omega)];exact⟨by omega,by omega,by omega,hn l9⟩
 ·have:k=32:=by have:=of_decide_eq_false hb;omega
  exact hx this
abbrev asv(g:List Int→List Int):fq:= [(0,fF (bD byC byH) 0 [ast,iV 0,.j7 1 0 32 .u8,.j7 2 0 32 .u8,.auto] (asu g))]
abbrev ajd:ar:=eWB xl
theorem Ll(g:List Int→List Int)(w:List Int):aT Tryz.prog [] (asv g) ajb (wA.wr (w,())) [] kR=
 End.need ((0:Int)=(0:Int)∧okW w∧(32:Nat)=(32:Nat)) (End.leaf (LV.one (VV.agg [SV.arr (Ty.int IntKind.u8) (32:Nat) (g w)])) []):=by kernel_rfl
theorem W3:ajd.Ok Tryz.prog 188:=by
 refine(ar.br call188 fun x_ y_ Q H_=>?_).sym;obtain⟨w,_⟩:=x_;obtain⟨hn,hq⟩:=H_;have hn:okW w:=hn;refine(aA mixed aE func188 rfl (LT:=asv xl) (ks:=kR) (aO.cU (nJ rfl (cN (hp:= []) ajc) oI))).use (D:= []) ?_ hq;show(aT _ _ _ _ (wA.wr (w,())) [] _).sat _;rw[Ll];exact⟨⟨rfl,hn,rfl⟩,rfl,rfl⟩
abbrev leFn:Func:=f186
abbrev leC:aW (List LV) (Int×Int×Unit):=(jk 2 (ak (ah (aP 0 0)) (ak (ah (aP 1 0)) (ak (ah (aP 2 0)) (jk 1 (ae (ah (ay .u64)) (jk 1 (ae (ah (ay .i64)) (jk 18 ag)))))))))
abbrev asx:Wk:=.fr (dK 27 [(2,.an),(3,.an),(4,.an),(6,.sym),(8,.sym)])
abbrev leX:aW (List LV) (Int×Unit):=(jk 2 (ak (ah (aP 0 0)) (jk 1 (ak (ah (aP 2 0)) (jk 1 (ae (ah (ay .u64)) (jk 20 ag)))))))
abbrev avX:Wk:=.fr (dK 27 [(2,.an),(4,.an),(6,.sym)])
abbrev Md:aW Hp (List Int×List Int×List Int×Unit):=ae iW (ae iW (ae iW ag))
def leW:Exit→List Wk
 | .normal=> [asx,iV 0,iV 1,iV 2,.auto]
 | .exit 0=> [avX,iV 0,iV 1,iV 2]
 |_=> []
theorem aoJ(sb:Int→Int→Int→Int×Int)(c i:Int)(w x r:List Int):ee Tryz.prog [(264,(lT sb).sym)] [] leFn 0 [] leW ((bD leC Md).wr ((c,i,()),(w,x,r,())))=
 aZ.ite (decide (i<(8:Int))) (aZ.need ((0:Int)≤i∧i<(8:Int)) (aZ.need ((0:Int)≤i∧i<(8:Int)) (aZ.need ((0:Int)≤c∧c≤(1
 :Int)) (aZ.need ((0:Int)≤i∧i<(8:Int)) (aZ.leaf Exit.normal ((bD leC Md).wr (((sb ((List.take (8:Nat) (List.drop (0:Nat) w)).getD
 i.toNat (0:Int)) ((List.take (8:Nat) (List.drop (0:Nat) x)).getD i.toNat (0:Int)) c).snd,i64.wrap (i+(1:Int)),PUnit.unit),w.set
 ((0:Nat)+i.toNat) (sb ((List.take (8:Nat) (List.drop (0:Nat) w)).getD i.toNat (0:Int)) ((List.take (8:Nat) (List.drop (0:Nat) x)).getD
 i.toNat (0:Int)) c).fst,x,r,PUnit.unit))))))) (aZ.leaf (Exit.exit (0:Nat)) ((bD leX Md).wr ((c,PUnit.unit),w,x,r,PUnit.unit))):=by kernel_rfl
def asy(g:List Int→List Int→List Int×Int)(x:(Int×Int×Unit)×List Int×List Int×List Int×Unit):aZ:=.need (x.1.1=0∧x.1.2.1=0∧okW x.2.1∧okW x.2.2.1) (.leaf (.exit 0) ((bD leX Md).wr (((g x.2.1 x.2.2.1).2,()),((g x.2.1 x.2.2.1).1,x.2.2.1,x.2.2.2.1,()))))
abbrev aoK:ar:=(lT nd).sym
theorem adU:aoK.Ok Tryz.prog 264:=(O6 func264 (by kernel_rfl) (by kernel_rfl) (by kernel_rfl) (by kernel_rfl) rfl).sym
theorem Lm:∀p∈ [(264,(lT nd).sym)],p.2.Ok Tryz.prog p.1:=aj adU aE
theorem aje(x):Ex Tryz.prog [] (.loop (aV leFn 0)) ((bD leC Md).wr x) (asy gZ x):=by
 obtain⟨⟨c,i,_⟩,w,x,r,_⟩:=x;refine Ex.need fun⟨h1,h2,h3,h4⟩=>?_;simp only at h1 h2 h3 h4;subst h1 h2
 have key:=gJ (fn:=leFn) (id:=0) (j:=0) (ws:=leW) (hp:= []) mixed Lm (aO.nil _) 8 (fun k (o:List Int×Int)=>(bD leC Md).wr ((o.2,(k:Int),()),(o.1,x,r,()))) (fun(o:List Int×Int)=>(bD leX Md).wr ((o.2,()),(o.1,x,r,()))) (D0 nd x) (Tl w x)
  (fun k o R hk hi hn hx=>?_) (fun k o hk hi=>D1 h3.2 h4.2 h3.1 h4.1 hk hi) 0 (w,0) (by omega) ⟨⟨h3.1,h3.2,fun _ _=>rfl⟩,.inl rfl,by simp[vd]⟩
 ·rw[Nat.sub_zero,adO h3.2 h4.2 h3.1 h4.1]at key;exact key
 rw[aoJ nd];refine⟨fun hb=>?_,fun hb=>?_⟩
 ·have l9:k<8:=by have:=of_decide_eq_true hb;omega
  rw[bU hi.1.len,D5 h4,Int.toNat_natCast,Nat.zero_add,dY k (by omega)];exact⟨by omega,by omega,(by rcases hi.2.1 with e|e<;>rw[e]<;>decide),by omega,hn l9⟩
 ·have:k=8:=by have:=of_decide_eq_false hb;omega
  exact hx this
abbrev asz(g:List Int→List Int→List Int×Int):fq:= [(0,fF (bD leC Md) 0 [asx,iV 0,iV 1,iV 2,.auto] (asy g))]
abbrev aoL:ar:=Lk gZ
theorem P4(sb:Int→Int→Int→Int×Int)(g:List Int→List Int→List Int×Int)(w x:List Int):aT Tryz.prog [(264,(lT sb).sym)] (asz g) leFn (w2A.wr (w,x,())) [] [.fr [.sym],.mT 0 0 8 .u64,.auto]=
 End.need ((0:Int)=(0:Int)∧(0:Int)=(0:Int)∧okW w∧okW x) (End.leaf (LV.cT [VV.agg [SV.arr (Ty.int u64) (8:Nat) (g w x).fst],
 VV.sc (SV.int u64 (SI.sym (g w x).snd))]) []):=by kernel_rfl
theorem Ln:aoL.Ok Tryz.prog 186:=by
 refine(ar.br call186 fun x_ y_ Q H_=>?_).sym;obtain⟨w,x,_⟩:=x_;obtain⟨hn,hq⟩:=H_;have hn:okW w∧okW x:=hn;refine(aA mixed Lm func186 rfl (LT:=asz gZ) (ks:= [.fr [.sym],.mT 0 0 8 .u64,.auto]) (aO.cU (nJ rfl (cN (hp:= []) aje) oI))).use (D:= []) ?_ hq;show(aT _ _ _ _ (w2A.wr (w,x,())) [] _).sat _;rw[P4 nd];exact⟨⟨rfl,rfl,hn.1,hn.2⟩,rfl,rfl⟩
abbrev ajf:Func:=f139
abbrev anC:aW (List LV) (Int×Int×Unit):=(jk 2 (ak (ah (aP 0 0)) (ak (ah (aP 1 0)) (ak (ah (aP 2 0)) (ae (ah (ay .u64)) (jk 1 (ae (ah (ay .i64)) (jk 17 ag))))))))
abbrev asB:Wk:=.fr (dK 25 [(2,.an),(3,.an),(4,.an),(5,.sym),(7,.sym)])
abbrev anX:aW (List LV) (Unit):=(jk 2 (ak (ah (aP 0 0)) (jk 1 (ak (ah (aP 2 0)) (jk 20 ag)))))
abbrev avZ:Wk:=.fr (dK 25 [(2,.an),(4,.an)])
def anW:Exit→List Wk
 | .normal=> [asB,iV 0,iV 1,iV 2,.auto]
 | .exit 0=> [avZ,iV 0,iV 1,iV 2]
 |_=> []
theorem aoM(ad:Int→Int→Int→Int×Int)(c i:Int)(w x r:List Int):ee Tryz.prog [(201,(lT ad).sym)] [] ajf 0 [] anW ((bD anC Md).wr ((c,i,()),(w,x,r,())))=
 aZ.ite (decide (i<(8:Int))) (aZ.need ((0:Int)≤i∧i<(8:Int)) (aZ.need ((0:Int)≤i∧i<(8:Int)) (aZ.need ((0:Int)≤c∧c≤(1
 :Int)) (aZ.need ((0:Int)≤i∧i<(8:Int)) (aZ.leaf Exit.normal ((bD anC Md).wr (((ad ((List.take (8:Nat) (List.drop (0:Nat) w)).getD
 i.toNat (0:Int)) ((List.take (8:Nat) (List.drop (0:Nat) x)).getD i.toNat (0:Int)) c).snd,i64.wrap (i+(1:Int)),PUnit.unit),w.set
 ((0:Nat)+i.toNat) (ad ((List.take (8:Nat) (List.drop (0:Nat) w)).getD i.toNat (0:Int)) ((List.take (8:Nat) (List.drop (0:Nat) x)).getD
 i.toNat (0:Int)) c).fst,x,r,PUnit.unit))))))) (aZ.leaf (Exit.exit (0:Nat)) ((bD anX Md).wr (PUnit.unit,w,x,r,PUnit.unit))):=by kernel_rfl
def asC(g:List Int→List Int→List Int)(x:(Int×Int×Unit)×List Int×List Int×List Int×Unit):aZ:=.need (x.1.1=0∧x.1.2.1=0∧okW x.2.1∧okW x.2.2.1) (.leaf (.exit 0) ((bD anX Md).wr ((),(g x.2.1 x.2.2.1,x.2.2.1,x.2.2.2.1,()))))
theorem Lo:∀p∈ [(201,(lT bt).sym)],p.2.Ok Tryz.prog p.1:=aj BK aE
theorem ajg(x):Ex Tryz.prog [] (.loop (aV ajf 0)) ((bD anC Md).wr x) (asC jY x):=by
 obtain⟨⟨c,i,_⟩,w,x,r,_⟩:=x;refine Ex.need fun⟨h1,h2,h3,h4⟩=>?_;simp only at h1 h2 h3 h4;subst h1 h2
 have key:=gJ (fn:=ajf) (id:=0) (j:=0) (ws:=anW) (hp:= []) mixed Lo (aO.nil _) 8 (fun k (o:List Int×Int)=>(bD anC Md).wr ((o.2,(k:Int),()),(o.1,x,r,()))) (fun(o:List Int×Int)=>(bD anX Md).wr ((),(o.1,x,r,()))) (D2 bt x) (ai1 w x)
  (fun k o R hk hi hn hx=>?_) (fun k o hk hi=>Le h3.2 h4.2 h3.1 h4.1 hk hi) 0 (w,0) (by omega) ⟨⟨h3.1,h3.2,fun _ _=>rfl⟩,.inl rfl,by simp[vd]⟩
 ·rw[Nat.sub_zero,ai2 h3.2 h4.2 h3.1 h4.1]at key;exact key
 rw[aoM bt];refine⟨fun hb=>?_,fun hb=>?_⟩
 ·have l9:k<8:=by have:=of_decide_eq_true hb;omega
  rw[bU hi.1.len,D5 h4,Int.toNat_natCast,Nat.zero_add,dY k (by omega)];exact⟨by omega,by omega,(by rcases hi.2.1 with e|e<;>rw[e]<;>decide),by omega,hn l9⟩
 ·have:k=8:=by have:=of_decide_eq_false hb;omega
  exact hx this
abbrev asD(g:List Int→List Int→List Int):fq:= [(0,fF (bD anC Md) 0 [asB,iV 0,iV 1,iV 2,.auto] (asC g))]
abbrev asE:ar:=eWW jY
theorem W4(ad:Int→Int→Int→Int×Int)(g:List Int→List Int→List Int)(w x:List Int):aT Tryz.prog [(201,(lT ad).sym)] (asD g) ajf (w2A.wr (w,x,())) [] [.fr [.sym],.mT 0 0 8 .u64,.auto]=
 End.need ((0:Int)=(0:Int)∧(0:Int)=(0:Int)∧okW w∧okW x) (End.leaf (LV.one (VV.agg [SV.arr (Ty.int u64) (8:Nat) (g w x)]))
 []):=by kernel_rfl
theorem To:asE.Ok Tryz.prog 139:=by
 refine(ar.br call139 fun x_ y_ Q H_=>?_).sym;obtain⟨w,x,_⟩:=x_;obtain⟨hn,hq⟩:=H_;have hn:okW w∧okW x:=hn;refine(aA mixed Lo func139 rfl (LT:=asD jY) (ks:= [.fr [.sym],.mT 0 0 8 .u64,.auto]) (aO.cU (nJ rfl (cN (hp:= []) ajg) oI))).use (D:= []) ?_ hq;show(aT _ _ _ _ (w2A.wr (w,x,())) [] _).sat _;rw[W4 bt];exact⟨⟨rfl,rfl,hn.1,hn.2⟩,rfl,rfl⟩
abbrev aoN:ar:=asm ob
theorem P5(w:List Int)(i:Int):aT Tryz.prog [] [] f185 (wiA.wr (w,i,())) [] kK=
 End.need ((0:Int)≤i64.wrap (i.tdiv (64:Int))∧i64.wrap (i.tdiv (64:Int))<(8:Int)) (End.need ((0:Int)≤i.tmod (64:
 Int)) (End.leaf (LV.one (VV.sc (SV.int u64 (SI.sym (bg u64 (shr u64 ((List.take (8:Nat) (List.drop (0:Nat) w)).getD
 (i64.wrap (i.tdiv (64:Int))).toNat (0:Int)) (i.tmod (64:Int))) (1:Int)))))) [])):=by kernel_rfl
theorem adV:aoN.Ok Tryz.prog 185:=by
 refine(ar.br call185 fun x_ y_ Q H_=>?_).sym;obtain⟨w,i,_⟩:=x_;obtain⟨hn,hq⟩:=H_;have hn:okW w∧0≤i∧i<512:=hn;refine(aA mixed aE func185 rfl (LT:= []) (ks:=kK) (aO.nil _)).use (D:= []) ?_ hq;show(aT _ _ _ _ (wiA.wr (w,i,())) [] _).sat _;rw[P5];obtain⟨hw,h0,h1⟩:=hn;obtain⟨k,rfl⟩:=Int.eq_ofNat_of_zero_le h0;have hk:k<512:=by omega
 have e1:i64.wrap ((k:Int).tdiv 64)=((k/64:Nat):Int):=kP k 64 (by omega);rw[e1,show(k:Int).tmod 64=((k%64:Nat):Int)from alC k 64,D5 hw,Int.toNat_natCast,W0 hw.2 hw.1 hk];exact⟨by omega,by omega,rfl,rfl⟩
abbrev ajh:ar:=e0W eT
theorem Lp:aT Tryz.prog [] [] f187 [] [] [.fr [.sym],.mT 0 0 8 .u64,.auto]= .leaf (jq .u64 8 eT) []:=by kernel_rfl
theorem D6:ajh.Ok Tryz.prog 187:=by
 refine(ar.br call187 fun x_ y_ Q H_=>?_).sym;refine(aA mixed aE func187 rfl (LT:= []) (ks:= [.fr [.sym],.mT 0 0 8 .u64,.auto]) (aO.nil _)).use (D:= []) ?_ H_.2;show(aT _ _ _ _ [] [] _).sat _;rw[Lp];exact⟨rfl,rfl⟩
abbrev aji:Func:=f132
abbrev reC:aW (List LV) (Int×Unit):=(jk 1 (ak (ah (aP 0 0)) (ak (ah (aP 1 0)) (ak (ah (aP 2 0)) (ae (ah (ay .i64)) (jk 27 ag))))))
abbrev asF:Wk:=.fr (dK 32 [(1,.an),(2,.an),(3,.an),(4,.sym)])
abbrev reX:aW (List LV) (Unit):=(jk 2 (ak (ah (aP 1 0)) (ak (ah (aP 2 0)) (jk 28 ag))))
abbrev av1:Wk:=.fr (dK 32 [(2,.an),(3,.an)])
abbrev reH:aW Hp (List Int×List Int×List Int×Unit):=ae iW (ae iB (ae iW ag))
def reW:Exit→List Wk
 | .normal=> [asF,iV 0,.j7 1 0 32 .u8,iV 2,.auto]
 | .exit 0=> [av1,iV 0,.j7 1 0 32 .u8,iV 2]
 |_=> []
abbrev adW(and:List Int→List Int→List Int)(less:List Int→List Int→List Int×Int)(bit:List Int→Int→Int)(o:List Int):List (FuncId×ar):= [(139,eWW and),(185,asm bit),(186,Lk less),(187,e0W o)]
theorem aoO(and:List Int→List Int→List Int)(less:List Int→List Int→List Int×Int)(bit:List Int→Int→Int)(o:List Int)(i:Int)(w b r:List Int):ee Tryz.prog (adW and less bit o) [] aji 0 [] reW ((bD reC reH).wr ((i,()),(w,b,r,())))=
 aZ.ite (decide ((0:Int)≤i)) (aZ.need (okW r∧okW r) (aZ.need (okW w∧(0:Int)≤i∧i<(512:Int)) (aZ.need (okW ((and r r).set (0:Nat)
 (bp u64 ((and r r).getD (0:Nat) (0:Int)) (bit w i)))∧okW o) (aZ.ite ((less ((and r r).set (0:Nat) (bp u64 ((and r
 r).getD (0:Nat) (0:Int)) (bit w i))) o).snd==(0:Int)) (aZ.leaf Exit.normal ((bD reC reH).wr ((i64.wrap (i-(1:Int)),PUnit.unit),
 w,b,(less ((and r r).set (0:Nat) (bp u64 ((and r r).getD (0:Nat) (0:Int)) (bit w i))) o).fst,PUnit.unit))) (aZ.leaf Exit.normal
 ((bD reC reH).wr ((i64.wrap (i-(1:Int)),PUnit.unit),w,b,(and r r).set (0:Nat) (bp u64 ((and r r).getD (0:Nat) (0:
 Int)) (bit w i)),PUnit.unit))))))) (aZ.leaf (Exit.exit (0:Nat)) ((bD reX reH).wr (PUnit.unit,w,b,r,PUnit.unit))):=by kernel_rfl
theorem Lq:∀p∈adW jY gZ ob eT,p.2.Ok Tryz.prog p.1:=aj To (aj adV (aj Ln (aj D6 aE)))
def asG(g:List Int→List Int)(x:(Int×Unit)×List Int×List Int×List Int×Unit):aZ:=.need (x.1.1=511∧okW x.2.1∧x.2.2.2.1=List.replicate 8 0) (.leaf (.exit 0) ((bD reX reH).wr ((),(x.2.1,x.2.2.1,g x.2.1,()))))
def Lr(w:List Int):List Int:=dg qq 8 (vd qq w%ll)
def gr(V:Int)(k:Nat):List Int:=dg qq 8 (V/2 ^ (512-k)%ll)
theorem W5(V:Int)(k:Nat)(hk:k<512)(b:Int)(hb:0≤b∧b<2):okW (gr V k)∧okW (mB (jY (gr V k) (gr V k)) b):=by
 refine⟨⟨cy _ _,oD bz _ _⟩,?_⟩;have hR:0≤V/2 ^ (512-k)%ll∧V/2 ^ (512-k)%ll<ll:=⟨Int.emod_nonneg _ (by have:=kc;omega),Int.emod_lt_of_pos _ kc⟩
 have es:jY (gr V k) (gr V k)=dg qq 8 (V/2 ^ (512-k)%ll+V/2 ^ (512-k)%ll):=by
  unfold jY gr;rw[nu bz,Int.emod_eq_of_lt hR.1 (Int.lt_of_lt_of_le (Int.lt_trans (by omega) Lg) qq8)]
 rw[es,Tm hR hb];exact⟨cy _ _,oD bz _ _⟩
theorem ajk(x):Ex Tryz.prog [] (.loop (aV aji 0)) ((bD reC reH).wr x) (asG Lr x):=by
 obtain⟨⟨i,_⟩,w,b,r,_⟩:=x;refine Ex.need fun⟨h1,h2,h3⟩=>?_;simp only at h1 h2 h3;subst h1 h3;have hw0:=eS bz h2.2;have hw1:=rQ bz h2.2;rw[h2.1]at hw1
 have key:=gJ (fn:=aji) (id:=0) (j:=0) (ws:=reW) (hp:= []) mixed Lq (aO.nil _) 512 (fun k (_:Unit)=>(bD reC reH).wr ((511-(k:Int),()),(w,b,gr (vd qq w) k,()))) (fun _=>(bD reX reH).wr ((),(w,b,Lr w,()))) (fun _ u=>u) (fun _ _=>True)
  (fun k o R hk _ hn hx=>?_) (fun _ _ _ _=>trivial) 0 () (by omega) trivial
 ·have e:gr (vd qq w) 0=List.replicate 8 0:=by
   unfold gr;have e:qq ^ 8=2 ^ 512:=(by decide+kernel);rw[Nat.sub_zero,Int.ediv_eq_zero_of_lt hw0 (by rw[← e];exact hw1),Int.zero_emod,Tk bz]
  rw[e]at key;exact key
 rw[aoO];refine⟨fun hb=>?_,fun hb=>?_⟩
 ·have l9:k<512:=by have:=of_decide_eq_true hb;omega
  have e3:i64.wrap ((511-(k:Int))-1)=511-((k+1:Nat):Int):=by rw[ax (by omega) (by omega)];omega
  obtain⟨g1,g2⟩:=W5 (vd qq w) k l9 (ob w (511-(k:Int))) (ai3 _ _);have hs:P2 jY gZ ob eT w k (gr (vd qq w) k)=gr (vd qq w) (k+1):=adP rfl l9;have vS:=hn l9;rw[e3];refine⟨⟨g1,g1⟩,⟨h2,by omega,by omega⟩,⟨g2,Lf⟩,fun hc=>?_,fun hc=>?_⟩
  ·have:P2 jY gZ ob eT w k (gr (vd qq w) k)=(gZ (mB (jY (gr (vd qq w) k) (gr (vd qq w) k)) (ob w (511-(k:Int)))) eT).1:=by
    have rW:((gZ (mB (jY (gr (vd qq w) k) (gr (vd qq w) k)) (ob w (511-(k:Int)))) eT).2==0)=true:=hc;unfold P2;rw[rW];rfl
   rw[← hs,this]at vS;exact vS
  ·have:P2 jY gZ ob eT w k (gr (vd qq w) k)=mB (jY (gr (vd qq w) k) (gr (vd qq w) k)) (ob w (511-(k:Int))):=by
    have rW:((gZ (mB (jY (gr (vd qq w) k) (gr (vd qq w) k)) (ob w (511-(k:Int)))) eT).2==0)=false:=hc;unfold P2;rw[rW];rfl
   rw[← hs,this]at vS;exact vS
 ·have:k=512:=by have:=of_decide_eq_false hb;omega
  subst this;have:=hx rfl;have e:gr (vd qq w) 512=Lr w:=by unfold gr Lr;rw[Nat.sub_self,Int.pow_zero,Int.ediv_one]
  rw[e];exact this
abbrev asH(g:List Int→List Int):fq:= [(0,fF (bD reC reH) 0 [asF,iV 0,.j7 1 0 32 .u8,iV 2,.auto] (asG g))]
abbrev asI:ar:=eWB xm
abbrev adX(and:List Int→List Int→List Int)(less:List Int→List Int→List Int×Int)(bit:List Int→Int→Int)(o:List Int)(byt:List Int→List Int):List (FuncId×ar):=(188,eWB byt)::adW and less bit o
theorem W6:∀p∈adX jY gZ ob eT xl,p.2.Ok Tryz.prog p.1:=aj W3 Lq
theorem W7(and:List Int→List Int→List Int)(less:List Int→List Int→List Int×Int)(bit:List Int→Int→Int)(o:List Int)(byt:List Int→List Int)(g:List Int→List Int)(w:List Int):aT Tryz.prog (adX and less bit o byt) (asH g) aji (wA.wr (w,())) [] kR=
 End.need ((511:Int)=(511:Int)∧okW w∧ [(0:Int),(0:Int),(0:Int),(0:Int),(0:Int),(0:Int),(0:Int),(0:Int)]=List.replicate
 (8:Nat) (0:Int)) (End.need (okW (g w)) (End.leaf (LV.one (VV.agg [SV.arr (Ty.int IntKind.u8) (32:Nat) (byt (g w))])) [])):=by kernel_rfl
theorem ajl(w:List Int):okW (Lr w):=⟨cy _ _,oD bz _ _⟩
theorem aoP(w:List Int):xl (Lr w)=xm w:=by
 unfold xl xm Lr;rw[nu bz,Int.emod_eq_of_lt (Int.emod_nonneg _ (by have:=kc;omega)) (Int.lt_of_lt_of_le (Int.lt_trans (Int.emod_lt_of_pos _ kc) (by have:=Lg;have:=kc;omega)) qq8)]
theorem Tp:asI.Ok Tryz.prog 132:=by
 refine(ar.br call132 fun x_ y_ Q H_=>?_).sym;obtain⟨w,_⟩:=x_;obtain⟨hn,hq⟩:=H_;have hn:okW w:=hn;refine(aA mixed W6 func132 rfl (LT:=asH Lr) (ks:=kR) (aO.cU (nJ rfl (cN (hp:= []) ajk) oI))).use (D:= []) ?_ hq;show(aT _ _ _ _ (wA.wr (w,())) [] _).sat _;rw[W7];refine⟨⟨rfl,hn,rfl⟩,ajl w,?_,rfl⟩;rw[aoP]
abbrev G9:Func:=f138
abbrev tjC:aW (List LV) (Int×Int×Int×Int×Unit):=(jk 2 (ak (ah (aP 0 0)) (ak (ah (aP 1 0)) (ak (ah (aP 2 0)) (ak (ah (aP 3 0)) (ae (ah (ay .i64)) (ae (ah (ay .u64)) (jk 4 (ae (ah (ay .i64)) (jk 2 (ae (ah (ay .i64)) (jk 45 ag))))))))))))
abbrev asK:Wk:=.fr (dK 61 [(2,.an),(3,.an),(4,.an),(5,.an),(6,.sym),(7,.sym),(12,.sym),(15,.sym)])
abbrev tjX:aW (List LV) (Int×Int×Int×Unit):=(jk 2 (ak (ah (aP 0 0)) (ak (ah (aP 1 0)) (ak (ah (aP 2 0)) (ak (ah (aP 3 0)) (ae (ah (ay .i64)) (ae (ah (ay .u64)) (jk 4 (ae (ah (ay .i64)) (jk 48 ag))))))))))
abbrev av3:Wk:=.fr (dK 61 [(2,.an),(3,.an),(4,.an),(5,.an),(6,.sym),(7,.sym),(12,.sym)])
abbrev tiC:aW (List LV) (Int×Unit):=(jk 2 (ak (ah (aP 0 0)) (ak (ah (aP 1 0)) (ak (ah (aP 2 0)) (ak (ah (aP 3 0)) (jk 6 (ae (ah (ay .i64)) (jk 48 ag))))))))
abbrev asM:Wk:=.fr (dK 61 [(2,.an),(3,.an),(4,.an),(5,.an),(12,.sym)])
abbrev tiX:aW (List LV) (Unit):=(jk 4 (ak (ah (aP 2 0)) (ak (ah (aP 3 0)) (jk 55 ag))))
abbrev av5:Wk:=.fr (dK 61 [(4,.an),(5,.an)])
abbrev Me:aW Hp (List Int×List Int×List Int×List Int×Unit):=ae iW (ae iW (ae iW (ae iW ag)))
def tjW:Exit→List Wk
 | .normal=> [asK,iV 0,iV 1,iV 2,iV 3,.auto]
 | .exit 2=> [av3,iV 0,iV 1,iV 2,iV 3,.auto]
 |_=> []
def aoQ(mu:Int→Int→Int×Int):ar:=ar.dx [] (ae (ah (ay .u64)) (ae (ah (ay .u64)) ag)) ag fun x _=>.leaf none (.cT [.sc (.int .u64 (.sym (mu x.1 x.2.1).1)),.sc (.int .u64 (.sym (mu x.1 x.2.1).2))]) []
abbrev Tq(ad:Int→Int→Int→Int×Int)(mu:Int→Int→Int×Int):List (FuncId×ar):= [(201,(lT ad).sym),(200,aoQ mu)]
theorem aoR(ad:Int→Int→Int→Int×Int)(mu:Int→Int→Int×Int)(u c i j:Int)(a b r o:List Int):ee Tryz.prog (Tq ad mu) [] G9 2 [] tjW ((bD tjC Me).wr ((u,c,i,j,()),(a,b,r,o,())))=
 aZ.ite (decide (j<(4:Int))) (aZ.need ((0:Int)≤u∧u<(8:Int)) (aZ.need ((0:Int)≤j∧j<(8:Int)) (aZ.need ((0:Int)≤(0:Int)∧
 (0:Int)≤(1:Int)) (aZ.need ((0:Int)≤i64.wrap (u+j)∧i64.wrap (u+j)<(8:Int)) (aZ.need ((0:Int)≤(0:Int)∧(0:
 Int)≤(1:Int)) (aZ.need ((0:Int)≤i64.wrap (u+j)∧i64.wrap (u+j)<(8:Int)) (aZ.leaf Exit.normal ((bD tjC Me).wr ((u,
 u64.wrap (u64.wrap ((mu ((List.take (8:Nat) (List.drop (0:Nat) a)).getD u.toNat (0:Int)) ((List.take (8:Nat) (List.drop (0:
 Nat) b)).getD j.toNat (0:Int))).fst+(ad (mu ((List.take (8:Nat) (List.drop (0:Nat) a)).getD u.toNat (0:Int)) ((List.take (8:Nat) (List.drop
 (0:Nat) b)).getD j.toNat (0:Int))).snd c (0:Int)).snd)+(ad ((List.take (8:Nat) (List.drop (0:Nat) o)).getD (i64.wrap (u+j)).toNat
 (0:Int)) (ad (mu ((List.take (8:Nat) (List.drop (0:Nat) a)).getD u.toNat (0:Int)) ((List.take (8:Nat) (List.drop (0:Nat) b)).getD j.toNat
 (0:Int))).snd c (0:Int)).fst (0:Int)).snd),i,i64.wrap (j+(1:Int)),PUnit.unit),a,b,r,o.set ((0:Nat)+(i64.wrap (u+
 j)).toNat) (ad ((List.take (8:Nat) (List.drop (0:Nat) o)).getD (i64.wrap (u+j)).toNat (0:Int)) (ad (mu ((List.take (8:Nat) (List.drop
 (0:Nat) a)).getD u.toNat (0:Int)) ((List.take (8:Nat) (List.drop (0:Nat) b)).getD j.toNat (0:Int))).snd c (0:Int)).fst (0:Int)).fst,
 PUnit.unit))))))))) (aZ.leaf (Exit.exit (2:Nat)) ((bD tjX Me).wr ((u,c,i,PUnit.unit),a,b,r,o,PUnit.unit))):=by kernel_rfl
theorem adY:ac7=aoQ bn:=by kernel_rfl
theorem W8:(aoQ bn).Ok Tryz.prog 200:=adY▸KL
theorem BZ:∀p∈Tq bt bn,p.2.Ok Tryz.prog p.1:=aj BK (aj W8 aE)
abbrev tjT:Type:=(Int×Int×Int×Int×Unit)×List Int×List Int×List Int×List Int×Unit
def asN(g:List Int→List Int→Int→List Int→Int×List Int)(x:tjT):aZ:=.need (x.1.2.2.2.1=0∧x.1.2.1=0∧0≤x.1.1∧x.1.1<4∧okW x.2.1∧okW x.2.2.1∧okW x.2.2.2.2.1) (.leaf (.exit 2) ((bD tjX Me).wr ((x.1.1,(g x.2.1 x.2.2.1 x.1.1 x.2.2.2.2.1).1,x.1.2.2.1,()),(x.2.1,x.2.2.1,x.2.2.2.1,(g x.2.1 x.2.2.1 x.1.1 x.2.2.2.2.1).2,()))))
def tjG(a b:List Int)(u:Int)(o:List Int):Int×List Int:=upto (Li bn bt a b u.toNat) 0 4 (0,o)
theorem ajm(x:tjT):Ex Tryz.prog [] (.loop (aV G9 2)) ((bD tjC Me).wr x) (asN tjG x):=by
 obtain⟨⟨u,c,i,j,_⟩,a,b,r,o,_⟩:=x;refine Ex.need fun⟨h1,h2,h3,h4,h5,h6,h7⟩=>?_;simp only at h1 h2 h3 h4 h5 h6 h7;subst h1 h2;obtain⟨u,rfl⟩:=Int.eq_ofNat_of_zero_le h3;have hu:u<4:=by omega
 have key:=gJ (fn:=G9) (id:=2) (j:=2) (ws:=tjW) (hp:= []) mixed BZ (aO.nil _) 4 (fun k (s:Int×List Int)=>(bD tjC Me).wr (((u:Int),s.1,i,(k:Int),()),(a,b,r,s.2,()))) (fun(s:Int×List Int)=>(bD tjX Me).wr (((u:Int),s.1,i,()),(a,b,r,s.2,()))) (Li bn bt a b u) (ai4 a b o u)
  (fun k s R hk hi hn hx=>?_) (fun k s hk hi=>D4 h5.2 h6.2 h6.1 hu hk hi) 0 (0,o) (by omega) ⟨h7.1,h7.2,by unfold vV;omega,fun _ _=>rfl,by simp[vd]⟩
 ·exact key
 rw[aoR bt bn];refine⟨fun hb=>?_,fun hb=>?_⟩
 ·have l9:k<4:=by have:=of_decide_eq_true hb;omega
  have e:i64.wrap ((u:Int)+(k:Int))=((u+k:Nat):Int):=by rw[ax (by omega) (by omega)];omega
  rw[e,bU hi.len,D5 h5,D5 h6,Int.toNat_natCast,Int.toNat_natCast,Int.toNat_natCast,Nat.zero_add,dY k (by omega)];exact⟨by omega,by omega,by decide,by omega,by decide,by omega,hn l9⟩
 ·have:k=4:=by have:=of_decide_eq_false hb;omega
  exact hx this
abbrev asO(g:List Int→List Int→Int→List Int→Int×List Int):fq:= [(2,fF (bD tjC Me) 0 [asK,iV 0,iV 1,iV 2,iV 3,.auto] (asN g))]
def tiW:Exit→List Wk
 | .normal=> [asM,iV 0,iV 1,iV 2,iV 3,.auto]
 | .exit 0=> [av5,iV 0,iV 1,iV 2,iV 3]
 |_=> []
theorem aoS(g:List Int→List Int→Int→List Int→Int×List Int)(ad:Int→Int→Int→Int×Int)(mu:Int→Int→Int×Int)(i:Int)(a b r o:List Int):ee Tryz.prog (Tq ad mu) (asO g) G9 0 [] tiW ((bD tiC Me).wr ((i,()),(a,b,r,o,())))=
 aZ.ite (decide (i<(4:Int))) (aZ.need ((0:Int)=(0:Int)∧(0:Int)=(0:Int)∧(0:Int)≤i∧i<(4:Int)∧okW a∧okW b∧okW o)
 (aZ.need ((0:Int)≤i64.wrap (i+(4:Int))∧i64.wrap (i+(4:Int))<(8:Int)) (aZ.leaf Exit.normal ((bD tiC Me).wr
 ((i64.wrap (i+(1:Int)),PUnit.unit),a,b,r,(g a b i o).snd.set ((0:Nat)+(i64.wrap (i+(4:Int))).toNat) (g a b i o).fst,
 PUnit.unit))))) (aZ.leaf (Exit.exit (0:Nat)) ((bD tiX Me).wr (PUnit.unit,a,b,r,o,PUnit.unit))):=by kernel_rfl
abbrev tiT:Type:=(Int×Unit)×List Int×List Int×List Int×List Int×Unit
def asP(g:List Int→List Int→List Int)(x:tiT):aZ:=.need (x.1.1=0∧okW x.2.1∧okW x.2.2.1∧x.2.2.2.2.1=List.replicate 8 0) (.leaf (.exit 0) ((bD tiX Me).wr ((),(x.2.1,x.2.2.1,x.2.2.2.1,g x.2.1 x.2.2.1,()))))
theorem ajn:∀p∈asO tjG,mf (gf (aG G9) p.1)=true∧∀st,Ex Tryz.prog [] (.loop (aV G9 p.1)) st (p.2 st):=nJ rfl (cN (hp:= []) ajm) oI
theorem ajo(x:tiT):Ex Tryz.prog [] (.loop (aV G9 0)) ((bD tiC Me).wr x) (asP mC x):=by
 obtain⟨⟨i,_⟩,a,b,r,o,_⟩:=x;refine Ex.need fun⟨h1,h2,h3,h4⟩=>?_;simp only at h1 h2 h3 h4;subst h1 h4
 have key:=gJ (fn:=G9) (id:=0) (j:=0) (ws:=tiW) (hp:= []) mixed BZ (aO.inner rfl ajn) 4 (fun k (o:List Int)=>(bD tiC Me).wr (((k:Int),()),(a,b,r,o,()))) (fun(o:List Int)=>(bD tiX Me).wr ((),(a,b,r,o,()))) (adR bn bt a b) (ai5 a b)
  (fun k o R hk hi hn hx=>?_) (fun k o hk hi=>xn h2.2 h3.2 h2.1 h3.1 hk hi) 0 (List.replicate 8 0) (by omega) ⟨by simp,gD.SJ bz 8,fun i _=>by
  rw[List.getD_eq_getElem?_getD,List.getElem?_replicate];split<;>rfl,by rw[BY];simp[vd]⟩
 ·rw[Nat.sub_zero,W2 h2.2 h3.2 h2.1 h3.1]at key;exact key
 rw[aoS];refine⟨fun hb=>?_,fun hb=>?_⟩
 ·have l9:k<4:=by have:=of_decide_eq_true hb;omega
  have e:i64.wrap ((k:Int)+4)=((k+4:Nat):Int):=by rw[ax (by omega) (by omega)];omega
  have hs:=xn h2.2 h3.2 h2.1 h3.1 l9 hi;have vS:=hn l9;rw[e,dY k (by omega),Int.toNat_natCast,Nat.zero_add];exact⟨⟨rfl,rfl,by omega,by omega,h2,h3,hi.len,hi.W1⟩,by omega,vS⟩
 ·have:k=4:=by have:=of_decide_eq_false hb;omega
  exact hx this
abbrev asQ(g:List Int→List Int→List Int):fq:= [(0,fF (bD tiC Me) 0 [asM,iV 0,iV 1,iV 2,iV 3,.auto] (asP g))]
abbrev ajp:ar:=eWW mC
theorem Ls(g:List Int→List Int→List Int)(ad:Int→Int→Int→Int×Int)(mu:Int→Int→Int×Int)(w x:List Int):aT Tryz.prog (Tq ad mu) (asQ g) G9 (w2A.wr (w,x,())) [] [.fr [.sym],.mT 0 0 8 .u64,.auto]=
 End.need ((0:Int)=(0:Int)∧okW w∧okW x∧ [(0:Int),(0:Int),(0:Int),(0:Int),(0:Int),(0:Int),(0:Int),(0:Int)]=
 List.replicate (8:Nat) (0:Int)) (End.leaf (LV.one (VV.agg [SV.arr (Ty.int u64) (8:Nat) (g w x)])) []):=by kernel_rfl
theorem W9:ajp.Ok Tryz.prog 138:=by
 refine(ar.br call138 fun x_ y_ Q H_=>?_).sym;obtain⟨w,x,_⟩:=x_;obtain⟨hn,hq⟩:=H_;have hn:okW w∧okW x:=hn;refine(aA mixed BZ func138 rfl (LT:=asQ mC) (ks:= [.fr [.sym],.mT 0 0 8 .u64,.auto]) (aO.cU (nJ rfl (cN (hp:= []) ajo) oI))).use (D:= []) ?_ hq;show(aT _ _ _ _ (w2A.wr (w,x,())) [] _).sat _;rw[Ls];exact⟨⟨rfl,hn.1,hn.2,rfl⟩,rfl,rfl⟩
abbrev b3A:aW (List LV) (List Int×List Int×List Int×Unit):=ae cB (ae cB (ae cB ag))
abbrev aoT:aW (List LV) (List Int×Unit):=ae (MT .u8 64) ag
def sP(b:List Int):Bool:=decide (vd 256 b<ll)
def sQ(b:List Int):List Int:=dg 256 32 (vd 256 b%ll)
def rG(a b c:List Int):List Int:=dg 256 32 ((vd 256 a*vd 256 b+vd 256 c)%ll)
def eBB(g:List Int→Bool):ar:=ar.dx [] lh ag fun x _=>.leaf (some (okB x.1)) (nB (g x.1)) []
def Lt(g:List Int→List Int):ar:=ar.dx [] aoT ag fun x _=>.leaf (some (x.1.length=64∧al x.1)) (jq .u8 32 (g x.1)) []
def eB3(g:List Int→List Int→List Int→List Int):ar:=ar.dx [] b3A ag fun x _=>.leaf (some (okB x.1∧okB x.2.1∧okB x.2.2.1)) (jq .u8 32 (g x.1 x.2.1 x.2.2.1)) []
theorem B2(b:List Int):okW (rR b):=adS b
theorem ajq(w x:List Int):okW (jY w x):=⟨cy _ _,oD bz _ _⟩
theorem Xa(w x:List Int):okW (mC w x):=⟨cy _ _,oD bz _ _⟩
theorem okB.val{b:List Int}(h:okB b):vd qq (rR b)=vd 256 b:=Tn h.2 (by rw[h.1];decide)
theorem okB.range{b:List Int}(h:okB b):0≤vd 256 b∧vd 256 b<2 ^ 256:=by
 have h1:=eS (by decide) (show gD 256 b from h.2);have h2:=rQ (by decide) (show gD 256 b from h.2);have e:(256:Int) ^ 32=2 ^ 256:=by decide+kernel
 rw[h.1,e]at h2;exact⟨h1,h2⟩
abbrev ajr:ar:=eBB sP
theorem Lu(o:List Int)(of:List Int→List Int)(less:List Int→List Int→List Int×Int)(b:List Int):aT Tryz.prog [(187,e0W o),(131,eOf of),(186,Lk less)] [] f239 ((lh).wr (b,())) [] kK=
 End.need ((0:Int)≤(0:Int)∧(0:Int)≤(32:Int)∧(32:Int)≤(32:Int)) (End.need (al (List.take (32:Nat) (List.drop (0:Nat) b))∧
 (List.take (32:Nat) (List.drop (0:Nat) b)).length≤(64:Nat)) (End.need (okW (of (List.take (32:Nat) (List.drop (0:Nat) b)))∧okW o)
 (End.leaf (LV.one (VV.sc (SV.bool (SB.sym ((less (of (List.take (32:Nat) (List.drop (0:Nat) b))) o).snd==(1:Int)))))) []))):=by kernel_rfl
theorem Lv:∀p_∈([(187,e0W eT),(131,eOf rR),(186,Lk gZ)]:List (FuncId×ar)),p_.2.Ok Tryz.prog p_.1:=(aj D6 (aj P3 (aj Ln aE)))
theorem Xb:ajr.Ok Tryz.prog 239:=by
 refine(ar.br call239 fun x_ y_ Q H_=>?_).sym;obtain⟨b,_⟩:=x_;obtain⟨hn,hq⟩:=H_;have hn:okB b:=hn;refine(aA (tab:= [(187,e0W eT),(131,eOf rR),(186,Lk gZ)]) mixed Lv func239 rfl (LT:= []) (ks:=kK) (aO.nil _)).use (D:= []) ?_ hq;show(aT _ _ _ _ ((lh).wr (b,())) [] _).sat _;rw[Lu eT rR gZ];rw[bU hn.1];refine⟨by decide,⟨hn.2,by rw[hn.1];decide⟩,⟨B2 b,Lf⟩,?_,rfl⟩
 have:((gZ (rR b) eT).2==1)=sP b:=by
  unfold gZ sP;rw[hn.val,D3]
  by_cases h:vd 256 b<ll
  ·rw[if_pos h,decide_eq_true h];rfl
  ·rw[if_neg h,decide_eq_false h];rfl
 rw[this]
abbrev adZ:ar:=Lt sQ
theorem Ha(of:List Int→List Int)(red:List Int→List Int)(b:List Int):aT Tryz.prog [(131,eOf of),(132,eWB red)] [] f78 ((aoT).wr (b,())) [] kR=
 End.need ((0:Int)≤(0:Int)∧(0:Int)≤(64:Int)∧(64:Int)≤(64:Int)) (End.need (al (List.take (64:Nat) (List.drop (0:Nat) b))∧
 (List.take (64:Nat) (List.drop (0:Nat) b)).length≤(64:Nat)) (End.need (okW (of (List.take (64:Nat) (List.drop (0:Nat) b)))) (End.leaf
 (LV.one (VV.agg [SV.arr (Ty.int IntKind.u8) (32:Nat) (red (of (List.take (64:Nat) (List.drop (0:Nat) b))))])) []))):=by kernel_rfl
theorem Hb:∀p_∈([(131,eOf rR),(132,eWB xm)]:List (FuncId×ar)),p_.2.Ok Tryz.prog p_.1:=(aj P3 (aj Tp aE))
theorem B3:adZ.Ok Tryz.prog 78:=by
 refine(ar.br call78 fun x_ y_ Q H_=>?_).sym;obtain⟨b,_⟩:=x_;obtain⟨hn,hq⟩:=H_;have hn:b.length=64∧al b:=hn;refine(aA (tab:= [(131,eOf rR),(132,eWB xm)]) mixed Hb func78 rfl (LT:= []) (ks:=kR) (aO.nil _)).use (D:= []) ?_ hq;show(aT _ _ _ _ ((aoT).wr (b,())) [] _).sat _;rw[Ha rR xm];rw[bU hn.1];refine⟨by decide,⟨hn.2,by rw[hn.1];decide⟩,B2 b,?_,rfl⟩;have:xm (rR b)=sQ b:=by unfold xm sQ;rw[Tn hn.2 (by rw[hn.1];decide)]
 rw[this]
theorem ad0{x:Int}(h:x<2 ^ 512):x<qq ^ 8:=by
 have e:qq ^ 8=2 ^ 512:=by decide+kernel
 rw[e];exact h
abbrev ad1:ar:=eB3 rG
theorem Hc(of:List Int→List Int)(and times:List Int→List Int→List Int)(red:List Int→List Int)(a b c:List Int):aT Tryz.prog [(131,eOf of),(139,eWW and),(138,eWW times),(132,eWB red)] [] f82 ((b3A).wr (a,b,c,())) [] kR=
 End.need ((0:Int)≤(0:Int)∧(0:Int)≤(32:Int)∧(32:Int)≤(32:Int)) (End.need (al (List.take (32:Nat) (List.drop (0:Nat) a))∧
 (List.take (32:Nat) (List.drop (0:Nat) a)).length≤(64:Nat)) (End.need ((0:Int)≤(0:Int)∧(0:Int)≤(32:Int)∧(32:Int)≤(32:
 Int)) (End.need (al (List.take (32:Nat) (List.drop (0:Nat) b))∧(List.take (32:Nat) (List.drop (0:Nat) b)).length≤(64:Nat)) (End.need
 (okW (of (List.take (32:Nat) (List.drop (0:Nat) a)))∧okW (of (List.take (32:Nat) (List.drop (0:Nat) b)))) (End.need ((0:Int)≤(0:Int)∧
 (0:Int)≤(32:Int)∧(32:Int)≤(32:Int)) (End.need (al (List.take (32:Nat) (List.drop (0:Nat) c))∧(List.take (32:Nat) (List.drop (0
 :Nat) c)).length≤(64:Nat)) (End.need (okW (times (of (List.take (32:Nat) (List.drop (0:Nat) a))) (of (List.take (32:Nat) (List.drop (0:
 Nat) b))))∧okW (of (List.take (32:Nat) (List.drop (0:Nat) c)))) (End.need (okW (and (times (of (List.take (32:Nat) (List.drop (0:Nat) a)))
 (of (List.take (32:Nat) (List.drop (0:Nat) b)))) (of (List.take (32:Nat) (List.drop (0:Nat) c))))) (End.leaf (LV.one (VV.agg [SV.arr (Ty.int
 IntKind.u8) (32:Nat) (red (and (times (of (List.take (32:Nat) (List.drop (0:Nat) a))) (of (List.take (32:Nat) (List.drop (0:Nat) b)))) (of
 (List.take (32:Nat) (List.drop (0:Nat) c)))))])) []))))))))):=by kernel_rfl
theorem Hd:∀p_∈([(131,eOf rR),(139,eWW jY),(138,eWW mC),(132,eWB xm)]:List (FuncId×ar)),p_.2.Ok Tryz.prog p_.1:=(aj P3 (aj To (aj W9 (aj Tp aE))))
theorem P6:ad1.Ok Tryz.prog 82:=by
 refine(ar.br call82 fun x_ y_ Q H_=>?_).sym;obtain⟨a,b,c,_⟩:=x_;obtain⟨hn,hq⟩:=H_;have hn:okB a∧okB b∧okB c:=hn;refine(aA (tab:= [(131,eOf rR),(139,eWW jY),(138,eWW mC),(132,eWB xm)]) mixed Hd func82 rfl (LT:= []) (ks:=kR) (aO.nil _)).use (D:= []) ?_ hq;show(aT _ _ _ _ ((b3A).wr (a,b,c,())) [] _).sat _;rw[Hc rR jY mC xm];obtain⟨ha,hb,hc⟩:=hn;rw[bU ha.1,bU hb.1,bU hc.1];refine⟨by decide,⟨ha.2,by rw[ha.1];decide⟩,by decide,⟨hb.2,by rw[hb.1];decide⟩,⟨B2 a,B2 b⟩,by decide,⟨hc.2,by rw[hc.1];decide⟩,⟨Xa _ _,B2 c⟩,ajq _ _,?_,rfl⟩
 have:xm (jY (mC (rR a) (rR b)) (rR c))=rG a b c:=by
  unfold xm rG jY mC;have h1:=ha.range;have h2:=hb.range;have h3:=hc.range;have h4:((2:Int) ^ 256-1)*(2 ^ 256-1)+2 ^ 256<2 ^ 512:=by decide+kernel
  have h5:vd 256 a*vd 256 b≤(2 ^ 256-1)*(2 ^ 256-1):=Int.mul_le_mul (by omega) (by omega) h2.1 (by decide+kernel);have h6:0≤vd 256 a*vd 256 b:=Int.mul_nonneg h1.1 h2.1;rw[Lj ha.2 ha.1,Lj hb.2 hb.1,nu bz,nu bz,hc.val,Int.emod_eq_of_lt (a:=vd 256 a*vd 256 b) h6 (ad0 (Int.lt_trans (by omega) h4)),Int.emod_eq_of_lt (by omega) (ad0 (Int.lt_trans (by omega) h4))]
 rw[this]
end Go.Proofs.YtnbkagglkajbkaaGreat
end
