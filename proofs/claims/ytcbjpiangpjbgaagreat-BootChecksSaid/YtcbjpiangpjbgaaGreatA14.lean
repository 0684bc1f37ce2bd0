/- What the laws lean on, part 14: a reader of code, plain facts, and what each function gives; no conditions. -/
import Derived.Test.YtcbjpiangpjbgaaGreatA13
set_option linter.unusedVariables false
set_option linter.unusedSimpArgs false
noncomputable section
namespace Go.Proofs.YtcbjpiangpjbgaaGreat
open Go Go.Ev BJ Go.Proofs.Tryz
open Go.IntKind (i64 signed u32 u64 wrap wrap_u32)
def rZ(f:Nat→Int):Nat→Int
 |0=>0
 |n+1=>rZ f n+f n*(256 ^ n:Nat)
theorem J1(f:Nat→Int):∀n,n≤8→(∀i,i<n→0≤f i∧f i<256)→
  (List.range n).foldl (fun acc i=>bq .u64 acc (shl .u64 (eL (f i)) ((8*i:Nat):Int))) 0=rZ f n∧0≤rZ f n∧rZ f n<(256 ^ n:Nat)
 |0,_,_=>⟨rfl,by simp[rZ],by simp[rZ]⟩
 |n+1,hn,hf=>by
  obtain⟨h1,h2,h3⟩:=J1 f n (by omega) fun i hi=>hf i (by omega);have h4:=hf n (by omega);rw[List.range_succ,List.foldl_append,h1];simp only[List.foldl_cons,List.foldl_nil,rZ];have hle:256 ^ n≤256 ^ 7:=Nat.pow_le_pow_right (by omega) (by omega);have h7:(256:Nat) ^ 7=72057594037927936:=by decide
  have e8:(2 ^ (8*n):Nat)=256 ^ n:=by rw[Nat.pow_mul]
  have hmul:0≤f n*(256 ^ n:Nat)∧f n*(256 ^ n:Nat)≤255*(256 ^ n:Nat):=⟨Int.mul_nonneg h4.1 (Int.natCast_nonneg _),Int.mul_le_mul_of_nonneg_right (by omega) (Int.natCast_nonneg _)⟩;have hm:f n*(256 ^ n:Nat)%(256 ^ n:Nat)=0:=Int.mul_emod_left _ _
  have e:shl .u64 (eL (f n)) ((8*n:Nat):Int)=f n*(256 ^ n:Nat):=by
   rw[iE .u64 _ _ (by show 8*n≤64;omega),e8];unfold eL;rw[wrap_u64 (n:=f n) (by omega) (by omega)];exact wrap_u64 hmul.1 (by omega)
  have e2:(256 ^ (n+1):Nat)=256*256 ^ n:=by rw[Nat.pow_succ,Nat.mul_comm]
  rw[e,eK,nw (m:=8*n) hmul.1 (by rw[e8];exact hm) h2 (by rw[e8];exact h3) (by omega),e2];refine⟨by omega,by omega,by omega⟩
theorem get_ofFn{f:Nat→Int}:∀ {n i:Nat},i<n→Vec.get (Vec.ofFn n f) i=f i
 |0,_,h=>absurd h (by omega)
 |n+1,0,_=>rfl
 |n+1,i+1,h=>by
  show Vec.get (Vec.ofFn n fun k=>f (k+1)) i=_;rw[get_ofFn (n:=n) (by omega)]
theorem nH{n:Nat}{v:Vec Int n}(h:mo v){i:Nat}(hi:i<n):v.get i=bN v/(256 ^ i:Nat)%256:=by
 conv=>lhs;rw[← Xz h]
 unfold xr;rw[get_ofFn hi]
theorem po{n:Nat}{v:Vec Int n}(h:mo v){i:Nat}(hi:i<n):0≤v.get i∧v.get i<256:=by
 rw[nH h hi];omega
theorem J2(V:Int)(hV:0≤V):∀n,rZ (fun i=>V/(256 ^ i:Nat)%256) n=V%(256 ^ n:Nat)
 |0=>by simp[rZ]
 |n+1=>by
  simp only[rZ];rw[J2 V hV n];have e2:(256 ^ (n+1):Nat)=256 ^ n*256:=Nat.pow_succ ..;rw[e2];generalize hm:(256 ^ n:Nat)=m;have C9:0<(m:Int):=by have:=Nat.pow_pos (n:=n) (show 0<256 by decide);omega
  have h3:=Int.emod_nonneg V (b:=(m:Int)) (by omega);have h4:=Int.emod_lt_of_pos V C9;have h5:=Int.emod_add_mul_ediv V (m:Int)
  have h6:V=(V%m+V/m%256*m)+((m*256:Nat):Int)*(V/m/256):=by
   rw[Int.natCast_mul,Int.mul_assoc];have h7:V/m=V/m%256+256*(V/m/256):=(by omega);have h8:(m:Int)*(V/m)=m*(V/m%256)+m*(256*(V/m/256)):=(by rw[← Int.mul_add,← h7]);rw[Int.mul_comm (V/m%256) m];have h9:(m:Int)*(((256:Nat):Int)*(V/m/256))=m*(256*(V/m/256)):=rfl;rw[h9];omega
  have h10:0≤V/m%256*m∧V/m%256*m≤255*m:=⟨Int.mul_nonneg (by omega) (by omega),Int.mul_le_mul_of_nonneg_right (by omega) (by omega)⟩
  conv=>rhs;rw[h6]
  rw[Int.add_mul_emod_self_left];exact(Int.emod_eq_of_lt (by omega) (by rw[Int.natCast_mul];omega)).symm
theorem uk{b:cZ}(h:mo b)(j:Nat)(hj:j<4):word b j=bN b/(256 ^ (8*j):Nat)%18446744073709551616:=by
 have h1:=(J1 (fun i=>b.get (8*j+i)) 8 (by omega) fun i hi=>po h (by omega)).1;have hV:=cR h;unfold word;rw[h1]
 have h2:rZ (fun i=>b.get (8*j+i)) 8=rZ (fun i=>bN b/(256 ^ (8*j):Nat)/(256 ^ i:Nat)%256) 8:=by
  have key:∀n,n≤8→rZ (fun i=>b.get (8*j+i)) n=rZ (fun i=>bN b/(256 ^ (8*j):Nat)/(256 ^ i:Nat)%256) n:=by
   intro n
   induction n with
   |zero=>intro _;rfl
   |succ n ih=>
    intro hn;simp only[rZ];rw[ih (by omega),nH h (by omega),Int.ediv_ediv_of_nonneg (Int.natCast_nonneg _),← Int.natCast_mul,← Nat.pow_add]
  exact key 8 (by omega)
 rw[h2,J2 _ (Int.ediv_nonneg hV (Int.natCast_nonneg _)) 8];rfl
theorem ahY{b:cZ}(h:mo b):gb (gy b)∧fV (gy b)=bN b%57896044618658097711785492504343953926634992332820282019728792003956564819968:=by
 have hV:=cR h;have XA:=lR h;rw[aph]at XA;have w0:=uk h 0 (by omega);have w1:=uk h 1 (by omega);have w2:=uk h 2 (by omega);have w3:=uk h 3 (by omega);have q0:(256 ^ (8*0):Nat)=1:=by decide
 have q1:(256 ^ (8*1):Nat)=18446744073709551616:=by decide
 have q2:(256 ^ (8*2):Nat)=340282366920938463463374607431768211456:=by decide
 have q3:(256 ^ (8*3):Nat)=6277101735386680763835789423207666416102355444464034512896:=by decide
 rw[q0]at w0;rw[q1]at w1;rw[q2]at w2;rw[q3]at w3;unfold gy;rw[w0,w1,w2,w3];generalize bN b=V at*;obtain⟨a0,ha0⟩:∃a,a=V/((1:Nat):Int)%18446744073709551616:=⟨_,rfl⟩;obtain⟨a1,ha1⟩:∃a,a=V/((18446744073709551616:Nat):Int)%18446744073709551616:=⟨_,rfl⟩;obtain⟨a2,ha2⟩:∃a,a=V/((340282366920938463463374607431768211456:Nat):Int)%18446744073709551616:=⟨_,rfl⟩;obtain⟨a3,ha3⟩:∃a,a=V/((6277101735386680763835789423207666416102355444464034512896:Nat):Int)%18446744073709551616:=⟨_,rfl⟩;rw[← ha0,← ha1,← ha2,← ha3];have sh:∀ (x:Int) (n:Nat),n≤64→bV x n=x/(2 ^ n:Nat):=fun x n hn=>ee .u64 x n hn;have sl:∀ (x:Int) (n:Nat),n≤64→shl .u64 x n=x*(2 ^ n:Nat)%18446744073709551616:=fun x n hn=>by rw[iE .u64 x n hn,jy]
 have s51:=sh a0 51 (by decide);have s38:=sh a1 38 (by decide);have s25:=sh a2 25 (by decide);have s12:=sh a3 12 (by decide);have l13:=sl a1 13 (by decide);have l26:=sl a2 26 (by decide);have l39:=sl a3 39 (by decide);have e51:(2 ^ 51:Nat)=2251799813685248:=by decide
 have e38:(2 ^ 38:Nat)=274877906944:=by decide
 have e25:(2 ^ 25:Nat)=33554432:=by decide
 have e12:(2 ^ 12:Nat)=4096:=by decide
 have e13:(2 ^ 13:Nat)=8192:=by decide
 have e26:(2 ^ 26:Nat)=67108864:=by decide
 have e39:(2 ^ 39:Nat)=549755813888:=by decide
 rw[e51]at s51;rw[e38]at s38;rw[e25]at s25;rw[e12]at s12;rw[e13]at l13;rw[e26]at l26;rw[e39]at l39
 have o1:bq .u64 (bV a0 51) (shl .u64 a1 13)=a0/2251799813685248+a1*8192%18446744073709551616:=by
  have e:bq .u64 (shl .u64 a1 13) (bV a0 51)=shl .u64 a1 13+bV a0 51:=nw (m:=13) (by rw[show shl .u64 a1 13=_ from l13];omega) (by rw[show shl .u64 a1 13=_ from l13,e13];omega) (by rw[show bV a0 51=_ from s51];omega) (by rw[show bV a0 51=_ from s51,e13];omega) (by rw[show shl .u64 a1 13=_ from l13,show bV a0 51=_ from s51];omega);rw[eK,e,show shl .u64 a1 13=_ from l13,show bV a0 51=_ from s51];omega
 have o2:bq .u64 (bV a1 38) (shl .u64 a2 26)=a1/274877906944+a2*67108864%18446744073709551616:=by
  have e:bq .u64 (shl .u64 a2 26) (bV a1 38)=shl .u64 a2 26+bV a1 38:=nw (m:=26) (by rw[show shl .u64 a2 26=_ from l26];omega) (by rw[show shl .u64 a2 26=_ from l26,e26];omega) (by rw[show bV a1 38=_ from s38];omega) (by rw[show bV a1 38=_ from s38,e26];omega) (by rw[show shl .u64 a2 26=_ from l26,show bV a1 38=_ from s38];omega);rw[eK,e,show shl .u64 a2 26=_ from l26,show bV a1 38=_ from s38];omega
 have o3:bq .u64 (bV a2 25) (shl .u64 a3 39)=a2/33554432+a3*549755813888%18446744073709551616:=by
  have e:bq .u64 (shl .u64 a3 39) (bV a2 25)=shl .u64 a3 39+bV a2 25:=nw (m:=39) (by rw[show shl .u64 a3 39=_ from l39];omega) (by rw[show shl .u64 a3 39=_ from l39,e39];omega) (by rw[show bV a2 25=_ from s25];omega) (by rw[show bV a2 25=_ from s25,e39];omega) (by rw[show shl .u64 a3 39=_ from l39,show bV a2 25=_ from s25];omega);rw[eK,e,show shl .u64 a3 39=_ from l39,show bV a2 25=_ from s25];omega
 rw[o1,o2,o3,show bV a3 12=_ from s12];simp only[ui];constructor
 ·simp only[gb,JY];omega
 ·simp only[fV];omega
end Go.Proofs.YtcbjpiangpjbgaaGreat
namespace BJ
theorem F.pow_add(a:F)(m n:Nat):F.pow a (m+n)=F.pow a m*F.pow a n:=by
 induction n with
 |zero=>rw[Nat.add_zero,F.pow_zero];grobner
 |succ n ih=>rw[← Nat.add_assoc,F.pow_succ,ih,F.pow_succ];grobner
theorem F.nJ(a:F)(m:Nat):F.pow a (2*m)=F.pow a m*F.pow a m:=by rw[Nat.two_mul,F.pow_add]
theorem F.pow_one(a:F):F.pow a 1=a:=by rw[F.pow_succ,F.pow_zero];grobner
def rootOf(a:F):F×Bool:=
 let r:=F.pow a ((pp+3)/8)
 let r1:=if r*r=a then r else r*F.pow 2 ((pp-1)/4)
 if r1*r1=a then(if r1.val%2=1 then-r1 else r1,true)else(0,false)
def kH(u v:F):F×Bool:=if v=0 then(0,decide (u=0))else rootOf (u*F.inv v)
end BJ
namespace Go.Proofs.YtcbjpiangpjbgaaGreat
open Go Go.Ev BJ Go.Proofs.Tryz
open Go.IntKind (i64 signed u32 u64 wrap wrap_u32)
theorem r8(x:Int):dh .u8 x 128=x%128:=by
 have e:dh .u8 x 128=bd .u8 x 127:=by
  unfold dh bd;have:(~~~BitVec.ofInt IntKind.u8.bits 128)=BitVec.ofInt IntKind.u8.bits 127:=by decide
  rw[this]
 rw[e];exact rJ (m:=7) (by decide) x 127 (by decide)
theorem J3(g:Int→Int):∀ {n:Nat} {v:Vec Int (n+1)},mo v→(∀x,0≤x→x<256→0≤g x∧g x<256)→
  mo (Vec.nf g n v)∧bN (Vec.nf g n v)=bN v-v.get n*(256 ^ n:Nat)+g (v.get n)*(256 ^ n:Nat)
 |0,v,h,hg=>by
  obtain⟨x,u⟩:=v;refine⟨⟨hg x h.1.1 h.1.2,h.2⟩,?_⟩;show g x+256*0=x+256*0-x*((256 ^ 0:Nat):Int)+g x*((256 ^ 0:Nat):Int);rw[Nat.pow_zero];omega
 |n+1,v,h,hg=>by
  obtain⟨x,u⟩:=v;obtain⟨h1,h2⟩:=J3 g (n:=n) (v:=u) h.2 hg;refine⟨⟨h.1,h1⟩,?_⟩;show x+256*bN (Vec.nf g n u)=x+256*bN u-Vec.get u n*((256 ^ (n+1):Nat):Int)+g (Vec.get u n)*((256 ^ (n+1):Nat):Int);rw[h2];have e2:(256 ^ (n+1):Nat)=256*256 ^ n:=by rw[Nat.pow_succ,Nat.mul_comm]
  rw[e2,Int.natCast_mul];have sw:∀a b:Int,a*(((256:Nat):Int)*b)=256*(a*b):=fun a b=>by rw[← Int.mul_assoc,Int.mul_comm a,Int.mul_assoc];rfl
  rw[sw,sw];omega
theorem aDM:(256 ^ 31:Nat)=452312848583266388373324160190187140051835877600158453279131187530910662656:=by decide
theorem v8{b:cZ}(h:mo b):mo (gV b)∧bN (gV b)=bN b%57896044618658097711785492504343953926634992332820282019728792003956564819968:=by
 obtain⟨h1,h2⟩:=J3 (fun x=>dh .u8 x 128) (n:=31) h fun x h1 h2=>by show 0≤dh .u8 x 128∧dh .u8 x 128<256;rw[r8];omega
 refine⟨h1,h2.trans ?_⟩;have hV:=cR h;have XA:=lR h;rw[aph]at XA;show bN b-b.get 31*_+dh .u8 (b.get 31) 128*_=_;rw[r8,nH h (by decide),aDM];omega
theorem Fh{b:cZ}(h:mo b):gb (gy b)∧fe (gy b)=cO (bN b%57896044618658097711785492504343953926634992332820282019728792003956564819968):=by
 obtain⟨h1,h2⟩:=ahY h;exact⟨h1,by unfold fe;rw[h2]⟩
theorem um{b:cZ}(h:mo b)(aMx:bN b<57896044618658097711785492504343953926634992332820282019728792003956564819968):mn (dS (cO (bN b))) b=decide (bN b<(pp:Int)):=by
 have h0:=cR h
 by_cases hp:bN b<(pp:Int)
 ·rw[decide_eq_true hp];refine(kF _ _).2 ?_;obtain⟨h1,h2⟩:=lf (cO (bN b));exact Ae h1 h (by rw[h2,ef,Int.emod_eq_of_lt h0 hp])
 ·rw[decide_eq_false hp];refine Bool.eq_false_iff.2 fun e=>hp ?_;have e2:=(kF _ _).1 e;have h2:=(lf (cO (bN b))).2;rw[e2,ef]at h2;rw[h2];exact Int.emod_lt_of_pos _ (by decide)
theorem Fm{b:cZ}(h:mo b):mn (eh (gy (gV b))) (gV b)=decide (bN (gV b)<(pp:Int)):=by
 obtain⟨h1,h2⟩:=v8 h;obtain⟨h3,h4⟩:=Fh h1;have dU:bN (gV b)<57896044618658097711785492504343953926634992332820282019728792003956564819968:=by rw[h2];omega
 rw[pj h3,h4,Int.emod_eq_of_lt (cR h1) dU,um h1 dU]
abbrev mulC:Fe→Fe→Fe:=rY cm cl cL
theorem TP{e:cZ}(h:mo e){i:Nat}(hi:i<256):Cb e i=decide ((bN e).toNat/2 ^ i%2=1):=by
 have hV:=cR h;unfold Cb;have e1:shr .u8 (e.get (i/8)) ((i%8:Nat):Int)=e.get (i/8)/(2 ^ (i%8):Nat):=ee .u8 _ _ (by show i%8≤8;omega);rw[e1,rJ (m:=1) (by decide) _ 1 (by decide),nH h (by omega)];obtain⟨N,hN⟩:=Int.eq_ofNat_of_zero_le hV;rw[hN]
 have key:(((N:Int)/(256 ^ (i/8):Nat)%256/(2 ^ (i%8):Nat)%(2 ^ 1:Nat)==1)=true)↔N/2 ^ i%2=1:=by
  rw[beq_iff_eq]
  have e2:(2 ^ i:Nat)=256 ^ (i/8)*2 ^ (i%8):=by
   rw[show(256:Nat)=2 ^ 8 from rfl,← Nat.pow_mul,← Nat.pow_add];congr 1;omega
  rw[e2,← Nat.div_div_eq_div_mul,← Int.natCast_ediv];generalize N/256 ^ (i/8)=W at*;have h8:i%8<8:=Nat.mod_lt _ (by decide);generalize i%8=m at*;have hm:m=0∨m=1∨m=2∨m=3∨m=4∨m=5∨m=6∨m=7:=by omega
  rcases hm with rfl|rfl|rfl|rfl|rfl|rfl|rfl|rfl<;>simp<;>omega
 rw[Int.toNat_natCast]
 by_cases hb:N/2 ^ i%2=1
 ·rw[decide_eq_true hb];exact key.2 hb
 ·rw[decide_eq_false hb];exact Bool.eq_false_iff.2 fun e=>hb (key.1 e)
theorem v9{x:Fe}(hx:gb x):gb (mulC x x)∧fe (mulC x x)=fe x*fe x:=vZ hx hx
def powC(x:Fe)(e:cZ):Fe:=aun bw (fun x=>mulC x x) mulC x e
theorem J4{n:Nat}{b:Bool}{p:Prop}[Decidable p](h:b=decide p)(v u:Vec Int n):df b v u=if p then v else u:=by
 rw[bU,h];by_cases hp:p<;>simp[hp]
theorem O6{x:Fe}{e:cZ}(hx:gb x)(he:mo e):gb (powC x e)∧fe (powC x e)=F.pow (fe x) (bN e).toNat:=by
 have hV:=cR he;have XA:=lR he;obtain⟨N,hN⟩:=Int.eq_ofNat_of_zero_le hV
 have key:∀k,k≤256→gb (fG (gl (fun x=>mulC x x) mulC x e) k (bw 1))∧fe (fG (gl (fun x=>mulC x x) mulC x e) k (bw 1))=F.pow (fe x) (N/2 ^ (256-k)):=by
  intro k
  induction k with
  |zero=>
   intro _;obtain⟨h1,h2⟩:=pk (n:=1) ⟨by decide,by decide⟩;refine⟨h1,?_⟩;have ahZ:(256 ^ 32:Nat)=2 ^ 256:=(by rw[show(256:Nat)=2 ^ 8 from rfl,← Nat.pow_mul]);have:N/2 ^ (256-0)=0:=Nat.div_eq_of_lt (by rw[hN]at XA;rw[Nat.sub_zero,← ahZ];omega);rw[this,F.pow_zero];exact h2.trans yh
  |succ k ih=>
   intro hk;obtain⟨h1,h2⟩:=ih (by omega);show gb (gl (fun x=>mulC x x) mulC x e k _)∧fe (gl (fun x=>mulC x x) mulC x e k _)=_;generalize fG (gl (fun x=>mulC x x) mulC x e) k (bw 1)=r at*;obtain⟨s1,s2⟩:=v9 h1;obtain⟨m1,m2⟩:=vZ s1 hx;unfold gl;rw[J4 (TP he (i:=255-k) (by omega)),hN,Int.toNat_natCast]
   have hdiv:N/2 ^ (256-k)=N/2 ^ (256-(k+1))/2:=by
    rw[Nat.div_div_eq_div_mul,← Nat.pow_succ];congr 2;omega
   rw[hdiv]at h2;have ax9:255-k=256-(k+1):=(by omega);rw[ax9];generalize N/2 ^ (256-(k+1))=M at*
   split
   ·rename_i hb;refine⟨m1,?_⟩;show fe (mulC (mulC r r) x)=_;rw[m2,s2,h2];have:M=2*(M/2)+1:=by omega
    conv=>rhs;rw[this]
    rw[F.pow_succ,F.nJ]
   ·rename_i hb;refine⟨s1,?_⟩;show fe (mulC r r)=_;rw[s2,h2];have:M=2*(M/2):=by omega
    conv=>rhs;rw[this]
    rw[F.nJ]
 have:=key 256 (by omega);rw[hN,Int.toNat_natCast];have e:N/2 ^ (256-256)=N:=by simp
 rw[e]at this;unfold powC aun;exact this
theorem Ag{f:Nat→Int}:∀ {n:Nat},(∀i,i<n→0≤f i∧f i<256)→mo (Vec.ofFn n f)
 |0,_=>trivial
 |n+1,h=>⟨h 0 (by omega),Ag (n:=n) fun i hi=>h (i+1) (by omega)⟩
theorem qo{lo hi:Int}(h1:0≤lo∧lo<256)(h2:0≤hi∧hi<256):mo (cz lo hi):=Ag fun i _=>by
 show 0≤(if i=0 then lo else if i=31 then hi else 255)∧(if i=0 then lo else if i=31 then hi else 255)<256
 split
 ·exact h1
 ·split
  ·exact h2
  ·omega
theorem TQ:(bN (cz 235 127)).toNat=pp-2:=by decide+kernel
theorem J5:(bN (cz 254 15)).toNat=(pp+3)/8:=by decide+kernel
theorem ah0:(bN (cz 251 31)).toNat=(pp-1)/4:=by decide+kernel
def kg(x:Fe):Fe:=powC x (cz 235 127)
theorem O7{x:Fe}(hx:gb x):gb (kg x)∧fe (kg x)=F.inv (fe x):=by
 obtain⟨h1,h2⟩:=O6 hx (qo (lo:=235) (hi:=127) (by omega) (by omega));rw[TQ]at h2;exact⟨h1,h2⟩
def kh:Fe→Fe→Fe:=TK cL
def lA:Fe→Fe→Fe:=JT cL
def lh(x:Fe):Fe:=lA dE x
def O8(x y:Fe):Bool:=mn (eh x) (eh y)
def pq:Fe→Bool:=ahL eh
def dB(x:Fe):Bool:=O8 x dE
def m6:Fe→Fe×Bool:=z9 powC cz mulC (fun x=>mulC x x) lh bw O8 pq
def mc:Fe→Fe→Fe×Bool:=fun u v=>(df (dB v) dE (m6 (mulC u (kg v))).1,bif dB v then dB u else(m6 (mulC u (kg v))).2)
theorem Fo{x:Fe}(hx:gb x):gb (lh x)∧fe (lh x)= -fe x:=by
 obtain⟨h1,h2⟩:=ahR jL.1 hx;refine⟨h1,?_⟩;show fe (JT cL dE x)=_;rw[h2,jL.2];grobner
theorem wa{x:Fe}(hx:gb x):dB x=decide (fe x=0):=by
 unfold dB O8;rw[Af hx jL.1,jL.2]
theorem apj{x:Fe}(hx:gb x):gb (m6 x).1∧fe (m6 x).1=(rootOf (fe x)).1∧(m6 x).2=(rootOf (fe x)).2:=by
 obtain⟨r1,r2⟩:=O6 hx (qo (lo:=254) (hi:=15) (by omega) (by omega));rw[J5]at r2;obtain⟨t1,t2⟩:=pk (n:=2) ⟨by decide,by decide⟩;obtain⟨i1,i2⟩:=O6 t1 (qo (lo:=251) (hi:=31) (by omega) (by omega));have t3:cO 2=2:=by decide+kernel
 rw[ah0,t2,t3]at i2;unfold m6 z9;simp only[ql];obtain⟨s1,s2⟩:=v9 r1;obtain⟨m1,m2⟩:=vZ r1 i1
 have q1:O8 (mulC (powC x (cz 254 15)) (powC x (cz 254 15))) x=decide (F.pow (fe x) ((pp+3)/8)*F.pow (fe x) ((pp+3)/8)=fe x):=by
  unfold O8;rw[Af s1 hx,s2,r2]
 generalize hR:df (!O8 (mulC (powC x (cz 254 15)) (powC x (cz 254 15))) x) (mulC (powC x (cz 254 15)) (powC (bw 2) (cz 251 31))) (powC x (cz 254 15))=R
 have hR1:gb R∧fe R=if F.pow (fe x) ((pp+3)/8)*F.pow (fe x) ((pp+3)/8)=fe x then F.pow (fe x) ((pp+3)/8)else F.pow (fe x) ((pp+3)/8)*F.pow 2 ((pp-1)/4):=by
  rw[← hR,q1,bU]
  by_cases hq:F.pow (fe x) ((pp+3)/8)*F.pow (fe x) ((pp+3)/8)=fe x
  ·rw[decide_eq_true hq,if_pos hq];exact⟨r1,r2⟩
  ·rw[decide_eq_false hq,if_neg hq];exact⟨m1,by show fe (mulC _ _)=_;rw[m2,r2,i2]⟩
 obtain⟨hR1,hR2⟩:=hR1;obtain⟨u1,u2⟩:=v9 hR1;have q2:O8 (mulC R R) x=decide (fe R*fe R=fe x):=by unfold O8;rw[Af u1 hx,u2]
 obtain⟨n1,n2⟩:=Fo hR1;have ho:pq R=decide ((fe R).val%2=1):=ahX hR1;rw[q2,ho,bU,bU]
 have aDN:rootOf (fe x)=if fe R*fe R=fe x then(if(fe R).val%2=1 then-fe R else fe R,true)else(0,false):=by
  unfold rootOf;rw[hR2]
 rw[aDN]
 by_cases h1:fe R*fe R=fe x
 ·rw[decide_eq_true h1,if_pos h1]
  by_cases h2:(fe R).val%2=1
  ·rw[decide_eq_true h2,if_pos h2];exact⟨n1,n2,rfl⟩
  ·rw[decide_eq_false h2,if_neg h2];exact⟨hR1,rfl,rfl⟩
 ·rw[decide_eq_false h1,if_neg h1];exact⟨jL.1,jL.2,rfl⟩
end Go.Proofs.YtcbjpiangpjbgaaGreat
namespace Go.Proofs.YtcbjpiangpjbgaaGreat
open Go Go.Ev BJ Go.Proofs.Tryz
open Go.IntKind (i64 signed u32 u64 wrap wrap_u32)
theorem O9(bv bu:Bool)(fu:F)(z:Fe×Bool)(y:F×Bool)(v:F)(hz1:bv=decide (v=0))(hz2:bu=decide (fu=0))(s1:gb z.1)(s2:fe z.1=y.1)(s3:z.2=y.2):
  gb (df bv dE z.1)∧fe (df bv dE z.1)=(if v=0 then((0:F),decide (fu=0))else y).1∧(bif bv then bu else z.2)=(if v=0 then((0:F),decide (fu=0))else y).2:=by
 rw[bU]
 by_cases h:v=0
 ·rw[if_pos h,hz1,decide_eq_true h];exact⟨jL.1,jL.2,hz2⟩
 ·rw[if_neg h,hz1,decide_eq_false h];exact⟨s1,s2,s3⟩
theorem ah1{u v:Fe}(hu:gb u)(hv:gb v):gb (mc u v).1∧fe (mc u v).1=(kH (fe u) (fe v)).1∧(mc u v).2=(kH (fe u) (fe v)).2:=by
 have hi:=O7 hv;have hm:=vZ hu hi.1;have hs:=apj hm.1;have e:fe (rY cm cl cL u (kg v))=fe u*F.inv (fe v):=hm.2.trans (by rw[hi.2]);rw[e]at hs;exact O9 _ _ (fe u) _ _ (fe v) (wa hv) (wa hu) hs.1 hs.2.1 hs.2.2
end Go.Proofs.YtcbjpiangpjbgaaGreat
namespace BJ
abbrev E4:=F×F×F×F
def qV(x y:F):E4:=(x,y,1,x*y)
def lj:E4:=qV 0 1
def qW(p q:E4):E4:=
 let a:=(p.2.1-p.1)*(q.2.1-q.1)
 let b:=(p.2.1+p.1)*(q.2.1+q.1)
 let c:=p.2.2.2*q.2.2.2*dd+p.2.2.2*q.2.2.2*dd
 let d:=p.2.2.1*q.2.2.1+p.2.2.1*q.2.2.1
 ((b-a)*(d-c),(d+c)*(b+a),(d-c)*(d+c),(b-a)*(b+a))
def ah2(p:E4):E4:=(-p.1,p.2.1,p.2.2.1,-p.2.2.2)
def lk(y:F):F×Bool:=kH (y*y-1) (dd*(y*y)+1)
def Ah:E4:=qV (lk (4*F.inv 5)).1 (4*F.inv 5)
end BJ
namespace Go.Proofs.YtcbjpiangpjbgaaGreat
open Go Go.Ev BJ Go.Proofs.Tryz
open Go.IntKind (i64 signed u32 u64 wrap wrap_u32)
def Z0(p:Pt):Prop:=gb p.2.1∧gb p.2.2.1∧gb p.2.2.2.1∧gb p.2.2.2.2
def wb(p:Pt):Prop:=p.1=true→Z0 p
def ptF(p:Pt):E4:=(fe p.2.1,fe p.2.2.1,fe p.2.2.2.1,fe p.2.2.2.2)
def TR(p:Pt):E4:=if p.1=true then ptF p else lj
def j5:Fe:=gy mZ
theorem yi:gb j5∧fe j5=dd:=by
 have hb:mo mZ:=by simp[mZ,mo]
 obtain⟨h1,h2⟩:=Fh hb;refine⟨h1,h2.trans ?_⟩;decide+kernel
def dq:Fe→Fe→Pt:=ahM mulC bw
theorem sa:gb (bw 1)∧fe (bw 1)=1:=by
 obtain⟨h1,h2⟩:=pk (n:=1) ⟨by decide,by decide⟩;exact⟨h1,h2.trans yh⟩
theorem wc{x y:Fe}(hx:gb x)(hy:gb y):(dq x y).1=true∧Z0 (dq x y)∧ptF (dq x y)=qV (fe x) (fe y):=by
 obtain⟨m1,m2⟩:=vZ hx hy;obtain⟨o1,o2⟩:=sa;refine⟨rfl,⟨hx,hy,o1,m1⟩,?_⟩;show(fe x,fe y,fe (bw 1),fe (mulC x y))=_;rw[o2,m2];rfl
def gm:Pt:=dq dE (bw 1)
theorem TS:gm.1=true∧Z0 gm∧ptF gm=lj:=by
 obtain⟨h1,h2,h3⟩:=wc jL.1 sa.1;refine⟨h1,h2,h3.trans ?_⟩;rw[jL.2,sa.2];rfl
def dw:Pt→Pt:=ahN gm
theorem Fp{p:Pt}(h:wb p):(dw p).1=true∧Z0 (dw p)∧ptF (dw p)=TR p:=by
 unfold dw ahN;rw[iL];unfold TR
 cases hp:p.1 with
 |false=>simp only[Bool.not_false,cond_true,Bool.false_eq_true,if_false];exact TS
 |true=>simp only[Bool.not_true,cond_false,if_true];exact⟨hp,h hp,trivial⟩
theorem Cf{p:Pt}(h1:p.1=true)(h2:Z0 p):wb p∧TR p=ptF p:=⟨fun _=>h2,if_pos h1⟩
def nK:Fe→Fe→Fe→Fe→Pt:=apd mulC
def eD:Pt→Pt→Pt:=addFn mulC kh lA j5 dw nK
theorem nL{x y:Fe}(hx:gb x)(hy:gb y):gb (kh x y)∧fe (kh x y)=fe x+fe y:=ax7 hx hy
theorem uo{x y:Fe}(hx:gb x)(hy:gb y):gb (lA x y)∧fe (lA x y)=fe x-fe y:=ahR hx hy
theorem gn{x y:Fe}(hx:gb x)(hy:gb y):gb (mulC x y)∧fe (mulC x y)=fe x*fe y:=vZ hx hy
theorem ah4{e f g h:Fe}(he:gb e)(hf:gb f)(hg:gb g)(hh:gb h):(nK e f g h).1=true∧Z0 (nK e f g h)∧ptF (nK e f g h)=(fe e*fe f,fe g*fe h,fe f*fe g,fe e*fe h):=by
 obtain⟨a1,a2⟩:=gn he hf;obtain⟨b1,b2⟩:=gn hg hh;obtain⟨c1,c2⟩:=gn hf hg;obtain⟨d1,d2⟩:=gn he hh;refine⟨rfl,⟨a1,b1,c1,d1⟩,?_⟩;show(fe (mulC e f),fe (mulC g h),fe (mulC f g),fe (mulC e h))=_;rw[a2,b2,c2,d2]
theorem ah5{p q:Pt}(hp:Z0 p)(hq:Z0 q):
  let r:=nK (lA (mulC (kh p.2.2.1 p.2.1) (kh q.2.2.1 q.2.1)) (mulC (lA p.2.2.1 p.2.1) (lA q.2.2.1 q.2.1)))
   (lA (kh (mulC p.2.2.2.1 q.2.2.2.1) (mulC p.2.2.2.1 q.2.2.2.1)) (kh (mulC (mulC p.2.2.2.2 q.2.2.2.2) j5) (mulC (mulC p.2.2.2.2 q.2.2.2.2) j5)))
   (kh (kh (mulC p.2.2.2.1 q.2.2.2.1) (mulC p.2.2.2.1 q.2.2.2.1)) (kh (mulC (mulC p.2.2.2.2 q.2.2.2.2) j5) (mulC (mulC p.2.2.2.2 q.2.2.2.2) j5)))
   (kh (mulC (kh p.2.2.1 p.2.1) (kh q.2.2.1 q.2.1)) (mulC (lA p.2.2.1 p.2.1) (lA q.2.2.1 q.2.1)))
  r.1=true∧Z0 r∧ptF r=qW (ptF p) (ptF q):=by
 obtain⟨px,py,pz,pt⟩:=hp;obtain⟨qx,qy,qz,qt⟩:=hq;have a1:=uo py px;have a2:=uo qy qx;have a:=gn a1.1 a2.1;have b1:=nL py px;have b2:=nL qy qx;have b:=gn b1.1 b2.1;have c1:=gn pt qt;have c2:=gn c1.1 yi.1;have c:=nL c2.1 c2.1;have d1:=gn pz qz;have d:=nL d1.1 d1.1;have e:=uo b.1 a.1;have f:=uo d.1 c.1;have g:=nL d.1 c.1;have h:=nL b.1 a.1;obtain⟨r1,r2,r3⟩:=ah4 e.1 f.1 g.1 h.1;refine⟨r1,r2,r3.trans ?_⟩;rw[e.2,f.2,g.2,h.2,d.2,c.2,b.2,a.2,d1.2,c2.2,c1.2,b1.2,b2.2,a1.2,a2.2,yi.2];rfl
theorem aya{p q:Pt}(hp:wb p)(hq:wb q):wb (eD p q)∧(eD p q).1=true∧TR (eD p q)=qW (TR p) (TR q):=by
 obtain⟨p1,p2,p3⟩:=Fp hp;obtain⟨q1,q2,q3⟩:=Fp hq;obtain⟨r1,r2,r3⟩:=ah5 p2 q2;rw[p3,q3]at r3;obtain⟨s1,s2⟩:=Cf r1 r2;exact⟨s1,r1,s2.trans r3⟩
def m7:Pt→Pt:=negFn lh dw
theorem ayb{p:Pt}(hp:wb p):wb (m7 p)∧(m7 p).1=true∧TR (m7 p)=ah2 (TR p):=by
 obtain⟨p1,p2,p3⟩:=Fp hp;obtain⟨n1,n2⟩:=Fo p2.1;obtain⟨m1,m2⟩:=Fo p2.2.2.2;have h1:(m7 p).1=true:=p1;have h2:Z0 (m7 p):=⟨n1,p2.2.1,p2.2.2.1,m1⟩;obtain⟨s1,s2⟩:=Cf h1 h2;refine⟨s1,h1,s2.trans ?_⟩;rw[← p3];show(fe (lh _),fe _,fe _,fe (lh _))=_;rw[n2,m2];rfl
end Go.Proofs.YtcbjpiangpjbgaaGreat
namespace Go.Proofs.YtcbjpiangpjbgaaGreat
open Go Go.Ev BJ Go.Proofs.Tryz
open Go.IntKind (i64 signed u32 u64 wrap wrap_u32)
def Fq(b:cZ):cZ:=Vec.nf (fun x=>x+128) 31 b
def apk(p:E4):cZ:=if(p.1*F.inv p.2.2.1).val%2=1 then Fq (dS (p.2.1*F.inv p.2.2.1))else dS (p.2.1*F.inv p.2.2.1)
abbrev fW:Int:=57896044618658097711785492504343953926634992332820282019728792003956564819968
def J6(b:cZ):E4×Bool:=
 let y:=cO (bN b%fW)
 let x:=(lk y).1
 if(lk y).2=true∧bN b%fW<(pp:Int)∧¬ (128≤b.get 31∧x=0)then(qV (if 128≤b.get 31 then-x else x) y,true)else(lj,false)
theorem qp{f g:Int→Int}:∀ {n i:Nat} {v:Vec Int n},f (v.get i)=g (v.get i)→Vec.nf f i v=Vec.nf g i v
 |0,_,_,_=>rfl
 |n+1,0,v,h=>by
  show(f v.1,v.2)=(g v.1,v.2);rw[show f v.1=g v.1 from h]
 |n+1,i+1,v,h=>by
  show(v.1,Vec.nf f i v.2)=(v.1,Vec.nf g i v.2);rw[qp (n:=n) (i:=i) (v:=v.2) h]
theorem Cg(a:F):0≤(dS a).get 31∧(dS a).get 31<128:=by
 obtain⟨h1,h2⟩:=lf a;rw[nH h1 (by decide),h2,aDM];have:=a.isLt;simp only[pp]at this;omega
def j6:Fe→Fe×Bool:=fun y=>mc (lA (mulC y y) (bw 1)) (kh (mulC j5 (mulC y y)) (bw 1))
theorem TT{y:Fe}(hy:gb y):gb (j6 y).1∧fe (j6 y).1=(lk (fe y)).1∧(j6 y).2=(lk (fe y)).2:=by
 have s:=gn hy hy;have a:=uo s.1 sa.1;have m:=gn yi.1 s.1;have b:=nL m.1 sa.1;have r:=ah1 a.1 b.1;have e1:fe (lA (mulC y y) (bw 1))=fe y*fe y-1:=by rw[a.2,s.2,sa.2]
 have e2:fe (kh (mulC j5 (mulC y y)) (bw 1))=dd*(fe y*fe y)+1:=by rw[b.2,m.2,s.2,sa.2,yi.2]
 rw[e1,e2]at r;exact r
def gX:Pt:=dq (j6 (mulC (bw 4) (kg (bw 5)))).1 (mulC (bw 4) (kg (bw 5)))
theorem t4:cO 4=4:=by decide+kernel
theorem t5:cO 5=5:=by decide+kernel
theorem apl:gX.1=true∧Z0 gX∧ptF gX=Ah:=by
 have h4:=pk (n:=4) ⟨by decide,by decide⟩;have h5:=pk (n:=5) ⟨by decide,by decide⟩;have i:=O7 h5.1;have m:=gn h4.1 i.1;have r:=TT m.1;have e:fe (mulC (bw 4) (kg (bw 5)))=4*F.inv 5:=by rw[m.2,i.2,h4.2,h5.2,t4,t5]
 have a:=wc r.1 m.1;refine⟨a.1,a.2.1,a.2.2.trans ?_⟩;rw[r.2.1,e];rfl
def jF:Pt→Fe×Fe:=apc mulC kg dw
def uq:Pt→cZ:=Aa pq eh jF
theorem Ai{n:Nat}{p:Prop}[Decidable p](v u:Vec Int n):df (decide p) v u=if p then v else u:=J4 rfl v u
theorem XB{p:Pt}(hp:wb p):uq p=apk (TR p):=by
 obtain⟨p1,p2,p3⟩:=Fp hp;have i:=O7 p2.2.2.1;have x:=gn p2.1 i.1;have y:=gn p2.2.1 i.1;unfold uq Aa;have ex:(jF p).1=mulC (dw p).2.1 (kg (dw p).2.2.2.1):=rfl;have ey:(jF p).2=mulC (dw p).2.2.1 (kg (dw p).2.2.2.1):=rfl;simp only[ex,ey];have ho:pq (mulC (dw p).2.1 (kg (dw p).2.2.2.1))=decide ((fe (mulC (dw p).2.1 (kg (dw p).2.2.2.1))).val%2=1):=ahX x.1;rw[ho,Ai,pj y.1,x.2,y.2,i.2];have hb:=Cg (fe (dw p).2.2.1*F.inv (fe (dw p).2.2.2.1))
 have hu:Vec.nf (fun x=>bq .u8 x 128) 31 (dS (fe (dw p).2.2.1*F.inv (fe (dw p).2.2.2.1)))=Fq (dS (fe (dw p).2.2.1*F.inv (fe (dw p).2.2.2.1))):=by
  refine qp ?_;generalize Vec.get (dS (fe (dw p).2.2.1*F.inv (fe (dw p).2.2.2.1))) 31=z at*;show bq .u8 z 128=z+128;rw[eK,arX (m:=7) (by omega) (by decide) hb.1 (by omega) (by omega)];omega
 rw[hu,← p3];rfl
theorem Pa{b:cZ}(h:mo b):vX b=decide (128≤b.get 31):=by
 obtain⟨h1,h2⟩:=po h (i:=31) (by decide);unfold vX;generalize b.get 31=x at*;have key:∀k:Fin 256,(bd .u8 (k.val:Int) 128!=0)=decide ((128:Int)≤(k.val:Int)):=by decide+kernel
 obtain⟨k,rfl⟩:=Int.eq_ofNat_of_zero_le h1;exact key ⟨k,by omega⟩
def jG(b:cZ):Bool:=mn (eh (gy (gV b))) (gV b)
def qs:cZ→Pt×Bool:=uf lh dB gy jG dq j6
theorem XC{b:cZ}(hb:mo b):wb (qs b).1∧TR (qs b).1=(J6 b).1∧(qs b).2=(J6 b).2:=by
 obtain⟨y1,y2⟩:=Fh hb;obtain⟨x1,x2,x3⟩:=TT y1;have hc:jG b=decide (bN b%fW<(pp:Int)):=by unfold jG;rw[Fm hb,(v8 hb).2]
 have ht:=Pa hb;have hz:=wa x1;obtain⟨n1,n2⟩:=Fo x1;rw[x2,y2]at hz n2;rw[y2]at x2 x3
 have ha:∀ (u:Fe),gb u→(dq u (gy b)).1=true∧Z0 (dq u (gy b))∧ptF (dq u (gy b))=qV (fe u) (cO (bN b%fW)):=fun u hu=>by
  have:=wc hu y1;rw[y2]at this;exact this
 have aIg:∀ (ok c t z:Bool),(bif (!ok)==false then bif (!c)==false then bif t==true then z else false else true else true)= !(ok&&c&& !(t&&z)):=by decide
 have jf:wb fK∧TR fK=lj:=⟨fun h=>by simp[fK]at h,rfl⟩;unfold qs uf J6;simp only[ql,Bool.cond_self,hc,ht,hz,x3,aIg];generalize (lk (cO (bN b%fW))).2=ok at*;generalize hX:(lk (cO (bN b%fW))).1=X at*
 have hg:(ok&&decide (bN b%fW<(pp:Int))&& !(decide (128≤b.get 31)&&decide (X=0)))=decide (ok=true∧bN b%fW<(pp:Int)∧¬(128≤b.get 31∧X=0)):=by
  cases ok
  ·simp
  ·by_cases h1:bN b%fW<(pp:Int)<;>by_cases h2:128≤b.get 31<;>by_cases h3:X=0<;>simp[h2,h3]
 rw[hg,iL,Ai]
 by_cases h:ok=true∧bN b%fW<(pp:Int)∧¬(128≤b.get 31∧X=0)
 ·rw[decide_eq_true h,if_pos h]
  by_cases apm:128≤b.get 31
  ·rw[if_pos apm,if_pos apm];obtain⟨a1,a2,a3⟩:=ha _ n1;obtain⟨o1,o2⟩:=Cf a1 a2;exact⟨o1,o2.trans (a3.trans (by rw[n2])),rfl⟩
  ·rw[if_neg apm,if_neg apm];obtain⟨a1,a2,a3⟩:=ha _ x1;obtain⟨o1,o2⟩:=Cf a1 a2;exact⟨o1,o2.trans (a3.trans (by rw[x2])),rfl⟩
 ·rw[decide_eq_false h,if_neg h];exact⟨jf.1,jf.2,rfl⟩
def Pb(V:Nat)(i:Nat):Bool:=decide (V/2 ^ i%2=1)
def me(V:Nat)(p:E4)(k:Nat)(r:E4):E4:=if Pb V (255-k)=true then qW (qW r r) p else qW r r
def Ch(V:Nat)(p:E4):E4:=fG (me V p) 256 lj
theorem we{e:cZ}(h:mo e){i:Nat}(hi:i<256):(lP e i==1)=Pb (bN e).toNat i:=by
 have h1:=TP h hi;unfold Cb at h1;unfold Pb lP;rw[← h1];have e1:shr .u8 (e.get (i/8)) ((i%8:Nat):Int)=e.get (i/8)/(2 ^ (i%8):Nat):=ee .u8 _ _ (by show i%8≤8;omega);rw[e1,rJ (m:=1) (by decide) _ 1 (by decide),wrap_i64 (by omega) (by omega)]
def dT(p:Pt):Pt:=eD p p
end Go.Proofs.YtcbjpiangpjbgaaGreat
namespace Go.Proofs.YtcbjpiangpjbgaaGreat
open Go Go.Ev BJ Go.Proofs.Tryz
open Go.IntKind (i64 signed u32 u64 wrap wrap_u32)
theorem ur(x y:Fe):∀ (l:List (Nat×Nat)) (r:List (Int×Int)),(∀k,0≤(r.getD k (0,0)).2∧(r.getD k (0,0)).2<18446744073709551616)→∀p∈(gO cm cl x y l r).2,p
 | [],r,_,p,hp=>by simp[gO]at hp
 |(i,j)::l,r,hr,p,hp=>by
  have Hx:(gO cm cl x y ((i,j)::l) r).2=(0≤(cl (r.getD ((i+j)%5) (0,0)).2 (cm (fL x i j) (y.get j)).2 0).2∧(cl (r.getD ((i+j)%5) (0,0)).2 (cm (fL x i j) (y.get j)).2 0).2≤1)::
   (gO cm cl x y l (r.set ((i+j)%5) ((cl (r.getD ((i+j)%5) (0,0)).1 (cm (fL x i j) (y.get j)).1 (cl (r.getD ((i+j)%5) (0,0)).2 (cm (fL x i j) (y.get j)).2 0).2).1,(cl (r.getD ((i+j)%5) (0,0)).2 (cm (fL x i j) (y.get j)).2 0).1))).2:=rfl
  rw[Hx]at hp;have h0:=hr ((i+j)%5);generalize (r.getD ((i+j)%5) (0,0))=q at*
  have hm:0≤(cm (fL x i j) (y.get j)).2∧(cm (fL x i j) (y.get j)).2<18446744073709551616:=by
   show 0≤eL (fL x i j*y.get j)∧eL (fL x i j*y.get j)<18446744073709551616;unfold eL;rw[jy];omega
  have hs:=qn h0.1 hm.1 (c:=0) (by omega);rcases List.mem_cons.1 hp with rfl|hp
  ·rw[hs];show 0≤(q.2+(cm (fL x i j) (y.get j)).2+0)/18446744073709551616∧(q.2+(cm (fL x i j) (y.get j)).2+0)/18446744073709551616≤1;omega
  ·refine ur x y l _ (fun k=>?_) p hp
   have my:∀ (v:Int×Int) (a k:Nat),(r.set a v).getD k (0,0)=r.getD k (0,0)∨(r.set a v).getD k (0,0)=v:=by
    intro v a k;simp only[List.getD_eq_getElem?_getD,List.getElem?_set]
    split
    ·split
     ·exact .inr rfl
     ·rename_i e h;subst e;left;rw[List.getElem?_eq_none (by omega)]
    ·exact .inl rfl
   rcases my _ ((i+j)%5) k with e|e
   ·rw[e];exact hr k
   ·rw[e,hs];show 0≤(q.2+(cm (fL x i j) (y.get j)).2+0)%18446744073709551616∧(q.2+(cm (fL x i j) (y.get j)).2+0)%18446744073709551616<18446744073709551616;omega
def ah6:Fe→Fe:=ud cL
end Go.Proofs.YtcbjpiangpjbgaaGreat
namespace Go.Proofs.YtcbjpiangpjbgaaGreat
open Go Go.Ev BJ Go.Proofs.Tryz
open Go.IntKind (i64 signed u32 u64 wrap wrap_u32)
end Go.Proofs.YtcbjpiangpjbgaaGreat
namespace Go.Proofs.YtcbjpiangpjbgaaGreat
open Go Go.Ev BJ Go.Proofs.Tryz
open Go.IntKind (i64 signed u32 u64 wrap wrap_u32)
def bS: {n:Nat}→Vec Int n→Int
 |0,_=>0
 |_+1,v=>v.1+65536*bS v.2
def u6: {n:Nat}→Vec Int n→Prop
 |0,_=>True
 |_+1,v=>(0≤v.1∧v.1<65536)∧u6 v.2
theorem lS: {n:Nat}→ {v:Vec Int n}→u6 v→0≤bS v
 |0,_,_=>Int.le_refl _
 |n+1,v,h=>by have:=lS h.2;have:=h.1;simp only[bS];omega
theorem TU: {n:Nat}→ {v:Vec Int n}→u6 v→bS v<(65536 ^ n:Nat)
 |0,_,_=>by simp[bS]
 |n+1,v,h=>by
  have h1:=TU h.2;have h2:=h.1;simp only[bS];have e:(65536 ^ (n+1):Nat)=65536*65536 ^ n:=by rw[Nat.pow_succ,Nat.mul_comm]
  rw[e];generalize (65536 ^ n:Nat)=m at*;omega
theorem uu: {n:Nat}→ {v u:Vec Int n}→u6 v→u6 u→bS v=bS u→v=u
 |0,_,_,_,_,_=>rfl
 |n+1,v,u,hv,hu,h=>by
  simp only[bS]at h;have h1:=hv.1;have h2:=hu.1;have e1:v.1=u.1:=by omega
  have e2:bS v.2=bS u.2:=by omega
  exact Prod.ext e1 (uu hv.2 hu.2 e2)
def nM(n:Nat)(V:Int):Vec Int n:=Vec.ofFn n fun j=>V/(65536 ^ j:Nat)%65536
theorem qu:(n:Nat)→(V:Int)→0≤V→u6 (nM n V)∧bS (nM n V)=V%(65536 ^ n:Nat)
 |0,V,h=>⟨trivial,by simp[bS]⟩
 |n+1,V,h=>by
  have e:nM (n+1) V=(V/(65536 ^ 0:Nat)%65536,nM n (V/65536)):=by
   unfold nM;show(_,Vec.ofFn n fun i=>V/(65536 ^ (i+1):Nat)%65536)=_
   have:(fun i:Nat=>V/(65536 ^ (i+1):Nat)%65536)=fun j:Nat=>V/65536/(65536 ^ j:Nat)%65536:=by
    funext j
    rw[Int.ediv_ediv_of_nonneg (by omega)]
    congr 2
    rw[Nat.pow_succ];simp[Int.mul_comm]
   rw[this]
  rw[e];obtain⟨h1,h2⟩:=qu n (V/65536) (by omega);refine⟨⟨by simp only[Nat.pow_zero];omega,h1⟩,?_⟩;show V/(65536 ^ 0:Nat)%65536+65536*bS (nM n (V/65536))=_;rw[h2];have e2:(65536 ^ (n+1):Nat)=65536*65536 ^ n:=by rw[Nat.pow_succ,Nat.mul_comm]
  rw[e2];generalize hm:(65536 ^ n:Nat)=m;have C9:0<(m:Int):=by have:=Nat.pow_pos (n:=n) (show 0<65536 by decide);omega
  have h3:=Int.emod_nonneg (V/65536) (b:=(m:Int)) (by omega);have h4:=Int.emod_lt_of_pos (V/65536) C9;have h5:=Int.emod_add_mul_ediv (V/65536) (m:Int)
  have h6:V=(V%65536+65536*(V/65536%m))+((65536*m:Nat):Int)*(V/65536/m):=by
   rw[Int.natCast_mul,Int.mul_assoc];generalize (m:Int)*(V/65536/m)=z at*;omega
  rw[Nat.pow_zero]
  have h7:V%((65536*m:Nat):Int)=V%65536+65536*(V/65536%m):=by
   conv=>lhs;rw[h6]
   rw[Int.add_mul_emod_self_left];exact Int.emod_eq_of_lt (by omega) (by rw[Int.natCast_mul];omega)
  rw[h7];omega
theorem XD{n:Nat}{v:Vec Int n}(h:u6 v):nM n (bS v)=v:=by
 obtain⟨h1,h2⟩:=qu n (bS v) (lS h);exact uu h1 h (by rw[h2,Int.emod_eq_of_lt (lS h) (TU h)])
theorem Aj{n:Nat}{v:Vec Int n}(h:u6 v){i:Nat}(hi:i<n):v.get i=bS v/(65536 ^ i:Nat)%65536:=by
 conv=>lhs;rw[← XD h]
 unfold nM;rw[get_ofFn hi]
theorem qv{n:Nat}{v:Vec Int n}(h:u6 v){i:Nat}(hi:i<n):0≤v.get i∧v.get i<65536:=by
 rw[Aj h hi];omega
def Bd(B:Int): {n:Nat}→Vec Int n→Prop
 |0,_=>True
 |_+1,v=>(-B≤v.1∧v.1≤B)∧Bd B v.2
def J7: {n:Nat}→Vec Int (n+1)→Int
 |0,_=>0
 |_+1,v=>v.1+65536*J7 v.2
def uv: {n:Nat}→Vec Int (n+1)→Prop
 |0,_=>True
 |_+1,v=>(0≤v.1∧v.1<65536)∧uv v.2
theorem Ak: {n:Nat}→(v:Vec Int (n+1))→bS v=J7 v+(65536 ^ n:Nat)*v.get n
 |0,v=>by simp[bS,J7,Vec.get]
 |n+1,v=>by
  have h:=Ak v.2;show v.1+65536*bS v.2=v.1+65536*J7 v.2+(65536 ^ (n+1):Nat)*Vec.get v.2 n;rw[h];have e:(65536 ^ (n+1):Nat)=65536*65536 ^ n:=by rw[Nat.pow_succ,Nat.mul_comm]
  rw[e,Int.natCast_mul,Int.mul_add,Int.mul_assoc];generalize ((65536 ^ n:Nat):Int)*Vec.get v.2 n=z;omega
theorem wg: {n:Nat}→ {v:Vec Int (n+1)}→uv v→0≤J7 v∧J7 v<(65536 ^ n:Nat)
 |0,_,_=>by simp[J7]
 |n+1,v,h=>by
  obtain⟨h1,h2⟩:=wg h.2;have h3:=h.1;have e:(65536 ^ (n+1):Nat)=65536*65536 ^ n:=by rw[Nat.pow_succ,Nat.mul_comm]
  rw[e];generalize (65536 ^ n:Nat)=m at*;simp only[J7];omega
theorem Al: {n:Nat}→ {v:Vec Int (n+1)}→uv v→(0≤v.get n∧v.get n<65536)→u6 v
 |0,_,_,h=>⟨h,trivial⟩
 |_+1,_,h,h'=>⟨h.1,Al h.2 h'⟩
theorem Pc(x:Int):cA x 65535=x%65536:=p8 (m:=16) (by decide) x 65535 (by decide)
theorem Fs(x:Int):down x 16=x/65536:=ee .i64 x 16 (by decide)
theorem Ft(x:Int):cA x 32767=x%32768:=p8 (m:=15) (by decide) x 32767 (by decide)
theorem apn(x:Int):down x 15=x/32768:=ee .i64 x 15 (by decide)
theorem sd{x:Int}(h0: -9223372036854775808≤x)(h1:x<9223372036854775808):w x=x:=wrap_i64 h0 h1
theorem uw: {n:Nat}→(x:Int)→(v:Vec Int n)→(-(70368744177664+2147483648)≤x∧x≤70368744177664+2147483648)→Bd 70368744177664 v→bS (gW x v)=x+65536*bS v∧uv (gW x v)
 |0,x,v,_,_=>⟨by simp[gW,bS],trivial⟩
 |n+1,x,v,hx,hv=>by
  have h1:=hv.1;have hw:w (v.1+down x 16)=v.1+x/65536:=by rw[Fs];exact sd (by omega) (by omega)
  obtain⟨e1,e2⟩:=uw (n:=n) (v.1+x/65536) v.2 (by omega) hv.2;show cA x 65535+65536*bS (gW (w (v.1+down x 16)) v.2)=x+65536*(v.1+65536*bS v.2)∧((0≤cA x 65535∧cA x 65535<65536)∧uv (gW (w (v.1+down x 16)) v.2));rw[hw,e1,Pc];exact⟨by omega,by omega,e2⟩
theorem XE:(65536 ^ 15:Nat)=1766847064778384329583297500742918515827483896875618958121606201292619776:=by decide
theorem Ci{t:Fn}(h:Bd 70368744177664 t):bS (cN t)=bS t∧uv (n:=15) (cN t):=by
 have h1:=h.1;exact uw (n:=15) t.1 t.2 (by omega) h.2
def kr(V:Int):Int:=V%57896044618658097711785492504343953926634992332820282019728792003956564819968+19*(V/57896044618658097711785492504343953926634992332820282019728792003956564819968)
theorem Fu: {n:Nat}→(f:Int→Int)→(v:Vec Int (n+1))→bS (Vec.nf f n v)=bS v+(65536 ^ n:Nat)*(f (v.get n)-v.get n)
 |0,f,v=>by
  show f v.1+65536*0=v.1+65536*0+(65536 ^ 0:Nat)*(f v.1-v.1);rw[Nat.pow_zero];omega
 |n+1,f,v=>by
  have h:=Fu f v.2;show v.1+65536*bS (Vec.nf f n v.2)=v.1+65536*bS v.2+(65536 ^ (n+1):Nat)*(f (Vec.get v.2 n)-Vec.get v.2 n);rw[h];have e:(65536 ^ (n+1):Nat)=65536*65536 ^ n:=by rw[Nat.pow_succ,Nat.mul_comm]
  rw[e,Int.natCast_mul,Int.mul_add,Int.mul_assoc];generalize ((65536 ^ n:Nat):Int)*(f (Vec.get v.2 n)-Vec.get v.2 n)=z;omega
theorem Pd{B:Int}: {n:Nat}→(f:Int→Int)→(v:Vec Int (n+1))→uv v→65536≤B→(-B≤f (v.get n)∧f (v.get n)≤B)→Bd B (Vec.nf f n v)
 |0,_,_,_,_,h=>⟨h,trivial⟩
 |n+1,f,v,hl,hB,h=>⟨by have:=hl.1;show-B≤v.1∧v.1≤B;omega,Pd f v.2 hl.2 hB h⟩
theorem ah7{V low L:Int}(e3:V=low+(1766847064778384329583297500742918515827483896875618958121606201292619776:Nat)*L)(e4:0≤low)(e5:low<(1766847064778384329583297500742918515827483896875618958121606201292619776:Nat))(h0:0≤V)(h1:V<31828687130226345097944463881396533766429193651030253916189694521162207808802136034115584):
  (0≤L∧L<18014398509481984)∧V+(1766847064778384329583297500742918515827483896875618958121606201292619776:Nat)*(L%32768-L)+19*(L/32768)=kr V:=by
 unfold kr;omega
theorem ah8(r:Fn)(L:Int)(hL:Vec.get (n:=16) r 15=L)(h0:0≤L)(h1:L<18014398509481984)(hd:0≤r.1∧r.1<65536)(hl:uv (n:=15) r):
  Bd 70368744177664 (eM r)∧bS (eM r)=bS r+(1766847064778384329583297500742918515827483896875618958121606201292619776:Nat)*(L%32768-L)+19*(L/32768):=by
 have hu:=Fu (n:=15) (fun x=>cA x 32767) r
 have hb:=Pd (n:=15) (B:=70368744177664) (fun x=>cA x 32767) r hl (by decide) (by
  show-70368744177664≤cA (Vec.get (n:=16) r 15) 32767∧cA (Vec.get (n:=16) r 15) 32767≤70368744177664;rw[Ft];omega)
 rw[hL,XE]at hu;have hu':bS (Vec.nf (n:=16) (fun x=>cA x 32767) 15 r)=bS r+(1766847064778384329583297500742918515827483896875618958121606201292619776:Nat)*(L%32768-L):=by rw[← Ft L];exact hu
 have hw1:w (19*down L 15)=19*(L/32768):=by rw[apn];exact sd (by omega) (by omega)
 have hw2:w (r.1+w (19*down L 15))=r.1+19*(L/32768):=by rw[hw1];exact sd (by omega) (by omega)
 have hf:eM r=(w (r.1+w (19*down (r.get 15) 15)),(Vec.nf (fun x=>cA x 32767) 15 r).2):=rfl;have hs:(Vec.nf (fun x=>cA x 32767) 15 r)=(r.1,(Vec.nf (fun x=>cA x 32767) 15 r).2):=rfl;rw[hf,hL,hw2];rw[hs]at hb hu';generalize (Vec.nf (fun x=>cA x 32767) 15 r).2=z at*;have e1:bS (n:=16) (r.1,z)=r.1+65536*bS z:=rfl;have e2:bS (n:=16) (r.1+19*(L/32768),z)=r.1+19*(L/32768)+65536*bS z:=rfl;rw[e1]at hu';rw[e2];exact⟨⟨by show-70368744177664≤r.1+19*(L/32768)∧r.1+19*(L/32768)≤70368744177664;omega,hb.2⟩,by omega⟩
theorem qw{t:Fn}(h:Bd 70368744177664 t)(h0:0≤bS t)(h1:bS t<31828687130226345097944463881396533766429193651030253916189694521162207808802136034115584):Bd 70368744177664 (eM (cN t))∧bS (eM (cN t))=kr (bS t):=by
 obtain⟨e1,e2⟩:=Ci h;have e3:=Ak (n:=15) (cN t);obtain⟨e4,e5⟩:=wg (n:=15) e2;rw[XE]at e3 e5;rw[e1]at e3;obtain⟨⟨n1,n2⟩,n3⟩:=ah7 e3 e4 e5 h0 h1;obtain⟨f1,f2⟩:=ah8 (cN t) _ rfl n1 n2 e2.1 e2;exact⟨f1,f2.trans (by rw[e1];exact n3)⟩
def nN:Nat→ {n:Nat}→Vec Int n→Int
 |0,_,_=>0
 |k+1,_,v=>nN k v+(65536 ^ k:Nat)*v.get k
theorem se{n:Nat}{v:Vec Int n}(h:u6 v):∀k,k≤n→0≤nN k v∧nN k v<(65536 ^ k:Nat)
 |0,_=>by simp[nN]
 |k+1,hk=>by
  obtain⟨h1,h2⟩:=se h k (by omega);obtain⟨h3,h4⟩:=qv h (i:=k) (by omega);have e:(65536 ^ (k+1):Nat)=65536*65536 ^ k:=by rw[Nat.pow_succ,Nat.mul_comm]
  have e0:nN (k+1) v=nN k v+(65536 ^ k:Nat)*v.get k:=rfl;rw[e,e0];obtain⟨m,hm⟩:∃m:Nat,m=65536 ^ k:=⟨_,rfl⟩;rw[← hm]at h2 ⊢;clear hm e e0;generalize v.get k=d at*;have h5:(m:Int)*d≤m*65535:=Int.mul_le_mul_of_nonneg_left (by omega) (by omega);have h6:0≤(m:Int)*d:=Int.mul_nonneg (by omega) h3;omega
theorem Cj{a b:Fn}(ha:u6 a)(hb:u6 b):∀k,k≤16→iM a b k=decide (nN k a<nN k b)
 |0,_=>by simp[iM,nN]
 |k+1,hk=>by
  have ih:=Cj ha hb k (by omega);obtain⟨a1,a2⟩:=se ha k (by omega);obtain⟨b1,b2⟩:=se hb k (by omega);have e0:nN (k+1) a=nN k a+(65536 ^ k:Nat)*a.get k:=rfl;have e1:nN (k+1) b=nN k b+(65536 ^ k:Nat)*b.get k:=rfl;have e2:iM a b (k+1)=bif a.get k !=b.get k then decide (a.get k<b.get k)else iM a b k:=rfl;rw[e0,e1,e2,ih];obtain⟨m,hm⟩:∃m:Nat,m=65536 ^ k:=⟨_,rfl⟩;rw[← hm]at a2 b2 ⊢;clear hm e0 e1 e2 ih;generalize a.get k=x at*;generalize b.get k=y at*
  by_cases hxy:x=y
  ·subst hxy;simp
  ·have:(x !=y)=true:=(by simpa using hxy);rw[this,cond_true]
   by_cases dU:x<y
   ·have h1:(m:Int)*(x+1)≤m*y:=Int.mul_le_mul_of_nonneg_left (by omega) (by omega);rw[Int.mul_add]at h1;rw[decide_eq_true dU,decide_eq_true];omega
   ·have h1:(m:Int)*(y+1)≤m*x:=Int.mul_le_mul_of_nonneg_left (by omega) (by omega);rw[Int.mul_add]at h1;rw[decide_eq_false dU,decide_eq_false];omega
theorem J8: {n:Nat}→(v:Vec Int (n+1))→(k:Nat)→nN (k+1) v=v.1+65536*nN k v.2
 |_,v,0=>by simp[nN,Vec.get]
 |n,v,k+1=>by
  have h:=J8 v k;have e:(65536 ^ (k+1):Nat)=65536*65536 ^ k:=by rw[Nat.pow_succ,Nat.mul_comm]
  show nN (k+1) v+(65536 ^ (k+1):Nat)*Vec.get v.2 k=v.1+65536*(nN k v.2+(65536 ^ k:Nat)*Vec.get v.2 k);rw[h,e,Int.natCast_mul,Int.mul_add,Int.mul_assoc];generalize ((65536 ^ k:Nat):Int)*Vec.get v.2 k=z;omega
theorem Am: {n:Nat}→(v:Vec Int n)→nN n v=bS v
 |0,_=>rfl
 |n+1,v=>by rw[J8,Am v.2];rfl
def ah9(x:Fn):Prop:=u6 x∧bS x<(pp:Int)
def fn9(x:Fn):F:=cO (bS x)
theorem An:u6 dR:=by simp[dR,u6]
theorem wh:bS dR=(pp:Int):=by decide+kernel
theorem TV: {n:Nat}→(v u:Vec Int n)→u6 v→u6 u→bS (Vec.zip (fun a b=>w (a-b)) v u)=bS v-bS u∧Bd 70368744177664 (Vec.zip (fun a b=>w (a-b)) v u)
 |0,_,_,_,_=>⟨rfl,trivial⟩
 |n+1,v,u,hv,hu=>by
  obtain⟨h1,h2⟩:=TV v.2 u.2 hv.2 hu.2;have h3:=hv.1;have h4:=hu.1;have hw:w (v.1-u.1)=v.1-u.1:=sd (by omega) (by omega);show w (v.1-u.1)+65536*bS (Vec.zip (fun a b=>w (a-b)) v.2 u.2)=v.1+65536*bS v.2-(u.1+65536*bS u.2)∧((-70368744177664≤w (v.1-u.1)∧w (v.1-u.1)≤70368744177664)∧Bd 70368744177664 (Vec.zip (fun a b=>w (a-b)) v.2 u.2));rw[hw,h1];exact⟨by omega,by omega,h2⟩
theorem TW{t:Fn}(h:Bd 70368744177664 t)(h0:0≤bS t)(h1:bS t<57896044618658097711785492504343953926634992332820282019728792003956564819968):u6 (cN t)∧bS (cN t)=bS t:=by
 obtain⟨e1,e2⟩:=Ci h;have e3:=Ak (n:=15) (cN t);obtain⟨e4,e5⟩:=wg (n:=15) e2;rw[XE]at e3 e5;rw[e1]at e3;exact⟨Al (n:=15) e2 (by omega),e1⟩
def dN:Fn→Fn:=auo dR fun a b=>iM a b 16
theorem J9{V:Int}(h0:0≤V)(h1:V<31828687130226345097944463881396533766429193651030253916189694521162207808802136034115584):0≤kr V∧kr V<31828687130226345097944463881396533766429193651030253916189694521162207808802136034115584∧kr V%(pp:Int)=V%(pp:Int):=by
 unfold kr;simp only[pp]at*;refine⟨by omega,by omega,?_⟩;omega
theorem XF{V:Int}(h0:0≤V)(h1:V<31828687130226345097944463881396533766429193651030253916189694521162207808802136034115584):kr (kr V)<57896044618658097711785492504343953926634992332820282019728792003956564819968:=by
 unfold kr;omega
theorem Ka{V:Int}(h0:0≤V)(h1:V<57896044618658097711785492504343953926634992332820282019728792003956564819968):kr V=V:=by
 unfold kr;omega
theorem XG{t:Fn}(h:Bd 70368744177664 t)(h0:0≤bS t)(h1:bS t<31828687130226345097944463881396533766429193651030253916189694521162207808802136034115584):ah9 (dN t)∧bS (dN t)=bS t%(pp:Int):=by
 obtain⟨a1,a2⟩:=qw h h0 h1;obtain⟨r1,r2,r3⟩:=J9 h0 h1;obtain⟨b1,b2⟩:=qw a1 (by rw[a2];exact r1) (by rw[a2];exact r2);rw[a2]at b2;have s4:=XF h0 h1;obtain⟨s1,s2,s3⟩:=J9 r1 r2;obtain⟨c1,c2⟩:=qw b1 (by rw[b2];exact s1) (by rw[b2];exact s2);rw[b2,Ka s1 s4]at c2;obtain⟨d1,d2⟩:=qw c1 (by rw[c2];exact s1) (by rw[c2];exact s2);rw[c2,Ka s1 s4]at d2;obtain⟨f1,f2⟩:=TW d1 (by rw[d2];exact s1) (by rw[d2];exact s4);rw[d2]at f2;have aDP:kr (kr (bS t))%(pp:Int)=bS t%(pp:Int):=s3.trans r3;generalize kr (kr (bS t))=V at*
 have hn:dN t=df (!(iM (cN (eM (cN (eM (cN (eM (cN (eM (cN t))))))))) dR 16)) (cN (Vec.zip (fun a b=>w (a-b)) (cN (eM (cN (eM (cN (eM (cN (eM (cN t))))))))) dR))
  (cN (eM (cN (eM (cN (eM (cN (eM (cN t))))))))):=rfl
 rw[hn];generalize cN (eM (cN (eM (cN (eM (cN (eM (cN t))))))))=r at*;rw[bU,Cj f1 An 16 (by omega),Am,Am,wh,f2]
 by_cases dU:V<(pp:Int)
 ·rw[decide_eq_true dU];show ah9 r∧bS r=_;rw[← aDP,Int.emod_eq_of_lt s1 dU];exact⟨⟨f1,by rw[f2];exact dU⟩,f2⟩
 ·rw[decide_eq_false dU];show ah9 (cN (Vec.zip (fun a b=>w (a-b)) r dR))∧bS (cN (Vec.zip (fun a b=>w (a-b)) r dR))=_;obtain⟨g1,g2⟩:=TV r dR f1 An;rw[f2,wh]at g1;obtain⟨k1,k2⟩:=TW g2 (by rw[g1];omega) (by rw[g1];simp only[pp];omega);rw[g1]at k2
  have hv:V%(pp:Int)=V-(pp:Int):=by
   simp only[pp]at*;omega
  exact⟨⟨k1,by rw[k2];simp only[pp]at*;omega⟩,by rw[k2,← aDP,hv]⟩
theorem apo{t:Fn}(h:Bd 70368744177664 t)(h0:0≤bS t)(h1:bS t<31828687130226345097944463881396533766429193651030253916189694521162207808802136034115584):ah9 (dN t)∧fn9 (dN t)=cO (bS t):=by
 obtain⟨e1,e2⟩:=XG h h0 h1;refine⟨e1,?_⟩;unfold fn9;rw[e2,TM,Int.emod_emod]
end Go.Proofs.YtcbjpiangpjbgaaGreat
namespace Go.Proofs.YtcbjpiangpjbgaaGreat
open Go Go.Ev BJ Go.Proofs.Tryz
open Go.IntKind (i64 signed u32 u64 wrap wrap_u32)
set_option maxRecDepth 100000
theorem p16:(65536 ^ 16:Nat)=115792089237316195423570985008687907853269984665640564039457584007913129639936:=by decide
def bt(a:F):Fn:=nM 16 (a.val:Int)
theorem fX(a:F):u6 (bt a)∧bS (bt a)=(a.val:Int):=by
 obtain⟨h1,h2⟩:=qu 16 (a.val:Int) (by omega);have:=a.isLt;refine⟨h1,h2.trans (Int.emod_eq_of_lt (by omega) ?_)⟩;rw[p16];simp only[pp]at this;omega
theorem apq{x:Fn}(h:ah9 x):bt (fn9 x)=x:=by
 obtain⟨h1,h2⟩:=fX (fn9 x);refine uu h1 h.1 (h2.trans ?_);unfold fn9;rw[ef,Int.emod_eq_of_lt (lS h.1) h.2]
theorem aia{a b:F}(h:bt a=bt b):a=b:=xc (by rw[← (fX a).2,← (fX b).2,h])
theorem Ao(a b:F):mn (bt a) (bt b)=decide (a=b):=by
 by_cases h:a=b
 ·subst h;rw[decide_eq_true rfl];exact(kF _ _).2 rfl
 ·rw[decide_eq_false h];exact Bool.eq_false_iff.2 fun e=>h (aia ((kF _ _).1 e))
theorem ux{t:Fn}(h:Bd 70368744177664 t)(h0:0≤bS t)(h1:bS t<31828687130226345097944463881396533766429193651030253916189694521162207808802136034115584):dN t=bt (cO (bS t)):=by
 obtain⟨e1,e2⟩:=apo h h0 h1;rw[← e2,apq e1]
theorem Fv: {n:Nat}→(v u:Vec Int n)→u6 v→u6 u→bS (Vec.zip (fun a b=>w (a+b)) v u)=bS v+bS u∧Bd 131072 (Vec.zip (fun a b=>w (a+b)) v u)
 |0,_,_,_,_=>⟨rfl,trivial⟩
 |n+1,v,u,hv,hu=>by
  obtain⟨h1,h2⟩:=Fv v.2 u.2 hv.2 hu.2;have h3:=hv.1;have h4:=hu.1;have hw:w (v.1+u.1)=v.1+u.1:=sd (by omega) (by omega);show w (v.1+u.1)+65536*bS (Vec.zip (fun a b=>w (a+b)) v.2 u.2)=v.1+65536*bS v.2+(u.1+65536*bS u.2)∧((-131072≤w (v.1+u.1)∧w (v.1+u.1)≤131072)∧Bd 131072 (Vec.zip (fun a b=>w (a+b)) v.2 u.2));rw[hw,h1];exact⟨by omega,by omega,h2⟩
theorem TX: {n:Nat}→(v u:Vec Int n)→Bd 131072 v→u6 u→bS (Vec.zip (fun a b=>w (a-b)) v u)=bS v-bS u∧Bd 262144 (Vec.zip (fun a b=>w (a-b)) v u)
 |0,_,_,_,_=>⟨rfl,trivial⟩
 |n+1,v,u,hv,hu=>by
  obtain⟨h1,h2⟩:=TX v.2 u.2 hv.2 hu.2;have h3:=hv.1;have h4:=hu.1;have hw:w (v.1-u.1)=v.1-u.1:=sd (by omega) (by omega);show w (v.1-u.1)+65536*bS (Vec.zip (fun a b=>w (a-b)) v.2 u.2)=v.1+65536*bS v.2-(u.1+65536*bS u.2)∧((-262144≤w (v.1-u.1)∧w (v.1-u.1)≤262144)∧Bd 262144 (Vec.zip (fun a b=>w (a-b)) v.2 u.2));rw[hw,h1];exact⟨by omega,by omega,h2⟩
theorem Fw{B B':Int}(hB:B≤B'): {n:Nat}→ {v:Vec Int n}→Bd B v→Bd B' v
 |0,_,_=>trivial
 |_+1,_,h=>⟨by have:=h.1;omega,Fw hB h.2⟩
theorem sg(a:F):0≤(a.val:Int)∧(a.val:Int)<(pp:Int):=⟨by omega,by have:=a.isLt;omega⟩
theorem wi(a:F):cO (a.val:Int)=a:=xc (by rw[ef,Int.emod_eq_of_lt (sg a).1 (sg a).2])
def fY:Fn→Fn→Fn:=ax3 dN
def iN:Fn→Fn→Fn:=ax4 dR dN
def fb(x:Fn):Fn:=iN cI x
def bx:Fn→Fn→Fn:=ax5 dN
theorem uy(a b:F):fY (bt a) (bt b)=bt (a+b):=by
 obtain⟨a1,a2⟩:=fX a;obtain⟨b1,b2⟩:=fX b;obtain⟨z1,z2⟩:=Fv (bt a) (bt b) a1 b1;have ha:=sg a;have hb:=sg b;rw[a2,b2]at z1;show dN (Vec.zip (fun a b=>w (a+b)) (bt a) (bt b))=_;rw[ux (Fw (by decide) z2) (by rw[z1];omega) (by rw[z1];simp only[pp]at*;omega),z1,g9,wi,wi]
theorem apr:cO (pp:Int)=0:=by
 have:=Ac 0 1;rw[Int.one_mul,Int.zero_add]at this;rw[this,JX]
theorem Ap(a b:F):iN (bt a) (bt b)=bt (a-b):=by
 obtain⟨a1,a2⟩:=fX a;obtain⟨b1,b2⟩:=fX b;obtain⟨z1,z2⟩:=Fv (bt a) dR a1 An;obtain⟨y1,y2⟩:=TX (Vec.zip (fun a b=>w (a+b)) (bt a) dR) (bt b) z2 b1;have ha:=sg a;have hb:=sg b;rw[z1,a2,b2,wh]at y1;show dN (Vec.zip (fun a b=>w (a-b)) (Vec.zip (fun a b=>w (a+b)) (bt a) dR) (bt b))=_;rw[ux (Fw (by decide) y2) (by rw[y1];omega) (by rw[y1];simp only[pp]at*;omega),y1,TN,g9,wi,wi,apr,show a+0-b=a-b from by grobner]
theorem pr:cI=bt 0:=by
 have h:u6 cI:=by simp[cI,u6]
 obtain⟨h1,h2⟩:=fX 0;refine uu h h1 (Eq.trans (?_ :bS cI=0) h2.symm);decide
theorem uz(a:F):fb (bt a)=bt (-a):=by
 unfold fb;rw[pr,Ap,show(0:F)-a= -a from by grobner]
def dG(f:Nat→Int):Nat→Int
 |0=>0
 |n+1=>dG f n+f n
theorem gz{f g:Nat→Int}:∀ {n:Nat},(∀i,i<n→f i=g i)→dG f n=dG g n
 |0,_=>rfl
 |n+1,h=>by simp only[dG];rw[gz fun i hi=>h i (by omega),h n (by omega)]
theorem Aq(f g:Nat→Int):∀n,dG (fun i=>f i+g i) n=dG f n+dG g n
 |0=>rfl
 |n+1=>by simp only[dG];rw[Aq f g n];omega
theorem pA(c:Int)(f:Nat→Int):∀n,dG (fun i=>c*f i) n=c*dG f n
 |0=>by simp[dG]
 |n+1=>by simp only[dG];rw[pA c f n,Int.mul_add]
theorem wj:∀n,dG (fun _=>0) n=0
 |0=>rfl
 |n+1=>by simp only[dG];rw[wj n];rfl
theorem nO{f:Nat→Int}{c:Int}:∀ {n:Nat},(∀i,i<n→0≤f i∧f i≤c)→0≤dG f n∧dG f n≤n*c
 |0,_=>by simp[dG]
 |n+1,h=>by
  obtain⟨h1,h2⟩:=nO (n:=n) fun i hi=>h i (by omega);have h3:=h n (by omega);simp only[dG];rw[Int.natCast_add,Int.add_mul];omega
theorem Ar(g:Nat→Int)(n m:Nat):∀k,k≤m→dG (fun j=>if n≤j∧j-n<m then g (j-n)else 0) (n+k)=dG g k
 |0,_=>by
  show dG _ n=0;rw[gz (g:=fun _=>0) fun j hj=>by rw[if_neg (by omega)],wj]
 |k+1,hk=>by
  show dG _ (n+k)+(if n≤n+k∧n+k-n<m then g (n+k-n)else 0)=dG g k+g k;rw[Ar g n m k (by omega),if_pos (by omega),show n+k-n=k from by omega]
theorem Cl(f:Nat→Int)(n:Nat):∀k,(∀j,n≤j→j<n+k→f j=0)→dG f (n+k)=dG f n
 |0,_=>rfl
 |k+1,h=>by
  show dG f (n+k)+f (n+k)=_;rw[Cl f n k fun j h1 h2=>h j h1 (by omega),h (n+k) (by omega) (by omega)];omega
def conv(f g:Nat→Int)(n j:Nat):Int:=dG (fun i=>if i≤j∧j-i<16 then f i*g (j-i)else 0) n
theorem Kb(f g:Nat→Int)(B:Int):∀n,n≤16→dG (fun j=>B ^ j*conv f g n j) 32=dG (fun i=>B ^ i*f i) n*dG (fun i=>B ^ i*g i) 16
 |0,_=>by
  rw[gz (g:=fun _=>0) fun j _=>by simp[conv,dG],wj];simp[dG]
 |n+1,hn=>by
  have e:∀j,B ^ j*conv f g (n+1) j=B ^ j*conv f g n j+(if n≤j∧j-n<16 then B ^ n*f n*(B ^ (j-n)*g (j-n))else 0):=fun j=>by
   show B ^ j*(conv f g n j+(if n≤j∧j-n<16 then f n*g (j-n)else 0))=_;rw[Int.mul_add]
   congr 1
   by_cases h:n≤j∧j-n<16
   ·rw[if_pos h,if_pos h];have:B ^ j=B ^ n*B ^ (j-n):=(by rw[← Int.pow_add];congr 1;omega);rw[this];generalize B ^ n=p;generalize B ^ (j-n)=q;rw[Int.mul_assoc,Int.mul_assoc,← Int.mul_assoc q,Int.mul_comm q (f n),Int.mul_assoc (f n)]
   ·rw[if_neg h,if_neg h,Int.mul_zero]
  rw[gz fun j _=>e j,Aq,Kb f g B n (by omega)]
  have h2:dG (fun j=>if n≤j∧j-n<16 then B ^ n*f n*(B ^ (j-n)*g (j-n))else 0) 32=dG (fun i=>B ^ n*f n*(B ^ i*g i)) 16:=by
   have h3:=Ar (fun i=>B ^ n*f n*(B ^ i*g i)) n 16 16 (by omega);have h4:=Cl (fun j=>if n≤j∧j-n<16 then B ^ n*f n*(B ^ (j-n)*g (j-n))else 0) (n+16) (16-n) (fun j h1 _=>if_neg (by omega));rw[show n+16+(16-n)=32 from by omega]at h4;rw[h4];exact h3
  rw[h2,pA];simp only[dG];rw[Int.add_mul]
theorem Cn(f:Nat→Int):∀n,dG f (n+1)=f 0+dG (fun i=>f (i+1)) n
 |0=>by simp[dG]
 |n+1=>by
  show dG f (n+1)+f (n+1)=f 0+(dG (fun i=>f (i+1)) n+f (n+1));rw[Cn f n];omega
theorem qA: {n:Nat}→(v:Vec Int n)→bS v=dG (fun i=>65536 ^ i*v.get i) n
 |0,_=>rfl
 |n+1,v=>by
  show v.1+65536*bS v.2=_;rw[qA v.2,Cn];show _=65536 ^ 0*v.1+dG (fun i=>65536 ^ (i+1)*Vec.get v.2 i) n;rw[← pA,Int.pow_zero,Int.one_mul]
  congr 1
  apply gz
  intro i _;rw[Int.pow_succ,Int.mul_comm (65536 ^ i) 65536,Int.mul_assoc]
theorem XH{x y:Fn}(hx:u6 x)(hy:u6 y)(j:Nat):ug x y j=conv x.get y.get 16 j∧0≤conv x.get y.get 16 j∧conv x.get y.get 16 j≤68717379600:=by
 have Kc:∀i,i<16→0≤(if i≤j∧j-i<16 then x.get i*y.get (j-i)else 0)∧(if i≤j∧j-i<16 then x.get i*y.get (j-i)else 0)≤4294836225:=fun i hi=>by
  split
  ·rename_i h;obtain⟨h1,h2⟩:=qv hx (i:=i) hi;obtain⟨h3,h4⟩:=qv hy (i:=j-i) h.2;refine⟨Int.mul_nonneg h1 h3,?_⟩;have:=Int.mul_le_mul (a:=x.get i) (b:=y.get (j-i)) (c:=65535) (d:=65535) (by omega) (by omega) h3 (by omega);omega
  ·omega
 have key:∀n,n≤16→(List.range n).foldl (fun acc i=>if i≤j∧j-i<16 then w (acc+w (x.get i*y.get (j-i)))else acc) 0=conv x.get y.get n j:=by
  intro n
  induction n with
  |zero=>intro _;rfl
  |succ n ih=>
   intro hn;rw[List.range_succ,List.foldl_append,ih (by omega)];simp only[List.foldl_cons,List.foldl_nil];have hb:=nO (c:=4294836225) (n:=n) fun i hi=>Kc i (by omega);have ht:=Kc n (by omega);show _=conv x.get y.get n j+(if n≤j∧j-n<16 then x.get n*y.get (j-n)else 0);have hc:0≤conv x.get y.get n j∧conv x.get y.get n j≤n*4294836225:=hb
   split
   ·rename_i h;rw[if_pos h]at ht;rw[sd (x:=x.get n*y.get (j-n)) (by omega) (by omega),sd (by omega) (by omega)]
   ·omega
 have hb:=nO (c:=4294836225) (n:=16) Kc;exact⟨key 16 (by omega),hb⟩
theorem XI(f:Nat→Int):∀n,bS (Vec.ofFn n f)=dG (fun i=>65536 ^ i*f i) n:=fun n=>by
 rw[qA];exact gz fun i hi=>by rw[get_ofFn hi]
theorem TY{B:Int}{f:Nat→Int}:∀ {n:Nat},(∀i,i<n→ -B≤f i∧f i≤B)→Bd B (Vec.ofFn n f)
 |0,_=>trivial
 |n+1,h=>⟨h 0 (by omega),TY (n:=n) fun i hi=>h (i+1) (by omega)⟩
theorem As(f:Nat→Int)(n:Nat):∀k,dG f (n+k)=dG f n+dG (fun i=>f (n+i)) k
 |0=>by simp[dG]
 |k+1=>by
  show dG f (n+k)+f (n+k)=dG f n+(dG (fun i=>f (n+i)) k+f (n+k));rw[As f n k];omega
theorem aps:cO (65536 ^ 16)=38:=by decide+kernel
theorem t38:cO 38=38:=by decide+kernel
theorem eN(a b:F):bx (bt a) (bt b)=bt (a*b):=by
 obtain⟨a1,a2⟩:=fX a;obtain⟨b1,b2⟩:=fX b;generalize bt a=x at*;generalize bt b=y at*;have hc:=fun j=>XH a1 b1 j
 have hd:∀i,i<16→w (ug x y i+w (38*ug x y (i+16)))=conv x.get y.get 16 i+38*conv x.get y.get 16 (i+16):=fun i _=>by
  obtain⟨e1,e2,e3⟩:=hc i;obtain⟨f1,f2,f3⟩:=hc (i+16);rw[e1,f1,sd (x:=38*_) (by omega) (by omega),sd (by omega) (by omega)]
 have hz:Vec.ofFn 16 (fun i=>w (ug x y i+w (38*ug x y (i+16))))=Vec.ofFn 16 (fun i=>conv x.get y.get 16 i+38*conv x.get y.get 16 (i+16)):=jE hd;show dN (Vec.ofFn 16 fun i=>w (ug x y i+w (38*ug x y (i+16))))=_;rw[hz];have hv:=XI (fun i=>conv x.get y.get 16 i+38*conv x.get y.get 16 (i+16)) 16
 have hb:Bd 70368744177664 (Vec.ofFn 16 (fun i=>conv x.get y.get 16 i+38*conv x.get y.get 16 (i+16))):=TY fun i _=>by
  obtain⟨_,e2,e3⟩:=hc i;obtain⟨_,f2,f3⟩:=hc (i+16);omega
 have hcv:=Kb x.get y.get 65536 16 (by omega);rw[← qA,← qA,a2,b2,As _ 16 16]at hcv
 have hF:cO (bS (Vec.ofFn 16 (fun i=>conv x.get y.get 16 i+38*conv x.get y.get 16 (i+16))))=a*b:=by
  rw[hv,gz (g:=fun i=>65536 ^ i*conv x.get y.get 16 i+38*(65536 ^ i*conv x.get y.get 16 (i+16))) fun i _=>by
   rw[Int.mul_add,← Int.mul_assoc,← Int.mul_assoc,Int.mul_comm (65536 ^ i) 38],Aq,pA,g9,kG,t38]
  have h1:=congrArg cO hcv;rw[g9,kG,wi,wi]at h1
  have h2:dG (fun i=>65536 ^ (16+i)*conv x.get y.get 16 (16+i)) 16=65536 ^ 16*dG (fun i=>65536 ^ i*conv x.get y.get 16 (i+16)) 16:=by
   rw[← pA]
   apply gz
   intro i _;rw[Int.pow_add,Int.mul_assoc,Nat.add_comm 16 i]
  rw[h2,kG,aps]at h1;exact h1
 have hnn:0≤bS (Vec.ofFn 16 (fun i=>conv x.get y.get 16 i+38*conv x.get y.get 16 (i+16)))∧bS (Vec.ofFn 16 (fun i=>conv x.get y.get 16 i+38*conv x.get y.get 16 (i+16)))<31828687130226345097944463881396533766429193651030253916189694521162207808802136034115584:=by
  rw[hv]
  have Kc:∀i,i<16→0≤(65536:Int) ^ i*(conv x.get y.get 16 i+38*conv x.get y.get 16 (i+16))∧(65536:Int) ^ i*(conv x.get y.get 16 i+38*conv x.get y.get 16 (i+16))≤1766847064778384329583297500742918515827483896875618958121606201292619776*2679977804400:=fun i hi=>by
   obtain⟨_,e2,e3⟩:=hc i;obtain⟨_,f2,f3⟩:=hc (i+16);have BE:(0:Int)≤65536 ^ i:=Int.pow_nonneg (by omega)
   have ZS:(65536:Int) ^ i≤1766847064778384329583297500742918515827483896875618958121606201292619776:=by
    have h1:(65536 ^ i:Nat)≤65536 ^ 15:=Nat.pow_le_pow_right (by omega) (by omega);rw[XE]at h1;have h2:((65536 ^ i:Nat):Int)=65536 ^ i:=(by simp);omega
   exact⟨Int.mul_nonneg BE (by omega),Int.mul_le_mul ZS (by omega) (by omega) (by omega)⟩
  have:=nO Kc;omega
 rw[ux hb hnn.1 hnn.2,hF]
end Go.Proofs.YtcbjpiangpjbgaaGreat
end
