/- What the laws lean on, part 15: a reader of code, plain facts, and what each function gives; no conditions. -/
import Derived.Test.YtnbkagglkajbkaaGreatA14
set_option linter.unusedVariables false
set_option linter.unusedSimpArgs false
noncomputable section
namespace Go.Proofs.YtnbkagglkajbkaaGreat
open Go Go.Ev BJ Go.Proofs.Tryz
open Go.IntKind (i64 signed u16 u64 wrap)
def tz(f:Nat→Int):Nat→Int
 |0=>0
 |n+1=>tz f n+f n*(256 ^ n:Nat)
theorem NB(f:Nat→Int):∀n,n≤8→(∀i,i<n→0≤f i∧f i<256)→
  (List.range n).foldl (fun acc i=>bn .u64 acc (shl .u64 (eJ (f i)) ((8*i:Nat):Int))) 0=tz f n∧0≤tz f n∧tz f n<(256 ^ n:Nat)
 |0,_,_=>⟨rfl,by simp[tz],by simp[tz]⟩
 |n+1,hn,hf=>by
  obtain⟨h1,h2,h3⟩:=NB f n (by omega) fun i hi=>hf i (by omega);have h4:=hf n (by omega);rw[List.range_succ,List.foldl_append,h1];simp only[List.foldl_cons,List.foldl_nil,tz];have hle:256 ^ n≤256 ^ 7:=Nat.pow_le_pow_right (by omega) (by omega);have h7:(256:Nat) ^ 7=72057594037927936:=by decide
  have e8:(2 ^ (8*n):Nat)=256 ^ n:=by rw[Nat.pow_mul]
  have hmul:0≤f n*(256 ^ n:Nat)∧f n*(256 ^ n:Nat)≤255*(256 ^ n:Nat):=⟨Int.mul_nonneg h4.1 (Int.natCast_nonneg _),Int.mul_le_mul_of_nonneg_right (by omega) (Int.natCast_nonneg _)⟩;have hm:f n*(256 ^ n:Nat)%(256 ^ n:Nat)=0:=Int.mul_emod_left _ _
  have e:shl .u64 (eJ (f n)) ((8*n:Nat):Int)=f n*(256 ^ n:Nat):=by
   rw[gd .u64 _ _ (by show 8*n≤64;omega),e8];unfold eJ;rw[wrap_u64 (n:=f n) (by omega) (by omega)];exact wrap_u64 hmul.1 (by omega)
  have e2:(256 ^ (n+1):Nat)=256*256 ^ n:=by rw[Nat.pow_succ,Nat.mul_comm]
  rw[e,gY,ow (m:=8*n) hmul.1 (by rw[e8];exact hm) h2 (by rw[e8];exact h3) (by omega),e2];refine⟨by omega,by omega,by omega⟩
theorem get_ofFn{f:Nat→Int}:∀ {n i:Nat},i<n→Vec.get (Vec.ofFn n f) i=f i
 |0,_,h=>absurd h (by omega)
 |n+1,0,_=>rfl
 |n+1,i+1,h=>by
  show Vec.get (Vec.ofFn n fun k=>f (k+1)) i=_;rw[get_ofFn (n:=n) (by omega)]
theorem oL{n:Nat}{v:Vec Int n}(h:m8 v){i:Nat}(hi:i<n):v.get i=bx v/(256 ^ i:Nat)%256:=by
 conv=>lhs;rw[← abx h]
 unfold zl;rw[get_ofFn hi]
theorem qO{n:Nat}{v:Vec Int n}(h:m8 v){i:Nat}(hi:i<n):0≤v.get i∧v.get i<256:=by
 rw[oL h hi];omega
theorem NC(V:Int)(hV:0≤V):∀n,tz (fun i=>V/(256 ^ i:Nat)%256) n=V%(256 ^ n:Nat)
 |0=>by simp[tz]
 |n+1=>by
  simp only[tz];rw[NC V hV n];have e2:(256 ^ (n+1):Nat)=256 ^ n*256:=Nat.pow_succ ..;rw[e2];generalize hm:(256 ^ n:Nat)=m;have GH:0<(m:Int):=by have:=Nat.pow_pos (n:=n) (show 0<256 by decide);omega
  have h3:=Int.emod_nonneg V (b:=(m:Int)) (by omega);have h4:=Int.emod_lt_of_pos V GH;have h5:=Int.emod_add_mul_ediv V (m:Int)
  have h6:V=(V%m+V/m%256*m)+((m*256:Nat):Int)*(V/m/256):=by
   rw[Int.natCast_mul,Int.mul_assoc];have h7:V/m=V/m%256+256*(V/m/256):=(by omega);have h8:(m:Int)*(V/m)=m*(V/m%256)+m*(256*(V/m/256)):=(by rw[← Int.mul_add,← h7]);rw[Int.mul_comm (V/m%256) m];have h9:(m:Int)*(((256:Nat):Int)*(V/m/256))=m*(256*(V/m/256)):=rfl;rw[h9];omega
  have h10:0≤V/m%256*m∧V/m%256*m≤255*m:=⟨Int.mul_nonneg (by omega) (by omega),Int.mul_le_mul_of_nonneg_right (by omega) (by omega)⟩
  conv=>rhs;rw[h6]
  rw[Int.add_mul_emod_self_left];exact(Int.emod_eq_of_lt (by omega) (by rw[Int.natCast_mul];omega)).symm
theorem wv{b:cR}(h:m8 b)(j:Nat)(hj:j<4):word b j=bx b/(256 ^ (8*j):Nat)%18446744073709551616:=by
 have h1:=(NB (fun i=>b.get (8*j+i)) 8 (by omega) fun i hi=>qO h (by omega)).1;have hV:=cH h;unfold word;rw[h1]
 have h2:tz (fun i=>b.get (8*j+i)) 8=tz (fun i=>bx b/(256 ^ (8*j):Nat)/(256 ^ i:Nat)%256) 8:=by
  have key:∀n,n≤8→tz (fun i=>b.get (8*j+i)) n=tz (fun i=>bx b/(256 ^ (8*j):Nat)/(256 ^ i:Nat)%256) n:=by
   intro n
   induction n with
   |zero=>intro _;rfl
   |succ n ih=>
    intro hn;simp only[tz];rw[ih (by omega),oL h (by omega),Int.ediv_ediv_of_nonneg (Int.natCast_nonneg _),← Int.natCast_mul,← Nat.pow_add]
  exact key 8 (by omega)
 rw[h2,NC _ (Int.ediv_nonneg hV (Int.natCast_nonneg _)) 8];rfl
theorem ajU{b:cR}(h:m8 b):fZ (gy b)∧fT (gy b)=bx b%57896044618658097711785492504343953926634992332820282019728792003956564819968:=by
 have hV:=cH h;have hV2:=mA h;rw[apV]at hV2;have w0:=wv h 0 (by omega);have w1:=wv h 1 (by omega);have w2:=wv h 2 (by omega);have w3:=wv h 3 (by omega);have q0:(256 ^ (8*0):Nat)=1:=by decide
 have q1:(256 ^ (8*1):Nat)=18446744073709551616:=by decide
 have q2:(256 ^ (8*2):Nat)=340282366920938463463374607431768211456:=by decide
 have q3:(256 ^ (8*3):Nat)=6277101735386680763835789423207666416102355444464034512896:=by decide
 rw[q0]at w0;rw[q1]at w1;rw[q2]at w2;rw[q3]at w3;unfold gy;rw[w0,w1,w2,w3];generalize bx b=V at*;obtain⟨a0,ha0⟩:∃a,a=V/((1:Nat):Int)%18446744073709551616:=⟨_,rfl⟩;obtain⟨a1,ha1⟩:∃a,a=V/((18446744073709551616:Nat):Int)%18446744073709551616:=⟨_,rfl⟩;obtain⟨a2,ha2⟩:∃a,a=V/((340282366920938463463374607431768211456:Nat):Int)%18446744073709551616:=⟨_,rfl⟩;obtain⟨a3,ha3⟩:∃a,a=V/((6277101735386680763835789423207666416102355444464034512896:Nat):Int)%18446744073709551616:=⟨_,rfl⟩;rw[← ha0,← ha1,← ha2,← ha3];have sh:∀ (x:Int) (n:Nat),n≤64→bH x n=x/(2 ^ n:Nat):=fun x n hn=>c9 .u64 x n hn;have sl:∀ (x:Int) (n:Nat),n≤64→shl .u64 x n=x*(2 ^ n:Nat)%18446744073709551616:=fun x n hn=>by rw[gd .u64 x n hn,ly]
 have s51:=sh a0 51 (by decide);have s38:=sh a1 38 (by decide);have s25:=sh a2 25 (by decide);have s12:=sh a3 12 (by decide);have l13:=sl a1 13 (by decide);have l26:=sl a2 26 (by decide);have l39:=sl a3 39 (by decide);have e51:(2 ^ 51:Nat)=2251799813685248:=by decide
 have e38:(2 ^ 38:Nat)=274877906944:=by decide
 have e25:(2 ^ 25:Nat)=33554432:=by decide
 have e12:(2 ^ 12:Nat)=4096:=by decide
 have e13:(2 ^ 13:Nat)=8192:=by decide
 have e26:(2 ^ 26:Nat)=67108864:=by decide
 have e39:(2 ^ 39:Nat)=549755813888:=by decide
 rw[e51]at s51;rw[e38]at s38;rw[e25]at s25;rw[e12]at s12;rw[e13]at l13;rw[e26]at l26;rw[e39]at l39
 have o1:bn .u64 (bH a0 51) (shl .u64 a1 13)=a0/2251799813685248+a1*8192%18446744073709551616:=by
  have e:bn .u64 (shl .u64 a1 13) (bH a0 51)=shl .u64 a1 13+bH a0 51:=ow (m:=13) (by rw[show shl .u64 a1 13=_ from l13];omega) (by rw[show shl .u64 a1 13=_ from l13,e13];omega) (by rw[show bH a0 51=_ from s51];omega) (by rw[show bH a0 51=_ from s51,e13];omega) (by rw[show shl .u64 a1 13=_ from l13,show bH a0 51=_ from s51];omega);rw[gY,e,show shl .u64 a1 13=_ from l13,show bH a0 51=_ from s51];omega
 have o2:bn .u64 (bH a1 38) (shl .u64 a2 26)=a1/274877906944+a2*67108864%18446744073709551616:=by
  have e:bn .u64 (shl .u64 a2 26) (bH a1 38)=shl .u64 a2 26+bH a1 38:=ow (m:=26) (by rw[show shl .u64 a2 26=_ from l26];omega) (by rw[show shl .u64 a2 26=_ from l26,e26];omega) (by rw[show bH a1 38=_ from s38];omega) (by rw[show bH a1 38=_ from s38,e26];omega) (by rw[show shl .u64 a2 26=_ from l26,show bH a1 38=_ from s38];omega);rw[gY,e,show shl .u64 a2 26=_ from l26,show bH a1 38=_ from s38];omega
 have o3:bn .u64 (bH a2 25) (shl .u64 a3 39)=a2/33554432+a3*549755813888%18446744073709551616:=by
  have e:bn .u64 (shl .u64 a3 39) (bH a2 25)=shl .u64 a3 39+bH a2 25:=ow (m:=39) (by rw[show shl .u64 a3 39=_ from l39];omega) (by rw[show shl .u64 a3 39=_ from l39,e39];omega) (by rw[show bH a2 25=_ from s25];omega) (by rw[show bH a2 25=_ from s25,e39];omega) (by rw[show shl .u64 a3 39=_ from l39,show bH a2 25=_ from s25];omega);rw[gY,e,show shl .u64 a3 39=_ from l39,show bH a2 25=_ from s25];omega
 rw[o1,o2,o3,show bH a3 12=_ from s12];simp only[wq];constructor
 ·simp only[fZ,Ny];omega
 ·simp only[fT];omega
end Go.Proofs.YtnbkagglkajbkaaGreat
namespace BJ
theorem F.pow_add(a:F)(m n:Nat):F.pow a (m+n)=F.pow a m*F.pow a n:=by
 induction n with
 |zero=>rw[Nat.add_zero,F.pow_zero];grobner
 |succ n ih=>rw[← Nat.add_assoc,F.pow_succ,ih,F.pow_succ];grobner
theorem F.oM(a:F)(m:Nat):F.pow a (2*m)=F.pow a m*F.pow a m:=by rw[Nat.two_mul,F.pow_add]
def rootOf(a:F):F×Bool:=
 let r:=F.pow a ((pp+3)/8)
 let r1:=if r*r=a then r else r*F.pow 2 ((pp-1)/4)
 if r1*r1=a then(if r1.val%2=1 then-r1 else r1,true)else(0,false)
def ln(u v:F):F×Bool:=if v=0 then(0,decide (u=0))else rootOf (u*F.inv v)
end BJ
namespace Go.Proofs.YtnbkagglkajbkaaGreat
open Go Go.Ev BJ Go.Proofs.Tryz
open Go.IntKind (i64 signed u16 u64 wrap)
theorem tA(x:Int):c5 .u8 x 128=x%128:=by
 have e:c5 .u8 x 128=aI .u8 x 127:=by
  unfold c5 aI;have:(~~~BitVec.ofInt IntKind.u8.bits 128)=BitVec.ofInt IntKind.u8.bits 127:=by decide
  rw[this]
 rw[e];exact sY (m:=7) (by decide) x 127 (by decide)
theorem ND(g:Int→Int):∀ {n:Nat} {v:Vec Int (n+1)},m8 v→(∀x,0≤x→x<256→0≤g x∧g x<256)→
  m8 (Vec.oa g n v)∧bx (Vec.oa g n v)=bx v-v.get n*(256 ^ n:Nat)+g (v.get n)*(256 ^ n:Nat)
 |0,v,h,hg=>by
  obtain⟨x,u⟩:=v;refine⟨⟨hg x h.1.1 h.1.2,h.2⟩,?_⟩;show g x+256*0=x+256*0-x*((256 ^ 0:Nat):Int)+g x*((256 ^ 0:Nat):Int);rw[Nat.pow_zero];omega
 |n+1,v,h,hg=>by
  obtain⟨x,u⟩:=v;obtain⟨h1,h2⟩:=ND g (n:=n) (v:=u) h.2 hg;refine⟨⟨h.1,h1⟩,?_⟩;show x+256*bx (Vec.oa g n u)=x+256*bx u-Vec.get u n*((256 ^ (n+1):Nat):Int)+g (Vec.get u n)*((256 ^ (n+1):Nat):Int);rw[h2];have e2:(256 ^ (n+1):Nat)=256*256 ^ n:=by rw[Nat.pow_succ,Nat.mul_comm]
  rw[e2,Int.natCast_mul];have sw:∀a b:Int,a*(((256:Nat):Int)*b)=256*(a*b):=fun a b=>by rw[← Int.mul_assoc,Int.mul_comm a,Int.mul_assoc];rfl
  rw[sw,sw];omega
theorem aBI:(256 ^ 31:Nat)=452312848583266388373324160190187140051835877600158453279131187530910662656:=by decide
theorem yf{b:cR}(h:m8 b):m8 (ia b)∧bx (ia b)=bx b%57896044618658097711785492504343953926634992332820282019728792003956564819968:=by
 obtain⟨h1,h2⟩:=ND (fun x=>c5 .u8 x 128) (n:=31) h fun x h1 h2=>by show 0≤c5 .u8 x 128∧c5 .u8 x 128<256;rw[tA];omega
 refine⟨h1,h2.trans ?_⟩;have hV:=cH h;have hV2:=mA h;rw[apV]at hV2;show bx b-b.get 31*_+c5 .u8 (b.get 31) 128*_=_;rw[tA,oL h (by decide),aBI];omega
theorem Jt{b:cR}(h:m8 b):fZ (gy b)∧fe (gy b)=cG (bx b%57896044618658097711785492504343953926634992332820282019728792003956564819968):=by
 obtain⟨h1,h2⟩:=ajU h;exact⟨h1,by unfold fe;rw[h2]⟩
theorem wx{b:cR}(h:m8 b)(aKn:bx b<57896044618658097711785492504343953926634992332820282019728792003956564819968):m7 (dR (cG (bx b))) b=decide (bx b<(pp:Int)):=by
 have h0:=cH h
 by_cases hp:bx b<(pp:Int)
 ·rw[decide_eq_true hp];refine(lj _ _).2 ?_;obtain⟨h1,h2⟩:=lP (cG (bx b));exact Dr h1 h (by rw[h2,dZ,Int.emod_eq_of_lt h0 hp])
 ·rw[decide_eq_false hp];refine Bool.eq_false_iff.2 fun e=>hp ?_;have e2:=(lj _ _).1 e;have h2:=(lP (cG (bx b))).2;rw[e2,dZ]at h2;rw[h2];exact Int.emod_lt_of_pos _ (by decide)
theorem Ju{b:cR}(h:m8 b):m7 (ee (gy (ia b))) (ia b)=decide (bx (ia b)<(pp:Int)):=by
 obtain⟨h1,h2⟩:=yf h;obtain⟨h3,h4⟩:=Jt h1;have dL:bx (ia b)<57896044618658097711785492504343953926634992332820282019728792003956564819968:=by rw[h2];omega
 rw[qM h3,h4,Int.emod_eq_of_lt (cH h1) dL,wx h1 dL]
abbrev mulC:Fe→Fe→Fe:=tx bV bU cD
theorem XM{e:cR}(h:m8 e){i:Nat}(hi:i<256):FF e i=decide ((bx e).toNat/2 ^ i%2=1):=by
 have hV:=cH h;unfold FF;have e1:shr .u8 (e.get (i/8)) ((i%8:Nat):Int)=e.get (i/8)/(2 ^ (i%8):Nat):=c9 .u8 _ _ (by show i%8≤8;omega);rw[e1,sY (m:=1) (by decide) _ 1 (by decide),oL h (by omega)];obtain⟨N,hN⟩:=Int.eq_ofNat_of_zero_le hV;rw[hN]
 have key:(((N:Int)/(256 ^ (i/8):Nat)%256/(2 ^ (i%8):Nat)%(2 ^ 1:Nat)==1)=true)↔N/2 ^ i%2=1:=by
  rw[beq_iff_eq]
  have e2:(2 ^ i:Nat)=256 ^ (i/8)*2 ^ (i%8):=by
   rw[show(256:Nat)=2 ^ 8 from rfl,← Nat.pow_mul,← Nat.pow_add];congr 1;omega
  rw[e2,← Nat.div_div_eq_div_mul,← Int.natCast_ediv];generalize N/256 ^ (i/8)=W at*;have h8:i%8<8:=Nat.mod_lt _ (by decide);generalize i%8=m at*;have hm:m=0∨m=1∨m=2∨m=3∨m=4∨m=5∨m=6∨m=7:=by omega
  rcases hm with rfl|rfl|rfl|rfl|rfl|rfl|rfl|rfl<;>simp<;>omega
 rw[Int.toNat_natCast]
 by_cases hb:N/2 ^ i%2=1
 ·rw[decide_eq_true hb];exact key.2 hb
 ·rw[decide_eq_false hb];exact Bool.eq_false_iff.2 fun e=>hb (key.1 e)
theorem yg{x:Fe}(hx:fZ x):fZ (mulC x x)∧fe (mulC x x)=fe x*fe x:=yd hx hx
def powC(x:Fe)(e:cR):Fe:=at4 a6 (fun x=>mulC x x) mulC x e
theorem NF{n:Nat}{b:Bool}{p:Prop}[Decidable p](h:b=decide p)(v u:Vec Int n):cZ b v u=if p then v else u:=by
 rw[bG,h];by_cases hp:p<;>simp[hp]
theorem TN{x:Fe}{e:cR}(hx:fZ x)(he:m8 e):fZ (powC x e)∧fe (powC x e)=F.pow (fe x) (bx e).toNat:=by
 have hV:=cH he;have hV2:=mA he;obtain⟨N,hN⟩:=Int.eq_ofNat_of_zero_le hV
 have key:∀k,k≤256→fZ (gw (gh (fun x=>mulC x x) mulC x e) k (a6 1))∧fe (gw (gh (fun x=>mulC x x) mulC x e) k (a6 1))=F.pow (fe x) (N/2 ^ (256-k)):=by
  intro k
  induction k with
  |zero=>
   intro _;obtain⟨h1,h2⟩:=qN (n:=1) ⟨by decide,by decide⟩;refine⟨h1,?_⟩;have ajV:(256 ^ 32:Nat)=2 ^ 256:=(by rw[show(256:Nat)=2 ^ 8 from rfl,← Nat.pow_mul]);have:N/2 ^ (256-0)=0:=Nat.div_eq_of_lt (by rw[hN]at hV2;rw[Nat.sub_zero,← ajV];omega);rw[this,F.pow_zero];exact h2.trans Al
  |succ k ih=>
   intro hk;obtain⟨h1,h2⟩:=ih (by omega);show fZ (gh (fun x=>mulC x x) mulC x e k _)∧fe (gh (fun x=>mulC x x) mulC x e k _)=_;generalize gw (gh (fun x=>mulC x x) mulC x e) k (a6 1)=r at*;obtain⟨s1,s2⟩:=yg h1;obtain⟨m1,m2⟩:=yd s1 hx;unfold gh;rw[NF (XM he (i:=255-k) (by omega)),hN,Int.toNat_natCast]
   have hdiv:N/2 ^ (256-k)=N/2 ^ (256-(k+1))/2:=by
    rw[Nat.div_div_eq_div_mul,← Nat.pow_succ];congr 2;omega
   rw[hdiv]at h2;have awP:255-k=256-(k+1):=(by omega);rw[awP];generalize N/2 ^ (256-(k+1))=M at*
   split
   ·rename_i hb;refine⟨m1,?_⟩;show fe (mulC (mulC r r) x)=_;rw[m2,s2,h2];have:M=2*(M/2)+1:=by omega
    conv=>rhs;rw[this]
    rw[F.pow_succ,F.oM]
   ·rename_i hb;refine⟨s1,?_⟩;show fe (mulC r r)=_;rw[s2,h2];have:M=2*(M/2):=by omega
    conv=>rhs;rw[this]
    rw[F.oM]
 have:=key 256 (by omega);rw[hN,Int.toNat_natCast];have e:N/2 ^ (256-256)=N:=by simp
 rw[e]at this;unfold powC at4;exact this
theorem Dt{f:Nat→Int}:∀ {n:Nat},(∀i,i<n→0≤f i∧f i<256)→m8 (Vec.ofFn n f)
 |0,_=>trivial
 |n+1,h=>⟨h 0 (by omega),Dt (n:=n) fun i hi=>h (i+1) (by omega)⟩
theorem rT{lo hi:Int}(h1:0≤lo∧lo<256)(h2:0≤hi∧hi<256):m8 (cf lo hi):=Dt fun i _=>by
 show 0≤(if i=0 then lo else if i=31 then hi else 255)∧(if i=0 then lo else if i=31 then hi else 255)<256
 split
 ·exact h1
 ·split
  ·exact h2
  ·omega
theorem XN:(bx (cf 235 127)).toNat=pp-2:=by decide+kernel
theorem NG:(bx (cf 254 15)).toNat=(pp+3)/8:=by decide+kernel
theorem ajW:(bx (cf 251 31)).toNat=(pp-1)/4:=by decide+kernel
def kI(x:Fe):Fe:=powC x (cf 235 127)
theorem TO{x:Fe}(hx:fZ x):fZ (kI x)∧fe (kI x)=F.inv (fe x):=by
 obtain⟨h1,h2⟩:=TN hx (rT (lo:=235) (hi:=127) (by omega) (by omega));rw[XN]at h2;exact⟨h1,h2⟩
def kJ:Fe→Fe→Fe:=XG cD
def l6:Fe→Fe→Fe:=Nt cD
def lQ(x:Fe):Fe:=l6 dw x
def TP(x y:Fe):Bool:=m7 (ee x) (ee y)
def qP:Fe→Bool:=ajH ee
def dp(x:Fe):Bool:=TP x dw
def nV:Fe→Fe×Bool:=Dl powC cf mulC (fun x=>mulC x x) lQ a6 TP qP
def mV:Fe→Fe→Fe×Bool:=fun u v=>(cZ (dp v) dw (nV (mulC u (kI v))).1,bif dp v then dp u else(nV (mulC u (kI v))).2)
theorem Jv{x:Fe}(hx:fZ x):fZ (lQ x)∧fe (lQ x)= -fe x:=by
 obtain⟨h1,h2⟩:=ajN j3.1 hx;refine⟨h1,?_⟩;show fe (Nt cD dw x)=_;rw[h2,j3.2];grobner
theorem yh{x:Fe}(hx:fZ x):dp x=decide (fe x=0):=by
 unfold dp TP;rw[Ds hx j3.1,j3.2]
theorem apX{x:Fe}(hx:fZ x):fZ (nV x).1∧fe (nV x).1=(rootOf (fe x)).1∧(nV x).2=(rootOf (fe x)).2:=by
 obtain⟨r1,r2⟩:=TN hx (rT (lo:=254) (hi:=15) (by omega) (by omega));rw[NG]at r2;obtain⟨t1,t2⟩:=qN (n:=2) ⟨by decide,by decide⟩;obtain⟨i1,i2⟩:=TN t1 (rT (lo:=251) (hi:=31) (by omega) (by omega));have t3:cG 2=2:=by decide+kernel
 rw[ajW,t2,t3]at i2;unfold nV Dl;simp only[rQ];obtain⟨s1,s2⟩:=yg r1;obtain⟨m1,m2⟩:=yd r1 i1
 have q1:TP (mulC (powC x (cf 254 15)) (powC x (cf 254 15))) x=decide (F.pow (fe x) ((pp+3)/8)*F.pow (fe x) ((pp+3)/8)=fe x):=by
  unfold TP;rw[Ds s1 hx,s2,r2]
 generalize hR:cZ (!TP (mulC (powC x (cf 254 15)) (powC x (cf 254 15))) x) (mulC (powC x (cf 254 15)) (powC (a6 2) (cf 251 31))) (powC x (cf 254 15))=R
 have hR1:fZ R∧fe R=if F.pow (fe x) ((pp+3)/8)*F.pow (fe x) ((pp+3)/8)=fe x then F.pow (fe x) ((pp+3)/8)else F.pow (fe x) ((pp+3)/8)*F.pow 2 ((pp-1)/4):=by
  rw[← hR,q1,bG]
  by_cases hq:F.pow (fe x) ((pp+3)/8)*F.pow (fe x) ((pp+3)/8)=fe x
  ·rw[decide_eq_true hq,if_pos hq];exact⟨r1,r2⟩
  ·rw[decide_eq_false hq,if_neg hq];exact⟨m1,by show fe (mulC _ _)=_;rw[m2,r2,i2]⟩
 obtain⟨hR1,hR2⟩:=hR1;obtain⟨u1,u2⟩:=yg hR1;have q2:TP (mulC R R) x=decide (fe R*fe R=fe x):=by unfold TP;rw[Ds u1 hx,u2]
 obtain⟨n1,n2⟩:=Jv hR1;have ho:qP R=decide ((fe R).val%2=1):=ajT hR1;rw[q2,ho,bG,bG]
 have aBJ:rootOf (fe x)=if fe R*fe R=fe x then(if(fe R).val%2=1 then-fe R else fe R,true)else(0,false):=by
  unfold rootOf;rw[hR2]
 rw[aBJ]
 by_cases h1:fe R*fe R=fe x
 ·rw[decide_eq_true h1,if_pos h1]
  by_cases h2:(fe R).val%2=1
  ·rw[decide_eq_true h2,if_pos h2];exact⟨n1,n2,rfl⟩
  ·rw[decide_eq_false h2,if_neg h2];exact⟨hR1,rfl,rfl⟩
 ·rw[decide_eq_false h1,if_neg h1];exact⟨j3.1,j3.2,rfl⟩
end Go.Proofs.YtnbkagglkajbkaaGreat
namespace Go.Proofs.YtnbkagglkajbkaaGreat
open Go Go.Ev BJ Go.Proofs.Tryz
open Go.IntKind (i64 signed u16 u64 wrap)
theorem TQ(bv bu:Bool)(fu:F)(z:Fe×Bool)(y:F×Bool)(v:F)(hz1:bv=decide (v=0))(hz2:bu=decide (fu=0))(s1:fZ z.1)(s2:fe z.1=y.1)(s3:z.2=y.2):
  fZ (cZ bv dw z.1)∧fe (cZ bv dw z.1)=(if v=0 then((0:F),decide (fu=0))else y).1∧(bif bv then bu else z.2)=(if v=0 then((0:F),decide (fu=0))else y).2:=by
 rw[bG]
 by_cases h:v=0
 ·rw[if_pos h,hz1,decide_eq_true h];exact⟨j3.1,j3.2,hz2⟩
 ·rw[if_neg h,hz1,decide_eq_false h];exact⟨s1,s2,s3⟩
theorem ajX{u v:Fe}(hu:fZ u)(hv:fZ v):fZ (mV u v).1∧fe (mV u v).1=(ln (fe u) (fe v)).1∧(mV u v).2=(ln (fe u) (fe v)).2:=by
 have hi:=TO hv;have hm:=yd hu hi.1;have hs:=apX hm.1;have e:fe (tx bV bU cD u (kI v))=fe u*F.inv (fe v):=hm.2.trans (by rw[hi.2]);rw[e]at hs;exact TQ _ _ (fe u) _ _ (fe v) (yh hv) (yh hu) hs.1 hs.2.1 hs.2.2
end Go.Proofs.YtnbkagglkajbkaaGreat
namespace BJ
abbrev E4:=F×F×F×F
def Du(x y:F):E4:=(x,y,1,x*y)
def nW:E4:=Du 0 1
def wy(p q:E4):E4:=
 let a:=(p.2.1-p.1)*(q.2.1-q.1)
 let b:=(p.2.1+p.1)*(q.2.1+q.1)
 let c:=p.2.2.2*q.2.2.2*dd+p.2.2.2*q.2.2.2*dd
 let d:=p.2.2.1*q.2.2.1+p.2.2.1*q.2.2.1
 ((b-a)*(d-c),(d+c)*(b+a),(d-c)*(d+c),(b-a)*(b+a))
def ajY(p:E4):E4:=(-p.1,p.2.1,p.2.2.1,-p.2.2.2)
def lR(y:F):F×Bool:=ln (y*y-1) (dd*(y*y)+1)
def Dv:E4:=Du (lR (4*F.inv 5)).1 (4*F.inv 5)
end BJ
namespace Go.Proofs.YtnbkagglkajbkaaGreat
open Go Go.Ev BJ Go.Proofs.Tryz
open Go.IntKind (i64 signed u16 u64 wrap)
def Ok4(p:Pt):Prop:=fZ p.2.1∧fZ p.2.2.1∧fZ p.2.2.2.1∧fZ p.2.2.2.2
def yi(p:Pt):Prop:=p.1=true→Ok4 p
def ptF(p:Pt):E4:=(fe p.2.1,fe p.2.2.1,fe p.2.2.2.1,fe p.2.2.2.2)
def XO(p:Pt):E4:=if p.1=true then ptF p else nW
def kx:Fe:=gy nS
theorem Am:fZ kx∧fe kx=dd:=by
 have hb:m8 nS:=by simp[nS,m8]
 obtain⟨h1,h2⟩:=Jt hb;refine⟨h1,h2.trans ?_⟩;decide+kernel
def da:Fe→Fe→Pt:=ajI mulC a6
theorem tB:fZ (a6 1)∧fe (a6 1)=1:=by
 obtain⟨h1,h2⟩:=qN (n:=1) ⟨by decide,by decide⟩;exact⟨h1,h2.trans Al⟩
theorem yj{x y:Fe}(hx:fZ x)(hy:fZ y):(da x y).1=true∧Ok4 (da x y)∧ptF (da x y)=Du (fe x) (fe y):=by
 obtain⟨m1,m2⟩:=yd hx hy;obtain⟨o1,o2⟩:=tB;refine⟨rfl,⟨hx,hy,o1,m1⟩,?_⟩;show(fe x,fe y,fe (a6 1),fe (mulC x y))=_;rw[o2,m2];rfl
def gk:Pt:=da dw (a6 1)
theorem XP:gk.1=true∧Ok4 gk∧ptF gk=nW:=by
 obtain⟨h1,h2,h3⟩:=yj j3.1 tB.1;refine⟨h1,h2,h3.trans ?_⟩;rw[j3.2,tB.2];rfl
def eT:Pt→Pt:=ajJ gk
theorem Jw{p:Pt}(h:yi p):(eT p).1=true∧Ok4 (eT p)∧ptF (eT p)=XO p:=by
 unfold eT ajJ;rw[jg];unfold XO
 cases hp:p.1 with
 |false=>simp only[Bool.not_false,cond_true,Bool.false_eq_true,if_false];exact XP
 |true=>simp only[Bool.not_true,cond_false,if_true];exact⟨hp,h hp,trivial⟩
theorem FJ{p:Pt}(h1:p.1=true)(h2:Ok4 p):yi p∧XO p=ptF p:=⟨fun _=>h2,if_pos h1⟩
def oN:Fe→Fe→Fe→Fe→Pt:=apR mulC
def er:Pt→Pt→Pt:=addFn mulC kJ l6 kx eT oN
theorem oO{x y:Fe}(hx:fZ x)(hy:fZ y):fZ (kJ x y)∧fe (kJ x y)=fe x+fe y:=awN hx hy
theorem wz{x y:Fe}(hx:fZ x)(hy:fZ y):fZ (l6 x y)∧fe (l6 x y)=fe x-fe y:=ajN hx hy
theorem gl{x y:Fe}(hx:fZ x)(hy:fZ y):fZ (mulC x y)∧fe (mulC x y)=fe x*fe y:=yd hx hy
theorem aj0{e f g h:Fe}(he:fZ e)(hf:fZ f)(hg:fZ g)(hh:fZ h):(oN e f g h).1=true∧Ok4 (oN e f g h)∧ptF (oN e f g h)=(fe e*fe f,fe g*fe h,fe f*fe g,fe e*fe h):=by
 obtain⟨a1,a2⟩:=gl he hf;obtain⟨b1,b2⟩:=gl hg hh;obtain⟨c1,c2⟩:=gl hf hg;obtain⟨d1,d2⟩:=gl he hh;refine⟨rfl,⟨a1,b1,c1,d1⟩,?_⟩;show(fe (mulC e f),fe (mulC g h),fe (mulC f g),fe (mulC e h))=_;rw[a2,b2,c2,d2]
theorem aj1{p q:Pt}(hp:Ok4 p)(hq:Ok4 q):
  let r:=oN (l6 (mulC (kJ p.2.2.1 p.2.1) (kJ q.2.2.1 q.2.1)) (mulC (l6 p.2.2.1 p.2.1) (l6 q.2.2.1 q.2.1)))
   (l6 (kJ (mulC p.2.2.2.1 q.2.2.2.1) (mulC p.2.2.2.1 q.2.2.2.1)) (kJ (mulC (mulC p.2.2.2.2 q.2.2.2.2) kx) (mulC (mulC p.2.2.2.2 q.2.2.2.2) kx)))
   (kJ (kJ (mulC p.2.2.2.1 q.2.2.2.1) (mulC p.2.2.2.1 q.2.2.2.1)) (kJ (mulC (mulC p.2.2.2.2 q.2.2.2.2) kx) (mulC (mulC p.2.2.2.2 q.2.2.2.2) kx)))
   (kJ (mulC (kJ p.2.2.1 p.2.1) (kJ q.2.2.1 q.2.1)) (mulC (l6 p.2.2.1 p.2.1) (l6 q.2.2.1 q.2.1)))
  r.1=true∧Ok4 r∧ptF r=wy (ptF p) (ptF q):=by
 obtain⟨px,py,pz,pt⟩:=hp;obtain⟨qx,qy,qz,qt⟩:=hq;have a1:=wz py px;have a2:=wz qy qx;have a:=gl a1.1 a2.1;have b1:=oO py px;have b2:=oO qy qx;have b:=gl b1.1 b2.1;have c1:=gl pt qt;have c2:=gl c1.1 Am.1;have c:=oO c2.1 c2.1;have d1:=gl pz qz;have d:=oO d1.1 d1.1;have e:=wz b.1 a.1;have f:=wz d.1 c.1;have g:=oO d.1 c.1;have h:=oO b.1 a.1;obtain⟨r1,r2,r3⟩:=aj0 e.1 f.1 g.1 h.1;refine⟨r1,r2,r3.trans ?_⟩;rw[e.2,f.2,g.2,h.2,d.2,c.2,b.2,a.2,d1.2,c2.2,c1.2,b1.2,b2.2,a1.2,a2.2,Am.2];rfl
theorem awQ{p q:Pt}(hp:yi p)(hq:yi q):yi (er p q)∧(er p q).1=true∧XO (er p q)=wy (XO p) (XO q):=by
 obtain⟨p1,p2,p3⟩:=Jw hp;obtain⟨q1,q2,q3⟩:=Jw hq;obtain⟨r1,r2,r3⟩:=aj1 p2 q2;rw[p3,q3]at r3;obtain⟨s1,s2⟩:=FJ r1 r2;exact⟨s1,r1,s2.trans r3⟩
def nX:Pt→Pt:=negFn lQ eT
theorem awR{p:Pt}(hp:yi p):yi (nX p)∧(nX p).1=true∧XO (nX p)=ajY (XO p):=by
 obtain⟨p1,p2,p3⟩:=Jw hp;obtain⟨n1,n2⟩:=Jv p2.1;obtain⟨m1,m2⟩:=Jv p2.2.2.2;have h1:(nX p).1=true:=p1;have h2:Ok4 (nX p):=⟨n1,p2.2.1,p2.2.2.1,m1⟩;obtain⟨s1,s2⟩:=FJ h1 h2;refine⟨s1,h1,s2.trans ?_⟩;rw[← p3];show(fe (lQ _),fe _,fe _,fe (lQ _))=_;rw[n2,m2];rfl
end Go.Proofs.YtnbkagglkajbkaaGreat
namespace Go.Proofs.YtnbkagglkajbkaaGreat
open Go Go.Ev BJ Go.Proofs.Tryz
open Go.IntKind (i64 signed u16 u64 wrap)
def Jx(b:cR):cR:=Vec.oa (fun x=>x+128) 31 b
def apY(p:E4):cR:=if(p.1*F.inv p.2.2.1).val%2=1 then Jx (dR (p.2.1*F.inv p.2.2.1))else dR (p.2.1*F.inv p.2.2.1)
abbrev fU:Int:=57896044618658097711785492504343953926634992332820282019728792003956564819968
def NH(b:cR):E4×Bool:=
 let y:=cG (bx b%fU)
 let x:=(lR y).1
 if(lR y).2=true∧bx b%fU<(pp:Int)∧¬ (128≤b.get 31∧x=0)then(Du (if 128≤b.get 31 then-x else x) y,true)else(nW,false)
theorem rU{f g:Int→Int}:∀ {n i:Nat} {v:Vec Int n},f (v.get i)=g (v.get i)→Vec.oa f i v=Vec.oa g i v
 |0,_,_,_=>rfl
 |n+1,0,v,h=>by
  show(f v.1,v.2)=(g v.1,v.2);rw[show f v.1=g v.1 from h]
 |n+1,i+1,v,h=>by
  show(v.1,Vec.oa f i v.2)=(v.1,Vec.oa g i v.2);rw[rU (n:=n) (i:=i) (v:=v.2) h]
theorem FK(a:F):0≤(dR a).get 31∧(dR a).get 31<128:=by
 obtain⟨h1,h2⟩:=lP a;rw[oL h1 (by decide),h2,aBI];have:=a.isLt;simp only[pp]at this;omega
def ky:Fe→Fe×Bool:=fun y=>mV (l6 (mulC y y) (a6 1)) (kJ (mulC kx (mulC y y)) (a6 1))
theorem XQ{y:Fe}(hy:fZ y):fZ (ky y).1∧fe (ky y).1=(lR (fe y)).1∧(ky y).2=(lR (fe y)).2:=by
 have s:=gl hy hy;have a:=wz s.1 tB.1;have m:=gl Am.1 s.1;have b:=oO m.1 tB.1;have r:=ajX a.1 b.1;have e1:fe (l6 (mulC y y) (a6 1))=fe y*fe y-1:=by rw[a.2,s.2,tB.2]
 have e2:fe (kJ (mulC kx (mulC y y)) (a6 1))=dd*(fe y*fe y)+1:=by rw[b.2,m.2,s.2,tB.2,Am.2]
 rw[e1,e2]at r;exact r
def ic:Pt:=da (ky (mulC (a6 4) (kI (a6 5)))).1 (mulC (a6 4) (kI (a6 5)))
theorem t4:cG 4=4:=by decide+kernel
theorem t5:cG 5=5:=by decide+kernel
theorem apZ:ic.1=true∧Ok4 ic∧ptF ic=Dv:=by
 have h4:=qN (n:=4) ⟨by decide,by decide⟩;have h5:=qN (n:=5) ⟨by decide,by decide⟩;have i:=TO h5.1;have m:=gl h4.1 i.1;have r:=XQ m.1;have e:fe (mulC (a6 4) (kI (a6 5)))=4*F.inv 5:=by rw[m.2,i.2,h4.2,h5.2,t4,t5]
 have a:=yj r.1 m.1;refine⟨a.1,a.2.1,a.2.2.trans ?_⟩;rw[r.2.1,e];rfl
def jU:Pt→Fe×Fe:=apQ mulC kI eT
def wB:Pt→cR:=Dm qP ee jU
theorem Dw{n:Nat}{p:Prop}[Decidable p](v u:Vec Int n):cZ (decide p) v u=if p then v else u:=NF rfl v u
theorem abz{p:Pt}(hp:yi p):wB p=apY (XO p):=by
 obtain⟨p1,p2,p3⟩:=Jw hp;have i:=TO p2.2.2.1;have x:=gl p2.1 i.1;have y:=gl p2.2.1 i.1;unfold wB Dm;have ex:(jU p).1=mulC (eT p).2.1 (kI (eT p).2.2.2.1):=rfl;have ey:(jU p).2=mulC (eT p).2.2.1 (kI (eT p).2.2.2.1):=rfl;simp only[ex,ey];have ho:qP (mulC (eT p).2.1 (kI (eT p).2.2.2.1))=decide ((fe (mulC (eT p).2.1 (kI (eT p).2.2.2.1))).val%2=1):=ajT x.1;rw[ho,Dw,qM y.1,x.2,y.2,i.2];have hb:=FK (fe (eT p).2.2.1*F.inv (fe (eT p).2.2.2.1))
 have hu:Vec.oa (fun x=>bn .u8 x 128) 31 (dR (fe (eT p).2.2.1*F.inv (fe (eT p).2.2.2.1)))=Jx (dR (fe (eT p).2.2.1*F.inv (fe (eT p).2.2.2.1))):=by
  refine rU ?_;generalize Vec.get (dR (fe (eT p).2.2.1*F.inv (fe (eT p).2.2.2.1))) 31=z at*;show bn .u8 z 128=z+128;rw[gY,asx (m:=7) (by omega) (by decide) hb.1 (by omega) (by omega)];omega
 rw[hu,← p3];rfl
theorem TR{b:cR}(h:m8 b):yb b=decide (128≤b.get 31):=by
 obtain⟨h1,h2⟩:=qO h (i:=31) (by decide);unfold yb;generalize b.get 31=x at*;have key:∀k:Fin 256,(aI .u8 (k.val:Int) 128!=0)=decide ((128:Int)≤(k.val:Int)):=by decide+kernel
 obtain⟨k,rfl⟩:=Int.eq_ofNat_of_zero_le h1;exact key ⟨k,by omega⟩
def jV(b:cR):Bool:=m7 (ee (gy (ia b))) (ia b)
def rV:cR→Pt×Bool:=wj lQ dp gy jV da ky
theorem abA{b:cR}(hb:m8 b):yi (rV b).1∧XO (rV b).1=(NH b).1∧(rV b).2=(NH b).2:=by
 obtain⟨y1,y2⟩:=Jt hb;obtain⟨x1,x2,x3⟩:=XQ y1;have hc:jV b=decide (bx b%fU<(pp:Int)):=by unfold jV;rw[Ju hb,(yf hb).2]
 have ht:=TR hb;have hz:=yh x1;obtain⟨n1,n2⟩:=Jv x1;rw[x2,y2]at hz n2;rw[y2]at x2 x3
 have ha:∀ (u:Fe),fZ u→(da u (gy b)).1=true∧Ok4 (da u (gy b))∧ptF (da u (gy b))=Du (fe u) (cG (bx b%fU)):=fun u hu=>by
  have:=yj hu y1;rw[y2]at this;exact this
 have aF6:∀ (ok c t z:Bool),(bif (!ok)==false then bif (!c)==false then bif t==true then z else false else true else true)= !(ok&&c&& !(t&&z)):=by decide
 have jw:yi fK∧XO fK=nW:=⟨fun h=>by simp[fK]at h,rfl⟩;unfold rV wj NH;simp only[rQ,Bool.cond_self,hc,ht,hz,x3,aF6];generalize (lR (cG (bx b%fU))).2=ok at*;generalize hX:(lR (cG (bx b%fU))).1=X at*
 have hg:(ok&&decide (bx b%fU<(pp:Int))&& !(decide (128≤b.get 31)&&decide (X=0)))=decide (ok=true∧bx b%fU<(pp:Int)∧¬(128≤b.get 31∧X=0)):=by
  cases ok
  ·simp
  ·by_cases h1:bx b%fU<(pp:Int)<;>by_cases h2:128≤b.get 31<;>by_cases h3:X=0<;>simp[h2,h3]
 rw[hg,jg,Dw]
 by_cases h:ok=true∧bx b%fU<(pp:Int)∧¬(128≤b.get 31∧X=0)
 ·rw[decide_eq_true h,if_pos h]
  by_cases ap0:128≤b.get 31
  ·rw[if_pos ap0,if_pos ap0];obtain⟨a1,a2,a3⟩:=ha _ n1;obtain⟨o1,o2⟩:=FJ a1 a2;exact⟨o1,o2.trans (a3.trans (by rw[n2])),rfl⟩
  ·rw[if_neg ap0,if_neg ap0];obtain⟨a1,a2,a3⟩:=ha _ x1;obtain⟨o1,o2⟩:=FJ a1 a2;exact⟨o1,o2.trans (a3.trans (by rw[x2])),rfl⟩
 ·rw[decide_eq_false h,if_neg h];exact⟨jw.1,jw.2,rfl⟩
def abB(V:Nat)(i:Nat):Bool:=decide (V/2 ^ i%2=1)
def tC(V:Nat)(p:E4)(k:Nat)(r:E4):E4:=if abB V (255-k)=true then wy (wy r r) p else wy r r
def aj2(V:Nat)(p:E4):E4:=gw (tC V p) 256 nW
theorem yk{e:cR}(h:m8 e){i:Nat}(hi:i<256):(mw e i==1)=abB (bx e).toNat i:=by
 have h1:=XM h hi;unfold FF at h1;unfold abB mw;rw[← h1];have e1:shr .u8 (e.get (i/8)) ((i%8:Nat):Int)=e.get (i/8)/(2 ^ (i%8):Nat):=c9 .u8 _ _ (by show i%8≤8;omega);rw[e1,sY (m:=1) (by decide) _ 1 (by decide),wrap_i64 (by omega) (by omega)]
def dS(p:Pt):Pt:=er p p
end Go.Proofs.YtnbkagglkajbkaaGreat
namespace Go.Proofs.YtnbkagglkajbkaaGreat
open Go Go.Ev BJ Go.Proofs.Tryz
open Go.IntKind (i64 signed u16 u64 wrap)
theorem wC(x y:Fe):∀ (l:List (Nat×Nat)) (r:List (Int×Int)),(∀k,0≤(r.getD k (0,0)).2∧(r.getD k (0,0)).2<18446744073709551616)→∀p∈(gS bV bU x y l r).2,p
 | [],r,_,p,hp=>by simp[gS]at hp
 |(i,j)::l,r,hr,p,hp=>by
  have K2:(gS bV bU x y ((i,j)::l) r).2=(0≤(bU (r.getD ((i+j)%5) (0,0)).2 (bV (fL x i j) (y.get j)).2 0).2∧(bU (r.getD ((i+j)%5) (0,0)).2 (bV (fL x i j) (y.get j)).2 0).2≤1)::
   (gS bV bU x y l (r.set ((i+j)%5) ((bU (r.getD ((i+j)%5) (0,0)).1 (bV (fL x i j) (y.get j)).1 (bU (r.getD ((i+j)%5) (0,0)).2 (bV (fL x i j) (y.get j)).2 0).2).1,(bU (r.getD ((i+j)%5) (0,0)).2 (bV (fL x i j) (y.get j)).2 0).1))).2:=rfl
  rw[K2]at hp;have h0:=hr ((i+j)%5);generalize (r.getD ((i+j)%5) (0,0))=q at*
  have hm:0≤(bV (fL x i j) (y.get j)).2∧(bV (fL x i j) (y.get j)).2<18446744073709551616:=by
   show 0≤eJ (fL x i j*y.get j)∧eJ (fL x i j*y.get j)<18446744073709551616;unfold eJ;rw[ly];omega
  have hs:=rS h0.1 hm.1 (c:=0) (by omega);rcases List.mem_cons.1 hp with rfl|hp
  ·rw[hs];show 0≤(q.2+(bV (fL x i j) (y.get j)).2+0)/18446744073709551616∧(q.2+(bV (fL x i j) (y.get j)).2+0)/18446744073709551616≤1;omega
  ·refine wC x y l _ (fun k=>?_) p hp
   have nd:∀ (v:Int×Int) (a k:Nat),(r.set a v).getD k (0,0)=r.getD k (0,0)∨(r.set a v).getD k (0,0)=v:=by
    intro v a k;simp only[List.getD_eq_getElem?_getD,List.getElem?_set]
    split
    ·split
     ·exact .inr rfl
     ·rename_i e h;subst e;left;rw[List.getElem?_eq_none (by omega)]
    ·exact .inl rfl
   rcases nd _ ((i+j)%5) k with e|e
   ·rw[e];exact hr k
   ·rw[e,hs];show 0≤(q.2+(bV (fL x i j) (y.get j)).2+0)%18446744073709551616∧(q.2+(bV (fL x i j) (y.get j)).2+0)%18446744073709551616<18446744073709551616;omega
def aj3:Fe→Fe:=wh cD
end Go.Proofs.YtnbkagglkajbkaaGreat
namespace Go.Proofs.YtnbkagglkajbkaaGreat
open Go Go.Ev BJ Go.Proofs.Tryz
open Go.IntKind (i64 signed u16 u64 wrap)
end Go.Proofs.YtnbkagglkajbkaaGreat
namespace Go.Proofs.YtnbkagglkajbkaaGreat
open Go Go.Ev BJ Go.Proofs.Tryz
open Go.IntKind (i64 signed u16 u64 wrap)
def bF: {n:Nat}→Vec Int n→Int
 |0,_=>0
 |_+1,v=>v.1+65536*bF v.2
def xa: {n:Nat}→Vec Int n→Prop
 |0,_=>True
 |_+1,v=>(0≤v.1∧v.1<65536)∧xa v.2
theorem mB: {n:Nat}→ {v:Vec Int n}→xa v→0≤bF v
 |0,_,_=>Int.le_refl _
 |n+1,v,h=>by have:=mB h.2;have:=h.1;simp only[bF];omega
theorem XS: {n:Nat}→ {v:Vec Int n}→xa v→bF v<(65536 ^ n:Nat)
 |0,_,_=>by simp[bF]
 |n+1,v,h=>by
  have h1:=XS h.2;have h2:=h.1;simp only[bF];have e:(65536 ^ (n+1):Nat)=65536*65536 ^ n:=by rw[Nat.pow_succ,Nat.mul_comm]
  rw[e];generalize (65536 ^ n:Nat)=m at*;omega
theorem wD: {n:Nat}→ {v u:Vec Int n}→xa v→xa u→bF v=bF u→v=u
 |0,_,_,_,_,_=>rfl
 |n+1,v,u,hv,hu,h=>by
  simp only[bF]at h;have h1:=hv.1;have h2:=hu.1;have e1:v.1=u.1:=by omega
  have e2:bF v.2=bF u.2:=by omega
  exact Prod.ext e1 (wD hv.2 hu.2 e2)
def oP(n:Nat)(V:Int):Vec Int n:=Vec.ofFn n fun j=>V/(65536 ^ j:Nat)%65536
theorem rW:(n:Nat)→(V:Int)→0≤V→xa (oP n V)∧bF (oP n V)=V%(65536 ^ n:Nat)
 |0,V,h=>⟨trivial,by simp[bF]⟩
 |n+1,V,h=>by
  have e:oP (n+1) V=(V/(65536 ^ 0:Nat)%65536,oP n (V/65536)):=by
   unfold oP;show(_,Vec.ofFn n fun i=>V/(65536 ^ (i+1):Nat)%65536)=_
   have:(fun i:Nat=>V/(65536 ^ (i+1):Nat)%65536)=fun j:Nat=>V/65536/(65536 ^ j:Nat)%65536:=by
    funext j
    rw[Int.ediv_ediv_of_nonneg (by omega)]
    congr 2
    rw[Nat.pow_succ];simp[Int.mul_comm]
   rw[this]
  rw[e];obtain⟨h1,h2⟩:=rW n (V/65536) (by omega);refine⟨⟨by simp only[Nat.pow_zero];omega,h1⟩,?_⟩;show V/(65536 ^ 0:Nat)%65536+65536*bF (oP n (V/65536))=_;rw[h2];have e2:(65536 ^ (n+1):Nat)=65536*65536 ^ n:=by rw[Nat.pow_succ,Nat.mul_comm]
  rw[e2];generalize hm:(65536 ^ n:Nat)=m;have GH:0<(m:Int):=by have:=Nat.pow_pos (n:=n) (show 0<65536 by decide);omega
  have h3:=Int.emod_nonneg (V/65536) (b:=(m:Int)) (by omega);have h4:=Int.emod_lt_of_pos (V/65536) GH;have h5:=Int.emod_add_mul_ediv (V/65536) (m:Int)
  have h6:V=(V%65536+65536*(V/65536%m))+((65536*m:Nat):Int)*(V/65536/m):=by
   rw[Int.natCast_mul,Int.mul_assoc];generalize (m:Int)*(V/65536/m)=z at*;omega
  rw[Nat.pow_zero]
  have h7:V%((65536*m:Nat):Int)=V%65536+65536*(V/65536%m):=by
   conv=>lhs;rw[h6]
   rw[Int.add_mul_emod_self_left];exact Int.emod_eq_of_lt (by omega) (by rw[Int.natCast_mul];omega)
  rw[h7];omega
theorem abC{n:Nat}{v:Vec Int n}(h:xa v):oP n (bF v)=v:=by
 obtain⟨h1,h2⟩:=rW n (bF v) (mB h);exact wD h1 h (by rw[h2,Int.emod_eq_of_lt (mB h) (XS h)])
theorem Dx{n:Nat}{v:Vec Int n}(h:xa v){i:Nat}(hi:i<n):v.get i=bF v/(65536 ^ i:Nat)%65536:=by
 conv=>lhs;rw[← abC h]
 unfold oP;rw[get_ofFn hi]
theorem rX{n:Nat}{v:Vec Int n}(h:xa v){i:Nat}(hi:i<n):0≤v.get i∧v.get i<65536:=by
 rw[Dx h hi];omega
def Bd(B:Int): {n:Nat}→Vec Int n→Prop
 |0,_=>True
 |_+1,v=>(-B≤v.1∧v.1≤B)∧Bd B v.2
def NI: {n:Nat}→Vec Int (n+1)→Int
 |0,_=>0
 |_+1,v=>v.1+65536*NI v.2
def wE: {n:Nat}→Vec Int (n+1)→Prop
 |0,_=>True
 |_+1,v=>(0≤v.1∧v.1<65536)∧wE v.2
theorem Dy: {n:Nat}→(v:Vec Int (n+1))→bF v=NI v+(65536 ^ n:Nat)*v.get n
 |0,v=>by simp[bF,NI,Vec.get]
 |n+1,v=>by
  have h:=Dy v.2;show v.1+65536*bF v.2=v.1+65536*NI v.2+(65536 ^ (n+1):Nat)*Vec.get v.2 n;rw[h];have e:(65536 ^ (n+1):Nat)=65536*65536 ^ n:=by rw[Nat.pow_succ,Nat.mul_comm]
  rw[e,Int.natCast_mul,Int.mul_add,Int.mul_assoc];generalize ((65536 ^ n:Nat):Int)*Vec.get v.2 n=z;omega
theorem yl: {n:Nat}→ {v:Vec Int (n+1)}→wE v→0≤NI v∧NI v<(65536 ^ n:Nat)
 |0,_,_=>by simp[NI]
 |n+1,v,h=>by
  obtain⟨h1,h2⟩:=yl h.2;have h3:=h.1;have e:(65536 ^ (n+1):Nat)=65536*65536 ^ n:=by rw[Nat.pow_succ,Nat.mul_comm]
  rw[e];generalize (65536 ^ n:Nat)=m at*;simp only[NI];omega
theorem Dz: {n:Nat}→ {v:Vec Int (n+1)}→wE v→(0≤v.get n∧v.get n<65536)→xa v
 |0,_,_,h=>⟨h,trivial⟩
 |_+1,_,h,h'=>⟨h.1,Dz h.2 h'⟩
theorem TS(x:Int):cg x 65535=x%65536:=ov (m:=16) (by decide) x 65535 (by decide)
theorem Jy(x:Int):down x 16=x/65536:=c9 .i64 x 16 (by decide)
theorem Jz(x:Int):cg x 32767=x%32768:=ov (m:=15) (by decide) x 32767 (by decide)
theorem ap1(x:Int):down x 15=x/32768:=c9 .i64 x 15 (by decide)
theorem tD{x:Int}(h0: -9223372036854775808≤x)(h1:x<9223372036854775808):w x=x:=wrap_i64 h0 h1
theorem wF: {n:Nat}→(x:Int)→(v:Vec Int n)→(-(70368744177664+2147483648)≤x∧x≤70368744177664+2147483648)→Bd 70368744177664 v→bF (ib x v)=x+65536*bF v∧wE (ib x v)
 |0,x,v,_,_=>⟨by simp[ib,bF],trivial⟩
 |n+1,x,v,hx,hv=>by
  have h1:=hv.1;have hw:w (v.1+down x 16)=v.1+x/65536:=by rw[Jy];exact tD (by omega) (by omega)
  obtain⟨e1,e2⟩:=wF (n:=n) (v.1+x/65536) v.2 (by omega) hv.2;show cg x 65535+65536*bF (ib (w (v.1+down x 16)) v.2)=x+65536*(v.1+65536*bF v.2)∧((0≤cg x 65535∧cg x 65535<65536)∧wE (ib (w (v.1+down x 16)) v.2));rw[hw,e1,TS];exact⟨by omega,by omega,e2⟩
theorem abD:(65536 ^ 15:Nat)=1766847064778384329583297500742918515827483896875618958121606201292619776:=by decide
theorem FL{t:Fn}(h:Bd 70368744177664 t):bF (cF t)=bF t∧wE (n:=15) (cF t):=by
 have h1:=h.1;exact wF (n:=15) t.1 t.2 (by omega) h.2
def kS(V:Int):Int:=V%57896044618658097711785492504343953926634992332820282019728792003956564819968+19*(V/57896044618658097711785492504343953926634992332820282019728792003956564819968)
theorem JA: {n:Nat}→(f:Int→Int)→(v:Vec Int (n+1))→bF (Vec.oa f n v)=bF v+(65536 ^ n:Nat)*(f (v.get n)-v.get n)
 |0,f,v=>by
  show f v.1+65536*0=v.1+65536*0+(65536 ^ 0:Nat)*(f v.1-v.1);rw[Nat.pow_zero];omega
 |n+1,f,v=>by
  have h:=JA f v.2;show v.1+65536*bF (Vec.oa f n v.2)=v.1+65536*bF v.2+(65536 ^ (n+1):Nat)*(f (Vec.get v.2 n)-Vec.get v.2 n);rw[h];have e:(65536 ^ (n+1):Nat)=65536*65536 ^ n:=by rw[Nat.pow_succ,Nat.mul_comm]
  rw[e,Int.natCast_mul,Int.mul_add,Int.mul_assoc];generalize ((65536 ^ n:Nat):Int)*(f (Vec.get v.2 n)-Vec.get v.2 n)=z;omega
theorem TT{B:Int}: {n:Nat}→(f:Int→Int)→(v:Vec Int (n+1))→wE v→65536≤B→(-B≤f (v.get n)∧f (v.get n)≤B)→Bd B (Vec.oa f n v)
 |0,_,_,_,_,h=>⟨h,trivial⟩
 |n+1,f,v,hl,hB,h=>⟨by have:=hl.1;show-B≤v.1∧v.1≤B;omega,TT f v.2 hl.2 hB h⟩
theorem aj4{V low L:Int}(e3:V=low+(1766847064778384329583297500742918515827483896875618958121606201292619776:Nat)*L)(e4:0≤low)(e5:low<(1766847064778384329583297500742918515827483896875618958121606201292619776:Nat))(h0:0≤V)(h1:V<31828687130226345097944463881396533766429193651030253916189694521162207808802136034115584):
  (0≤L∧L<18014398509481984)∧V+(1766847064778384329583297500742918515827483896875618958121606201292619776:Nat)*(L%32768-L)+19*(L/32768)=kS V:=by
 unfold kS;omega
theorem aj5(r:Fn)(L:Int)(hL:Vec.get (n:=16) r 15=L)(h0:0≤L)(h1:L<18014398509481984)(hd:0≤r.1∧r.1<65536)(hl:wE (n:=15) r):
  Bd 70368744177664 (eK r)∧bF (eK r)=bF r+(1766847064778384329583297500742918515827483896875618958121606201292619776:Nat)*(L%32768-L)+19*(L/32768):=by
 have hu:=JA (n:=15) (fun x=>cg x 32767) r
 have hb:=TT (n:=15) (B:=70368744177664) (fun x=>cg x 32767) r hl (by decide) (by
  show-70368744177664≤cg (Vec.get (n:=16) r 15) 32767∧cg (Vec.get (n:=16) r 15) 32767≤70368744177664;rw[Jz];omega)
 rw[hL,abD]at hu;have hu':bF (Vec.oa (n:=16) (fun x=>cg x 32767) 15 r)=bF r+(1766847064778384329583297500742918515827483896875618958121606201292619776:Nat)*(L%32768-L):=by rw[← Jz L];exact hu
 have hw1:w (19*down L 15)=19*(L/32768):=by rw[ap1];exact tD (by omega) (by omega)
 have hw2:w (r.1+w (19*down L 15))=r.1+19*(L/32768):=by rw[hw1];exact tD (by omega) (by omega)
 have hf:eK r=(w (r.1+w (19*down (r.get 15) 15)),(Vec.oa (fun x=>cg x 32767) 15 r).2):=rfl;have hs:(Vec.oa (fun x=>cg x 32767) 15 r)=(r.1,(Vec.oa (fun x=>cg x 32767) 15 r).2):=rfl;rw[hf,hL,hw2];rw[hs]at hb hu';generalize (Vec.oa (fun x=>cg x 32767) 15 r).2=z at*;have e1:bF (n:=16) (r.1,z)=r.1+65536*bF z:=rfl;have e2:bF (n:=16) (r.1+19*(L/32768),z)=r.1+19*(L/32768)+65536*bF z:=rfl;rw[e1]at hu';rw[e2];exact⟨⟨by show-70368744177664≤r.1+19*(L/32768)∧r.1+19*(L/32768)≤70368744177664;omega,hb.2⟩,by omega⟩
theorem rY{t:Fn}(h:Bd 70368744177664 t)(h0:0≤bF t)(h1:bF t<31828687130226345097944463881396533766429193651030253916189694521162207808802136034115584):Bd 70368744177664 (eK (cF t))∧bF (eK (cF t))=kS (bF t):=by
 obtain⟨e1,e2⟩:=FL h;have e3:=Dy (n:=15) (cF t);obtain⟨e4,e5⟩:=yl (n:=15) e2;rw[abD]at e3 e5;rw[e1]at e3;obtain⟨⟨n1,n2⟩,n3⟩:=aj4 e3 e4 e5 h0 h1;obtain⟨f1,f2⟩:=aj5 (cF t) _ rfl n1 n2 e2.1 e2;exact⟨f1,f2.trans (by rw[e1];exact n3)⟩
def oQ:Nat→ {n:Nat}→Vec Int n→Int
 |0,_,_=>0
 |k+1,_,v=>oQ k v+(65536 ^ k:Nat)*v.get k
theorem tE{n:Nat}{v:Vec Int n}(h:xa v):∀k,k≤n→0≤oQ k v∧oQ k v<(65536 ^ k:Nat)
 |0,_=>by simp[oQ]
 |k+1,hk=>by
  obtain⟨h1,h2⟩:=tE h k (by omega);obtain⟨h3,h4⟩:=rX h (i:=k) (by omega);have e:(65536 ^ (k+1):Nat)=65536*65536 ^ k:=by rw[Nat.pow_succ,Nat.mul_comm]
  have e0:oQ (k+1) v=oQ k v+(65536 ^ k:Nat)*v.get k:=rfl;rw[e,e0];obtain⟨m,hm⟩:∃m:Nat,m=65536 ^ k:=⟨_,rfl⟩;rw[← hm]at h2 ⊢;clear hm e e0;generalize v.get k=d at*;have h5:(m:Int)*d≤m*65535:=Int.mul_le_mul_of_nonneg_left (by omega) (by omega);have h6:0≤(m:Int)*d:=Int.mul_nonneg (by omega) h3;omega
theorem FN{a b:Fn}(ha:xa a)(hb:xa b):∀k,k≤16→jh a b k=decide (oQ k a<oQ k b)
 |0,_=>by simp[jh,oQ]
 |k+1,hk=>by
  have ih:=FN ha hb k (by omega);obtain⟨a1,a2⟩:=tE ha k (by omega);obtain⟨b1,b2⟩:=tE hb k (by omega);have e0:oQ (k+1) a=oQ k a+(65536 ^ k:Nat)*a.get k:=rfl;have e1:oQ (k+1) b=oQ k b+(65536 ^ k:Nat)*b.get k:=rfl;have e2:jh a b (k+1)=bif a.get k !=b.get k then decide (a.get k<b.get k)else jh a b k:=rfl;rw[e0,e1,e2,ih];obtain⟨m,hm⟩:∃m:Nat,m=65536 ^ k:=⟨_,rfl⟩;rw[← hm]at a2 b2 ⊢;clear hm e0 e1 e2 ih;generalize a.get k=x at*;generalize b.get k=y at*
  by_cases hxy:x=y
  ·subst hxy;simp
  ·have:(x !=y)=true:=(by simpa using hxy);rw[this,cond_true]
   by_cases dL:x<y
   ·have h1:(m:Int)*(x+1)≤m*y:=Int.mul_le_mul_of_nonneg_left (by omega) (by omega);rw[Int.mul_add]at h1;rw[decide_eq_true dL,decide_eq_true];omega
   ·have h1:(m:Int)*(y+1)≤m*x:=Int.mul_le_mul_of_nonneg_left (by omega) (by omega);rw[Int.mul_add]at h1;rw[decide_eq_false dL,decide_eq_false];omega
theorem NJ: {n:Nat}→(v:Vec Int (n+1))→(k:Nat)→oQ (k+1) v=v.1+65536*oQ k v.2
 |_,v,0=>by simp[oQ,Vec.get]
 |n,v,k+1=>by
  have h:=NJ v k;have e:(65536 ^ (k+1):Nat)=65536*65536 ^ k:=by rw[Nat.pow_succ,Nat.mul_comm]
  show oQ (k+1) v+(65536 ^ (k+1):Nat)*Vec.get v.2 k=v.1+65536*(oQ k v.2+(65536 ^ k:Nat)*Vec.get v.2 k);rw[h,e,Int.natCast_mul,Int.mul_add,Int.mul_assoc];generalize ((65536 ^ k:Nat):Int)*Vec.get v.2 k=z;omega
theorem DA: {n:Nat}→(v:Vec Int n)→oQ n v=bF v
 |0,_=>rfl
 |n+1,v=>by rw[NJ,DA v.2];rfl
def aj6(x:Fn):Prop:=xa x∧bF x<(pp:Int)
def fn9(x:Fn):F:=cG (bF x)
theorem DB:xa dQ:=by simp[dQ,xa]
theorem ym:bF dQ=(pp:Int):=by decide+kernel
theorem XT: {n:Nat}→(v u:Vec Int n)→xa v→xa u→bF (Vec.zip (fun a b=>w (a-b)) v u)=bF v-bF u∧Bd 70368744177664 (Vec.zip (fun a b=>w (a-b)) v u)
 |0,_,_,_,_=>⟨rfl,trivial⟩
 |n+1,v,u,hv,hu=>by
  obtain⟨h1,h2⟩:=XT v.2 u.2 hv.2 hu.2;have h3:=hv.1;have h4:=hu.1;have hw:w (v.1-u.1)=v.1-u.1:=tD (by omega) (by omega);show w (v.1-u.1)+65536*bF (Vec.zip (fun a b=>w (a-b)) v.2 u.2)=v.1+65536*bF v.2-(u.1+65536*bF u.2)∧((-70368744177664≤w (v.1-u.1)∧w (v.1-u.1)≤70368744177664)∧Bd 70368744177664 (Vec.zip (fun a b=>w (a-b)) v.2 u.2));rw[hw,h1];exact⟨by omega,by omega,h2⟩
theorem XU{t:Fn}(h:Bd 70368744177664 t)(h0:0≤bF t)(h1:bF t<57896044618658097711785492504343953926634992332820282019728792003956564819968):xa (cF t)∧bF (cF t)=bF t:=by
 obtain⟨e1,e2⟩:=FL h;have e3:=Dy (n:=15) (cF t);obtain⟨e4,e5⟩:=yl (n:=15) e2;rw[abD]at e3 e5;rw[e1]at e3;exact⟨Dz (n:=15) e2 (by omega),e1⟩
def dK:Fn→Fn:=at5 dQ fun a b=>jh a b 16
theorem NK{V:Int}(h0:0≤V)(h1:V<31828687130226345097944463881396533766429193651030253916189694521162207808802136034115584):0≤kS V∧kS V<31828687130226345097944463881396533766429193651030253916189694521162207808802136034115584∧kS V%(pp:Int)=V%(pp:Int):=by
 unfold kS;simp only[pp]at*;refine⟨by omega,by omega,?_⟩;omega
theorem abE{V:Int}(h0:0≤V)(h1:V<31828687130226345097944463881396533766429193651030253916189694521162207808802136034115584):kS (kS V)<57896044618658097711785492504343953926634992332820282019728792003956564819968:=by
 unfold kS;omega
theorem NL{V:Int}(h0:0≤V)(h1:V<57896044618658097711785492504343953926634992332820282019728792003956564819968):kS V=V:=by
 unfold kS;omega
theorem abF{t:Fn}(h:Bd 70368744177664 t)(h0:0≤bF t)(h1:bF t<31828687130226345097944463881396533766429193651030253916189694521162207808802136034115584):aj6 (dK t)∧bF (dK t)=bF t%(pp:Int):=by
 obtain⟨a1,a2⟩:=rY h h0 h1;obtain⟨r1,r2,r3⟩:=NK h0 h1;obtain⟨b1,b2⟩:=rY a1 (by rw[a2];exact r1) (by rw[a2];exact r2);rw[a2]at b2;have s4:=abE h0 h1;obtain⟨s1,s2,s3⟩:=NK r1 r2;obtain⟨c1,c2⟩:=rY b1 (by rw[b2];exact s1) (by rw[b2];exact s2);rw[b2,NL s1 s4]at c2;obtain⟨d1,d2⟩:=rY c1 (by rw[c2];exact s1) (by rw[c2];exact s2);rw[c2,NL s1 s4]at d2;obtain⟨f1,f2⟩:=XU d1 (by rw[d2];exact s1) (by rw[d2];exact s4);rw[d2]at f2;have aBL:kS (kS (bF t))%(pp:Int)=bF t%(pp:Int):=s3.trans r3;generalize kS (kS (bF t))=V at*
 have hn:dK t=cZ (!(jh (cF (eK (cF (eK (cF (eK (cF (eK (cF t))))))))) dQ 16)) (cF (Vec.zip (fun a b=>w (a-b)) (cF (eK (cF (eK (cF (eK (cF (eK (cF t))))))))) dQ))
  (cF (eK (cF (eK (cF (eK (cF (eK (cF t))))))))):=rfl
 rw[hn];generalize cF (eK (cF (eK (cF (eK (cF (eK (cF t))))))))=r at*;rw[bG,FN f1 DB 16 (by omega),DA,DA,ym,f2]
 by_cases dL:V<(pp:Int)
 ·rw[decide_eq_true dL];show aj6 r∧bF r=_;rw[← aBL,Int.emod_eq_of_lt s1 dL];exact⟨⟨f1,by rw[f2];exact dL⟩,f2⟩
 ·rw[decide_eq_false dL];show aj6 (cF (Vec.zip (fun a b=>w (a-b)) r dQ))∧bF (cF (Vec.zip (fun a b=>w (a-b)) r dQ))=_;obtain⟨g1,g2⟩:=XT r dQ f1 DB;rw[f2,ym]at g1;obtain⟨k1,k2⟩:=XU g2 (by rw[g1];omega) (by rw[g1];simp only[pp];omega);rw[g1]at k2
  have hv:V%(pp:Int)=V-(pp:Int):=by
   simp only[pp]at*;omega
  exact⟨⟨k1,by rw[k2];simp only[pp]at*;omega⟩,by rw[k2,← aBL,hv]⟩
theorem ap2{t:Fn}(h:Bd 70368744177664 t)(h0:0≤bF t)(h1:bF t<31828687130226345097944463881396533766429193651030253916189694521162207808802136034115584):aj6 (dK t)∧fn9 (dK t)=cG (bF t):=by
 obtain⟨e1,e2⟩:=abF h h0 h1;refine⟨e1,?_⟩;unfold fn9;rw[e2,XI,Int.emod_emod]
end Go.Proofs.YtnbkagglkajbkaaGreat
namespace Go.Proofs.YtnbkagglkajbkaaGreat
open Go Go.Ev BJ Go.Proofs.Tryz
open Go.IntKind (i64 signed u16 u64 wrap)
set_option maxRecDepth 100000
theorem p16:(65536 ^ 16:Nat)=115792089237316195423570985008687907853269984665640564039457584007913129639936:=by decide
def aZ(a:F):Fn:=oP 16 (a.val:Int)
theorem fV(a:F):xa (aZ a)∧bF (aZ a)=(a.val:Int):=by
 obtain⟨h1,h2⟩:=rW 16 (a.val:Int) (by omega);have:=a.isLt;refine⟨h1,h2.trans (Int.emod_eq_of_lt (by omega) ?_)⟩;rw[p16];simp only[pp]at this;omega
theorem ap3{x:Fn}(h:aj6 x):aZ (fn9 x)=x:=by
 obtain⟨h1,h2⟩:=fV (fn9 x);refine wD h1 h.1 (h2.trans ?_);unfold fn9;rw[dZ,Int.emod_eq_of_lt (mB h.1) h.2]
theorem aj7{a b:F}(h:aZ a=aZ b):a=b:=za (by rw[← (fV a).2,← (fV b).2,h])
theorem DC(a b:F):m7 (aZ a) (aZ b)=decide (a=b):=by
 by_cases h:a=b
 ·subst h;rw[decide_eq_true rfl];exact(lj _ _).2 rfl
 ·rw[decide_eq_false h];exact Bool.eq_false_iff.2 fun e=>h (aj7 ((lj _ _).1 e))
theorem wG{t:Fn}(h:Bd 70368744177664 t)(h0:0≤bF t)(h1:bF t<31828687130226345097944463881396533766429193651030253916189694521162207808802136034115584):dK t=aZ (cG (bF t)):=by
 obtain⟨e1,e2⟩:=ap2 h h0 h1;rw[← e2,ap3 e1]
theorem JB: {n:Nat}→(v u:Vec Int n)→xa v→xa u→bF (Vec.zip (fun a b=>w (a+b)) v u)=bF v+bF u∧Bd 131072 (Vec.zip (fun a b=>w (a+b)) v u)
 |0,_,_,_,_=>⟨rfl,trivial⟩
 |n+1,v,u,hv,hu=>by
  obtain⟨h1,h2⟩:=JB v.2 u.2 hv.2 hu.2;have h3:=hv.1;have h4:=hu.1;have hw:w (v.1+u.1)=v.1+u.1:=tD (by omega) (by omega);show w (v.1+u.1)+65536*bF (Vec.zip (fun a b=>w (a+b)) v.2 u.2)=v.1+65536*bF v.2+(u.1+65536*bF u.2)∧((-131072≤w (v.1+u.1)∧w (v.1+u.1)≤131072)∧Bd 131072 (Vec.zip (fun a b=>w (a+b)) v.2 u.2));rw[hw,h1];exact⟨by omega,by omega,h2⟩
theorem XV: {n:Nat}→(v u:Vec Int n)→Bd 131072 v→xa u→bF (Vec.zip (fun a b=>w (a-b)) v u)=bF v-bF u∧Bd 262144 (Vec.zip (fun a b=>w (a-b)) v u)
 |0,_,_,_,_=>⟨rfl,trivial⟩
 |n+1,v,u,hv,hu=>by
  obtain⟨h1,h2⟩:=XV v.2 u.2 hv.2 hu.2;have h3:=hv.1;have h4:=hu.1;have hw:w (v.1-u.1)=v.1-u.1:=tD (by omega) (by omega);show w (v.1-u.1)+65536*bF (Vec.zip (fun a b=>w (a-b)) v.2 u.2)=v.1+65536*bF v.2-(u.1+65536*bF u.2)∧((-262144≤w (v.1-u.1)∧w (v.1-u.1)≤262144)∧Bd 262144 (Vec.zip (fun a b=>w (a-b)) v.2 u.2));rw[hw,h1];exact⟨by omega,by omega,h2⟩
theorem JD{B B':Int}(hB:B≤B'): {n:Nat}→ {v:Vec Int n}→Bd B v→Bd B' v
 |0,_,_=>trivial
 |_+1,_,h=>⟨by have:=h.1;omega,JD hB h.2⟩
theorem tF(a:F):0≤(a.val:Int)∧(a.val:Int)<(pp:Int):=⟨by omega,by have:=a.isLt;omega⟩
theorem yn(a:F):cG (a.val:Int)=a:=za (by rw[dZ,Int.emod_eq_of_lt (tF a).1 (tF a).2])
def fW:Fn→Fn→Fn:=awJ dK
def ji:Fn→Fn→Fn:=awK dQ dK
def fc(x:Fn):Fn:=ji cw x
def a8:Fn→Fn→Fn:=awL dK
theorem wH(a b:F):fW (aZ a) (aZ b)=aZ (a+b):=by
 obtain⟨a1,a2⟩:=fV a;obtain⟨b1,b2⟩:=fV b;obtain⟨z1,z2⟩:=JB (aZ a) (aZ b) a1 b1;have ha:=tF a;have hb:=tF b;rw[a2,b2]at z1;show dK (Vec.zip (fun a b=>w (a+b)) (aZ a) (aZ b))=_;rw[wG (JD (by decide) z2) (by rw[z1];omega) (by rw[z1];simp only[pp]at*;omega),z1,il,yn,yn]
theorem ap4:cG (pp:Int)=0:=by
 have:=Dp 0 1;rw[Int.one_mul,Int.zero_add]at this;rw[this,Nx]
theorem DD(a b:F):ji (aZ a) (aZ b)=aZ (a-b):=by
 obtain⟨a1,a2⟩:=fV a;obtain⟨b1,b2⟩:=fV b;obtain⟨z1,z2⟩:=JB (aZ a) dQ a1 DB;obtain⟨y1,y2⟩:=XV (Vec.zip (fun a b=>w (a+b)) (aZ a) dQ) (aZ b) z2 b1;have ha:=tF a;have hb:=tF b;rw[z1,a2,b2,ym]at y1;show dK (Vec.zip (fun a b=>w (a-b)) (Vec.zip (fun a b=>w (a+b)) (aZ a) dQ) (aZ b))=_;rw[wG (JD (by decide) y2) (by rw[y1];omega) (by rw[y1];simp only[pp]at*;omega),y1,XJ,il,yn,yn,ap4,show a+0-b=a-b from by grobner]
theorem qQ:cw=aZ 0:=by
 have h:xa cw:=by simp[cw,xa]
 obtain⟨h1,h2⟩:=fV 0;refine wD h h1 (Eq.trans (?_ :bF cw=0) h2.symm);decide
theorem wI(a:F):fc (aZ a)=aZ (-a):=by
 unfold fc;rw[qQ,DD,show(0:F)-a= -a from by grobner]
def dC(f:Nat→Int):Nat→Int
 |0=>0
 |n+1=>dC f n+f n
theorem gz{f g:Nat→Int}:∀ {n:Nat},(∀i,i<n→f i=g i)→dC f n=dC g n
 |0,_=>rfl
 |n+1,h=>by simp only[dC];rw[gz fun i hi=>h i (by omega),h n (by omega)]
theorem DE(f g:Nat→Int):∀n,dC (fun i=>f i+g i) n=dC f n+dC g n
 |0=>rfl
 |n+1=>by simp only[dC];rw[DE f g n];omega
theorem qS(c:Int)(f:Nat→Int):∀n,dC (fun i=>c*f i) n=c*dC f n
 |0=>by simp[dC]
 |n+1=>by simp only[dC];rw[qS c f n,Int.mul_add]
theorem yo:∀n,dC (fun _=>0) n=0
 |0=>rfl
 |n+1=>by simp only[dC];rw[yo n];rfl
theorem oR{f:Nat→Int}{c:Int}:∀ {n:Nat},(∀i,i<n→0≤f i∧f i≤c)→0≤dC f n∧dC f n≤n*c
 |0,_=>by simp[dC]
 |n+1,h=>by
  obtain⟨h1,h2⟩:=oR (n:=n) fun i hi=>h i (by omega);have h3:=h n (by omega);simp only[dC];rw[Int.natCast_add,Int.add_mul];omega
theorem DF(g:Nat→Int)(n m:Nat):∀k,k≤m→dC (fun j=>if n≤j∧j-n<m then g (j-n)else 0) (n+k)=dC g k
 |0,_=>by
  show dC _ n=0;rw[gz (g:=fun _=>0) fun j hj=>by rw[if_neg (by omega)],yo]
 |k+1,hk=>by
  show dC _ (n+k)+(if n≤n+k∧n+k-n<m then g (n+k-n)else 0)=dC g k+g k;rw[DF g n m k (by omega),if_pos (by omega),show n+k-n=k from by omega]
theorem FO(f:Nat→Int)(n:Nat):∀k,(∀j,n≤j→j<n+k→f j=0)→dC f (n+k)=dC f n
 |0,_=>rfl
 |k+1,h=>by
  show dC f (n+k)+f (n+k)=_;rw[FO f n k fun j h1 h2=>h j h1 (by omega),h (n+k) (by omega) (by omega)];omega
def conv(f g:Nat→Int)(n j:Nat):Int:=dC (fun i=>if i≤j∧j-i<16 then f i*g (j-i)else 0) n
theorem NM(f g:Nat→Int)(B:Int):∀n,n≤16→dC (fun j=>B ^ j*conv f g n j) 32=dC (fun i=>B ^ i*f i) n*dC (fun i=>B ^ i*g i) 16
 |0,_=>by
  rw[gz (g:=fun _=>0) fun j _=>by simp[conv,dC],yo];simp[dC]
 |n+1,hn=>by
  have e:∀j,B ^ j*conv f g (n+1) j=B ^ j*conv f g n j+(if n≤j∧j-n<16 then B ^ n*f n*(B ^ (j-n)*g (j-n))else 0):=fun j=>by
   show B ^ j*(conv f g n j+(if n≤j∧j-n<16 then f n*g (j-n)else 0))=_;rw[Int.mul_add]
   congr 1
   by_cases h:n≤j∧j-n<16
   ·rw[if_pos h,if_pos h];have:B ^ j=B ^ n*B ^ (j-n):=(by rw[← Int.pow_add];congr 1;omega);rw[this];generalize B ^ n=p;generalize B ^ (j-n)=q;rw[Int.mul_assoc,Int.mul_assoc,← Int.mul_assoc q,Int.mul_comm q (f n),Int.mul_assoc (f n)]
   ·rw[if_neg h,if_neg h,Int.mul_zero]
  rw[gz fun j _=>e j,DE,NM f g B n (by omega)]
  have h2:dC (fun j=>if n≤j∧j-n<16 then B ^ n*f n*(B ^ (j-n)*g (j-n))else 0) 32=dC (fun i=>B ^ n*f n*(B ^ i*g i)) 16:=by
   have h3:=DF (fun i=>B ^ n*f n*(B ^ i*g i)) n 16 16 (by omega);have h4:=FO (fun j=>if n≤j∧j-n<16 then B ^ n*f n*(B ^ (j-n)*g (j-n))else 0) (n+16) (16-n) (fun j h1 _=>if_neg (by omega));rw[show n+16+(16-n)=32 from by omega]at h4;rw[h4];exact h3
  rw[h2,qS];simp only[dC];rw[Int.add_mul]
theorem FQ(f:Nat→Int):∀n,dC f (n+1)=f 0+dC (fun i=>f (i+1)) n
 |0=>by simp[dC]
 |n+1=>by
  show dC f (n+1)+f (n+1)=f 0+(dC (fun i=>f (i+1)) n+f (n+1));rw[FQ f n];omega
theorem rZ: {n:Nat}→(v:Vec Int n)→bF v=dC (fun i=>65536 ^ i*v.get i) n
 |0,_=>rfl
 |n+1,v=>by
  show v.1+65536*bF v.2=_;rw[rZ v.2,FQ];show _=65536 ^ 0*v.1+dC (fun i=>65536 ^ (i+1)*Vec.get v.2 i) n;rw[← qS,Int.pow_zero,Int.one_mul]
  congr 1
  apply gz
  intro i _;rw[Int.pow_succ,Int.mul_comm (65536 ^ i) 65536,Int.mul_assoc]
theorem abG{x y:Fn}(hx:xa x)(hy:xa y)(j:Nat):wm x y j=conv x.get y.get 16 j∧0≤conv x.get y.get 16 j∧conv x.get y.get 16 j≤68717379600:=by
 have NN:∀i,i<16→0≤(if i≤j∧j-i<16 then x.get i*y.get (j-i)else 0)∧(if i≤j∧j-i<16 then x.get i*y.get (j-i)else 0)≤4294836225:=fun i hi=>by
  split
  ·rename_i h;obtain⟨h1,h2⟩:=rX hx (i:=i) hi;obtain⟨h3,h4⟩:=rX hy (i:=j-i) h.2;refine⟨Int.mul_nonneg h1 h3,?_⟩;have:=Int.mul_le_mul (a:=x.get i) (b:=y.get (j-i)) (c:=65535) (d:=65535) (by omega) (by omega) h3 (by omega);omega
  ·omega
 have key:∀n,n≤16→(List.range n).foldl (fun acc i=>if i≤j∧j-i<16 then w (acc+w (x.get i*y.get (j-i)))else acc) 0=conv x.get y.get n j:=by
  intro n
  induction n with
  |zero=>intro _;rfl
  |succ n ih=>
   intro hn;rw[List.range_succ,List.foldl_append,ih (by omega)];simp only[List.foldl_cons,List.foldl_nil];have hb:=oR (c:=4294836225) (n:=n) fun i hi=>NN i (by omega);have ht:=NN n (by omega);show _=conv x.get y.get n j+(if n≤j∧j-n<16 then x.get n*y.get (j-n)else 0);have hc:0≤conv x.get y.get n j∧conv x.get y.get n j≤n*4294836225:=hb
   split
   ·rename_i h;rw[if_pos h]at ht;rw[tD (x:=x.get n*y.get (j-n)) (by omega) (by omega),tD (by omega) (by omega)]
   ·omega
 have hb:=oR (c:=4294836225) (n:=16) NN;exact⟨key 16 (by omega),hb⟩
theorem abH(f:Nat→Int):∀n,bF (Vec.ofFn n f)=dC (fun i=>65536 ^ i*f i) n:=fun n=>by
 rw[rZ];exact gz fun i hi=>by rw[get_ofFn hi]
theorem XW{B:Int}{f:Nat→Int}:∀ {n:Nat},(∀i,i<n→ -B≤f i∧f i≤B)→Bd B (Vec.ofFn n f)
 |0,_=>trivial
 |n+1,h=>⟨h 0 (by omega),XW (n:=n) fun i hi=>h (i+1) (by omega)⟩
theorem DG(f:Nat→Int)(n:Nat):∀k,dC f (n+k)=dC f n+dC (fun i=>f (n+i)) k
 |0=>by simp[dC]
 |k+1=>by
  show dC f (n+k)+f (n+k)=dC f n+(dC (fun i=>f (n+i)) k+f (n+k));rw[DG f n k];omega
theorem ap5:cG (65536 ^ 16)=38:=by decide+kernel
theorem t38:cG 38=38:=by decide+kernel
theorem eL(a b:F):a8 (aZ a) (aZ b)=aZ (a*b):=by
 obtain⟨a1,a2⟩:=fV a;obtain⟨b1,b2⟩:=fV b;generalize aZ a=x at*;generalize aZ b=y at*;have hc:=fun j=>abG a1 b1 j
 have hd:∀i,i<16→w (wm x y i+w (38*wm x y (i+16)))=conv x.get y.get 16 i+38*conv x.get y.get 16 (i+16):=fun i _=>by
  obtain⟨e1,e2,e3⟩:=hc i;obtain⟨f1,f2,f3⟩:=hc (i+16);rw[e1,f1,tD (x:=38*_) (by omega) (by omega),tD (by omega) (by omega)]
 have hz:Vec.ofFn 16 (fun i=>w (wm x y i+w (38*wm x y (i+16))))=Vec.ofFn 16 (fun i=>conv x.get y.get 16 i+38*conv x.get y.get 16 (i+16)):=jS hd;show dK (Vec.ofFn 16 fun i=>w (wm x y i+w (38*wm x y (i+16))))=_;rw[hz];have hv:=abH (fun i=>conv x.get y.get 16 i+38*conv x.get y.get 16 (i+16)) 16
 have hb:Bd 70368744177664 (Vec.ofFn 16 (fun i=>conv x.get y.get 16 i+38*conv x.get y.get 16 (i+16))):=XW fun i _=>by
  obtain⟨_,e2,e3⟩:=hc i;obtain⟨_,f2,f3⟩:=hc (i+16);omega
 have hcv:=NM x.get y.get 65536 16 (by omega);rw[← rZ,← rZ,a2,b2,DG _ 16 16]at hcv
 have hF:cG (bF (Vec.ofFn 16 (fun i=>conv x.get y.get 16 i+38*conv x.get y.get 16 (i+16))))=a*b:=by
  rw[hv,gz (g:=fun i=>65536 ^ i*conv x.get y.get 16 i+38*(65536 ^ i*conv x.get y.get 16 (i+16))) fun i _=>by
   rw[Int.mul_add,← Int.mul_assoc,← Int.mul_assoc,Int.mul_comm (65536 ^ i) 38],DE,qS,il,lk,t38]
  have h1:=congrArg cG hcv;rw[il,lk,yn,yn]at h1
  have h2:dC (fun i=>65536 ^ (16+i)*conv x.get y.get 16 (16+i)) 16=65536 ^ 16*dC (fun i=>65536 ^ i*conv x.get y.get 16 (i+16)) 16:=by
   rw[← qS]
   apply gz
   intro i _;rw[Int.pow_add,Int.mul_assoc,Nat.add_comm 16 i]
  rw[h2,lk,ap5]at h1;exact h1
 have hnn:0≤bF (Vec.ofFn 16 (fun i=>conv x.get y.get 16 i+38*conv x.get y.get 16 (i+16)))∧bF (Vec.ofFn 16 (fun i=>conv x.get y.get 16 i+38*conv x.get y.get 16 (i+16)))<31828687130226345097944463881396533766429193651030253916189694521162207808802136034115584:=by
  rw[hv]
  have NN:∀i,i<16→0≤(65536:Int) ^ i*(conv x.get y.get 16 i+38*conv x.get y.get 16 (i+16))∧(65536:Int) ^ i*(conv x.get y.get 16 i+38*conv x.get y.get 16 (i+16))≤1766847064778384329583297500742918515827483896875618958121606201292619776*2679977804400:=fun i hi=>by
   obtain⟨_,e2,e3⟩:=hc i;obtain⟨_,f2,f3⟩:=hc (i+16);have EW:(0:Int)≤65536 ^ i:=Int.pow_nonneg (by omega)
   have Vy:(65536:Int) ^ i≤1766847064778384329583297500742918515827483896875618958121606201292619776:=by
    have h1:(65536 ^ i:Nat)≤65536 ^ 15:=Nat.pow_le_pow_right (by omega) (by omega);rw[abD]at h1;have h2:((65536 ^ i:Nat):Int)=65536 ^ i:=(by simp);omega
   exact⟨Int.mul_nonneg EW (by omega),Int.mul_le_mul Vy (by omega) (by omega) (by omega)⟩
  have:=oR NN;omega
 rw[wG hb hnn.1 hnn.2,hF]
end Go.Proofs.YtnbkagglkajbkaaGreat
end
