/- What the laws lean on, part 14: a reader of code, plain facts, and what each function gives; no conditions. -/
import Derived.Test.YtnbkagglkajbkaaGreatC13
set_option linter.unusedVariables false
set_option linter.unusedSimpArgs false
noncomputable section
namespace Go.Proofs.YtnbkagglkajbkaaGreat
open Go Go.Ev BJ Go.Proofs.Tryz
open Go.IntKind (i64 signed u16 u64 wrap)
set_option maxRecDepth 1000000
def rF(f:Nat→Int):Nat→Int
 |0=>0
 |n+1=>rF f n+f n*(256 ^ n:Nat)
theorem KE(f:Nat→Int):∀n,n≤8→(∀i,i<n→0≤f i∧f i<256)→
  (List.range n).foldl (fun acc i=>bC .u64 acc (shl .u64 (ee (f i)) ((8*i:Nat):Int))) 0=rF f n∧0≤rF f n∧rF f n<(256 ^ n:Nat)
 |0,_,_=>⟨rfl,by simp[rF],by simp[rF]⟩
 |n+1,hn,hf=>by
  obtain⟨h1,h2,h3⟩:=KE f n (by omega) fun i hi=>hf i (by omega);have h4:=hf n (by omega);rw[List.range_succ,List.foldl_append,h1];simp only[List.foldl_cons,List.foldl_nil,rF];have hle:256 ^ n≤256 ^ 7:=Nat.pow_le_pow_right (by omega) (by omega);have h7:(256:Nat) ^ 7=72057594037927936:=by decide
  have e8:(2 ^ (8*n):Nat)=256 ^ n:=by rw[Nat.pow_mul]
  have hmul:0≤f n*(256 ^ n:Nat)∧f n*(256 ^ n:Nat)≤255*(256 ^ n:Nat):=⟨Int.mul_nonneg h4.1 (Int.natCast_nonneg _),Int.mul_le_mul_of_nonneg_right (by omega) (Int.natCast_nonneg _)⟩;have hm:f n*(256 ^ n:Nat)%(256 ^ n:Nat)=0:=Int.mul_emod_left _ _
  have e:shl .u64 (ee (f n)) ((8*n:Nat):Int)=f n*(256 ^ n:Nat):=by
   rw[gL .u64 _ _ (by show 8*n≤64;omega),e8];unfold ee;rw[wrap_u64 (n:=f n) (by omega) (by omega)];exact wrap_u64 hmul.1 (by omega)
  have e2:(256 ^ (n+1):Nat)=256*256 ^ n:=by rw[Nat.pow_succ,Nat.mul_comm]
  rw[e,jq,ow (m:=8*n) hmul.1 (by rw[e8];exact hm) h2 (by rw[e8];exact h3) (by omega),e2];refine⟨by omega,by omega,by omega⟩
theorem get_ofFn{f:Nat→Int}:∀ {n i:Nat},i<n→Vec.get (Vec.ofFn n f) i=f i
 |0,_,h=>absurd h (by omega)
 |n+1,0,_=>rfl
 |n+1,i+1,h=>by
  show Vec.get (Vec.ofFn n fun k=>f (k+1)) i=_;rw[get_ofFn (n:=n) (by omega)]
theorem uj{n:Nat}{v:Vec Int n}(h:oY v){i:Nat}(hi:i<n):v.get i=cR v/(256 ^ i:Nat)%256:=by
 conv=>lhs;rw[← XN h]
 unfold xf;rw[get_ofFn hi]
theorem KF{n:Nat}{v:Vec Int n}(h:oY v){i:Nat}(hi:i<n):0≤v.get i∧v.get i<256:=by
 rw[uj h hi];omega
theorem KG(V:Int)(hV:0≤V):∀n,rF (fun i=>V/(256 ^ i:Nat)%256) n=V%(256 ^ n:Nat)
 |0=>by simp[rF]
 |n+1=>by
  simp only[rF];rw[KG V hV n];have e2:(256 ^ (n+1):Nat)=256 ^ n*256:=Nat.pow_succ ..;rw[e2];generalize hm:(256 ^ n:Nat)=m;have Cl:0<(m:Int):=by have:=Nat.pow_pos (n:=n) (show 0<256 by decide);omega
  have h3:=Int.emod_nonneg V (b:=(m:Int)) (by omega);have h4:=Int.emod_lt_of_pos V Cl;have h5:=Int.emod_add_mul_ediv V (m:Int)
  have h6:V=(V%m+V/m%256*m)+((m*256:Nat):Int)*(V/m/256):=by
   rw[Int.natCast_mul,Int.mul_assoc];have h7:V/m=V/m%256+256*(V/m/256):=(by omega);have h8:(m:Int)*(V/m)=m*(V/m%256)+m*(256*(V/m/256)):=(by rw[← Int.mul_add,← h7]);rw[Int.mul_comm (V/m%256) m];have h9:(m:Int)*(((256:Nat):Int)*(V/m/256))=m*(256*(V/m/256)):=rfl;rw[h9];omega
  have Z0:0≤V/m%256*m∧V/m%256*m≤255*m:=⟨Int.mul_nonneg (by omega) (by omega),Int.mul_le_mul_of_nonneg_right (by omega) (by omega)⟩
  conv=>rhs;rw[h6]
  rw[Int.add_mul_emod_self_left];exact(Int.emod_eq_of_lt (by omega) (by rw[Int.natCast_mul];omega)).symm
theorem uk{b:dY}(h:oY b)(j:Nat)(hj:j<4):word b j=cR b/(256 ^ (8*j):Nat)%18446744073709551616:=by
 have h1:=(KE (fun i=>b.get (8*j+i)) 8 (by omega) fun i hi=>KF h (by omega)).1;have hV:=et h;unfold word;rw[h1]
 have h2:rF (fun i=>b.get (8*j+i)) 8=rF (fun i=>cR b/(256 ^ (8*j):Nat)/(256 ^ i:Nat)%256) 8:=by
  have key:∀n,n≤8→rF (fun i=>b.get (8*j+i)) n=rF (fun i=>cR b/(256 ^ (8*j):Nat)/(256 ^ i:Nat)%256) n:=by
   intro n
   induction n with
   |zero=>intro _;rfl
   |succ n ih=>
    intro hn;simp only[rF];rw[ih (by omega),uj h (by omega),Int.ediv_ediv_of_nonneg (Int.natCast_nonneg _),← Int.natCast_mul,← Nat.pow_add]
  exact key 8 (by omega)
 rw[h2,KG _ (Int.ediv_nonneg hV (Int.natCast_nonneg _)) 8];rfl
theorem afR{b:dY}(h:oY b):fJ (nm b)∧fA (nm b)=cR b%57896044618658097711785492504343953926634992332820282019728792003956564819968:=by
 have hV:=et h;have hV2:=qd h;rw[axv]at hV2;have w0:=uk h 0 (by omega);have w1:=uk h 1 (by omega);have w2:=uk h 2 (by omega);have w3:=uk h 3 (by omega);have q0:(256 ^ (8*0):Nat)=1:=by decide
 have q1:(256 ^ (8*1):Nat)=18446744073709551616:=by decide
 have q2:(256 ^ (8*2):Nat)=340282366920938463463374607431768211456:=by decide
 have q3:(256 ^ (8*3):Nat)=6277101735386680763835789423207666416102355444464034512896:=by decide
 rw[q0]at w0;rw[q1]at w1;rw[q2]at w2;rw[q3]at w3;unfold nm;rw[w0,w1,w2,w3];generalize cR b=V at*;obtain⟨a0,ha0⟩:∃a,a=V/((1:Nat):Int)%18446744073709551616:=⟨_,rfl⟩;obtain⟨a1,ha1⟩:∃a,a=V/((18446744073709551616:Nat):Int)%18446744073709551616:=⟨_,rfl⟩;obtain⟨a2,ha2⟩:∃a,a=V/((340282366920938463463374607431768211456:Nat):Int)%18446744073709551616:=⟨_,rfl⟩;obtain⟨a3,ha3⟩:∃a,a=V/((6277101735386680763835789423207666416102355444464034512896:Nat):Int)%18446744073709551616:=⟨_,rfl⟩;rw[← ha0,← ha1,← ha2,← ha3];have sh:∀ (x:Int) (n:Nat),n≤64→bz x n=x/(2 ^ n:Nat):=fun x n hn=>cz .u64 x n hn;have sl:∀ (x:Int) (n:Nat),n≤64→shl .u64 x n=x*(2 ^ n:Nat)%18446744073709551616:=fun x n hn=>by rw[gL .u64 x n hn,mr]
 have s51:=sh a0 51 (by decide);have s38:=sh a1 38 (by decide);have s25:=sh a2 25 (by decide);have s12:=sh a3 12 (by decide);have l13:=sl a1 13 (by decide);have l26:=sl a2 26 (by decide);have l39:=sl a3 39 (by decide);have e51:(2 ^ 51:Nat)=2251799813685248:=by decide
 have e38:(2 ^ 38:Nat)=274877906944:=by decide
 have e25:(2 ^ 25:Nat)=33554432:=by decide
 have e12:(2 ^ 12:Nat)=4096:=by decide
 have e13:(2 ^ 13:Nat)=8192:=by decide
 have e26:(2 ^ 26:Nat)=67108864:=by decide
 have e39:(2 ^ 39:Nat)=549755813888:=by decide
 rw[e51]at s51;rw[e38]at s38;rw[e25]at s25;rw[e12]at s12;rw[e13]at l13;rw[e26]at l26;rw[e39]at l39
 have o1:bC .u64 (bz a0 51) (shl .u64 a1 13)=a0/2251799813685248+a1*8192%18446744073709551616:=by
  have e:bC .u64 (shl .u64 a1 13) (bz a0 51)=shl .u64 a1 13+bz a0 51:=ow (m:=13) (by rw[show shl .u64 a1 13=_ from l13];omega) (by rw[show shl .u64 a1 13=_ from l13,e13];omega) (by rw[show bz a0 51=_ from s51];omega) (by rw[show bz a0 51=_ from s51,e13];omega) (by rw[show shl .u64 a1 13=_ from l13,show bz a0 51=_ from s51];omega);rw[jq,e,show shl .u64 a1 13=_ from l13,show bz a0 51=_ from s51];omega
 have o2:bC .u64 (bz a1 38) (shl .u64 a2 26)=a1/274877906944+a2*67108864%18446744073709551616:=by
  have e:bC .u64 (shl .u64 a2 26) (bz a1 38)=shl .u64 a2 26+bz a1 38:=ow (m:=26) (by rw[show shl .u64 a2 26=_ from l26];omega) (by rw[show shl .u64 a2 26=_ from l26,e26];omega) (by rw[show bz a1 38=_ from s38];omega) (by rw[show bz a1 38=_ from s38,e26];omega) (by rw[show shl .u64 a2 26=_ from l26,show bz a1 38=_ from s38];omega);rw[jq,e,show shl .u64 a2 26=_ from l26,show bz a1 38=_ from s38];omega
 have o3:bC .u64 (bz a2 25) (shl .u64 a3 39)=a2/33554432+a3*549755813888%18446744073709551616:=by
  have e:bC .u64 (shl .u64 a3 39) (bz a2 25)=shl .u64 a3 39+bz a2 25:=ow (m:=39) (by rw[show shl .u64 a3 39=_ from l39];omega) (by rw[show shl .u64 a3 39=_ from l39,e39];omega) (by rw[show bz a2 25=_ from s25];omega) (by rw[show bz a2 25=_ from s25,e39];omega) (by rw[show shl .u64 a3 39=_ from l39,show bz a2 25=_ from s25];omega);rw[jq,e,show shl .u64 a3 39=_ from l39,show bz a2 25=_ from s25];omega
 rw[o1,o2,o3,show bz a3 12=_ from s12];simp only[ug];constructor
 ·simp only[fJ,KA];omega
 ·simp only[fA];omega
end Go.Proofs.YtnbkagglkajbkaaGreat
namespace BJ
theorem F.pow_add(a:F)(m n:Nat):F.pow a (m+n)=F.pow a m*F.pow a n:=by
 induction n with
 |zero=>rw[Nat.add_zero,F.pow_zero];grobner
 |succ n ih=>rw[← Nat.add_assoc,F.pow_succ,ih,F.pow_succ];grobner
theorem F.np(a:F)(m:Nat):F.pow a (2*m)=F.pow a m*F.pow a m:=by rw[Nat.two_mul,F.pow_add]
theorem F.pow_one(a:F):F.pow a 1=a:=by rw[F.pow_succ,F.pow_zero];grobner
def rootOf(a:F):F×Bool:=
 let r:=F.pow a ((pp+3)/8)
 let r1:=if r*r=a then r else r*F.pow 2 ((pp-1)/4)
 if r1*r1=a then(if r1.val%2=1 then-r1 else r1,true)else(0,false)
def ig(u v:F):F×Bool:=if v=0 then(0,decide (u=0))else rootOf (u*F.inv v)
end BJ
namespace Go.Proofs.YtnbkagglkajbkaaGreat
open Go Go.Ev BJ Go.Proofs.Tryz
open Go.IntKind (i64 signed u16 u64 wrap)
theorem KH(g:Int→Int):∀ {n:Nat} {v:Vec Int (n+1)},oY v→(∀x,0≤x→x<256→0≤g x∧g x<256)→
  oY (Vec.nV g n v)∧cR (Vec.nV g n v)=cR v-v.get n*(256 ^ n:Nat)+g (v.get n)*(256 ^ n:Nat)
 |0,v,h,hg=>by
  obtain⟨x,u⟩:=v;refine⟨⟨hg x h.1.1 h.1.2,h.2⟩,?_⟩;show g x+256*0=x+256*0-x*((256 ^ 0:Nat):Int)+g x*((256 ^ 0:Nat):Int);rw[Nat.pow_zero];omega
 |n+1,v,h,hg=>by
  obtain⟨x,u⟩:=v;obtain⟨h1,h2⟩:=KH g (n:=n) (v:=u) h.2 hg;refine⟨⟨h.1,h1⟩,?_⟩;show x+256*cR (Vec.nV g n u)=x+256*cR u-Vec.get u n*((256 ^ (n+1):Nat):Int)+g (Vec.get u n)*((256 ^ (n+1):Nat):Int);rw[h2];have e2:(256 ^ (n+1):Nat)=256*256 ^ n:=by rw[Nat.pow_succ,Nat.mul_comm]
  rw[e2,Int.natCast_mul];have sw:∀a b:Int,a*(((256:Nat):Int)*b)=256*(a*b):=fun a b=>by rw[← Int.mul_assoc,Int.mul_comm a,Int.mul_assoc];rfl
  rw[sw,sw];omega
theorem asr:(256 ^ 31:Nat)=452312848583266388373324160190187140051835877600158453279131187530910662656:=by decide
theorem alH{b:dY}(h:oY b):fJ (nm b)∧fe (nm b)=cC (cR b%57896044618658097711785492504343953926634992332820282019728792003956564819968):=by
 obtain⟨h1,h2⟩:=afR h;exact⟨h1,by unfold fe;rw[h2]⟩
abbrev mulC:Fe→Fe→Fe:=rE bm bo cg
theorem Uq{e:dY}(h:oY e){i:Nat}(hi:i<256):C6 e i=decide ((cR e).toNat/2 ^ i%2=1):=by
 have hV:=et h;unfold C6;have e1:shr .u8 (e.get (i/8)) ((i%8:Nat):Int)=e.get (i/8)/(2 ^ (i%8):Nat):=cz .u8 _ _ (by show i%8≤8;omega);rw[e1,Er (m:=1) (by decide) _ 1 (by decide),uj h (by omega)];obtain⟨N,hN⟩:=Int.eq_ofNat_of_zero_le hV;rw[hN]
 have key:(((N:Int)/(256 ^ (i/8):Nat)%256/(2 ^ (i%8):Nat)%(2 ^ 1:Nat)==1)=true)↔N/2 ^ i%2=1:=by
  rw[beq_iff_eq]
  have e2:(2 ^ i:Nat)=256 ^ (i/8)*2 ^ (i%8):=by
   rw[show(256:Nat)=2 ^ 8 from rfl,← Nat.pow_mul,← Nat.pow_add];congr 1;omega
  rw[e2,← Nat.div_div_eq_div_mul,← Int.natCast_ediv];generalize N/256 ^ (i/8)=W at*;have h8:i%8<8:=Nat.mod_lt _ (by decide);generalize i%8=m at*;have hm:m=0∨m=1∨m=2∨m=3∨m=4∨m=5∨m=6∨m=7:=by omega
  rcases hm with rfl|rfl|rfl|rfl|rfl|rfl|rfl|rfl<;>simp<;>omega
 rw[Int.toNat_natCast]
 by_cases hb:N/2 ^ i%2=1
 ·rw[decide_eq_true hb];exact key.2 hb
 ·rw[decide_eq_false hb];exact Bool.eq_false_iff.2 fun e=>hb (key.1 e)
theorem v8{x:Fe}(hx:fJ x):fJ (mulC x x)∧fe (mulC x x)=fe x*fe x:=v5 hx hx
def powC(x:Fe)(e:dY):Fe:=apK a7 (fun x=>mulC x x) mulC x e
theorem KI{n:Nat}{b:Bool}{p:Prop}[Decidable p](h:b=decide p)(v u:Vec Int n):dB b v u=if p then v else u:=by
 rw[bE,h];by_cases hp:p<;>simp[hp]
theorem Qt{x:Fe}{e:dY}(hx:fJ x)(he:oY e):fJ (powC x e)∧fe (powC x e)=F.pow (fe x) (cR e).toNat:=by
 have hV:=et he;have hV2:=qd he;obtain⟨N,hN⟩:=Int.eq_ofNat_of_zero_le hV
 have key:∀k,k≤256→fJ (eQ (fQ (fun x=>mulC x x) mulC x e) k (a7 1))∧fe (eQ (fQ (fun x=>mulC x x) mulC x e) k (a7 1))=F.pow (fe x) (N/2 ^ (256-k)):=by
  intro k
  induction k with
  |zero=>
   intro _;obtain⟨h1,h2⟩:=oZ (n:=1) ⟨by decide,by decide⟩;refine⟨h1,?_⟩;have afS:(256 ^ 32:Nat)=2 ^ 256:=(by rw[show(256:Nat)=2 ^ 8 from rfl,← Nat.pow_mul]);have:N/2 ^ (256-0)=0:=Nat.div_eq_of_lt (by rw[hN]at hV2;rw[Nat.sub_zero,← afS];omega);rw[this,F.pow_zero];exact h2.trans x5
  |succ k ih=>
   intro hk;obtain⟨h1,h2⟩:=ih (by omega);show fJ (fQ (fun x=>mulC x x) mulC x e k _)∧fe (fQ (fun x=>mulC x x) mulC x e k _)=_;generalize eQ (fQ (fun x=>mulC x x) mulC x e) k (a7 1)=r at*;obtain⟨s1,s2⟩:=v8 h1;obtain⟨m1,m2⟩:=v5 s1 hx;unfold fQ;rw[KI (Uq he (i:=255-k) (by omega)),hN,Int.toNat_natCast]
   have hdiv:N/2 ^ (256-k)=N/2 ^ (256-(k+1))/2:=by
    rw[Nat.div_div_eq_div_mul,← Nat.pow_succ];congr 2;omega
   rw[hdiv]at h2;have ass:255-k=256-(k+1):=(by omega);rw[ass];generalize N/2 ^ (256-(k+1))=M at*
   split
   ·rename_i hb;refine⟨m1,?_⟩;show fe (mulC (mulC r r) x)=_;rw[m2,s2,h2];have:M=2*(M/2)+1:=by omega
    conv=>rhs;rw[this]
    rw[F.pow_succ,F.np]
   ·rename_i hb;refine⟨s1,?_⟩;show fe (mulC r r)=_;rw[s2,h2];have:M=2*(M/2):=by omega
    conv=>rhs;rw[this]
    rw[F.np]
 have:=key 256 (by omega);rw[hN,Int.toNat_natCast];have e:N/2 ^ (256-256)=N:=by simp
 rw[e]at this;unfold powC apK;exact this
theorem AE{f:Nat→Int}:∀ {n:Nat},(∀i,i<n→0≤f i∧f i<256)→oY (Vec.ofFn n f)
 |0,_=>trivial
 |n+1,h=>⟨h 0 (by omega),AE (n:=n) fun i hi=>h (i+1) (by omega)⟩
theorem qe{lo hi:Int}(h1:0≤lo∧lo<256)(h2:0≤hi∧hi<256):oY (bW lo hi):=AE fun i _=>by
 show 0≤(if i=0 then lo else if i=31 then hi else 255)∧(if i=0 then lo else if i=31 then hi else 255)<256
 split
 ·exact h1
 ·split
  ·exact h2
  ·omega
theorem Ur:(cR (bW 235 127)).toNat=pp-2:=by decide+kernel
theorem KJ:(cR (bW 254 15)).toNat=(pp+3)/8:=by decide+kernel
theorem afT:(cR (bW 251 31)).toNat=(pp-1)/4:=by decide+kernel
def jP(x:Fe):Fe:=powC x (bW 235 127)
theorem Qu{x:Fe}(hx:fJ x):fJ (jP x)∧fe (jP x)=F.inv (fe x):=by
 obtain⟨h1,h2⟩:=Qt hx (qe (lo:=235) (hi:=127) (by omega) (by omega));rw[Ur]at h2;exact⟨h1,h2⟩
def jQ:Fe→Fe→Fe:=Uj cg
def kP:Fe→Fe→Fe:=Kv cg
def AF(x:Fe):Fe:=kP dX x
def Qv(x y:Fe):Bool:=qF (fh x) (fh y)
def o5:Fe→Bool:=afD fh
def fk(x:Fe):Bool:=Qv x dX
def mK:Fe→Fe×Bool:=Ay powC bW mulC (fun x=>mulC x x) AF a7 Qv o5
def lP:Fe→Fe→Fe×Bool:=fun u v=>(dB (fk v) dX (mK (mulC u (jP v))).1,bif fk v then fk u else(mK (mulC u (jP v))).2)
theorem ast{x:Fe}(hx:fJ x):fJ (AF x)∧fe (AF x)= -fe x:=by
 obtain⟨h1,h2⟩:=afK jb.1 hx;refine⟨h1,?_⟩;show fe (Kv cg dX x)=_;rw[h2,jb.2];grobner
theorem Db{x:Fe}(hx:fJ x):fk x=decide (fe x=0):=by
 unfold fk Qv;rw[AD hx jb.1,jb.2]
theorem alI{x:Fe}(hx:fJ x):fJ (mK x).1∧fe (mK x).1=(rootOf (fe x)).1∧(mK x).2=(rootOf (fe x)).2:=by
 obtain⟨r1,r2⟩:=Qt hx (qe (lo:=254) (hi:=15) (by omega) (by omega));rw[KJ]at r2;obtain⟨t1,t2⟩:=oZ (n:=2) ⟨by decide,by decide⟩;obtain⟨i1,i2⟩:=Qt t1 (qe (lo:=251) (hi:=31) (by omega) (by omega));have t3:cC 2=2:=by decide+kernel
 rw[afT,t2,t3]at i2;unfold mK Ay;simp only[C5];obtain⟨s1,s2⟩:=v8 r1;obtain⟨m1,m2⟩:=v5 r1 i1
 have q1:Qv (mulC (powC x (bW 254 15)) (powC x (bW 254 15))) x=decide (F.pow (fe x) ((pp+3)/8)*F.pow (fe x) ((pp+3)/8)=fe x):=by
  unfold Qv;rw[AD s1 hx,s2,r2]
 generalize hR:dB (!Qv (mulC (powC x (bW 254 15)) (powC x (bW 254 15))) x) (mulC (powC x (bW 254 15)) (powC (a7 2) (bW 251 31))) (powC x (bW 254 15))=R
 have hR1:fJ R∧fe R=if F.pow (fe x) ((pp+3)/8)*F.pow (fe x) ((pp+3)/8)=fe x then F.pow (fe x) ((pp+3)/8)else F.pow (fe x) ((pp+3)/8)*F.pow 2 ((pp-1)/4):=by
  rw[← hR,q1,bE]
  by_cases hq:F.pow (fe x) ((pp+3)/8)*F.pow (fe x) ((pp+3)/8)=fe x
  ·rw[decide_eq_true hq,if_pos hq];exact⟨r1,r2⟩
  ·rw[decide_eq_false hq,if_neg hq];exact⟨m1,by show fe (mulC _ _)=_;rw[m2,r2,i2]⟩
 obtain⟨hR1,hR2⟩:=hR1;obtain⟨u1,u2⟩:=v8 hR1;have q2:Qv (mulC R R) x=decide (fe R*fe R=fe x):=by unfold Qv;rw[AD u1 hx,u2]
 obtain⟨n1,n2⟩:=ast hR1;have ho:o5 R=decide ((fe R).val%2=1):=afQ hR1;rw[q2,ho,bE,bE]
 have axE:rootOf (fe x)=if fe R*fe R=fe x then(if(fe R).val%2=1 then-fe R else fe R,true)else(0,false):=by
  unfold rootOf;rw[hR2]
 rw[axE]
 by_cases h1:fe R*fe R=fe x
 ·rw[decide_eq_true h1,if_pos h1]
  by_cases h2:(fe R).val%2=1
  ·rw[decide_eq_true h2,if_pos h2];exact⟨n1,n2,rfl⟩
  ·rw[decide_eq_false h2,if_neg h2];exact⟨hR1,rfl,rfl⟩
 ·rw[decide_eq_false h1,if_neg h1];exact⟨jb.1,jb.2,rfl⟩
end Go.Proofs.YtnbkagglkajbkaaGreat
namespace Go.Proofs.YtnbkagglkajbkaaGreat
open Go Go.Ev BJ Go.Proofs.Tryz
open Go.IntKind (i64 signed u16 u64 wrap)
theorem Qw(bv bu:Bool)(fu:F)(z:Fe×Bool)(y:F×Bool)(v:F)(hz1:bv=decide (v=0))(hz2:bu=decide (fu=0))(s1:fJ z.1)(s2:fe z.1=y.1)(s3:z.2=y.2):
  fJ (dB bv dX z.1)∧fe (dB bv dX z.1)=(if v=0 then((0:F),decide (fu=0))else y).1∧(bif bv then bu else z.2)=(if v=0 then((0:F),decide (fu=0))else y).2:=by
 rw[bE]
 by_cases h:v=0
 ·rw[if_pos h,hz1,decide_eq_true h];exact⟨jb.1,jb.2,hz2⟩
 ·rw[if_neg h,hz1,decide_eq_false h];exact⟨s1,s2,s3⟩
theorem afU{u v:Fe}(hu:fJ u)(hv:fJ v):fJ (lP u v).1∧fe (lP u v).1=(ig (fe u) (fe v)).1∧(lP u v).2=(ig (fe u) (fe v)).2:=by
 have hi:=Qu hv;have hm:=v5 hu hi.1;have hs:=alI hm.1;have e:fe (rE bm bo cg u (jP v))=fe u*F.inv (fe v):=hm.2.trans (by rw[hi.2]);rw[e]at hs;exact Qw _ _ (fe u) _ _ (fe v) (Db hv) (Db hu) hs.1 hs.2.1 hs.2.2
end Go.Proofs.YtnbkagglkajbkaaGreat
namespace BJ
abbrev E4:=F×F×F×F
def rG(x y:F):E4:=(x,y,1,x*y)
def mL:E4:=rG 0 1
def um(p q:E4):E4:=
 let a:=(p.2.1-p.1)*(q.2.1-q.1)
 let b:=(p.2.1+p.1)*(q.2.1+q.1)
 let c:=p.2.2.2*q.2.2.2*dd+p.2.2.2*q.2.2.2*dd
 let d:=p.2.2.1*q.2.2.1+p.2.2.1*q.2.2.1
 ((b-a)*(d-c),(d+c)*(b+a),(d-c)*(d+c),(b-a)*(b+a))
def kQ(y:F):F×Bool:=ig (y*y-1) (dd*(y*y)+1)
def AG:E4:=rG (kQ (4*F.inv 5)).1 (4*F.inv 5)
end BJ
namespace Go.Proofs.YtnbkagglkajbkaaGreat
open Go Go.Ev BJ Go.Proofs.Tryz
open Go.IntKind (i64 signed u16 u64 wrap)
def Ok4(p:Pt):Prop:=fJ p.2.1∧fJ p.2.2.1∧fJ p.2.2.2.1∧fJ p.2.2.2.2
def xh(p:Pt):Prop:=p.1=true→Ok4 p
def ptF(p:Pt):E4:=(fe p.2.1,fe p.2.2.1,fe p.2.2.2.1,fe p.2.2.2.2)
def Us(p:Pt):E4:=if p.1=true then ptF p else mL
def jD:Fe:=nm mH
theorem x6:fJ jD∧fe jD=dd:=by
 have hb:oY mH:=by simp[mH,oY]
 obtain⟨h1,h2⟩:=alH hb;refine⟨h1,h2.trans ?_⟩;decide+kernel
def gN:Fe→Fe→Pt:=afF mulC a7
theorem rH:fJ (a7 1)∧fe (a7 1)=1:=by
 obtain⟨h1,h2⟩:=oZ (n:=1) ⟨by decide,by decide⟩;exact⟨h1,h2.trans x5⟩
theorem Dd{x y:Fe}(hx:fJ x)(hy:fJ y):(gN x y).1=true∧Ok4 (gN x y)∧ptF (gN x y)=rG (fe x) (fe y):=by
 obtain⟨m1,m2⟩:=v5 hx hy;obtain⟨o1,o2⟩:=rH;refine⟨rfl,⟨hx,hy,o1,m1⟩,?_⟩;show(fe x,fe y,fe (a7 1),fe (mulC x y))=_;rw[o2,m2];rfl
def iF:Pt:=gN dX (a7 1)
theorem Ut:iF.1=true∧Ok4 iF∧ptF iF=mL:=by
 obtain⟨h1,h2,h3⟩:=Dd jb.1 rH.1;refine⟨h1,h2,h3.trans ?_⟩;rw[jb.2,rH.2];rfl
def fU:Pt→Pt:=afG iF
theorem Qx{p:Pt}(h:xh p):(fU p).1=true∧Ok4 (fU p)∧ptF (fU p)=Us p:=by
 unfold fU afG;rw[ud];unfold Us
 cases hp:p.1 with
 |false=>simp only[Bool.not_false,cond_true,Bool.false_eq_true,if_false];exact Ut
 |true=>simp only[Bool.not_true,cond_false,if_true];exact⟨hp,h hp,trivial⟩
theorem afV{p:Pt}(h1:p.1=true)(h2:Ok4 p):xh p∧Us p=ptF p:=⟨fun _=>h2,if_pos h1⟩
def nq:Fe→Fe→Fe→Fe→Pt:=alA mulC
def eL:Pt→Pt→Pt:=addFn mulC jQ kP jD fU nq
theorem ns{x y:Fe}(hx:fJ x)(hy:fJ y):fJ (jQ x y)∧fe (jQ x y)=fe x+fe y:=asp hx hy
theorem uo{x y:Fe}(hx:fJ x)(hy:fJ y):fJ (kP x y)∧fe (kP x y)=fe x-fe y:=afK hx hy
theorem fR{x y:Fe}(hx:fJ x)(hy:fJ y):fJ (mulC x y)∧fe (mulC x y)=fe x*fe y:=v5 hx hy
theorem afW{e f g h:Fe}(he:fJ e)(hf:fJ f)(hg:fJ g)(hh:fJ h):(nq e f g h).1=true∧Ok4 (nq e f g h)∧ptF (nq e f g h)=(fe e*fe f,fe g*fe h,fe f*fe g,fe e*fe h):=by
 obtain⟨a1,a2⟩:=fR he hf;obtain⟨b1,b2⟩:=fR hg hh;obtain⟨c1,c2⟩:=fR hf hg;obtain⟨d1,d2⟩:=fR he hh;refine⟨rfl,⟨a1,b1,c1,d1⟩,?_⟩;show(fe (mulC e f),fe (mulC g h),fe (mulC f g),fe (mulC e h))=_;rw[a2,b2,c2,d2]
theorem afX{p q:Pt}(hp:Ok4 p)(hq:Ok4 q):
  let r:=nq (kP (mulC (jQ p.2.2.1 p.2.1) (jQ q.2.2.1 q.2.1)) (mulC (kP p.2.2.1 p.2.1) (kP q.2.2.1 q.2.1)))
   (kP (jQ (mulC p.2.2.2.1 q.2.2.2.1) (mulC p.2.2.2.1 q.2.2.2.1)) (jQ (mulC (mulC p.2.2.2.2 q.2.2.2.2) jD) (mulC (mulC p.2.2.2.2 q.2.2.2.2) jD)))
   (jQ (jQ (mulC p.2.2.2.1 q.2.2.2.1) (mulC p.2.2.2.1 q.2.2.2.1)) (jQ (mulC (mulC p.2.2.2.2 q.2.2.2.2) jD) (mulC (mulC p.2.2.2.2 q.2.2.2.2) jD)))
   (jQ (mulC (jQ p.2.2.1 p.2.1) (jQ q.2.2.1 q.2.1)) (mulC (kP p.2.2.1 p.2.1) (kP q.2.2.1 q.2.1)))
  r.1=true∧Ok4 r∧ptF r=um (ptF p) (ptF q):=by
 obtain⟨px,py,pz,pt⟩:=hp;obtain⟨qx,qy,qz,qt⟩:=hq;have a1:=uo py px;have a2:=uo qy qx;have a:=fR a1.1 a2.1;have b1:=ns py px;have b2:=ns qy qx;have b:=fR b1.1 b2.1;have c1:=fR pt qt;have c2:=fR c1.1 x6.1;have c:=ns c2.1 c2.1;have d1:=fR pz qz;have d:=ns d1.1 d1.1;have e:=uo b.1 a.1;have f:=uo d.1 c.1;have g:=ns d.1 c.1;have h:=ns b.1 a.1;obtain⟨r1,r2,r3⟩:=afW e.1 f.1 g.1 h.1;refine⟨r1,r2,r3.trans ?_⟩;rw[e.2,f.2,g.2,h.2,d.2,c.2,b.2,a.2,d1.2,c2.2,c1.2,b1.2,b2.2,a1.2,a2.2,x6.2];rfl
theorem afY{p q:Pt}(hp:xh p)(hq:xh q):xh (eL p q)∧(eL p q).1=true∧Us (eL p q)=um (Us p) (Us q):=by
 obtain⟨p1,p2,p3⟩:=Qx hp;obtain⟨q1,q2,q3⟩:=Qx hq;obtain⟨r1,r2,r3⟩:=afX p2 q2;rw[p3,q3]at r3;obtain⟨s1,s2⟩:=afV r1 r2;exact⟨s1,r1,s2.trans r3⟩
end Go.Proofs.YtnbkagglkajbkaaGreat
namespace Go.Proofs.YtnbkagglkajbkaaGreat
open Go Go.Ev BJ Go.Proofs.Tryz
open Go.IntKind (i64 signed u16 u64 wrap)
def rI(b:dY):dY:=Vec.nV (fun x=>x+128) 31 b
def alJ(p:E4):dY:=if(p.1*F.inv p.2.2.1).val%2=1 then rI (dO (p.2.1*F.inv p.2.2.1))else dO (p.2.1*F.inv p.2.2.1)
abbrev uq:Int:=57896044618658097711785492504343953926634992332820282019728792003956564819968
def axF(b:dY):E4×Bool:=
 let y:=cC (cR b%uq)
 let x:=(kQ y).1
 if(kQ y).2=true∧cR b%uq<(pp:Int)∧¬ (128≤b.get 31∧x=0)then(rG (if 128≤b.get 31 then-x else x) y,true)else(mL,false)
theorem qf{f g:Int→Int}:∀ {n i:Nat} {v:Vec Int n},f (v.get i)=g (v.get i)→Vec.nV f i v=Vec.nV g i v
 |0,_,_,_=>rfl
 |n+1,0,v,h=>by
  show(f v.1,v.2)=(g v.1,v.2);rw[show f v.1=g v.1 from h]
 |n+1,i+1,v,h=>by
  show(v.1,Vec.nV f i v.2)=(v.1,Vec.nV g i v.2);rw[qf (n:=n) (i:=i) (v:=v.2) h]
theorem qg(a:F):0≤(dO a).get 31∧(dO a).get 31<128:=by
 obtain⟨h1,h2⟩:=kA a;rw[uj h1 (by decide),h2,asr];have:=a.isLt;simp only[pp]at this;omega
def w6:Fe→Fe×Bool:=fun y=>lP (kP (mulC y y) (a7 1)) (jQ (mulC jD (mulC y y)) (a7 1))
theorem alK{y:Fe}(hy:fJ y):fJ (w6 y).1∧fe (w6 y).1=(kQ (fe y)).1∧(w6 y).2=(kQ (fe y)).2:=by
 have s:=fR hy hy;have a:=uo s.1 rH.1;have m:=fR x6.1 s.1;have b:=ns m.1 rH.1;have r:=afU a.1 b.1;have e1:fe (kP (mulC y y) (a7 1))=fe y*fe y-1:=by rw[a.2,s.2,rH.2]
 have e2:fe (jQ (mulC jD (mulC y y)) (a7 1))=dd*(fe y*fe y)+1:=by rw[b.2,m.2,s.2,rH.2,x6.2]
 rw[e1,e2]at r;exact r
def o6:Pt:=gN (w6 (mulC (a7 4) (jP (a7 5)))).1 (mulC (a7 4) (jP (a7 5)))
theorem t4:cC 4=4:=by decide+kernel
theorem t5:cC 5=5:=by decide+kernel
theorem alL:o6.1=true∧Ok4 o6∧ptF o6=AG:=by
 have h4:=oZ (n:=4) ⟨by decide,by decide⟩;have h5:=oZ (n:=5) ⟨by decide,by decide⟩;have i:=Qu h5.1;have m:=fR h4.1 i.1;have r:=alK m.1;have e:fe (mulC (a7 4) (jP (a7 5)))=4*F.inv 5:=by rw[m.2,i.2,h4.2,h5.2,t4,t5]
 have a:=Dd r.1 m.1;refine⟨a.1,a.2.1,a.2.2.trans ?_⟩;rw[r.2.1,e];rfl
def iV:Pt→Fe×Fe:=alz mulC jP fU
def ur:Pt→dY:=Az o5 fh iV
theorem KK{n:Nat}{p:Prop}[Decidable p](v u:Vec Int n):dB (decide p) v u=if p then v else u:=KI rfl v u
theorem XO{p:Pt}(hp:xh p):ur p=alJ (Us p):=by
 obtain⟨p1,p2,p3⟩:=Qx hp;have i:=Qu p2.2.2.1;have x:=fR p2.1 i.1;have y:=fR p2.2.1 i.1;unfold ur Az;have ex:(iV p).1=mulC (fU p).2.1 (jP (fU p).2.2.2.1):=rfl;have ey:(iV p).2=mulC (fU p).2.2.1 (jP (fU p).2.2.2.1):=rfl;simp only[ex,ey];have ho:o5 (mulC (fU p).2.1 (jP (fU p).2.2.2.1))=decide ((fe (mulC (fU p).2.1 (jP (fU p).2.2.2.1))).val%2=1):=afQ x.1;rw[ho,KK,ui y.1,x.2,y.2,i.2];have hb:=qg (fe (fU p).2.2.1*F.inv (fe (fU p).2.2.2.1))
 have hu:Vec.nV (fun x=>bC .u8 x 128) 31 (dO (fe (fU p).2.2.1*F.inv (fe (fU p).2.2.2.1)))=rI (dO (fe (fU p).2.2.1*F.inv (fe (fU p).2.2.2.1))):=by
  refine qf ?_;generalize Vec.get (dO (fe (fU p).2.2.1*F.inv (fe (fU p).2.2.2.1))) 31=z at*;show bC .u8 z 128=z+128;rw[jq,aoD (m:=7) (by omega) (by decide) hb.1 (by omega) (by omega)];omega
 rw[hu,← p3];rfl
def Qy(V:Nat)(i:Nat):Bool:=decide (V/2 ^ i%2=1)
def iX(V:Nat)(p:E4)(k:Nat)(r:E4):E4:=if Qy V (255-k)=true then um (um r r) p else um r r
def AH(V:Nat)(p:E4):E4:=eQ (iX V p) 256 mL
theorem v9{e:dY}(h:oY e){i:Nat}(hi:i<256):(mI e i==1)=Qy (cR e).toNat i:=by
 have h1:=Uq h hi;unfold C6 at h1;unfold Qy mI;rw[← h1];have e1:shr .u8 (e.get (i/8)) ((i%8:Nat):Int)=e.get (i/8)/(2 ^ (i%8):Nat):=cz .u8 _ _ (by show i%8≤8;omega);rw[e1,Er (m:=1) (by decide) _ 1 (by decide),wrap_i64 (by omega) (by omega)]
def c5(p:Pt):Pt:=eL p p
def AI:dY→Pt→Pt:=afH mI iF c5 eL
theorem alM{n:dY}{p:Pt}(hn:oY n)(hp:xh p):xh (AI n p)∧Us (AI n p)=AH (cR n).toNat (Us p):=by
 have key:∀k,k≤256→xh (eQ (ic mI c5 eL n p) k iF)∧Us (eQ (ic mI c5 eL n p) k iF)=eQ (iX (cR n).toNat (Us p)) k mL:=by
  intro k
  induction k with
  |zero=>
   intro _;obtain⟨z1,z2,z3⟩:=Ut;obtain⟨o1,o2⟩:=afV z1 z2;exact⟨o1,o2.trans z3⟩
  |succ k ih=>
   intro hk;obtain⟨h1,h2⟩:=ih (by omega);show xh (ic mI c5 eL n p k _)∧Us (ic mI c5 eL n p k _)=iX _ _ k _;rw[← h2];generalize eQ (ic mI c5 eL n p) k iF=r at*;obtain⟨d1,_,d3⟩:=afY h1 h1;obtain⟨a1,_,a3⟩:=afY d1 hp;unfold ic iX;rw[ud,v9 hn (by omega)]
   cases Qy (cR n).toNat (255-k)
   ·exact⟨d1,d3⟩
   ·refine⟨a1,?_⟩;rw[if_pos rfl,← d3];exact a3
 exact key 256 (by omega)
end Go.Proofs.YtnbkagglkajbkaaGreat
namespace Go.Proofs.YtnbkagglkajbkaaGreat
open Go Go.Ev BJ Go.Proofs.Tryz
open Go.IntKind (i64 signed u16 u64 wrap)
theorem uu(x y:Fe):∀ (l:List (Nat×Nat)) (r:List (Int×Int)),(∀k,0≤(r.getD k (0,0)).2∧(r.getD k (0,0)).2<18446744073709551616)→∀p∈(gw bm bo x y l r).2,p
 | [],r,_,p,hp=>by simp[gw]at hp
 |(i,j)::l,r,hr,p,hp=>by
  have Iy:(gw bm bo x y ((i,j)::l) r).2=(0≤(bo (r.getD ((i+j)%5) (0,0)).2 (bm (fg x i j) (y.get j)).2 0).2∧(bo (r.getD ((i+j)%5) (0,0)).2 (bm (fg x i j) (y.get j)).2 0).2≤1)::
   (gw bm bo x y l (r.set ((i+j)%5) ((bo (r.getD ((i+j)%5) (0,0)).1 (bm (fg x i j) (y.get j)).1 (bo (r.getD ((i+j)%5) (0,0)).2 (bm (fg x i j) (y.get j)).2 0).2).1,(bo (r.getD ((i+j)%5) (0,0)).2 (bm (fg x i j) (y.get j)).2 0).1))).2:=rfl
  rw[Iy]at hp;have h0:=hr ((i+j)%5);generalize (r.getD ((i+j)%5) (0,0))=q at*
  have hm:0≤(bm (fg x i j) (y.get j)).2∧(bm (fg x i j) (y.get j)).2<18446744073709551616:=by
   show 0≤ee (fg x i j*y.get j)∧ee (fg x i j*y.get j)<18446744073709551616;unfold ee;rw[mr];omega
  have hs:=j9 h0.1 hm.1 (c:=0) (by omega);rcases List.mem_cons.1 hp with rfl|hp
  ·rw[hs];show 0≤(q.2+(bm (fg x i j) (y.get j)).2+0)/18446744073709551616∧(q.2+(bm (fg x i j) (y.get j)).2+0)/18446744073709551616≤1;omega
  ·refine uu x y l _ (fun k=>?_) p hp
   have lY:∀ (v:Int×Int) (a k:Nat),(r.set a v).getD k (0,0)=r.getD k (0,0)∨(r.set a v).getD k (0,0)=v:=by
    intro v a k;simp only[List.getD_eq_getElem?_getD,List.getElem?_set]
    split
    ·split
     ·exact .inr rfl
     ·rename_i e h;subst e;left;rw[List.getElem?_eq_none (by omega)]
    ·exact .inl rfl
   rcases lY _ ((i+j)%5) k with e|e
   ·rw[e];exact hr k
   ·rw[e,hs];show 0≤(q.2+(bm (fg x i j) (y.get j)).2+0)%18446744073709551616∧(q.2+(bm (fg x i j) (y.get j)).2+0)%18446744073709551616<18446744073709551616;omega
def afZ:Fe→Fe:=ub cg
end Go.Proofs.YtnbkagglkajbkaaGreat
namespace Go.Proofs.YtnbkagglkajbkaaGreat
open Go Go.Ev BJ Go.Proofs.Tryz
open Go.IntKind (i64 signed u16 u64 wrap)
end Go.Proofs.YtnbkagglkajbkaaGreat
namespace Go.Proofs.YtnbkagglkajbkaaGreat
open Go Go.Ev BJ Go.Proofs.Tryz
open Go.IntKind (i64 signed u16 u64 wrap)
def bx: {n:Nat}→Vec Int n→Int
 |0,_=>0
 |_+1,v=>v.1+65536*bx v.2
def wa: {n:Nat}→Vec Int n→Prop
 |0,_=>True
 |_+1,v=>(0≤v.1∧v.1<65536)∧wa v.2
theorem lu: {n:Nat}→ {v:Vec Int n}→wa v→0≤bx v
 |0,_,_=>Int.le_refl _
 |n+1,v,h=>by have:=lu h.2;have:=h.1;simp only[bx];omega
theorem Uu: {n:Nat}→ {v:Vec Int n}→wa v→bx v<(65536 ^ n:Nat)
 |0,_,_=>by simp[bx]
 |n+1,v,h=>by
  have h1:=Uu h.2;have h2:=h.1;simp only[bx];have e:(65536 ^ (n+1):Nat)=65536*65536 ^ n:=by rw[Nat.pow_succ,Nat.mul_comm]
  rw[e];generalize (65536 ^ n:Nat)=m at*;omega
theorem uv: {n:Nat}→ {v u:Vec Int n}→wa v→wa u→bx v=bx u→v=u
 |0,_,_,_,_,_=>rfl
 |n+1,v,u,hv,hu,h=>by
  simp only[bx]at h;have h1:=hv.1;have h2:=hu.1;have e1:v.1=u.1:=by omega
  have e2:bx v.2=bx u.2:=by omega
  exact Prod.ext e1 (uv hv.2 hu.2 e2)
def B8(n:Nat)(V:Int):Vec Int n:=Vec.ofFn n fun j=>V/(65536 ^ j:Nat)%65536
theorem wb:(n:Nat)→(V:Int)→0≤V→wa (B8 n V)∧bx (B8 n V)=V%(65536 ^ n:Nat)
 |0,V,h=>⟨trivial,by simp[bx]⟩
 |n+1,V,h=>by
  have e:B8 (n+1) V=(V/(65536 ^ 0:Nat)%65536,B8 n (V/65536)):=by
   unfold B8;show(_,Vec.ofFn n fun i=>V/(65536 ^ (i+1):Nat)%65536)=_
   have:(fun i:Nat=>V/(65536 ^ (i+1):Nat)%65536)=fun j:Nat=>V/65536/(65536 ^ j:Nat)%65536:=by
    funext j
    rw[Int.ediv_ediv_of_nonneg (by omega)]
    congr 2
    rw[Nat.pow_succ];simp[Int.mul_comm]
   rw[this]
  rw[e];obtain⟨h1,h2⟩:=wb n (V/65536) (by omega);refine⟨⟨by simp only[Nat.pow_zero];omega,h1⟩,?_⟩;show V/(65536 ^ 0:Nat)%65536+65536*bx (B8 n (V/65536))=_;rw[h2];have e2:(65536 ^ (n+1):Nat)=65536*65536 ^ n:=by rw[Nat.pow_succ,Nat.mul_comm]
  rw[e2];generalize hm:(65536 ^ n:Nat)=m;have Cl:0<(m:Int):=by have:=Nat.pow_pos (n:=n) (show 0<65536 by decide);omega
  have h3:=Int.emod_nonneg (V/65536) (b:=(m:Int)) (by omega);have h4:=Int.emod_lt_of_pos (V/65536) Cl;have h5:=Int.emod_add_mul_ediv (V/65536) (m:Int)
  have h6:V=(V%65536+65536*(V/65536%m))+((65536*m:Nat):Int)*(V/65536/m):=by
   rw[Int.natCast_mul,Int.mul_assoc];generalize (m:Int)*(V/65536/m)=z at*;omega
  rw[Nat.pow_zero]
  have h7:V%((65536*m:Nat):Int)=V%65536+65536*(V/65536%m):=by
   conv=>lhs;rw[h6]
   rw[Int.add_mul_emod_self_left];exact Int.emod_eq_of_lt (by omega) (by rw[Int.natCast_mul];omega)
  rw[h7];omega
theorem XP{n:Nat}{v:Vec Int n}(h:wa v):B8 n (bx v)=v:=by
 obtain⟨h1,h2⟩:=wb n (bx v) (lu h);exact uv h1 h (by rw[h2,Int.emod_eq_of_lt (lu h) (Uu h)])
theorem KL{n:Nat}{v:Vec Int n}(h:wa v){i:Nat}(hi:i<n):v.get i=bx v/(65536 ^ i:Nat)%65536:=by
 conv=>lhs;rw[← XP h]
 unfold B8;rw[get_ofFn hi]
theorem qh{n:Nat}{v:Vec Int n}(h:wa v){i:Nat}(hi:i<n):0≤v.get i∧v.get i<65536:=by
 rw[KL h hi];omega
def Bd(B:Int): {n:Nat}→Vec Int n→Prop
 |0,_=>True
 |_+1,v=>(-B≤v.1∧v.1≤B)∧Bd B v.2
def KM: {n:Nat}→Vec Int (n+1)→Int
 |0,_=>0
 |_+1,v=>v.1+65536*KM v.2
def w7: {n:Nat}→Vec Int (n+1)→Prop
 |0,_=>True
 |_+1,v=>(0≤v.1∧v.1<65536)∧w7 v.2
theorem AJ: {n:Nat}→(v:Vec Int (n+1))→bx v=KM v+(65536 ^ n:Nat)*v.get n
 |0,v=>by simp[bx,KM,Vec.get]
 |n+1,v=>by
  have h:=AJ v.2;show v.1+65536*bx v.2=v.1+65536*KM v.2+(65536 ^ (n+1):Nat)*Vec.get v.2 n;rw[h];have e:(65536 ^ (n+1):Nat)=65536*65536 ^ n:=by rw[Nat.pow_succ,Nat.mul_comm]
  rw[e,Int.natCast_mul,Int.mul_add,Int.mul_assoc];generalize ((65536 ^ n:Nat):Int)*Vec.get v.2 n=z;omega
theorem wc: {n:Nat}→ {v:Vec Int (n+1)}→w7 v→0≤KM v∧KM v<(65536 ^ n:Nat)
 |0,_,_=>by simp[KM]
 |n+1,v,h=>by
  obtain⟨h1,h2⟩:=wc h.2;have h3:=h.1;have e:(65536 ^ (n+1):Nat)=65536*65536 ^ n:=by rw[Nat.pow_succ,Nat.mul_comm]
  rw[e];generalize (65536 ^ n:Nat)=m at*;simp only[KM];omega
theorem AK: {n:Nat}→ {v:Vec Int (n+1)}→w7 v→(0≤v.get n∧v.get n<65536)→wa v
 |0,_,_,h=>⟨h,trivial⟩
 |_+1,_,h,h'=>⟨h.1,AK h.2 h'⟩
theorem Qz(x:Int):cZ x 65535=x%65536:=k8 (m:=16) (by decide) x 65535 (by decide)
theorem GU(x:Int):down x 16=x/65536:=cz .i64 x 16 (by decide)
theorem af0(x:Int):cZ x 32767=x%32768:=k8 (m:=15) (by decide) x 32767 (by decide)
theorem alN(x:Int):down x 15=x/32768:=cz .i64 x 15 (by decide)
theorem AL{x:Int}(h0: -9223372036854775808≤x)(h1:x<9223372036854775808):w x=x:=wrap_i64 h0 h1
theorem uw: {n:Nat}→(x:Int)→(v:Vec Int n)→(-(70368744177664+2147483648)≤x∧x≤70368744177664+2147483648)→Bd 70368744177664 v→bx (gI x v)=x+65536*bx v∧w7 (gI x v)
 |0,x,v,_,_=>⟨by simp[gI,bx],trivial⟩
 |n+1,x,v,hx,hv=>by
  have h1:=hv.1;have hw:w (v.1+down x 16)=v.1+x/65536:=by rw[GU];exact AL (by omega) (by omega)
  obtain⟨e1,e2⟩:=uw (n:=n) (v.1+x/65536) v.2 (by omega) hv.2;show cZ x 65535+65536*bx (gI (w (v.1+down x 16)) v.2)=x+65536*(v.1+65536*bx v.2)∧((0≤cZ x 65535∧cZ x 65535<65536)∧w7 (gI (w (v.1+down x 16)) v.2));rw[hw,e1,Qz];exact⟨by omega,by omega,e2⟩
theorem alO:(65536 ^ 15:Nat)=1766847064778384329583297500742918515827483896875618958121606201292619776:=by decide
theorem De{t:Fn}(h:Bd 70368744177664 t):bx (ck t)=bx t∧w7 (n:=15) (ck t):=by
 have h1:=h.1;exact uw (n:=15) t.1 t.2 (by omega) h.2
def jR(V:Int):Int:=V%57896044618658097711785492504343953926634992332820282019728792003956564819968+19*(V/57896044618658097711785492504343953926634992332820282019728792003956564819968)
theorem Uv: {n:Nat}→(f:Int→Int)→(v:Vec Int (n+1))→bx (Vec.nV f n v)=bx v+(65536 ^ n:Nat)*(f (v.get n)-v.get n)
 |0,f,v=>by
  show f v.1+65536*0=v.1+65536*0+(65536 ^ 0:Nat)*(f v.1-v.1);rw[Nat.pow_zero];omega
 |n+1,f,v=>by
  have h:=Uv f v.2;show v.1+65536*bx (Vec.nV f n v.2)=v.1+65536*bx v.2+(65536 ^ (n+1):Nat)*(f (Vec.get v.2 n)-Vec.get v.2 n);rw[h];have e:(65536 ^ (n+1):Nat)=65536*65536 ^ n:=by rw[Nat.pow_succ,Nat.mul_comm]
  rw[e,Int.natCast_mul,Int.mul_add,Int.mul_assoc];generalize ((65536 ^ n:Nat):Int)*(f (Vec.get v.2 n)-Vec.get v.2 n)=z;omega
theorem af1{B:Int}: {n:Nat}→(f:Int→Int)→(v:Vec Int (n+1))→w7 v→65536≤B→(-B≤f (v.get n)∧f (v.get n)≤B)→Bd B (Vec.nV f n v)
 |0,_,_,_,_,h=>⟨h,trivial⟩
 |n+1,f,v,hl,hB,h=>⟨by have:=hl.1;show-B≤v.1∧v.1≤B;omega,af1 f v.2 hl.2 hB h⟩
theorem af2{V low L:Int}(e3:V=low+(1766847064778384329583297500742918515827483896875618958121606201292619776:Nat)*L)(e4:0≤low)(e5:low<(1766847064778384329583297500742918515827483896875618958121606201292619776:Nat))(h0:0≤V)(h1:V<31828687130226345097944463881396533766429193651030253916189694521162207808802136034115584):
  (0≤L∧L<18014398509481984)∧V+(1766847064778384329583297500742918515827483896875618958121606201292619776:Nat)*(L%32768-L)+19*(L/32768)=jR V:=by
 unfold jR;omega
theorem af3(r:Fn)(L:Int)(hL:Vec.get (n:=16) r 15=L)(h0:0≤L)(h1:L<18014398509481984)(hd:0≤r.1∧r.1<65536)(hl:w7 (n:=15) r):
  Bd 70368744177664 (ef r)∧bx (ef r)=bx r+(1766847064778384329583297500742918515827483896875618958121606201292619776:Nat)*(L%32768-L)+19*(L/32768):=by
 have hu:=Uv (n:=15) (fun x=>cZ x 32767) r
 have hb:=af1 (n:=15) (B:=70368744177664) (fun x=>cZ x 32767) r hl (by decide) (by
  show-70368744177664≤cZ (Vec.get (n:=16) r 15) 32767∧cZ (Vec.get (n:=16) r 15) 32767≤70368744177664;rw[af0];omega)
 rw[hL,alO]at hu;have hu':bx (Vec.nV (n:=16) (fun x=>cZ x 32767) 15 r)=bx r+(1766847064778384329583297500742918515827483896875618958121606201292619776:Nat)*(L%32768-L):=by rw[← af0 L];exact hu
 have hw1:w (19*down L 15)=19*(L/32768):=by rw[alN];exact AL (by omega) (by omega)
 have hw2:w (r.1+w (19*down L 15))=r.1+19*(L/32768):=by rw[hw1];exact AL (by omega) (by omega)
 have hf:ef r=(w (r.1+w (19*down (r.get 15) 15)),(Vec.nV (fun x=>cZ x 32767) 15 r).2):=rfl;have hs:(Vec.nV (fun x=>cZ x 32767) 15 r)=(r.1,(Vec.nV (fun x=>cZ x 32767) 15 r).2):=rfl;rw[hf,hL,hw2];rw[hs]at hb hu';generalize (Vec.nV (fun x=>cZ x 32767) 15 r).2=z at*;have e1:bx (n:=16) (r.1,z)=r.1+65536*bx z:=rfl;have e2:bx (n:=16) (r.1+19*(L/32768),z)=r.1+19*(L/32768)+65536*bx z:=rfl;rw[e1]at hu';rw[e2];exact⟨⟨by show-70368744177664≤r.1+19*(L/32768)∧r.1+19*(L/32768)≤70368744177664;omega,hb.2⟩,by omega⟩
theorem qk{t:Fn}(h:Bd 70368744177664 t)(h0:0≤bx t)(h1:bx t<31828687130226345097944463881396533766429193651030253916189694521162207808802136034115584):Bd 70368744177664 (ef (ck t))∧bx (ef (ck t))=jR (bx t):=by
 obtain⟨e1,e2⟩:=De h;have e3:=AJ (n:=15) (ck t);obtain⟨e4,e5⟩:=wc (n:=15) e2;rw[alO]at e3 e5;rw[e1]at e3;obtain⟨⟨n1,n2⟩,n3⟩:=af2 e3 e4 e5 h0 h1;obtain⟨f1,f2⟩:=af3 (ck t) _ rfl n1 n2 e2.1 e2;exact⟨f1,f2.trans (by rw[e1];exact n3)⟩
def nt:Nat→ {n:Nat}→Vec Int n→Int
 |0,_,_=>0
 |k+1,_,v=>nt k v+(65536 ^ k:Nat)*v.get k
theorem rJ{n:Nat}{v:Vec Int n}(h:wa v):∀k,k≤n→0≤nt k v∧nt k v<(65536 ^ k:Nat)
 |0,_=>by simp[nt]
 |k+1,hk=>by
  obtain⟨h1,h2⟩:=rJ h k (by omega);obtain⟨h3,h4⟩:=qh h (i:=k) (by omega);have e:(65536 ^ (k+1):Nat)=65536*65536 ^ k:=by rw[Nat.pow_succ,Nat.mul_comm]
  have e0:nt (k+1) v=nt k v+(65536 ^ k:Nat)*v.get k:=rfl;rw[e,e0];obtain⟨m,hm⟩:∃m:Nat,m=65536 ^ k:=⟨_,rfl⟩;rw[← hm]at h2 ⊢;clear hm e e0;generalize v.get k=d at*;have h5:(m:Int)*d≤m*65535:=Int.mul_le_mul_of_nonneg_left (by omega) (by omega);have h6:0≤(m:Int)*d:=Int.mul_nonneg (by omega) h3;omega
theorem Df{a b:Fn}(ha:wa a)(hb:wa b):∀k,k≤16→ie a b k=decide (nt k a<nt k b)
 |0,_=>by simp[ie,nt]
 |k+1,hk=>by
  have ih:=Df ha hb k (by omega);obtain⟨a1,a2⟩:=rJ ha k (by omega);obtain⟨b1,b2⟩:=rJ hb k (by omega);have e0:nt (k+1) a=nt k a+(65536 ^ k:Nat)*a.get k:=rfl;have e1:nt (k+1) b=nt k b+(65536 ^ k:Nat)*b.get k:=rfl;have e2:ie a b (k+1)=bif a.get k !=b.get k then decide (a.get k<b.get k)else ie a b k:=rfl;rw[e0,e1,e2,ih];obtain⟨m,hm⟩:∃m:Nat,m=65536 ^ k:=⟨_,rfl⟩;rw[← hm]at a2 b2 ⊢;clear hm e0 e1 e2 ih;generalize a.get k=x at*;generalize b.get k=y at*
  by_cases hxy:x=y
  ·subst hxy;simp
  ·have:(x !=y)=true:=(by simpa using hxy);rw[this,cond_true]
   by_cases dQ:x<y
   ·have h1:(m:Int)*(x+1)≤m*y:=Int.mul_le_mul_of_nonneg_left (by omega) (by omega);rw[Int.mul_add]at h1;rw[decide_eq_true dQ,decide_eq_true];omega
   ·have h1:(m:Int)*(y+1)≤m*x:=Int.mul_le_mul_of_nonneg_left (by omega) (by omega);rw[Int.mul_add]at h1;rw[decide_eq_false dQ,decide_eq_false];omega
theorem KN: {n:Nat}→(v:Vec Int (n+1))→(k:Nat)→nt (k+1) v=v.1+65536*nt k v.2
 |_,v,0=>by simp[nt,Vec.get]
 |n,v,k+1=>by
  have h:=KN v k;have e:(65536 ^ (k+1):Nat)=65536*65536 ^ k:=by rw[Nat.pow_succ,Nat.mul_comm]
  show nt (k+1) v+(65536 ^ (k+1):Nat)*Vec.get v.2 k=v.1+65536*(nt k v.2+(65536 ^ k:Nat)*Vec.get v.2 k);rw[h,e,Int.natCast_mul,Int.mul_add,Int.mul_assoc];generalize ((65536 ^ k:Nat):Int)*Vec.get v.2 k=z;omega
theorem AM: {n:Nat}→(v:Vec Int n)→nt n v=bx v
 |0,_=>rfl
 |n+1,v=>by rw[KN,AM v.2];rfl
def af4(x:Fn):Prop:=wa x∧bx x<(pp:Int)
def fn9(x:Fn):F:=cC (bx x)
theorem AN:wa dE:=by simp[dE,wa]
theorem we:bx dE=(pp:Int):=by decide+kernel
theorem Uw: {n:Nat}→(v u:Vec Int n)→wa v→wa u→bx (Vec.zip (fun a b=>w (a-b)) v u)=bx v-bx u∧Bd 70368744177664 (Vec.zip (fun a b=>w (a-b)) v u)
 |0,_,_,_,_=>⟨rfl,trivial⟩
 |n+1,v,u,hv,hu=>by
  obtain⟨h1,h2⟩:=Uw v.2 u.2 hv.2 hu.2;have h3:=hv.1;have h4:=hu.1;have hw:w (v.1-u.1)=v.1-u.1:=AL (by omega) (by omega);show w (v.1-u.1)+65536*bx (Vec.zip (fun a b=>w (a-b)) v.2 u.2)=v.1+65536*bx v.2-(u.1+65536*bx u.2)∧((-70368744177664≤w (v.1-u.1)∧w (v.1-u.1)≤70368744177664)∧Bd 70368744177664 (Vec.zip (fun a b=>w (a-b)) v.2 u.2));rw[hw,h1];exact⟨by omega,by omega,h2⟩
theorem Ux{t:Fn}(h:Bd 70368744177664 t)(h0:0≤bx t)(h1:bx t<57896044618658097711785492504343953926634992332820282019728792003956564819968):wa (ck t)∧bx (ck t)=bx t:=by
 obtain⟨e1,e2⟩:=De h;have e3:=AJ (n:=15) (ck t);obtain⟨e4,e5⟩:=wc (n:=15) e2;rw[alO]at e3 e5;rw[e1]at e3;exact⟨AK (n:=15) e2 (by omega),e1⟩
def eM:Fn→Fn:=apL dE fun a b=>ie a b 16
theorem KO{V:Int}(h0:0≤V)(h1:V<31828687130226345097944463881396533766429193651030253916189694521162207808802136034115584):0≤jR V∧jR V<31828687130226345097944463881396533766429193651030253916189694521162207808802136034115584∧jR V%(pp:Int)=V%(pp:Int):=by
 unfold jR;simp only[pp]at*;refine⟨by omega,by omega,?_⟩;omega
theorem XQ{V:Int}(h0:0≤V)(h1:V<31828687130226345097944463881396533766429193651030253916189694521162207808802136034115584):jR (jR V)<57896044618658097711785492504343953926634992332820282019728792003956564819968:=by
 unfold jR;omega
theorem KP{V:Int}(h0:0≤V)(h1:V<57896044618658097711785492504343953926634992332820282019728792003956564819968):jR V=V:=by
 unfold jR;omega
theorem XS{t:Fn}(h:Bd 70368744177664 t)(h0:0≤bx t)(h1:bx t<31828687130226345097944463881396533766429193651030253916189694521162207808802136034115584):af4 (eM t)∧bx (eM t)=bx t%(pp:Int):=by
 obtain⟨a1,a2⟩:=qk h h0 h1;obtain⟨r1,r2,r3⟩:=KO h0 h1;obtain⟨b1,b2⟩:=qk a1 (by rw[a2];exact r1) (by rw[a2];exact r2);rw[a2]at b2;have s4:=XQ h0 h1;obtain⟨s1,s2,s3⟩:=KO r1 r2;obtain⟨c1,c2⟩:=qk b1 (by rw[b2];exact s1) (by rw[b2];exact s2);rw[b2,KP s1 s4]at c2;obtain⟨d1,d2⟩:=qk c1 (by rw[c2];exact s1) (by rw[c2];exact s2);rw[c2,KP s1 s4]at d2;obtain⟨f1,f2⟩:=Ux d1 (by rw[d2];exact s1) (by rw[d2];exact s4);rw[d2]at f2;have axH:jR (jR (bx t))%(pp:Int)=bx t%(pp:Int):=s3.trans r3;generalize jR (jR (bx t))=V at*
 have hn:eM t=dB (!(ie (ck (ef (ck (ef (ck (ef (ck (ef (ck t))))))))) dE 16)) (ck (Vec.zip (fun a b=>w (a-b)) (ck (ef (ck (ef (ck (ef (ck (ef (ck t))))))))) dE))
  (ck (ef (ck (ef (ck (ef (ck (ef (ck t))))))))):=rfl
 rw[hn];generalize ck (ef (ck (ef (ck (ef (ck (ef (ck t))))))))=r at*;rw[bE,Df f1 AN 16 (by omega),AM,AM,we,f2]
 by_cases dQ:V<(pp:Int)
 ·rw[decide_eq_true dQ];show af4 r∧bx r=_;rw[← axH,Int.emod_eq_of_lt s1 dQ];exact⟨⟨f1,by rw[f2];exact dQ⟩,f2⟩
 ·rw[decide_eq_false dQ];show af4 (ck (Vec.zip (fun a b=>w (a-b)) r dE))∧bx (ck (Vec.zip (fun a b=>w (a-b)) r dE))=_;obtain⟨g1,g2⟩:=Uw r dE f1 AN;rw[f2,we]at g1;obtain⟨k1,k2⟩:=Ux g2 (by rw[g1];omega) (by rw[g1];simp only[pp];omega);rw[g1]at k2
  have hv:V%(pp:Int)=V-(pp:Int):=by
   simp only[pp]at*;omega
  exact⟨⟨k1,by rw[k2];simp only[pp]at*;omega⟩,by rw[k2,← axH,hv]⟩
theorem alP{t:Fn}(h:Bd 70368744177664 t)(h0:0≤bx t)(h1:bx t<31828687130226345097944463881396533766429193651030253916189694521162207808802136034115584):af4 (eM t)∧fn9 (eM t)=cC (bx t):=by
 obtain⟨e1,e2⟩:=XS h h0 h1;refine⟨e1,?_⟩;unfold fn9;rw[e2,Un,Int.emod_emod]
end Go.Proofs.YtnbkagglkajbkaaGreat
namespace Go.Proofs.YtnbkagglkajbkaaGreat
open Go Go.Ev BJ Go.Proofs.Tryz
open Go.IntKind (i64 signed u16 u64 wrap)
set_option maxRecDepth 100000
theorem p16:(65536 ^ 16:Nat)=115792089237316195423570985008687907853269984665640564039457584007913129639936:=by decide
def bc(a:F):Fn:=B8 16 (a.val:Int)
theorem fB(a:F):wa (bc a)∧bx (bc a)=(a.val:Int):=by
 obtain⟨h1,h2⟩:=wb 16 (a.val:Int) (by omega);have:=a.isLt;refine⟨h1,h2.trans (Int.emod_eq_of_lt (by omega) ?_)⟩;rw[p16];simp only[pp]at this;omega
theorem alQ{x:Fn}(h:af4 x):bc (fn9 x)=x:=by
 obtain⟨h1,h2⟩:=fB (fn9 x);refine uv h1 h.1 (h2.trans ?_);unfold fn9;rw[eH,Int.emod_eq_of_lt (lu h.1) h.2]
theorem af5{a b:F}(h:bc a=bc b):a=b:=w5 (by rw[← (fB a).2,← (fB b).2,h])
theorem GV(a b:F):qF (bc a) (bc b)=decide (a=b):=by
 by_cases h:a=b
 ·subst h;rw[decide_eq_true rfl];exact(nk _ _).2 rfl
 ·rw[decide_eq_false h];exact Bool.eq_false_iff.2 fun e=>h (af5 ((nk _ _).1 e))
theorem AO{t:Fn}(h:Bd 70368744177664 t)(h0:0≤bx t)(h1:bx t<31828687130226345097944463881396533766429193651030253916189694521162207808802136034115584):eM t=bc (cC (bx t)):=by
 obtain⟨e1,e2⟩:=alP h h0 h1;rw[← e2,alQ e1]
theorem GW: {n:Nat}→(v u:Vec Int n)→wa v→wa u→bx (Vec.zip (fun a b=>w (a+b)) v u)=bx v+bx u∧Bd 131072 (Vec.zip (fun a b=>w (a+b)) v u)
 |0,_,_,_,_=>⟨rfl,trivial⟩
 |n+1,v,u,hv,hu=>by
  obtain⟨h1,h2⟩:=GW v.2 u.2 hv.2 hu.2;have h3:=hv.1;have h4:=hu.1;have hw:w (v.1+u.1)=v.1+u.1:=AL (by omega) (by omega);show w (v.1+u.1)+65536*bx (Vec.zip (fun a b=>w (a+b)) v.2 u.2)=v.1+65536*bx v.2+(u.1+65536*bx u.2)∧((-131072≤w (v.1+u.1)∧w (v.1+u.1)≤131072)∧Bd 131072 (Vec.zip (fun a b=>w (a+b)) v.2 u.2));rw[hw,h1];exact⟨by omega,by omega,h2⟩
theorem Uy: {n:Nat}→(v u:Vec Int n)→Bd 131072 v→wa u→bx (Vec.zip (fun a b=>w (a-b)) v u)=bx v-bx u∧Bd 262144 (Vec.zip (fun a b=>w (a-b)) v u)
 |0,_,_,_,_=>⟨rfl,trivial⟩
 |n+1,v,u,hv,hu=>by
  obtain⟨h1,h2⟩:=Uy v.2 u.2 hv.2 hu.2;have h3:=hv.1;have h4:=hu.1;have hw:w (v.1-u.1)=v.1-u.1:=AL (by omega) (by omega);show w (v.1-u.1)+65536*bx (Vec.zip (fun a b=>w (a-b)) v.2 u.2)=v.1+65536*bx v.2-(u.1+65536*bx u.2)∧((-262144≤w (v.1-u.1)∧w (v.1-u.1)≤262144)∧Bd 262144 (Vec.zip (fun a b=>w (a-b)) v.2 u.2));rw[hw,h1];exact⟨by omega,by omega,h2⟩
theorem GX{B B':Int}(hB:B≤B'): {n:Nat}→ {v:Vec Int n}→Bd B v→Bd B' v
 |0,_,_=>trivial
 |_+1,_,h=>⟨by have:=h.1;omega,GX hB h.2⟩
theorem o7(a:F):0≤(a.val:Int)∧(a.val:Int)<(pp:Int):=⟨by omega,by have:=a.isLt;omega⟩
theorem rK(a:F):cC (a.val:Int)=a:=w5 (by rw[eH,Int.emod_eq_of_lt (o7 a).1 (o7 a).2])
def gX:Fn→Fn→Fn:=asl eM
def ij:Fn→Fn→Fn:=asm dE eM
def kC(x:Fn):Fn:=ij cy x
def a9:Fn→Fn→Fn:=asn eM
theorem AP(a b:F):gX (bc a) (bc b)=bc (a+b):=by
 obtain⟨a1,a2⟩:=fB a;obtain⟨b1,b2⟩:=fB b;obtain⟨z1,z2⟩:=GW (bc a) (bc b) a1 b1;have ha:=o7 a;have hb:=o7 b;rw[a2,b2]at z1;show eM (Vec.zip (fun a b=>w (a+b)) (bc a) (bc b))=_;rw[AO (GX (by decide) z2) (by rw[z1];omega) (by rw[z1];simp only[pp]at*;omega),z1,gM,rK,rK]
theorem alR:cC (pp:Int)=0:=by
 have:=AA 0 1;rw[Int.one_mul,Int.zero_add]at this;rw[this,Kz]
theorem AQ(a b:F):ij (bc a) (bc b)=bc (a-b):=by
 obtain⟨a1,a2⟩:=fB a;obtain⟨b1,b2⟩:=fB b;obtain⟨z1,z2⟩:=GW (bc a) dE a1 AN;obtain⟨y1,y2⟩:=Uy (Vec.zip (fun a b=>w (a+b)) (bc a) dE) (bc b) z2 b1;have ha:=o7 a;have hb:=o7 b;rw[z1,a2,b2,we]at y1;show eM (Vec.zip (fun a b=>w (a-b)) (Vec.zip (fun a b=>w (a+b)) (bc a) dE) (bc b))=_;rw[AO (GX (by decide) y2) (by rw[y1];omega) (by rw[y1];simp only[pp]at*;omega),y1,Uo,gM,rK,rK,alR,show a+0-b=a-b from by grobner]
theorem ux:cy=bc 0:=by
 have h:wa cy:=by simp[cy,wa]
 obtain⟨h1,h2⟩:=fB 0;refine uv h h1 (Eq.trans (?_ :bx cy=0) h2.symm);decide
theorem KQ(a:F):kC (bc a)=bc (-a):=by
 unfold kC;rw[ux,AQ,show(0:F)-a= -a from by grobner]
def dh(f:Nat→Int):Nat→Int
 |0=>0
 |n+1=>dh f n+f n
theorem gb{f g:Nat→Int}:∀ {n:Nat},(∀i,i<n→f i=g i)→dh f n=dh g n
 |0,_=>rfl
 |n+1,h=>by simp only[dh];rw[gb fun i hi=>h i (by omega),h n (by omega)]
theorem AR(f g:Nat→Int):∀n,dh (fun i=>f i+g i) n=dh f n+dh g n
 |0=>rfl
 |n+1=>by simp only[dh];rw[AR f g n];omega
theorem o8(c:Int)(f:Nat→Int):∀n,dh (fun i=>c*f i) n=c*dh f n
 |0=>by simp[dh]
 |n+1=>by simp only[dh];rw[o8 c f n,Int.mul_add]
theorem wg:∀n,dh (fun _=>0) n=0
 |0=>rfl
 |n+1=>by simp only[dh];rw[wg n];rfl
theorem nu{f:Nat→Int}{c:Int}:∀ {n:Nat},(∀i,i<n→0≤f i∧f i≤c)→0≤dh f n∧dh f n≤n*c
 |0,_=>by simp[dh]
 |n+1,h=>by
  obtain⟨h1,h2⟩:=nu (n:=n) fun i hi=>h i (by omega);have h3:=h n (by omega);simp only[dh];rw[Int.natCast_add,Int.add_mul];omega
theorem AS(g:Nat→Int)(n m:Nat):∀k,k≤m→dh (fun j=>if n≤j∧j-n<m then g (j-n)else 0) (n+k)=dh g k
 |0,_=>by
  show dh _ n=0;rw[gb (g:=fun _=>0) fun j hj=>by rw[if_neg (by omega)],wg]
 |k+1,hk=>by
  show dh _ (n+k)+(if n≤n+k∧n+k-n<m then g (n+k-n)else 0)=dh g k+g k;rw[AS g n m k (by omega),if_pos (by omega),show n+k-n=k from by omega]
theorem Dg(f:Nat→Int)(n:Nat):∀k,(∀j,n≤j→j<n+k→f j=0)→dh f (n+k)=dh f n
 |0,_=>rfl
 |k+1,h=>by
  show dh f (n+k)+f (n+k)=_;rw[Dg f n k fun j h1 h2=>h j h1 (by omega),h (n+k) (by omega) (by omega)];omega
def conv(f g:Nat→Int)(n j:Nat):Int:=dh (fun i=>if i≤j∧j-i<16 then f i*g (j-i)else 0) n
theorem KR(f g:Nat→Int)(B:Int):∀n,n≤16→dh (fun j=>B ^ j*conv f g n j) 32=dh (fun i=>B ^ i*f i) n*dh (fun i=>B ^ i*g i) 16
 |0,_=>by
  rw[gb (g:=fun _=>0) fun j _=>by simp[conv,dh],wg];simp[dh]
 |n+1,hn=>by
  have e:∀j,B ^ j*conv f g (n+1) j=B ^ j*conv f g n j+(if n≤j∧j-n<16 then B ^ n*f n*(B ^ (j-n)*g (j-n))else 0):=fun j=>by
   show B ^ j*(conv f g n j+(if n≤j∧j-n<16 then f n*g (j-n)else 0))=_;rw[Int.mul_add]
   congr 1
   by_cases h:n≤j∧j-n<16
   ·rw[if_pos h,if_pos h];have:B ^ j=B ^ n*B ^ (j-n):=(by rw[← Int.pow_add];congr 1;omega);rw[this];generalize B ^ n=p;generalize B ^ (j-n)=q;rw[Int.mul_assoc,Int.mul_assoc,← Int.mul_assoc q,Int.mul_comm q (f n),Int.mul_assoc (f n)]
   ·rw[if_neg h,if_neg h,Int.mul_zero]
  rw[gb fun j _=>e j,AR,KR f g B n (by omega)]
  have h2:dh (fun j=>if n≤j∧j-n<16 then B ^ n*f n*(B ^ (j-n)*g (j-n))else 0) 32=dh (fun i=>B ^ n*f n*(B ^ i*g i)) 16:=by
   have h3:=AS (fun i=>B ^ n*f n*(B ^ i*g i)) n 16 16 (by omega);have h4:=Dg (fun j=>if n≤j∧j-n<16 then B ^ n*f n*(B ^ (j-n)*g (j-n))else 0) (n+16) (16-n) (fun j h1 _=>if_neg (by omega));rw[show n+16+(16-n)=32 from by omega]at h4;rw[h4];exact h3
  rw[h2,o8];simp only[dh];rw[Int.add_mul]
theorem Dh(f:Nat→Int):∀n,dh f (n+1)=f 0+dh (fun i=>f (i+1)) n
 |0=>by simp[dh]
 |n+1=>by
  show dh f (n+1)+f (n+1)=f 0+(dh (fun i=>f (i+1)) n+f (n+1));rw[Dh f n];omega
theorem ql: {n:Nat}→(v:Vec Int n)→bx v=dh (fun i=>65536 ^ i*v.get i) n
 |0,_=>rfl
 |n+1,v=>by
  show v.1+65536*bx v.2=_;rw[ql v.2,Dh];show _=65536 ^ 0*v.1+dh (fun i=>65536 ^ (i+1)*Vec.get v.2 i) n;rw[← o8,Int.pow_zero,Int.one_mul]
  congr 1
  apply gb
  intro i _;rw[Int.pow_succ,Int.mul_comm (65536 ^ i) 65536,Int.mul_assoc]
theorem XT{x y:Fn}(hx:wa x)(hy:wa y)(j:Nat):ue x y j=conv x.get y.get 16 j∧0≤conv x.get y.get 16 j∧conv x.get y.get 16 j≤68717379600:=by
 have KS:∀i,i<16→0≤(if i≤j∧j-i<16 then x.get i*y.get (j-i)else 0)∧(if i≤j∧j-i<16 then x.get i*y.get (j-i)else 0)≤4294836225:=fun i hi=>by
  split
  ·rename_i h;obtain⟨h1,h2⟩:=qh hx (i:=i) hi;obtain⟨h3,h4⟩:=qh hy (i:=j-i) h.2;refine⟨Int.mul_nonneg h1 h3,?_⟩;have:=Int.mul_le_mul (a:=x.get i) (b:=y.get (j-i)) (c:=65535) (d:=65535) (by omega) (by omega) h3 (by omega);omega
  ·omega
 have key:∀n,n≤16→(List.range n).foldl (fun acc i=>if i≤j∧j-i<16 then w (acc+w (x.get i*y.get (j-i)))else acc) 0=conv x.get y.get n j:=by
  intro n
  induction n with
  |zero=>intro _;rfl
  |succ n ih=>
   intro hn;rw[List.range_succ,List.foldl_append,ih (by omega)];simp only[List.foldl_cons,List.foldl_nil];have hb:=nu (c:=4294836225) (n:=n) fun i hi=>KS i (by omega);have ht:=KS n (by omega);show _=conv x.get y.get n j+(if n≤j∧j-n<16 then x.get n*y.get (j-n)else 0);have hc:0≤conv x.get y.get n j∧conv x.get y.get n j≤n*4294836225:=hb
   split
   ·rename_i h;rw[if_pos h]at ht;rw[AL (x:=x.get n*y.get (j-n)) (by omega) (by omega),AL (by omega) (by omega)]
   ·omega
 have hb:=nu (c:=4294836225) (n:=16) KS;exact⟨key 16 (by omega),hb⟩
theorem XU(f:Nat→Int):∀n,bx (Vec.ofFn n f)=dh (fun i=>65536 ^ i*f i) n:=fun n=>by
 rw[ql];exact gb fun i hi=>by rw[get_ofFn hi]
theorem Uz{B:Int}{f:Nat→Int}:∀ {n:Nat},(∀i,i<n→ -B≤f i∧f i≤B)→Bd B (Vec.ofFn n f)
 |0,_=>trivial
 |n+1,h=>⟨h 0 (by omega),Uz (n:=n) fun i hi=>h (i+1) (by omega)⟩
theorem AT(f:Nat→Int)(n:Nat):∀k,dh f (n+k)=dh f n+dh (fun i=>f (n+i)) k
 |0=>by simp[dh]
 |k+1=>by
  show dh f (n+k)+f (n+k)=dh f n+(dh (fun i=>f (n+i)) k+f (n+k));rw[AT f n k];omega
theorem alS:cC (65536 ^ 16)=38:=by decide+kernel
theorem t38:cC 38=38:=by decide+kernel
theorem eu(a b:F):a9 (bc a) (bc b)=bc (a*b):=by
 obtain⟨a1,a2⟩:=fB a;obtain⟨b1,b2⟩:=fB b;generalize bc a=x at*;generalize bc b=y at*;have hc:=fun j=>XT a1 b1 j
 have hd:∀i,i<16→w (ue x y i+w (38*ue x y (i+16)))=conv x.get y.get 16 i+38*conv x.get y.get 16 (i+16):=fun i _=>by
  obtain⟨e1,e2,e3⟩:=hc i;obtain⟨f1,f2,f3⟩:=hc (i+16);rw[e1,f1,AL (x:=38*_) (by omega) (by omega),AL (by omega) (by omega)]
 have hz:Vec.ofFn 16 (fun i=>w (ue x y i+w (38*ue x y (i+16))))=Vec.ofFn 16 (fun i=>conv x.get y.get 16 i+38*conv x.get y.get 16 (i+16)):=kB hd;show eM (Vec.ofFn 16 fun i=>w (ue x y i+w (38*ue x y (i+16))))=_;rw[hz];have hv:=XU (fun i=>conv x.get y.get 16 i+38*conv x.get y.get 16 (i+16)) 16
 have hb:Bd 70368744177664 (Vec.ofFn 16 (fun i=>conv x.get y.get 16 i+38*conv x.get y.get 16 (i+16))):=Uz fun i _=>by
  obtain⟨_,e2,e3⟩:=hc i;obtain⟨_,f2,f3⟩:=hc (i+16);omega
 have hcv:=KR x.get y.get 65536 16 (by omega);rw[← ql,← ql,a2,b2,AT _ 16 16]at hcv
 have hF:cC (bx (Vec.ofFn 16 (fun i=>conv x.get y.get 16 i+38*conv x.get y.get 16 (i+16))))=a*b:=by
  rw[hv,gb (g:=fun i=>65536 ^ i*conv x.get y.get 16 i+38*(65536 ^ i*conv x.get y.get 16 (i+16))) fun i _=>by
   rw[Int.mul_add,← Int.mul_assoc,← Int.mul_assoc,Int.mul_comm (65536 ^ i) 38],AR,o8,gM,j3,t38]
  have h1:=congrArg cC hcv;rw[gM,j3,rK,rK]at h1
  have h2:dh (fun i=>65536 ^ (16+i)*conv x.get y.get 16 (16+i)) 16=65536 ^ 16*dh (fun i=>65536 ^ i*conv x.get y.get 16 (i+16)) 16:=by
   rw[← o8]
   apply gb
   intro i _;rw[Int.pow_add,Int.mul_assoc,Nat.add_comm 16 i]
  rw[h2,j3,alS]at h1;exact h1
 have hnn:0≤bx (Vec.ofFn 16 (fun i=>conv x.get y.get 16 i+38*conv x.get y.get 16 (i+16)))∧bx (Vec.ofFn 16 (fun i=>conv x.get y.get 16 i+38*conv x.get y.get 16 (i+16)))<31828687130226345097944463881396533766429193651030253916189694521162207808802136034115584:=by
  rw[hv]
  have KS:∀i,i<16→0≤(65536:Int) ^ i*(conv x.get y.get 16 i+38*conv x.get y.get 16 (i+16))∧(65536:Int) ^ i*(conv x.get y.get 16 i+38*conv x.get y.get 16 (i+16))≤1766847064778384329583297500742918515827483896875618958121606201292619776*2679977804400:=fun i hi=>by
   obtain⟨_,e2,e3⟩:=hc i;obtain⟨_,f2,f3⟩:=hc (i+16);have Cm:(0:Int)≤65536 ^ i:=Int.pow_nonneg (by omega)
   have ZO:(65536:Int) ^ i≤1766847064778384329583297500742918515827483896875618958121606201292619776:=by
    have h1:(65536 ^ i:Nat)≤65536 ^ 15:=Nat.pow_le_pow_right (by omega) (by omega);rw[alO]at h1;have h2:((65536 ^ i:Nat):Int)=65536 ^ i:=(by simp);omega
   exact⟨Int.mul_nonneg Cm (by omega),Int.mul_le_mul ZO (by omega) (by omega) (by omega)⟩
  have:=nu KS;omega
 rw[AO hb hnn.1 hnn.2,hF]
noncomputable section
variable (base zero:Pt) (encode:Pt→dY) (decode:dY→Pt×Bool) (afE:Pt→Pt→Pt) (equal:Pt→Pt→Bool) (alive:Bool)
end
end Go.Proofs.YtnbkagglkajbkaaGreat
namespace BJ
def F.alT(a:F)(e:Nat):F:=⟨pm pp 256 a.val e%pp,Nat.mod_lt _ (by decide)⟩
theorem F.UA(a:F){e:Nat}(he:e<2 ^ 256):F.pow a e=F.alT a e:=by
 apply Fin.ext
 show a.val ^ e%pp=pm pp 256 a.val e%pp;rw[Uh pp 256 a.val e he,Nat.mod_mod]
def F.axI(a:F):F:=F.alT a (pp-2)
theorem F.af6(a:F):F.inv a=F.axI a:=F.UA a (by decide)
def af7(a:F):F×Bool:=
 let r:=F.alT a ((pp+3)/8)
 let r1:=if r*r=a then r else r*F.alT 2 ((pp-1)/4)
 if r1*r1=a then(if r1.val%2=1 then-r1 else r1,true)else(0,false)
theorem asu(a:F):rootOf a=af7 a:=by
 unfold rootOf af7;rw[F.UA a (by decide),F.UA 2 (by decide)]
def axJ(y:F):F×Bool:=if dd*(y*y)+1=0 then(0,decide (y*y-1=0))else af7 ((y*y-1)*F.axI (dd*(y*y)+1))
theorem axK(y:F):kQ y=axJ y:=by
 unfold kQ ig axJ;rw[asu,F.af6]
def qV:F:=46316835694926478169428394003475163141307993866256225615783033603165251855960
def uy:F:=15112221349535400772501151409588531511454012693041857206046113283949847762202
theorem af8:4*F.inv 5=qV:=by rw[F.af6];decide+kernel
theorem af9:kQ qV=(uy,true):=by rw[axK];decide+kernel
theorem aga:AG=rG uy qV:=by
 unfold AG;rw[af8,af9]
end BJ
namespace Go.Proofs.YtnbkagglkajbkaaGreat
open Go Go.Ev BJ Go.Proofs.Tryz
open Go.IntKind (i64 signed u16 u64 wrap)
theorem UB:xh o6∧Us o6=AG:=by
 obtain⟨h1,h2,h3⟩:=alL;obtain⟨o1,o2⟩:=afV h1 h2;exact⟨o1,o2.trans h3⟩
end Go.Proofs.YtnbkagglkajbkaaGreat
namespace BJ
theorem alU(x:F):(x.val+(-x).val)%pp=0:=by
 have h:x+ -x=0:=by grobner
 have:=congrArg Fin.val h;rw[Fin.val_add]at this;exact this
theorem par{a b p:Nat}(hs:(a+b)%p=0)(ha:a<p)(hb:b<p)(h0:a≠0)(hp:p%2=1):b%2=1↔a%2=0:=by
 have h1:a+b=p:=by
  rcases Nat.lt_or_ge (a+b) p with h|h
  ·rw[Nat.mod_eq_of_lt h]at hs;omega
  ·rw[Nat.mod_eq_sub_mod h,Nat.mod_eq_of_lt (by omega)]at hs;omega
 omega
theorem asv:pp%2=1:=by decide+kernel
theorem UC{x:F}(h:x≠0):(-x).val%2=1↔x.val%2=0:=
 par (alU x) x.isLt (-x).isLt (fun e=>h (Fin.ext e)) asv
theorem asw:(pp:Int)=57896044618658097711785492504343953926634992332820282019728792003956564819949:=rfl
theorem Di:Go.Proofs.YtnbkagglkajbkaaGreat.uq=57896044618658097711785492504343953926634992332820282019728792003956564819968:=rfl
def eN(r a:F):F×Bool:=if r*r=a then(if r.val%2=1 then-r else r,true)else(0,false)
theorem qm(a:F):rootOf a=eN (if F.pow a ((pp+3)/8)*F.pow a ((pp+3)/8)=a then F.pow a ((pp+3)/8)else F.pow a ((pp+3)/8)*F.pow 2 ((pp-1)/4)) a:=rfl
theorem F.uz:(0:F).val=0:=rfl
theorem XV(r a:F):(eN r a).1.val%2=0:=by
 unfold eN
 by_cases h:r*r=a
 ·rw[if_pos h];show(if r.val%2=1 then-r else r).val%2=0
  by_cases h1:r.val%2=1
  ·rw[if_pos h1];have hr:r≠0:=fun e=>(by rw[e,F.uz]at h1;cases h1);have:=UC hr;omega
  ·rw[if_neg h1];omega
 ·rw[if_neg h];show(0:F).val%2=0;rw[F.uz]
theorem XW(a:F):(rootOf a).1.val%2=0:=by rw[qm];exact XV _ _
theorem QA(u v:F):(ig u v).1.val%2=0:=by
 unfold ig
 by_cases h:v=0
 ·rw[if_pos h];show(0:F).val%2=0;rw[F.uz]
 ·rw[if_neg h];exact XW _
theorem agb(y:F):(kQ y).1.val%2=0:=QA _ _
end BJ
namespace Go.Proofs.YtnbkagglkajbkaaGreat
open Go Go.Ev BJ Go.Proofs.Tryz
open Go.IntKind (i64 signed u16 u64 wrap)
theorem AU{b:dY}(h:oY b)(h31:b.get 31<128):oY (rI b)∧cR (rI b)=cR b+uq:=by
 have e:rI b=Vec.nV (fun x=>if x<128 then x+128 else x) 31 b:=qf (by show _=if b.get 31<128 then _ else _;rw[if_pos h31]);rw[e];obtain⟨h1,h2⟩:=KH (fun x=>if x<128 then x+128 else x) (n:=31) h (fun x h1 h2=>by show 0≤(if x<128 then x+128 else x)∧(if x<128 then x+128 else x)<256;split<;>omega);refine⟨h1,h2.trans ?_⟩;show cR b-b.get 31*_+(if b.get 31<128 then b.get 31+128 else b.get 31)*_=_;have:=Di;rw[if_pos h31,asr];omega
end Go.Proofs.YtnbkagglkajbkaaGreat
namespace Go.Proofs.YtnbkagglkajbkaaGreat
open Go Go.Ev BJ Go.Proofs.Tryz
open Go.IntKind (i64 signed u16 u64 wrap)
set_option maxRecDepth 100000
theorem gR{n:Int}(h0:0≤n)(h1:n<18446744073709551616):bq n=bc (cC n):=by
 have hv:((cC n).val:Int)=n:=by rw[eH,Int.emod_eq_of_lt h0 (by simp only[pp];omega)]
 unfold bc B8 bq;rw[hv]
 apply kB
 intro i hi;have e:(65536 ^ i:Nat)=2 ^ (16*i):=by rw[show(65536:Nat)=2 ^ 16 from rfl,← Nat.pow_mul]
 by_cases h4:i<4
 ·rw[if_pos h4];have e1:bz n ((16*i:Nat):Int)=n/(2 ^ (16*i):Nat):=cz .u64 n (16*i) (by show 16*i≤64;omega);have e2:dA (bz n ((16*i:Nat):Int)) 65535=bz n ((16*i:Nat):Int)%(2 ^ 16:Nat):=pN (m:=16) (by decide) _ 65535 (by decide);have e3:((2 ^ 16:Nat):Int)=65536:=by decide
  rw[e2,e1,e,e3,AL (by omega) (by omega)]
 ·rw[if_neg h4];have h:(65536 ^ 4:Nat)≤65536 ^ i:=Nat.pow_le_pow_right (by omega) (by omega);have h':(65536 ^ 4:Nat)=18446744073709551616:=by decide
  rw[h']at h;rw[Int.ediv_eq_zero_of_lt h0 (by omega)];rfl
theorem QB(a:F):oV (bc a)=dO a:=by
 have hV:=o7 a;unfold oV dO xf
 apply kB
 intro i hi;obtain⟨h1,h2⟩:=fB a;have hg:=KL h1 (i:=i/2) (by omega);rw[h2]at hg;have hr:=qh h1 (i:=i/2) (by omega);have e:(65536 ^ (i/2):Nat)=256 ^ (2*(i/2)):=by rw[show(65536:Nat)=256 ^ 2 from rfl,← Nat.pow_mul]
 rw[e]at hg
 by_cases he:i%2=0
 ·rw[if_pos he];have e1:cZ ((bc a).get (i/2)) 255=(bc a).get (i/2)%(2 ^ 8:Nat):=k8 (m:=8) (by decide) _ 255 (by decide);have e2:((2 ^ 8:Nat):Int)=256:=by decide
  rw[e1,e2,wrap_u8,hg,show 2*(i/2)=i from by omega];omega
 ·rw[if_neg he];have e1:down ((bc a).get (i/2)) 8=(bc a).get (i/2)/(2 ^ 8:Nat):=cz .i64 _ 8 (by decide);have e2:((2 ^ 8:Nat):Int)=256:=by decide
  have e3:(256 ^ i:Nat)=256 ^ (2*(i/2))*256:=by rw[← Nat.pow_succ];congr 1;omega
  rw[e1,e2,wrap_u8,hg,e3,Int.natCast_mul,← Int.ediv_ediv_of_nonneg (Int.natCast_nonneg _)];generalize (a.val:Int)/((256 ^ (2*(i/2)):Nat):Int)=q;have:(((256:Nat)):Int)=256:=rfl;rw[this];omega
theorem KT(a:F):qG (bc a)=decide (a.val%2=1):=by
 obtain⟨h1,h2⟩:=fB a;have h3:(bc a).1+65536*bx (bc a).2=(a.val:Int):=h2;have h4:=h1.1;unfold qG;generalize (bc a).1=x at*;generalize bx (bc a).2=y at*;rw[Int.tmod_eq_emod_of_nonneg h4.1]
 by_cases h:a.val%2=1
 ·rw[decide_eq_true h,beq_iff_eq];omega
 ·rw[decide_eq_false h];refine Bool.eq_false_iff.2 fun e=>h ?_;rw[beq_iff_eq]at e;omega
theorem UD{e:dY}(h:oY e){i:Nat}(hi:i<256):lO e i=mI e i:=by
 obtain⟨h1,h2⟩:=KF h (i:=i/8) (by omega);unfold lO mI;have e1:shr .u8 (e.get (i/8)) ((i%8:Nat):Int)=e.get (i/8)/(2 ^ (i%8):Nat):=cz .u8 _ _ (by show i%8≤8;omega);have hp:(0:Int)<((2 ^ (i%8):Nat):Int):=by have:=Nat.pow_pos (n:=i%8) (show 0<2 by decide);omega
 have h3:0≤e.get (i/8)/((2 ^ (i%8):Nat):Int):=Int.ediv_nonneg h1 (by omega);have h4:e.get (i/8)/((2 ^ (i%8):Nat):Int)≤e.get (i/8):=Int.ediv_le_self _ h1;rw[e1,wrap_i64 (by omega) (by omega),k8 (m:=1) (by decide) _ 1 (by decide),Er (m:=1) (by decide) _ 1 (by decide),wrap_i64 (by omega) (by omega)]
def ly(x:Fn)(e:dY):Fn:=afI lO bq a9 x e
theorem AV(a:F){e:dY}(he:oY e):ly (bc a) e=bc (F.pow a (cR e).toNat):=by
 have hV:=et he;have hV2:=qd he;obtain⟨N,hN⟩:=Int.eq_ofNat_of_zero_le hV
 have key:∀k,k≤256→eQ (mJ lO a9 (bc a) e) k (bq 1)=bc (F.pow a (N/2 ^ (256-k))):=by
  intro k
  induction k with
  |zero=>
   intro _;have afS:(256 ^ 32:Nat)=2 ^ 256:=(by rw[show(256:Nat)=2 ^ 8 from rfl,← Nat.pow_mul]);have:N/2 ^ (256-0)=0:=Nat.div_eq_of_lt (by rw[hN]at hV2;rw[Nat.sub_zero,← afS];omega);rw[this,F.pow_zero];show bq 1=_;rw[gR (by decide) (by decide),x5]
  |succ k ih=>
   intro hk;show mJ lO a9 (bc a) e k (eQ (mJ lO a9 (bc a) e) k (bq 1))=_;rw[ih (by omega)];unfold mJ;rw[eu,eu,UD he (by omega),v9 he (by omega),bE,hN,Int.toNat_natCast]
   have hdiv:N/2 ^ (256-k)=N/2 ^ (256-(k+1))/2:=by
    rw[Nat.div_div_eq_div_mul,← Nat.pow_succ];congr 2;omega
   rw[hdiv];have ass:255-k=256-(k+1):=(by omega);rw[ass];unfold Qy;generalize N/2 ^ (256-(k+1))=M at*
   by_cases hb:M%2=1
   ·rw[decide_eq_true hb,cond_true];have:M=2*(M/2)+1:=by omega
    conv=>rhs;rw[this]
    rw[F.pow_succ,F.np]
   ·rw[decide_eq_false hb,cond_false];have:M=2*(M/2):=by omega
    conv=>rhs;rw[this]
    rw[F.np]
 have:=key 256 (by omega);rw[hN,Int.toNat_natCast];have e1:N/2 ^ (256-256)=N:=by simp
 rw[e1]at this;exact this
def cM(x:Fn):Fn:=ly x (bW 235 127)
theorem uA(a:F):cM (bc a)=bc (F.inv a):=by
 unfold cM;rw[AV a (qe (by omega) (by omega)),Ur];rfl
def ik:Fn→Fn×Bool:=uf bq a9 kC qG ly
theorem alV(b:Bool)(a c:F):dB b (bc a) (bc c)=bc (if b=true then a else c):=by
 rw[bE];cases b<;>rfl
theorem axL(R a:F):(dB (!(decide (R*R=a))) (bc 0) (dB (decide (R.val%2=1)) (bc (-R)) (bc R)),bif !(decide (R*R=a))then false else true)=(bc (eN R a).1,(eN R a).2):=by
 unfold eN
 by_cases h:R*R=a
 ·rw[decide_eq_true h,if_pos h]
  by_cases h2:R.val%2=1
  ·rw[decide_eq_true h2,bE,bE];show(bc (-R),true)=(bc (if R.val%2=1 then-R else R),true);rw[if_pos h2]
  ·rw[decide_eq_false h2,bE,bE];show(bc R,true)=(bc (if R.val%2=1 then-R else R),true);rw[if_neg h2]
 ·rw[decide_eq_false h,if_neg h,bE];rfl
theorem t2F:cC 2=2:=by decide+kernel
theorem XX(a:F):ik (bc a)=(bc (rootOf a).1,(rootOf a).2):=by
 have h1:=AV a (qe (lo:=254) (hi:=15) (by omega) (by omega));have h2:=AV 2 (qe (lo:=251) (hi:=31) (by omega) (by omega));rw[KJ]at h1;rw[afT]at h2;have h3:bq 2=bc 2:=by rw[gR (by decide) (by decide),t2F]
 have e1:dB (!(qF (a9 (ly (bc a) (bW 254 15)) (ly (bc a) (bW 254 15))) (bc a))) (a9 (ly (bc a) (bW 254 15)) (ly (bq 2) (bW 251 31))) (ly (bc a) (bW 254 15))=
   bc (if F.pow a ((pp+3)/8)*F.pow a ((pp+3)/8)=a then F.pow a ((pp+3)/8)else F.pow a ((pp+3)/8)*F.pow 2 ((pp-1)/4)):=by
  rw[h1,h3,h2,eu,eu,GV,alV]
  by_cases h:F.pow a ((pp+3)/8)*F.pow a ((pp+3)/8)=a
  ·rw[decide_eq_true h,if_pos h];rfl
  ·rw[decide_eq_false h,if_neg h];rfl
 unfold ik uf;simp only[e1,C5];rw[eu,GV,KT,KQ,ux,axL,← qm]
def jc:Fn→Fn→Fn×Bool:=Ky a9 cM ik
theorem XY(u v:F):jc (bc u) (bc v)=(dB (qF (bc v) cy) cy (ik (a9 (bc u) (cM (bc v)))).1,bif qF (bc v) cy then qF (bc u) cy else(ik (a9 (bc u) (cM (bc v)))).2):=rfl
theorem XZ(u v:F):ik (a9 (bc u) (cM (bc v)))=(bc (rootOf (u*F.inv v)).1,(rootOf (u*F.inv v)).2):=by
 rw[uA,eu,XX]
theorem X0(u v:F)(z:F×Bool):(dB (qF (bc v) cy) cy (bc z.1,z.2).1,bif qF (bc v) cy then qF (bc u) cy else(bc z.1,z.2).2)=(dB (decide (v=0)) (bc 0) (bc z.1),bif decide (v=0)then decide (u=0)else z.2):=by
 rw[ux,GV,GV]
theorem KU(u v:F)(z:F×Bool):(dB (decide (v=0)) (bc 0) (bc z.1),bif decide (v=0)then decide (u=0)else z.2)=(bc (if v=0 then((0:F),decide (u=0))else z).1,(if v=0 then((0:F),decide (u=0))else z).2):=by
 by_cases h:v=0
 ·rw[decide_eq_true h,if_pos h,bE,cond_true,cond_true]
 ·rw[decide_eq_false h,if_neg h,bE,cond_false,cond_false]
theorem X1(u v:F):ig u v=if v=0 then((0:F),decide (u=0))else rootOf (u*F.inv v):=by unfold ig;rfl
theorem QC(u v:F):jc (bc u) (bc v)=(bc (ig u v).1,(ig u v).2):=by
 rw[XY,XZ,X1];generalize rootOf (u*F.inv v)=z;rw[X0,KU]
def pn(p:E4):Pn:=(bc p.1,bc p.2.1,bc p.2.2.1,bc p.2.2.2)
theorem X2(b:Bool)(p q:E4):Um b (pn p) (pn q)=pn (if b=true then p else q):=by
 rw[Kw];cases b<;>rfl
def fo:Fn:=a9 (kC (bq 121665)) (cM (bq 121666))
theorem agc: -(cC 121665)*F.inv (cC 121666)=dd:=by rw[F.af6];decide+kernel
theorem Dj:fo=bc dd:=by
 unfold fo;rw[gR (by decide) (by decide),gR (by decide) (by decide),KQ,uA,eu,agc]
def lQ:Pn:=Qr bq
theorem asx:bq 1=bc 1:=by rw[gR (by decide) (by decide),x5]
theorem agd:lQ=pn mL:=by
 unfold lQ Qr pn mL rG;rw[asx,ux];have:(0:F)*1=0:=by decide+kernel
 simp only[this]
def AW:Fn→Fn→Pn:=aso bq a9
theorem asy(x y:F):AW (bc x) (bc y)=pn (rG x y):=by
 unfold AW aso pn rG;rw[asx,eu]
def qW:Fn→Fn×Bool:=afJ bq a9 gX ij jc fo
theorem age(y:F):qW (bc y)=(bc (kQ y).1,(kQ y).2):=by
 unfold qW afJ;rw[asx,Dj,eu,eu,AQ,AP,QC];rfl
theorem t4F:cC 4=4:=by decide+kernel
theorem t5F:cC 5=5:=by decide+kernel
def gx:Pn:=GQ bq a9 cM AW qW
theorem agf:gx=pn AG:=by
 unfold gx GQ;rw[gR (by decide) (by decide),gR (by decide) (by decide),t4F,t5F,uA,eu,age];show AW (bc (kQ (4*F.inv 5)).1) (bc (4*F.inv 5))=_;rw[asy];rfl
def uB:Pn→dY:=vZ a9 cM qG oV
theorem QD(p:E4):uB (pn p)=alJ p:=by
 unfold uB vZ;show dB (qG (a9 (bc p.1) (cM (bc p.2.2.1)))) (Vec.nV (fun x=>IntKind.u8.wrap (x+128)) 31 (oV (a9 (bc p.2.1) (cM (bc p.2.2.1))))) (oV (a9 (bc p.2.1) (cM (bc p.2.2.1))))=_;rw[uA,eu,eu,QB,KT,KK];have hb:=qg (p.2.1*F.inv p.2.2.1)
 have hu:Vec.nV (fun x=>IntKind.u8.wrap (x+128)) 31 (dO (p.2.1*F.inv p.2.2.1))=rI (dO (p.2.1*F.inv p.2.2.1)):=by
  refine qf ?_;generalize Vec.get (dO (p.2.1*F.inv p.2.2.1)) 31=z at*;show IntKind.u8.wrap (z+128)=z+128;rw[wrap_u8];omega
 rw[hu];rfl
def dq:Pn→Pn→Fn→Pn:=xZ a9 gX ij
theorem alW(p q:E4):um p q=(((p.2.1+p.1)*(q.2.1+q.1)-(p.2.1-p.1)*(q.2.1-q.1))*((p.2.2.1+p.2.2.1)*q.2.2.1-p.2.2.2*q.2.2.2*(dd+dd)),
  ((p.2.2.1+p.2.2.1)*q.2.2.1+p.2.2.2*q.2.2.2*(dd+dd))*((p.2.1+p.1)*(q.2.1+q.1)+(p.2.1-p.1)*(q.2.1-q.1)),
  ((p.2.2.1+p.2.2.1)*q.2.2.1-p.2.2.2*q.2.2.2*(dd+dd))*((p.2.2.1+p.2.2.1)*q.2.2.1+p.2.2.2*q.2.2.2*(dd+dd)),
  ((p.2.1+p.1)*(q.2.1+q.1)-(p.2.1-p.1)*(q.2.1-q.1))*((p.2.1+p.1)*(q.2.1+q.1)+(p.2.1-p.1)*(q.2.1-q.1))):=by
 unfold um;simp only[];have e1:p.2.2.2*q.2.2.2*dd+p.2.2.2*q.2.2.2*dd=p.2.2.2*q.2.2.2*(dd+dd):=by generalize dd=d;grobner
 have e2:p.2.2.1*q.2.2.1+p.2.2.1*q.2.2.1=(p.2.2.1+p.2.2.1)*q.2.2.1:=by grobner
 rw[e1,e2]
theorem Dk(p q:E4):dq (pn p) (pn q) (bc (dd+dd))=pn (um p q):=by
 rw[alW];unfold dq xZ pn;simp only[eu,AP,AQ]
end Go.Proofs.YtnbkagglkajbkaaGreat
namespace BJ
theorem F.agh:(1:F)≠0:=by decide+kernel
theorem F.asz(s:F)(m:Nat):F.pow (s*s) m=F.pow s (m+m):=by
 induction m with
 |zero=>rw[F.pow_zero,F.pow_zero]
 |succ m ih=>
  rw[F.pow_succ,ih,show m+1+(m+1)=(m+m+1)+1 from by omega,F.pow_succ,F.pow_succ]
  grobner
theorem F.rB{s:F}(h:s≠0):F.pow s (pp-1)=1:=by
 apply Fin.ext
 show s.val ^ (pp-1)%pp=1;exact GP.rB (F.Ql h)
theorem F.asA{t:F}(h:t*t=1):t=1∨t= -1:=by
 have:(t-1)*(t+1)=0:=by grobner
 rcases F.mul_eq_zero this with h1|h1
 ·left;grobner
 ·right;grobner
theorem F.axM{a b:F}(h:a*a=b*b):a=b∨a= -b:=by
 have:(a-b)*(a+b)=0:=by grobner
 rcases F.mul_eq_zero this with h1|h1
 ·left;grobner
 ·right;grobner
theorem X3{r a:F}(h:r*r=a):(eN r a).2=true:=by
 unfold eN;rw[if_pos h]
theorem alX{r a:F}(h:(eN r a).2=true):(eN r a).1*(eN r a).1=a:=by
 unfold eN at h ⊢
 by_cases h1:r*r=a
 ·rw[if_pos h1];show(if r.val%2=1 then-r else r)*(if r.val%2=1 then-r else r)=a
  by_cases h2:r.val%2=1
  ·rw[if_pos h2];grobner
  ·rw[if_neg h2];exact h1
 ·rw[if_neg h1]at h;cases h
theorem agi{s c:F}{m k:Nat}(hm:m+m=k+1)(hk:s≠0→F.pow s (k+k)*F.pow s (k+k)=1)(hc:c*c= -1):
  (eN (if F.pow (s*s) m*F.pow (s*s) m=s*s then F.pow (s*s) m else F.pow (s*s) m*c) (s*s)).2=true:=by
 apply X3
 by_cases h:F.pow (s*s) m*F.pow (s*s) m=s*s
 ·rw[if_pos h];exact h
 ·rw[if_neg h]
  have h1:F.pow (s*s) m*F.pow (s*s) m=F.pow s (k+k)*(s*s):=by
   rw[← F.pow_add,hm,F.pow_succ,F.asz]
  by_cases hs:s=0
  ·exfalso;apply h;rw[h1,hs];grobner
  ·rcases F.asA (hk hs)with h2|h2
   ·exfalso;apply h;rw[h1,h2];grobner
   ·rw[h2]at h1;generalize F.pow (s*s) m=r at*
    grobner
theorem agj:(pp+3)/8+(pp+3)/8=(pp-1)/4+1:=by decide+kernel
theorem agk:(pp-1)/4+(pp-1)/4+((pp-1)/4+(pp-1)/4)=pp-1:=by decide+kernel
theorem QE:F.pow 2 ((pp-1)/4)*F.pow 2 ((pp-1)/4)= -1:=by
 rw[F.UA 2 (by decide+kernel)];decide+kernel
theorem AX(s:F):(rootOf (s*s)).2=true:=by
 rw[qm];exact agi agj (fun hs=>by rw[← F.pow_add,agk];exact F.rB hs) QE
theorem alY{a:F}(h:(rootOf a).2=true):(rootOf a).1*(rootOf a).1=a:=by
 rw[qm]at h ⊢;exact alX h
theorem QF(y:F):dd*(y*y)+1≠0:=by
 intro h;have hy:y≠0:=by rintro rfl;exact F.agh (by grobner)
 have hi:=F.inv_mul hy;have h2:=apI
 apply ua (ii*F.inv y)
 generalize F.inv y=v at*
 grobner
theorem asB{x y:F}(h:wZ x y):(kQ y).2=true∧((kQ y).1=x∨(kQ y).1= -x):=by
 have h2:=F.inv_mul (QF y)
 have e:(y*y-1)*F.inv (dd*(y*y)+1)=x*x:=by
  apply F.cancel (QF y)
  unfold wZ at h;generalize F.inv (dd*(y*y)+1)=v at*
  grobner
 unfold kQ ig;rw[if_neg (QF y),e];exact⟨AX x,F.axM (alY (AX x))⟩
def ML(p:E4)(P:Pt):Prop:=p.2.2.1≠0∧p.1=P.x*p.2.2.1∧p.2.1=P.y*p.2.2.1∧p.2.2.2=P.x*P.y*p.2.2.1
theorem GY(P:Pt):ML (rG P.x P.y) P:=
 ⟨F.agh,(show P.x=P.x*1 by grobner),(show P.y=P.y*1 by grobner),(show P.x*P.y=P.x*P.y*1 by grobner)⟩
theorem agl:ML mL Pt.zero:=GY Pt.zero
theorem alZ{x1 y1 Z1 x2 y2 Z2:F}{A B:F}(h1:wZ x1 y1)(h2:wZ x2 y2)(hz1:Z1≠0)(hz2:Z2≠0)
  (hA:A*(1+dd*x1*x2*y1*y2)=x1*y2+y1*x2) (hB:B*(1-dd*x1*x2*y1*y2)=y1*y2+x1*x2) {r:E4}
  (hr:um (x1*Z1,y1*Z1,Z1,x1*y1*Z1) (x2*Z2,y2*Z2,Z2,x2*y2*Z2)=r):r.2.2.1≠0∧r.1=A*r.2.2.1∧r.2.1=B*r.2.2.1∧r.2.2.2=A*B*r.2.2.1:=by
 have d1:=gQ h1 h2;have d2:=ga h1 h2;subst hr;unfold um;simp only[];generalize hD:dd*x1*x2*y1*y2=D at*;have e1:y1*Z1*Z2+y1*Z1*Z2=y1*Z1*Z2+y1*Z1*Z2:=rfl;have eba:(y1*Z1+x1*Z1)*(y2*Z2+x2*Z2)-(y1*Z1-x1*Z1)*(y2*Z2-x2*Z2)=2*(Z1*Z2)*(A*(1+D)):=by rw[hA];grobner
 have ebA:(y1*Z1+x1*Z1)*(y2*Z2+x2*Z2)+(y1*Z1-x1*Z1)*(y2*Z2-x2*Z2)=2*(Z1*Z2)*(B*(1-D)):=by rw[hB];grobner
 have edc:Z1*Z2+Z1*Z2-(x1*y1*Z1*(x2*y2*Z2)*dd+x1*y1*Z1*(x2*y2*Z2)*dd)=2*(Z1*Z2)*(1-D):=by rw[← hD];grobner
 have edC:Z1*Z2+Z1*Z2+(x1*y1*Z1*(x2*y2*Z2)*dd+x1*y1*Z1*(x2*y2*Z2)*dd)=2*(Z1*Z2)*(1+D):=by rw[← hD];grobner
 rw[eba,ebA,edc,edC];have gz:=F.ff afC (F.ff hz1 hz2);refine⟨F.ff (F.ff gz d2) (F.ff gz d1),?_,?_,?_⟩<;>grobner
theorem KV{p:E4}{P:Pt}(h:ML p P):p=(P.x*p.2.2.1,P.y*p.2.2.1,p.2.2.1,P.x*P.y*p.2.2.1):=by
 obtain⟨X,Y,Z,T⟩:=p;obtain⟨_,h1,h2,h3⟩:=h;simp only at h1 h2 h3;rw[h1,h2,h3]
theorem UE{p q:E4}{P Q:Pt}(hp:ML p P)(hq:ML q Q):ML (um p q) (P.add Q):=by
 have h:=alZ P.on Q.on hp.1 hq.1 (kx P.on Q.on) (ky P.on Q.on) (r:=um p q) (by rw[← KV hp,← KV hq]);exact h
theorem apP{p:E4}{P:Pt}(hp:ML p P):p.1*F.inv p.2.2.1=P.x:=by
 obtain⟨h0,h1,_⟩:=hp;have:=F.inv_mul h0;rw[h1];generalize F.inv p.2.2.1=v at*
 grobner
theorem apQ{p:E4}{P:Pt}(hp:ML p P):p.2.1*F.inv p.2.2.1=P.y:=by
 obtain⟨h0,_,h2,_⟩:=hp;have:=F.inv_mul h0;rw[h2];generalize F.inv p.2.2.1=v at*
 grobner
theorem Pt.zero_add(p:Pt):Pt.zero.add p=p:=by rw[Pt.add_comm,Pt.add_zero]
def o9:Nat→Pt→Pt
 |0,_=>Pt.zero
 |n+1,p=>(o9 n p).add p
theorem GZ(m n:Nat)(p:Pt):o9 (m+n) p=(o9 m p).add (o9 n p):=by
 induction n with
 |zero=>
  show o9 m p=(o9 m p).add Pt.zero;rw[Pt.add_zero]
 |succ n ih=>rw[← Nat.add_assoc,o9,o9,ih,Pt.add_assoc]
theorem agm(n:Nat):o9 n Pt.zero=Pt.zero:=by
 induction n with
 |zero=>rfl
 |succ n ih=>rw[o9,ih,Pt.add_zero]
theorem al0(m n:Nat)(p:Pt):o9 (m*n) p=o9 m (o9 n p):=by
 induction m with
 |zero=>rw[Nat.zero_mul];rfl
 |succ m ih=>rw[Nat.succ_mul,GZ,ih,o9]
theorem al1(p:Pt):o9 1 p=p:=Pt.zero_add p
end BJ
namespace Go.Proofs.YtnbkagglkajbkaaGreat
open Go Go.Ev Go.Proofs.Tryz
open Go.IntKind (i64 signed u16 u64 wrap)
set_option maxRecDepth 1000000
noncomputable section
variable (bit:dY→Nat→Int) (zero:Pn) (XK:Fn) (add:Fn→Fn→Fn) (Kx:Pn→Pn→Fn→Pn)
def qn(n:dY)(p:Pn)(d:Fn)(i:Int)(q:Pn):Pn:=Um (bit n i.toNat==1) (Kx (Kx q q d) p d) (Kx q q d)
def UF(n:dY)(p:Pn):Pn:=eQ (fun k q=>qn bit Kx n p (add XK XK) (255-(k:Int)) q) 256 zero
end
noncomputable section
variable (decode:dY→Pt×Bool) (base:Pt) (double:Pt→Pt)
end
noncomputable section
variable (decode:dY→Pt×Bool) (base:Pt) (double:Pt→Pt) (al2:dY→Pn×Bool) (aEz:Pn) (axN:Pn→Pn→Pn)
end
end Go.Proofs.YtnbkagglkajbkaaGreat
namespace Go.Proofs.YtnbkagglkajbkaaGreat
open Go Go.Ev BJ Go.Proofs.Tryz
open Go.IntKind (i64 signed u16 u64 wrap)
set_option maxRecDepth 1000000
def uC(a b:Fn):Bool:=ie a b 16
def AY:dY→Pn→Pn:=UF lO lQ fo gX dq
end Go.Proofs.YtnbkagglkajbkaaGreat
namespace Go.Ev
open Go
open Go.IntKind (i64 signed u16 u64 wrap)
end Go.Ev
namespace Go.Proofs.YtnbkagglkajbkaaGreat
open Go Go.Ev BJ Go.Proofs.Tryz
open Go.IntKind (i64 signed u16 u64 wrap)
set_option maxRecDepth 1000000
def both(a b:Bool):Bool:=bif a==true then b else false
noncomputable section
variable (at2:dY→Pt×Pn) (zero:Pt) (add:Pt→Pt→Pt) (neg double:Pt→Pt) (equal:Pt→Pt→Bool) (encode:Pt→dY)
end
noncomputable section
variable (at2:dY→Pt×Pn) (decode:dY→Pt×Bool) (add:Pt→Pt→Pt) (neg double:Pt→Pt) (equal:Pt→Pt→Bool) (encode:Pt→dY) (al2:dY→Pn×Bool) (axN:Pn→Pn→Pn) (aEA:Pn→Pn) (aCx:Pn→Pn→Bool) (aAh:Pn→dY)
end
noncomputable section
variable (zero:Pt) (decode:dY→Pt×Bool) (neg double:Pt→Pt) (equal:Pt→Pt→Bool)
end
end Go.Proofs.YtnbkagglkajbkaaGreat
namespace Go.Proofs.YtnbkagglkajbkaaGreat
open Go Go.Ev BJ Go.Proofs.Tryz
open Go.IntKind (i64 signed u16 u64 wrap)
theorem al3:wZ uy qV:=by unfold wZ;decide+kernel
def il:BJ.Pt:=⟨uy,qV,al3⟩
theorem KW:ML AG il:=by
 rw[aga];exact GY il
structure Rep (p:Pt) (P:BJ.Pt):Prop where
 ok:xh p
 is:ML (Us p) P
theorem agn:Rep o6 il:=⟨UB.1,by rw[UB.2];exact KW⟩
def qH(P:BJ.Pt):dY:=if P.x.val%2=1 then rI (dO P.y)else dO P.y
theorem al4{p:Pt}{P:BJ.Pt}(hp:Rep p P):ur p=qH P:=by
 rw[XO hp.ok];unfold alJ qH;rw[apP hp.is,apQ hp.is]
theorem ago(P:BJ.Pt):cR (qH P)=(P.y.val:Int)+(if P.x.val%2=1 then uq else 0):=by
 unfold qH;obtain⟨h1,h2⟩:=kA P.y
 by_cases h:P.x.val%2=1
 ·rw[if_pos h,if_pos h,(AU h1 (qg _).2).2,h2]
 ·rw[if_neg h,if_neg h,h2,Int.add_zero]
end Go.Proofs.YtnbkagglkajbkaaGreat
namespace Go.Proofs.YtnbkagglkajbkaaGreat
open Go Go.Ev BJ Go.Proofs.Tryz
open Go.IntKind (i64 signed u16 u64 wrap)
theorem AZ{V:Nat}(hV:V<2 ^ 256){p:E4}{P:BJ.Pt}(hp:ML p P):ML (AH V p) (o9 V P):=by
 have key:∀k,k≤256→ML (eQ (iX V p) k mL) (o9 (V/2 ^ (256-k)) P):=by
  intro k
  induction k with
  |zero=>
   intro _;rw[Nat.sub_zero,Nat.div_eq_of_lt hV];exact agl
  |succ k ih=>
   intro hk;have h:=ih (by omega);show ML (iX V p k (eQ (iX V p) k mL)) _
   have hdiv:V/2 ^ (256-k)=V/2 ^ (256-(k+1))/2:=by
    rw[Nat.div_div_eq_div_mul,← Nat.pow_succ];congr 2;omega
   rw[hdiv]at h;unfold iX Qy;rw[show 255-k=256-(k+1)from by omega];generalize V/2 ^ (256-(k+1))=M at*;have h2:=UE h h;rw[← GZ]at h2
   by_cases hb:M%2=1
   ·rw[decide_eq_true hb,if_pos rfl];have h3:=UE h2 hp
    have e:(o9 (M/2+M/2) P).add P=o9 M P:=by
     have:M=(M/2+M/2)+1:=by omega
     conv=>rhs;rw[this]
     rfl
    rw[e]at h3;exact h3
   ·rw[decide_eq_false hb,if_neg (by simp)];rw[show M/2+M/2=M from by omega]at h2;exact h2
 have:=key 256 (by omega);rw[Nat.sub_self,Nat.pow_zero,Nat.div_one]at this;exact this
theorem agp{n:dY}(h:oY n):(cR n).toNat<2 ^ 256:=by
 have h1:=qd h;have h0:=et h;have afS:(256 ^ 32:Nat)=2 ^ 256:=by rw[show(256:Nat)=2 ^ 8 from rfl,← Nat.pow_mul]
 rw[afS]at h1;omega
theorem agq{n:dY}{p:Pt}{P:BJ.Pt}(hn:oY n)(hp:Rep p P):Rep (AI n p) (o9 (cR n).toNat P):=by
 obtain⟨h1,h2⟩:=alM hn hp.ok;exact⟨h1,by rw[h2];exact AZ (agp hn) hp.is⟩
theorem agr{n:dY}(hn:oY n)(p:E4):AY n (pn p)=pn (AH (cR n).toNat p):=by
 have hd:gX fo fo=bc (dd+dd):=by rw[Dj,AP]
 have key:∀k,k≤256→eQ (fun k q=>qn lO dq n (pn p) (gX fo fo) (255-(k:Int)) q) k lQ=pn (eQ (iX (cR n).toNat p) k mL):=by
  intro k
  induction k with
  |zero=>intro _;exact agd
  |succ k ih=>
   intro hk;simp only[eQ];rw[ih (by omega)];unfold qn iX;rw[hd,Dk,Dk,show(255-(k:Int)).toNat=255-k from by omega,UD hn (by omega),v9 hn (by omega),X2]
 exact key 256 (by omega)
theorem ags(P:BJ.Pt):oY (qH P)∧axF (qH P)=(rG P.x P.y,true):=by
 obtain⟨b1,b2⟩:=kA P.y;have hv:=ago P
 have nW:oY (qH P):=by
  unfold qH
  split
  ·exact(AU b1 (qg _).2).1
  ·exact b1
 have hp:=o7 P.y;have c1:=Di;have c2:=asw
 have hm:cR (qH P)%uq=(P.y.val:Int):=by
  have c3:∀x:Int,x%uq=x%57896044618658097711785492504343953926634992332820282019728792003956564819968:=fun _=>rfl;rw[hv,c3]
  split<;>omega
 have hF:cC (cR (qH P)%uq)=P.y:=by rw[hm,rK]
 have h31:=uj nW (i:=31) (by decide);rw[asr]at h31
 have asC:128≤(qH P).get 31↔P.x.val%2=1:=by
  rw[h31,hv]
  split<;>omega
 obtain⟨x1,x2⟩:=asB P.on;have hev:=agb P.y;refine⟨nW,?_⟩;unfold axF;simp only[hF]
 have ke:(kQ P.y).2=true∧cR (qH P)%uq<(pp:Int)∧¬(128≤(qH P).get 31∧(kQ P.y).1=0):=by
  refine⟨x1,by rw[hm];exact hp.2,fun⟨h1,h2⟩=>?_⟩;have axO:=asC.1 h1
  have wI:P.x=0:=by
   rcases x2 with h|h
   ·rw[← h,h2]
   ·have:P.x= -(kQ P.y).1:=(by rw[h];grobner);rw[this,h2];grobner
  rw[wI,BJ.F.uz]at axO;cases axO
 rw[if_pos ke]
 have agt:(if 128≤(qH P).get 31 then-(kQ P.y).1 else(kQ P.y).1)=P.x:=by
  generalize (kQ P.y).1=X at*
  by_cases h:P.x.val%2=1
  ·rw[if_pos (asC.2 h)];rcases x2 with e|e
   ·rw[e]at hev;omega
   ·rw[e];grobner
  ·rw[if_neg fun h'=>h (asC.1 h')];rcases x2 with e|e
   ·exact e
   ·by_cases h0:P.x=0
    ·rw[e,h0];grobner
    ·have:=UC h0;rw[← e]at this;omega
 rw[agt]
end Go.Proofs.YtnbkagglkajbkaaGreat
namespace Go.Proofs.YtnbkagglkajbkaaGreat
open Go Go.Ev BJ Go.Proofs.Tryz
open Go.IntKind (i64 signed u16 u64 wrap)
set_option maxRecDepth 1000000
noncomputable section
variable (alive:Unit) (mult:dY→Pt→Pt) (aEB:dY→Pt) (base zero:Pt) (double neg:Pt→Pt) (equal:Pt→Pt→Bool) (aG0:dY→Pt) (add:Pt→Pt→Pt) (half:dY→dY) (plus:dY→dY→dY) (aG1:dY→Pt→dY→Pt)
end
end Go.Proofs.YtnbkagglkajbkaaGreat
namespace Go.Proofs.YtnbkagglkajbkaaGreat
open Go Go.Ev Go.Proofs.Tryz
open Go.IntKind (i64 signed u16 u64 wrap)
set_option maxRecDepth 1000000
noncomputable section
variable (bit:dY→Nat→Int) (zero base:Pt) (double:Pt→Pt) (afE:Pt→Pt→Pt)
end
end Go.Proofs.YtnbkagglkajbkaaGreat
namespace Go.Proofs.YtnbkagglkajbkaaGreat
open Go Go.Ev BJ Go.Proofs.Tryz
open Go.IntKind (i64 signed u16 u64 wrap)
end Go.Proofs.YtnbkagglkajbkaaGreat
end
noncomputable section
namespace Go.Proofs.YtnbkagglkajbkaaGreat
open Go Go.Ev BJ Go.Proofs.Tryz
open Go.IntKind (i64 signed u16 u64 wrap)
set_option maxRecDepth 1000000
abbrev lR:aQ LV Fe:=qC (iU .u64 5)
abbrev cB:aQ LV (List Int):=sG .u8 32
abbrev al5(b:dY):LV:=cY .u8 32 b.toList
abbrev QG:aQ (List LV) (Int×Unit):=ae (ah (aA .u64)) ag
abbrev rL:aQ (List LV) (Fe×Unit):=ae lR ag
abbrev mM:aQ (List LV) (Fe×Fe×Unit):=ae lR (ae lR ag)
abbrev nS:aQ (List LV) (List Int×Unit):=ae cB ag
abbrev kK:List Wk:= [.fr [.sym],.auto]
abbrev kR:List Wk:= [.fr [.sym],.eZ 0 0 32 .u8,.auto]
def uD:an:=an.cm [] (rL) (ag) fun x_ y_=>(fun(x:Fe)=>.leaf none (lR.wr (cg x)) []) x_.1
theorem KX(x:Fe):aH Tryz.prog [] [] f270 ((rL).wr (x,())) ((ag).wr ()) [.fr [.sym],.auto]= .leaf (lR.wr (cg x)) ([]):=by kernel_rfl
theorem qo:uD.Ok Tryz.prog 270:=by
 refine(an.aS call270 fun x_ y_ Q H_=>?_).sym;obtain⟨x,_⟩:=x_;have hq:=H_.2;refine(ar mixed aw func270 rfl (LT:= []) (ks:= [.fr [.sym],.auto]) (aK.nil _)).use (D:= []) ?_ hq;show(aH _ _ _ _ ((rL).wr (x,())) ((ag).wr ()) _).sat _;rw[KX];exact⟨rfl,rfl⟩
def G0:an:=an.cm [] (QG) (ag) fun x_ y_=>(fun(n:Int)=>.leaf none (lR.wr (a7 n)) []) x_.1
theorem KY(n:Int):aH Tryz.prog [] [] f194 ((QG).wr (n,())) ((ag).wr ()) [.fr [.sym],.auto]= .leaf (lR.wr (a7 n)) ([]):=by kernel_rfl
theorem Dl:G0.Ok Tryz.prog 194:=by
 refine(an.aS call194 fun x_ y_ Q H_=>?_).sym;obtain⟨n,_⟩:=x_;have hq:=H_.2;refine(ar mixed aw func194 rfl (LT:= []) (ks:= [.fr [.sym],.auto]) (aK.nil _)).use (D:= []) ?_ hq;show(aH _ _ _ _ ((QG).wr (n,())) ((ag).wr ()) _).sat _;rw[KY];exact⟨rfl,rfl⟩
def apS:an:=an.cm [] (mM) (ag) fun x_ y_=>(fun(x y:Fe)=>.leaf none (lR.wr (jQ x y)) []) x_.1 x_.2.1
theorem X4(x y:Fe):aH Tryz.prog [(270,uD)] [] f266 ((mM).wr (x,y,())) ((ag).wr ()) [.fr [.sym],.auto]= .leaf (lR.wr (jQ x y)) ([]):=by kernel_rfl
theorem al6:apS.Ok Tryz.prog 266:=by
 refine(an.aS call266 fun x_ y_ Q H_=>?_).sym;obtain⟨x,y,_⟩:=x_;have hq:=H_.2;refine(ar mixed ((al qo aw)) func266 rfl (LT:= []) (ks:= [.fr [.sym],.auto]) (aK.nil _)).use (D:= []) ?_ hq;show(aH _ _ _ _ ((mM).wr (x,y,())) ((ag).wr ()) _).sat _;rw[X4];exact⟨rfl,rfl⟩
def agu:an:=an.cm [] (mM) (ag) fun x_ y_=>(fun(x y:Fe)=>.leaf none (lR.wr (kP x y)) []) x_.1 x_.2.1
theorem X5(x y:Fe):aH Tryz.prog [(270,uD)] [] f265 ((mM).wr (x,y,())) ((ag).wr ()) [.fr [.sym],.auto]= .leaf (lR.wr (kP x y)) ([]):=by kernel_rfl
theorem UG:agu.Ok Tryz.prog 265:=by
 refine(an.aS call265 fun x_ y_ Q H_=>?_).sym;obtain⟨x,y,_⟩:=x_;have hq:=H_.2;refine(ar mixed ((al qo aw)) func265 rfl (LT:= []) (ks:= [.fr [.sym],.auto]) (aK.nil _)).use (D:= []) ?_ hq;show(aH _ _ _ _ ((mM).wr (x,y,())) ((ag).wr ()) _).sat _;rw[X5];exact⟨rfl,rfl⟩
def apT:an:=an.cm [] (rL) (ag) fun x_ y_=>(fun(x:Fe)=>.leaf none (lR.wr (AF x)) []) x_.1
theorem X6(x:Fe):aH Tryz.prog [(265,agu)] [] f298 ((rL).wr (x,())) ((ag).wr ()) [.fr [.sym],.auto]= .leaf (lR.wr (AF x)) ([]):=by kernel_rfl
theorem al7:apT.Ok Tryz.prog 298:=by
 refine(an.aS call298 fun x_ y_ Q H_=>?_).sym;obtain⟨x,_⟩:=x_;have hq:=H_.2;refine(ar mixed ((al UG aw)) func298 rfl (LT:= []) (ks:= [.fr [.sym],.auto]) (aK.nil _)).use (D:= []) ?_ hq;show(aH _ _ _ _ ((rL).wr (x,())) ((ag).wr ()) _).sat _;rw[X6];exact⟨rfl,rfl⟩
def agv:an:=an.cm [] ((ae (ah (aA .u64)) (ae (ah (aA .u64)) ag))) (ag) fun x_ y_=>(fun(x y:Int)=>.leaf none (.c6 [.sc (.int .u64 (.sym (bm x y).1)),.sc (.int .u64 (.sym (bm x y).2))]) []) x_.1 x_.2.1
theorem QH(x y:Int):aH Tryz.prog [] [] f200 (((ae (ah (aA .u64)) (ae (ah (aA .u64)) ag))).wr (x,y,())) ((ag).wr ()) [.fr [.sym],.auto]= .leaf (.c6 [.sc (.int .u64 (.sym (bm x y).1)),.sc (.int .u64 (.sym (bm x y).2))]) ([]):=by kernel_rfl
theorem KZ:agv.Ok Tryz.prog 200:=by
 refine(an.aS call200 fun x_ y_ Q H_=>?_).sym;obtain⟨x,y,_⟩:=x_;have hq:=H_.2;refine(ar mixed aw func200 rfl (LT:= []) (ks:= [.fr [.sym],.auto]) (aK.nil _)).use (D:= []) ?_ hq;show(aH _ _ _ _ (((ae (ah (aA .u64)) (ae (ah (aA .u64)) ag))).wr (x,y,())) ((ag).wr ()) _).sat _;rw[QH];exact⟨rfl,rfl⟩
def agw:an:=an.cm [] (nS) (ag) fun x_ y_=>(fun(b:List Int)=>.leaf none (lR.wr (nm (qT b))) []) x_.1
theorem QI(b:List Int):aH Tryz.prog [] [] f295 ((nS).wr (b,())) ((ag).wr ()) [.fr [.sym],.auto]= .leaf (lR.wr (nm (qT b))) ([]):=by kernel_rfl
theorem agx:agw.Ok Tryz.prog 295:=by
 refine(an.aS call295 fun x_ y_ Q H_=>?_).sym;obtain⟨b,_⟩:=x_;have hq:=H_.2;refine(ar mixed aw func295 rfl (LT:= []) (ks:= [.fr [.sym],.auto]) (aK.nil _)).use (D:= []) ?_ hq;show(aH _ _ _ _ ((nS).wr (b,())) ((ag).wr ()) _).sat _;rw[QI];exact⟨rfl,rfl⟩
def UH:an:=an.cm [] (rL) (ag) fun x_ y_=>(fun(x:Fe)=>.leaf none (lR.wr (afZ x)) []) x_.1
theorem K0(x:Fe):aH Tryz.prog [(270,uD)] [] f199 ((rL).wr (x,())) ((ag).wr ()) [.fr [.sym],.auto]= .leaf (lR.wr (afZ x)) ([]):=by kernel_rfl
theorem X7:UH.Ok Tryz.prog 199:=by
 refine(an.aS call199 fun x_ y_ Q H_=>?_).sym;obtain⟨x,_⟩:=x_;have hq:=H_.2;refine(ar mixed ((al qo aw)) func199 rfl (LT:= []) (ks:= [.fr [.sym],.auto]) (aK.nil _)).use (D:= []) ?_ hq;show(aH _ _ _ _ ((rL).wr (x,())) ((ag).wr ()) _).sat _;rw[K0];exact⟨rfl,rfl⟩
def x7:an:=an.cm [] (rL) (ag) fun x_ y_=>(fun(x:Fe)=>.leaf none (al5 (fh x)) []) x_.1
theorem K1(x:Fe):aH Tryz.prog [(199,UH)] [] f136 ((rL).wr (x,())) ((ag).wr ()) kR= .leaf (al5 (fh x)) ([]):=by kernel_rfl
theorem wh:x7.Ok Tryz.prog 136:=by
 refine(an.aS call136 fun x_ y_ Q H_=>?_).sym;obtain⟨x,_⟩:=x_;have hq:=H_.2;refine(ar mixed ((al X7 aw)) func136 rfl (LT:= []) (ks:=kR) (aK.nil _)).use (D:= []) ?_ hq;show(aH _ _ _ _ ((rL).wr (x,())) ((ag).wr ()) _).sat _;rw[K1];exact⟨rfl,rfl⟩
abbrev asD:an:=(lp bo).sym
theorem A0:asD.Ok Tryz.prog 201:=(Qg func201 (by kernel_rfl) (by kernel_rfl) (by kernel_rfl) (by kernel_rfl) rfl).sym
end Go.Proofs.YtnbkagglkajbkaaGreat
end
