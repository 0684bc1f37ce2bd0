/- What the laws lean on, part 16: a reader of code, plain facts, and what each function gives; no conditions. -/
import Derived.Test.YtjalaohajcpllaaGreatA15
section
namespace Go.Proofs.YtjalaohajcpllaaGreat
open Go Go.Ev BJ
def sY (f:Nat→Int):Nat→Int
 |0=>0
 |n+1=>sY f n+f n*(256 ^ n:Nat)
theorem LW (f:Nat→Int): ∀ n,n≤8→(∀ i,i<n→0≤f i∧f i<256)→
  (List.range n).foldl (fun acc i=>bD .u64 acc (shl .u64 (dV (f i)) ((8*i:Nat):Int))) 0=sY f n∧0≤sY f n∧sY f n<(256 ^ n:Nat)
 |0,_,_=>⟨rfl,by simp[sY],by simp[sY]⟩
 |n+1,hn,hf=>by
  obtain ⟨h1,h2,h3⟩:=LW f n (by omega) fun i hi=>hf i (by omega)
  have h4:=hf n (by omega)
  rw[List.range_succ,List.foldl_append,h1]
  simp only[List.foldl_cons,List.foldl_nil,sY]
  have hle:256 ^ n≤256 ^ 7:=Nat.pow_le_pow_right (by omega) (by omega)
  have h7:(256:Nat) ^ 7=72057594037927936:=by decide
  have e8:(2 ^ (8*n):Nat)=256 ^ n:=by rw[Nat.pow_mul]
  have hmul:0≤f n*(256 ^ n:Nat)∧f n*(256 ^ n:Nat)≤255*(256 ^ n:Nat):=⟨Int.mul_nonneg h4.1 (Int.natCast_nonneg _),Int.mul_le_mul_of_nonneg_right (by omega) (Int.natCast_nonneg _)⟩
  have hm:f n*(256 ^ n:Nat)%(256 ^ n:Nat)=0:=Int.mul_emod_left _ _
  have e:shl .u64 (dV (f n)) ((8*n:Nat):Int)=f n*(256 ^ n:Nat):=by
   rw[ia .u64 _ _ (by show 8*n≤64;omega),e8]
   unfold dV
   rw[wrap_u64 (n:=f n) (by omega) (by omega)]
   exact wrap_u64 hmul.1 (by omega)
  have e2:(256 ^ (n+1):Nat)=256*256 ^ n:=by rw[Nat.pow_succ,Nat.mul_comm]
  rw[e,js,pc (m:=8*n) hmul.1 (by rw[e8];exact hm) h2 (by rw[e8];exact h3) (by omega),e2]
  refine ⟨by omega,by omega,by omega⟩
theorem get_ofFn {f:Nat→Int}: ∀ {n i:Nat},i<n→Vec.get (Vec.ofFn n f) i=f i
 |0,_,h=>absurd h (by omega)
 |n+1,0,_=>rfl
 |n+1,i+1,h=>by
  show Vec.get (Vec.ofFn n fun k=>f (k+1)) i=_
  rw[get_ofFn (n:=n) (by omega)]
theorem wK {n:Nat} {v:Vec Int n} (h:rU v) {i:Nat} (hi:i<n):v.get i=dx v/(256 ^ i:Nat)%256:=by
 conv=>lhs;rw[← X6 h]
 unfold CO
 rw[get_ofFn hi]
theorem afx {n:Nat} {v:Vec Int n} (h:rU v) {i:Nat} (hi:i<n):0≤v.get i∧v.get i<256:=by
 rw[wK h hi];omega
theorem LX (V:Int) (hV:0≤V): ∀ n,sY (fun i=>V/(256 ^ i:Nat)%256) n=V%(256 ^ n:Nat)
 |0=>by simp[sY]
 |n+1=>by
  simp only[sY]
  rw[LX V hV n]
  have e2:(256 ^ (n+1):Nat)=256 ^ n*256:=Nat.pow_succ ..
  rw[e2]
  generalize hm:(256 ^ n:Nat)=m
  have Jd:0<(m:Int):=by have:=Nat.pow_pos (n:=n) (show 0<256 by decide);omega
  have h3:=Int.emod_nonneg V (b:=(m:Int)) (by omega)
  have h4:=Int.emod_lt_of_pos V Jd
  have h5:=Int.emod_add_mul_ediv V (m:Int)
  have h6:V=(V%m+V/m%256*m)+((m*256:Nat):Int)*(V/m/256):=by
   rw[Int.natCast_mul,Int.mul_assoc]
   have h7:V/m=V/m%256+256*(V/m/256):=by omega
   have h8:(m:Int)*(V/m)=m*(V/m%256)+m*(256*(V/m/256)):=by rw[← Int.mul_add,← h7]
   rw[Int.mul_comm (V/m%256) m]
   have h9:(m:Int)*(((256:Nat):Int)*(V/m/256))=m*(256*(V/m/256)):=rfl
   rw[h9];omega
  have h10:0≤V/m%256*m∧V/m%256*m≤255*m:=⟨Int.mul_nonneg (by omega) (by omega),Int.mul_le_mul_of_nonneg_right (by omega) (by omega)⟩
  conv=>rhs;rw[h6]
  rw[Int.add_mul_emod_self_left]
  exact (Int.emod_eq_of_lt (by omega) (by rw[Int.natCast_mul];omega)).symm
theorem wM {b:fM} (h:rU b) (j:Nat) (hj:j<4):word b j=dx b/(256 ^ (8*j):Nat)%18446744073709551616:=by
 have h1:=(LW (fun i=>b.get (8*j+i)) 8 (by omega) fun i hi=>afx h (by omega)).1
 have hV:=eM h
 unfold word
 rw[h1]
 have h2:sY (fun i=>b.get (8*j+i)) 8=sY (fun i=>dx b/(256 ^ (8*j):Nat)/(256 ^ i:Nat)%256) 8:=by
  have key: ∀ n,n≤8→sY (fun i=>b.get (8*j+i)) n=sY (fun i=>dx b/(256 ^ (8*j):Nat)/(256 ^ i:Nat)%256) n:=by
   intro n
   induction n with
   |zero=>intro _;rfl
   |succ n ih=>
    intro hn
    simp only[sY]
    rw[ih (by omega),wK h (by omega),Int.ediv_ediv_of_nonneg (Int.natCast_nonneg _),← Int.natCast_mul,← Nat.pow_add]
  exact key 8 (by omega)
 rw[h2,LX _ (Int.ediv_nonneg hV (Int.natCast_nonneg _)) 8]
 rfl
theorem afy {b:fM} (h:rU b):fN (n5 b)∧fC (n5 b)=dx b%57896044618658097711785492504343953926634992332820282019728792003956564819968:=by
 have hV:=eM h
 have hV2:=wI h
 rw[asI] at hV2
 have w0:=wM h 0 (by omega)
 have w1:=wM h 1 (by omega)
 have w2:=wM h 2 (by omega)
 have w3:=wM h 3 (by omega)
 have q0:(256 ^ (8*0):Nat)=1:=by decide
 have q1:(256 ^ (8*1):Nat)=18446744073709551616:=by decide
 have q2:(256 ^ (8*2):Nat)=340282366920938463463374607431768211456:=by decide
 have q3:(256 ^ (8*3):Nat)=6277101735386680763835789423207666416102355444464034512896:=by decide
 rw[q0] at w0;rw[q1] at w1;rw[q2] at w2;rw[q3] at w3
 unfold n5
 rw[w0,w1,w2,w3]
 generalize dx b=V at*
 obtain ⟨a0,ha0⟩: ∃ a,a=V/((1:Nat):Int)%18446744073709551616:=⟨_,rfl⟩
 obtain ⟨a1,ha1⟩: ∃ a,a=V/((18446744073709551616:Nat):Int)%18446744073709551616:=⟨_,rfl⟩
 obtain ⟨a2,ha2⟩: ∃ a,a=V/((340282366920938463463374607431768211456:Nat):Int)%18446744073709551616:=⟨_,rfl⟩
 obtain ⟨a3,ha3⟩: ∃ a,a=V/((6277101735386680763835789423207666416102355444464034512896:Nat):Int)%18446744073709551616:=⟨_,rfl⟩
 rw[← ha0,← ha1,← ha2,← ha3]
 have sh: ∀ (x:Int) (n:Nat),n≤64→bS x n=x/(2 ^ n:Nat):=fun x n hn=>eX .u64 x n hn
 have sl: ∀ (x:Int) (n:Nat),n≤64→shl .u64 x n=x*(2 ^ n:Nat)%18446744073709551616:=fun x n hn=>by rw[ia .u64 x n hn,mB]
 have s51:=sh a0 51 (by decide)
 have s38:=sh a1 38 (by decide)
 have s25:=sh a2 25 (by decide)
 have s12:=sh a3 12 (by decide)
 have l13:=sl a1 13 (by decide)
 have l26:=sl a2 26 (by decide)
 have l39:=sl a3 39 (by decide)
 have e51:(2 ^ 51:Nat)=2251799813685248:=by decide
 have e38:(2 ^ 38:Nat)=274877906944:=by decide
 have e25:(2 ^ 25:Nat)=33554432:=by decide
 have e12:(2 ^ 12:Nat)=4096:=by decide
 have e13:(2 ^ 13:Nat)=8192:=by decide
 have e26:(2 ^ 26:Nat)=67108864:=by decide
 have e39:(2 ^ 39:Nat)=549755813888:=by decide
 rw[e51] at s51;rw[e38] at s38;rw[e25] at s25;rw[e12] at s12;rw[e13] at l13;rw[e26] at l26;rw[e39] at l39
 have o1:bD .u64 (bS a0 51) (shl .u64 a1 13)=a0/2251799813685248+a1*8192%18446744073709551616:=by
  have e:bD .u64 (shl .u64 a1 13) (bS a0 51)=shl .u64 a1 13+bS a0 51:=pc (m:=13) (by rw[show shl .u64 a1 13=_ from l13];omega) (by rw[show shl .u64 a1 13=_ from l13,e13];omega) (by rw[show bS a0 51=_ from s51];omega) (by rw[show bS a0 51=_ from s51,e13];omega) (by rw[show shl .u64 a1 13=_ from l13,show bS a0 51=_ from s51];omega)
  rw[js,e,show shl .u64 a1 13=_ from l13,show bS a0 51=_ from s51];omega
 have o2:bD .u64 (bS a1 38) (shl .u64 a2 26)=a1/274877906944+a2*67108864%18446744073709551616:=by
  have e:bD .u64 (shl .u64 a2 26) (bS a1 38)=shl .u64 a2 26+bS a1 38:=pc (m:=26) (by rw[show shl .u64 a2 26=_ from l26];omega) (by rw[show shl .u64 a2 26=_ from l26,e26];omega) (by rw[show bS a1 38=_ from s38];omega) (by rw[show bS a1 38=_ from s38,e26];omega) (by rw[show shl .u64 a2 26=_ from l26,show bS a1 38=_ from s38];omega)
  rw[js,e,show shl .u64 a2 26=_ from l26,show bS a1 38=_ from s38];omega
 have o3:bD .u64 (bS a2 25) (shl .u64 a3 39)=a2/33554432+a3*549755813888%18446744073709551616:=by
  have e:bD .u64 (shl .u64 a3 39) (bS a2 25)=shl .u64 a3 39+bS a2 25:=pc (m:=39) (by rw[show shl .u64 a3 39=_ from l39];omega) (by rw[show shl .u64 a3 39=_ from l39,e39];omega) (by rw[show bS a2 25=_ from s25];omega) (by rw[show bS a2 25=_ from s25,e39];omega) (by rw[show shl .u64 a3 39=_ from l39,show bS a2 25=_ from s25];omega)
  rw[js,e,show shl .u64 a3 39=_ from l39,show bS a2 25=_ from s25];omega
 rw[o1,o2,o3,show bS a3 12=_ from s12]
 simp only[wG]
 constructor
 ·simp only[fN,LQ];omega
 ·simp only[fC];omega
end Go.Proofs.YtjalaohajcpllaaGreat
namespace BJ
theorem F.pow_add (a:F) (m n:Nat):F.pow a (m+n)=F.pow a m*F.pow a n:=by
 induction n with
 |zero=>rw[Nat.add_zero,F.pow_zero];grobner
 |succ n ih=>rw[← Nat.add_assoc,F.pow_succ,ih,F.pow_succ];grobner
theorem F.CR (a:F) (m:Nat):F.pow a (2*m)=F.pow a m*F.pow a m:=by rw[Nat.two_mul,F.pow_add]
theorem F.pow_one (a:F):F.pow a 1=a:=by rw[F.pow_succ,F.pow_zero];grobner
def rootOf (a:F):F×Bool:=
 let r:=F.pow a ((pp+3)/8)
 let r1:=if r*r=a then r else r*F.pow 2 ((pp-1)/4)
 if r1*r1=a then (if r1.val%2=1 then-r1 else r1,true) else (0,false)
def n7 (u v:F):F×Bool:=if v=0 then (0,decide (u=0)) else rootOf (u*F.inv v)
end BJ
namespace Go.Proofs.YtjalaohajcpllaaGreat
open Go Go.Ev BJ
theorem LY (g:Int→Int): ∀ {n:Nat} {v:Vec Int (n+1)},rU v→(∀ x,0≤x→x<256→0≤g x∧g x<256)→
  rU (Vec.zk g n v)∧dx (Vec.zk g n v)=dx v-v.get n*(256 ^ n:Nat)+g (v.get n)*(256 ^ n:Nat)
 |0,v,h,hg=>by
  obtain ⟨x,u⟩:=v
  refine ⟨⟨hg x h.1.1 h.1.2,h.2⟩,?_⟩
  show g x+256*0=x+256*0-x*((256 ^ 0:Nat):Int)+g x*((256 ^ 0:Nat):Int)
  rw[Nat.pow_zero];omega
 |n+1,v,h,hg=>by
  obtain ⟨x,u⟩:=v
  obtain ⟨h1,h2⟩:=LY g (n:=n) (v:=u) h.2 hg
  refine ⟨⟨h.1,h1⟩,?_⟩
  show x+256*dx (Vec.zk g n u)=x+256*dx u-Vec.get u n*((256 ^ (n+1):Nat):Int)+g (Vec.get u n)*((256 ^ (n+1):Nat):Int)
  rw[h2]
  have e2:(256 ^ (n+1):Nat)=256*256 ^ n:=by rw[Nat.pow_succ,Nat.mul_comm]
  rw[e2,Int.natCast_mul]
  have sw: ∀ a b:Int,a*(((256:Nat):Int)*b)=256*(a*b):=fun a b=>by rw[← Int.mul_assoc,Int.mul_comm a,Int.mul_assoc];rfl
  rw[sw,sw];omega
theorem aoI:(256 ^ 31:Nat)=452312848583266388373324160190187140051835877600158453279131187530910662656:=by decide
theorem aj6 {b:fM} (h:rU b):fN (n5 b)∧fe (n5 b)=dp (dx b%57896044618658097711785492504343953926634992332820282019728792003956564819968):=by
 obtain ⟨h1,h2⟩:=afy h
 exact ⟨h1,by unfold fe;rw[h2]⟩
noncomputable abbrev mulC:Fe→Fe→Fe:=sX bs bB cO
theorem UQ {e:fM} (h:rU e) {i:Nat} (hi:i<256):ET e i=decide ((dx e).toNat/2 ^ i%2=1):=by
 have hV:=eM h
 unfold ET
 have e1:shr .u8 (e.get (i/8)) ((i%8:Nat):Int)=e.get (i/8)/(2 ^ (i%8):Nat):=eX .u8 _ _ (by show i%8≤8;omega)
 rw[e1,NF (m:=1) (by decide) _ 1 (by decide),wK h (by omega)]
 obtain ⟨N,hN⟩:=Int.eq_ofNat_of_zero_le hV
 rw[hN]
 have key:(((N:Int)/(256 ^ (i/8):Nat)%256/(2 ^ (i%8):Nat)%(2 ^ 1:Nat)==1)=true)↔N/2 ^ i%2=1:=by
  rw[beq_iff_eq]
  have e2:(2 ^ i:Nat)=256 ^ (i/8)*2 ^ (i%8):=by
   rw[show (256:Nat)=2 ^ 8 from rfl,← Nat.pow_mul,← Nat.pow_add];congr 1;omega
  rw[e2,← Nat.div_div_eq_div_mul,← Int.natCast_ediv]
  generalize N/256 ^ (i/8)=W at*
  have h8:i%8<8:=Nat.mod_lt _ (by decide)
  generalize i%8=m at*
  have hm:m=0∨m=1∨m=2∨m=3∨m=4∨m=5∨m=6∨m=7:=by omega
  rcases hm with rfl|rfl|rfl|rfl|rfl|rfl|rfl|rfl<;>simp<;>omega
 rw[Int.toNat_natCast]
 by_cases hb:N/2 ^ i%2=1
 ·rw[decide_eq_true hb];exact key.2 hb
 ·rw[decide_eq_false hb];exact Bool.eq_false_iff.2 fun e=>hb (key.1 e)
theorem yl {x:Fe} (hx:fN x):fN (mulC x x)∧fe (mulC x x)=fe x*fe x:=yj hx hx
noncomputable def powC (x:Fe) (e:fM):Fe:=amy bc (fun x=>mulC x x) mulC x e
theorem LZ {n:Nat} {b:Bool} {p:Prop} [Decidable p] (h:b=decide p) (v u:Vec Int n):kL b v u=if p then v else u:=by
 rw[ez,h];by_cases hp:p<;>simp[hp]
theorem Rr {x:Fe} {e:fM} (hx:fN x) (he:rU e):fN (powC x e)∧fe (powC x e)=F.pow (fe x) (dx e).toNat:=by
 have hV:=eM he
 have hV2:=wI he
 obtain ⟨N,hN⟩:=Int.eq_ofNat_of_zero_le hV
 have key: ∀ k,k≤256→fN (je (fQ (fun x=>mulC x x) mulC x e) k (bc 1))∧fe (je (fQ (fun x=>mulC x x) mulC x e) k (bc 1))=F.pow (fe x) (N/2 ^ (256-k)):=by
  intro k
  induction k with
  |zero=>
   intro _
   obtain ⟨h1,h2⟩:=qc (n:=1) ⟨by decide,by decide⟩
   refine ⟨h1,?_⟩
   have aoJ:(256 ^ 32:Nat)=2 ^ 256:=by rw[show (256:Nat)=2 ^ 8 from rfl,← Nat.pow_mul]
   have:N/2 ^ (256-0)=0:=Nat.div_eq_of_lt (by rw[hN] at hV2;rw[Nat.sub_zero,← aoJ];omega)
   rw[this,F.pow_zero]
   exact h2.trans UO
  |succ k ih=>
   intro hk
   obtain ⟨h1,h2⟩:=ih (by omega)
   show fN (fQ (fun x=>mulC x x) mulC x e k _)∧fe (fQ (fun x=>mulC x x) mulC x e k _)=_
   generalize je (fQ (fun x=>mulC x x) mulC x e) k (bc 1)=r at*
   obtain ⟨s1,s2⟩:=yl h1
   obtain ⟨m1,m2⟩:=yj s1 hx
   unfold fQ
   rw[LZ (UQ he (i:=255-k) (by omega)),hN,Int.toNat_natCast]
   have hdiv:N/2 ^ (256-k)=N/2 ^ (256-(k+1))/2:=by
    rw[Nat.div_div_eq_div_mul,← Nat.pow_succ];congr 2;omega
   rw[hdiv] at h2
   have awx:255-k=256-(k+1):=by omega
   rw[awx]
   generalize N/2 ^ (256-(k+1))=M at*
   split
   ·rename_i hb
    refine ⟨m1,?_⟩
    show fe (mulC (mulC r r) x)=_
    rw[m2,s2,h2]
    have:M=2*(M/2)+1:=by omega
    conv=>rhs;rw[this]
    rw[F.pow_succ,F.CR]
   ·rename_i hb
    refine ⟨s1,?_⟩
    show fe (mulC r r)=_
    rw[s2,h2]
    have:M=2*(M/2):=by omega
    conv=>rhs;rw[this]
    rw[F.CR]
 have:=key 256 (by omega)
 rw[hN,Int.toNat_natCast]
 have e:N/2 ^ (256-256)=N:=by simp
 rw[e] at this
 unfold powC amy
 exact this
theorem CS {f:Nat→Int}: ∀ {n:Nat},(∀ i,i<n→0≤f i∧f i<256)→rU (Vec.ofFn n f)
 |0,_=>trivial
 |n+1,h=>⟨h 0 (by omega),CS (n:=n) fun i hi=>h (i+1) (by omega)⟩
theorem Iu {lo hi:Int} (h1:0≤lo∧lo<256) (h2:0≤hi∧hi<256):rU (iK lo hi):=CS fun i _=>by
 show 0≤(if i=0 then lo else if i=31 then hi else 255)∧(if i=0 then lo else if i=31 then hi else 255)<256
 split
 ·exact h1
 ·split
  ·exact h2
  ·omega
theorem aj7:(dx (iK 235 127)).toNat=pp-2:=by decide+kernel
theorem afz:(dx (iK 254 15)).toNat=(pp+3)/8:=by decide+kernel
theorem aoK:(dx (iK 251 31)).toNat=(pp-1)/4:=by decide+kernel
noncomputable def jO (x:Fe):Fe:=powC x (iK 235 127)
theorem Rs {x:Fe} (hx:fN x):fN (jO x)∧fe (jO x)=F.inv (fe x):=by
 obtain ⟨h1,h2⟩:=Rr hx (Iu (lo:=235) (hi:=127) (by omega) (by omega))
 rw[aj7] at h2
 exact ⟨h1,h2⟩
noncomputable def jP:Fe→Fe→Fe:=UL cO
noncomputable def kZ:Fe→Fe→Fe:=LP cO
noncomputable def CT (x:Fe):Fe:=kZ dQ x
noncomputable def Rt (x y:Fe):Bool:=eqV (fg x) (fg y)
noncomputable def qd:Fe→Bool:=afj fg
noncomputable def fh (x:Fe):Bool:=Rt x dQ
noncomputable def m8:Fe→Fe×Bool:=CK powC iK mulC (fun x=>mulC x x) CT bc Rt qd
noncomputable def lX:Fe→Fe→Fe×Bool:=fun u v=>(kL (fh v) dQ (m8 (mulC u (jO v))).1,bif fh v then fh u else (m8 (mulC u (jO v))).2)
theorem aoL {x:Fe} (hx:fN x):fN (CT x)∧fe (CT x)= -fe x:=by
 obtain ⟨h1,h2⟩:=afq jh.1 hx
 refine ⟨h1,?_⟩
 show fe (LP cO dQ x)=_
 rw[h2,jh.2];grobner
theorem EX {x:Fe} (hx:fN x):fh x=decide (fe x=0):=by
 unfold fh Rt;rw[CQ hx jh.1,jh.2]
theorem aj8 {x:Fe} (hx:fN x):fN (m8 x).1∧fe (m8 x).1=(rootOf (fe x)).1∧(m8 x).2=(rootOf (fe x)).2:=by
 obtain ⟨r1,r2⟩:=Rr hx (Iu (lo:=254) (hi:=15) (by omega) (by omega))
 rw[afz] at r2
 obtain ⟨t1,t2⟩:=qc (n:=2) ⟨by decide,by decide⟩
 obtain ⟨i1,i2⟩:=Rr t1 (Iu (lo:=251) (hi:=31) (by omega) (by omega))
 have t3:dp 2=2:=by decide+kernel
 rw[aoK,t2,t3] at i2
 unfold m8 CK
 simp only[X3]
 obtain ⟨s1,s2⟩:=yl r1
 obtain ⟨m1,m2⟩:=yj r1 i1
 have q1:Rt (mulC (powC x (iK 254 15)) (powC x (iK 254 15))) x=decide (F.pow (fe x) ((pp+3)/8)*F.pow (fe x) ((pp+3)/8)=fe x):=by
  unfold Rt;rw[CQ s1 hx,s2,r2]
 generalize hR:kL (!Rt (mulC (powC x (iK 254 15)) (powC x (iK 254 15))) x) (mulC (powC x (iK 254 15)) (powC (bc 2) (iK 251 31))) (powC x (iK 254 15))=R
 have hR1:fN R∧fe R=if F.pow (fe x) ((pp+3)/8)*F.pow (fe x) ((pp+3)/8)=fe x then F.pow (fe x) ((pp+3)/8) else F.pow (fe x) ((pp+3)/8)*F.pow 2 ((pp-1)/4):=by
  rw[← hR,q1,ez]
  by_cases hq:F.pow (fe x) ((pp+3)/8)*F.pow (fe x) ((pp+3)/8)=fe x
  ·rw[decide_eq_true hq,if_pos hq];exact ⟨r1,r2⟩
  ·rw[decide_eq_false hq,if_neg hq];exact ⟨m1,by show fe (mulC _ _)=_;rw[m2,r2,i2]⟩
 obtain ⟨hR1,hR2⟩:=hR1
 obtain ⟨u1,u2⟩:=yl hR1
 have q2:Rt (mulC R R) x=decide (fe R*fe R=fe x):=by unfold Rt;rw[CQ u1 hx,u2]
 obtain ⟨n1,n2⟩:=aoL hR1
 have ho:qd R=decide ((fe R).val%2=1):=afw hR1
 rw[q2,ho,ez,ez]
 have asS:rootOf (fe x)=if fe R*fe R=fe x then (if (fe R).val%2=1 then-fe R else fe R,true) else (0,false):=by
  unfold rootOf;rw[hR2]
 rw[asS]
 by_cases h1:fe R*fe R=fe x
 ·rw[decide_eq_true h1,if_pos h1]
  by_cases h2:(fe R).val%2=1
  ·rw[decide_eq_true h2,if_pos h2];exact ⟨n1,n2,rfl⟩
  ·rw[decide_eq_false h2,if_neg h2];exact ⟨hR1,rfl,rfl⟩
 ·rw[decide_eq_false h1,if_neg h1];exact ⟨jh.1,jh.2,rfl⟩
end Go.Proofs.YtjalaohajcpllaaGreat
namespace Go.Proofs.YtjalaohajcpllaaGreat
open Go Go.Ev BJ
theorem Ru (bv bu:Bool) (fu:F) (z:Fe×Bool) (y:F×Bool) (v:F) (hz1:bv=decide (v=0)) (hz2:bu=decide (fu=0)) (s1:fN z.1) (s2:fe z.1=y.1) (s3:z.2=y.2):
  fN (kL bv dQ z.1)∧fe (kL bv dQ z.1)=(if v=0 then ((0:F),decide (fu=0)) else y).1∧(bif bv then bu else z.2)=(if v=0 then ((0:F),decide (fu=0)) else y).2:=by
 rw[ez]
 by_cases h:v=0
 ·rw[if_pos h,hz1,decide_eq_true h];exact ⟨jh.1,jh.2,hz2⟩
 ·rw[if_neg h,hz1,decide_eq_false h];exact ⟨s1,s2,s3⟩
theorem afA {u v:Fe} (hu:fN u) (hv:fN v):fN (lX u v).1∧fe (lX u v).1=(n7 (fe u) (fe v)).1∧(lX u v).2=(n7 (fe u) (fe v)).2:=by
 have hi:=Rs hv
 have hm:=yj hu hi.1
 have hs:=aj8 hm.1
 have e:fe (sX bs bB cO u (jO v))=fe u*F.inv (fe v):=hm.2.trans (by rw[hi.2])
 rw[e] at hs
 exact Ru _ _ (fe u) _ _ (fe v) (EX hv) (EX hu) hs.1 hs.2.1 hs.2.2
end Go.Proofs.YtjalaohajcpllaaGreat
namespace BJ
abbrev E4:=F×F×F×F
def zg (x y:F):E4:=(x,y,1,x*y)
def rV:E4:=zg 0 1
def CU (p q:E4):E4:=
 let a:=(p.2.1-p.1)*(q.2.1-q.1)
 let b:=(p.2.1+p.1)*(q.2.1+q.1)
 let c:=p.2.2.2*q.2.2.2*dd+p.2.2.2*q.2.2.2*dd
 let d:=p.2.2.1*q.2.2.1+p.2.2.1*q.2.2.1
 ((b-a)*(d-c),(d+c)*(b+a),(d-c)*(d+c),(b-a)*(b+a))
def n9 (y:F):F×Bool:=n7 (y*y-1) (dd*(y*y)+1)
def L0:E4:=zg (n9 (4*F.inv 5)).1 (4*F.inv 5)
end BJ
namespace Go.Proofs.YtjalaohajcpllaaGreat
open Go Go.Ev BJ
def Ok4 (p:Pt):Prop:=fN p.2.1∧fN p.2.2.1∧fN p.2.2.2.1∧fN p.2.2.2.2
def zh (p:Pt):Prop:=p.1=true→Ok4 p
noncomputable def ptF (p:Pt):E4:=(fe p.2.1,fe p.2.2.1,fe p.2.2.2.1,fe p.2.2.2.2)
noncomputable def UR (p:Pt):E4:=if p.1=true then ptF p else rV
noncomputable def jB:Fe:=n5 mZ
theorem At:fN jB∧fe jB=dd:=by
 have hb:rU mZ:=by simp[mZ,rU]
 obtain ⟨h1,h2⟩:=aj6 hb
 refine ⟨h1,h2.trans ?_⟩
 decide+kernel
noncomputable def gL:Fe→Fe→Pt:=afm mulC bc
theorem sZ:fN (bc 1)∧fe (bc 1)=1:=by
 obtain ⟨h1,h2⟩:=qc (n:=1) ⟨by decide,by decide⟩
 exact ⟨h1,h2.trans UO⟩
theorem EY {x y:Fe} (hx:fN x) (hy:fN y):(gL x y).1=true∧Ok4 (gL x y)∧ptF (gL x y)=zg (fe x) (fe y):=by
 obtain ⟨m1,m2⟩:=yj hx hy
 obtain ⟨o1,o2⟩:=sZ
 refine ⟨rfl,⟨hx,hy,o1,m1⟩,?_⟩
 show (fe x,fe y,fe (bc 1),fe (mulC x y))=_
 rw[o2,m2];rfl
noncomputable def iL:Pt:=gL dQ (bc 1)
theorem US:iL.1=true∧Ok4 iL∧ptF iL=rV:=by
 obtain ⟨h1,h2,h3⟩:=EY jh.1 sZ.1
 refine ⟨h1,h2,h3.trans ?_⟩
 rw[jh.2,sZ.2];rfl
noncomputable def fV:Pt→Pt:=afn iL
theorem Rv {p:Pt} (h:zh p):(fV p).1=true∧Ok4 (fV p)∧ptF (fV p)=UR p:=by
 unfold fV afn
 rw[wF]
 unfold UR
 cases hp:p.1 with
 |false=>simp only[Bool.not_false,cond_true,Bool.false_eq_true,if_false];exact US
 |true=>simp only[Bool.not_true,cond_false,if_true];exact ⟨hp,h hp,trivial⟩
theorem afB {p:Pt} (h1:p.1=true) (h2:Ok4 p):zh p∧UR p=ptF p:=⟨fun _=>h2,if_pos h1⟩
noncomputable def oa:Fe→Fe→Fe→Fe→Pt:=ajY mulC
noncomputable def eD:Pt→Pt→Pt:=addFn mulC jP kZ jB fV oa
theorem ob {x y:Fe} (hx:fN x) (hy:fN y):fN (jP x y)∧fe (jP x y)=fe x+fe y:=aoG hx hy
theorem wN {x y:Fe} (hx:fN x) (hy:fN y):fN (kZ x y)∧fe (kZ x y)=fe x-fe y:=afq hx hy
theorem fS {x y:Fe} (hx:fN x) (hy:fN y):fN (mulC x y)∧fe (mulC x y)=fe x*fe y:=yj hx hy
theorem afC {e f g h:Fe} (he:fN e) (hf:fN f) (hg:fN g) (hh:fN h):(oa e f g h).1=true∧Ok4 (oa e f g h)∧ptF (oa e f g h)=(fe e*fe f,fe g*fe h,fe f*fe g,fe e*fe h):=by
 obtain ⟨a1,a2⟩:=fS he hf
 obtain ⟨b1,b2⟩:=fS hg hh
 obtain ⟨c1,c2⟩:=fS hf hg
 obtain ⟨d1,d2⟩:=fS he hh
 refine ⟨rfl,⟨a1,b1,c1,d1⟩,?_⟩
 show (fe (mulC e f),fe (mulC g h),fe (mulC f g),fe (mulC e h))=_
 rw[a2,b2,c2,d2]
theorem afD {p q:Pt} (hp:Ok4 p) (hq:Ok4 q):
  let r:=oa (kZ (mulC (jP p.2.2.1 p.2.1) (jP q.2.2.1 q.2.1)) (mulC (kZ p.2.2.1 p.2.1) (kZ q.2.2.1 q.2.1)))
   (kZ (jP (mulC p.2.2.2.1 q.2.2.2.1) (mulC p.2.2.2.1 q.2.2.2.1)) (jP (mulC (mulC p.2.2.2.2 q.2.2.2.2) jB) (mulC (mulC p.2.2.2.2 q.2.2.2.2) jB)))
   (jP (jP (mulC p.2.2.2.1 q.2.2.2.1) (mulC p.2.2.2.1 q.2.2.2.1)) (jP (mulC (mulC p.2.2.2.2 q.2.2.2.2) jB) (mulC (mulC p.2.2.2.2 q.2.2.2.2) jB)))
   (jP (mulC (jP p.2.2.1 p.2.1) (jP q.2.2.1 q.2.1)) (mulC (kZ p.2.2.1 p.2.1) (kZ q.2.2.1 q.2.1)))
  r.1=true∧Ok4 r∧ptF r=CU (ptF p) (ptF q):=by
 obtain ⟨px,py,pz,pt⟩:=hp
 obtain ⟨qx,qy,qz,qt⟩:=hq
 have a1:=wN py px
 have a2:=wN qy qx
 have a:=fS a1.1 a2.1
 have b1:=ob py px
 have b2:=ob qy qx
 have b:=fS b1.1 b2.1
 have c1:=fS pt qt
 have c2:=fS c1.1 At.1
 have c:=ob c2.1 c2.1
 have d1:=fS pz qz
 have d:=ob d1.1 d1.1
 have e:=wN b.1 a.1
 have f:=wN d.1 c.1
 have g:=ob d.1 c.1
 have h:=ob b.1 a.1
 obtain ⟨r1,r2,r3⟩:=afC e.1 f.1 g.1 h.1
 refine ⟨r1,r2,r3.trans ?_⟩
 rw[e.2,f.2,g.2,h.2,d.2,c.2,b.2,a.2,d1.2,c2.2,c1.2,b1.2,b2.2,a1.2,a2.2,At.2]
 rfl
theorem afE {p q:Pt} (hp:zh p) (hq:zh q):zh (eD p q)∧(eD p q).1=true∧UR (eD p q)=CU (UR p) (UR q):=by
 obtain ⟨p1,p2,p3⟩:=Rv hp
 obtain ⟨q1,q2,q3⟩:=Rv hq
 obtain ⟨r1,r2,r3⟩:=afD p2 q2
 rw[p3,q3] at r3
 obtain ⟨s1,s2⟩:=afB r1 r2
 exact ⟨s1,r1,s2.trans r3⟩
end Go.Proofs.YtjalaohajcpllaaGreat
namespace Go.Proofs.YtjalaohajcpllaaGreat
open Go Go.Ev BJ
noncomputable def ym (b:fM):fM:=Vec.zk (fun x=>x+128) 31 b
noncomputable def asT (p:E4):fM:=if (p.1*F.inv p.2.2.1).val%2=1 then ym (fO (p.2.1*F.inv p.2.2.1)) else fO (p.2.1*F.inv p.2.2.1)
abbrev wO:Int:=57896044618658097711785492504343953926634992332820282019728792003956564819968
noncomputable def asU (b:fM):E4×Bool:=
 let y:=dp (dx b%wO)
 let x:=(n9 y).1
 if (n9 y).2=true∧dx b%wO<(pp:Int)∧ ¬ (128≤b.get 31∧x=0) then (zg (if 128≤b.get 31 then-x else x) y,true) else (rV,false)
theorem yn {f g:Int→Int}: ∀ {n i:Nat} {v:Vec Int n},f (v.get i)=g (v.get i)→Vec.zk f i v=Vec.zk g i v
 |0,_,_,_=>rfl
 |n+1,0,v,h=>by
  show (f v.1,v.2)=(g v.1,v.2)
  rw[show f v.1=g v.1 from h]
 |n+1,i+1,v,h=>by
  show (v.1,Vec.zk f i v.2)=(v.1,Vec.zk g i v.2)
  rw[yn (n:=n) (i:=i) (v:=v.2) h]
theorem yo (a:F):0≤(fO a).get 31∧(fO a).get 31<128:=by
 obtain ⟨h1,h2⟩:=kM a
 rw[wK h1 (by decide),h2,aoI]
 have:=a.isLt
 simp only[pp] at this
 omega
noncomputable def y6:Fe→Fe×Bool:=fun y=>lX (kZ (mulC y y) (bc 1)) (jP (mulC jB (mulC y y)) (bc 1))
theorem aj9 {y:Fe} (hy:fN y):fN (y6 y).1∧fe (y6 y).1=(n9 (fe y)).1∧(y6 y).2=(n9 (fe y)).2:=by
 have s:=fS hy hy
 have a:=wN s.1 sZ.1
 have m:=fS At.1 s.1
 have b:=ob m.1 sZ.1
 have r:=afA a.1 b.1
 have e1:fe (kZ (mulC y y) (bc 1))=fe y*fe y-1:=by rw[a.2,s.2,sZ.2]
 have e2:fe (jP (mulC jB (mulC y y)) (bc 1))=dd*(fe y*fe y)+1:=by rw[b.2,m.2,s.2,sZ.2,At.2]
 rw[e1,e2] at r
 exact r
noncomputable def qe:Pt:=gL (y6 (mulC (bc 4) (jO (bc 5)))).1 (mulC (bc 4) (jO (bc 5)))
theorem t4:dp 4=4:=by decide+kernel
theorem t5:dp 5=5:=by decide+kernel
theorem aka:qe.1=true∧Ok4 qe∧ptF qe=L0:=by
 have h4:=qc (n:=4) ⟨by decide,by decide⟩
 have h5:=qc (n:=5) ⟨by decide,by decide⟩
 have i:=Rs h5.1
 have m:=fS h4.1 i.1
 have r:=aj9 m.1
 have e:fe (mulC (bc 4) (jO (bc 5)))=4*F.inv 5:=by rw[m.2,i.2,h4.2,h5.2,t4,t5]
 have a:=EY r.1 m.1
 refine ⟨a.1,a.2.1,a.2.2.trans ?_⟩
 rw[r.2.1,e];rfl
noncomputable def jf:Pt→Fe×Fe:=ajX mulC jO fV
noncomputable def wP:Pt→fM:=CL qd fg jf
theorem afF {n:Nat} {p:Prop} [Decidable p] (v u:Vec Int n):kL (decide p) v u=if p then v else u:=LZ rfl v u
theorem X7 {p:Pt} (hp:zh p):wP p=asT (UR p):=by
 obtain ⟨p1,p2,p3⟩:=Rv hp
 have i:=Rs p2.2.2.1
 have x:=fS p2.1 i.1
 have y:=fS p2.2.1 i.1
 unfold wP CL
 have ex:(jf p).1=mulC (fV p).2.1 (jO (fV p).2.2.2.1):=rfl
 have ey:(jf p).2=mulC (fV p).2.2.1 (jO (fV p).2.2.2.1):=rfl
 simp only[ex,ey]
 have ho:qd (mulC (fV p).2.1 (jO (fV p).2.2.2.1))=decide ((fe (mulC (fV p).2.1 (jO (fV p).2.2.2.1))).val%2=1):=afw x.1
 rw[ho,afF,wJ y.1,x.2,y.2,i.2]
 have hb:=yo (fe (fV p).2.2.1*F.inv (fe (fV p).2.2.2.1))
 have hu:Vec.zk (fun x=>bD .u8 x 128) 31 (fO (fe (fV p).2.2.1*F.inv (fe (fV p).2.2.2.1)))=ym (fO (fe (fV p).2.2.1*F.inv (fe (fV p).2.2.2.1))):=by
  refine yn ?_
  generalize Vec.get (fO (fe (fV p).2.2.1*F.inv (fe (fV p).2.2.2.1))) 31=z at*
  show bD .u8 z 128=z+128
  rw[js,alU (m:=7) (by omega) (by decide) hb.1 (by omega) (by omega)];omega
 rw[hu,← p3];rfl
def X8 (V:Nat) (i:Nat):Bool:=decide (V/2 ^ i%2=1)
noncomputable def kN (V:Nat) (p:E4) (k:Nat) (r:E4):E4:=if X8 V (255-k)=true then CU (CU r r) p else CU r r
noncomputable def L1 (V:Nat) (p:E4):E4:=je (kN V p) 256 rV
theorem X9 {e:fM} (h:rU e) {i:Nat} (hi:i<256):(p9 e i==1)=X8 (dx e).toNat i:=by
 have h1:=UQ h hi
 unfold ET at h1
 unfold X8 p9
 rw[← h1]
 have e1:shr .u8 (e.get (i/8)) ((i%8:Nat):Int)=e.get (i/8)/(2 ^ (i%8):Nat):=eX .u8 _ _ (by show i%8≤8;omega)
 rw[e1,NF (m:=1) (by decide) _ 1 (by decide),wrap_i64 (by omega) (by omega)]
noncomputable def dm (p:Pt):Pt:=eD p p
noncomputable def CV:fM→Pt→Pt:=afo p9 iL dm eD
theorem akb {n:fM} {p:Pt} (hn:rU n) (hp:zh p):zh (CV n p)∧UR (CV n p)=L1 (dx n).toNat (UR p):=by
 have key: ∀ k,k≤256→zh (je (iD p9 dm eD n p) k iL)∧UR (je (iD p9 dm eD n p) k iL)=je (kN (dx n).toNat (UR p)) k rV:=by
  intro k
  induction k with
  |zero=>
   intro _
   obtain ⟨z1,z2,z3⟩:=US
   obtain ⟨o1,o2⟩:=afB z1 z2
   exact ⟨o1,o2.trans z3⟩
  |succ k ih=>
   intro hk
   obtain ⟨h1,h2⟩:=ih (by omega)
   show zh (iD p9 dm eD n p k _)∧UR (iD p9 dm eD n p k _)=kN _ _ k _
   rw[← h2]
   generalize je (iD p9 dm eD n p) k iL=r at*
   obtain ⟨d1,_,d3⟩:=afE h1 h1
   obtain ⟨a1,_,a3⟩:=afE d1 hp
   unfold iD kN
   rw[wF,X9 hn (by omega)]
   cases X8 (dx n).toNat (255-k)
   ·exact ⟨d1,d3⟩
   ·refine ⟨a1,?_⟩
    rw[if_pos rfl,← d3];exact a3
 exact key 256 (by omega)
end Go.Proofs.YtjalaohajcpllaaGreat
namespace Go.Proofs.YtjalaohajcpllaaGreat
open Go Go.Ev BJ
theorem wQ (x y:Fe): ∀ (l:List (Nat×Nat)) (r:List (Int×Int)),(∀ k,0≤(r.getD k (0,0)).2∧(r.getD k (0,0)).2<18446744073709551616)→ ∀ p∈(gx bs bB x y l r).2,p
 | [],r,_,p,hp=>by simp[gx] at hp
 |(i,j)::l,r,hr,p,hp=>by
  have JB:(gx bs bB x y ((i,j)::l) r).2=(0≤(bB (r.getD ((i+j)%5) (0,0)).2 (bs (ff x i j) (y.get j)).2 0).2∧(bB (r.getD ((i+j)%5) (0,0)).2 (bs (ff x i j) (y.get j)).2 0).2≤1)::
   (gx bs bB x y l (r.set ((i+j)%5) ((bB (r.getD ((i+j)%5) (0,0)).1 (bs (ff x i j) (y.get j)).1 (bB (r.getD ((i+j)%5) (0,0)).2 (bs (ff x i j) (y.get j)).2 0).2).1,(bB (r.getD ((i+j)%5) (0,0)).2 (bs (ff x i j) (y.get j)).2 0).1))).2:=rfl
  rw[JB] at hp
  have h0:=hr ((i+j)%5)
  generalize (r.getD ((i+j)%5) (0,0))=q at*
  have hm:0≤(bs (ff x i j) (y.get j)).2∧(bs (ff x i j) (y.get j)).2<18446744073709551616:=by
   show 0≤dV (ff x i j*y.get j)∧dV (ff x i j*y.get j)<18446744073709551616
   unfold dV;rw[mB];omega
  have hs:=kc h0.1 hm.1 (c:=0) (by omega)
  rcases List.mem_cons.1 hp with rfl|hp
  ·rw[hs]
   show 0≤(q.2+(bs (ff x i j) (y.get j)).2+0)/18446744073709551616∧(q.2+(bs (ff x i j) (y.get j)).2+0)/18446744073709551616≤1
   omega
  ·refine wQ x y l _ (fun k=>?_) p hp
   have me: ∀ (v:Int×Int) (a k:Nat),(r.set a v).getD k (0,0)=r.getD k (0,0)∨(r.set a v).getD k (0,0)=v:=by
    intro v a k
    simp only[List.getD_eq_getElem?_getD,List.getElem?_set]
    split
    ·split
     ·exact .inr rfl
     ·rename_i e h;subst e;left;rw[List.getElem?_eq_none (by omega)]
    ·exact .inl rfl
   rcases me _ ((i+j)%5) k with e|e
   ·rw[e];exact hr k
   ·rw[e,hs]
    show 0≤(q.2+(bs (ff x i j) (y.get j)).2+0)%18446744073709551616∧(q.2+(bs (ff x i j) (y.get j)).2+0)%18446744073709551616<18446744073709551616
    omega
noncomputable def afG:Fe→Fe:=wD cO
end Go.Proofs.YtjalaohajcpllaaGreat
namespace Go.Proofs.YtjalaohajcpllaaGreat
open Go Go.Ev BJ
end Go.Proofs.YtjalaohajcpllaaGreat
namespace Go.Proofs.YtjalaohajcpllaaGreat
open Go Go.Ev BJ
end Go.Proofs.YtjalaohajcpllaaGreat
namespace Go.Proofs.YtjalaohajcpllaaGreat
open Go Go.Ev BJ
set_option maxRecDepth 100000
theorem Rw (a:F):0≤(a.val:Int)∧(a.val:Int)<(pp:Int):=⟨by omega,by have:=a.isLt;omega⟩
theorem aoM (a:F):dp (a.val:Int)=a:=CM (by rw[fR,Int.emod_eq_of_lt (Rw a).1 (Rw a).2])
def asV (f:Nat→Int):Nat→Int
 |0=>0
 |n+1=>asV f n+f n
def conv (f g:Nat→Int) (n j:Nat):Int:=asV (fun i=>if i≤j∧j-i<16 then f i*g (j-i) else 0) n
end Go.Proofs.YtjalaohajcpllaaGreat
end
section
namespace Go.Proofs.YtjalaohajcpllaaGreat
open Go Go.Ev BJ
set_option maxRecDepth 1000000
section
variable (base zero:Pt) (encode:Pt→fM) (decode:fM→Pt×Bool) (afl:Pt→Pt→Pt) (equal:Pt→Pt→Bool) (alive:Bool)
end
end Go.Proofs.YtjalaohajcpllaaGreat
namespace BJ
def F.akc (a:F) (e:Nat):F:=⟨pm pp 256 a.val e%pp,Nat.mod_lt _ (by decide)⟩
theorem F.UT (a:F) {e:Nat} (he:e<2 ^ 256):F.pow a e=F.akc a e:=by
 apply Fin.ext
 show a.val ^ e%pp=pm pp 256 a.val e%pp
 rw[UJ pp 256 a.val e he,Nat.mod_mod]
def F.asW (a:F):F:=F.akc a (pp-2)
theorem F.amC (a:F):F.inv a=F.asW a:=F.UT a (by decide)
def afH (a:F):F×Bool:=
 let r:=F.akc a ((pp+3)/8)
 let r1:=if r*r=a then r else r*F.akc 2 ((pp-1)/4)
 if r1*r1=a then (if r1.val%2=1 then-r1 else r1,true) else (0,false)
theorem aoN (a:F):rootOf a=afH a:=by
 unfold rootOf afH
 rw[F.UT a (by decide),F.UT 2 (by decide)]
def asX (y:F):F×Bool:=if dd*(y*y)+1=0 then (0,decide (y*y-1=0)) else afH ((y*y-1)*F.asW (dd*(y*y)+1))
theorem asY (y:F):n9 y=asX y:=by
 unfold n9 n7 asX
 rw[aoN,F.amC]
def rW:F:=46316835694926478169428394003475163141307993866256225615783033603165251855960
def wR:F:=15112221349535400772501151409588531511454012693041857206046113283949847762202
theorem afI:4*F.inv 5=rW:=by rw[F.amC];decide+kernel
theorem afJ:n9 rW=(wR,true):=by rw[asY];decide+kernel
theorem afK:L0=zg wR rW:=by
 unfold L0
 rw[afI,afJ]
end BJ
namespace Go.Proofs.YtjalaohajcpllaaGreat
open Go Go.Ev BJ
theorem UU:zh qe∧UR qe=L0:=by
 obtain ⟨h1,h2,h3⟩:=aka
 obtain ⟨o1,o2⟩:=afB h1 h2
 exact ⟨o1,o2.trans h3⟩
end Go.Proofs.YtjalaohajcpllaaGreat
namespace BJ
theorem akd (x:F):(x.val+(-x).val)%pp=0:=by
 have h:x+ -x=0:=by grobner
 have:=congrArg Fin.val h
 rw[Fin.val_add] at this
 exact this
theorem par {a b p:Nat} (hs:(a+b)%p=0) (ha:a<p) (hb:b<p) (h0:a≠0) (hp:p%2=1):b%2=1↔a%2=0:=by
 have h1:a+b=p:=by
  rcases Nat.lt_or_ge (a+b) p with h|h
  ·rw[Nat.mod_eq_of_lt h] at hs;omega
  ·rw[Nat.mod_eq_sub_mod h,Nat.mod_eq_of_lt (by omega)] at hs;omega
 omega
theorem aoO:pp%2=1:=by decide+kernel
theorem UW {x:F} (h:x≠0):(-x).val%2=1↔x.val%2=0:=
 par (akd x) x.isLt (-x).isLt (fun e=>h (Fin.ext e)) aoO
theorem aoP:(pp:Int)=57896044618658097711785492504343953926634992332820282019728792003956564819949:=rfl
theorem EZ:Go.Proofs.YtjalaohajcpllaaGreat.wO=57896044618658097711785492504343953926634992332820282019728792003956564819968:=rfl
def gI (r a:F):F×Bool:=if r*r=a then (if r.val%2=1 then-r else r,true) else (0,false)
theorem yp (a:F):rootOf a=gI (if F.pow a ((pp+3)/8)*F.pow a ((pp+3)/8)=a then F.pow a ((pp+3)/8) else F.pow a ((pp+3)/8)*F.pow 2 ((pp-1)/4)) a:=rfl
theorem F.wS:(0:F).val=0:=rfl
theorem Ya (r a:F):(gI r a).1.val%2=0:=by
 unfold gI
 by_cases h:r*r=a
 ·rw[if_pos h]
  show (if r.val%2=1 then-r else r).val%2=0
  by_cases h1:r.val%2=1
  ·rw[if_pos h1]
   have hr:r≠0:=fun e=>by rw[e,F.wS] at h1;cases h1
   have:=UW hr
   omega
  ·rw[if_neg h1];omega
 ·rw[if_neg h]
  show (0:F).val%2=0
  rw[F.wS]
theorem Yb (a:F):(rootOf a).1.val%2=0:=by rw[yp];exact Ya _ _
theorem Rx (u v:F):(n7 u v).1.val%2=0:=by
 unfold n7
 by_cases h:v=0
 ·rw[if_pos h]
  show (0:F).val%2=0
  rw[F.wS]
 ·rw[if_neg h];exact Yb _
theorem afL (y:F):(n9 y).1.val%2=0:=Rx _ _
end BJ
namespace Go.Proofs.YtjalaohajcpllaaGreat
open Go Go.Ev BJ
theorem CW {b:fM} (h:rU b) (h31:b.get 31<128):rU (ym b)∧dx (ym b)=dx b+wO:=by
 have e:ym b=Vec.zk (fun x=>if x<128 then x+128 else x) 31 b:=yn (by show _=if b.get 31<128 then _ else _;rw[if_pos h31])
 rw[e]
 obtain ⟨h1,h2⟩:=LY (fun x=>if x<128 then x+128 else x) (n:=31) h (fun x h1 h2=>by show 0≤(if x<128 then x+128 else x)∧(if x<128 then x+128 else x)<256;split<;>omega)
 refine ⟨h1,h2.trans ?_⟩
 show dx b-b.get 31*_+(if b.get 31<128 then b.get 31+128 else b.get 31)*_=_
 have:=EZ
 rw[if_pos h31,aoI];omega
end Go.Proofs.YtjalaohajcpllaaGreat
namespace Go.Proofs.YtjalaohajcpllaaGreat
open Go Go.Ev BJ
set_option maxRecDepth 100000
end Go.Proofs.YtjalaohajcpllaaGreat
namespace BJ
theorem F.afM:(1:F)≠0:=by decide+kernel
theorem F.aoQ (s:F) (m:Nat):F.pow (s*s) m=F.pow s (m+m):=by
 induction m with
 |zero=>rw[F.pow_zero,F.pow_zero]
 |succ m ih=>
  rw[F.pow_succ,ih,show m+1+(m+1)=(m+m+1)+1 from by omega,F.pow_succ,F.pow_succ]
  grobner
theorem F.sU {s:F} (h:s≠0):F.pow s (pp-1)=1:=by
 apply Fin.ext
 show s.val ^ (pp-1)%pp=1
 exact Ip.sU (F.Rk h)
theorem F.aoR {t:F} (h:t*t=1):t=1∨t= -1:=by
 have:(t-1)*(t+1)=0:=by grobner
 rcases F.mul_eq_zero this with h1|h1
 ·left;grobner
 ·right;grobner
theorem F.asZ {a b:F} (h:a*a=b*b):a=b∨a= -b:=by
 have:(a-b)*(a+b)=0:=by grobner
 rcases F.mul_eq_zero this with h1|h1
 ·left;grobner
 ·right;grobner
theorem Yc {r a:F} (h:r*r=a):(gI r a).2=true:=by
 unfold gI;rw[if_pos h]
theorem ake {r a:F} (h:(gI r a).2=true):(gI r a).1*(gI r a).1=a:=by
 unfold gI at h ⊢
 by_cases h1:r*r=a
 ·rw[if_pos h1]
  show (if r.val%2=1 then-r else r)*(if r.val%2=1 then-r else r)=a
  by_cases h2:r.val%2=1
  ·rw[if_pos h2];grobner
  ·rw[if_neg h2];exact h1
 ·rw[if_neg h1] at h;cases h
theorem afN {s c:F} {m k:Nat} (hm:m+m=k+1) (hk:s≠0→F.pow s (k+k)*F.pow s (k+k)=1) (hc:c*c= -1):
  (gI (if F.pow (s*s) m*F.pow (s*s) m=s*s then F.pow (s*s) m else F.pow (s*s) m*c) (s*s)).2=true:=by
 apply Yc
 by_cases h:F.pow (s*s) m*F.pow (s*s) m=s*s
 ·rw[if_pos h];exact h
 ·rw[if_neg h]
  have h1:F.pow (s*s) m*F.pow (s*s) m=F.pow s (k+k)*(s*s):=by
   rw[← F.pow_add,hm,F.pow_succ,F.aoQ]
  by_cases hs:s=0
  ·exfalso;apply h;rw[h1,hs];grobner
  ·rcases F.aoR (hk hs) with h2|h2
   ·exfalso;apply h;rw[h1,h2];grobner
   ·rw[h2] at h1
    generalize F.pow (s*s) m=r at*
    grobner
theorem afO:(pp+3)/8+(pp+3)/8=(pp-1)/4+1:=by decide+kernel
theorem afP:(pp-1)/4+(pp-1)/4+((pp-1)/4+(pp-1)/4)=pp-1:=by decide+kernel
theorem Ry:F.pow 2 ((pp-1)/4)*F.pow 2 ((pp-1)/4)= -1:=by
 rw[F.UT 2 (by decide+kernel)];decide+kernel
theorem CX (s:F):(rootOf (s*s)).2=true:=by
 rw[yp]
 exact afN afO (fun hs=>by rw[← F.pow_add,afP];exact F.sU hs) Ry
theorem akf {a:F} (h:(rootOf a).2=true):(rootOf a).1*(rootOf a).1=a:=by
 rw[yp] at h ⊢;exact ake h
theorem Rz (y:F):dd*(y*y)+1≠0:=by
 intro h
 have hy:y≠0:=by rintro rfl;exact F.afM (by grobner)
 have hi:=F.inv_mul hy
 have h2:=amv
 apply wB (ii*F.inv y)
 generalize F.inv y=v at*
 grobner
theorem aoS {x y:F} (h:yi x y):(n9 y).2=true∧((n9 y).1=x∨(n9 y).1= -x):=by
 have h2:=F.inv_mul (Rz y)
 have e:(y*y-1)*F.inv (dd*(y*y)+1)=x*x:=by
  apply F.cancel (Rz y)
  unfold yi at h
  generalize F.inv (dd*(y*y)+1)=v at*
  grobner
 unfold n9 n7
 rw[if_neg (Rz y),e]
 exact ⟨CX x,F.asZ (akf (CX x))⟩
def RA (p:E4) (P:Pt):Prop:=p.2.2.1≠0∧p.1=P.x*p.2.2.1∧p.2.1=P.y*p.2.2.1∧p.2.2.2=P.x*P.y*p.2.2.1
theorem Iv (P:Pt):RA (zg P.x P.y) P:=
 ⟨F.afM,(show P.x=P.x*1 by grobner),(show P.y=P.y*1 by grobner),(show P.x*P.y=P.x*P.y*1 by grobner)⟩
theorem afQ:RA rV Pt.zero:=Iv Pt.zero
theorem akg {x1 y1 Z1 x2 y2 Z2:F} {A B:F} (h1:yi x1 y1) (h2:yi x2 y2) (hz1:Z1≠0) (hz2:Z2≠0)
  (hA:A*(1+dd*x1*x2*y1*y2)=x1*y2+y1*x2) (hB:B*(1-dd*x1*x2*y1*y2)=y1*y2+x1*x2) {r:E4}
  (hr:CU (x1*Z1,y1*Z1,Z1,x1*y1*Z1) (x2*Z2,y2*Z2,Z2,x2*y2*Z2)=r):r.2.2.1≠0∧r.1=A*r.2.2.1∧r.2.1=B*r.2.2.1∧r.2.2.2=A*B*r.2.2.1:=by
 have d1:=gQ h1 h2
 have d2:=gf h1 h2
 subst hr
 unfold CU
 simp only[]
 generalize hD:dd*x1*x2*y1*y2=D at*
 have e1:y1*Z1*Z2+y1*Z1*Z2=y1*Z1*Z2+y1*Z1*Z2:=rfl
 have eba:(y1*Z1+x1*Z1)*(y2*Z2+x2*Z2)-(y1*Z1-x1*Z1)*(y2*Z2-x2*Z2)=2*(Z1*Z2)*(A*(1+D)):=by rw[hA];grobner
 have ebA:(y1*Z1+x1*Z1)*(y2*Z2+x2*Z2)+(y1*Z1-x1*Z1)*(y2*Z2-x2*Z2)=2*(Z1*Z2)*(B*(1-D)):=by rw[hB];grobner
 have edc:Z1*Z2+Z1*Z2-(x1*y1*Z1*(x2*y2*Z2)*dd+x1*y1*Z1*(x2*y2*Z2)*dd)=2*(Z1*Z2)*(1-D):=by rw[← hD];grobner
 have edC:Z1*Z2+Z1*Z2+(x1*y1*Z1*(x2*y2*Z2)*dd+x1*y1*Z1*(x2*y2*Z2)*dd)=2*(Z1*Z2)*(1+D):=by rw[← hD];grobner
 rw[eba,ebA,edc,edC]
 have gk:=F.fc afi (F.fc hz1 hz2)
 refine ⟨F.fc (F.fc gk d2) (F.fc gk d1),?_,?_,?_⟩<;>grobner
theorem L2 {p:E4} {P:Pt} (h:RA p P):p=(P.x*p.2.2.1,P.y*p.2.2.1,p.2.2.1,P.x*P.y*p.2.2.1):=by
 obtain ⟨X,Y,Z,T⟩:=p
 obtain ⟨_,h1,h2,h3⟩:=h
 simp only at h1 h2 h3
 rw[h1,h2,h3]
theorem UX {p q:E4} {P Q:Pt} (hp:RA p P) (hq:RA q Q):RA (CU p q) (P.add Q):=by
 have h:=akg P.on Q.on hp.1 hq.1 (kI P.on Q.on) (kJ P.on Q.on) (r:=CU p q) (by rw[← L2 hp,← L2 hq])
 exact h
theorem as0 {p:E4} {P:Pt} (hp:RA p P):p.1*F.inv p.2.2.1=P.x:=by
 obtain ⟨h0,h1,_⟩:=hp
 have:=F.inv_mul h0
 rw[h1]
 generalize F.inv p.2.2.1=v at*
 grobner
theorem as1 {p:E4} {P:Pt} (hp:RA p P):p.2.1*F.inv p.2.2.1=P.y:=by
 obtain ⟨h0,_,h2,_⟩:=hp
 have:=F.inv_mul h0
 rw[h2]
 generalize F.inv p.2.2.1=v at*
 grobner
theorem Pt.zero_add (p:Pt):Pt.zero.add p=p:=by rw[Pt.add_comm,Pt.add_zero]
def rH:Nat→Pt→Pt
 |0,_=>Pt.zero
 |n+1,p=>(rH n p).add p
theorem Iw (m n:Nat) (p:Pt):rH (m+n) p=(rH m p).add (rH n p):=by
 induction n with
 |zero=>
  show rH m p=(rH m p).add Pt.zero
  rw[Pt.add_zero]
 |succ n ih=>rw[← Nat.add_assoc,rH,rH,ih,Pt.add_assoc]
theorem afR (n:Nat):rH n Pt.zero=Pt.zero:=by
 induction n with
 |zero=>rfl
 |succ n ih=>rw[rH,ih,Pt.add_zero]
theorem akh (m n:Nat) (p:Pt):rH (m*n) p=rH m (rH n p):=by
 induction m with
 |zero=>rw[Nat.zero_mul];rfl
 |succ m ih=>rw[Nat.succ_mul,Iw,ih,rH]
theorem aki (p:Pt):rH 1 p=p:=Pt.zero_add p
end BJ
namespace Go.Proofs.YtjalaohajcpllaaGreat
open Go Go.Ev
set_option maxRecDepth 1000000
section
variable (bit:fM→Nat→Int) (zero:Pn) (aoF:Fn) (add:Fn→Fn→Fn) (asE:Pn→Pn→Fn→Pn)
end
section
variable (decode:fM→Pt×Bool) (base:Pt) (double:Pt→Pt)
end
section
variable (decode:fM→Pt×Bool) (base:Pt) (double:Pt→Pt) (akj:fM→Pn×Bool) (ayc:Pn) (as2:Pn→Pn→Pn)
end
end Go.Proofs.YtjalaohajcpllaaGreat
namespace Go.Proofs.YtjalaohajcpllaaGreat
open Go Go.Ev BJ
set_option maxRecDepth 1000000
end Go.Proofs.YtjalaohajcpllaaGreat
namespace Go.Ev
open Go
end Go.Ev
namespace Go.Proofs.YtjalaohajcpllaaGreat
open Go Go.Ev BJ
set_option maxRecDepth 1000000
def both (a b:Bool):Bool:=bif a==true then b else false
section
variable (at2:fM→Pt×Pn) (zero:Pt) (add:Pt→Pt→Pt) (neg double:Pt→Pt) (equal:Pt→Pt→Bool) (encode:Pt→fM)
end
section
variable (at2:fM→Pt×Pn) (decode:fM→Pt×Bool) (add:Pt→Pt→Pt) (neg double:Pt→Pt) (equal:Pt→Pt→Bool) (encode:Pt→fM) (akj:fM→Pn×Bool) (as2:Pn→Pn→Pn) (ayd:Pn→Pn) (awy:Pn→Pn→Bool) (auD:Pn→fM)
end
section
variable (zero:Pt) (decode:fM→Pt×Bool) (neg double:Pt→Pt) (equal:Pt→Pt→Bool)
end
end Go.Proofs.YtjalaohajcpllaaGreat
namespace Go.Proofs.YtjalaohajcpllaaGreat
open Go Go.Ev BJ
theorem akk:yi wR rW:=by unfold yi;decide+kernel
def iM:BJ.Pt:=⟨wR,rW,akk⟩
theorem afS:RA L0 iM:=by
 rw[afK];exact Iv iM
structure Rep (p:Pt) (P:BJ.Pt):Prop where
 ok:zh p
 is:RA (UR p) P
theorem afT:Rep qe iM:=⟨UU.1,by rw[UU.2];exact afS⟩
noncomputable def s7 (P:BJ.Pt):fM:=if P.x.val%2=1 then ym (fO P.y) else fO P.y
theorem akl {p:Pt} {P:BJ.Pt} (hp:Rep p P):wP p=s7 P:=by
 rw[X7 hp.ok]
 unfold asT s7
 rw[as0 hp.is,as1 hp.is]
theorem afU (P:BJ.Pt):dx (s7 P)=(P.y.val:Int)+(if P.x.val%2=1 then wO else 0):=by
 unfold s7
 obtain ⟨h1,h2⟩:=kM P.y
 by_cases h:P.x.val%2=1
 ·rw[if_pos h,if_pos h,(CW h1 (yo _).2).2,h2]
 ·rw[if_neg h,if_neg h,h2,Int.add_zero]
end Go.Proofs.YtjalaohajcpllaaGreat
namespace Go.Proofs.YtjalaohajcpllaaGreat
open Go Go.Ev BJ
theorem L3 {V:Nat} (hV:V<2 ^ 256) {p:E4} {P:BJ.Pt} (hp:RA p P):RA (L1 V p) (rH V P):=by
 have key: ∀ k,k≤256→RA (je (kN V p) k rV) (rH (V/2 ^ (256-k)) P):=by
  intro k
  induction k with
  |zero=>
   intro _
   rw[Nat.sub_zero,Nat.div_eq_of_lt hV]
   exact afQ
  |succ k ih=>
   intro hk
   have h:=ih (by omega)
   show RA (kN V p k (je (kN V p) k rV)) _
   have hdiv:V/2 ^ (256-k)=V/2 ^ (256-(k+1))/2:=by
    rw[Nat.div_div_eq_div_mul,← Nat.pow_succ];congr 2;omega
   rw[hdiv] at h
   unfold kN X8
   rw[show 255-k=256-(k+1) from by omega]
   generalize V/2 ^ (256-(k+1))=M at*
   have h2:=UX h h
   rw[← Iw] at h2
   by_cases hb:M%2=1
   ·rw[decide_eq_true hb,if_pos rfl]
    have h3:=UX h2 hp
    have e:(rH (M/2+M/2) P).add P=rH M P:=by
     have:M=(M/2+M/2)+1:=by omega
     conv=>rhs;rw[this]
     rfl
    rw[e] at h3;exact h3
   ·rw[decide_eq_false hb,if_neg (by simp)]
    rw[show M/2+M/2=M from by omega] at h2;exact h2
 have:=key 256 (by omega)
 rw[Nat.sub_self,Nat.pow_zero,Nat.div_one] at this
 exact this
theorem aoT {n:fM} (h:rU n):(dx n).toNat<2 ^ 256:=by
 have h1:=wI h
 have h0:=eM h
 have aoJ:(256 ^ 32:Nat)=2 ^ 256:=by rw[show (256:Nat)=2 ^ 8 from rfl,← Nat.pow_mul]
 rw[aoJ] at h1
 omega
theorem afV {n:fM} {p:Pt} {P:BJ.Pt} (hn:rU n) (hp:Rep p P):Rep (CV n p) (rH (dx n).toNat P):=by
 obtain ⟨h1,h2⟩:=akb hn hp.ok
 exact ⟨h1,by rw[h2];exact L3 (aoT hn) hp.is⟩
theorem afW (P:BJ.Pt):rU (s7 P)∧asU (s7 P)=(zg P.x P.y,true):=by
 obtain ⟨b1,b2⟩:=kM P.y
 have hv:=afU P
 have oK:rU (s7 P):=by
  unfold s7
  split
  ·exact (CW b1 (yo _).2).1
  ·exact b1
 have hp:=Rw P.y
 have c1:=EZ
 have c2:=aoP
 have hm:dx (s7 P)%wO=(P.y.val:Int):=by
  have c3: ∀ x:Int,x%wO=x%57896044618658097711785492504343953926634992332820282019728792003956564819968:=fun _=>rfl
  rw[hv,c3]
  split<;>omega
 have hF:dp (dx (s7 P)%wO)=P.y:=by rw[hm,aoM]
 have h31:=wK oK (i:=31) (by decide)
 rw[aoI] at h31
 have aoU:128≤(s7 P).get 31↔P.x.val%2=1:=by
  rw[h31,hv]
  split<;>omega
 obtain ⟨x1,x2⟩:=aoS P.on
 have hev:=afL P.y
 refine ⟨oK,?_⟩
 unfold asU
 simp only[hF]
 have kh:(n9 P.y).2=true∧dx (s7 P)%wO<(pp:Int)∧ ¬(128≤(s7 P).get 31∧(n9 P.y).1=0):=by
  refine ⟨x1,by rw[hm];exact hp.2,fun ⟨h1,h2⟩=>?_⟩
  have as3:=aoU.1 h1
  have xa:P.x=0:=by
   rcases x2 with h|h
   ·rw[← h,h2]
   ·have:P.x= -(n9 P.y).1:=by rw[h];grobner
    rw[this,h2];grobner
  rw[xa,BJ.F.wS] at as3;cases as3
 rw[if_pos kh]
 have aoV:(if 128≤(s7 P).get 31 then-(n9 P.y).1 else (n9 P.y).1)=P.x:=by
  generalize (n9 P.y).1=X at*
  by_cases h:P.x.val%2=1
  ·rw[if_pos (aoU.2 h)]
   rcases x2 with e|e
   ·rw[e] at hev;omega
   ·rw[e];grobner
  ·rw[if_neg fun h'=>h (aoU.1 h')]
   rcases x2 with e|e
   ·exact e
   ·by_cases h0:P.x=0
    ·rw[e,h0];grobner
    ·have:=UW h0
     rw[← e] at this
     omega
 rw[aoV]
end Go.Proofs.YtjalaohajcpllaaGreat
namespace Go.Proofs.YtjalaohajcpllaaGreat
open Go Go.Ev BJ
set_option maxRecDepth 1000000
section
variable (alive:Unit) (mult:fM→Pt→Pt) (aye:fM→Pt) (base zero:Pt) (double neg:Pt→Pt) (equal:Pt→Pt→Bool) (aAg:fM→Pt) (add:Pt→Pt→Pt) (half:fM→fM) (plus:fM→fM→fM) (aAh:fM→Pt→fM→Pt)
end
end Go.Proofs.YtjalaohajcpllaaGreat
namespace Go.Proofs.YtjalaohajcpllaaGreat
open Go Go.Ev
set_option maxRecDepth 1000000
section
variable (bit:fM→Nat→Int) (zero base:Pt) (double:Pt→Pt) (afl:Pt→Pt→Pt)
end
end Go.Proofs.YtjalaohajcpllaaGreat
namespace Go.Proofs.YtjalaohajcpllaaGreat
open Go Go.Ev BJ
end Go.Proofs.YtjalaohajcpllaaGreat
end
section
set_option linter.unusedVariables false
set_option linter.unusedSimpArgs false
namespace Go.Proofs.YtjalaohajcpllaaGreat
open Go Go.Ev BJ
set_option maxRecDepth 1000000
abbrev lY:a9 LV Fe:=FZ (kY .u64 5)
abbrev cB:a9 LV (List Int):=ND .u8 32
abbrev akm (b:fM):LV:=jI .u8 32 b.toList
abbrev akn:a9 (List LV) (Int×Unit):=ae (ah (ay .u64)) ag
abbrev s8:a9 (List LV) (Fe×Unit):=ae lY ag
abbrev m9:a9 (List LV) (Fe×Fe×Unit):=ae lY (ae lY ag)
abbrev yq:a9 (List LV) (List Int×Unit):=ae cB ag
abbrev kK:List Wk:= [.fr [.sym],.auto]
abbrev kR:List Wk:= [.fr [.sym],.lN 0 0 32 .u8,.auto]
noncomputable def wT:au:=au.bV [] (s8) (ag) fun x_ y_=>(fun (x:Fe)=> .leaf none (lY.wr (cO x)) []) x_.1
theorem L4 (x:Fe):aY Tryz.prog [] [] Tryz.f166 ((s8).wr (x,())) ((ag).wr ()) [.fr [.sym],.auto]= .leaf (lY.wr (cO x)) ([]):=by kernel_rfl
theorem rI:wT.Ok Tryz.prog 166:=by
 refine (au.bE Tryz.call166 fun x_ y_ Q H_=>?_).sym
 obtain ⟨x,_⟩:=x_
 have hq:=H_.2
 refine (aG mixed aD Tryz.func166 rfl (LT:= []) (ks:= [.fr [.sym],.auto]) (aP.nil _)).use (D:= []) ?_ hq
 show (aY _ _ _ _ ((s8).wr (x,())) ((ag).wr ()) _).sat _
 rw[L4]
 exact ⟨rfl,rfl⟩
noncomputable def Ix:au:=au.bV [] (akn) (ag) fun x_ y_=>(fun (n:Int)=> .leaf none (lY.wr (bc n)) []) x_.1
theorem L5 (n:Int):aY Tryz.prog [] [] Tryz.f131 ((akn).wr (n,())) ((ag).wr ()) [.fr [.sym],.auto]= .leaf (lY.wr (bc n)) ([]):=by kernel_rfl
theorem E0:Ix.Ok Tryz.prog 131:=by
 refine (au.bE Tryz.call131 fun x_ y_ Q H_=>?_).sym
 obtain ⟨n,_⟩:=x_
 have hq:=H_.2
 refine (aG mixed aD Tryz.func131 rfl (LT:= []) (ks:= [.fr [.sym],.auto]) (aP.nil _)).use (D:= []) ?_ hq
 show (aY _ _ _ _ ((akn).wr (n,())) ((ag).wr ()) _).sat _
 rw[L5]
 exact ⟨rfl,rfl⟩
noncomputable def amE:au:=au.bV [] (m9) (ag) fun x_ y_=>(fun (x y:Fe)=> .leaf none (lY.wr (jP x y)) []) x_.1 x_.2.1
theorem Yd (x y:Fe):aY Tryz.prog [(166,wT)] [] Tryz.f162 ((m9).wr (x,y,())) ((ag).wr ()) [.fr [.sym],.auto]= .leaf (lY.wr (jP x y)) ([]):=by kernel_rfl
theorem ako:amE.Ok Tryz.prog 162:=by
 refine (au.bE Tryz.call162 fun x_ y_ Q H_=>?_).sym
 obtain ⟨x,y,_⟩:=x_
 have hq:=H_.2
 refine (aG mixed ((ao rI aD)) Tryz.func162 rfl (LT:= []) (ks:= [.fr [.sym],.auto]) (aP.nil _)).use (D:= []) ?_ hq
 show (aY _ _ _ _ ((m9).wr (x,y,())) ((ag).wr ()) _).sat _
 rw[Yd]
 exact ⟨rfl,rfl⟩
noncomputable def afX:au:=au.bV [] (m9) (ag) fun x_ y_=>(fun (x y:Fe)=> .leaf none (lY.wr (kZ x y)) []) x_.1 x_.2.1
theorem Ye (x y:Fe):aY Tryz.prog [(166,wT)] [] Tryz.f161 ((m9).wr (x,y,())) ((ag).wr ()) [.fr [.sym],.auto]= .leaf (lY.wr (kZ x y)) ([]):=by kernel_rfl
theorem UY:afX.Ok Tryz.prog 161:=by
 refine (au.bE Tryz.call161 fun x_ y_ Q H_=>?_).sym
 obtain ⟨x,y,_⟩:=x_
 have hq:=H_.2
 refine (aG mixed ((ao rI aD)) Tryz.func161 rfl (LT:= []) (ks:= [.fr [.sym],.auto]) (aP.nil _)).use (D:= []) ?_ hq
 show (aY _ _ _ _ ((m9).wr (x,y,())) ((ag).wr ()) _).sat _
 rw[Ye]
 exact ⟨rfl,rfl⟩
noncomputable def amF:au:=au.bV [] (s8) (ag) fun x_ y_=>(fun (x:Fe)=> .leaf none (lY.wr (CT x)) []) x_.1
theorem Yf (x:Fe):aY Tryz.prog [(161,afX)] [] Tryz.f182 ((s8).wr (x,())) ((ag).wr ()) [.fr [.sym],.auto]= .leaf (lY.wr (CT x)) ([]):=by kernel_rfl
theorem akp:amF.Ok Tryz.prog 182:=by
 refine (au.bE Tryz.call182 fun x_ y_ Q H_=>?_).sym
 obtain ⟨x,_⟩:=x_
 have hq:=H_.2
 refine (aG mixed ((ao UY aD)) Tryz.func182 rfl (LT:= []) (ks:= [.fr [.sym],.auto]) (aP.nil _)).use (D:= []) ?_ hq
 show (aY _ _ _ _ ((s8).wr (x,())) ((ag).wr ()) _).sat _
 rw[Yf]
 exact ⟨rfl,rfl⟩
noncomputable def afY:au:=au.bV [] ((ae (ah (ay .u64)) (ae (ah (ay .u64)) ag))) (ag) fun x_ y_=>(fun (x y:Int)=> .leaf none (.cV [.sc (.int .u64 (.sym (bs x y).1)),.sc (.int .u64 (.sym (bs x y).2))]) []) x_.1 x_.2.1
theorem RC (x y:Int):aY Tryz.prog [] [] Tryz.f137 (((ae (ah (ay .u64)) (ae (ah (ay .u64)) ag))).wr (x,y,())) ((ag).wr ()) [.fr [.sym],.auto]= .leaf (.cV [.sc (.int .u64 (.sym (bs x y).1)),.sc (.int .u64 (.sym (bs x y).2))]) ([]):=by kernel_rfl
theorem L6:afY.Ok Tryz.prog 137:=by
 refine (au.bE Tryz.call137 fun x_ y_ Q H_=>?_).sym
 obtain ⟨x,y,_⟩:=x_
 have hq:=H_.2
 refine (aG mixed aD Tryz.func137 rfl (LT:= []) (ks:= [.fr [.sym],.auto]) (aP.nil _)).use (D:= []) ?_ hq
 show (aY _ _ _ _ (((ae (ah (ay .u64)) (ae (ah (ay .u64)) ag))).wr (x,y,())) ((ag).wr ()) _).sat _
 rw[RC]
 exact ⟨rfl,rfl⟩
noncomputable def afZ:au:=au.bV [] (yq) (ag) fun x_ y_=>(fun (b:List Int)=> .leaf none (lY.wr (n5 (As b))) []) x_.1
theorem RD (b:List Int):aY Tryz.prog [] [] Tryz.f176 ((yq).wr (b,())) ((ag).wr ()) [.fr [.sym],.auto]= .leaf (lY.wr (n5 (As b))) ([]):=by kernel_rfl
theorem af0:afZ.Ok Tryz.prog 176:=by
 refine (au.bE Tryz.call176 fun x_ y_ Q H_=>?_).sym
 obtain ⟨b,_⟩:=x_
 have hq:=H_.2
 refine (aG mixed aD Tryz.func176 rfl (LT:= []) (ks:= [.fr [.sym],.auto]) (aP.nil _)).use (D:= []) ?_ hq
 show (aY _ _ _ _ ((yq).wr (b,())) ((ag).wr ()) _).sat _
 rw[RD]
 exact ⟨rfl,rfl⟩
noncomputable def UZ:au:=au.bV [] (s8) (ag) fun x_ y_=>(fun (x:Fe)=> .leaf none (lY.wr (afG x)) []) x_.1
theorem L7 (x:Fe):aY Tryz.prog [(166,wT)] [] Tryz.f136 ((s8).wr (x,())) ((ag).wr ()) [.fr [.sym],.auto]= .leaf (lY.wr (afG x)) ([]):=by kernel_rfl
theorem Yg:UZ.Ok Tryz.prog 136:=by
 refine (au.bE Tryz.call136 fun x_ y_ Q H_=>?_).sym
 obtain ⟨x,_⟩:=x_
 have hq:=H_.2
 refine (aG mixed ((ao rI aD)) Tryz.func136 rfl (LT:= []) (ks:= [.fr [.sym],.auto]) (aP.nil _)).use (D:= []) ?_ hq
 show (aY _ _ _ _ ((s8).wr (x,())) ((ag).wr ()) _).sat _
 rw[L7]
 exact ⟨rfl,rfl⟩
noncomputable def Au:au:=au.bV [] (s8) (ag) fun x_ y_=>(fun (x:Fe)=> .leaf none (akm (fg x)) []) x_.1
theorem L8 (x:Fe):aY Tryz.prog [(136,UZ)] [] Tryz.f92 ((s8).wr (x,())) ((ag).wr ()) kR= .leaf (akm (fg x)) ([]):=by kernel_rfl
theorem yr:Au.Ok Tryz.prog 92:=by
 refine (au.bE Tryz.call92 fun x_ y_ Q H_=>?_).sym
 obtain ⟨x,_⟩:=x_
 have hq:=H_.2
 refine (aG mixed ((ao Yg aD)) Tryz.func92 rfl (LT:= []) (ks:=kR) (aP.nil _)).use (D:= []) ?_ hq
 show (aY _ _ _ _ ((s8).wr (x,())) ((ag).wr ()) _).sat _
 rw[L8]
 exact ⟨rfl,rfl⟩
abbrev aoW:au:=(lE bB).sym
theorem CY:aoW.Ok Tryz.prog 138:=(Re Tryz.func138 (by kernel_rfl) (by kernel_rfl) (by kernel_rfl) (by kernel_rfl) rfl).sym
end Go.Proofs.YtjalaohajcpllaaGreat
end
section
set_option linter.unusedVariables false
set_option linter.unusedSimpArgs false
namespace Go.Proofs.YtjalaohajcpllaaGreat
open Go Go.Ev BJ
set_option maxRecDepth 1000000
def amG (m:Int→Int→Int×Int):au:=au.bV [] (ae (ah (ay .u64)) (ae (ah (ay .u64)) ag)) ag fun x _=> .leaf none (.cV [.sc (.int .u64 (.sym (m x.1 x.2.1).1)),.sc (.int .u64 (.sym (m x.1 x.2.1).2))]) []
abbrev qf (o:Nat):a9 (List LV) (Int×Int×Unit):=ak (ah (aJ 0 o)) (ae (ah (ay .u64)) (ae (ah (ay .u64)) ag))
abbrev qg:a9 Hp (Vec Int 10×Unit):=ae (dN 219 (kY .u64 10)) ag
section
variable (m:Int→Int→Int×Int) (a:Int→Int→Int→Int×Int)
def lI (k:Nat) (x y:Int) (v:Vec Int 10):Int×Int:=a (v.get (2*k+1)) (m x y).2 0
def qh (k:Nat) (x y:Int) (v:Vec Int 10):Vec Int 10:=Vec.zk (fun _=>(lI m a k x y v).1) (2*k+1) (Vec.zk (fun _=>(a (v.get (2*k)) (m x y).1 (lI m a k x y v).2).1) (2*k) v)
noncomputable def rX (k:Nat):au:=au.bV [] (qf (2*k)) qg fun x h=> .leaf (some (0≤(lI m a k x.1 x.2.1 h.1).2∧(lI m a k x.1 x.2.1 h.1).2≤1)) (.cV []) [(0,.a8 ((kY .u64 10).wr (qh m a k x.1 x.2.1 h.1)) 219)]
abbrev oc:List (FuncId×au):= [(137,amG m),(138,(lE a).sym)]
abbrev rY:List Wk:= [.a8 0 (List.replicate 10 .sym),.auto]
theorem RE (x y:Int) (v:Vec Int 10):aY Tryz.prog (oc m a) [] Tryz.f165 ((qf 0).wr (x,y,())) (qg.wr (v,())) rY=
  .need (0≤(0:Int)∧(0:Int)≤1) (.need (0≤(lI m a 0 x y v).2∧(lI m a 0 x y v).2≤1) (.leaf (.cV []) [some (.a8 ((kY .u64 10).wr (qh m a 0 x y v)) 219)])):=by kernel_rfl
theorem RF (x y:Int) (v:Vec Int 10):aY Tryz.prog (oc m a) [] Tryz.f165 ((qf 2).wr (x,y,())) (qg.wr (v,())) rY=
  .need (0≤(0:Int)∧(0:Int)≤1) (.need (0≤(lI m a 1 x y v).2∧(lI m a 1 x y v).2≤1) (.leaf (.cV []) [some (.a8 ((kY .u64 10).wr (qh m a 1 x y v)) 219)])):=by kernel_rfl
theorem RG (x y:Int) (v:Vec Int 10):aY Tryz.prog (oc m a) [] Tryz.f165 ((qf 4).wr (x,y,())) (qg.wr (v,())) rY=
  .need (0≤(0:Int)∧(0:Int)≤1) (.need (0≤(lI m a 2 x y v).2∧(lI m a 2 x y v).2≤1) (.leaf (.cV []) [some (.a8 ((kY .u64 10).wr (qh m a 2 x y v)) 219)])):=by kernel_rfl
theorem RI (x y:Int) (v:Vec Int 10):aY Tryz.prog (oc m a) [] Tryz.f165 ((qf 6).wr (x,y,())) (qg.wr (v,())) rY=
  .need (0≤(0:Int)∧(0:Int)≤1) (.need (0≤(lI m a 3 x y v).2∧(lI m a 3 x y v).2≤1) (.leaf (.cV []) [some (.a8 ((kY .u64 10).wr (qh m a 3 x y v)) 219)])):=by kernel_rfl
theorem RJ (x y:Int) (v:Vec Int 10):aY Tryz.prog (oc m a) [] Tryz.f165 ((qf 8).wr (x,y,())) (qg.wr (v,())) rY=
  .need (0≤(0:Int)∧(0:Int)≤1) (.need (0≤(lI m a 4 x y v).2∧(lI m a 4 x y v).2≤1) (.leaf (.cV []) [some (.a8 ((kY .u64 10).wr (qh m a 4 x y v)) 219)])):=by kernel_rfl
variable (hm: ∀ p∈oc m a,p.2.Ok Tryz.prog p.1)
include hm
theorem af1:(rX m a 0).Ok Tryz.prog 165:=by
 refine (au.bE Tryz.call165 fun x_ y_ Q H_=>?_).sym
 obtain ⟨x,y,_⟩:=x_
 obtain ⟨v,_⟩:=y_
 obtain ⟨hn,hq⟩:=H_
 refine (aG mixed hm Tryz.func165 rfl (LT:= []) (ks:=rY) (aP.nil _)).use (D:= [(0,.a8 ((kY .u64 10).wr (qh m a 0 x y v)) 219)]) ?_ hq
 show (aY _ _ _ _ ((qf 0).wr (x,y,())) (qg.wr (v,())) _).sat _
 rw[RE]
 exact ⟨by decide,hn,rfl,rfl⟩
theorem af2:(rX m a 1).Ok Tryz.prog 165:=by
 refine (au.bE Tryz.call165 fun x_ y_ Q H_=>?_).sym
 obtain ⟨x,y,_⟩:=x_
 obtain ⟨v,_⟩:=y_
 obtain ⟨hn,hq⟩:=H_
 refine (aG mixed hm Tryz.func165 rfl (LT:= []) (ks:=rY) (aP.nil _)).use (D:= [(0,.a8 ((kY .u64 10).wr (qh m a 1 x y v)) 219)]) ?_ hq
 show (aY _ _ _ _ ((qf 2).wr (x,y,())) (qg.wr (v,())) _).sat _
 rw[RF]
 exact ⟨by decide,hn,rfl,rfl⟩
theorem af3:(rX m a 2).Ok Tryz.prog 165:=by
 refine (au.bE Tryz.call165 fun x_ y_ Q H_=>?_).sym
 obtain ⟨x,y,_⟩:=x_
 obtain ⟨v,_⟩:=y_
 obtain ⟨hn,hq⟩:=H_
 refine (aG mixed hm Tryz.func165 rfl (LT:= []) (ks:=rY) (aP.nil _)).use (D:= [(0,.a8 ((kY .u64 10).wr (qh m a 2 x y v)) 219)]) ?_ hq
 show (aY _ _ _ _ ((qf 4).wr (x,y,())) (qg.wr (v,())) _).sat _
 rw[RG]
 exact ⟨by decide,hn,rfl,rfl⟩
theorem af4:(rX m a 3).Ok Tryz.prog 165:=by
 refine (au.bE Tryz.call165 fun x_ y_ Q H_=>?_).sym
 obtain ⟨x,y,_⟩:=x_
 obtain ⟨v,_⟩:=y_
 obtain ⟨hn,hq⟩:=H_
 refine (aG mixed hm Tryz.func165 rfl (LT:= []) (ks:=rY) (aP.nil _)).use (D:= [(0,.a8 ((kY .u64 10).wr (qh m a 3 x y v)) 219)]) ?_ hq
 show (aY _ _ _ _ ((qf 6).wr (x,y,())) (qg.wr (v,())) _).sat _
 rw[RI]
 exact ⟨by decide,hn,rfl,rfl⟩
theorem af5:(rX m a 4).Ok Tryz.prog 165:=by
 refine (au.bE Tryz.call165 fun x_ y_ Q H_=>?_).sym
 obtain ⟨x,y,_⟩:=x_
 obtain ⟨v,_⟩:=y_
 obtain ⟨hn,hq⟩:=H_
 refine (aG mixed hm Tryz.func165 rfl (LT:= []) (ks:=rY) (aP.nil _)).use (D:= [(0,.a8 ((kY .u64 10).wr (qh m a 4 x y v)) 219)]) ?_ hq
 show (aY _ _ _ _ ((qf 8).wr (x,y,())) (qg.wr (v,())) _).sat _
 rw[RJ]
 exact ⟨by decide,hn,rfl,rfl⟩
omit hm
noncomputable def U0:au:=(rX m a 0).or ((rX m a 1).or ((rX m a 2).or ((rX m a 3).or (rX m a 4))))
def af6 (l:List Prop) (e:Ev.End):Ev.End:=l.foldr Ev.End.need e
theorem CZ {R:LV→Hp→Prop}: ∀ {l:List Prop} {e:Ev.End},(∀ p∈l,p)→e.sat R→(af6 l e).sat R
 | [],_,_,h=>h
 |p::l,e,hl,h=>⟨hl p (by simp),CZ (fun q hq=>hl q (by simp[hq])) h⟩
theorem Yh (x y:Fe):aY Tryz.prog [(165,U0 m a),(166,wT)] [] Tryz.f130 (m9.wr (x,y,())) [] kK=
  af6 (CJ m a x y) (Ev.End.leaf (lY.wr (sX m a cO x y)) []):=by kernel_rfl
end
theorem af7:(amG bs).Ok Tryz.prog 137:=L6
theorem kO: ∀ p∈oc bs bB,p.2.Ok Tryz.prog p.1:=ao af7 (ao CY aD)
theorem RK:(U0 bs bB).Ok Tryz.prog 165:=(af1 bs bB kO).or ((af2 bs bB kO).or ((af3 bs bB kO).or ((af4 bs bB kO).or (af5 bs bB kO))))
theorem Yi (x y:Fe): ∀ p∈CJ bs bB x y,p:=wQ x y fB _ fun k=>by
 have:([(0,0),(0,0),(0,0),(0,0),(0,0)]:List (Int×Int)).getD k (0,0)=(0,0):=by
  match k with
  |0=>rfl
  |1=>rfl
  |2=>rfl
  |3=>rfl
  |4=>rfl
  |k+5=>rfl
 rw[this];exact ⟨by decide,by decide⟩
noncomputable def E1:au:=au.bV [] m9 ag fun x _=> .leaf none (lY.wr (mulC x.1 x.2.1)) []
theorem Iy:E1.Ok Tryz.prog 130:=by
 refine (au.bE Tryz.call130 fun x_ y_ Q H_=>?_).sym
 obtain ⟨x,y,_⟩:=x_
 have hq:=H_.2
 refine (aG mixed (ao RK (ao rI aD)) Tryz.func130 rfl (LT:= []) (ks:=kK) (aP.nil _)).use (D:= []) ?_ hq
 show (aY _ _ _ _ (m9.wr (x,y,())) [] _).sat _
 rw[Yh]
 exact CZ (Yi x y) ⟨rfl,rfl⟩
noncomputable def af8:au:=au.bV [] (s8) (ag) fun x_ y_=>(fun (x:Fe)=> .leaf none (lY.wr (mulC x x)) []) x_.1
theorem af9 (x:Fe):aY Tryz.prog [(130,E1)] [] Tryz.f169 ((s8).wr (x,())) ((ag).wr ()) [.fr [.sym],.auto]= .leaf (lY.wr (mulC x x)) ([]):=by kernel_rfl
theorem aga:af8.Ok Tryz.prog 169:=by
 refine (au.bE Tryz.call169 fun x_ y_ Q H_=>?_).sym
 obtain ⟨x,_⟩:=x_
 have hq:=H_.2
 refine (aG mixed ((ao Iy aD)) Tryz.func169 rfl (LT:= []) (ks:= [.fr [.sym],.auto]) (aP.nil _)).use (D:= []) ?_ hq
 show (aY _ _ _ _ ((s8).wr (x,())) ((ag).wr ()) _).sat _
 rw[af9]
 exact ⟨rfl,rfl⟩
theorem akq (u v:fM):decide (u.toList=v.toList)=eqV u v:=by
 cases h:eqV u v with
 |true=>rw[(wC u v).1 h];simp
 |false=>exact decide_eq_false fun e=>by rw[(wC u v).2 (Vec.toList_inj e)] at h;cases h
noncomputable def aoX:au:=au.bV [] (m9) (ag) fun x_ y_=>(fun (x y:Fe)=> .leaf none (nB (Rt x y)) []) x_.1 x_.2.1
theorem agb (x y:Fe):aY Tryz.prog [(92,Au)] [] Tryz.f181 ((m9).wr (x,y,())) ((ag).wr ()) [.fr [.sym],.auto]= .leaf (nB (decide ((fg x).toList=(fg y).toList))) []:=by kernel_rfl
theorem agc:aoX.Ok Tryz.prog 181:=by
 refine (au.bE Tryz.call181 fun x_ y_ Q H_=>?_).sym
 obtain ⟨x,y,_⟩:=x_
 have hq:=H_.2
 refine (aG mixed ((ao yr aD)) Tryz.func181 rfl (LT:= []) (ks:= [.fr [.sym],.auto]) (aP.nil _)).use (D:= []) ?_ hq
 show (aY _ _ _ _ ((m9).wr (x,y,())) ((ag).wr ()) _).sat _
 rw[agb]
 rw[akq];exact ⟨rfl,rfl⟩
noncomputable def agd:au:=au.bV [] (s8) (ag) fun x_ y_=>(fun (x:Fe)=> .leaf none (nB (fh x)) []) x_.1
theorem RL (x:Fe):aY Tryz.prog [(181,aoX)] [] Tryz.f177 ((s8).wr (x,())) ((ag).wr ()) [.fr [.sym],.auto]= .leaf (nB (fh x)) ([]):=by kernel_rfl
theorem age:agd.Ok Tryz.prog 177:=by
 refine (au.bE Tryz.call177 fun x_ y_ Q H_=>?_).sym
 obtain ⟨x,_⟩:=x_
 have hq:=H_.2
 refine (aG mixed ((ao agc aD)) Tryz.func177 rfl (LT:= []) (ks:= [.fr [.sym],.auto]) (aP.nil _)).use (D:= []) ?_ hq
 show (aY _ _ _ _ ((s8).wr (x,())) ((ag).wr ()) _).sat _
 rw[RL]
 exact ⟨rfl,rfl⟩
noncomputable def amH:au:=au.bV [] (s8) (ag) fun x_ y_=>(fun (x:Fe)=> .leaf none (nB (qd x)) []) x_.1
theorem Yj (x:Fe):aY Tryz.prog [(92,Au)] [] Tryz.f93 ((s8).wr (x,())) ((ag).wr ()) [.fr [.sym],.auto]= .leaf (nB (qd x)) ([]):=by kernel_rfl
theorem akr:amH.Ok Tryz.prog 93:=by
 refine (au.bE Tryz.call93 fun x_ y_ Q H_=>?_).sym
 obtain ⟨x,_⟩:=x_
 have hq:=H_.2
 refine (aG mixed ((ao yr aD)) Tryz.func93 rfl (LT:= []) (ks:= [.fr [.sym],.auto]) (aP.nil _)).use (D:= []) ?_ hq
 show (aY _ _ _ _ ((s8).wr (x,())) ((ag).wr ()) _).sat _
 rw[Yj]
 exact ⟨rfl,rfl⟩
theorem kP {l:List Int} (h:l.length=32):(As l).toList=l:=by
 have e:(As l).toList=(List.range 32).map fun i=>l.getD i 0:=rfl
 rw[e,aan h]
theorem RM (u:fM):As u.toList=u:=Vec.toList_inj (kP (Vec.ee u))
theorem C0 {f:Int→Int}: {n:Nat}→(k:Nat)→(v:Vec Int n)→(Vec.zk f k v).toList=v.toList.modify k f
 |0,k,_=>by simp[Vec.zk,Vec.toList]
 |n+1,0,v=>by simp[Vec.zk,Vec.toList]
 |n+1,k+1,v=>by simp[Vec.zk,Vec.toList,C0 k v.2]
theorem aks {l:List Int} (h:l.length=32) {k:Nat} (hk:k<32) (f:Int→Int):As (l.set k (f (l.getD k 0)))=Vec.zk f k (As l):=by
 apply Vec.toList_inj
 rw[C0,kP h,kP (by simpa using h),List.getD_eq_getElem?_getD,List.getElem?_eq_getElem (by omega:k<l.length),Option.getD_some]
 apply List.ext_getElem?
 intro i
 simp only[List.getElem?_modify,List.getElem?_set]
 by_cases e:k=i
 ·subst e;simp[h,hk]
 ·simp[e]
theorem U1 (l:List Int): ∀ {k:Nat},k<32→(As l).get k=l.getD k 0:=by
 have key: ∀ (n:Nat) (g:Nat→Int) (k:Nat),k<n→(Vec.ofFn n g).get k=g k:=by
  intro n
  induction n with
  |zero=>intro g k hk;omega
  |succ n ih=>
   intro g k hk
   cases k with
   |zero=>rfl
   |succ k=>exact ih (fun i=>g (i+1)) k (by omega)
 intro k hk
 exact key 32 (fun i=>l.getD i 0) k hk
theorem C1 (k m:Nat):(k:Int).tmod (m:Int)=((k%m:Nat):Int):=by rw[Int.tmod_eq_emod_of_nonneg (by omega),← Int.natCast_emod]
noncomputable def amI:au:=au.bV [] ((ae (ah (ay .u8)) (ae (ah (ay .u8)) ag))) (ag) fun x_ y_=>(fun (lo hi:Int)=> .leaf none (akm (iK lo hi)) []) x_.1 x_.2.1
theorem Yk (lo hi:Int):aY Tryz.prog [] [] Tryz.f168 (((ae (ah (ay .u8)) (ae (ah (ay .u8)) ag))).wr (lo,hi,())) ((ag).wr ()) kR= .leaf (akm (iK lo hi)) ([]):=by kernel_rfl
theorem akt:amI.Ok Tryz.prog 168:=by
 refine (au.bE Tryz.call168 fun x_ y_ Q H_=>?_).sym
 obtain ⟨lo,hi,_⟩:=x_
 have hq:=H_.2
 refine (aG mixed aD Tryz.func168 rfl (LT:= []) (ks:=kR) (aP.nil _)).use (D:= []) ?_ hq
 show (aY _ _ _ _ (((ae (ah (ay .u8)) (ae (ah (ay .u8)) ag))).wr (lo,hi,())) ((ag).wr ()) _).sat _
 rw[Yk]
 exact ⟨rfl,rfl⟩
noncomputable abbrev aoY:Func:=Tryz.f167
abbrev poC:a9 (List LV) (Int×Unit):=(jk 2 (ak (ah (aJ 0 0)) (ak (ah (aJ 1 0)) (ak (ah (aJ 2 0)) (ak (ah (aJ 3 0)) (ae (ah (ay .i64)) (jk 20 ag)))))))
abbrev aku:Wk:= .fr (cK 27 [(2,.an),(3,.an),(4,.an),(5,.an),(6,.sym)])
abbrev poX:a9 (List LV) (Unit):=(jk 4 (ak (ah (aJ 0 0)) (ak (ah (aJ 1 0)) (jk 21 ag))))
abbrev iFe:a9 (Option Ev.Item) Fe:=dN 96 (kY .u64 5)
abbrev poH:a9 Hp (Fe×List Int×Fe×Fe×Unit):=ae iFe (ae (rM 22 .u8 32) (ae iFe (ae iFe ag)))
abbrev Yl:a9 Hp (Fe×Fe×Unit):=ae iFe (ae iFe ag)
noncomputable abbrev agf:List (FuncId×au):= [(131,Ix),(169,af8),(130,E1)]
theorem L9: ∀ p∈agf,p.2.Ok Tryz.prog p.1:=ao E0 (ao aga (ao Iy aD))
abbrev Ma (i:Nat):Wk:= .a8 i (List.replicate 5 .sym)
def poW:Exit→List Wk
 | .normal=> [aku,Ma 2,Ma 3,.auto]
 | .exit 0=> [.fr (cK 27 [(4,.an),(5,.an)]),.auto]
 |_=> []
theorem aoZ (x r o:Fe) (e:List Int) (i:Int):c8 Tryz.prog agf [] aoY 0 [] poW ((bH poC poH).wr ((i,()),(x,e,r,o,())))=
 a6.ite (decide ((0:Int)≤i)) (a6.need ((0:Int)≤IntKind.i64.wrap (i.tdiv (8:Int))∧IntKind.i64.wrap (i.tdiv (8:Int))<(32:Int))
 (a6.need ((0:Int)≤i.tmod (8:Int)) (a6.ite (bg IntKind.u8 (shr IntKind.u8 ((List.take (32:Nat) (List.drop (0:Nat) e)).getD
 (IntKind.i64.wrap (i.tdiv (8:Int))).toNat (0:Int)) (i.tmod (8:Int))) (1:Int)==(1:Int)) (a6.leaf Exit.normal ((bH poC poH).wr
 ((IntKind.i64.wrap (i-(1:Int)),PUnit.unit),x,e,r,mulC (mulC o o) x,PUnit.unit))) (a6.leaf Exit.normal ((bH poC poH).wr ((IntKind.i64.wrap
 (i-(1:Int)),PUnit.unit),x,e,r,mulC o o,PUnit.unit)))))) (a6.leaf (Exit.exit (0:Nat)) ((bH poX Yl).wr (PUnit.unit,r,o,PUnit.unit))):=by kernel_rfl
theorem akv {e:List Int} (he:e.length=32) {j:Nat} (hj:j<256):
  (bg .u8 (shr .u8 ((List.take 32 (List.drop 0 e)).getD (IntKind.i64.wrap ((j:Int).tdiv 8)).toNat 0) ((j:Int).tmod 8)) 1==1)=ET (As e) j:=by
 have e1:IntKind.i64.wrap ((j:Int).tdiv 8)=((j/8:Nat):Int):=ko j 8 (by omega)
 have e2:(j:Int).tmod 8=((j%8:Nat):Int):=C1 j 8
 rw[e1,e2,cn he,Int.toNat_natCast]
 unfold ET
 rw[U1 e (show j/8<32 by omega)]
noncomputable def poF (x:(Int×Unit)×Fe×List Int×Fe×Fe×Unit):a6:=
 .need (x.1.1=255∧x.2.2.1.length=32) (.leaf (.exit 0) ((bH poX Yl).wr ((),(x.2.2.2.1,je (fQ (fun x=>mulC x x) mulC x.2.1 (As x.2.2.1)) 256 x.2.2.2.2.1,()))))
theorem akw (x):Ex Tryz.prog [] (.loop (aU aoY 0)) ((bH poC poH).wr x) (poF x):=by
 obtain ⟨⟨i,_⟩,x,e,r,o,_⟩:=x
 refine Ex.need fun ⟨h1,h2⟩=>?_
 simp only at h1 h2
 subst h1
 have key:=hZ (fn:=aoY) (id:=0) (j:=0) (ws:=poW) (hp:= []) mixed L9 (aP.nil _) 256 (fun k o=>(bH poC poH).wr ((255-(k:Int),()),(x,e,r,o,()))) (fun o=>(bH poX Yl).wr ((),(r,o,()))) (fQ (fun x=>mulC x x) mulC x (As e)) (fun _ _=>True)
  (fun k o R hk _ hn hx=>?_) (fun _ _ _ _=>trivial) 0 o (by omega) trivial
 ·rw[Nat.sub_zero,yg] at key;exact key
 rw[aoZ]
 refine ⟨fun hb=>?_,fun hb=>?_⟩
 ·have oq:k<256:=by have:=of_decide_eq_true hb;omega
  have e0:(255-(k:Int))=((255-k:Nat):Int):=by omega
  have AN:=hn oq
  have e3:IntKind.i64.wrap ((255-(k:Int))-1)=255-((k+1:Nat):Int):=by rw[aq (by omega) (by omega)];omega
  have hw:IntKind.i64.wrap ((255-(k:Int)).tdiv 8)=(((255-k)/8:Nat):Int):=by rw[e0];exact ko _ 8 (by omega)
  have ht:(255-(k:Int)).tmod 8=(((255-k)%8:Nat):Int):=by rw[e0];exact C1 _ 8
  have VJ:=akv h2 (j:=255-k) (by omega)
  rw[← e0] at VJ
  rw[VJ,e3]
  refine ⟨by rw[hw];omega,by rw[ht];omega,fun hc=>?_,fun hc=>?_⟩
  ·have:fQ (fun x=>mulC x x) mulC x (As e) k o=mulC (mulC o o) x:=by unfold fQ;rw[hc,ez];rfl
   rw[this] at AN;exact AN
  ·have:fQ (fun x=>mulC x x) mulC x (As e) k o=mulC o o:=by unfold fQ;rw[hc,ez];rfl
   rw[this] at AN;exact AN
 ·have:k=256:=by have:=of_decide_eq_false hb;omega
  exact hx this
noncomputable def RN (x:Fe) (e:List Int) (o:Fe):Fe:=je (fQ (fun x=>mulC x x) mulC x (As e)) 256 o
noncomputable def awz (x:(Int×Unit)×Fe×List Int×Fe×Fe×Unit):a6:=
 .need (x.1.1=255∧x.2.2.1.length=32) (.leaf (.exit 0) ((bH poX Yl).wr ((),(x.2.2.2.1,RN x.2.1 x.2.2.1 x.2.2.2.2.1,()))))
noncomputable abbrev as5:eW:= [(0,fw (bH poC poH) 0 [aku,.auto,Ma 2,Ma 3] awz)]
abbrev poA:a9 (List LV) (Fe×List Int×Unit):=ae lY (ae cB ag)
end Go.Proofs.YtjalaohajcpllaaGreat
end
section
set_option linter.unusedVariables false
set_option linter.unusedSimpArgs false
namespace Go.Proofs.YtjalaohajcpllaaGreat
open Go Go.Ev BJ
set_option maxRecDepth 1000000
abbrev gJ (r:Fe×Bool):LV:= .cV [.agg ((kY .u64 5).wr r.1),.sc (.bool (.sym r.2))]
def C2 (g:Fe→Fe):au:=au.bV [] s8 ag fun x _=> .leaf none (lY.wr (g x.1)) []
def l8 (g:Fe→Fe→Fe):au:=au.bV [] m9 ag fun x _=> .leaf none (lY.wr (g x.1 x.2.1)) []
def Ym (g:Fe→Bool):au:=au.bV [] s8 ag fun x _=> .leaf none (nB (g x.1)) []
def e2B (g:Fe→Fe→Bool):au:=au.bV [] m9 ag fun x _=> .leaf none (nB (g x.1 x.2.1)) []
def e1P (g:Fe→Fe×Bool):au:=au.bV [] s8 ag fun x _=> .leaf none (gJ (g x.1)) []
def e2P (g:Fe→Fe→Fe×Bool):au:=au.bV [] m9 ag fun x _=> .leaf none (gJ (g x.1 x.2.1)) []
def Iz (g:Int→Fe):au:=au.bV [] akn ag fun x _=> .leaf none (lY.wr (g x.1)) []
def ePw (g:Fe→List Int→Fe):au:=au.bV [] poA ag fun x _=> .leaf (some (x.2.1.length=32)) (lY.wr (g x.1 x.2.1)) []
def eEx (g:Int→Int→List Int):au:=au.bV [] (ae (ah (ay .u8)) (ae (ah (ay .u8)) ag)) ag fun x _=> .leaf none (jI .u8 32 (g x.1 x.2.1)) []
noncomputable def IA (x:Fe) (e:List Int):Fe:=powC x (As e)
noncomputable def C3 (lo hi:Int):List Int:=(iK lo hi).toList
theorem Mb (x:Fe) (lo hi:Int):IA x (C3 lo hi)=powC x (iK lo hi):=by unfold IA C3;rw[RM]
theorem C4 (lo hi:Int):(C3 lo hi).length=32:=Vec.ee _
noncomputable abbrev as8:au:=ePw IA
theorem Yn (p:Fe→List Int→Fe→Fe) (sm:Int→Fe) (x:Fe) (e:List Int):aY Tryz.prog [(131,Iz sm),(169,af8),(130,E1)] [(0,fw (bH poC poH) 0 [aku,.auto,Ma 2,Ma 3] fun x=> .need (x.1.1=255∧x.2.2.1.length=32) (.leaf (.exit 0) ((bH poX Yl).wr ((),(x.2.2.2.1,p x.2.1 x.2.2.1 x.2.2.2.2.1,())))))] Tryz.f167 (poA.wr (x,e,())) [] kK=
  .need ((255:Int)=255∧e.length=32) (.leaf (lY.wr (p x e (sm 1))) []):=by kernel_rfl
theorem Yo (x:Fe) (e:List Int):aY Tryz.prog agf as5 Tryz.f167 (poA.wr (x,e,())) [] kK=aY Tryz.prog [(131,Iz bc),(169,af8),(130,E1)] [(0,fw (bH poC poH) 0 [aku,.auto,Ma 2,Ma 3] fun x=> .need (x.1.1=255∧x.2.2.1.length=32) (.leaf (.exit 0) ((bH poX Yl).wr ((),(x.2.2.2.1,RN x.2.1 x.2.2.1 x.2.2.2.2.1,())))))] Tryz.f167 (poA.wr (x,e,())) [] kK:=by kernel_rfl
theorem U2:as8.Ok Tryz.prog 167:=by
 refine (au.bE Tryz.call167 fun x_ y_ Q H_=>?_).sym
 obtain ⟨x,e,_⟩:=x_
 obtain ⟨hn,hq⟩:=H_
 have hn:e.length=32:=hn
 refine (aG mixed L9 Tryz.func167 rfl (LT:=as5) (ks:=kK) (aP.cy (jr rfl (c5 (hp:= []) akw) jH))).use (D:= []) ?_ hq
 show (aY _ _ _ _ (poA.wr (x,e,())) [] _).sat _
 rw[Yo x e,Yn RN bc x e]
 exact ⟨⟨rfl,hn⟩,rfl,rfl⟩
theorem Yp:Ix=Iz bc:=by kernel_rfl
theorem kQ:(Iz bc).Ok Tryz.prog 131:=Yp▸E0
theorem akx:E1=l8 mulC:=by kernel_rfl
theorem jC:(l8 mulC).Ok Tryz.prog 130:=akx▸Iy
theorem aky:amE=l8 jP:=by kernel_rfl
theorem Mc:(l8 jP).Ok Tryz.prog 162:=aky▸ako
theorem akz:afX=l8 kZ:=by kernel_rfl
theorem Md:(l8 kZ).Ok Tryz.prog 161:=akz▸UY
theorem ao1:af8=C2 (fun x=>mulC x x):=by kernel_rfl
theorem U3:(C2 (fun x=>mulC x x)).Ok Tryz.prog 169:=ao1▸aga
theorem akA:amF=C2 CT:=by kernel_rfl
theorem agh:(C2 CT).Ok Tryz.prog 182:=akA▸akp
theorem ao2:aoX=e2B Rt:=by kernel_rfl
theorem akB:(e2B Rt).Ok Tryz.prog 181:=ao2▸agc
theorem akC:amH=Ym qd:=by kernel_rfl
theorem Me:(Ym qd).Ok Tryz.prog 93:=akC▸akr
theorem agi:agd=Ym fh:=by kernel_rfl
theorem Yq:(Ym fh).Ok Tryz.prog 177:=agi▸age
theorem akD:amI=eEx C3:=by kernel_rfl
theorem Mf:(eEx C3).Ok Tryz.prog 168:=akD▸akt
noncomputable abbrev as9:au:=C2 jO
theorem Yr (pow:Fe→List Int→Fe) (exp:Int→Int→List Int) (x:Fe):aY Tryz.prog [(167,ePw pow),(168,eEx exp)] [] Tryz.f132 ((s8).wr (x,())) [] kK= .need ((exp 235 127).length=32) (.leaf (lY.wr (pow x (exp 235 127))) []):=by kernel_rfl
theorem Ys: ∀ p_∈([(167,ePw IA),(168,eEx C3)]:List (FuncId×au)),p_.2.Ok Tryz.prog p_.1:=(ao U2 (ao Mf aD))
theorem IB:as9.Ok Tryz.prog 132:=by
 refine (au.bE Tryz.call132 fun x_ y_ Q H_=>?_).sym
 obtain ⟨x,_⟩:=x_
 have hq:=H_.2
 refine (aG (tab:= [(167,ePw IA),(168,eEx C3)]) mixed Ys Tryz.func132 rfl (LT:= []) (ks:=kK) (aP.nil _)).use (D:= []) ?_ hq
 show (aY _ _ _ _ ((s8).wr (x,())) [] _).sat _
 rw[Yr IA C3]
 rw[Mb];exact ⟨C4 _ _,rfl,rfl⟩
theorem akE (pw:Fe→fM→Fe) (ex:Int→Int→fM) (ml:Fe→Fe→Fe) (sq ng:Fe→Fe) (sm:Int→Fe) (eq:Fe→Fe→Bool) (od:Fe→Bool) (x:Fe):
  CK pw ex ml sq ng sm eq od x=bif eq (sq (pw x (ex 254 15))) x then (bif od (pw x (ex 254 15)) then ng (pw x (ex 254 15)) else pw x (ex 254 15),true)
   else bif eq (sq (ml (pw x (ex 254 15)) (pw (sm 2) (ex 251 31)))) x then (bif od (ml (pw x (ex 254 15)) (pw (sm 2) (ex 251 31))) then ng (ml (pw x (ex 254 15)) (pw (sm 2) (ex 251 31))) else ml (pw x (ex 254 15)) (pw (sm 2) (ex 251 31)),true) else (dQ,false):=by
 have aoV: ∀ (b:Bool) (u v:Fe),kL b u v=bif b then u else v:=fun b u v=>ez b u v
 unfold CK
 simp only[aoV]
 cases h:eq (sq (pw x (ex 254 15))) x
 ·simp only[Bool.not_false,cond_true,cond_false]
  cases eq (sq (ml (pw x (ex 254 15)) (pw (sm 2) (ex 251 31)))) x<;>rfl
 ·simp only[Bool.not_true,cond_true,cond_false,h]
theorem agj {t1 t2 o1 o2:Bool} {r r2 n1 n2:Fe} {p1 p2:Prop} (h1:p1) (h2:p2) {q:Fe×Bool} (hq:q=bif t1 then (bif o1 then n1 else r,true) else bif t2 then (bif o2 then n2 else r2,true) else (dQ,false)):
  (Ev.End.need p1 (.ite (!t1) (.need p2 (.ite (!t2) (.leaf (gJ (dQ,false)) []) (.ite o2 (.leaf (gJ (n2,true)) []) (.leaf (gJ (r2,true)) [])))) (.ite (!t1) (.leaf (gJ (dQ,false)) []) (.ite o1 (.leaf (gJ (n1,true)) []) (.leaf (gJ (r,true)) []))))).sat fun v ft=>v=gJ q∧ft= []:=by
 subst hq
 refine ⟨h1,?_⟩
 cases t1
 ·refine ⟨fun _=>⟨h2,?_⟩,fun h=>(by cases h)⟩
  cases t2
  ·exact ⟨fun _=>⟨rfl,rfl⟩,fun h=>(by cases h)⟩
  ·refine ⟨fun h=>(by cases h),fun _=>?_⟩
   cases o2
   ·exact ⟨fun h=>(by cases h),fun _=>⟨rfl,rfl⟩⟩
   ·exact ⟨fun _=>⟨rfl,rfl⟩,fun h=>(by cases h)⟩
 ·refine ⟨fun h=>(by cases h),fun _=>⟨fun h=>(by cases h),fun _=>?_⟩⟩
  cases o1
  ·exact ⟨fun h=>(by cases h),fun _=>⟨rfl,rfl⟩⟩
  ·exact ⟨fun _=>⟨rfl,rfl⟩,fun h=>(by cases h)⟩
theorem akF (x:Fe):m8 x=CK powC iK mulC (fun x=>mulC x x) CT bc Rt qd x:=rfl
noncomputable abbrev ao3:au:=e1P m8
theorem RO (pow:Fe→List Int→Fe) (exp:Int→Int→List Int) (mul:Fe→Fe→Fe) (sq neg:Fe→Fe) (eq:Fe→Fe→Bool) (odd:Fe→Bool) (sm:Int→Fe) (x:Fe):aY Tryz.prog [(167,ePw pow),(168,eEx exp),(130,l8 mul),(169,C2 sq),(182,C2 neg),(181,e2B eq),(93,Ym odd),(131,Iz sm)] [] Tryz.f178 ((s8).wr (x,())) [] kK= .need ((exp 254 15).length=32) (.ite (!(eq (sq (pow x (exp 254 15))) x)) (.need ((exp 251 31).length=32) (.ite (!(eq (sq (mul (pow x (exp 254 15)) (pow (sm 2) (exp 251 31)))) x)) (.leaf (gJ (dQ,false)) []) (.ite (odd (mul (pow x (exp 254 15)) (pow (sm 2) (exp 251 31)))) (.leaf (gJ (neg (mul (pow x (exp 254 15)) (pow (sm 2) (exp 251 31))),true)) []) (.leaf (gJ (mul (pow x (exp 254 15)) (pow (sm 2) (exp 251 31)),true)) [])))) (.ite (!(eq (sq (pow x (exp 254 15))) x)) (.leaf (gJ (dQ,false)) []) (.ite (odd (pow x (exp 254 15))) (.leaf (gJ (neg (pow x (exp 254 15)),true)) []) (.leaf (gJ (pow x (exp 254 15),true)) [])))):=by kernel_rfl
theorem RP: ∀ p_∈([(167,ePw IA),(168,eEx C3),(130,l8 mulC),(169,C2 (fun x=>mulC x x)),(182,C2 CT),(181,e2B Rt),(93,Ym qd),(131,Iz bc)]:List (FuncId×au)),p_.2.Ok Tryz.prog p_.1:=(ao U2 (ao Mf (ao jC (ao U3 (ao agh (ao akB (ao Me (ao kQ aD))))))))
theorem agk:ao3.Ok Tryz.prog 178:=by
 refine (au.bE Tryz.call178 fun x_ y_ Q H_=>?_).sym
 obtain ⟨x,_⟩:=x_
 have hq:=H_.2
 refine (aG (tab:= [(167,ePw IA),(168,eEx C3),(130,l8 mulC),(169,C2 (fun x=>mulC x x)),(182,C2 CT),(181,e2B Rt),(93,Ym qd),(131,Iz bc)]) mixed RP Tryz.func178 rfl (LT:= []) (ks:=kK) (aP.nil _)).use (D:= []) ?_ hq
 show (aY _ _ _ _ ((s8).wr (x,())) [] _).sat _
 rw[RO IA C3 mulC (fun x=>mulC x x) CT Rt qd bc]
 simp only[Mb]
 exact agj (C4 _ _) (C4 _ _) ((akF x).trans (akE _ _ _ _ _ _ _ _ x))
theorem agl (u v:Fe):lX u v=(kL (fh v) dQ (m8 (mulC u (jO v))).1,bif fh v then fh u else (m8 (mulC u (jO v))).2):=by unfold lX;rfl
theorem Yt {z zu:Bool} {s r:Fe×Bool} (hr:r=(kL z dQ s.1,bif z then zu else s.2)):(Ev.End.ite z (.leaf (gJ (dQ,zu)) []) (.leaf (gJ s) [])).sat fun v ft=>v=gJ r∧ft= []:=by
 subst hr
 rw[ez]
 cases z
 ·exact ⟨fun h=>(by cases h),fun _=>⟨rfl,rfl⟩⟩
 ·exact ⟨fun _=>⟨rfl,rfl⟩,fun h=>(by cases h)⟩
noncomputable abbrev akG:au:=e2P lX
theorem Mg (mul:Fe→Fe→Fe) (inv:Fe→Fe) (isz:Fe→Bool) (sqrt:Fe→Fe×Bool) (u v:Fe):aY Tryz.prog [(130,l8 mul),(132,C2 inv),(177,Ym isz),(178,e1P sqrt)] [] Tryz.f170 ((m9).wr (u,v,())) [] kK= .ite (isz v) (.leaf (gJ (dQ,isz u)) []) (.leaf (gJ (sqrt (mul u (inv v)))) []):=by kernel_rfl
theorem Mh: ∀ p_∈([(130,l8 mulC),(132,C2 jO),(177,Ym fh),(178,e1P m8)]:List (FuncId×au)),p_.2.Ok Tryz.prog p_.1:=(ao jC (ao IB (ao Yq (ao agk aD))))
theorem Yu:akG.Ok Tryz.prog 170:=by
 refine (au.bE Tryz.call170 fun x_ y_ Q H_=>?_).sym
 obtain ⟨u,v,_⟩:=x_
 have hq:=H_.2
 refine (aG (tab:= [(130,l8 mulC),(132,C2 jO),(177,Ym fh),(178,e1P m8)]) mixed Mh Tryz.func170 rfl (LT:= []) (ks:=kK) (aP.nil _)).use (D:= []) ?_ hq
 show (aY _ _ _ _ ((m9).wr (u,v,())) [] _).sat _
 rw[Mg mulC jO fh m8]
 exact Yt (agl u v)
end Go.Proofs.YtjalaohajcpllaaGreat
end
section
set_option linter.unusedVariables false
set_option linter.unusedSimpArgs false
namespace Go.Proofs.YtjalaohajcpllaaGreat
open Go Go.Ev BJ
set_option maxRecDepth 1000000
abbrev C5:a9 LV Pt:=FZ (ae Td (Rg .u64 (Rg .u64 (Rg .u64 (kY .u64 5) 5) 5) 5))
abbrev ptA:a9 (List LV) (Pt×Unit):=ae C5 ag
abbrev ao4:a9 (List LV) (Pt×Pt×Unit):=ae C5 (ae C5 ag)
def eFr (g:List Int→Fe):au:=au.bV [] yq ag fun x _=> .leaf none (lY.wr (g x.1)) []
def e0F (c:Fe):au:=au.bV [] ag ag fun _ _=> .leaf none (lY.wr c) []
def e0Q (c:Pt):au:=au.bV [] ag ag fun _ _=> .leaf none (C5.wr c) []
def eAf (g:Fe→Fe→Pt):au:=au.bV [] m9 ag fun x _=> .leaf none (C5.wr (g x.1 x.2.1)) []
def Yv (g:Pt→Pt):au:=au.bV [] ptA ag fun x _=> .leaf none (C5.wr (g x.1)) []
def e2Q (g:Pt→Pt→Pt):au:=au.bV [] ao4 ag fun x _=> .leaf none (C5.wr (g x.1 x.2.1)) []
noncomputable def C6 (b:List Int):Fe:=n5 (As b)
theorem ago:afZ=eFr C6:=by kernel_rfl
theorem Yw:(eFr C6).Ok Tryz.prog 176:=ago▸af0
theorem Yx:jB=C6 mZ.toList:=by unfold C6;rw[RM];rfl
noncomputable abbrev ao7:au:=e0F jB
theorem RQ (frm:List Int→Fe):aY Tryz.prog [(176,eFr frm)] [] Tryz.f163 ((ag).wr ()) [] kK= .leaf (lY.wr (frm mZ.toList)) []:=by kernel_rfl
theorem RR: ∀ p_∈([(176,eFr C6)]:List (FuncId×au)),p_.2.Ok Tryz.prog p_.1:=(ao Yw aD)
theorem Mi:ao7.Ok Tryz.prog 163:=by
 refine (au.bE Tryz.call163 fun x_ y_ Q H_=>?_).sym
 have hq:=H_.2
 refine (aG (tab:= [(176,eFr C6)]) mixed RR Tryz.func163 rfl (LT:= []) (ks:=kK) (aP.nil _)).use (D:= []) ?_ hq
 show (aY _ _ _ _ ((ag).wr ()) [] _).sat _
 rw[RQ C6]
 rw[Yx];exact ⟨rfl,rfl⟩
noncomputable abbrev agp:au:=eAf gL
theorem IC (mul:Fe→Fe→Fe) (sm:Int→Fe) (x y:Fe):aY Tryz.prog [(130,l8 mul),(131,Iz sm)] [] Tryz.f134 ((m9).wr (x,y,())) [] kK= .leaf (C5.wr (true,x,y,sm 1,mul x y)) []:=by kernel_rfl
theorem ID: ∀ p_∈([(130,l8 mulC),(131,Iz bc)]:List (FuncId×au)),p_.2.Ok Tryz.prog p_.1:=(ao jC (ao kQ aD))
theorem C7:agp.Ok Tryz.prog 134:=by
 refine (au.bE Tryz.call134 fun x_ y_ Q H_=>?_).sym
 obtain ⟨x,y,_⟩:=x_
 have hq:=H_.2
 refine (aG (tab:= [(130,l8 mulC),(131,Iz bc)]) mixed ID Tryz.func134 rfl (LT:= []) (ks:=kK) (aP.nil _)).use (D:= []) ?_ hq
 show (aY _ _ _ _ ((m9).wr (x,y,())) [] _).sat _
 rw[IC mulC bc]
 exact ⟨rfl,rfl⟩
noncomputable abbrev ao8:au:=e0Q iL
theorem RS (af:Fe→Fe→Pt) (sm:Int→Fe):aY Tryz.prog [(134,eAf af),(131,Iz sm)] [] Tryz.f126 ((ag).wr ()) [] kK= .leaf (C5.wr (af dQ (sm 1))) []:=by kernel_rfl
theorem RT: ∀ p_∈([(134,eAf gL),(131,Iz bc)]:List (FuncId×au)),p_.2.Ok Tryz.prog p_.1:=(ao C7 (ao kQ aD))
theorem Mj:ao8.Ok Tryz.prog 126:=by
 refine (au.bE Tryz.call126 fun x_ y_ Q H_=>?_).sym
 have hq:=H_.2
 refine (aG (tab:= [(134,eAf gL),(131,Iz bc)]) mixed RT Tryz.func126 rfl (LT:= []) (ks:=kK) (aP.nil _)).use (D:= []) ?_ hq
 show (aY _ _ _ _ ((ag).wr ()) [] _).sat _
 rw[RS gL bc]
 exact ⟨rfl,rfl⟩
theorem U4 (p:Pt):fV p=bif !p.1 then iL else p:=by unfold fV afn;rw[wF]
theorem U6 {t:Bool} {V W X:LV} (h1:t=true→V=X) (h2:t=false→W=X):(Ev.End.ite t (.leaf V []) (.leaf W [])).sat fun v ft=>v=X∧ft= []:=⟨fun h=>⟨h1 h,rfl⟩,fun h=>⟨h2 h,rfl⟩⟩
noncomputable abbrev atb:au:=Yv fV
theorem Yy (z:Pt) (p:Pt):aY Tryz.prog [(126,e0Q z)] [] Tryz.f135 ((ptA).wr (p,())) [] kK= .ite (!p.1) (.leaf (C5.wr z) []) (.leaf (C5.wr p) []):=by kernel_rfl
theorem Yz: ∀ p_∈([(126,e0Q iL)]:List (FuncId×au)),p_.2.Ok Tryz.prog p_.1:=(ao Mj aD)
theorem U7:atb.Ok Tryz.prog 135:=by
 refine (au.bE Tryz.call135 fun x_ y_ Q H_=>?_).sym
 obtain ⟨p,_⟩:=x_
 have hq:=H_.2
 refine (aG (tab:= [(126,e0Q iL)]) mixed Yz Tryz.func135 rfl (LT:= []) (ks:=kK) (aP.nil _)).use (D:= []) ?_ hq
 show (aY _ _ _ _ ((ptA).wr (p,())) [] _).sat _
 rw[Yy iL]
 exact U6 (fun h=>by rw[U4,h];rfl) (fun h=>by rw[U4,h];rfl)
noncomputable abbrev ao9:au:=e1P y6
theorem RU (mul add sub:Fe→Fe→Fe) (sq:Fe→Fe) (sm:Int→Fe) (ed:Fe) (ratio:Fe→Fe→Fe×Bool) (y:Fe):aY Tryz.prog [(130,l8 mul),(162,l8 add),(161,l8 sub),(169,C2 sq),(131,Iz sm),(163,e0F ed),(170,e2P ratio)] [] Tryz.f133 ((s8).wr (y,())) [] kK= .leaf (gJ (ratio (sub (sq y) (sm 1)) (add (mul ed (sq y)) (sm 1)))) []:=by kernel_rfl
theorem RV: ∀ p_∈([(130,l8 mulC),(162,l8 jP),(161,l8 kZ),(169,C2 (fun x=>mulC x x)),(131,Iz bc),(163,e0F jB),(170,e2P lX)]:List (FuncId×au)),p_.2.Ok Tryz.prog p_.1:=(ao jC (ao Mc (ao Md (ao U3 (ao kQ (ao Mi (ao Yu aD)))))))
theorem agq:ao9.Ok Tryz.prog 133:=by
 refine (au.bE Tryz.call133 fun x_ y_ Q H_=>?_).sym
 obtain ⟨y,_⟩:=x_
 have hq:=H_.2
 refine (aG (tab:= [(130,l8 mulC),(162,l8 jP),(161,l8 kZ),(169,C2 (fun x=>mulC x x)),(131,Iz bc),(163,e0F jB),(170,e2P lX)]) mixed RV Tryz.func133 rfl (LT:= []) (ks:=kK) (aP.nil _)).use (D:= []) ?_ hq
 show (aY _ _ _ _ ((s8).wr (y,())) [] _).sat _
 rw[RU mulC jP kZ (fun x=>mulC x x) bc jB lX]
 exact ⟨rfl,rfl⟩
noncomputable abbrev apa:au:=e0Q qe
theorem RW (mul:Fe→Fe→Fe) (sm:Int→Fe) (inv:Fe→Fe) (root:Fe→Fe×Bool) (af:Fe→Fe→Pt):aY Tryz.prog [(130,l8 mul),(131,Iz sm),(132,C2 inv),(133,e1P root),(134,eAf af)] [] Tryz.f90 ((ag).wr ()) [] kK= .leaf (C5.wr (af (root (mul (sm 4) (inv (sm 5)))).1 (mul (sm 4) (inv (sm 5))))) []:=by kernel_rfl
theorem RX: ∀ p_∈([(130,l8 mulC),(131,Iz bc),(132,C2 jO),(133,e1P y6),(134,eAf gL)]:List (FuncId×au)),p_.2.Ok Tryz.prog p_.1:=(ao jC (ao kQ (ao IB (ao agq (ao C7 aD)))))
theorem agr:apa.Ok Tryz.prog 90:=by
 refine (au.bE Tryz.call90 fun x_ y_ Q H_=>?_).sym
 have hq:=H_.2
 refine (aG (tab:= [(130,l8 mulC),(131,Iz bc),(132,C2 jO),(133,e1P y6),(134,eAf gL)]) mixed RX Tryz.func90 rfl (LT:= []) (ks:=kK) (aP.nil _)).use (D:= []) ?_ hq
 show (aY _ _ _ _ ((ag).wr ()) [] _).sat _
 rw[RW mulC bc jO y6 gL]
 exact ⟨rfl,rfl⟩
def e4Q (g:Fe→Fe→Fe→Fe→Pt):au:=au.bV [] (ae lY (ae lY (ae lY (ae lY ag)))) ag fun x _=> .leaf none (C5.wr (g x.1 x.2.1 x.2.2.1 x.2.2.2.1)) []
noncomputable abbrev akI:au:=e4Q oa
theorem Mk (mul:Fe→Fe→Fe) (e f g h:Fe):aY Tryz.prog [(130,l8 mul)] [] Tryz.f164 (((ae lY (ae lY (ae lY (ae lY ag))))).wr (e,f,g,h,())) [] kK= .leaf (C5.wr (true,mul e f,mul g h,mul f g,mul e h)) []:=by kernel_rfl
theorem Ml: ∀ p_∈([(130,l8 mulC)]:List (FuncId×au)),p_.2.Ok Tryz.prog p_.1:=(ao jC aD)
theorem YA:akI.Ok Tryz.prog 164:=by
 refine (au.bE Tryz.call164 fun x_ y_ Q H_=>?_).sym
 obtain ⟨e,f,g,h,_⟩:=x_
 have hq:=H_.2
 refine (aG (tab:= [(130,l8 mulC)]) mixed Ml Tryz.func164 rfl (LT:= []) (ks:=kK) (aP.nil _)).use (D:= []) ?_ hq
 show (aY _ _ _ _ (((ae lY (ae lY (ae lY (ae lY ag))))).wr (e,f,g,h,())) [] _).sat _
 rw[Mk mulC]
 exact ⟨rfl,rfl⟩
noncomputable abbrev atc:au:=e2Q eD
theorem YB (mul add sub:Fe→Fe→Fe) (ed:Fe) (own:Pt→Pt) (UN:Fe→Fe→Fe→Fe→Pt) (p q:Pt):aY Tryz.prog [(130,l8 mul),(162,l8 add),(161,l8 sub),(163,e0F ed),(135,Yv own),(164,e4Q UN)] [] Tryz.f129 ((ao4).wr (p,q,())) [] kK= .leaf (C5.wr (addFn mul add sub ed own UN p q)) []:=by kernel_rfl
theorem YC: ∀ p_∈([(130,l8 mulC),(162,l8 jP),(161,l8 kZ),(163,e0F jB),(135,Yv fV),(164,e4Q oa)]:List (FuncId×au)),p_.2.Ok Tryz.prog p_.1:=(ao jC (ao Mc (ao Md (ao Mi (ao U7 (ao YA aD))))))
theorem IE:atc.Ok Tryz.prog 129:=by
 refine (au.bE Tryz.call129 fun x_ y_ Q H_=>?_).sym
 obtain ⟨p,q,_⟩:=x_
 have hq:=H_.2
 refine (aG (tab:= [(130,l8 mulC),(162,l8 jP),(161,l8 kZ),(163,e0F jB),(135,Yv fV),(164,e4Q oa)]) mixed YC Tryz.func129 rfl (LT:= []) (ks:=kK) (aP.nil _)).use (D:= []) ?_ hq
 show (aY _ _ _ _ ((ao4).wr (p,q,())) [] _).sat _
 rw[YB mulC jP kZ jB fV oa]
 exact ⟨rfl,rfl⟩
noncomputable abbrev ags:au:=Yv dm
theorem IF (add:Pt→Pt→Pt) (p:Pt):aY Tryz.prog [(129,e2Q add)] [] Tryz.f127 ((ptA).wr (p,())) [] kK= .leaf (C5.wr (add p p)) []:=by kernel_rfl
theorem IG: ∀ p_∈([(129,e2Q eD)]:List (FuncId×au)),p_.2.Ok Tryz.prog p_.1:=(ao IE aD)
theorem C8:ags.Ok Tryz.prog 127:=by
 refine (au.bE Tryz.call127 fun x_ y_ Q H_=>?_).sym
 obtain ⟨p,_⟩:=x_
 have hq:=H_.2
 refine (aG (tab:= [(129,e2Q eD)]) mixed IG Tryz.func127 rfl (LT:= []) (ks:=kK) (aP.nil _)).use (D:= []) ?_ hq
 show (aY _ _ _ _ ((ptA).wr (p,())) [] _).sat _
 rw[IF eD]
 exact ⟨rfl,rfl⟩
def ePl (g:Pt→Fe×Fe):au:=au.bV [] ptA ag fun x _=> .leaf none (.cV [.agg ((kY .u64 5).wr (g x.1).1),.agg ((kY .u64 5).wr (g x.1).2)]) []
noncomputable abbrev akJ:au:=ePl jf
theorem Mm (mul:Fe→Fe→Fe) (inv:Fe→Fe) (own:Pt→Pt) (p:Pt):aY Tryz.prog [(130,l8 mul),(132,C2 inv),(135,Yv own)] [] Tryz.f91 ((ptA).wr (p,())) [] kK= .leaf (.cV [.agg ((kY .u64 5).wr (mul (own p).2.1 (inv (own p).2.2.2.1))),.agg ((kY .u64 5).wr (mul (own p).2.2.1 (inv (own p).2.2.2.1)))]) []:=by kernel_rfl
theorem Mn: ∀ p_∈([(130,l8 mulC),(132,C2 jO),(135,Yv fV)]:List (FuncId×au)),p_.2.Ok Tryz.prog p_.1:=(ao jC (ao IB (ao U7 aD)))
theorem YD:akJ.Ok Tryz.prog 91:=by
 refine (au.bE Tryz.call91 fun x_ y_ Q H_=>?_).sym
 obtain ⟨p,_⟩:=x_
 have hq:=H_.2
 refine (aG (tab:= [(130,l8 mulC),(132,C2 jO),(135,Yv fV)]) mixed Mn Tryz.func91 rfl (LT:= []) (ks:=kK) (aP.nil _)).use (D:= []) ?_ hq
 show (aY _ _ _ _ ((ptA).wr (p,())) [] _).sat _
 rw[Mm mulC jO fV]
 exact ⟨rfl,rfl⟩
def eBy (g:Fe→List Int):au:=au.bV [] s8 ag fun x _=> .leaf none (jI .u8 32 (g x.1)) []
def eEn (g:Pt→List Int):au:=au.bV [] ptA ag fun x _=> .leaf none (jI .u8 32 (g x.1)) []
noncomputable def og (x:Fe):List Int:=(fg x).toList
noncomputable def dJ (p:Pt):List Int:=(wP p).toList
theorem YE:Au=eBy og:=by kernel_rfl
theorem RY:(eBy og).Ok Tryz.prog 92:=YE▸yr
theorem akK {f:Int→Int} (v:fM):(Vec.zk f 31 v).toList=v.toList.set 31 (f (v.toList.getD 31 0)):=by
 have h:=aks (Vec.ee v) (k:=31) (by omega) f
 rw[RM] at h
 rw[← h,kP (by rw[List.length_set];exact Vec.ee v)]
theorem E2 (p:Pt):dJ p=bif qd (jf p).1 then (og (jf p).2).set 31 (bD .u8 ((og (jf p).2).getD 31 0) 128) else og (jf p).2:=by
 unfold dJ wP CL og
 simp only[ez]
 generalize fg (jf p).2=v
 cases qd (jf p).1
 ·rfl
 ·exact akK v
noncomputable abbrev agt:au:=eEn dJ
theorem IH (pl:Pt→Fe×Fe) (byt:Fe→List Int) (odd:Fe→Bool) (p:Pt):aY Tryz.prog [(91,ePl pl),(92,eBy byt),(93,Ym odd)] [] Tryz.f53 ((ptA).wr (p,())) [] kK= .ite (odd (pl p).1) (.leaf (jI .u8 32 ((byt (pl p).2).set 31 (bD .u8 ((byt (pl p).2).getD 31 0) 128))) []) (.leaf (jI .u8 32 (byt (pl p).2)) []):=by kernel_rfl
theorem II: ∀ p_∈([(91,ePl jf),(92,eBy og),(93,Ym qd)]:List (FuncId×au)),p_.2.Ok Tryz.prog p_.1:=(ao YD (ao RY (ao Me aD)))
theorem C9:agt.Ok Tryz.prog 53:=by
 refine (au.bE Tryz.call53 fun x_ y_ Q H_=>?_).sym
 obtain ⟨p,_⟩:=x_
 have hq:=H_.2
 refine (aG (tab:= [(91,ePl jf),(92,eBy og),(93,Ym qd)]) mixed II Tryz.func53 rfl (LT:= []) (ks:=kK) (aP.nil _)).use (D:= []) ?_ hq
 show (aY _ _ _ _ ((ptA).wr (p,())) [] _).sat _
 rw[IH jf og qd]
 exact U6 (fun h=>by rw[E2,h];rfl) (fun h=>by rw[E2,h];rfl)
end Go.Proofs.YtjalaohajcpllaaGreat
end
