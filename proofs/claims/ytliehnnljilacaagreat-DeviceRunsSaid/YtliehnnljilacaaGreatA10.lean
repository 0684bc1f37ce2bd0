/- What the laws lean on, part 10: a reader of code, plain facts, and what each function gives; no conditions. -/
import Derived.Test.YtliehnnljilacaaGreatA9
noncomputable section
open Go.IntKind (i64 signed u16 u32 u64 wrap wrap_u32)
set_option linter.unusedVariables false
set_option linter.unusedSimpArgs false
namespace Go.Proofs.YtliehnnljilacaaGreat
open Go Go.Ev BJ Go.Proofs.Tryz
set_option maxRecDepth 1000000
theorem adm{x y c:Int}(hx:U64 x)(hy:U64 y)(hc:c=0∨c=1):pT x y c=((x-y-c)%18446744073709551616,if x<y+c then 1 else 0):=by
 unfold U64 at hx hy;obtain⟨a,rfl⟩:=Int.eq_ofNat_of_zero_le hx.1;obtain⟨b,rfl⟩:=Int.eq_ofNat_of_zero_le hy.1;obtain⟨d,rfl⟩:∃d:Nat,c=(d:Int):=by rcases hc with rfl|rfl;exact⟨0,rfl⟩;exact⟨1,rfl⟩
 simp only[pT,Int.toNat_natCast];have e:(2:Nat) ^ 64=18446744073709551616:=by decide
 rw[e];refine Prod.ext ?_ ?_
 ·show(((a+18446744073709551616-b-d)%18446744073709551616:Nat):Int)=_;omega
 ·show(if a<b+d then(1:Int)else 0)=_;by_cases h:a<b+d
  ·rw[if_pos h,if_pos (by omega)]
  ·rw[if_neg h,if_neg (by omega)]
theorem A8{B:Int}(hB:1≤B){a b:Nat}(h:a≤b):B ^ a≤B ^ b:=by
 obtain⟨d,rfl⟩:∃d,b=a+d:=⟨b-a,by omega⟩;rw[Int.pow_add];have h1:0<B ^ a:=Int.pow_pos (by omega);have h2:0<B ^ d:=Int.pow_pos (by omega);have:=Int.mul_le_mul_of_nonneg_left (show 1≤B ^ d by omega) (Int.le_of_lt h1);rwa [Int.mul_one]at this
theorem aAt(k m:Nat):(k:Int).tmod (m:Int)=((k%m:Nat):Int):=by rw[Int.tmod_eq_emod_of_nonneg (by omega),← Int.natCast_emod]
abbrev qq:Int:=18446744073709551616
theorem dX:0<qq:=by decide
theorem Jz:qq=256 ^ 8:=by decide
theorem aN3:qq=2 ^ 64:=by decide
theorem wZ(s:Nat):((2 ^ (s*8):Nat):Int)=256 ^ s:=by
 rw[Nat.mul_comm,Nat.pow_mul,Int.natCast_pow];rfl
theorem Hi{b:Int}(hb:0<b){m:Nat}(hm:0<m){l:ab}(h:kG (b ^ m) l){k:Nat}(hk:k/m<l.length):l.getD (k/m) 0/b ^ (k%m)%b=vd (b ^ m) l/b ^ k%b:=by
 have hB:0<b ^ m:=Int.pow_pos hb;rw[as4 hB h hk];have iZ:=Nat.mod_lt k hm;have e1:(b ^ m)=b ^ (k%m)*b*b ^ (m-(k%m+1)):=by rw[← Int.pow_succ,← Int.pow_add];congr 1;omega
 rw[Gk (b ^ (k%m)) (b ^ m) (Int.pow_pos hb) hB b hb ⟨_,e1⟩];rw[Int.ediv_ediv_of_nonneg (Int.le_of_lt (Int.pow_pos hB)),← Int.pow_mul,← Int.pow_add];congr 3;have:=Nat.div_add_mod k m;exact this
theorem aFX{B:Int}(hB:0<B)(n:Nat)(x:Int):(List.range n).map (fun i=>x/B ^ i%B)=dg B n x:=by
 apply List.ext_getElem?;intro i;rcases Nat.lt_or_ge i n with h|h
 ·have e:=wY hB (x:=x) h;rw[List.getD_eq_getElem?_getD,List.getElem?_eq_getElem (by rw[fQ];exact h)]at e;rw[List.getElem?_eq_getElem (l:=dg B n x) (by rw[fQ];exact h),List.getElem?_map,List.getElem?_range h];simpa using e.symm
 ·rw[List.getElem?_eq_none (by simpa using h),List.getElem?_eq_none (by rw[fQ];exact h)]
def A9(b:ab):ab:=dg qq 8 (vd 256 b)
def zr(w:ab):ab:=dg 256 32 (vd qq w)
theorem as6{b:ab}(hb:bL b)(hl:b.length≤64){k:Nat}(hk:k<b.length):(A9 (b.take k)).set (k/8) (cV .u64 ((A9 (b.take k)).getD (k/8) 0) (shl .u64 (u64.wrap (b.getD k 0)) ((k%8*8:Nat):Int)))=A9 (b.take (k+1)):=by
 have mw:kG 256 b:=hb;have hc:=kG.getD (by decide) mw k;have hV0:=jg (by decide) (mw.take k);have hV1:=wW (by decide) (mw.take k);rw[List.length_take,Nat.min_eq_left (by omega)]at hV1;unfold A9;rw[jh hk];generalize vd 256 (b.take k)=V at*;generalize b.getD k 0=c at*;have hi:k/8<8:=by omega
 have hs:k%8<8:=by omega
 have px:k=8*(k/8)+k%8:=(Nat.div_add_mod k 8).symm;have hp:(256:Int) ^ k=qq ^ (k/8)*256 ^ (k%8):=by rw[Jz,← Int.pow_mul,← Int.pow_add,← px]
 have hQ:0<qq ^ (k/8):=Int.pow_pos dX;have hle:(256:Int) ^ (k%8)*256≤qq:=by
  rw[← Int.pow_succ,Jz];exact A8 (by decide) (by omega)
 have hP:(0:Int)<256 ^ (k%8):=Int.pow_pos (by decide);have hdl:V/qq ^ (k/8)<256 ^ (k%8):=Int.ediv_lt_of_lt_mul hQ (by rw[Int.mul_comm,← hp];exact hV1);have hd0:0≤V/qq ^ (k/8):=Int.ediv_nonneg hV0 (Int.le_of_lt hQ);have eg:(dg qq 8 V).getD (k/8) 0=V/qq ^ (k/8):=by
  rw[wY dX hi,Int.emod_eq_of_lt hd0 (by omega)]
 rw[eg];have ew:u64.wrap c=c:=wrap_u64 hc.1 (by omega);have hcP:c*256 ^ (k%8)≤255*256 ^ (k%8):=Int.mul_le_mul_of_nonneg_right (by omega) (by omega);have aN4:0≤c*256 ^ (k%8):=Int.mul_nonneg hc.1 (by omega);have es:shl .u64 c ((k%8*8:Nat):Int)=c*256 ^ (k%8):=by
  rw[mU .u64 c _ (by simp[IntKind.bits];omega),wZ,wrap_u64 aN4 (by unfold qq at hle;omega)]
 have hdiv:c*256 ^ (k%8)%((2 ^ (k%8*8):Nat):Int)=0:=by rw[wZ];exact Int.mul_emod_left _ _
 have eo:cV .u64 (V/qq ^ (k/8)) (c*256 ^ (k%8))=V/qq ^ (k/8)+c*256 ^ (k%8):=by
  rw[nv,Ds (m:=k%8*8) aN4 hdiv hd0 (by rw[wZ];exact hdl) (by unfold qq at hle;omega),Int.add_comm]
 rw[ew,es,eo];refine Qc dX ((wV dX 8 V).set ⟨by omega,by omega⟩) (by rw[List.length_set,fQ]) ?_;rw[TP (by rw[fQ];exact hi),eg,wX dX];have e2:(256:Int) ^ 64=qq ^ 8:=by decide
 have hV2:V<qq ^ 8:=Int.lt_of_lt_of_le hV1 (by rw[← e2];exact A8 (by decide) (by omega));rw[Int.emod_eq_of_lt hV0 hV2];have e3:(V/qq ^ (k/8)+c*256 ^ (k%8)-V/qq ^ (k/8))*qq ^ (k/8)=c*256 ^ k:=by
  rw[hp,Int.mul_comm (qq ^ (k/8)),← Int.mul_assoc];congr 1;omega
 rw[e3];have iZ:V+c*256 ^ k<qq ^ 8:=by
  have h1:c*256 ^ k≤255*256 ^ k:=Int.mul_le_mul_of_nonneg_right (by omega) (Int.le_of_lt (Int.pow_pos (by decide)));have h2:(256:Int) ^ (k+1)≤256 ^ 64:=A8 (by decide) (by omega);rw[Int.pow_succ]at h2;rw[← e2];omega
 exact(Int.emod_eq_of_lt (Int.add_nonneg hV0 (Int.mul_nonneg hc.1 (Int.le_of_lt (Int.pow_pos (by decide))))) iZ).symm
theorem ahZ{w:ab}(h:kG qq w)(hl:w.length=8){k:Nat}(hk:k<64):IntKind.u8.wrap (shr .u64 (w.getD (k/8) 0) ((k%8*8:Nat):Int))=vd qq w/256 ^ k%256:=by
 rw[wo .u64 _ _ (by simp[IntKind.bits];omega),wZ,wrap_u8];have h':kG (256 ^ 8) w:=by rw[← Jz];exact h
 have:=Hi (b:=256) (by decide) (by decide:0<8) h' (k:=k) (by omega);rw[this,← Jz]
def qG(w:ab)(i:Int):Int:=vd qq w/2 ^ i.toNat%2
theorem adn{w:ab}(h:kG qq w)(hl:w.length=8){k:Nat}(hk:k<512):dz .u64 (shr .u64 (w.getD (k/64) 0) ((k%64:Nat):Int)) 1=qG w (k:Int):=by
 rw[wo .u64 _ _ (by simp[IntKind.bits];omega),Xm (m:=1) (by decide) _ 1 (by decide)];have h':kG (2 ^ 64) w:=by rw[← aN3];exact h
 have:=Hi (b:=2) (by decide) (by decide:0<64) h' (k:=k) (by omega);unfold qG;rw[Int.toNat_natCast,aN3,← this];simp
structure Part (k:Nat) (w o:ab):Prop where
 len:o.length=8
 inb:kG qq o
 rest:∀j,k≤j→o.getD j 0=w.getD j 0
theorem Part.step{k:Nat}{w o:ab}(h:Part k w o){z:Int}(hk:k<8)(hz:0≤z∧z<qq):Part (k+1) w (o.set k z)∧vd qq ((o.set k z).take (k+1))=vd qq (o.take k)+z*qq ^ k:=by
 obtain⟨h1,h2,h3⟩:=h;have hg:(o.set k z).getD k 0=z:=by rw[List.getD_eq_getElem?_getD];simp[show k<o.length by omega]
 refine⟨⟨by rw[List.length_set,h1],h2.set hz,fun j hj=>?_⟩,?_⟩
 ·rw[← h3 j (by omega),List.getD_eq_getElem?_getD,List.getD_eq_getElem?_getD,List.getElem?_set_ne (by omega)]
 ·rw[jh (by rw[List.length_set];omega),hg,List.take_set_of_le (Nat.le_refl _)]
def jG(w x:ab):ab×Int:=(dg qq 8 (vd qq w-vd qq x),if vd qq w<vd qq x then 1 else 0)
def pX(w x:ab):ab:=dg qq 8 (vd qq w+vd qq x)
def Hj(sb:Int→Int→Int→Int×Int)(x:ab)(k:Nat)(o:ab×Int):ab×Int:=(o.1.set k (sb (o.1.getD k 0) (x.getD k 0) o.2).1,(sb (o.1.getD k 0) (x.getD k 0) o.2).2)
def X3(w x:ab)(k:Nat)(o:ab×Int):Prop:=Part k w o.1∧(o.2=0∨o.2=1)∧vd qq (o.1.take k)=vd qq (w.take k)-vd qq (x.take k)+o.2*qq ^ k
theorem Hk{w x:ab}(hw:kG qq w)(hx:kG qq x)(lw:w.length=8)(lx:x.length=8){k:Nat}{o:ab×Int}(hk:k<8)(h:X3 w x k o):X3 w x (k+1) (Hj pT x k o):=by
 obtain⟨hp,hc,hv⟩:=h;obtain⟨o,c⟩:=o;simp only at hp hc hv;have h1:=kG.getD dX hp.inb k;have h2:=kG.getD dX hx k;have e:=adm (x:=o.getD k 0) (y:=x.getD k 0) (c:=c) h1 h2 hc;have gQ:=hp.rest k (Nat.le_refl _);unfold Hj;rw[e];have hz:0≤(o.getD k 0-x.getD k 0-c)%18446744073709551616∧(o.getD k 0-x.getD k 0-c)%18446744073709551616<qq:=⟨Int.emod_nonneg _ (by decide),Int.emod_lt_of_pos _ (by decide)⟩;obtain⟨p1,p2⟩:=hp.step hk hz;refine⟨p1,by simp only;split<;>simp,?_⟩;simp only;rw[p2,hv,jh (by omega),jh (by omega),gQ,Int.pow_succ,Int.mul_comm (qq ^ k) qq,← Int.mul_assoc];rw[gQ]at h1;generalize w.getD k 0=a at*;generalize x.getD k 0=b at*;have key:c+(a-b-c)%18446744073709551616=a-b+(if a<b+c then(1:Int)else 0)*qq:=by
  unfold qq at*;split<;>omega
 have e2:c*qq ^ k+(a-b-c)%18446744073709551616*qq ^ k=(a-b+(if a<b+c then(1:Int)else 0)*qq)*qq ^ k:=by rw[← key,Int.add_mul]
 rw[Int.add_mul,Int.sub_mul]at e2;omega
theorem ah0{w x:ab}(hw:kG qq w)(hx:kG qq x)(lw:w.length=8)(lx:x.length=8):upto (Hj pT x) 0 8 (w,0)=jG w x:=by
 have h:=wm (f:=Hj pT x) (X3 w x) (n:=8) (fun k o hk h=>Hk hw hx lw lx hk h) 8 0 (w,0) (by omega) ⟨⟨lw,hw,fun _ _=>rfl⟩,.inl rfl,by simp[vd]⟩;generalize upto (Hj pT x) 0 8 (w,0)=o at*;obtain⟨o,c⟩:=o;obtain⟨hp,hc,hv⟩:=h;simp only at hp hc hv;simp only[Nat.zero_add]at hp hv;rw[List.take_of_length_le (by rw[hp.len];decide),List.take_of_length_le (by omega),List.take_of_length_le (by omega)]at hv;have b1:=jg dX hp.inb;have b2:=wW dX hp.inb;have b3:=jg dX hw;have b4:=wW dX hw;have b5:=jg dX hx;have b6:=wW dX hx;rw[hp.len]at b2;rw[lw]at b4;rw[lx]at b6;unfold jG;refine Prod.ext (Qc dX hp.inb hp.len ?_) ?_
 ·rw[hv];have:vd qq w-vd qq x+c*qq ^ 8=vd qq w-vd qq x+qq ^ 8*c:=by rw[Int.mul_comm]
  have e:vd qq o=vd qq o%qq ^ 8:=(Int.emod_eq_of_lt b1 b2).symm;rw[hv,this,Int.add_mul_emod_self_left]at e;rw[this];exact e
 ·simp only;rcases hc with rfl|rfl
  ·rw[if_neg (by omega)]
  ·rw[if_pos (by omega)]
def Hl(ad:Int→Int→Int→Int×Int)(x:ab)(k:Nat)(o:ab×Int):ab×Int:=(o.1.set k (ad (o.1.getD k 0) (x.getD k 0) o.2).1,(ad (o.1.getD k 0) (x.getD k 0) o.2).2)
def as7(w x:ab)(k:Nat)(o:ab×Int):Prop:=Part k w o.1∧(o.2=0∨o.2=1)∧vd qq (o.1.take k)+o.2*qq ^ k=vd qq (w.take k)+vd qq (x.take k)
theorem Qd{w x:ab}(hw:kG qq w)(hx:kG qq x)(lw:w.length=8)(lx:x.length=8){k:Nat}{o:ab×Int}(hk:k<8)(h:as7 w x k o):as7 w x (k+1) (Hl gr x k o):=by
 obtain⟨hp,hc,hv⟩:=h;obtain⟨o,c⟩:=o;simp only at hp hc hv;have h1:=kG.getD dX hp.inb k;have h2:=kG.getD dX hx k;have e:=G9 (x:=o.getD k 0) (y:=x.getD k 0) (c:=c) h1.1 h2.1 (by omega);have gQ:=hp.rest k (Nat.le_refl _);unfold Hl;rw[e];have hz:0≤(o.getD k 0+x.getD k 0+c)%18446744073709551616∧(o.getD k 0+x.getD k 0+c)%18446744073709551616<qq:=⟨Int.emod_nonneg _ (by decide),Int.emod_lt_of_pos _ (by decide)⟩;obtain⟨p1,p2⟩:=hp.step hk hz;refine⟨p1,by simp only;unfold qq at h1 h2;omega,?_⟩;simp only;rw[p2,jh (by omega),jh (by omega),gQ,Int.pow_succ,Int.mul_comm (qq ^ k) qq,← Int.mul_assoc];rw[gQ]at h1;generalize w.getD k 0=a at*;generalize x.getD k 0=b at*;have key:(a+b+c)%18446744073709551616+(a+b+c)/18446744073709551616*qq=a+b+c:=by
  unfold qq at*;omega
 have e2:(a+b+c)%18446744073709551616*qq ^ k+(a+b+c)/18446744073709551616*qq*qq ^ k=(a+b+c)*qq ^ k:=by rw[← Int.add_mul,key]
 rw[Int.add_mul (a+b),Int.add_mul a]at e2;omega
theorem as8{w x:ab}(hw:kG qq w)(hx:kG qq x)(lw:w.length=8)(lx:x.length=8):(upto (Hl gr x) 0 8 (w,0)).1=pX w x:=by
 have h:=wm (f:=Hl gr x) (as7 w x) (n:=8) (fun k o hk h=>Qd hw hx lw lx hk h) 8 0 (w,0) (by omega) ⟨⟨lw,hw,fun _ _=>rfl⟩,.inl rfl,by simp[vd]⟩;generalize upto (Hl gr x) 0 8 (w,0)=o at*;obtain⟨o,c⟩:=o;obtain⟨hp,hc,hv⟩:=h;simp only at hp hc hv;simp only[Nat.zero_add]at hp hv;rw[List.take_of_length_le (by rw[hp.len];decide),List.take_of_length_le (by omega),List.take_of_length_le (by omega)]at hv;have b1:=jg dX hp.inb;have b2:=wW dX hp.inb;rw[hp.len]at b2;unfold pX;refine Qc dX hp.inb hp.len ?_;rw[← hv,Int.mul_comm,Int.add_mul_emod_self_left,Int.emod_eq_of_lt b1 b2]
def gZ:ab:= [6346243789798364141,1503914060200516822,0,1152921504606846976,0,0,0,0]
def ll:Int:=7237005577332262213973186563042994240857116359379907606001950938285454250989
theorem sJ:0<ll:=by decide
theorem Hm:vd qq gZ=ll:=by decide+kernel
theorem Qe:gZ.length=8∧kG qq gZ:=⟨rfl,by unfold kG gZ;decide⟩
def oX(r:ab)(b:Int):ab:=r.set 0 (cV .u64 (r.getD 0 0) b)
def TQ(and:ab→ab→ab)(less:ab→ab→ab×Int)(bit:ab→Int→Int)(o w:ab)(k:Nat)(r:ab):ab:=bif (less (oX (and r r) (bit w (511-(k:Int)))) o).2==0 then(less (oX (and r r) (bit w (511-(k:Int)))) o).1 else oX (and r r) (bit w (511-(k:Int)))
theorem as9(w:ab)(i:Int):0≤qG w i∧qG w i<2:=by unfold qG;omega
theorem qq8:(2:Int) ^ 254≤qq ^ 8:=by decide+kernel
theorem Qf:ll+ll<2 ^ 254:=by decide+kernel
theorem X4{R b:Int}(hR:0≤R∧R<ll)(hb:0≤b∧b<2):oX (dg qq 8 (R+R)) b=dg qq 8 (2*R+b):=by
 have h1:2*R+b<qq ^ 8:=Int.lt_of_lt_of_le (by have:=Qf;omega) qq8;have h2:R+R<qq ^ 8:=Int.lt_of_lt_of_le (by have:=Qf;omega) qq8;have hg:(dg qq 8 (R+R)).getD 0 0=(R+R)%qq:=by rw[wY dX (by decide)];simp
 have hm:0≤(R+R)%qq:=Int.emod_nonneg (R+R) (show qq≠0 by decide);have hl:(R+R)%qq<18446744073709551616:=Int.emod_lt_of_pos (R+R) dX;have hev:(R+R)%qq%2=0:=by
  show(R+R)%18446744073709551616%2=0;omega
 have hv:vd qq (dg qq 8 (R+R))=R+R:=by rw[wX dX,Int.emod_eq_of_lt (by omega) h2]
 unfold oX;rw[hg];generalize (R+R)%qq=M at*;rw[Ds (m:=1) hm (by simpa using hev) hb.1 (by simpa using hb.2) (by omega)];refine Qc dX ((wV dX 8 _).set ⟨by omega,(by omega:M+b<18446744073709551616)⟩) (by rw[List.length_set,fQ]) ?_;rw[TP (by rw[fQ];decide),hg,hv,Int.emod_eq_of_lt (by omega) h1,Int.pow_zero,Int.mul_one];omega
theorem ah1{V:Int}{w:ab}(hw:vd qq w=V){k:Nat}(hk:k<512):TQ pX jG qG gZ w k (dg qq 8 (V/2 ^ (512-k)%ll))=dg qq 8 (V/2 ^ (512-(k+1))%ll):=by
 have hlq:∀ {x:Int},x<ll+ll→x<qq ^ 8:=fun h=>Int.lt_of_lt_of_le (Int.lt_trans h Qf) qq8;have e0:=adl V (512-(k+1));rw[show 512-(k+1)+1=512-k from by omega]at e0;have eb:qG w (511-(k:Int))=V/2 ^ (512-(k+1))%2:=by
  unfold qG;rw[hw,show(511-(k:Int)).toNat=512-(k+1)from by omega]
 have hb:0≤V/2 ^ (512-(k+1))%2∧V/2 ^ (512-(k+1))%2<2:=by omega
 have hR:0≤V/2 ^ (512-k)%ll∧V/2 ^ (512-k)%ll<ll:=⟨Int.emod_nonneg _ (by have:=sJ;omega),Int.emod_lt_of_pos _ sJ⟩;have em:(V/2 ^ (512-(k+1)))%ll=(2*(V/2 ^ (512-k)%ll)+V/2 ^ (512-(k+1))%2)%ll:=by
  conv=>lhs;rw[e0]
  exact as5 _ _ _
 rw[em,ahY sJ hR hb];have es:pX (dg qq 8 (V/2 ^ (512-k)%ll)) (dg qq 8 (V/2 ^ (512-k)%ll))=dg qq 8 (V/2 ^ (512-k)%ll+V/2 ^ (512-k)%ll):=by
  unfold pX;rw[wX dX,Int.emod_eq_of_lt hR.1 (hlq (by omega))]
 unfold TQ;rw[eb,es,X4 hR hb];generalize V/2 ^ (512-k)%ll=R at*;generalize V/2 ^ (512-(k+1))%2=b at*;have el:jG (dg qq 8 (2*R+b)) gZ=(dg qq 8 (2*R+b-ll),if 2*R+b<ll then 1 else 0):=by
  unfold jG;rw[Hm,wX dX,Int.emod_eq_of_lt (by omega) (hlq (by omega))]
 rw[el];by_cases h:2*R+b<ll
 ·rw[if_pos h,if_pos h];rfl
 ·rw[if_neg h,if_neg h];rfl
def Qg(w:ab):ab:=dg 256 32 (vd qq w%ll)
theorem ah2(b:ab):(A9 b).length=8∧kG qq (A9 b):=⟨fQ _ _,wV dX _ _⟩
theorem X5{b:ab}(hb:bL b)(hl:b.length≤64):vd qq (A9 b)=vd 256 b:=by
 unfold A9;have h1:=jg (by decide) (show kG 256 b from hb);have h2:=wW (by decide) (show kG 256 b from hb);have e:(256:Int) ^ 64=qq ^ 8:=by decide+kernel
 have h3:(256:Int) ^ b.length≤256 ^ 64:=A8 (by decide) hl;rw[wX dX,Int.emod_eq_of_lt h1 (by rw[← e];omega)]
abbrev cW:cl LV ab:=SA .u64 8
abbrev wA:cl (List LV) (ab×Unit):=bD cW bG
abbrev w2A:cl (List LV) (ab×ab×Unit):=bD cW (bD cW bG)
abbrev iW:cl (Option bE) ab:=rG 281 .u64 8
abbrev iB:cl (Option bE) ab:=rG 22 .u8 32
abbrev uc(i:Nat):Wk:=.iN i 0 8 .u64
abbrev nPW(r:ab×Int):LV:=.dB [.agg [.arr (.int .u64) 8 r.1],.sc (.int .u64 (.sym r.2))]
def okW(w:ab):Prop:=w.length=8∧kG 18446744073709551616 w
def okB(b:ab):Prop:=b.length=32∧bL b
theorem X6{w:ab}(h:okW w):List.take 8 (List.drop 0 w)=w:=eM h.1
def eWW(g:ab→ab→ab):bT:=bT.fw [] w2A bG fun x _=>.bN (some (okW x.1∧okW x.2.1)) (lD .u64 8 (g x.1 x.2.1)) []
def Qh(g:ab→ab→ab×Int):bT:=bT.fw [] w2A bG fun x _=>.bN (some (okW x.1∧okW x.2.1)) (nPW (g x.1 x.2.1)) []
abbrev wiA:cl (List LV) (ab×Int×Unit):=bD cW (bD (bO (bX .i64)) bG)
def aN6(g:ab→Int→Int):bT:=bT.fw [] wiA bG fun x _=>.bN (some (okW x.1∧0≤x.2.1∧x.2.1<512)) (nU (g x.1 x.2.1)) []
def e0W(c:ab):bT:=bT.fw [] bG bG fun _ _=>.bN none (lD .u64 8 c) []
def eWB(g:ab→ab):bT:=bT.fw [] wA bG fun x _=>.bN (some (okW x.1)) (lD .u8 32 (g x.1)) []
def eOf(g:ab→ab):bT:=bT.fw [some u8] bA bG fun x _=>.bN (some (bL x.1∧x.1.length≤64)) (lD .u64 8 (g x.1)) []
abbrev ata:Func:=f210
abbrev soC:cl (List LV) (ab×Int×Int×Unit):=jk 2 (bR (bO (cr 0 0)) (bR (bO (cr 1 0)) (jk 2 (bD (bO (gx false false u8)) (bD (bO (bX .i64)) (bD (bO (bX .i64)) (jk 18 bG)))))))
abbrev aN9:Wk:=.fr (eH 27 [(2,.bV),(3,.bV),(6,.bV),(7,.sym),(8,.sym)])
abbrev soX:cl (List LV) (Unit):=jk 2 (bR (bO (cr 0 0)) (bR (bO (cr 1 0)) (jk 23 bG)))
abbrev aYw:Wk:=.fr (eH 27 [(2,.bV),(3,.bV)])
abbrev soH:cl Hp (ab×ab×Unit):=bD iW (bD iW bG)
def soW:Exit→List Wk
 | .normal=> [aN9,uc 0,uc 1,.bS]
 | .exit 0=> [aYw,uc 0,uc 1,.bS]
 |_=> []
theorem aFZ(b:ab)(n i:Int)(r m:ab):ma aA [] [] ata 0 [] soW ((dy soC soH).wr ((b,n,i,()),(r,m,())))=cT.ite (decide (i<n)) (cT.need ((0:Int)≤i∧i<(↑b.length:Int)) (cT.need ((0:Int)≤i64.wrap (i.tdiv 8)∧i64.wrap (i.tdiv 8)<(8:Int)) (cT.need ((0:Int)≤i64.wrap (i.tmod 8*8)) (cT.need ((0:Int)≤ i64.wrap (i.tdiv 8)∧i64.wrap (i.tdiv 8)<(8:Int)) (cT.bN Exit.normal ((dy soC soH).wr ((b,n,i64.wrap (i+1),PUnit.unit),r,m.set (0+(i64.wrap (i.tdiv 8)).toNat) (cV u64 ((List.take 8 (List.drop 0 m)).getD (i64.wrap (i.tdiv 8)).toNat (0:Int)) (shl u64 (u64.wrap (b.getD i.toNat 0)) (i64.wrap (i.tmod 8*8)))),PUnit.unit))))))) (cT.bN (Exit.exit 0) ((dy soX soH).wr (PUnit.unit,r,m,PUnit.unit))):=by kernel_rfl
def aOa(g:ab→ab)(x:(ab×Int×Int×Unit)×ab×ab×Unit):cT:=.need (bL x.1.1∧x.1.1.length≤64∧x.1.2.1=x.1.1.length∧x.1.2.2.1=0∧x.2.2.1=List.replicate 8 0) (.bN (.exit 0) ((dy soX soH).wr ((),(x.2.1,g x.1.1,()))))
theorem aAw(k:Nat):i64.wrap ((k:Int).tmod 8*8)=((k%8*8:Nat):Int):=by
 rw[show(k:Int).tmod 8=((k%8:Nat):Int)from aAt k 8,bM (by omega) (by omega)];omega
theorem atb:A9 []=List.replicate 8 0:=X2 dX 8
theorem atc(x):Ex aA [] (.loop (cG ata 0)) ((dy soC soH).wr x) (aOa A9 x):=by
 obtain⟨⟨b,n,i,_⟩,r,m,_⟩:=x;refine Ex.need fun⟨h1,h2,h3,h4,h5⟩=>?_;simp only at h1 h2 h3 h4 h5;subst h3 h4 h5
 have key:=kB (fn:=ata) (id:=0) (j:=0) (ws:=soW) (hp:= []) bJ bU (cn.nil _) b.length (fun k (_:Unit)=>(dy soC soH).wr ((b,(b.length:Int),(k:Int),()),(r,A9 (b.take k),()))) (fun _=>(dy soX soH).wr ((),(r,A9 b,()))) (fun _ u=>u) (fun _ _=>True)
  (fun k o R hk _ hn hx=>?_) (fun _ _ _ _=>trivial) 0 () (by omega) trivial
 ·rw[List.take_zero,atb]at key;exact key
 rw[aFZ];refine⟨fun hb=>?_,fun hb=>?_⟩
 ·have px:k<b.length:=by have:=of_decide_eq_true hb;omega
  have e1:i64.wrap ((k:Int).tdiv 8)=((k/8:Nat):Int):=nw k 8 (by omega);rw[e1,aAw,eM (ah2 _).1,Int.toNat_natCast,Int.toNat_natCast,Nat.zero_add,as6 h1 h2 px,iK k (by omega)];exact⟨by omega,by omega,by omega,by omega,hn px⟩
 ·have:k=b.length:=by have:=of_decide_eq_false hb;omega
  subst this;have:=hx rfl;rw[List.take_length];exact this
abbrev aOb(g:ab→ab):gW:= [(0,iF (dy soC soH) 0 [aN9,uc 0,uc 1,.bS] (aOa g))]
abbrev aYx:bT:=eOf A9
theorem ah3(g:ab→ab)(b:ab):cY aA [] (aOb g) ata (bA.wr (b,())) [] [.fr [.sym],.mS 0 0 8 .u64,.bS]=End.need (bL b∧b.length≤64∧(↑b.length:Int)=(↑b.length:Int)∧(0:Int)=(0:Int)∧ [(0:Int),0,0,0,0,0,0,0]=List.replicate 8 (0:Int)) (End.bN (LV.one (VV.agg [SV.arr (Ty.int u64) 8 (g b)])) []):=by kernel_rfl
theorem ah4:aYx.Ok aA 210:=by
 refine(bT.df call210 fun x_ y_ Q H_=>?_).sym;obtain⟨b,_⟩:=x_;obtain⟨hn,hq⟩:=H_;have hn:bL b∧b.length≤64:=hn;refine(cg bJ bU func210 rfl (LT:=aOb A9) (ks:= [.fr [.sym],.mS 0 0 8 .u64,.bS]) (cn.dO (mI rfl (fI (hp:= []) atc) mT))).use (D:= []) ?_ hq;show(cY _ _ _ _ (bA.wr (b,())) [] _).sat _;rw[ah3];exact⟨⟨hn.1,hn.2,rfl,rfl,rfl⟩,rfl,rfl⟩
abbrev atd:Func:=f251
abbrev byC:cl (List LV) (Int×Unit):=jk 1 (bR (bO (cr 0 0)) (bR (bO (cr 1 0)) (bR (bO (cr 2 0)) (jk 1 (bD (bO (bX .i64)) (jk 15 bG))))))
abbrev aOd:Wk:=.fr (eH 21 [(1,.bV),(2,.bV),(3,.bV),(5,.sym)])
abbrev byX:cl (List LV) (Unit):=jk 2 (bR (bO (cr 1 0)) (bR (bO (cr 2 0)) (jk 17 bG)))
abbrev aYz:Wk:=.fr (eH 21 [(2,.bV),(3,.bV)])
abbrev byH:cl Hp (ab×ab×ab×Unit):=bD iW (bD iB (bD iB bG))
def byW:Exit→List Wk
 | .normal=> [aOd,uc 0,.iN 1 0 32 .u8,.iN 2 0 32 .u8,.bS]
 | .exit 0=> [aYz,uc 0,.iN 1 0 32 .u8,.iN 2 0 32 .u8]
 |_=> []
theorem aF0(i:Int)(w r o:ab):ma aA [] [] atd 0 [] byW ((dy byC byH).wr ((i,()),(w,r,o,())))=cT.ite (decide (i<(32:Int))) (cT.need ((0:Int)≤i64.wrap (i.tdiv 8)∧i64.wrap (i.tdiv 8)<(8:Int)) (cT.need ((0:Int)≤i64.wrap (i.tmod 8*8)) (cT.need ((0:Int)≤i∧i<(32:Int)) (cT.bN Exit.normal ((dy byC byH).wr ((i64.wrap (i+1),PUnit.unit),w,r,o.set (0+i.toNat) (IntKind.u8.wrap (shr u64 ((List.take 8 (List.drop 0 w)).getD (i64.wrap (i.tdiv 8)).toNat (0:Int)) (i64.wrap (i.tmod 8*8)))),PUnit.unit)))))) (cT.bN (Exit.exit 0) ((dy byX byH).wr (PUnit.unit,w,r,o,PUnit.unit))):=by kernel_rfl
def aOe(g:ab→ab)(x:(Int×Unit)×ab×ab×ab×Unit):cT:=.need (x.1.1=0∧okW x.2.1∧x.2.2.2.1.length=32) (.bN (.exit 0) ((dy byX byH).wr ((),(x.2.1,x.2.2.1,g x.2.1,()))))
theorem ate(x):Ex aA [] (.loop (cG atd 0)) ((dy byC byH).wr x) (aOe zr x):=by
 obtain⟨⟨i,_⟩,w,r,o,_⟩:=x;refine Ex.need fun⟨h1,h2,h3⟩=>?_;simp only at h1 h2 h3;subst h1
 have key:=kB (fn:=atd) (id:=0) (j:=0) (ws:=byW) (hp:= []) bJ bU (cn.nil _) 32 (fun k o=>(dy byC byH).wr (((k:Int),()),(w,r,o,()))) (fun o=>(dy byX byH).wr ((),(w,r,o,()))) (fun k o=>o.set k (vd qq w/256 ^ k%256)) (fun _ _=>True)
  (fun k o R hk _ hn hx=>?_) (fun _ _ _ _=>trivial) 0 o (by omega) trivial
 ·rw[Nat.sub_zero,acm (fun k=>vd qq w/256 ^ k%256) h3,aFX (by decide)]at key;exact key
 rw[aF0];refine⟨fun hb=>?_,fun hb=>?_⟩
 ·have px:k<32:=by have:=of_decide_eq_true hb;omega
  have e1:i64.wrap ((k:Int).tdiv 8)=((k/8:Nat):Int):=nw k 8 (by omega);rw[e1,aAw,X6 h2,Int.toNat_natCast,Int.toNat_natCast,Nat.zero_add,ahZ h2.2 h2.1 (by omega),iK k (by omega)];exact⟨by omega,by omega,by omega,hn px⟩
 ·have:k=32:=by have:=of_decide_eq_false hb;omega
  exact hx this
abbrev aOf(g:ab→ab):gW:= [(0,iF (dy byC byH) 0 [aOd,uc 0,.iN 1 0 32 .u8,.iN 2 0 32 .u8,.bS] (aOe g))]
abbrev atf:bT:=eWB zr
theorem Qi(g:ab→ab)(w:ab):cY aA [] (aOf g) atd (wA.wr (w,())) [] kR=End.need ((0:Int)=(0:Int)∧okW w∧32=32) (End.bN (LV.one (VV.agg [SV.arr ae 32 (g w)])) []):=by kernel_rfl
theorem ado:atf.Ok aA 251:=by
 refine(bT.df call251 fun x_ y_ Q H_=>?_).sym;obtain⟨w,_⟩:=x_;obtain⟨hn,hq⟩:=H_;have hn:okW w:=hn;refine(cg bJ bU func251 rfl (LT:=aOf zr) (ks:=kR) (cn.dO (mI rfl (fI (hp:= []) ate) mT))).use (D:= []) ?_ hq;show(cY _ _ _ _ (wA.wr (w,())) [] _).sat _;rw[Qi];exact⟨⟨rfl,hn,rfl⟩,rfl,rfl⟩
abbrev leFn:Func:=f211
abbrev leC:cl (List LV) (Int×Int×Unit):=jk 2 (bR (bO (cr 0 0)) (bR (bO (cr 1 0)) (bR (bO (cr 2 0)) (jk 1 (bD (bO (bX .u64)) (jk 1 (bD (bO (bX .i64)) (jk 18 bG))))))))
abbrev aOh:Wk:=.fr (eH 27 [(2,.bV),(3,.bV),(4,.bV),(6,.sym),(8,.sym)])
abbrev leX:cl (List LV) (Int×Unit):=jk 2 (bR (bO (cr 0 0)) (jk 1 (bR (bO (cr 2 0)) (jk 1 (bD (bO (bX .u64)) (jk 20 bG))))))
abbrev aYB:Wk:=.fr (eH 27 [(2,.bV),(4,.bV),(6,.sym)])
abbrev RX:cl Hp (ab×ab×ab×Unit):=bD iW (bD iW (bD iW bG))
def leW:Exit→List Wk
 | .normal=> [aOh,uc 0,uc 1,uc 2,.bS]
 | .exit 0=> [aYB,uc 0,uc 1,uc 2]
 |_=> []
theorem aF1(sb:Int→Int→Int→Int×Int)(c i:Int)(w x r:ab):ma aA [(233,(pU sb).sym)] [] leFn 0 [] leW ((dy leC RX).wr ((c,i,()),(w,x,r,())))=cT.ite (decide (i<(8:Int))) (cT.need ((0:Int)≤i∧i<(8:Int)) (cT.need ((0:Int)≤i∧i<(8:Int)) (cT.need ((0:Int)≤c∧c≤(1:Int)) (cT.need ((0:Int)≤i∧i<(8:Int)) (cT.bN Exit.normal ((dy leC RX).wr (((sb ((List.take 8 (List.drop 0 w)).getD i.toNat 0) ((List.take 8 (List.drop 0 x)).getD i.toNat 0) c).2,i64.wrap (i+1),PUnit.unit),w.set (0+i.toNat) (sb ((List.take 8 (List.drop 0 w)).getD i.toNat 0) ((List.take 8 (List.drop 0 x)).getD i.toNat 0) c).1,x,r,PUnit.unit))))))) (cT.bN (Exit.exit 0) ((dy leX RX).wr ((c,PUnit.unit),w,x,r,PUnit.unit))):=by kernel_rfl
def aOi(g:ab→ab→ab×Int)(x:(Int×Int×Unit)×ab×ab×ab×Unit):cT:=.need (x.1.1=0∧x.1.2.1=0∧okW x.2.1∧okW x.2.2.1) (.bN (.exit 0) ((dy leX RX).wr (((g x.2.1 x.2.2.1).2,()),((g x.2.1 x.2.2.1).1,x.2.2.1,x.2.2.2.1,()))))
abbrev aF2:bT:=(pU pT).sym
theorem ah5:aF2.Ok aA 233:=(Tg func233 (by kernel_rfl) (by kernel_rfl) (by kernel_rfl) (by kernel_rfl) rfl).sym
theorem Qj:∀p∈ [(233,(pU pT).sym)],p.2.Ok aA p.1:=bI ah5 bU
theorem atg(x):Ex aA [] (.loop (cG leFn 0)) ((dy leC RX).wr x) (aOi jG x):=by
 obtain⟨⟨c,i,_⟩,w,x,r,_⟩:=x;refine Ex.need fun⟨h1,h2,h3,h4⟩=>?_;simp only at h1 h2 h3 h4;subst h1 h2
 have key:=kB (fn:=leFn) (id:=0) (j:=0) (ws:=leW) (hp:= []) bJ Qj (cn.nil _) 8 (fun k (o:ab×Int)=>(dy leC RX).wr ((o.2,(k:Int),()),(o.1,x,r,()))) (fun(o:ab×Int)=>(dy leX RX).wr ((o.2,()),(o.1,x,r,()))) (Hj pT x) (X3 w x)
  (fun k o R hk hi hn hx=>?_) (fun k o hk hi=>Hk h3.2 h4.2 h3.1 h4.1 hk hi) 0 (w,0) (by omega) ⟨⟨h3.1,h3.2,fun _ _=>rfl⟩,.inl rfl,by simp[vd]⟩
 ·rw[Nat.sub_zero,ah0 h3.2 h4.2 h3.1 h4.1]at key;exact key
 rw[aF1 pT];refine⟨fun hb=>?_,fun hb=>?_⟩
 ·have px:k<8:=by have:=of_decide_eq_true hb;omega
  rw[eM hi.1.len,X6 h4,Int.toNat_natCast,Nat.zero_add,iK k (by omega)];exact⟨by omega,by omega,(by rcases hi.2.1 with e|e<;>rw[e]<;>decide),by omega,hn px⟩
 ·have:k=8:=by have:=of_decide_eq_false hb;omega
  exact hx this
abbrev aOj(g:ab→ab→ab×Int):gW:= [(0,iF (dy leC RX) 0 [aOh,uc 0,uc 1,uc 2,.bS] (aOi g))]
abbrev aF3:bT:=Qh jG
theorem TR(sb:Int→Int→Int→Int×Int)(g:ab→ab→ab×Int)(w x:ab):cY aA [(233,(pU sb).sym)] (aOj g) leFn (w2A.wr (w,x,())) [] [.fr [.sym],.mS 0 0 8 .u64,.bS]=End.need ((0:Int)=(0:Int)∧(0:Int)=(0:Int)∧okW w∧okW x) (End.bN (LV.dB [VV.agg [SV.arr (Ty.int u64) 8 (g w x).1],VV.sc (SV.int u64 (SI.sym (g w x).2))]) []):=by kernel_rfl
theorem Qk:aF3.Ok aA 211:=by
 refine(bT.df call211 fun x_ y_ Q H_=>?_).sym;obtain⟨w,x,_⟩:=x_;obtain⟨hn,hq⟩:=H_;have hn:okW w∧okW x:=hn;refine(cg bJ Qj func211 rfl (LT:=aOj jG) (ks:= [.fr [.sym],.mS 0 0 8 .u64,.bS]) (cn.dO (mI rfl (fI (hp:= []) atg) mT))).use (D:= []) ?_ hq;show(cY _ _ _ _ (w2A.wr (w,x,())) [] _).sat _;rw[TR pT];exact⟨⟨rfl,rfl,hn.1,hn.2⟩,rfl,rfl⟩
abbrev ath:Func:=f249
abbrev anC:cl (List LV) (Int×Int×Unit):=jk 2 (bR (bO (cr 0 0)) (bR (bO (cr 1 0)) (bR (bO (cr 2 0)) (bD (bO (bX .u64)) (jk 1 (bD (bO (bX .i64)) (jk 17 bG)))))))
abbrev aOl:Wk:=.fr (eH 25 [(2,.bV),(3,.bV),(4,.bV),(5,.sym),(7,.sym)])
abbrev anX:cl (List LV) (Unit):=jk 2 (bR (bO (cr 0 0)) (jk 1 (bR (bO (cr 2 0)) (jk 20 bG))))
abbrev aYD:Wk:=.fr (eH 25 [(2,.bV),(4,.bV)])
def anW:Exit→List Wk
 | .normal=> [aOl,uc 0,uc 1,uc 2,.bS]
 | .exit 0=> [aYD,uc 0,uc 1,uc 2]
 |_=> []
theorem aF4(ad:Int→Int→Int→Int×Int)(c i:Int)(w x r:ab):ma aA [(165,(pU ad).sym)] [] ath 0 [] anW ((dy anC RX).wr ((c,i,()),(w,x,r,())))=cT.ite (decide (i<(8:Int))) (cT.need ((0:Int)≤i∧i<(8:Int)) (cT.need ((0:Int)≤i∧i<(8:Int)) (cT.need ((0:Int)≤c∧c≤(1:Int)) (cT.need ((0:Int)≤i∧i<(8:Int)) (cT.bN Exit.normal ((dy anC RX).wr (((ad ((List.take 8 (List.drop 0 w)).getD i.toNat 0) ((List.take 8 (List.drop 0 x)).getD i.toNat 0) c).2,i64.wrap (i+1),PUnit.unit),w.set (0+i.toNat) (ad ((List.take 8 (List.drop 0 w)).getD i.toNat 0) ((List.take 8 (List.drop 0 x)).getD i.toNat 0) c).1,x,r,PUnit.unit))))))) (cT.bN (Exit.exit 0) ((dy anX RX).wr (PUnit.unit,w,x,r,PUnit.unit))):=by kernel_rfl
def aOm(g:ab→ab→ab)(x:(Int×Int×Unit)×ab×ab×ab×Unit):cT:=.need (x.1.1=0∧x.1.2.1=0∧okW x.2.1∧okW x.2.2.1) (.bN (.exit 0) ((dy anX RX).wr ((),(g x.2.1 x.2.2.1,x.2.2.1,x.2.2.2.1,()))))
theorem Ql:∀p∈ [(165,(pU gr).sym)],p.2.Ok aA p.1:=bI PQ bU
theorem ati(x):Ex aA [] (.loop (cG ath 0)) ((dy anC RX).wr x) (aOm pX x):=by
 obtain⟨⟨c,i,_⟩,w,x,r,_⟩:=x;refine Ex.need fun⟨h1,h2,h3,h4⟩=>?_;simp only at h1 h2 h3 h4;subst h1 h2
 have key:=kB (fn:=ath) (id:=0) (j:=0) (ws:=anW) (hp:= []) bJ Ql (cn.nil _) 8 (fun k (o:ab×Int)=>(dy anC RX).wr ((o.2,(k:Int),()),(o.1,x,r,()))) (fun(o:ab×Int)=>(dy anX RX).wr ((),(o.1,x,r,()))) (Hl gr x) (as7 w x)
  (fun k o R hk hi hn hx=>?_) (fun k o hk hi=>Qd h3.2 h4.2 h3.1 h4.1 hk hi) 0 (w,0) (by omega) ⟨⟨h3.1,h3.2,fun _ _=>rfl⟩,.inl rfl,by simp[vd]⟩
 ·rw[Nat.sub_zero,as8 h3.2 h4.2 h3.1 h4.1]at key;exact key
 rw[aF4 gr];refine⟨fun hb=>?_,fun hb=>?_⟩
 ·have px:k<8:=by have:=of_decide_eq_true hb;omega
  rw[eM hi.1.len,X6 h4,Int.toNat_natCast,Nat.zero_add,iK k (by omega)];exact⟨by omega,by omega,(by rcases hi.2.1 with e|e<;>rw[e]<;>decide),by omega,hn px⟩
 ·have:k=8:=by have:=of_decide_eq_false hb;omega
  exact hx this
abbrev aOn(g:ab→ab→ab):gW:= [(0,iF (dy anC RX) 0 [aOl,uc 0,uc 1,uc 2,.bS] (aOm g))]
abbrev aOo:bT:=eWW pX
theorem adp(ad:Int→Int→Int→Int×Int)(g:ab→ab→ab)(w x:ab):cY aA [(165,(pU ad).sym)] (aOn g) ath (w2A.wr (w,x,())) [] [.fr [.sym],.mS 0 0 8 .u64,.bS]=End.need ((0:Int)=(0:Int)∧(0:Int)=(0:Int)∧okW w∧okW x) (End.bN (LV.one (VV.agg [SV.arr (Ty.int u64) 8 (g w x)])) []):=by kernel_rfl
theorem atj:aOo.Ok aA 249:=by
 refine(bT.df call249 fun x_ y_ Q H_=>?_).sym;obtain⟨w,x,_⟩:=x_;obtain⟨hn,hq⟩:=H_;have hn:okW w∧okW x:=hn;refine(cg bJ Ql func249 rfl (LT:=aOn pX) (ks:= [.fr [.sym],.mS 0 0 8 .u64,.bS]) (cn.dO (mI rfl (fI (hp:= []) ati) mT))).use (D:= []) ?_ hq;show(cY _ _ _ _ (w2A.wr (w,x,())) [] _).sat _;rw[adp gr];exact⟨⟨rfl,rfl,hn.1,hn.2⟩,rfl,rfl⟩
abbrev aF5:bT:=aN6 qG
theorem TS(w:ab)(i:Int):cY aA [] [] f250 (wiA.wr (w,i,())) [] kK=End.need ((0:Int)≤i64.wrap (i.tdiv 64)∧i64.wrap (i.tdiv 64)<(8:Int)) (End.need ((0:Int)≤i.tmod 64) (End.bN (LV.one (VV.sc (SV.int u64 (SI.sym (dz u64 (shr u64 ((List.take 8 (List.drop 0 w)).getD (i64.wrap (i.tdiv 64)).toNat (0:Int)) (i.tmod 64)) (1:Int)))))) [])):=by kernel_rfl
theorem ah6:aF5.Ok aA 250:=by
 refine(bT.df call250 fun x_ y_ Q H_=>?_).sym;obtain⟨w,i,_⟩:=x_;obtain⟨hn,hq⟩:=H_;have hn:okW w∧0≤i∧i<512:=hn;refine(cg bJ bU func250 rfl (LT:= []) (ks:=kK) (cn.nil _)).use (D:= []) ?_ hq;show(cY _ _ _ _ (wiA.wr (w,i,())) [] _).sat _;rw[TS];obtain⟨hw,h0,h1⟩:=hn;obtain⟨k,rfl⟩:=Int.eq_ofNat_of_zero_le h0;have hk:k<512:=by omega
 have e1:i64.wrap ((k:Int).tdiv 64)=((k/64:Nat):Int):=nw k 64 (by omega);rw[e1,show(k:Int).tmod 64=((k%64:Nat):Int)from aAt k 64,X6 hw,Int.toNat_natCast,adn hw.2 hw.1 hk];exact⟨by omega,by omega,rfl,rfl⟩
abbrev atk:bT:=e0W gZ
theorem Qm:cY aA [] [] f212 [] [] [.fr [.sym],.mS 0 0 8 .u64,.bS]= .bN (lD .u64 8 gZ) []:=by kernel_rfl
theorem Hn:atk.Ok aA 212:=by
 refine(bT.df call212 fun x_ y_ Q H_=>?_).sym;refine(cg bJ bU func212 rfl (LT:= []) (ks:= [.fr [.sym],.mS 0 0 8 .u64,.bS]) (cn.nil _)).use (D:= []) ?_ H_.2;show(cY _ _ _ _ [] [] _).sat _;rw[Qm];exact⟨rfl,rfl⟩
abbrev atl:Func:=f234
abbrev reC:cl (List LV) (Int×Unit):=jk 1 (bR (bO (cr 0 0)) (bR (bO (cr 1 0)) (bR (bO (cr 2 0)) (bD (bO (bX .i64)) (jk 27 bG)))))
abbrev aOp:Wk:=.fr (eH 32 [(1,.bV),(2,.bV),(3,.bV),(4,.sym)])
abbrev reX:cl (List LV) (Unit):=jk 2 (bR (bO (cr 1 0)) (bR (bO (cr 2 0)) (jk 28 bG)))
abbrev aYF:Wk:=.fr (eH 32 [(2,.bV),(3,.bV)])
abbrev reH:cl Hp (ab×ab×ab×Unit):=bD iW (bD iB (bD iW bG))
def reW:Exit→List Wk
 | .normal=> [aOp,uc 0,.iN 1 0 32 .u8,uc 2,.bS]
 | .exit 0=> [aYF,uc 0,.iN 1 0 32 .u8,uc 2]
 |_=> []
abbrev ah7(and:ab→ab→ab)(less:ab→ab→ab×Int)(bit:ab→Int→Int)(o:ab):List (FuncId×bT):= [(249,eWW and),(250,aN6 bit),(211,Qh less),(212,e0W o)]
theorem aF6(and:ab→ab→ab)(less:ab→ab→ab×Int)(bit:ab→Int→Int)(o:ab)(i:Int)(w b r:ab):ma aA (ah7 and less bit o) [] atl 0 [] reW ((dy reC reH).wr ((i,()),(w,b,r,())))=cT.ite (decide ((0:Int)≤i)) (cT.need (okW r∧okW r) (cT.need (okW w∧(0:Int)≤i∧i<(512:Int)) (cT.need (okW ((and r r).set 0 (cV u64 ((and r r).getD 0 0) (bit w i)))∧okW o) (cT.ite ((less ((and r r).set 0 (cV u64 ((and r r).getD 0 0) (bit w i))) o).2==(0:Int)) (cT.bN Exit.normal ((dy reC reH).wr ((i64.wrap (i-1),PUnit.unit),w,b,(less ((and r r).set 0 (cV u64 ((and r r).getD 0 0) (bit w i))) o).1,PUnit.unit))) (cT.bN Exit.normal ((dy reC reH).wr ((i64.wrap (i-1),PUnit.unit),w,b,(and r r).set 0 (cV u64 ((and r r).getD 0 0) (bit w i)),PUnit.unit))))))) (cT.bN (Exit.exit 0) ((dy reX reH).wr (PUnit.unit,w,b,r,PUnit.unit))):=by kernel_rfl
theorem Qn:∀p∈ah7 pX jG qG gZ,p.2.Ok aA p.1:=bI atj (bI ah6 (bI Qk (bI Hn bU)))
def aOq(g:ab→ab)(x:(Int×Unit)×ab×ab×ab×Unit):cT:=.need (x.1.1=511∧okW x.2.1∧x.2.2.2.1=List.replicate 8 0) (.bN (.exit 0) ((dy reX reH).wr ((),(x.2.1,x.2.2.1,g x.2.1,()))))
def Qo(w:ab):ab:=dg qq 8 (vd qq w%ll)
def ja(V:Int)(k:Nat):ab:=dg qq 8 (V/2 ^ (512-k)%ll)
theorem adq(V:Int)(k:Nat)(hk:k<512)(b:Int)(hb:0≤b∧b<2):okW (ja V k)∧okW (oX (pX (ja V k) (ja V k)) b):=by
 refine⟨⟨fQ _ _,wV dX _ _⟩,?_⟩;have hR:0≤V/2 ^ (512-k)%ll∧V/2 ^ (512-k)%ll<ll:=⟨Int.emod_nonneg _ (by have:=sJ;omega),Int.emod_lt_of_pos _ sJ⟩;have es:pX (ja V k) (ja V k)=dg qq 8 (V/2 ^ (512-k)%ll+V/2 ^ (512-k)%ll):=by
  unfold pX ja;rw[wX dX,Int.emod_eq_of_lt hR.1 (Int.lt_of_lt_of_le (Int.lt_trans (by omega) Qf) qq8)]
 rw[es,X4 hR hb];exact⟨fQ _ _,wV dX _ _⟩
theorem atn(x):Ex aA [] (.loop (cG atl 0)) ((dy reC reH).wr x) (aOq Qo x):=by
 obtain⟨⟨i,_⟩,w,b,r,_⟩:=x;refine Ex.need fun⟨h1,h2,h3⟩=>?_;simp only at h1 h2 h3;subst h1 h3;have hw0:=jg dX h2.2;have hw1:=wW dX h2.2;rw[h2.1]at hw1
 have key:=kB (fn:=atl) (id:=0) (j:=0) (ws:=reW) (hp:= []) bJ Qn (cn.nil _) 512 (fun k (_:Unit)=>(dy reC reH).wr ((511-(k:Int),()),(w,b,ja (vd qq w) k,()))) (fun _=>(dy reX reH).wr ((),(w,b,Qo w,()))) (fun _ u=>u) (fun _ _=>True)
  (fun k o R hk _ hn hx=>?_) (fun _ _ _ _=>trivial) 0 () (by omega) trivial
 ·have e:ja (vd qq w) 0=List.replicate 8 0:=by
   unfold ja;have e:qq ^ 8=2 ^ 512:=(by decide+kernel);rw[Nat.sub_zero,Int.ediv_eq_zero_of_lt hw0 (by rw[← e];exact hw1),Int.zero_emod,X2 dX]
  rw[e]at key;exact key
 rw[aF6];refine⟨fun hb=>?_,fun hb=>?_⟩
 ·have px:k<512:=by have:=of_decide_eq_true hb;omega
  have e3:i64.wrap ((511-(k:Int))-1)=511-((k+1:Nat):Int):=by rw[bM (by omega) (by omega)];omega
  obtain⟨g1,g2⟩:=adq (vd qq w) k px (qG w (511-(k:Int))) (as9 _ _);have hs:TQ pX jG qG gZ w k (ja (vd qq w) k)=ja (vd qq w) (k+1):=ah1 rfl px;have yP:=hn px;rw[e3];refine⟨⟨g1,g1⟩,⟨h2,by omega,by omega⟩,⟨g2,Qe⟩,fun hc=>?_,fun hc=>?_⟩
  ·have:TQ pX jG qG gZ w k (ja (vd qq w) k)=(jG (oX (pX (ja (vd qq w) k) (ja (vd qq w) k)) (qG w (511-(k:Int)))) gZ).1:=by
    have uK:((jG (oX (pX (ja (vd qq w) k) (ja (vd qq w) k)) (qG w (511-(k:Int)))) gZ).2==0)=true:=hc;unfold TQ;rw[uK];rfl
   rw[← hs,this]at yP;exact yP
  ·have:TQ pX jG qG gZ w k (ja (vd qq w) k)=oX (pX (ja (vd qq w) k) (ja (vd qq w) k)) (qG w (511-(k:Int))):=by
    have uK:((jG (oX (pX (ja (vd qq w) k) (ja (vd qq w) k)) (qG w (511-(k:Int)))) gZ).2==0)=false:=hc;unfold TQ;rw[uK];rfl
   rw[← hs,this]at yP;exact yP
 ·have:k=512:=by have:=of_decide_eq_false hb;omega
  subst this;have:=hx rfl;have e:ja (vd qq w) 512=Qo w:=by unfold ja Qo;rw[Nat.sub_self,Int.pow_zero,Int.ediv_one]
  rw[e];exact this
abbrev aOr(g:ab→ab):gW:= [(0,iF (dy reC reH) 0 [aOp,uc 0,.iN 1 0 32 .u8,uc 2,.bS] (aOq g))]
abbrev aOs:bT:=eWB Qg
abbrev ah8(and:ab→ab→ab)(less:ab→ab→ab×Int)(bit:ab→Int→Int)(o:ab)(byt:ab→ab):List (FuncId×bT):=(251,eWB byt)::ah7 and less bit o
theorem adr:∀p∈ah8 pX jG qG gZ zr,p.2.Ok aA p.1:=bI ado Qn
theorem ads(and:ab→ab→ab)(less:ab→ab→ab×Int)(bit:ab→Int→Int)(o:ab)(byt g:ab→ab)(w:ab):cY aA (ah8 and less bit o byt) (aOr g) atl (wA.wr (w,())) [] kR=End.need ((511:Int)=(511:Int)∧okW w∧ [(0:Int),0,0,0,0,0,0,0]=List.replicate 8 (0:Int)) (End.need (okW (g w)) (End.bN (LV.one (VV.agg [SV.arr ae 32 (byt (g w))])) [])):=by kernel_rfl
theorem ato(w:ab):okW (Qo w):=⟨fQ _ _,wV dX _ _⟩
theorem aF7(w:ab):zr (Qo w)=Qg w:=by
 unfold zr Qg Qo;rw[wX dX,Int.emod_eq_of_lt (Int.emod_nonneg _ (by have:=sJ;omega)) (Int.lt_of_lt_of_le (Int.lt_trans (Int.emod_lt_of_pos _ sJ) (by have:=Qf;have:=sJ;omega)) qq8)]
theorem atp:aOs.Ok aA 234:=by
 refine(bT.df call234 fun x_ y_ Q H_=>?_).sym;obtain⟨w,_⟩:=x_;obtain⟨hn,hq⟩:=H_;have hn:okW w:=hn;refine(cg bJ adr func234 rfl (LT:=aOr Qo) (ks:=kR) (cn.dO (mI rfl (fI (hp:= []) atn) mT))).use (D:= []) ?_ hq;show(cY _ _ _ _ (wA.wr (w,())) [] _).sat _;rw[ads];refine⟨⟨rfl,hn,rfl⟩,ato w,?_,rfl⟩;rw[aF7]
abbrev aF8:cl (List LV) (ab×Unit):=bD (SA .u8 64) bG
def JA(b:ab):Bool:=decide (vd 256 b<ll)
def Qp(b:ab):ab:=dg 256 32 (vd 256 b%ll)
def eBB(g:ab→Bool):bT:=bT.fw [] mW bG fun x _=>.bN (some (okB x.1)) (nB (g x.1)) []
def atq(g:ab→ab):bT:=bT.fw [] aF8 bG fun x _=>.bN (some (x.1.length=64∧bL x.1)) (lD .u8 32 (g x.1)) []
theorem ah9(b:ab):okW (A9 b):=ah2 b
theorem okB.val{b:ab}(h:okB b):vd qq (A9 b)=vd 256 b:=X5 h.2 (by rw[h.1];decide)
theorem okB.range{b:ab}(h:okB b):0≤vd 256 b∧vd 256 b<2 ^ 256:=by
 have h1:=jg (by decide) (show kG 256 b from h.2);have h2:=wW (by decide) (show kG 256 b from h.2);have e:(256:Int) ^ 32=2 ^ 256:=by decide+kernel
 rw[h.1,e]at h2;exact⟨h1,h2⟩
abbrev atr:bT:=eBB JA
theorem Qq(o:ab)(of:ab→ab)(less:ab→ab→ab×Int)(b:ab):cY aA [(212,e0W o),(210,eOf of),(211,Qh less)] [] f176 (mW.wr (b,())) [] kK=End.need ((0:Int)≤(0:Int)∧(0:Int)≤(32:Int)∧(32:Int)≤(32:Int)) (End.need (bL (List.take 32 (List.drop 0 b))∧(List.take 32 (List.drop 0 b)).length≤64) (End.need (okW (of (List.take 32 (List.drop 0 b)))∧okW o) (End.bN (LV.one (VV.sc (SV.bool (SB.sym ((less (of (List.take 32 (List.drop 0 b))) o).2==(1:Int)))))) []))):=by kernel_rfl
theorem Qr:∀p_∈([(212,e0W gZ),(210,eOf A9),(211,Qh jG)]:List (FuncId×bT)),p_.2.Ok aA p_.1:=(bI Hn (bI ah4 (bI Qk bU)))
theorem adt:atr.Ok aA 176:=by
 refine(bT.df call176 fun x_ y_ Q H_=>?_).sym;obtain⟨b,_⟩:=x_;obtain⟨hn,hq⟩:=H_;have hn:okB b:=hn;refine(cg (tab:= [(212,e0W gZ),(210,eOf A9),(211,Qh jG)]) bJ Qr func176 rfl (LT:= []) (ks:=kK) (cn.nil _)).use (D:= []) ?_ hq;show(cY _ _ _ _ (mW.wr (b,())) [] _).sat _;rw[Qq gZ A9 jG];rw[eM hn.1];refine⟨by decide,⟨hn.2,by rw[hn.1];decide⟩,⟨ah9 b,Qe⟩,?_,rfl⟩;have:((jG (A9 b) gZ).2==1)=JA b:=by
  unfold jG JA;rw[hn.val,Hm];by_cases h:vd 256 b<ll
  ·rw[if_pos h,decide_eq_true h];rfl
  ·rw[if_neg h,decide_eq_false h];rfl
 rw[this]
abbrev aia:bT:=atq Qp
theorem JB(of red:ab→ab)(b:ab):cY aA [(210,eOf of),(234,eWB red)] [] f213 (aF8.wr (b,())) [] kR=End.need ((0:Int)≤(0:Int)∧(0:Int)≤(64:Int)∧(64:Int)≤(64:Int)) (End.need (bL (List.take 64 (List.drop 0 b))∧(List.take 64 (List.drop 0 b)).length≤64) (End.need (okW (of (List.take 64 (List.drop 0 b)))) (End.bN (LV.one (VV.agg [SV.arr ae 32 (red (of (List.take 64 (List.drop 0 b))))])) []))):=by kernel_rfl
theorem JD:∀p_∈([(210,eOf A9),(234,eWB Qg)]:List (FuncId×bT)),p_.2.Ok aA p_.1:=(bI ah4 (bI atp bU))
theorem TT:aia.Ok aA 213:=by
 refine(bT.df call213 fun x_ y_ Q H_=>?_).sym;obtain⟨b,_⟩:=x_;obtain⟨hn,hq⟩:=H_;have hn:b.length=64∧bL b:=hn;refine(cg (tab:= [(210,eOf A9),(234,eWB Qg)]) bJ JD func213 rfl (LT:= []) (ks:=kR) (cn.nil _)).use (D:= []) ?_ hq;show(cY _ _ _ _ (aF8.wr (b,())) [] _).sat _;rw[JB A9 Qg];rw[eM hn.1];refine⟨by decide,⟨hn.2,by rw[hn.1];decide⟩,ah9 b,?_,rfl⟩;have:Qg (A9 b)=Qp b:=by unfold Qg Qp;rw[X5 hn.2 (by rw[hn.1];decide)]
 rw[this]
def adu(g:ab→ab):bT:=bT.fw [some (.sl u8)] rrA bG fun x _=>.bN (some (x.1.length<2305843009213693952∧x.1.flatten.length<1152921504606846976)) (lD .u8 64 (g x.1.flatten)) []
theorem aOu:ofE=adu iG:=by kernel_rfl
theorem aib:(adu iG).Ok aA 52:=aOu▸G3
def adv:ab:= [83,105,103,69,100,50,53,53,49,57,32,110,111,32,69,100,50,53,53,49,57,32,99,111,108,108,105,115,105,111,110,115]
def AJ(c:ab):ab:=if c.length≤255 then adv++([1,(c.length:Int)]++c)else []
def ats(g:ab→ab):bT:=bT.fw [some u8] bA bG fun x _=>.bN none (.one (.sc (.sl 0 0))) [(0,.own 0 u8 (g x.1))]
abbrev aYG:bT:=ats AJ
theorem Qs(c:ab):cY aA [(101,ar3)] [] f214 (bA.wr (c,())) [] [.kA 0 u8,.bS,.ck]=End.ite (decide ((255:Int)<c.length)) (End.bN (LV.one (VV.sc (SV.sl 0 0))) [some (bE.own 0 ae [])]) (End.need ([[(83:Int),105,103,69,100,50,53,53,49,57,32,110,111,32,69,100,50,53,53,49,57,32,99,111,108,108,105,115,105,111,110,115],[(1:Int),IntKind.u8.wrap (↑c.length:Int)],c].flatten.length≤70368744177664∧3≤140737488355328) (End.bN (LV.one (VV.sc (SV.sl 0 0))) [some (bE.own 0 ae [[(83:Int),105,103,69,100,50,53,53,49,57,32,110,111,32,69,100,50,53,53,49,57,32,99,111,108,108,105,115,105,111,110,115],[(1:Int),IntKind.u8.wrap (↑c.length:Int)],c].flatten)])):=by kernel_rfl
theorem aF9:aYG.Ok aA 214:=by
 refine(bT.df call214 fun x_ y_ Q H_=>?_).sym;obtain⟨c,_⟩:=x_;refine(cg bJ (bI uU bU) func214 rfl (LT:= []) (ks:= [.kA 0 u8,.bS,.ck]) (cn.nil _)).use (D:= [(0,.own 0 u8 (AJ c))]) ?_ H_.2;show(cY _ _ _ _ (bA.wr (c,())) [] _).sat _;rw[Qs];refine⟨fun h=>?_,fun h=>?_⟩
 ·have h:=of_decide_eq_true h;have e:AJ c= []:=if_neg (by omega);rw[e];exact⟨rfl,rfl⟩
 ·have h:=of_decide_eq_false h;have e:AJ c=adv++([1,(c.length:Int)]++c):=if_pos (by omega);have ew:IntKind.u8.wrap (c.length:Int)=c.length:=by rw[wrap_u8];omega
  rw[e,ew];refine⟨⟨by simp;omega,by decide⟩,rfl,?_⟩;have e2:cq [(0,bE.own 0 u8 (adv++([1,(c.length:Int)]++c)))] (bG.wr y_)= [some (bE.own 0 u8 (adv++([1,(c.length:Int)]++c)))]:=rfl;rw[e2];simp[adv]
def aGa(h:ab):ab:=((h.take 32).set 0 (eL .u8 ((h.take 32).getD 0 0) 7)).set 31 (cV .u8 (eL .u8 (((h.take 32).set 0 (eL .u8 ((h.take 32).getD 0 0) 7)).getD 31 0) 128) 64)
def ePa(sec Qt:ab→ab):bT:=bT.fw [] mW bG fun x _=>.bN (some (x.1.length=32)) (.dB [.agg [.arr (.int .u8) 32 (sec x.1)],.sc (.vb 0 0 (.int .u8) 64 32 32)]) [(0,.cK [.arr (.int .u8) 64 (Qt x.1)] 37)]
def adw(s:ab):ab:=aGa (iG s)
abbrev att:bT:=ePa adw iG
theorem TU(Qt:ab→ab)(s:ab):cY aA [(52,adu Qt)] [] f35 (mW.wr (s,())) [] [.bS]=End.need ((0:Int)≤(0:Int)∧(0:Int)≤(32:Int)∧(32:Int)≤(32:Int)) (End.need (1<2305843009213693952∧ [List.take 32 (List.drop 0 s)].flatten.length<1152921504606846976) (End.need ((0:Int)≤(0:Int)∧(0:Int)≤(32:Int)∧(32:Int)≤ (64:Int)) (End.need (32≤(List.take 32 (List.drop 0 (Qt [List.take 32 (List.drop 0 s)].flatten))).length) (End.need (32≤(List.take 32 (List.drop 0 (Qt [List.take 32 (List.drop 0 s)].flatten))).length) (End.need ((0:Int)≤(32:Int)∧(32:Int)≤(64:Int)∧(64:Int)≤(64:Int)) (End.bN (LV.dB [VV.agg [SV.arr ae 32 (((List.take 32 (List.drop 0 (List.take 32 (List.drop 0 (Qt [List.take 32 (List.drop 0 s)].flatten))))).set 0 (eL IntKind.u8 ((List.take 32 (List.drop 0 (List.take 32 (List.drop 0 (Qt [List.take 32 (List.drop 0 s)].flatten))))).getD 0 0) (7:Int))).set 31 (cV IntKind.u8 (eL IntKind.u8 (((List.take 32 (List.drop 0 (List.take 32 (List.drop 0 (Qt [List.take 32 (List.drop 0 s)].flatten))))).set 0 (eL IntKind.u8 ((List.take 32 (List.drop 0 (List.take 32 (List.drop 0 (Qt [List.take 32 (List.drop 0 s)].flatten))))).getD 0 0) (7:Int))).getD 31 0) (128:Int)) (64:Int)))],VV.sc (SV.vb 0 0 ae 64 (32:Int) (32:Int))]) [some (bE.cK [SV.arr ae 64 (Qt [List.take 32 (List.drop 0 s)].flatten)] 37)])))))):=by kernel_rfl
theorem adx:att.Ok aA 35:=by
 refine(bT.df call35 fun x_ y_ Q H_=>?_).sym;obtain⟨s,_⟩:=x_;obtain⟨hn,hq⟩:=H_;have hn:s.length=32:=hn;refine(cg bJ (bI aib bU) func35 rfl (LT:= []) (ks:= [.bS]) (cn.nil _)).use (D:= [(0,.cK [.arr (.int .u8) 64 (iG s)] 37)]) ?_ hq;show(cY _ _ _ _ (mW.wr (s,())) [] _).sat _;rw[TU,eM hn,List.flatten_singleton];have hs:=qz s;have e1:List.take 32 (List.drop 0 (List.take 32 (List.drop 0 (iG s))))=(iG s).take 32:=by rw[List.drop_zero,List.drop_zero,List.take_take,Nat.min_self]
 have hl:(List.take 32 (List.drop 0 (iG s))).length=32:=by simp[hs]
 rw[e1];exact⟨by decide,⟨by decide,by omega⟩,by decide,by omega,by omega,by decide,rfl,rfl⟩
def aYH(g:ab→ab):bT:=bT.fw [] mW bG fun x _=>.bN (some (x.1.length=32)) (lD .u8 32 (g x.1)) []
theorem aic{h:ab}(hl:h.length=64):(aGa h).length=32:=by simp[aGa,hl]
theorem aid(s:ab):(adw s).length=32:=aic (qz s)
def ady(s:ab):ab:=iX (D9 (adw s))
abbrev aYI:bT:=aYH ady
theorem aie(sec Qt:ab→ab)(mb:ab→Pt)(en:Pt→ab)(s:ab):cY aA [(35,ePa sec Qt),(36,eMb mb),(37,eEn en)] [] f16 (mW.wr (s,())) [] kK=End.need (s.length=32) (End.need ((sec s).length=32) (End.bN (LV.one (VV.agg [SV.arr ae 32 (en (mb (sec s)))])) [])):=by kernel_rfl
theorem aif:∀p_∈([(35,ePa adw iG),(36,eMb D9),(37,eEn iX)]:List (FuncId×bT)),p_.2.Ok aA p_.1:=(bI adx (bI ahQ (bI D5 bU)))
theorem aGb:aYI.Ok aA 16:=by
 refine(bT.df call16 fun x_ y_ Q H_=>?_).sym;obtain⟨s,_⟩:=x_;obtain⟨hn,hq⟩:=H_;have hn:s.length=32:=hn;refine(cg (tab:= [(35,ePa adw iG),(36,eMb D9),(37,eEn iX)]) bJ aif func16 rfl (LT:= []) (ks:=kK) (cn.nil _)).use (D:= []) ?_ hq;show(cY _ _ _ _ (mW.wr (s,())) [] _).sat _;rw[aie adw iG D9 iX];exact⟨hn,aid s,rfl,rfl⟩
abbrev aih:cl LV ab:=SA .u8 64
abbrev chA:cl (List LV) (ab×ab×ab×ab×Unit):=bD (bO (gx false false u8)) (bD cB (bD cB (bD aih bG)))
def eCh(g:ab→ab→ab→ab→ab):bT:=bT.fw [some u8,none,none,none] chA bG fun x _=>.bN (some (x.2.1.length=32∧x.2.2.1.length=32∧x.2.2.2.1.length=64)) (lD .u8 32 (g x.1 x.2.1 x.2.2.1 x.2.2.2.1)) []
def w6(c r p m:ab):ab:=Qp (iG (AJ c++(r++(p++m))))
theorem aii(x:Int):bL (fC x):=fun z hz=>by
 obtain⟨i,_,rfl⟩:=List.mem_map.1 hz;rw[wrap_u8];unfold By;omega
theorem aGc(b:ab):bL (iG b):=by
 have key:∀ (l:List Nat) (s a:ab),bL a→bL (l.foldl (fun a i=>a++fC (s.getD i 0)) a):=by
  intro l s;induction l with
  |nil=>exact fun a h=>h
  |cons i l ih=>exact fun a h=>ih _ (h.append (aii _))
 exact key _ _ [] (fun z hz=>by cases hz)
theorem atu(b:ab):okB (Qp b):=⟨fQ _ _,wV (by decide) _ _⟩
theorem atv(c:ab):(AJ c).length≤289:=by unfold AJ adv;split<;>simp;omega
abbrev aOw:bT:=eCh w6
theorem adz(Qt pre red:ab→ab)(c r p m:ab):cY aA [(52,adu Qt),(214,ats pre),(213,atq red)] [] f178 (chA.wr (c,r,p,m,())) [] kK=End.need ((0:Int)≤(0:Int)∧(0:Int)≤(32:Int)∧(32:Int)≤(32:Int)) (End.need ((0:Int)≤(0:Int)∧(0:Int)≤(32:Int)∧(32:Int)≤(32:Int)) (End.need ((0:Int)≤(0:Int)∧(0:Int)≤(64:Int)∧(64:Int)≤(64:Int)) (End.need (4<2305843009213693952∧ [pre c,List.take 32 (List.drop 0 r),List.take 32 (List.drop 0 p),List.take 64 (List.drop 0 m)].flatten.length<1152921504606846976) (End.need ((Qt [pre c,List.take 32 (List.drop 0 r),List.take 32 (List.drop 0 p),List.take 64 (List.drop 0 m)].flatten).length=64∧bL (Qt [pre c,List.take 32 (List.drop 0 r),List.take 32 (List.drop 0 p),List.take 64 (List.drop 0 m)].flatten)) (End.bN (LV.one (VV.agg [SV.arr ae 32 (red (Qt [pre c,List.take 32 (List.drop 0 r),List.take 32 (List.drop 0 p),List.take 64 (List.drop 0 m)].flatten))])) []))))):=by kernel_rfl
theorem adA:∀p_∈([(52,adu iG),(214,ats AJ),(213,atq Qp)]:List (FuncId×bT)),p_.2.Ok aA p_.1:=(bI aib (bI aF9 (bI TT bU)))
theorem atw:aOw.Ok aA 178:=by
 refine(bT.df call178 fun x_ y_ Q H_=>?_).sym;obtain⟨c,r,p,m,_⟩:=x_;obtain⟨hn,hq⟩:=H_;have hn:r.length=32∧p.length=32∧m.length=64:=hn;refine(cg (tab:= [(52,adu iG),(214,ats AJ),(213,atq Qp)]) bJ adA func178 rfl (LT:= []) (ks:=kK) (cn.nil _)).use (D:= []) ?_ hq;show(cY _ _ _ _ (chA.wr (c,r,p,m,())) [] _).sat _;rw[adz iG AJ Qp];rw[eM hn.1,eM hn.2.1,eM hn.2.2];have h1:=atv c;have e: [AJ c,r,p,m].flatten=AJ c++(r++(p++m)):=by simp
 rw[e];refine⟨by decide,by decide,by decide,⟨by decide,by simp;omega⟩,⟨qz _,aGc _⟩,rfl,rfl⟩
theorem Qu(p:Pt):(iX p).length=32:=Vec.iL _
theorem aij(s:ab):(ady s).length=32:=by unfold ady;exact Qu _
theorem aik(c r p m:ab):okB (w6 c r p m):=by unfold w6;exact atu _
abbrev veA:cl (List LV) (ab×ab×ab×ab×Unit):=bD cB (bD (bO (gx false false u8)) (bD aih (bD aih bG)))
def eVe(g:ab→ab→ab→ab→Bool):bT:=bT.fw [none,some u8,none,none] veA bG fun x _=>.bN (some (x.1.length=32∧x.2.2.1.length=64∧x.2.2.2.1.length=64∧bL x.2.2.2.1)) (nB (g x.1 x.2.1 x.2.2.1 x.2.2.2.1)) []
theorem X7:∃f:ab→ab→ab→ab→Bool,∀ (p c m g:ab),f p c m g=((kF p).2&&(decide (c.length≤255)&&(JA (g.drop 32)&&decide (iX (Jy (w6 c (g.take 32) p m) (DW (kF p).1) (g.drop 32))=g.take 32)))):=⟨fun p c m g=>(kF p).2&&(decide (c.length≤255)&&(JA (g.drop 32)&&decide (iX (Jy (w6 c (g.take 32) p m) (DW (kF p).1) (g.drop 32))=g.take 32))),fun _ _ _ _=>rfl⟩
def Eb:ab→ab→ab→ab→Bool:=Classical.choose X7
theorem atx(p c m g:ab):Eb p c m g=((kF p).2&&(decide (c.length≤255)&&(JA (g.drop 32)&&decide (iX (Jy (w6 c (g.take 32) p m) (DW (kF p).1) (g.drop 32))=g.take 32)))):=Classical.choose_spec X7 p c m g
theorem ail{l:ab}(h:l.length=32):List.take 32 (List.drop 0 l)=l:=eM h
theorem JE(de:ab→Pt×Bool)(can:ab→Bool)(two:ab→Pt→ab→Pt)(ch:ab→ab→ab→ab→ab)(neg:Pt→Pt)(en:Pt→ab)(p c m g:ab):cY aA [(175,eDe de),(176,eBB can),(177,eTw two),(178,eCh ch),(179,D3 neg),(37,eEn en)] [] f136 (veA.wr (p,c,m,g,())) [] kK=End.need ((0:Int)≤(0:Int)∧(0:Int)≤(32:Int)∧(32:Int)≤(64:Int)) (End.need (32≤(List.take 32 (List.drop 0 g)).length) (End.need (32≤(List.take 32 (List.drop 0 g)).length) (End.need ((0:Int)≤(32:Int)∧(32:Int)≤(64:Int)∧(64:Int)≤(64:Int)) (End.need (32≤(List.take 32 (List.drop 32 g)).length) (End.need (32≤(List.take 32 (List.drop 32 g)).length) (End.need (p.length=32) (End.ite ((!(de p).2)==false) (End.ite (decide ((255:Int)<c.length)==false) (End.need (okB (List.take 32 (List.drop 0 (List.take 32 (List.drop 32 g))))) (End.ite (!can (List.take 32 (List.drop 0 (List.take 32 (List.drop 32 g))))) (End.bN (LV.one (VV.sc (SV.bool (SB.sym false)))) []) (End.need ((List.take 32 (List.drop 0 (List.take 32 (List.drop 0 g)))).length=32∧p.length=32∧m.length=64) (End.need ((ch c (List.take 32 (List.drop 0 (List.take 32 (List.drop 0 g)))) p m).length=32∧(List.take 32 (List.drop 0 (List.take 32 (List.drop 32 g)))).length=32) (End.bN (LV.one (VV.sc (SV.bool (SB.sym (decide (en (two (ch c (List.take 32 (List.drop 0 (List.take 32 (List.drop 0 g)))) p m) (neg (de p).1) (List.take 32 (List.drop 0 (List.take 32 (List.drop 32 g)))))=List.take 32 (List.drop 0 (List.take 32 (List.drop 0 g))))))))) []))))) (End.bN (LV.one (VV.sc (SV.bool (SB.sym false)))) [])) (End.bN (LV.one (VV.sc (SV.bool (SB.sym false)))) [])))))))):=by kernel_rfl
theorem TV(de:ab→Pt×Bool)(can:ab→Bool)(two:ab→Pt→ab→Pt)(ch:ab→ab→ab→ab→ab)(neg:Pt→Pt)(en:Pt→ab){p c m g:ab}(h1:p.length=32)(h2:m.length=64)(h3:g.length=64)(h4:bL g)(h5:∀a b c d,(ch a b c d).length=32):∃t_:Ev.End,cY aA [(175,eDe de),(176,eBB can),(177,eTw two),(178,eCh ch),(179,D3 neg),(37,eEn en)] [] f136 (veA.wr (p,c,m,g,())) [] kK=t_∧t_.sat fun v dZ=>v=nB ((de p).2&&(decide (c.length≤255)&&(can (g.drop 32)&&decide (en (two (ch c (g.take 32) p m) (neg (de p).1) (g.drop 32))=g.take 32))))∧dZ= []:=by
 refine⟨_,JE ..,?_⟩;have l1:(g.take 32).length=32:=by rw[List.length_take,h3];decide
 have l2:(g.drop 32).length=32:=by rw[List.length_drop,h3]
 have e1:List.take 32 (List.drop 32 g)=g.drop 32:=List.take_of_length_le (by omega);have e2:List.take 32 (List.drop 0 g)=g.take 32:=by rw[List.drop_zero]
 rw[e1,e2,ail l1,ail l2];have hb:bL (g.drop 32):=h4.drop 32;generalize de p=d at*;generalize g.take 32=r at*;generalize g.drop 32=s at*;obtain⟨a,ok⟩:=d;refine⟨by decide,by omega,by omega,by decide,by omega,by omega,h1,?_⟩;cases ok
 ·exact⟨fun h=>(by cases h),fun _=>⟨rfl,rfl⟩⟩
 ·refine⟨fun _=>⟨fun h=>⟨⟨l2,hb⟩,fun h'=>?_,fun h'=>⟨⟨l1,h1,h2⟩,⟨h5 _ _ _ _,l2⟩,?_,rfl⟩⟩,fun h=>?_⟩,fun h=>(by cases h)⟩
  ·have h':can s=false:=(by simpa using h');rw[h'];simp;exact⟨rfl,rfl⟩
  ·have h':can s=true:=(by simpa using h');have h:c.length≤255:=(by simp at h;omega);rw[h',decide_eq_true h];simp
  ·have h:¬c.length≤255:=(by simp at h;omega);rw[decide_eq_false h];simp;exact⟨rfl,rfl⟩
abbrev aty:bT:=eVe Eb
theorem Qv:∀p_∈([(175,eDe kF),(176,eBB JA),(177,eTw Jy),(178,eCh w6),(179,D3 DW),(37,eEn iX)]:List (FuncId×bT)),p_.2.Ok aA p_.1:=(bI TH (bI adt (bI as3 (bI atw (bI asO (bI D5 bU))))))
theorem adB:aty.Ok aA 136:=by
 refine(bT.df call136 fun x_ y_ Q H_=>?_).sym;obtain⟨p,c,m,g,_⟩:=x_;obtain⟨hn,hq⟩:=H_;have hn:p.length=32∧m.length=64∧g.length=64∧bL g:=hn;have hc_:my aA 136 (veA.wr (p,c,m,g,())) [] (cY aA [(175,eDe kF),(176,eBB JA),(177,eTw Jy),(178,eCh w6),(179,D3 DW),(37,eEn iX)] [] f136 (veA.wr (p,c,m,g,())) [] kK):=cg bJ Qv func136 rfl (cn.nil _);obtain⟨t_,ht_,hs_⟩:=TV kF JA Jy w6 DW iX hn.1 hn.2.1 hn.2.2.1 hn.2.2.2 (fun a b c d=>(aik a b c d).1);rw[← atx p c m g]at hs_;rw[ht_]at hc_;exact hc_.use (D:= []) hs_ hq
end Go.Proofs.YtliehnnljilacaaGreat
noncomputable section
namespace BJ
end BJ
namespace Go.Proofs.YtliehnnljilacaaGreat
open Go Go.Ev BJ Go.Proofs.Tryz
end Go.Proofs.YtliehnnljilacaaGreat
end
namespace Go.Proofs.YtliehnnljilacaaGreat
open Go Go.Ev BJ Go.Proofs.Tryz
set_option maxRecDepth 1000000
abbrev ckA:cl (List LV) (List ab×ab×Unit):=bD (bO (gx false false (.arr u8 32))) (bD (bO (gx false false u8)) bG)
structure JF where
 key:Int
 bQ:Int
 cU:MM
 sign:ab
def nH:JF:=⟨0,0,mm0,List.replicate 64 0⟩
abbrev aYK:cl (List SV) JF:=(DN (A5 (bD (oa u8 64) bG))).jr (fun x=>⟨x.1,x.2.1,⟨x.2.2.1,x.2.2.2.1,x.2.2.2.2.1,x.2.2.2.2.2.1,x.2.2.2.2.2.2.1⟩,x.2.2.2.2.2.2.2.1⟩) (fun l=>(l.key,l.bQ,l.cU.ver,l.cU.lP,l.cU.len,l.cU.list,l.cU.plain,l.sign,())) (fun _=>rfl)
abbrev atz(r:JF×Int):LV:=.dB [.agg (aYK.wr r.1),.sc (.int .i64 (.sym r.2))]
def aim:ab:= [98,111,111,116,106,97,99,107]
def k0:ab:=List.replicate 32 0
def aAy(b:ab):JF:=⟨(cJ (b.take 8)).1.1,(cJ (b.take 8)).1.2,(mV ((b.drop 8).take 152)).1,b.drop 160⟩
def gh(ver:ab→ab→ab→ab→Bool)(ks:List ab)(b:ab):JF×Int:=if b.length=224∧(cJ (b.take 8)).2=true then (if(ks.length:Int)≤(cJ (b.take 8)).1.1 then(nH,15) else if ver (ks.getD (cJ (b.take 8)).1.1.toNat k0) aim (qB b) (b.drop 160)=true then (if(mV ((b.drop 8).take 152)).2=true then(aAy b,0)else(nH,6)) else(nH,8)) else(nH,6)
def zt(ks:List ab):Prop:=∀k:Nat,k<ks.length→(ks.getD k k0).length=32
def eCk(g:List ab→ab→JF×Int):bT:=bT.fw [some (.arr u8 32),some u8] ckA bG fun x _=>.bN (some (bL x.2.1∧x.2.1.length<1152921504606846976∧zt x.1)) (atz (g x.1 x.2.1)) []
theorem Qw{l:ab}:0≤(cJ l).1.1∧(cJ l).1.1<8:=by
 unfold cJ;split
 ·rename_i h;simp only;have h2:=h.2;have:(uy (i64.wrap (l.getD 4 0)) (i64.wrap (l.getD 5 0))).length=8:=by rw[pS h2,h.1]
  unfold uy at this;split at this
  ·omega
  ·simp at this
 ·exact⟨by decide,by decide⟩
theorem zw{r r':JF×Int}(h:r=r'):atz r=atz r':=by rw[h]
theorem Qx(ver:ab→ab→ab→ab→Bool)(ks:List ab)(b:ab):cY aA [(135,sA),(136,eVe ver),(137,ash),(138,A6),(139,asn)] [] f96 (ckA.wr (ks,b,())) [] [.fr [.sym],.bS]=End.ite ((↑b.length:Int)!=(224:Int)) (End.bN (LV.dB [VV.agg [SV.int i64 (SI.sym 0),SV.int i64 (SI.sym 0),SV.int u64 (SI.sym 0),SV.int u64 (SI.sym 0),SV.int i64 (SI.sym 0),SV.arr ae 64 (List.replicate 64 (0:Int)),SV.arr ae 64 (List.replicate 64 (0:Int)),SV.arr ae 64 (List.replicate 64 (0:Int))],VV.sc (SV.int i64 (SI.sym 6))]) []) (End.need ((0:Int)≤(0:Int)∧(0:Int)≤(8:Int)∧(8:Int)≤b.length) (End.ite (!(cJ (List.take 8 (List.drop 0 b))).2) (End.bN (LV.dB [VV.agg [SV.int i64 (SI.sym 0),SV.int i64 (SI.sym 0),SV.int u64 (SI.sym 0),SV.int u64 (SI.sym 0),SV.int i64 (SI.sym 0),SV.arr ae 64 (List.replicate 64 (0:Int)),SV.arr ae 64 (List.replicate 64 (0:Int)),SV.arr ae 64 (List.replicate 64 (0:Int))],VV.sc (SV.int i64 (SI.sym 6))]) []) (End.ite (decide ((↑ks.length:Int)≤(cJ (List.take 8 (List.drop 0 b))).1.1)) (End.bN (LV.dB [VV.agg [SV.int i64 (SI.sym 0),SV.int i64 (SI.sym 0),SV.int u64 (SI.sym 0),SV.int u64 (SI.sym 0),SV.int i64 (SI.sym 0),SV.arr ae 64 (List.replicate 64 (0:Int)),SV.arr ae 64 (List.replicate 64 (0:Int)),SV.arr ae 64 (List.replicate 64 (0:Int))],VV.sc (SV.int i64 (SI.sym 15))]) []) (End.need ((0:Int)≤(160:Int)∧(160:Int)≤b.length∧(↑b.length:Int)≤(↑b.length:Int)) (End.need (64≤(List.take ((↑b.length:Int)-160).toNat (List.drop 160 b)).length) (End.need (64≤(List.take ((↑b.length:Int)-160).toNat (List.drop 160 b)).length) (End.need ((0:Int)≤(cJ (List.take 8 (List.drop 0 b))).1.1∧(cJ (List.take 8 (List.drop 0 b))).1.1<(↑ks.length:Int)) (End.need (b.length<1152921504606846976) (End.need (List.length (ks.getD (cJ (List.take 8 (List.drop 0 b))).1.1.toNat (List.replicate 32 (0:Int)))=32∧64=64∧(List.take 64 (List.drop 0 (List.take ((↑b.length:Int)-160).toNat (List.drop 160 b)))).length=64∧bL (List.take 64 (List.drop 0 (List.take ((↑b.length:Int)-160).toNat (List.drop 160 b))))) (End.ite (!ver (ks.getD (cJ (List.take 8 (List.drop 0 b))).1.1.toNat (List.replicate 32 (0:Int))) [(98:Int),111,111,116,106,97,99,107] (qB b) (List.take 64 (List.drop 0 (List.take ((↑b.length:Int)-160).toNat (List.drop 160 b))))) (End.bN (LV.dB [VV.agg [SV.int i64 (SI.sym 0),SV.int i64 (SI.sym 0),SV.int u64 (SI.sym 0),SV.int u64 (SI.sym 0),SV.int i64 (SI.sym 0),SV.arr ae 64 (List.replicate 64 (0:Int)),SV.arr ae 64 (List.replicate 64 (0:Int)),SV.arr ae 64 (List.replicate 64 (0:Int))],VV.sc (SV.int i64 (SI.sym 8))]) []) (End.need ((0:Int)≤(8:Int)∧(8:Int)≤(160:Int)∧(160:Int)≤b.length) (End.need (bL (List.take 152 (List.drop 8 b))) (End.ite (!(mV (List.take 152 (List.drop 8 b))).2) (End.bN (LV.dB [VV.agg [SV.int i64 (SI.sym 0),SV.int i64 (SI.sym 0),SV.int u64 (SI.sym 0),SV.int u64 (SI.sym 0),SV.int i64 (SI.sym 0),SV.arr ae 64 (List.replicate 64 (0:Int)),SV.arr ae 64 (List.replicate 64 (0:Int)),SV.arr ae 64 (List.replicate 64 (0:Int))],VV.sc (SV.int i64 (SI.sym 6))]) []) (End.bN (LV.dB [VV.agg [SV.int i64 (SI.sym (cJ (List.take 8 (List.drop 0 b))).1.1),SV.int i64 (SI.sym (cJ (List.take 8 (List.drop 0 b))).1.2),SV.int u64 (SI.sym (mV (List.take 152 (List.drop 8 b))).1.ver),SV.int u64 (SI.sym (mV (List.take 152 (List.drop 8 b))).1.lP),SV.int i64 (SI.sym (mV (List.take 152 (List.drop 8 b))).1.len),SV.arr ae 64 (mV (List.take 152 (List.drop 8 b))).1.list,SV.arr ae 64 (mV (List.take 152 (List.drop 8 b))).1.plain,SV.arr ae 64 (List.take 64 (List.drop 0 (List.take ((↑b.length:Int)-160).toNat (List.drop 160 b))))],VV.sc (SV.int i64 (SI.sym 0))]) [])))))))))))))):=by kernel_rfl
theorem adC{ver:ab→ab→ab→ab→Bool}{ks:List ab}{b:ab}(hb:bL b)(hl:b.length<1152921504606846976)(hk:zt ks):∃t_:Ev.End,cY aA [(135,sA),(136,eVe ver),(137,ash),(138,A6),(139,asn)] [] f96 (ckA.wr (ks,b,())) [] [.fr [.sym],.bS]=t_∧t_.sat fun v dZ=>v=atz (gh ver ks b)∧dZ= []:=by
 refine⟨_,Qx ..,?_⟩;have e0:List.drop 0 b=b:=rfl;rw[e0];refine⟨fun h=>?_,fun h=>?_⟩
 ·have hn:¬ (b.length=224∧(cJ (b.take 8)).2=true):=fun⟨h',_⟩=>by rw[h']at h;simp at h
  exact⟨zw (r:=(nH,6)) (by unfold gh;rw[if_neg hn]),rfl⟩
 have hl':b.length=224:=by have:((b.length:Int)!=224)=false:=h
                           simp at this;omega
 have e1:List.take ((b.length:Int)-160).toNat (List.drop 160 b)=b.drop 160:=List.take_of_length_le (by rw[List.length_drop];omega);have e2:List.take 64 (List.drop 0 (b.drop 160))=b.drop 160:=by rw[List.drop_zero];exact List.take_of_length_le (by rw[List.length_drop];omega)
 have l1:(b.drop 160).length=64:=by rw[List.length_drop,hl']
 rw[e1,e2];obtain⟨k1,k2⟩:=Qw (l:=b.take 8);have by1:=hb.drop 160;have by2:bL (List.take 152 (List.drop 8 b)):=(hb.drop 8).take 152;refine⟨by omega,fun h1=>?_,fun h1=>?_⟩
 ·have hn:¬ (b.length=224∧(cJ (b.take 8)).2=true):=fun⟨_,h'⟩=>by rw[h']at h1;simp at h1
  exact⟨zw (r:=(nH,6)) (by unfold gh;rw[if_neg hn]),rfl⟩
 have hp:b.length=224∧(cJ (b.take 8)).2=true:=⟨hl',by simpa using h1⟩;refine⟨fun h2=>?_,fun h2=>?_⟩
 ·have h2:=of_decide_eq_true h2;exact⟨zw (r:=(nH,15)) (by unfold gh;rw[if_pos hp,if_pos h2]),rfl⟩
 have h2:=of_decide_eq_false h2;refine⟨by omega,by omega,by omega,by omega,by omega,⟨hk _ (by omega),rfl,l1,by1⟩,fun h3=>?_,fun h3=>?_⟩
 ·have h3:¬ver (ks.getD (cJ (b.take 8)).1.1.toNat k0) aim (qB b) (b.drop 160)=true:=fun h'=>by
   have F1:(!ver (ks.getD (cJ (b.take 8)).1.1.toNat k0) aim (qB b) (b.drop 160))=true:=h3;rw[h']at F1;cases F1
  exact⟨zw (r:=(nH,8)) (by unfold gh;rw[if_pos hp,if_neg h2,if_neg h3]),rfl⟩
 have F1:ver (ks.getD (cJ (b.take 8)).1.1.toNat k0) aim (qB b) (b.drop 160)=true:=by
  have F1:(!ver (ks.getD (cJ (b.take 8)).1.1.toNat k0) aim (qB b) (b.drop 160))=false:=h3;simpa using F1
 refine⟨by omega,by2,fun h4=>?_,fun h4=>?_⟩
 ·have h4:¬ (mV ((b.drop 8).take 152)).2=true:=fun h'=>by rw[h']at h4;cases h4
  exact⟨zw (r:=(nH,6)) (by unfold gh;rw[if_pos hp,if_neg h2,if_pos F1,if_neg h4]),rfl⟩
 ·have h4:(mV ((b.drop 8).take 152)).2=true:=by simpa using h4
  exact⟨zw (r:=(aAy b,0)) (by unfold gh;rw[if_pos hp,if_neg h2,if_pos F1,if_pos h4]),rfl⟩
theorem ain:(eCk (gh Eb)).Ok aA 96:=by
 refine(bT.df call96 fun x_ y_ Q h=>?_).sym;obtain⟨ks,b,_⟩:=x_;obtain⟨hn,hq⟩:=h;have hc:my aA 96 (ckA.wr (ks,b,())) [] (cY aA [(135,sA),(136,eVe Eb),(137,ash),(138,A6),(139,asn)] [] f96 (ckA.wr (ks,b,())) [] [.fr [.sym],.bS]):=cg bJ (bI uW (bI adB (bI aFg (bI acI (bI aFj bU))))) func96 rfl (cn.nil _);obtain⟨t,ht,hs⟩:=adC (ver:=Eb) hn.1 hn.2.1 hn.2.2;rw[ht]at hc;exact hc.use (D:= []) hs hq
end Go.Proofs.YtliehnnljilacaaGreat
namespace Go.Proofs.YtliehnnljilacaaGreat
open Go Go.Ev Go.Proofs.Tryz
set_option maxRecDepth 1000000
theorem head_range{l:ab}(h:(cJ l).2=true):1≤(cJ l).1.2∧(cJ l).1.2≤16:=by
 unfold cJ at h ⊢;split at h
 ·rename_i hc;rw[if_pos hc];have hlen:=pS hc.2;rw[hc.1]at hlen;simp only;unfold uy at hlen;split at hlen
  ·rename_i hr;exact⟨hr.2.2.1,hr.2.2.2⟩
  ·simp at hlen
 ·cases h
theorem JG{m:Nat}{x y:Int}(W0:0≤x)(hx:x%(2 ^ m:Nat)=0)(hy0:0≤y)(hy:y<(2 ^ m:Nat))(h64:x+y<9223372036854775808):cV .i64 x y=x+y:=by
 unfold cV;have e:(2 ^ 64:Nat)=18446744073709551616:=by decide
 have h:=afT (n:=64) W0 (by omega) hx hy0 hy (by omega);show i64.wrap ((BitVec.ofInt 64 x|||BitVec.ofInt 64 y).toNat:Int)=_;rw[h];exact bM (by omega) (by omega)
def two(l:ab)(i:Nat):Int:=cV .i64 (i64.wrap (l.getD i 0)) (shl .i64 (i64.wrap (l.getD (i+1) 0)) 8)
theorem aGd{l:ab}{i:Nat}(h0:By (l.getD i 0))(h1:By (l.getD (i+1) 0)):two l i=l.getD i 0+256*l.getD (i+1) 0:=by
 unfold two;unfold By at h0 h1;generalize l.getD i 0=a at*;generalize l.getD (i+1) 0=b at*;rw[bM (by omega) (by omega),bM (by omega) (by omega)];have e1:shl .i64 b 8=b*256:=by
  have:=mU .i64 b 8 (by simp[IntKind.bits]);rw[show((8:Nat):Int)=8 from rfl]at this;rw[this,bM (by omega) (by omega)];rfl
 rw[e1,nv,JG (m:=8) (by omega) (by omega) (by omega) (by omega) (by omega)];omega
theorem aio:∃f:List ab→ab→JF×Int,∀ (ks:List ab) (b:ab),f ks b=(gh Eb ks b):=⟨fun ks b=>gh Eb ks b,fun _ _=>rfl⟩
def tD:List ab→ab→JF×Int:=Classical.choose aio
theorem aGe(ks:List ab)(b:ab):tD ks b=(gh Eb ks b):=Classical.choose_spec aio ks b
theorem aip:gh Eb=tD:=by funext ks b;exact(aGe ks b).symm
theorem aiq{l:ab}(h:(mV l).2=true):0≤(mV l).1.len∧(mV l).1.len≤131072:=by
 unfold mV at*;split at h
 ·rename_i c;rw[if_pos c];have:=qA c.2;exact⟨show 0≤(PC l).len by omega,show(PC l).len≤_ by omega⟩
 ·cases h
theorem Qy(l:ab):0≤eV l∧eV l<18446744073709551616:=by
 cases l with
 |nil=>exact⟨by decide,by decide⟩
 |cons x l=>rw[eV,tr];omega
def uC(m:MM):Prop:=0≤m.ver∧m.ver<18446744073709551616∧0≤m.lP∧m.lP<18446744073709551616
theorem adD(ver:ab→ab→ab→ab→Bool)(ks:List ab)(b:ab):uC (gh ver ks b).1.cU:=by
 have h0:uC nH.cU:=⟨by decide,by decide,by decide,by decide⟩
 have h1:∀l,uC (mV l).1:=fun l=>by
  unfold mV;split
  ·have a:=Qy (l.take 8);have b:=Qy ((l.drop 8).take 8);exact⟨a.1,a.2,b.1,b.2⟩
  ·exact⟨by decide,by decide,by decide,by decide⟩
 unfold gh
 repeat' split
 all_goals first|exact h0|exact h1 _
theorem adE{ver:ab→ab→ab→ab→Bool}{ks:List ab}{b:ab}(h:(gh ver ks b).2=0):1≤(gh ver ks b).1.bQ∧(gh ver ks b).1.bQ≤16∧0≤(gh ver ks b).1.cU.len∧(gh ver ks b).1.cU.len≤131072∧(gh ver ks b).1.key=(cJ (b.take 8)).1.1∧(gh ver ks b).1.bQ=(cJ (b.take 8)).1.2:=by
 unfold gh at*;split at h
 ·rename_i c1;split at h
  ·cases h
  ·rename_i c2;split at h
   ·rename_i c3;split at h
    ·rename_i c4;rw[if_pos c1,if_neg c2,if_pos c3,if_pos c4];obtain⟨g1,g2⟩:=aiq c4;obtain⟨k1,k2⟩:=head_range c1.2;exact⟨k1,k2,g1,g2,rfl,rfl⟩
    ·cases h
   ·cases h
 ·cases h
abbrev aOz:bT:=eCk tD
theorem aGf:aOz.Ok aA 96:=by rw[aOz,← aip];exact ain
def eI(ks:List ab)(fl rm:Int)(b:ab):JF×Int:=if(tD ks b).2≠0 then(nH,(tD ks b).2)else if rm<(tD ks b).1.cU.len then(nH,10)else if(tD ks b).1.cU.ver<fl then(nH,9)else((tD ks b).1,0)
def TW(x:JF×Int):Int×Int×Int×Int×Int×ab×ab×ab×Int:=(x.1.key,x.1.bQ,x.1.cU.ver,x.1.cU.lP,x.1.cU.len,x.1.cU.list,x.1.cU.plain,x.1.sign,x.2)
theorem aOA(e:Int):TW (nH,e)=(0,0,0,0,0,List.replicate 64 0,List.replicate 64 0,List.replicate 64 0,e):=rfl
theorem aOB(x:JF)(e:Int):TW (x,e)=(x.key,x.bQ,x.cU.ver,x.cU.lP,x.cU.len,x.cU.list,x.cU.plain,x.sign,e):=rfl
theorem TX(c v s:Int)(a b:ab):(ub c v s a b).length≤152:=by
 unfold ub;split
 ·simp only[List.length_append,List.length_take,ib];omega
 ·simp
theorem Ba{ks:List ab}{fl rm:Int}{b:ab}(h:(eI ks fl rm b).2=0):eI ks fl rm b=((tD ks b).1,0)∧(tD ks b).2=0∧1≤(tD ks b).1.bQ∧(tD ks b).1.bQ≤16∧0≤(tD ks b).1.cU.len∧(tD ks b).1.cU.len≤rm∧uC (tD ks b).1.cU:=by
 have hc:=adE (ver:=Eb) (ks:=ks) (b:=b);have hv:=adD Eb ks b;rw[aip]at hc hv;unfold eI at h ⊢;grind
abbrev smA:cl (List LV) (HH×(Int×Int)×Int×Unit):=bD (jf cHH) (bD (jf cRg) (bD (bO (bX .i64)) bG))
abbrev X8:Type:=Int×Int×Int×Int×Int×ab×ab×ab×Int
abbrev aOC(x:X8):LV:=LV.dB [VV.agg [ar x.1,ar x.2.1,SV.int u64 (SI.sym x.2.2.1),SV.int u64 (SI.sym x.2.2.2.1),ar x.2.2.2.2.1,SV.arr ae 64 x.2.2.2.2.2.1,SV.arr ae 64 x.2.2.2.2.2.2.1,SV.arr ae 64 x.2.2.2.2.2.2.2.1],VV.sc (ar x.2.2.2.2.2.2.2.2)]
abbrev aOD(x:X8):List ao:= []
def aAz(c:aj)(fl:Int)(b:ab):Tr X8:=.need (bL b∧b.length<1152921504606846976∧zt c.1) (.ite ((tD c.1 b).2 !=0) (.ret (0,0,0,0,0,List.replicate 64 (0:Int),List.replicate 64 (0:Int),List.replicate 64 (0:Int),(tD c.1 b).2)) (.need (pQ c) (.ite (decide (cR c<(tD c.1 b).1.cU.len)) (.ret (0,0,0,0,0,List.replicate 64 (0:Int),List.replicate 64 (0:Int),List.replicate 64 (0:Int),10)) (.ite (decide ((tD c.1 b).1.cU.ver<fl)) (.ret (0,0,0,0,0,List.replicate 64 (0:Int),List.replicate 64 (0:Int),List.replicate 64 (0:Int),9)) (.ret ((tD c.1 b).1.key,(tD c.1 b).1.bQ,(tD c.1 b).1.cU.ver,(tD c.1 b).1.cU.lP,(tD c.1 b).1.cU.len,(tD c.1 b).1.cU.list,(tD c.1 b).1.cU.plain,(tD c.1 b).1.sign,0))))))
abbrev qH(c:aj)(fl:Int)(b:ab):Prop:=bL b∧b.length<4294967296∧zt c.1
abbrev air(c:aj)(fl:Int)(b:ab):X8:=TW (eI c.1 fl (cR c) b)
def aOE:bT:=cj [some (.arr u8 32),none,some u8] ((bD (jf cCf) (bD (bO (bX .u64)) (bD (bO (gx false false u8)) bG)))) bG (q0∘q3 qH) (q0∘q3 air) aOC aOD
theorem atA:ab6 qH aAz air:=by
 intro c fl b h_;delta air;simp only[aAz,eI,bF,cv,cA,cD,cz,bW,b9,cC,cy,cx,cZ,cQ,cd,cm,bH];try simp only[bY,bF,cv,cA,cD,cz,bW,b9,cC,cy,cx,cZ,cQ,cd,cm,bH]
 generalize tD c.1 b=x;grind [aOA,aOB]
theorem JH:aOE.Ok aA 63:=ay (bI aGf (bI wF bU)) func63 call63 (ks:=eU) (fun x_ _=>@atA x_.1 x_.2.1 x_.2.2.1)
abbrev oY:cl bE HH:=fe 136 cHH
abbrev jRg:cl bE (Int×Int):=fe 121 cRg
abbrev ais:Type:=Int×Int×ai×ab×ab×HH×(Int×Int)×ab
abbrev aOF:cl St ais:=(dy (jk 2 (bD (bO (bX i64)) (bR (bO (cr (3) (0))) (bR (bO (cr (4) (0))) (jk 1 (bR (bO (cr (5) (0))) (jk 1 (bD (bO (bX i64)) (jk 25 bG))))))))) (bD (cb Pd) (bD (dd (0) ae) (bD (dd (0) ag) (bD (cb oY) (bD (cb jRg) (bD (ob (37) ((bD (oa ae (64)) bG))) bG))))))).jr (fun y=>(y.1.1,y.1.2.1,y.2.1,y.2.2.1,y.2.2.2.1,y.2.2.2.2.1,y.2.2.2.2.2.1,y.2.2.2.2.2.2.1.1)) (fun x=>((x.1,(x.2.1,())),(x.2.2.1,(x.2.2.2.1,(x.2.2.2.2.1,(x.2.2.2.2.2.1,(x.2.2.2.2.2.2.1,((x.2.2.2.2.2.2.2,()),())))))))) (fun _=>rfl)
abbrev aOG:List Wk:= [.fr (eH 34 [(2,.bV),(3,.bV),(4,.bV),(6,.bV),(8,.bV)]),.cu,.bS,.ck]
abbrev aYL:Exit→List Wk:=ua aOG 0 [.fr (eH 34 [(3,.bV),(6,.bV)]),.cu,.bS,.ck] [.fr (eH 34 [(6,.bV),(7,.bV)]),.cu,.bS,.ck]
def Ho(n at_:Int)(f:ai)(b er:ab)(h:HH)(r:Int×Int)(z:ab):Int:=if i64.wrap (n-at_)<1024 then i64.wrap (n-at_)else 1024
def Hq(n at_:Int)(f:ai)(b er:ab)(h:HH)(r:Int×Int)(z:ab):ab×Int:=if f.2.1=true then([],5)else if 0≤i64.wrap (2048+at_)∧0≤Ho n at_ f b er h r z∧i64.wrap (2048+at_)+Ho n at_ f b er h r z≤1024*r.2 then(cO b (1024*r.1+i64.wrap (2048+at_)) (Ho n at_ f b er h r z),0)else([],2)
abbrev ait:Type:=Int×ai×ab×ab×ab
abbrev aOH(x:ait):Exit×St:=(Exit.ret,⟨(gE 6 (LV.one (VV.sc (SV.ptr 3 0))::(LV.one (VV.sc (SV.int i64 (SI.sym x.1)))::(gE 26 [])))),[some (Pd.wr x.2.1),some (bE.own 0 ae x.2.2.1),some (bE.own 0 ag x.2.2.2.1),some (bE.cK [SV.arr ae 64 x.2.2.2.2] 37)]⟩)
abbrev aiu:Type:=(ai)×ab×ab×HH×ab
abbrev aOI(x:aiu):Exit×St:=(Exit.exit 0,⟨(gE 3 (LV.one (VV.sc (SV.ptr 3 0))::(gE 2 (LV.one (VV.sc (SV.ptr 4 0))::(gE 27 []))))),[some (Pd.wr x.1),some (bE.own 0 ae x.2.1),some (bE.own 0 ag x.2.2.1),some (oY.wr x.2.2.2.1),some (bE.cK [SV.arr ae 64 x.2.2.2.2] 37)]⟩)
def aiv(n at_:Int)(f:ai)(b er:ab)(h:HH)(r:Int×Int)(z:ab):Tr (ais⊕(ait⊕aiu)):=.ite (decide (at_<n)) (.need (fO r (i64.wrap (2048+at_)) (Ho n at_ f b er h r z) f b er) (.ite ((Hq n at_ f b er h r z).2 !=0) (.ret (.inr (.inl ((Hq n at_ f b er h r z).2,f,b,er,List.replicate 64 (0:Int))))) (.need (oA h∧h.n+(↑(Hq n at_ f b er h r z).1.length:Int)<2305843009213693952) (.ret (.inl (n,i64.wrap (at_+1024),f,b,er,dk h (Hq n at_ f b er h r z).1,r,z)))))) (.ret (.inr (.inr (f,b,er,h,z))))
abbrev JI(n at_:Int)(f:ai)(b er:ab)(h:HH)(r:Int×Int)(z:ab):Prop:=dE b er∧iO r er∧0≤at_∧0≤n∧2048+n≤1024*r.2∧oA h∧h.n+(n-at_)<1152921504606846976
abbrev aGg(n at_:Int)(f:ai)(b er:ab)(h:HH)(r:Int×Int)(z:ab):Bool:=decide (at_<n∧f.2.1=true)
abbrev aGh(n at_:Int)(f:ai)(b er:ab)(h:HH)(r:Int×Int)(z:ab):ait:=(5,f,b,er,List.replicate 64 0)
abbrev aGi(n at_:Int)(f:ai)(b er:ab)(h:HH)(r:Int×Int)(z:ab):aiu:=(f,b,er,dk h (cO b (1024*r.1+2048+at_) (n-at_)),z)
abbrev aOJ:ais→cT:=oU (aH JI) (aH aGg) (aH aGh) (aH aGi) aOH aOI
theorem aGj(n at_:Int)(f:ai)(b er:ab)(h:HH)(r:Int×Int)(z:ab)(h_:JI n at_ f b er h r z):eG (fun x_:ais=>aiv x_.1 x_.2.1 x_.2.2.1 x_.2.2.2.1 x_.2.2.2.2.1 x_.2.2.2.2.2.1 x_.2.2.2.2.2.2.1 x_.2.2.2.2.2.2.2) (n,at_,f,b,er,h,r,z) (bif aGg n at_ f b er h r z then .inl (aGh n at_ f b er h r z)else .inr (aGi n at_ f b er h r z)):=by
 delta aGg aGh aGi;obtain⟨⟨a1,a2,a3⟩,⟨b1,b2,b3⟩,h3,h4,h5,h6,h7⟩:=h_;obtain⟨j,hj⟩:∃j:Nat,(n-at_).toNat≤1024*j:=⟨(n-at_).toNat,by omega⟩;induction j generalizing at_ h with
 |zero=>
  have c:¬at_<n:=by omega
  refine .stop ?_;rw[zg b _ (by omega)];simp[aiv,c,bY,bH,dk]
 |succ j ih=>
  by_cases c:at_<n
  ·by_cases c2:f.2.1=true
   ·refine .stop ?_;simp only[aiv,Ho,Hq,bF,cv,cA,cD,cz,bW,b9,cC,cy,cx,cZ,cQ,cd,cm,bH];try simp only[bY,bF,cv,cA,cD,cz,bW,b9,cC,cy,cx,cZ,cQ,cd,cm,bH]
    grind [bM]
   ·obtain⟨m,hm,m1,m2⟩:∃m,(if n-at_<1024 then n-at_ else 1024)=m∧0≤m∧m≤n-at_:=⟨_,rfl,by split<;>omega,by split<;>omega⟩;have e2:cO b (1024*r.1+2048+at_) (n-at_)=cO b (1024*r.1+2048+at_) m++cO b (1024*r.1+2048+(at_+1024)) (n-(at_+1024)):=by
     by_cases c3:n-at_<1024
     ·rw[zg b _ (by omega:n-(at_+1024)≤0),List.append_nil,← hm,if_pos c3]
     ·rw[if_neg c3]at hm;subst hm;rw[show n-at_=1024+(n-(at_+1024)) by omega,agi b (by omega) (by omega) (by omega)];congr 2<;>omega
    have l2:=gg (b:=b) (p:=1024*r.1+2048+at_) (m:=m) ⟨by omega,by omega,by omega⟩;have n2:=js (cO b (1024*r.1+2048+at_) m) h;have o2:=jO (cO b (1024*r.1+2048+at_) m) h6;have w:=ih (at_+1024) (dk h (cO b (1024*r.1+2048+at_) m)) (by omega) o2 (by split at hm<;>omega) (by omega);rw[← sx,← e2]at w;have c3:decide (at_+1024<n∧f.2.1=true)=decide (at_<n∧f.2.1=true):=(by grind);rw[c3]at w;refine .go ?_ w;have e3:i64.wrap (n-at_)=n-at_:=bM (by omega) (by omega);have e4:i64.wrap (2048+at_)=2048+at_:=bM (by omega) (by omega);have e5:1024*r.1+(2048+at_)=1024*r.1+2048+at_:=(by omega);simp only[aiv,Ho,Hq,e3,e4,e5,hm,bF,cv,cA,cD,cz,bW,b9,cC,cy,cx,cZ,cQ,cd,cm,bH];try simp only[bY,bF,cv,cA,cD,cz,bW,b9,cC,cy,cx,cZ,cQ,cd,cm,bH]
    grind [bM]
  ·refine .stop ?_;rw[zg b _ (by omega)];simp[aiv,c,bY,bH,dk]
theorem atB(y_):∀x:ais,Ex aA (ow.wr y_) (.loop (cG f64 0)) (aOF.wr x) (aOJ x):=ee bJ ((bI lE (bI pR (bI I6 bU)))) (ws:=aYL) (cn.nil _) (fun _=>by kernel_rfl) (fun z=>by cases z<;>(intro e;cases e)) qw (aW @aGj)
def X9(h:HH)(r:Int×Int)(n:Int)(b:ab):HH:=dk h (cO b (1024*r.1+(2048:Int)+0) (n-0))
abbrev aYM(x:IH):LV:=LV.dB [VV.agg [SV.arr ae 64 x.1],VV.sc (ar x.2)]
def aOK(h:HH)(r:Int×Int)(n:Int)(f:ai)(b er:ab):Tr IH:=.need (JI n 0 f b er h r (List.replicate 64 (0:Int))) (.ite (decide (0<n∧f.2.1=true)) (.ret (List.replicate 64 (0:Int),5)) (.need (oA (X9 h r n b)∧(X9 h r n b).n<2305843009213693000) (.ret (AH (X9 h r n b),0))))
def Ec(f:Fl)(b:ab)(h:HH)(r:Int×Int)(n:Int):ab×Int:=if 0<n∧f.2.1=true then(List.replicate 64 0,5)else(AH (dk h (cO b (1024*r.1+2048) n)),0)
abbrev u5(h:HH)(r:Int×Int)(n:Int)(f:Fl)(b er:ab):Prop:=dE b er∧iO r er∧0≤n∧2048+n≤1024*r.2∧oA h∧h.n+n<1152921504606846976
abbrev aGk(h:HH)(r:Int×Int)(n:Int)(f:Fl)(b er:ab):IH:=Ec f b h r n
def aYO:bT:=cj [] smA ow (q3∘q3 u5) (q3∘q3 aGk) aYM aEN
theorem aGl:ac1 u5 aOK aGk:=by
 intro h r n f b er h_;delta aGk;obtain⟨h1,h2,h4,h5,h6,h7⟩:=h_;have p0:JI n 0 f b er h r (List.replicate 64 0):=⟨h1,h2,by omega,h4,h5,h6,by omega⟩;have l2:((cO b (1024*r.1+2048) n).length:Int)=n:=gg ⟨by omega,by omega,by omega⟩;have n2:=js (cO b (1024*r.1+2048) n) h;have o2:=jO (cO b (1024*r.1+2048) n) h6;simp only[aOK,X9,Ec,Int.sub_zero,Int.add_zero,bF,cv,cA,cD,cz,bW,b9,cC,cy,cx,cZ,cQ,cd,cm,bH];try simp only[bY,bF,cv,cA,cD,cz,bW,b9,cC,cy,cx,cZ,cQ,cd,cm,bH]
 refine⟨p0,?_⟩;grind
theorem TY:aYO.Ok aA 64:=az (bI lE (bI pR (bI I6 bU))) func64 call64 (ks:=eU) aOF aOG aOJ atB (fun x_=>br (@aGl x_.1 x_.2.1 x_.2.2.1))
end Go.Proofs.YtliehnnljilacaaGreat
