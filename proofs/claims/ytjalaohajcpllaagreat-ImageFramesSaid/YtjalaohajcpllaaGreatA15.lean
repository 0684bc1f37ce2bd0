/- What the laws lean on, part 15: a reader of code, plain facts, and what each function gives; no conditions. -/
import Derived.Test.YtjalaohajcpllaaGreatA14
section
namespace BJ
def aE (n:Nat):Prop:=2≤n∧ ∀ m,m∣n→m=1∨m=n
theorem yh: ∀ n:Nat,2≤n→ ∃ q,aE q∧q∣n:=by
 intro n
 induction n using Nat.strongRecOn with
 |_ n ih=>
  intro h
  by_cases hp: ∀ m,m∣n→m=1∨m=n
  ·exact ⟨n,⟨h,hp⟩,Nat.dvd_refl n⟩
  ·have ⟨m,hm⟩:=Classical.not_forall.1 hp
   have ⟨hd,hn⟩:=Classical.not_imp.1 hm
   have h1:m≠1:=fun e=>hn (.inl e)
   have h2:m≠n:=fun e=>hn (.inr e)
   have hle:m≤n:=Nat.le_of_dvd (by omega) hd
   have h0:m≠0:=by
    rintro rfl
    have:=Nat.eq_zero_of_zero_dvd hd
    omega
   obtain ⟨q,hq,hqm⟩:=ih m (by omega) (by omega)
   exact ⟨q,hq,Nat.dvd_trans hqm hd⟩
theorem aE.coprime {q a:Nat} (hq:aE q) (h: ¬ q∣a):Nat.Coprime q a:=by
 rcases hq.2 (Nat.gcd q a) (Nat.gcd_dvd_left q a) with h1|h1
 ·exact h1
 ·exact absurd (h1▸Nat.gcd_dvd_right q a) h
theorem aE.dvd_mul {q a b:Nat} (hq:aE q) (h:q∣a*b):q∣a∨q∣b:=by
 by_cases ha:q∣a
 ·exact .inl ha
 ·exact .inr ((hq.coprime ha).dvd_of_dvd_mul_left h)
theorem aE.LM {q:Nat} (hq:aE q): ∀ l:List Nat,(∀ x∈l,aE x)→q∣l.foldr (· * ·) 1→q∈l
 | [],_,h=>by
  have:q=1:=Nat.eq_one_of_dvd_one h
  have:=hq.1
  omega
 |x::l,hl,h=>by
  rcases hq.dvd_mul h with h|h
  ·rcases (hl x (by simp)).2 q h with h1|h1
   ·have:=hq.1;omega
   ·simp[h1]
  ·exact List.mem_cons_of_mem _ (hq.LM l (fun y hy=>hl y (by simp[hy])) h)
def pm (n:Nat):Nat→Nat→Nat→Nat
 |0,_,_=>1%n
 |f+1,a,e=>if e%2=1 then a*pm n f (a*a%n) (e/2)%n else pm n f (a*a%n) (e/2)
theorem UJ (n:Nat): ∀ f a e,e<2 ^ f→pm n f a e=a ^ e%n:=by
 intro f
 induction f with
 |zero=>intro a e h;have:e=0:=by simpa using h
        subst this;simp[pm]
 |succ f ih=>
  intro a e h
  have h2:e/2<2 ^ f:=by rw[Nat.pow_succ] at h;omega
  have hk:(a*a%n) ^ (e/2)%n=a ^ (2*(e/2))%n:=by
   rw[← Nat.pow_mod,Nat.pow_mul,Nat.pow_two]
  simp only[pm,ih _ _ h2,hk]
  split
  ·rename_i ho
   rw[Nat.mul_mod,Nat.mod_mod,← Nat.mul_mod,Nat.mul_comm,← Nat.pow_succ]
   congr 2;omega
  ·rename_i ho
   congr 2;omega
theorem lF {n a k:Nat} (hn:2≤n) (h:a ^ k%n=1) (j:Nat):a ^ (k*j)%n=1:=by
 rw[Nat.pow_mul,Nat.pow_mod,h,Nat.one_pow,Nat.mod_eq_of_lt hn]
theorem Il {n a m:Nat} (hm:0<m) (h:a ^ m%n=1):
  ∃ k,0<k∧a ^ k%n=1∧ ∀ j,0<j→j<k→a ^ j%n≠1:=by
 induction m using Nat.strongRecOn with
 |_ m ih=>
  by_cases hs: ∃ j,0<j∧j<m∧a ^ j%n=1
  ·obtain ⟨j,h0,h1,h2⟩:=hs
   exact ih j h1 h0 h2
  ·exact ⟨m,hm,h,fun j h0 h1 h2=>hs ⟨j,h0,h1,h2⟩⟩
theorem ER {n a k m:Nat} (hn:2≤n) (hk:0<k) (h1:a ^ k%n=1) (VA: ∀ j,0<j→j<k→a ^ j%n≠1)
  (hm:a ^ m%n=1):k∣m:=by
 have e:a ^ m=a ^ (k*(m/k))*a ^ (m%k):=by
  rw[← Nat.pow_add,Nat.div_add_mod]
 rw[e,Nat.mul_mod,lF hn h1,Nat.one_mul,Nat.mod_mod] at hm
 by_cases hr:m%k=0
 ·exact Nat.dvd_of_mod_eq_zero hr
 ·exact absurd hm (VA _ (by omega) (Nat.mod_lt _ hk))
theorem wu: ∀ (m:Nat) (l:List Nat),l.Nodup→(∀ x∈l,1≤x∧x≤m)→m≤l.length→ ∀ x,1≤x→x≤m→x∈l
 |0,_,_,_,_,x,h1,h2=>by omega
 |m+1,l,hd,hl,hlen,x,h1,h2=>by
  have DL:m+1∈l:=by
   refine Classical.byContradiction fun rO=>?_
   have hl': ∀ y∈l,1≤y∧y≤m:=fun y hy=>by
    have:=hl y hy
    have:y≠m+1:=fun e=>rO (e▸hy)
    omega
   have:=length_le m l hd hl'
   omega
  have hd':(l.erase (m+1)).Nodup:=hd.erase _
  have axX:(l.erase (m+1)).length=l.length-1:=List.length_erase_of_mem DL
  have hl': ∀ y∈l.erase (m+1),1≤y∧y≤m:=fun y hy=>by
   have Ji:=(List.Nodup.mem_erase_iff hd).1 hy
   have:=hl y Ji.2
   have:=Ji.1
   omega
  by_cases hx:x=m+1
  ·exact hx▸DL
  ·exact List.mem_of_mem_erase (wu m (l.erase (m+1)) hd' hl' (by omega) x h1 (by omega))
where
 length_le: ∀ (m:Nat) (l:List Nat),l.Nodup→(∀ x∈l,1≤x∧x≤m)→l.length≤m
  |0,l,_,hl=>by
   cases l with
   |nil=>simp
   |cons a l=>have:=hl a (by simp);omega
  |m+1,l,hd,hl=>by
   have hd':(l.erase (m+1)).Nodup:=hd.erase _
   have hl': ∀ y∈l.erase (m+1),1≤y∧y≤m:=fun y hy=>by
    have Ji:=(List.Nodup.mem_erase_iff hd).1 hy
    have:=hl y Ji.2
    have:=Ji.1
    omega
   have:=length_le m _ hd' hl'
   have h3:= @List.length_erase Nat _ _ (m+1) l
   split at h3<;>omega
def fL (n a:Nat):Prop:=2≤n∧a ^ (n-1)%n=1∧ ∀ x,x%n≠0→ ∃ i,a ^ i%n=x%n
theorem asp {n a:Nat} {l:List Nat} (hn:2≤n) (hl: ∀ q∈l,aE q) (hp:l.foldr (· * ·) 1=n-1)
  (h1:a ^ (n-1)%n=1) (hq: ∀ q∈l,a ^ ((n-1)/q)%n≠1):fL n a:=by
 refine ⟨hn,h1,?_⟩
 by_cases hn2:n=2
 ·subst hn2
  intro x hx
  exact ⟨0,by simp;omega⟩
 obtain ⟨k,hk,hk1,VA⟩:=Il (m:=n-1) (by omega) h1
 have awa:=ER hn hk hk1 VA h1
 have hkn:k=n-1:=by
  refine Classical.byContradiction fun gk=>?_
  obtain ⟨c,hc⟩:=awa
  have hc2:2≤c:=by
   rcases Nat.lt_or_ge c 2 with h|h
   ·have:c=0∨c=1:=by omega
    rcases this with rfl|rfl
    ·simp at hc;omega
    ·simp at hc;omega
   ·exact h
  obtain ⟨q,hqp,c',rfl⟩:=yh c hc2
  have DL:q∈l:=hqp.LM l hl (by rw[hp,hc];exact ⟨k*c',by rw[Nat.mul_left_comm]⟩)
  refine hq q DL ?_
  have:(n-1)/q=k*c':=by
   rw[hc,Nat.mul_left_comm]
   exact Nat.mul_div_cancel_left _ (by have:=hqp.1;omega)
  rw[this]
  exact lF hn hk1 c'
 subst hkn
 have hinv: ∀ i,a ^ i%n≠0:=by
  intro i h0
  have:a ^ ((n-1)*(i+1))%n=1:=lF hn h1 _
  have e:(n-1)*(i+1)=i+((n-1)*(i+1)-i):=by
   have:i≤(n-1)*(i+1):=Nat.le_trans (by omega) (Nat.le_mul_of_pos_left (i+1) (by omega))
   omega
  rw[e,Nat.pow_add,Nat.mul_mod,h0,Nat.zero_mul,Nat.zero_mod] at this
  omega
 have VM: ∀ i j,i<j→j<n-1→a ^ i%n≠a ^ j%n:=by
  intro i j hij hj he
  have e1:a ^ (j+(n-1-i))%n=1:=by
   rw[Nat.pow_add,Nat.mul_mod,← he,← Nat.mul_mod,← Nat.pow_add]
   have:i+(n-1-i)=n-1:=by omega
   rw[this];exact h1
  have e2:j+(n-1-i)=(n-1)+(j-i):=by omega
  rw[e2,Nat.pow_add,Nat.mul_mod,h1,Nat.one_mul,Nat.mod_mod] at e1
  exact VA (j-i) (by omega) (by omega) e1
 intro x hx
 have hnd:((List.range (n-1)).map fun i=>a ^ i%n).Nodup:=by
  rw[List.nodup_iff_pairwise_ne,List.pairwise_map]
  refine List.Pairwise.imp_of_mem ?_ (List.pairwise_lt_range (n:=n-1))
  intro i j hi hj hij
  exact VM i j hij (by simpa using hj)
 have:=wu (n-1) _ hnd (fun y hy=>by
  obtain ⟨i,_,rfl⟩:=List.mem_map.1 hy
  have:=hinv i
  have:=Nat.mod_lt (a ^ i) (show 0<n by omega)
  omega) (by simp) (x%n) (by omega) (by have:=Nat.mod_lt x (show 0<n by omega);omega)
 obtain ⟨i,_,hi⟩:=List.mem_map.1 this
 exact ⟨i,hi⟩
theorem fL.sU {n a:Nat} (h:fL n a) {x:Nat} (hx:x%n≠0):x ^ (n-1)%n=1:=by
 obtain ⟨hn,h1,hs⟩:=h
 obtain ⟨i,hi⟩:=hs x hx
 rw[Nat.pow_mod,← hi,← Nat.pow_mod,← Nat.pow_mul,Nat.mul_comm]
 exact lF hn h1 i
theorem fL.dU {n a:Nat} (h:fL n a):aE n:=by
 refine ⟨h.1,fun m hm=>?_⟩
 refine Classical.byContradiction fun gk=>?_
 have hn:=h.1
 have hle:m≤n:=Nat.le_of_dvd (by omega) hm
 have h1:m≠1:=fun e=>gk (.inl e)
 have h2:m≠n:=fun e=>gk (.inr e)
 have h0:m≠0:=by
  rintro rfl
  have:=Nat.eq_zero_of_zero_dvd hm
  omega
 have hf:=h.sU (x:=m) (by rw[Nat.mod_eq_of_lt (by omega)];exact h0)
 have hd:m∣m ^ (n-1):=by
  rw[show n-1=(n-2)+1 from by omega,Nat.pow_succ]
  exact Nat.dvd_mul_left m _
 have:m∣m ^ (n-1)%n:=(Nat.dvd_mod_iff hm).2 hd
 rw[hf] at this
 exact h1 (Nat.eq_one_of_dvd_one this)
def check (n a f:Nat) (l:List Nat):Bool:=
 decide (2≤n)&&decide (n-1<2 ^ f)&&l.foldr (· * ·) 1==n-1&&pm n f a (n-1)==1&&l.all fun q=>pm n f a ((n-1)/q)!=1
theorem aO {n a f:Nat} {l:List Nat} (hl: ∀ q∈l,aE q) (h:check n a f l=true):fL n a:=by
 simp only[check,Bool.and_eq_true,decide_eq_true_eq,beq_iff_eq,List.all_eq_true,bne_iff_ne] at h
 obtain ⟨⟨⟨⟨hn,hf⟩,hp⟩,h1⟩,hq⟩:=h
 refine asp hn hl hp ?_ ?_
 ·rw[← UJ n f a _ hf];exact h1
 ·intro q hm
  rw[← UJ n f a _ (Nat.lt_of_le_of_lt (Nat.div_le_self _ _) hf)]
  exact hq q hm
def UK (n:Nat):Nat→Nat→Bool
 |0,_=>true
 |k+1,d=>if d*d>n then true else n%d !=0&&UK n k (d+1)
theorem Rh (n:Nat): ∀ k d,UK n k d=true→(d+k)*(d+k)>n→ ∀ m,d≤m→m*m≤n→ ¬ m∣n:=by
 intro k
 induction k with
 |zero=>intro d _ hgt m h1 h2;exfalso;have:=Nat.mul_le_mul h1 h1;simp at hgt;omega
 |succ k ih=>
  intro d h hgt m h1 h2 hd
  unfold UK at h
  split at h
  ·have:=Nat.mul_le_mul h1 h1;omega
  ·simp only[Bool.and_eq_true,bne_iff_ne] at h
   by_cases he:m=d
   ·subst he;exact h.1 (Nat.mod_eq_zero_of_dvd hd)
   ·exact ih (d+1) h.2 (by rw[show d+1+k=d+(k+1) by omega];exact hgt) m (by omega) h2 hd
theorem aI {n:Nat} (k:Nat) (hn:2≤n) (hk:(2+k)*(2+k)>n) (h:UK n k 2=true):aE n:=by
 have hs:=Rh n k 2 h hk
 refine ⟨hn,fun m hm=>?_⟩
 refine Classical.byContradiction fun gk=>?_
 have h1:m≠1:=fun e=>gk (.inl e)
 have h2:m≠n:=fun e=>gk (.inr e)
 obtain ⟨c,hc⟩:=hm
 have h0:m≠0:=by rintro rfl;simp at hc;omega
 have hc0:c≠0:=by rintro rfl;simp at hc;omega
 have hc1:c≠1:=by rintro rfl;simp at hc;omega
 by_cases hmc:m≤c
 ·exact hs m (by omega) (by rw[hc];exact Nat.mul_le_mul_left m hmc) ⟨c,hc⟩
 ·exact hs c (by omega) (by rw[hc];exact Nat.mul_le_mul_right c (by omega)) ⟨m,by rw[hc,Nat.mul_comm]⟩
end BJ
end
section
namespace BJ
theorem p2:aE 2:=aI 1 (by decide) (by decide) (by decide+kernel)
theorem p3:aE 3:=aI 1 (by decide) (by decide) (by decide+kernel)
theorem aox:aE 65147:=aI 254 (by decide) (by decide) (by decide+kernel)
theorem awd:aE 353:=aI 17 (by decide) (by decide) (by decide+kernel)
theorem aoy:aE 57467:=aI 238 (by decide) (by decide) (by decide+kernel)
theorem p7:aE 7:=aI 1 (by decide) (by decide) (by decide+kernel)
theorem awe:aE 131:=aI 10 (by decide) (by decide) (by decide+kernel)
theorem ajJ:fL 132049 26:=aO (f:=18) (l:= [2,2,2,2,3,3,7,131]) (by simp only[List.mem_cons,List.not_mem_nil,or_false];rintro q (rfl|rfl|rfl|rfl|rfl|rfl|rfl|rfl)<;>first|exact p2|exact p3|exact p7|exact awe) (by decide+kernel)
theorem ajK:aE 132049:=ajJ.dU
theorem p43:aE 43:=aI 5 (by decide) (by decide) (by decide+kernel)
theorem asq:aE 3727:=aI 60 (by decide) (by decide) (by decide+kernel)
theorem afb:fL 1923133 2:=aO (f:=21) (l:= [2,2,3,43,3727]) (by simp only[List.mem_cons,List.not_mem_nil,or_false];rintro q (rfl|rfl|rfl|rfl|rfl)<;>first|exact p2|exact p3|exact p43|exact asq) (by decide+kernel)
theorem afc:aE 1923133:=afb.dU
theorem p31:aE 31:=aI 4 (by decide) (by decide) (by decide+kernel)
theorem awf:aE 107:=aI 9 (by decide) (by decide) (by decide+kernel)
theorem awg:aE 223:=aI 13 (by decide) (by decide) (by decide+kernel)
theorem asr:aE 4153:=aI 63 (by decide) (by decide) (by decide+kernel)
theorem p5:aE 5:=aI 1 (by decide) (by decide) (by decide+kernel)
theorem ass:aE 1723:=aI 40 (by decide) (by decide) (by decide+kernel)
theorem ajL:fL 430751 17:=aO (f:=19) (l:= [2,5,5,5,1723]) (by simp only[List.mem_cons,List.not_mem_nil,or_false];rintro q (rfl|rfl|rfl|rfl|rfl)<;>first|exact p2|exact p5|exact ass) (by decide+kernel)
theorem ajM:aE 430751:=ajL.dU
theorem sV:fL 31757755568855353 10:=aO (f:=55) (l:= [2,2,2,3,31,107,223,4153,430751]) (by simp only[List.mem_cons,List.not_mem_nil,or_false];rintro q (rfl|rfl|rfl|rfl|rfl|rfl|rfl|rfl|rfl)<;>first|exact p2|exact p3|exact p31|exact awf|exact awg|exact asr|exact ajM) (by decide+kernel)
theorem sW:aE 31757755568855353:=sV.dU
theorem aoz:aE 75707:=aI 274 (by decide) (by decide) (by decide+kernel)
theorem p13:aE 13:=aI 2 (by decide) (by decide) (by decide+kernel)
theorem ast:aE 2437:=aI 48 (by decide) (by decide) (by decide+kernel)
theorem p97:aE 97:=aI 8 (by decide) (by decide) (by decide+kernel)
theorem awh:aE 419:=aI 19 (by decide) (by decide) (by decide+kernel)
theorem ajN:fL 569003 2:=aO (f:=20) (l:= [2,7,97,419]) (by simp only[List.mem_cons,List.not_mem_nil,or_false];rintro q (rfl|rfl|rfl|rfl)<;>first|exact p2|exact p7|exact p97|exact awh) (by decide+kernel)
theorem ajO:aE 569003:=ajN.dU
theorem LN:fL 2773320623 5:=aO (f:=32) (l:= [2,2437,569003]) (by simp only[List.mem_cons,List.not_mem_nil,or_false];rintro q (rfl|rfl|rfl)<;>first|exact p2|exact ast|exact ajO) (by decide+kernel)
theorem LO:aE 2773320623:=LN.dU
theorem Im:fL 72106336199 7:=aO (f:=37) (l:= [2,13,2773320623]) (by simp only[List.mem_cons,List.not_mem_nil,or_false];rintro q (rfl|rfl|rfl)<;>first|exact p2|exact p13|exact LO) (by decide+kernel)
theorem Io:aE 72106336199:=Im.dU
theorem p19:aE 19:=aI 3 (by decide) (by decide) (by decide+kernel)
theorem p47:aE 47:=aI 5 (by decide) (by decide) (by decide+kernel)
theorem awi:aE 127:=aI 10 (by decide) (by decide) (by decide+kernel)
theorem awj:aE 103:=aI 9 (by decide) (by decide) (by decide+kernel)
theorem awk:aE 991:=aI 30 (by decide) (by decide) (by decide+kernel)
theorem afd:fL 8574133 2:=aO (f:=24) (l:= [2,2,3,7,103,991]) (by simp only[List.mem_cons,List.not_mem_nil,or_false];rintro q (rfl|rfl|rfl|rfl|rfl|rfl)<;>first|exact p2|exact p3|exact p7|exact awj|exact awk) (by decide+kernel)
theorem afe:aE 8574133:=afd.dU
theorem wv:fL 1919519569386763 2:=aO (f:=51) (l:= [2,3,7,19,47,47,127,8574133]) (by simp only[List.mem_cons,List.not_mem_nil,or_false];rintro q (rfl|rfl|rfl|rfl|rfl|rfl|rfl|rfl)<;>first|exact p2|exact p3|exact p7|exact p19|exact p47|exact awi|exact afe) (by decide+kernel)
theorem wx:aE 1919519569386763:=wv.dU
theorem gv:fL 75445702479781427272750846543864801 7:=aO (f:=116) (l:= [2,2,2,2,2,3,3,5,5,75707,72106336199,1919519569386763]) (by simp only[List.mem_cons,List.not_mem_nil,or_false];rintro q (rfl|rfl|rfl|rfl|rfl|rfl|rfl|rfl|rfl|rfl|rfl|rfl)<;>first|exact p2|exact p3|exact p5|exact aoz|exact Io|exact wx) (by decide+kernel)
theorem gw:aE 75445702479781427272750846543864801:=gv.dU
theorem cM:fL 74058212732561358302231226437062788676166966415465897661863160754340907 2:=aO (f:=236) (l:= [2,3,353,57467,132049,1923133,31757755568855353,75445702479781427272750846543864801]) (by simp only[List.mem_cons,List.not_mem_nil,or_false];rintro q (rfl|rfl|rfl|rfl|rfl|rfl|rfl|rfl)<;>first|exact p2|exact p3|exact awd|exact aoy|exact ajK|exact afc|exact sW|exact gw) (by decide+kernel)
theorem cN:aE 74058212732561358302231226437062788676166966415465897661863160754340907:=cM.dU
theorem bn:fL 57896044618658097711785492504343953926634992332820282019728792003956564819949 2:=aO (f:=255) (l:= [2,2,3,65147,74058212732561358302231226437062788676166966415465897661863160754340907]) (by simp only[List.mem_cons,List.not_mem_nil,or_false];rintro q (rfl|rfl|rfl|rfl|rfl)<;>first|exact p2|exact p3|exact aox|exact cN) (by decide+kernel)
theorem cv:aE 57896044618658097711785492504343953926634992332820282019728792003956564819949:=bn.dU
theorem p11:aE 11:=aI 2 (by decide) (by decide) (by decide+kernel)
theorem p23:aE 23:=aI 3 (by decide) (by decide) (by decide+kernel)
theorem aoA:aE 34123:=aI 183 (by decide) (by decide) (by decide+kernel)
theorem ajP:fL 409477 2:=aO (f:=19) (l:= [2,2,3,34123]) (by simp only[List.mem_cons,List.not_mem_nil,or_false];rintro q (rfl|rfl|rfl|rfl)<;>first|exact p2|exact p3|exact aoA) (by decide+kernel)
theorem ajQ:aE 409477:=ajP.dU
theorem XZ:fL 14741173 2:=aO (f:=24) (l:= [2,2,3,3,409477]) (by simp only[List.mem_cons,List.not_mem_nil,or_false];rintro q (rfl|rfl|rfl|rfl|rfl)<;>first|exact p2|exact p3|exact ajQ) (by decide+kernel)
theorem X0:aE 14741173:=XZ.dU
theorem X1:fL 58964693 2:=aO (f:=26) (l:= [2,2,14741173]) (by simp only[List.mem_cons,List.not_mem_nil,or_false];rintro q (rfl|rfl|rfl)<;>first|exact p2|exact X0) (by decide+kernel)
theorem X2:aE 58964693:=X1.dU
theorem aoB:aE 30703:=aI 174 (by decide) (by decide) (by decide+kernel)
theorem aoC:aE 82163:=aI 285 (by decide) (by decide) (by decide+kernel)
theorem aoD:aE 22111:=aI 147 (by decide) (by decide) (by decide+kernel)
theorem ajR:fL 132667 5:=aO (f:=18) (l:= [2,3,22111]) (by simp only[List.mem_cons,List.not_mem_nil,or_false];rintro q (rfl|rfl|rfl)<;>first|exact p2|exact p3|exact aoD) (by decide+kernel)
theorem ajS:aE 132667:=ajR.dU
theorem aoE:aE 17231:=aI 130 (by decide) (by decide) (by decide+kernel)
theorem ajT:fL 137849 3:=aO (f:=18) (l:= [2,2,2,17231]) (by simp only[List.mem_cons,List.not_mem_nil,or_false];rintro q (rfl|rfl|rfl|rfl)<;>first|exact p2|exact aoE) (by decide+kernel)
theorem ajU:aE 137849:=ajT.dU
theorem mX:fL 3044861653679985063343 5:=aO (f:=72) (l:= [2,3,11,30703,82163,132667,137849]) (by simp only[List.mem_cons,List.not_mem_nil,or_false];rintro q (rfl|rfl|rfl|rfl|rfl|rfl|rfl)<;>first|exact p2|exact p3|exact p11|exact aoB|exact aoC|exact ajS|exact ajU) (by decide+kernel)
theorem mY:aE 3044861653679985063343:=mX.dU
theorem gO:fL 198211423230930754013084525763697 5:=aO (f:=108) (l:= [2,2,2,2,3,23,58964693,3044861653679985063343]) (by simp only[List.mem_cons,List.not_mem_nil,or_false];rintro q (rfl|rfl|rfl|rfl|rfl|rfl|rfl|rfl)<;>first|exact p2|exact p3|exact p23|exact X2|exact mY) (by decide+kernel)
theorem gP:aE 198211423230930754013084525763697:=gO.dU
theorem awl:aE 269:=aI 15 (by decide) (by decide) (by decide+kernel)
theorem p73:aE 73:=aI 7 (by decide) (by decide) (by decide+kernel)
theorem awm:aE 307:=aI 16 (by decide) (by decide) (by decide+kernel)
theorem asw:aE 5879:=aI 75 (by decide) (by decide) (by decide+kernel)
theorem Ri:fL 292386187 2:=aO (f:=29) (l:= [2,3,3,3,3,307,5879]) (by simp only[List.mem_cons,List.not_mem_nil,or_false];rintro q (rfl|rfl|rfl|rfl|rfl|rfl|rfl)<;>first|exact p2|exact p3|exact awm|exact asw) (by decide+kernel)
theorem Rj:aE 292386187:=Ri.dU
theorem DS:fL 213441916511 13:=aO (f:=38) (l:= [2,5,73,292386187]) (by simp only[List.mem_cons,List.not_mem_nil,or_false];rintro q (rfl|rfl|rfl|rfl)<;>first|exact p2|exact p5|exact p73|exact Rj) (by decide+kernel)
theorem DT:aE 213441916511:=DS.dU
theorem asx:aE 1361:=aI 35 (by decide) (by decide) (by decide+kernel)
theorem asy:aE 2851:=aI 52 (by decide) (by decide) (by decide+kernel)
theorem p41:aE 41:=aI 5 (by decide) (by decide) (by decide+kernel)
theorem asz:aE 3797:=aI 60 (by decide) (by decide) (by decide+kernel)
theorem ajV:fL 531581 2:=aO (f:=20) (l:= [2,2,5,7,3797]) (by simp only[List.mem_cons,List.not_mem_nil,or_false];rintro q (rfl|rfl|rfl|rfl|rfl)<;>first|exact p2|exact p5|exact p7|exact asz) (by decide+kernel)
theorem ajW:aE 531581:=ajV.dU
theorem asA:aE 2551:=aI 49 (by decide) (by decide) (by decide+kernel)
theorem aff:fL 1224481 13:=aO (f:=21) (l:= [2,2,2,2,2,3,5,2551]) (by simp only[List.mem_cons,List.not_mem_nil,or_false];rintro q (rfl|rfl|rfl|rfl|rfl|rfl|rfl|rfl)<;>first|exact p2|exact p3|exact p5|exact asA) (by decide+kernel)
theorem afg:aE 1224481:=aff.dU
theorem wy:fL 1257559732178653 2:=aO (f:=51) (l:= [2,2,3,7,23,531581,1224481]) (by simp only[List.mem_cons,List.not_mem_nil,or_false];rintro q (rfl|rfl|rfl|rfl|rfl|rfl|rfl)<;>first|exact p2|exact p3|exact p7|exact p23|exact ajW|exact afg) (by decide+kernel)
theorem wz:aE 1257559732178653:=wy.dU
theorem pX:fL 4434155615661930479 17:=aO (f:=62) (l:= [2,41,43,1257559732178653]) (by simp only[List.mem_cons,List.not_mem_nil,or_false];rintro q (rfl|rfl|rfl|rfl)<;>first|exact p2|exact p41|exact p43|exact wz) (by decide+kernel)
theorem pY:aE 4434155615661930479:=pX.dU
theorem jM:fL 172054593956031949258510691 2:=aO (f:=88) (l:= [2,5,1361,2851,4434155615661930479]) (by simp only[List.mem_cons,List.not_mem_nil,or_false];rintro q (rfl|rfl|rfl|rfl|rfl)<;>first|exact p2|exact p5|exact asx|exact asy|exact pY) (by decide+kernel)
theorem jN:aE 172054593956031949258510691:=jM.dU
theorem fa:fL 19757330305831588566944191468367130476339 2:=aO (f:=134) (l:= [2,269,213441916511,172054593956031949258510691]) (by simp only[List.mem_cons,List.not_mem_nil,or_false];rintro q (rfl|rfl|rfl|rfl)<;>first|exact p2|exact awl|exact DT|exact jN) (by decide+kernel)
theorem fb:aE 19757330305831588566944191468367130476339:=fa.dU
theorem eF:fL 276602624281642239937218680557139826668747 2:=aO (f:=138) (l:= [2,7,19757330305831588566944191468367130476339]) (by simp only[List.mem_cons,List.not_mem_nil,or_false];rintro q (rfl|rfl|rfl)<;>first|exact p2|exact p7|exact fb) (by decide+kernel)
theorem eG:aE 276602624281642239937218680557139826668747:=eF.dU
theorem cz:fL 7237005577332262213973186563042994240857116359379907606001950938285454250989 2:=aO (f:=253) (l:= [2,2,3,11,198211423230930754013084525763697,276602624281642239937218680557139826668747]) (by simp only[List.mem_cons,List.not_mem_nil,or_false];rintro q (rfl|rfl|rfl|rfl|rfl|rfl)<;>first|exact p2|exact p3|exact p11|exact gP|exact eG) (by decide+kernel)
end BJ
end
section
namespace BJ
abbrev pp:Nat:=57896044618658097711785492504343953926634992332820282019728792003956564819949
abbrev F:=Fin pp
instance:NeZero pp:=⟨by decide⟩
theorem afh:aE pp:=cv
theorem F.mul_eq_zero {a b:F} (h:a*b=0):a=0∨b=0:=by
 have h1:(a.val*b.val)%pp=0:=by
  have:=congrArg Fin.val h
  rwa [Fin.val_mul] at this
 rcases afh.dvd_mul (Nat.dvd_of_mod_eq_zero h1) with h2|h2
 ·exact .inl (Fin.ext (Nat.eq_zero_of_dvd_of_lt h2 a.isLt))
 ·exact .inr (Fin.ext (Nat.eq_zero_of_dvd_of_lt h2 b.isLt))
theorem F.mz (a:F):a*0=0:=by grobner
theorem F.az:(0:F)+0=0:=by grobner
theorem F.fc {a b:F} (ha:a≠0) (hb:b≠0):a*b≠0:=fun h=>
 (F.mul_eq_zero h).elim ha hb
theorem F.cancel {a b c:F} (hc:c≠0) (h:a*c=b*c):a=b:=by
 have:(a-b)*c=0:=by grobner
 rcases F.mul_eq_zero this with h1|h1
 ·grobner
 ·exact absurd h1 hc
def F.pow (a:F) (n:Nat):F:=⟨a.val ^ n%pp,Nat.mod_lt _ (by decide)⟩
theorem F.pow_zero (a:F):F.pow a 0=1:=by
 apply Fin.ext;simp[F.pow]
theorem F.pow_succ (a:F) (n:Nat):F.pow a (n+1)=F.pow a n*a:=by
 apply Fin.ext
 simp only[F.pow,Fin.val_mul,Nat.pow_succ]
 rw[Nat.mul_mod,Nat.mod_eq_of_lt a.isLt]
def F.inv (a:F):F:=F.pow a (pp-2)
theorem F.Rk {a:F} (h:a≠0):a.val%pp≠0:=by
 rw[Nat.mod_eq_of_lt a.isLt]
 intro e
 exact h (Fin.ext e)
theorem Ip:fL pp 2:=bn
theorem F.inv_mul {a:F} (h:a≠0):a*F.inv a=1:=by
 have hf:=Ip.sU (F.Rk h)
 apply Fin.ext
 show (a.val*(a.val ^ (pp-2)%pp))%pp=1%pp
 rw[Nat.mul_mod,Nat.mod_mod,← Nat.mul_mod,Nat.mul_comm,← Nat.pow_succ]
 rw[show Nat.succ (pp-2)=pp-1 from by decide,hf]
 decide
def dd:F:=37095705934669439343138083508754565189542113879843219016388785533085940283555
def ii:F:=19681161376707505956807079304988542015446066515923890162744021073123829784752
theorem amv:ii*ii= -1:=by decide+kernel
theorem asB:dd≠0:=by decide+kernel
theorem wB (s:F):s*s≠dd:=by
 intro h
 have hs:s≠0:=by
  rintro rfl
  exact asB (by rw[← h];decide+kernel)
 have hf:=Ip.sU (F.Rk hs)
 have h1:(s.val*s.val)%pp=dd.val:=by
  have:=congrArg Fin.val h
  rwa [Fin.val_mul] at this
 have h2:dd.val ^ ((pp-1)/2)%pp=1:=by
  rw[← h1,← Nat.pow_mod,← Nat.pow_two,← Nat.pow_mul]
  rw[show 2*((pp-1)/2)=pp-1 from by decide]
  exact hf
 rw[← UJ pp 255 _ _ (by decide+kernel)] at h2
 revert h2
 decide+kernel
theorem afi:(2:F)≠0:=by decide+kernel
def yi (x y:F):Prop:=y*y-x*x=1+dd*(x*x)*(y*y)
theorem yi.zero {x y:F} (h:yi x y):y*y-x*x-(1+dd*(x*x)*(y*y))=0:=by unfold yi at h;grobner
theorem amw {x1 y1 x2 y2 e:F} (h1:yi x1 y1) (h2:yi x2 y2) (he:e*e=1):dd*x1*x2*y1*y2≠e:=by
 intro hd
 unfold yi at h1 h2
 have e0:e≠0:=by rintro rfl;revert he;decide+kernel
 have Ft:x1≠0:=by rintro rfl;apply e0;rw[← hd];grobner
 have Nd:y1≠0:=by rintro rfl;apply e0;rw[← hd];grobner
 have SN:y2≠0:=by rintro rfl;apply e0;rw[← hd];grobner
 have hi:=amv
 have k1:dd*((x1*y1*(y2+ii*x2))*(x1*y1*(y2+ii*x2)))=(y1+e*ii*x1)*(y1+e*ii*x1):=by grobner
 have k2:dd*((x1*y1*(y2-ii*x2))*(x1*y1*(y2-ii*x2)))=(y1-e*ii*x1)*(y1-e*ii*x1):=by grobner
 have sq: ∀ t u:F,dd*(t*t)=u*u→t=0:=by
  intro t u h
  refine Classical.byContradiction fun ht=>?_
  apply wB (u*F.inv t)
  have hv:=F.inv_mul ht
  have:u*F.inv t*(u*F.inv t)=(u*u)*(F.inv t*F.inv t):=by grobner
  rw[this,← h]
  have:dd*(t*t)*(F.inv t*F.inv t)=dd*((t*F.inv t)*(t*F.inv t)):=by grobner
  rw[this,hv];grobner
 have z1:=sq _ _ k1
 have z2:=sq _ _ k2
 have hxy:=F.fc Ft Nd
 have w1:y2+ii*x2=0:=(F.mul_eq_zero z1).resolve_left hxy
 have w2:y2-ii*x2=0:=(F.mul_eq_zero z2).resolve_left hxy
 have:(2:F)*y2=0:=by grobner
 exact SN ((F.mul_eq_zero this).resolve_left afi)
theorem gQ {x1 y1 x2 y2:F} (h1:yi x1 y1) (h2:yi x2 y2):1+dd*x1*x2*y1*y2≠0:=by
 intro h
 exact amw h1 h2 (e:= -1) (by decide+kernel) (by grobner)
theorem gf {x1 y1 x2 y2:F} (h1:yi x1 y1) (h2:yi x2 y2):1-dd*x1*x2*y1*y2≠0:=by
 intro h
 exact amw h1 h2 (e:=1) (by decide+kernel) (by grobner)
structure Pt where
 x:F
 y:F
 on:yi x y
theorem Pt.ext' {p q:Pt} (hx:p.x=q.x) (hy:p.y=q.y):p=q:=by
 cases p;cases q;simp at hx hy;subst hx hy;rfl
def jz (x1 y1 x2 y2:F):F:=(x1*y2+y1*x2)*F.inv (1+dd*x1*x2*y1*y2)
def jA (x1 y1 x2 y2:F):F:=(y1*y2+x1*x2)*F.inv (1-dd*x1*x2*y1*y2)
theorem kI {x1 y1 x2 y2:F} (h1:yi x1 y1) (h2:yi x2 y2):jz x1 y1 x2 y2*(1+dd*x1*x2*y1*y2)=x1*y2+y1*x2:=by
 have:=F.inv_mul (gQ h1 h2)
 unfold jz
 generalize F.inv (1+dd*x1*x2*y1*y2)=v at*
 grobner
theorem kJ {x1 y1 x2 y2:F} (h1:yi x1 y1) (h2:yi x2 y2):jA x1 y1 x2 y2*(1-dd*x1*x2*y1*y2)=y1*y2+x1*x2:=by
 have:=F.inv_mul (gf h1 h2)
 unfold jA
 generalize F.inv (1-dd*x1*x2*y1*y2)=v at*
 grobner
theorem Rl (d x1 y1 x2 y2:F):((y1*y2+x1*x2)*(y1*y2+x1*x2))*((1+d*x1*x2*y1*y2)*(1+d*x1*x2*y1*y2))-((x1*y2+y1*x2)*(x1*y2+y1*x2))*((1-d*x1*x2*y1*y2)*(1-d*x1*x2*y1*y2))-((1+d*x1*x2*y1*y2)*(1+d*x1*x2*y1*y2))*((1-d*x1*x2*y1*y2)*(1-d*x1*x2*y1*y2))-d*((x1*y2+y1*x2)*(x1*y2+y1*x2))*((y1*y2+x1*x2)*(y1*y2+x1*x2))=(y2*y2*y2*y2-4*x2*x2*y2*y2-2*x2*x2*y2*y2*d+2*x2*x2*y2*y2*y2*y2+x2*x2*x2*x2-2*x2*x2*x2*x2*y2*y2-2*x2*x2*x2*x2*y2*y2*y2*y2*d-x2*x2*x2*x2*y2*y2*y2*y2*d*d-y1*y1*x2*x2*y2*y2*y2*y2*d+y1*y1*x2*x2*x2*x2*y2*y2*d+y1*y1*x2*x2*x2*x2*y2*y2*y2*y2*d*d+x1*x1*x2*x2*y2*y2*y2*y2*d-x1*x1*x2*x2*x2*x2*y2*y2*d-x1*x1*x2*x2*x2*x2*y2*y2*y2*y2*d*d+x1*x1*y1*y1*x2*x2*x2*x2*y2*y2*y2*y2*d*d*d)*(y1*y1-x1*x1-(1+d*(x1*x1)*(y1*y1)))+(1+y2*y2-x2*x2+2*x2*x2*y2*y2+x2*x2*y2*y2*d-y1*y1*y2*y2+y1*y1*x2*x2-2*y1*y1*x2*x2*y2*y2-2*y1*y1*x2*x2*y2*y2*d+y1*y1*y1*y1*x2*x2*y2*y2*d+x1*x1*y2*y2-x1*x1*x2*x2+2*x1*x1*x2*x2*y2*y2+2*x1*x1*x2*x2*y2*y2*d+x1*x1*x1*x1*x2*x2*y2*y2*d)*(y2*y2-x2*x2-(1+d*(x2*x2)*(y2*y2))):=by grobner
theorem Rm (d x1 y1 x2 y2 x3 y3:F):((x1*y2+y1*x2)*(1-d*x1*x2*y1*y2)*y3+(y1*y2+x1*x2)*(1+d*x1*x2*y1*y2)*x3)*((1+d*x2*x3*y2*y3)*(1-d*x2*x3*y2*y3)+d*x1*y1*(x2*y3+y2*x3)*(y2*y3+x2*x3))-(x1*(y2*y3+x2*x3)*(1+d*x2*x3*y2*y3)+y1*(x2*y3+y2*x3)*(1-d*x2*x3*y2*y3))*((1+d*x1*x2*y1*y2)*(1-d*x1*x2*y1*y2)+d*(x1*y2+y1*x2)*(y1*y2+x1*x2)*x3*y3)=(-y1*x2*y2*y2*y2*y2*x3*x3*y3*d-y1*x2*x2*y2*y2*y2*x3*d-y1*x2*x2*y2*y2*y2*x3*x3*x3*d-y1*x2*x2*x2*y2*y2*y3*d+y1*x2*x2*x2*y2*y2*y3*y3*y3*d+y1*x2*x2*x2*y2*y2*y2*y2*x3*x3*y3*d*d+y1*x2*x2*x2*x2*y2*x3*y3*y3*d+y1*x2*x2*x2*x2*y2*y2*y2*x3*y3*y3*d*d+x1*x2*y2*y2*y2*y2*x3*y3*y3*d-x1*x2*x2*y2*y2*y2*y3*d+x1*x2*x2*y2*y2*y2*y3*y3*y3*d-x1*x2*x2*x2*y2*y2*x3*d-x1*x2*x2*x2*y2*y2*x3*x3*x3*d-x1*x2*x2*x2*y2*y2*y2*y2*x3*y3*y3*d*d-x1*x2*x2*x2*x2*y2*x3*x3*y3*d-x1*x2*x2*x2*x2*y2*y2*y2*x3*x3*y3*d*d)*(y1*y1-x1*x1-(1+d*(x1*x1)*(y1*y1)))+(y1*y2*x3-y1*y2*x3*y3*y3+y1*y2*x3*x3*x3+y1*y2*x3*x3*x3*y3*y3*d+y1*x2*y3-y1*x2*y3*y3*y3+y1*x2*x3*x3*y3+y1*x2*x3*x3*y3*y3*y3*d-y1*x2*y2*y2*x3*x3*y3*d-y1*x2*x2*y2*x3*y3*y3*d-y1*y1*y1*y2*x3+y1*y1*y1*y2*x3*y3*y3-y1*y1*y1*y2*x3*x3*x3-y1*y1*y1*y2*x3*x3*x3*y3*y3*d-y1*y1*y1*x2*y3+y1*y1*y1*x2*y3*y3*y3-y1*y1*y1*x2*x3*x3*y3-y1*y1*y1*x2*x3*x3*y3*y3*y3*d+y1*y1*y1*x2*y2*y2*x3*x3*y3*d+y1*y1*y1*x2*x2*y2*x3*y3*y3*d+x1*y2*y3-x1*y2*y3*y3*y3+x1*y2*x3*x3*y3+x1*y2*x3*x3*y3*y3*y3*d+x1*x2*x3-x1*x2*x3*y3*y3+x1*x2*x3*x3*x3+x1*x2*x3*x3*x3*y3*y3*d+x1*x2*y2*y2*x3*y3*y3*d+x1*x2*x2*y2*x3*x3*y3*d-x1*y1*y1*y2*y3+x1*y1*y1*y2*y3*y3*y3-x1*y1*y1*y2*x3*x3*y3-x1*y1*y1*y2*x3*x3*y3*y3*y3*d-x1*y1*y1*x2*x3+x1*y1*y1*x2*x3*y3*y3-x1*y1*y1*x2*x3*x3*x3-x1*y1*y1*x2*x3*x3*x3*y3*y3*d-x1*y1*y1*x2*y2*y2*x3*y3*y3*d+x1*y1*y1*x2*y2*y2*x3*x3*x3*y3*y3*d*d-x1*y1*y1*x2*x2*y2*x3*x3*y3*d-x1*y1*y1*x2*x2*y2*x3*x3*y3*y3*y3*d*d+x1*x1*y1*y2*x3-x1*x1*y1*y2*x3*y3*y3+x1*x1*y1*y2*x3*x3*x3+x1*x1*y1*y2*x3*x3*x3*y3*y3*d+x1*x1*y1*x2*y3-x1*x1*y1*x2*y3*y3*y3+x1*x1*y1*x2*x3*x3*y3+x1*x1*y1*x2*x3*x3*y3*y3*y3*d-x1*x1*y1*x2*y2*y2*x3*x3*y3*d-x1*x1*y1*x2*y2*y2*x3*x3*y3*y3*y3*d*d-x1*x1*y1*x2*x2*y2*x3*y3*y3*d+x1*x1*y1*x2*x2*y2*x3*x3*x3*y3*y3*d*d+x1*x1*x1*y2*y3-x1*x1*x1*y2*y3*y3*y3+x1*x1*x1*y2*x3*x3*y3+x1*x1*x1*y2*x3*x3*y3*y3*y3*d+x1*x1*x1*x2*x3-x1*x1*x1*x2*x3*y3*y3+x1*x1*x1*x2*x3*x3*x3+x1*x1*x1*x2*x3*x3*x3*y3*y3*d+x1*x1*x1*x2*y2*y2*x3*y3*y3*d+x1*x1*x1*x2*x2*y2*x3*x3*y3*d)*(y2*y2-x2*x2-(1+d*(x2*x2)*(y2*y2)))+(-y1*y2*x3+y1*y2*y2*y2*x3-y1*x2*y3+y1*x2*y2*y2*y3-y1*x2*x2*y2*x3-y1*x2*x2*x2*y3+y1*y1*y1*y2*x3-y1*y1*y1*y2*y2*y2*x3+y1*y1*y1*x2*y3-y1*y1*y1*x2*y2*y2*y3+y1*y1*y1*x2*x2*y2*x3+y1*y1*y1*x2*x2*x2*y3-x1*y2*y3+x1*y2*y2*y2*y3-x1*x2*x3+x1*x2*y2*y2*x3-x1*x2*x2*y2*y3-x1*x2*x2*x2*x3+x1*y1*y1*y2*y3-x1*y1*y1*y2*y2*y2*y3+x1*y1*y1*x2*x3-x1*y1*y1*x2*y2*y2*x3-x1*y1*y1*x2*y2*y2*x3*d+x1*y1*y1*x2*x2*y2*y3+x1*y1*y1*x2*x2*y2*y3*d+x1*y1*y1*x2*x2*x2*x3-x1*x1*y1*y2*x3+x1*x1*y1*y2*y2*y2*x3-x1*x1*y1*x2*y3+x1*x1*y1*x2*y2*y2*y3+x1*x1*y1*x2*y2*y2*y3*d-x1*x1*y1*x2*x2*y2*x3-x1*x1*y1*x2*x2*y2*x3*d-x1*x1*y1*x2*x2*x2*y3-x1*x1*x1*y2*y3+x1*x1*x1*y2*y2*y2*y3-x1*x1*x1*x2*x3+x1*x1*x1*x2*y2*y2*x3-x1*x1*x1*x2*x2*y2*y3-x1*x1*x1*x2*x2*x2*x3)*(y3*y3-x3*x3-(1+d*(x3*x3)*(y3*y3))):=by grobner
theorem Rn (d x1 y1 x2 y2 x3 y3:F):((y1*y2+x1*x2)*(1+d*x1*x2*y1*y2)*y3+(x1*y2+y1*x2)*(1-d*x1*x2*y1*y2)*x3)*((1+d*x2*x3*y2*y3)*(1-d*x2*x3*y2*y3)-d*x1*y1*(x2*y3+y2*x3)*(y2*y3+x2*x3))-(y1*(y2*y3+x2*x3)*(1+d*x2*x3*y2*y3)+x1*(x2*y3+y2*x3)*(1-d*x2*x3*y2*y3))*((1+d*x1*x2*y1*y2)*(1-d*x1*x2*y1*y2)-d*(x1*y2+y1*x2)*(y1*y2+x1*x2)*x3*y3)=(y1*x2*y2*y2*y2*y2*x3*y3*y3*d-y1*x2*x2*y2*y2*y2*y3*d+y1*x2*x2*y2*y2*y2*y3*y3*y3*d-y1*x2*x2*x2*y2*y2*x3*d-y1*x2*x2*x2*y2*y2*x3*x3*x3*d-y1*x2*x2*x2*y2*y2*y2*y2*x3*y3*y3*d*d-y1*x2*x2*x2*x2*y2*x3*x3*y3*d-y1*x2*x2*x2*x2*y2*y2*y2*x3*x3*y3*d*d-x1*x2*y2*y2*y2*y2*x3*x3*y3*d-x1*x2*x2*y2*y2*y2*x3*d-x1*x2*x2*y2*y2*y2*x3*x3*x3*d-x1*x2*x2*x2*y2*y2*y3*d+x1*x2*x2*x2*y2*y2*y3*y3*y3*d+x1*x2*x2*x2*y2*y2*y2*y2*x3*x3*y3*d*d+x1*x2*x2*x2*x2*y2*x3*y3*y3*d+x1*x2*x2*x2*x2*y2*y2*y2*x3*y3*y3*d*d)*(y1*y1-x1*x1-(1+d*(x1*x1)*(y1*y1)))+(y1*y2*y3-y1*y2*y3*y3*y3+y1*y2*x3*x3*y3+y1*y2*x3*x3*y3*y3*y3*d+y1*x2*x3-y1*x2*x3*y3*y3+y1*x2*x3*x3*x3+y1*x2*x3*x3*x3*y3*y3*d+y1*x2*y2*y2*x3*y3*y3*d+y1*x2*x2*y2*x3*x3*y3*d-y1*y1*y1*y2*y3+y1*y1*y1*y2*y3*y3*y3-y1*y1*y1*y2*x3*x3*y3-y1*y1*y1*y2*x3*x3*y3*y3*y3*d-y1*y1*y1*x2*x3+y1*y1*y1*x2*x3*y3*y3-y1*y1*y1*x2*x3*x3*x3-y1*y1*y1*x2*x3*x3*x3*y3*y3*d-y1*y1*y1*x2*y2*y2*x3*y3*y3*d-y1*y1*y1*x2*x2*y2*x3*x3*y3*d+x1*y2*x3-x1*y2*x3*y3*y3+x1*y2*x3*x3*x3+x1*y2*x3*x3*x3*y3*y3*d+x1*x2*y3-x1*x2*y3*y3*y3+x1*x2*x3*x3*y3+x1*x2*x3*x3*y3*y3*y3*d-x1*x2*y2*y2*x3*x3*y3*d-x1*x2*x2*y2*x3*y3*y3*d-x1*y1*y1*y2*x3+x1*y1*y1*y2*x3*y3*y3-x1*y1*y1*y2*x3*x3*x3-x1*y1*y1*y2*x3*x3*x3*y3*y3*d-x1*y1*y1*x2*y3+x1*y1*y1*x2*y3*y3*y3-x1*y1*y1*x2*x3*x3*y3-x1*y1*y1*x2*x3*x3*y3*y3*y3*d+x1*y1*y1*x2*y2*y2*x3*x3*y3*d+x1*y1*y1*x2*y2*y2*x3*x3*y3*y3*y3*d*d+x1*y1*y1*x2*x2*y2*x3*y3*y3*d-x1*y1*y1*x2*x2*y2*x3*x3*x3*y3*y3*d*d+x1*x1*y1*y2*y3-x1*x1*y1*y2*y3*y3*y3+x1*x1*y1*y2*x3*x3*y3+x1*x1*y1*y2*x3*x3*y3*y3*y3*d+x1*x1*y1*x2*x3-x1*x1*y1*x2*x3*y3*y3+x1*x1*y1*x2*x3*x3*x3+x1*x1*y1*x2*x3*x3*x3*y3*y3*d+x1*x1*y1*x2*y2*y2*x3*y3*y3*d-x1*x1*y1*x2*y2*y2*x3*x3*x3*y3*y3*d*d+x1*x1*y1*x2*x2*y2*x3*x3*y3*d+x1*x1*y1*x2*x2*y2*x3*x3*y3*y3*y3*d*d+x1*x1*x1*y2*x3-x1*x1*x1*y2*x3*y3*y3+x1*x1*x1*y2*x3*x3*x3+x1*x1*x1*y2*x3*x3*x3*y3*y3*d+x1*x1*x1*x2*y3-x1*x1*x1*x2*y3*y3*y3+x1*x1*x1*x2*x3*x3*y3+x1*x1*x1*x2*x3*x3*y3*y3*y3*d-x1*x1*x1*x2*y2*y2*x3*x3*y3*d-x1*x1*x1*x2*x2*y2*x3*y3*y3*d)*(y2*y2-x2*x2-(1+d*(x2*x2)*(y2*y2)))+(-y1*y2*y3+y1*y2*y2*y2*y3-y1*x2*x3+y1*x2*y2*y2*x3-y1*x2*x2*y2*y3-y1*x2*x2*x2*x3+y1*y1*y1*y2*y3-y1*y1*y1*y2*y2*y2*y3+y1*y1*y1*x2*x3-y1*y1*y1*x2*y2*y2*x3+y1*y1*y1*x2*x2*y2*y3+y1*y1*y1*x2*x2*x2*x3-x1*y2*x3+x1*y2*y2*y2*x3-x1*x2*y3+x1*x2*y2*y2*y3-x1*x2*x2*y2*x3-x1*x2*x2*x2*y3+x1*y1*y1*y2*x3-x1*y1*y1*y2*y2*y2*x3+x1*y1*y1*x2*y3-x1*y1*y1*x2*y2*y2*y3-x1*y1*y1*x2*y2*y2*y3*d+x1*y1*y1*x2*x2*y2*x3+x1*y1*y1*x2*x2*y2*x3*d+x1*y1*y1*x2*x2*x2*y3-x1*x1*y1*y2*y3+x1*x1*y1*y2*y2*y2*y3-x1*x1*y1*x2*x3+x1*x1*y1*x2*y2*y2*x3+x1*x1*y1*x2*y2*y2*x3*d-x1*x1*y1*x2*x2*y2*y3-x1*x1*y1*x2*x2*y2*y3*d-x1*x1*y1*x2*x2*x2*x3-x1*x1*x1*y2*x3+x1*x1*x1*y2*y2*y2*x3-x1*x1*x1*x2*y3+x1*x1*x1*x2*y2*y2*y3-x1*x1*x1*x2*x2*y2*x3-x1*x1*x1*x2*x2*x2*y3)*(y3*y3-x3*x3-(1+d*(x3*x3)*(y3*y3))):=by grobner
theorem Ro {x1 y1 x2 y2:F} (h1:yi x1 y1) (h2:yi x2 y2):yi (jz x1 y1 x2 y2) (jA x1 y1 x2 y2):=by
 have a:=kI h1 h2
 have b:=kJ h1 h2
 have p:=gQ h1 h2
 have q:=gf h1 h2
 have c:=Rl dd x1 y1 x2 y2
 have z1:=h1.zero
 have z2:=h2.zero
 rw[z1,z2,F.mz,F.mz,F.az] at c
 unfold yi
 generalize jz x1 y1 x2 y2=X at*
 generalize jA x1 y1 x2 y2=Y at*
 rw[← a,← b] at c
 generalize 1+dd*x1*x2*y1*y2=D at*
 generalize 1-dd*x1*x2*y1*y2=E at*
 clear a b z1 z2 h1 h2
 have k:(Y*Y-X*X-(1+dd*(X*X)*(Y*Y)))*((D*D)*(E*E))=0:=by grobner
 rcases F.mul_eq_zero k with k|k
 ·grobner
 ·exact absurd k (F.fc (F.fc p p) (F.fc q q))
def Pt.add (p q:Pt):Pt:=⟨jz p.x p.y q.x q.y,jA p.x p.y q.x q.y,Ro p.on q.on⟩
def Pt.zero:Pt:=⟨0,1,by unfold yi;grobner⟩
def Pt.neg (p:Pt):Pt:=⟨-p.x,p.y,by have:=p.on;unfold yi at*;grobner⟩
theorem Pt.add_comm (p q:Pt):p.add q=q.add p:=by
 apply Pt.ext'
 ·show jz _ _ _ _=jz _ _ _ _
  unfold jz
  rw[show p.x*q.y+p.y*q.x=q.x*p.y+q.y*p.x from by grobner,show 1+dd*p.x*q.x*p.y*q.y=1+dd*q.x*p.x*q.y*p.y from by grobner]
 ·show jA _ _ _ _=jA _ _ _ _
  unfold jA
  rw[show p.y*q.y+p.x*q.x=q.y*p.y+q.x*p.x from by grobner,show 1-dd*p.x*q.x*p.y*q.y=1-dd*q.x*p.x*q.y*p.y from by grobner]
theorem Pt.add_zero (p:Pt):p.add Pt.zero=p:=by
 have h1:=kI p.on Pt.zero.on
 have h2:=kJ p.on Pt.zero.on
 apply Pt.ext'
 ·show jz p.x p.y 0 1=p.x
  have e:jz p.x p.y 0 1*(1+dd*p.x*0*p.y*1)=p.x*1+p.y*0:=h1
  grobner
 ·show jA p.x p.y 0 1=p.y
  have e:jA p.x p.y 0 1*(1-dd*p.x*0*p.y*1)=p.y*1+p.x*0:=h2
  grobner
theorem Pt.add_assoc (p q r:Pt):(p.add q).add r=p.add (q.add r):=by
 obtain ⟨x1,y1,o1⟩:=p
 obtain ⟨x2,y2,o2⟩:=q
 obtain ⟨x3,y3,o3⟩:=r
 have a12:=kI o1 o2
 have b12:=kJ o1 o2
 have a23:=kI o2 o3
 have b23:=kJ o2 o3
 have p12:=gQ o1 o2
 have q12:=gf o1 o2
 have p23:=gQ o2 o3
 have q23:=gf o2 o3
 have n12:=Ro o1 o2
 have n23:=Ro o2 o3
 have aL:=kI n12 o3
 have bL:=kJ n12 o3
 have aR:=kI o1 n23
 have bR:=kJ o1 n23
 have pL:=gQ n12 o3
 have qL:=gf n12 o3
 have pR:=gQ o1 n23
 have qR:=gf o1 n23
 have ix:=Rm dd x1 y1 x2 y2 x3 y3
 have iy:=Rn dd x1 y1 x2 y2 x3 y3
 have z1:=o1.zero
 have z2:=o2.zero
 have z3:=o3.zero
 rw[z1,z2,z3,F.mz,F.mz,F.mz,F.az,F.az] at ix iy
 apply Pt.ext'
 ·show jz (jz x1 y1 x2 y2) (jA x1 y1 x2 y2) x3 y3=jz x1 y1 (jz x2 y2 x3 y3) (jA x2 y2 x3 y3)
  clear z1 z2 z3 o1 o2 o3 n12 n23 bL bR iy qL qR
  generalize jz (jz x1 y1 x2 y2) (jA x1 y1 x2 y2) x3 y3=XL at*
  generalize jz x1 y1 (jz x2 y2 x3 y3) (jA x2 y2 x3 y3)=XR at*
  generalize jz x1 y1 x2 y2=u at*
  generalize jA x1 y1 x2 y2=v at*
  generalize jz x2 y2 x3 y3=s at*
  generalize jA x2 y2 x3 y3=t at*
  generalize 1+dd*x1*x2*y1*y2=D at*
  generalize 1-dd*x1*x2*y1*y2=E at*
  generalize 1+dd*x2*x3*y2*y3=G at*
  generalize 1-dd*x2*x3*y2*y3=H at*
  rw[← a12,← b12,← a23,← b23] at ix
  clear a12 b12 a23 b23
  generalize hA:1+dd*u*x3*v*y3=A at*
  generalize hB:1+dd*x1*s*y1*t=B at*
  have k1:XL*(D*E*A)=(u*y3+v*x3)*(D*E):=by grobner
  have k2:XR*(G*H*B)=(x1*t+y1*s)*(G*H):=by grobner
  have k3:(u*y3+v*x3)*(D*E)*(G*H*B)=(x1*t+y1*s)*(G*H)*(D*E*A):=by grobner
  apply F.cancel (F.fc (F.fc (F.fc p12 q12) pL) (F.fc (F.fc p23 q23) pR))
  grobner
 ·show jA (jz x1 y1 x2 y2) (jA x1 y1 x2 y2) x3 y3=jA x1 y1 (jz x2 y2 x3 y3) (jA x2 y2 x3 y3)
  clear z1 z2 z3 o1 o2 o3 n12 n23 aL aR ix pL pR
  generalize jA (jz x1 y1 x2 y2) (jA x1 y1 x2 y2) x3 y3=XL at*
  generalize jA x1 y1 (jz x2 y2 x3 y3) (jA x2 y2 x3 y3)=XR at*
  generalize jz x1 y1 x2 y2=u at*
  generalize jA x1 y1 x2 y2=v at*
  generalize jz x2 y2 x3 y3=s at*
  generalize jA x2 y2 x3 y3=t at*
  generalize 1+dd*x1*x2*y1*y2=D at*
  generalize 1-dd*x1*x2*y1*y2=E at*
  generalize 1+dd*x2*x3*y2*y3=G at*
  generalize 1-dd*x2*x3*y2*y3=H at*
  rw[← a12,← b12,← a23,← b23] at iy
  clear a12 b12 a23 b23
  generalize hA:1-dd*u*x3*v*y3=A at*
  generalize hB:1-dd*x1*s*y1*t=B at*
  have k1:XL*(D*E*A)=(v*y3+u*x3)*(D*E):=by grobner
  have k2:XR*(G*H*B)=(y1*t+x1*s)*(G*H):=by grobner
  have k3:(v*y3+u*x3)*(D*E)*(G*H*B)=(y1*t+x1*s)*(G*H)*(D*E*A):=by grobner
  apply F.cancel (F.fc (F.fc (F.fc p12 q12) qL) (F.fc (F.fc p23 q23) qR))
  grobner
end BJ
end
section
namespace Go.Proofs.YtjalaohajcpllaaGreat
open Go Go.Ev
set_option maxRecDepth 100000
abbrev Fe:=Vec Int 5
abbrev fM:=Vec Int 32
def dV (n:Int):Int:=IntKind.u64.wrap n
def dI (a b:Int):Int:=bg .u64 a b
def bS (a b:Int):Int:=shr .u64 a b
def ES:Int:=2251799813685247
def cO (x:Fe):Fe:=
 (dV (dI x.1 ES+dV (bS x.2.2.2.2.1 51*19)),
  dV (dI x.2.1 ES+bS x.1 51),
  dV (dI x.2.2.1 ES+bS x.2.1 51),
  dV (dI x.2.2.2.1 ES+bS x.2.2.1 51),
  dV (dI x.2.2.2.2.1 ES+bS x.2.2.2.1 51),())
def bc (n:Int):Fe:=(dI n ES,bS n 51,0,0,0,())
def UL (carry:Fe→Fe) (x y:Fe):Fe:=carry (Vec.zip (fun a b=>dV (a+b)) x y)
def LP (carry:Fe→Fe) (x y:Fe):Fe:=carry (Vec.zip (fun a b=>dV (a-b)) (Vec.zip (fun a b=>dV (a+b)) x (4503599627370458,4503599627370494,4503599627370494,4503599627370494,4503599627370494,())) y)
def dQ:Fe:=(0,0,0,0,0,())
def eqV: {n:Nat}→Vec Int n→Vec Int n→Bool
 |0,_,_=>true
 |_+1,v,u=>(v.1==u.1)&&eqV v.2 u.2
theorem wC: {n:Nat}→(v u:Vec Int n)→(eqV v u=true↔v=u)
 |0,_,_=>⟨fun _=>rfl,fun _=>rfl⟩
 |n+1,v,u=>by
  simp only[eqV,Bool.and_eq_true,beq_iff_eq,wC v.2 u.2]
  exact ⟨fun h=>Prod.ext h.1 h.2,fun h=>by rw[h];exact ⟨rfl,rfl⟩⟩
def afj (bytes:Fe→fM) (x:Fe):Bool:=bg .u8 (bytes x).1 1==1
def wD (carry:Fe→Fe) (x:Fe):Fe:=
 let y:=carry x
 let c:=bS (dV (y.1+19)) 51
 let c:=bS (dV (y.2.1+c)) 51
 let c:=bS (dV (y.2.2.1+c)) 51
 let c:=bS (dV (y.2.2.2.1+c)) 51
 let c:=bS (dV (y.2.2.2.2.1+c)) 51
 let c:=dV (c*19)
 let c0:=dV (c+y.1)
 let c1:=dV (bS c0 51+y.2.1)
 let c2:=dV (bS c1 51+y.2.2.1)
 let c3:=dV (bS c2 51+y.2.2.2.1)
 let c4:=dV (bS c3 51+y.2.2.2.2.1)
 (dI c0 ES,dI c1 ES,dI c2 ES,dI c3 ES,dI c4 ES,())
end Go.Proofs.YtjalaohajcpllaaGreat
namespace Go.Proofs.YtjalaohajcpllaaGreat
open Go Go.Ev
set_option maxRecDepth 1000000
def Rp (y:Fe):fM:=Vec.ofFn 32 fun j=>(List.range (if j=31 then 7 else 8)).foldl
 (fun acc i=>bD .u8 acc (shl .u8 (IntKind.u8.wrap (dI (bS (y.get ((8*j+i)/51)) (((8*j+i)%51:Nat):Int)) 1)) (i:Int))) 0
def word (b:fM) (j:Nat):Int:=(List.range 8).foldl (fun acc i=>bD .u64 acc (shl .u64 (dV (b.get (8*j+i))) (8*i:Nat))) 0
def n5 (b:fM):Fe:=
 (dI (word b 0) ES,dI (bD .u64 (bS (word b 0) 51) (shl .u64 (word b 1) 13)) ES,dI (bD .u64 (bS (word b 1) 38) (shl .u64 (word b 2) 26)) ES,
  dI (bD .u64 (bS (word b 2) 25) (shl .u64 (word b 3) 39)) ES,dI (bS (word b 3) 12) ES,())
def Vec.zk {α:Type} (f:α→α): {n:Nat}→Nat→Vec α n→Vec α n
 |0,_,_=>()
 |_+1,0,v=>(f v.1,v.2)
 |_+1,i+1,v=>(v.1,Vec.zk f i v.2)
def bs (x y:Int):Int×Int:=
 let x0:=dI x 4294967295
 let x1:=bS x 32
 let y0:=dI y 4294967295
 let y1:=bS y 32
 let t:=dV (dV (x1*y0)+bS (dV (x0*y0)) 32)
 let w1:=dV (dI t 4294967295+dV (x0*y1))
 (dV (dV (dV (x1*y1)+bS t 32)+bS w1 32),dV (x*y))
def wE:List Prop→Option Prop
 | []=>none
 |p::l=>av9 p (wE l)
section
variable (m64:Int→Int→Int×Int) (a64:Int→Int→Int→Int×Int)
def gx (x y:Fe):List (Nat×Nat)→List (Int×Int)→List (Int×Int)×List Prop
 | [],r=>(r,[])
 |(i,j)::l,r=>
  let a:=if i+j<5 then x.get i else dV (x.get i*19)
  let p:=r.getD ((i+j)%5) (0,0)
  let m:=m64 a (y.get j)
  let s:=a64 p.2 m.2 0
  let t:=a64 p.1 m.1 s.2
  let z:=gx x y l (r.set ((i+j)%5) (t.1,s.1))
  (z.1,(0≤s.2∧s.2≤1)::z.2)
def fB:List (Nat×Nat):= [(0,0),(0,1),(0,2),(0,3),(0,4),(1,0),(1,1),(1,2),(1,3),(1,4),(2,0),(2,1),(2,2),(2,3),(2,4),(3,0),(3,1),(3,2),(3,3),(3,4),(4,0),(4,1),(4,2),(4,3),(4,4)]
def CJ (x y:Fe):List Prop:=(gx m64 a64 x y fB [(0,0),(0,0),(0,0),(0,0),(0,0)]).2
def sX (carry:Fe→Fe) (x y:Fe):Fe:=
 let r:=(gx m64 a64 x y fB [(0,0),(0,0),(0,0),(0,0),(0,0)]).1
 let lo (i:Nat):=dI (r.getD i (0,0)).2 ES
 let c (i:Nat):=bD .u64 (shl .u64 (r.getD i (0,0)).1 13) (bS (r.getD i (0,0)).2 51)
 carry (dV (dV (0+lo 0)+dV (c 4*19)),dV (dV (0+c 0)+lo 1),dV (dV (0+c 1)+lo 2),dV (dV (0+c 2)+lo 3),dV (dV (0+c 3)+lo 4),())
end
end Go.Proofs.YtjalaohajcpllaaGreat
namespace Go.Proofs.YtjalaohajcpllaaGreat
open Go Go.Ev
set_option maxRecDepth 1000000
noncomputable def iK (lo hi:Int):fM:=Vec.ofFn 32 fun j=>if j=0 then lo else if j=31 then hi else 255
def kL (b:Bool): {n:Nat}→Vec Int n→Vec Int n→Vec Int n
 |0,_,_=>()
 |_+1,v,u=>(bif b then v.1 else u.1,kL b v.2 u.2)
theorem ez: {n:Nat}→(b:Bool)→(v u:Vec Int n)→kL b v u=bif b then v else u
 |0,b,v,u=>by cases b<;>rfl
 |n+1,b,v,u=>by
  show ((bif b then v.1 else u.1),kL b v.2 u.2)=_
  rw[ez b v.2 u.2]
  cases b<;>rfl
theorem X3 {n:Nat} (b:Bool) (v:Vec Int n):kL b v v=v:=by rw[ez];cases b<;>rfl
def ET (e:fM) (i:Nat):Bool:=bg .u8 (shr .u8 (e.get (i/8)) ((i%8:Nat):Int)) 1==1
section
variable (small:Int→Fe) (pZ:Fe→Fe) (mul:Fe→Fe→Fe)
def fQ (x:Fe) (e:fM) (k:Nat) (r:Fe):Fe:=kL (ET e (255-k)) (mul (pZ r) x) (pZ r)
noncomputable def amy (x:Fe) (e:fM):Fe:=je (fQ pZ mul x e) 256 (small 1)
end
section
variable (pow:Fe→fM→Fe) (exp:Int→Int→fM) (mul:Fe→Fe→Fe) (pZ neg:Fe→Fe) (small:Int→Fe) (equal:Fe→Fe→Bool) (odd isZero:Fe→Bool) (invert:Fe→Fe)
noncomputable def CK (x:Fe):Fe×Bool:=
 let r:=pow x (exp 254 15)
 let r1:=kL (!(equal (pZ r) x)) (mul r (pow (small 2) (exp 251 31))) r
 let bad:= !(equal (pZ r1) (kL (!(equal (pZ r) x)) x x))
 (kL bad dQ (kL (odd r1) (neg r1) r1),bif bad then false else true)
end
end Go.Proofs.YtjalaohajcpllaaGreat
namespace Go.Proofs.YtjalaohajcpllaaGreat
open Go Go.Ev
set_option maxRecDepth 1000000
abbrev Pt:=Bool×Fe×Fe×Fe×Fe
noncomputable def UM (b:Bool) (p q:Pt):Pt:=(bif b then p.1 else q.1,kL b p.2.1 q.2.1,kL b p.2.2.1 q.2.2.1,kL b p.2.2.2.1 q.2.2.2.1,kL b p.2.2.2.2 q.2.2.2.2)
theorem wF (b:Bool) (p q:Pt):UM b p q=bif b then p else q:=by
 unfold UM;rw[ez,ez,ez,ez];cases b<;>rfl
section
variable (mul add sub:Fe→Fe→Fe) (pZ neg invert:Fe→Fe) (small:Int→Fe) (isZero odd:Fe→Bool) (sqrt:Fe→Fe×Bool) (ratio:Fe→Fe→Fe×Bool) (frm:fM→Fe) (bytes:Fe→fM)
 (X4:fM→Bool) (equal:Fe→Fe→Bool) (aoF:Fe) (zero:Pt) (own:Pt→Pt) (awn:Fe→Fe→Pt) (root:Fe→Fe×Bool) (place:Pt→Fe×Fe) (UN:Fe→Fe→Fe→Fe→Pt) (afl:Pt→Pt→Pt)
noncomputable def mZ:fM:=(0xa3,0x78,0x59,0x13,0xca,0x4d,0xeb,0x75,0xab,0xd8,0x41,0x41,0x4d,0x0a,0x70,0x00,0x98,0xe8,0x79,0x77,0x79,0x40,0xc7,0x8c,0x73,0xfe,0x6f,0x2b,0xee,0x6c,0x03,0x52,())
noncomputable def afm (x y:Fe):Pt:=(true,x,y,small 1,mul x y)
noncomputable def afn (p:Pt):Pt:=UM (!p.1) zero p
noncomputable def ajX (p:Pt):Fe×Fe:=(mul (own p).2.1 (invert (own p).2.2.2.1),mul (own p).2.2.1 (invert (own p).2.2.2.1))
noncomputable def CL (p:Pt):fM:=
 let b:=bytes (place p).2
 kL (odd (place p).1) (Vec.zk (fun x=>bD .u8 x 128) 31 b) b
noncomputable def ajY (e f g h:Fe):Pt:=(true,mul e f,mul g h,mul f g,mul e h)
noncomputable def addFn (p0 q0:Pt):Pt:=
 let p:=own p0
 let q:=own q0
 let a:=mul (sub p.2.2.1 p.2.1) (sub q.2.2.1 q.2.1)
 let b:=mul (add p.2.2.1 p.2.1) (add q.2.2.1 q.2.1)
 let c:=mul (mul p.2.2.2.2 q.2.2.2.2) aoF
 let c:=add c c
 let d:=mul p.2.2.2.1 q.2.2.2.1
 let d:=add d d
 UN (sub b a) (sub d c) (add d c) (add b a)
end
end Go.Proofs.YtjalaohajcpllaaGreat
namespace Go.Ev
open Go
end Go.Ev
namespace Go.Proofs.YtjalaohajcpllaaGreat
open Go Go.Ev
set_option maxRecDepth 1000000
noncomputable def p9 (b:fM) (k:Nat):Int:=IntKind.i64.wrap (bg .u8 (shr .u8 (b.get (k/8)) ((k%8:Nat):Int)) 1)
section
variable (bit:fM→Nat→Int) (zero base:Pt) (double:Pt→Pt) (afl:Pt→Pt→Pt)
noncomputable def iD (n:fM) (p:Pt) (k:Nat) (r:Pt):Pt:=UM (bit n (255-k)==1) (afl (double r) p) (double r)
noncomputable def afo (n:fM) (p:Pt):Pt:=je (iD bit double afl n p) 256 zero
end
end Go.Proofs.YtjalaohajcpllaaGreat
namespace Go.Proofs.YtjalaohajcpllaaGreat
open Go Go.Ev
set_option maxRecDepth 1000000
abbrev Fn:=Vec Int 16
def w (n:Int):Int:=IntKind.i64.wrap n
section
variable (dU:Fn) (below:Fn→Fn→Bool) (norm:Fn→Fn)
end
end Go.Proofs.YtjalaohajcpllaaGreat
namespace Go.Proofs.YtjalaohajcpllaaGreat
open Go Go.Ev
set_option maxRecDepth 1000000
abbrev Pn:=Fn×Fn×Fn×Fn
section
variable (bit:fM→Nat→Int) (small:Int→Fn) (mul add sub:Fn→Fn→Fn) (neg invert:Fn→Fn) (odd:Fn→Bool) (pow:Fn→fM→Fn) (sqrt:Fn→Fn×Bool) (ratio:Fn→Fn→Fn×Bool) (aoF:Fn)
 (frm:fM→Fn) (bytes:Fn→fM) (X4:fM→Bool) (zero:Pn) (ofp:Fn→Fn→Pn) (xOf:Fn→Fn×Bool) (asE:Pn→Pn→Fn→Pn)
end
end Go.Proofs.YtjalaohajcpllaaGreat
namespace BJ
def dp (n:Int):F:=⟨(n%(pp:Int)).toNat,by
 have h1:0≤n%(pp:Int):=Int.emod_nonneg _ (by decide)
 have h2:n%(pp:Int)<(pp:Int):=Int.emod_lt_of_pos _ (by decide)
 omega⟩
theorem fR (n:Int):((dp n).val:Int)=n%(pp:Int):=Int.toNat_of_nonneg (Int.emod_nonneg _ (by decide))
theorem CM {a b:F} (h:(a.val:Int)=b.val):a=b:=Fin.ext (Int.ofNat_inj.1 h)
theorem ajZ {a b:Int}:dp a=dp b↔a%(pp:Int)=b%(pp:Int):=by
 constructor
 ·intro h;rw[← fR,← fR,h]
 ·intro h;exact CM (by rw[fR,fR,h])
theorem lG (a b:Int):dp (a+b)=dp a+dp b:=by
 apply CM
 rw[fR,Fin.val_add,Int.natCast_emod,Int.natCast_add,fR,fR,← Int.add_emod]
theorem rG (a b:Int):dp (a*b)=dp a*dp b:=by
 apply CM
 rw[fR,Fin.val_mul,Int.natCast_emod,Int.natCast_mul,fR,fR,← Int.mul_emod]
theorem afp:dp 0=0:=by apply CM;rw[fR];decide
theorem UO:dp 1=1:=by apply CM;rw[fR];decide
theorem aj0 (a b:Int):dp (a-b)=dp a-dp b:=by
 have h:dp (a-b)+dp b=dp a:=by rw[← lG];congr 1;omega
 grobner
theorem Iq (a k:Int):dp (a+k*(pp:Int))=dp a:=ajZ.2 (Int.add_mul_emod_self_right _ _ _)
end BJ
namespace Go.Proofs.YtjalaohajcpllaaGreat
open Go Go.Ev BJ
def EU (a b c d e:Int):Fe:=(a,b,c,d,e,())
def xe (n:Int):Prop:=0≤n∧n<18446744073709551616
def LQ (n:Int):Prop:=0≤n∧n<2251799813947392
def U5 (x:Fe):Prop:=xe x.1∧xe x.2.1∧xe x.2.2.1∧xe x.2.2.2.1∧xe x.2.2.2.2.1
def fN (x:Fe):Prop:=LQ x.1∧LQ x.2.1∧LQ x.2.2.1∧LQ x.2.2.2.1∧LQ x.2.2.2.2.1
def fC (x:Fe):Int:=x.1+x.2.1*2251799813685248+x.2.2.1*5070602400912917605986812821504+x.2.2.2.1*11417981541647679048466287755595961091061972992+x.2.2.2.2.1*25711008708143844408671393477458601640355247900524685364822016
def fe (x:Fe):F:=dp (fC x)
theorem wG (x:Int):dI x ES=x%2251799813685248:=by
 have:=tN (m:=51) (by decide) x ES (by decide)
 simpa [dI] using this
theorem Ir (x:Int):bS x 51=x/2251799813685248:=by
 have:=eX .u64 x 51 (by decide)
 simpa [bS] using this
theorem X5 {x:Fe} (h:U5 x):fN (cO x)∧ ∃ k,fC (cO x)=fC x+k*(pp:Int):=by
 obtain ⟨x0,x1,x2,x3,x4,u⟩:=x
 obtain ⟨h0,h1,h2,h3,h4⟩:=h
 simp only[xe] at h0 h1 h2 h3 h4
 have e:cO (x0,x1,x2,x3,x4,u)=EU (x0%2251799813685248+x4/2251799813685248*19) (x1%2251799813685248+x0/2251799813685248) (x2%2251799813685248+x1/2251799813685248)
   (x3%2251799813685248+x2/2251799813685248) (x4%2251799813685248+x3/2251799813685248):=by
  simp only[cO,wG,Ir,dV]
  rw[wrap_u64 (n:=x4/2251799813685248*19) (by omega) (by omega)]
  rw[wrap_u64 (by omega) (by omega),wrap_u64 (by omega) (by omega),wrap_u64 (by omega) (by omega),wrap_u64 (by omega) (by omega),wrap_u64 (by omega) (by omega)]
  rfl
 rw[e]
 refine ⟨?_,-(x4/2251799813685248),?_⟩
 ·simp only[fN,LQ,EU];omega
 ·simp only[fC,pp,EU];omega
theorem wH {x:Fe} (h:U5 x):fN (cO x)∧fe (cO x)=fe x:=by
 obtain ⟨h1,k,h2⟩:=X5 h
 exact ⟨h1,by unfold fe;rw[h2,Iq]⟩
theorem aoG {x y:Fe} (hx:fN x) (hy:fN y):fN (UL cO x y)∧fe (UL cO x y)=fe x+fe y:=by
 obtain ⟨x0,x1,x2,x3,x4,u⟩:=x
 obtain ⟨y0,y1,y2,y3,y4,v⟩:=y
 simp only[fN,LQ] at hx hy
 have e:Vec.zip (n:=5) (fun a b=>dV (a+b)) (x0,x1,x2,x3,x4,u) (y0,y1,y2,y3,y4,v)=EU (x0+y0) (x1+y1) (x2+y2) (x3+y3) (x4+y4):=by
  show (dV (x0+y0),dV (x1+y1),dV (x2+y2),dV (x3+y3),dV (x4+y4),())=_
  simp only[dV]
  rw[wrap_u64 (by omega) (by omega),wrap_u64 (by omega) (by omega),wrap_u64 (by omega) (by omega),wrap_u64 (by omega) (by omega),wrap_u64 (by omega) (by omega)]
  rfl
 unfold UL
 rw[e]
 obtain ⟨h1,h2⟩:=wH (x:=EU (x0+y0) (x1+y1) (x2+y2) (x3+y3) (x4+y4)) (by simp only[U5,xe,EU];omega)
 refine ⟨h1,?_⟩
 rw[h2]
 unfold fe
 rw[← lG]
 congr 1
 simp only[fC,EU];omega
theorem afq {x y:Fe} (hx:fN x) (hy:fN y):fN (LP cO x y)∧fe (LP cO x y)=fe x-fe y:=by
 obtain ⟨x0,x1,x2,x3,x4,u⟩:=x
 obtain ⟨y0,y1,y2,y3,y4,v⟩:=y
 simp only[fN,LQ] at hx hy
 have e:Vec.zip (n:=5) (fun a b=>dV (a-b)) (Vec.zip (n:=5) (fun a b=>dV (a+b)) (x0,x1,x2,x3,x4,u) (4503599627370458,4503599627370494,4503599627370494,4503599627370494,4503599627370494,())) (y0,y1,y2,y3,y4,v)=
   EU (x0+4503599627370458-y0) (x1+4503599627370494-y1) (x2+4503599627370494-y2) (x3+4503599627370494-y3) (x4+4503599627370494-y4):=by
  show (dV (dV (x0+4503599627370458)-y0),dV (dV (x1+4503599627370494)-y1),dV (dV (x2+4503599627370494)-y2),dV (dV (x3+4503599627370494)-y3),dV (dV (x4+4503599627370494)-y4),())=_
  simp only[dV]
  rw[wrap_u64 (n:=x0+4503599627370458) (by omega) (by omega),wrap_u64 (n:=x1+4503599627370494) (by omega) (by omega),wrap_u64 (n:=x2+4503599627370494) (by omega) (by omega),wrap_u64 (n:=x3+4503599627370494) (by omega) (by omega),wrap_u64 (n:=x4+4503599627370494) (by omega) (by omega)]
  rw[wrap_u64 (by omega) (by omega),wrap_u64 (by omega) (by omega),wrap_u64 (by omega) (by omega),wrap_u64 (by omega) (by omega),wrap_u64 (by omega) (by omega)]
  rfl
 unfold LP
 rw[e]
 obtain ⟨h1,h2⟩:=wH (x:=EU (x0+4503599627370458-y0) (x1+4503599627370494-y1) (x2+4503599627370494-y2) (x3+4503599627370494-y3) (x4+4503599627370494-y4)) (by simp only[U5,xe,EU];omega)
 refine ⟨h1,?_⟩
 rw[h2]
 unfold fe
 rw[← aj0,← Iq (fC (x0,x1,x2,x3,x4,u)-_) 2]
 congr 1
 simp only[fC,pp,EU];omega
theorem jh:fN dQ∧fe dQ=0:=by
 refine ⟨by simp[fN,LQ,dQ],?_⟩
 rw[← afp];rfl
theorem EV {a b:Int} (ha:xe a) (hb:xe b):bs a b=(a*b/18446744073709551616,a*b%18446744073709551616):=by
 simp only[xe] at ha hb
 have e0: ∀ x,dI x 4294967295=x%4294967296:=fun x=>by
  have:=tN (m:=32) (by decide) x 4294967295 (by decide)
  simpa [dI] using this
 have e1: ∀ x,bS x 32=x/4294967296:=fun x=>by
  have:=eX .u64 x 32 (by decide)
  simpa [bS] using this
 obtain ⟨a0,a1,ha0,ha1,rfl⟩: ∃ a0 a1:Int,a%4294967296=a0∧a/4294967296=a1∧a=a1*4294967296+a0:=⟨_,_,rfl,rfl,by omega⟩
 obtain ⟨b0,b1,ZX,hb1,rfl⟩: ∃ b0 b1:Int,b%4294967296=b0∧b/4294967296=b1∧b=b1*4294967296+b0:=⟨_,_,rfl,rfl,by omega⟩
 have tf: ∀ {p q:Int},0≤p→p≤4294967295→0≤q→q≤4294967295→0≤p*q∧p*q≤18446744065119617025:=fun {p q} h1 h2 h3 h4=>
  ⟨Int.mul_nonneg h1 h3,Int.le_trans (Int.mul_le_mul h2 h4 h3 (by decide)) (by decide)⟩
 have Zd:=tf (p:=a0) (q:=b0) (by omega) (by omega) (by omega) (by omega)
 have h01:=tf (p:=a0) (q:=b1) (by omega) (by omega) (by omega) (by omega)
 have h10:=tf (p:=a1) (q:=b0) (by omega) (by omega) (by omega) (by omega)
 have h11:=tf (p:=a1) (q:=b1) (by omega) (by omega) (by omega) (by omega)
 have hab:(a1*4294967296+a0)*(b1*4294967296+b0)=a1*b1*18446744073709551616+(a1*b0+a0*b1)*4294967296+a0*b0:=by grind
 simp only[bs,e0,e1,ha0,ha1,ZX,hb1,dV]
 rw[hab]
 generalize a0*b0=p00 at*
 generalize a0*b1=p01 at*
 generalize a1*b0=p10 at*
 generalize a1*b1=p11 at*
 rw[wrap_u64 (n:=p00) (by omega) (by omega),wrap_u64 (n:=p10) (by omega) (by omega),wrap_u64 (n:=p01) (by omega) (by omega),wrap_u64 (n:=p11) (by omega) (by omega)]
 rw[wrap_u64 (n:=p10+p00/4294967296) (by omega) (by omega)]
 rw[wrap_u64 (n:=(p10+p00/4294967296)%4294967296+p01) (by omega) (by omega)]
 rw[wrap_u64 (n:=p11+(p10+p00/4294967296)/4294967296) (by omega) (by omega)]
 rw[mB,mB]
 refine Prod.ext ?_ ?_
 ·show _=_/_;omega
 ·show _=_%_;omega
end Go.Proofs.YtjalaohajcpllaaGreat
namespace Go.Proofs.YtjalaohajcpllaaGreat
open Go Go.Ev BJ
theorem kc {x y c:Int} (hx:0≤x) (hy:0≤y) (hc:0≤c):bB x y c=((x+y+c)%18446744073709551616,(x+y+c)/18446744073709551616):=by
 obtain ⟨a,rfl⟩:=Int.eq_ofNat_of_zero_le hx
 obtain ⟨b,rfl⟩:=Int.eq_ofNat_of_zero_le hy
 obtain ⟨d,rfl⟩:=Int.eq_ofNat_of_zero_le hc
 simp only[bB,Int.toNat_natCast]
 refine Prod.ext ?_ ?_
 ·show (((a+b+d)%2 ^ 64:Nat):Int)=_;omega
 ·show (((a+b+d)/2 ^ 64:Nat):Int)=_;omega
def OkP (p:Int×Int):Prop:=0≤p.2∧p.2<18446744073709551616∧0≤p.1
def pv (p:Int×Int):Int:=p.1*18446744073709551616+p.2
def ff (x:Fe) (i j:Nat):Int:=if i+j<5 then x.get i else dV (x.get i*19)
def qa (x y:Fe) (k:Nat):List (Nat×Nat)→Int
 | []=>0
 |(i,j)::l=>(if (i+j)%5=k then ff x i j*y.get j else 0)+qa x y k l
theorem EW {x y:Fe} (hc: ∀ i j,i<5→j<5→0≤ff x i j∧ff x i j<72057594037927936) (hy: ∀ j,j<5→0≤y.get j∧y.get j<4503599627370496):
  ∀ (l:List (Nat×Nat)) (r:List (Int×Int)) (B:Int),(∀ p∈l,p.1<5∧p.2<5)→r.length=5→(∀ k,k<5→OkP (r.getD k (0,0))∧pv (r.getD k (0,0))≤B)→
   B+l.length*324518553658426726783156020576256<340282366920938463463374607431768211456→
   (∀ k,k<5→OkP ((gx bs bB x y l r).1.getD k (0,0))∧pv ((gx bs bB x y l r).1.getD k (0,0))=pv (r.getD k (0,0))+qa x y k l)∧
   ∀ p∈(gx bs bB x y l r).2,p
 | [],r,B,_,hl,hr,_=>⟨fun k hk=>⟨(hr k hk).1,by simp[gx,qa]⟩,fun p hp=>by simp[gx] at hp⟩
 |(i,j)::l,r,B,hm,hl,hr,hB=>by
  obtain ⟨hi,hj⟩:=hm (i,j) (by simp)
  obtain ⟨c0,c1⟩:=hc i j hi hj
  obtain ⟨y0,y1⟩:=hy j hj
  have hkk:(i+j)%5<5:=Nat.mod_lt _ (by decide)
  obtain ⟨⟨p0,p1,p2⟩,p3⟩:=hr _ hkk
  have hpr:0≤ff x i j*y.get j∧ff x i j*y.get j≤324518553658426726783156020576256:=⟨Int.mul_nonneg c0 y0,by
   have:=Int.mul_le_mul (a:=ff x i j) (b:=y.get j) (c:=72057594037927936) (d:=4503599627370496) (by omega) (by omega) (by omega) (by omega)
   omega⟩
  have hcB:0≤(l.length:Int):=by omega
  simp only[List.length_cons,Int.natCast_add] at hB
  have hmul:=EV (a:=ff x i j) (b:=y.get j) ⟨c0,by omega⟩ ⟨y0,by omega⟩
  generalize hab:ff x i j*y.get j=ab at hpr hmul
  generalize Ts:r.getD ((i+j)%5) (0,0)=p at p0 p1 p2 p3
  unfold pv at p3
  have hs:bB p.2 (bs (ff x i j) (y.get j)).2 0=((p.2+ab%18446744073709551616+0)%18446744073709551616,(p.2+ab%18446744073709551616+0)/18446744073709551616):=by
   rw[hmul];exact kc p0 (by show 0≤ab%18446744073709551616;omega) (by omega)
  have ht:bB p.1 (bs (ff x i j) (y.get j)).1 (bB p.2 (bs (ff x i j) (y.get j)).2 0).2=((p.1+ab/18446744073709551616+(p.2+ab%18446744073709551616+0)/18446744073709551616)%18446744073709551616,
    (p.1+ab/18446744073709551616+(p.2+ab%18446744073709551616+0)/18446744073709551616)/18446744073709551616):=by
   rw[hs,hmul];exact kc p2 (by show 0≤ab/18446744073709551616;omega) (by show 0≤(p.2+ab%18446744073709551616+0)/18446744073709551616;omega)
  have JB:gx bs bB x y ((i,j)::l) r=((gx bs bB x y l (r.set ((i+j)%5) ((bB p.1 (bs (ff x i j) (y.get j)).1 (bB p.2 (bs (ff x i j) (y.get j)).2 0).2).1,(bB p.2 (bs (ff x i j) (y.get j)).2 0).1))).1,
    (0≤(bB p.2 (bs (ff x i j) (y.get j)).2 0).2∧(bB p.2 (bs (ff x i j) (y.get j)).2 0).2≤1)::(gx bs bB x y l (r.set ((i+j)%5) ((bB p.1 (bs (ff x i j) (y.get j)).1 (bB p.2 (bs (ff x i j) (y.get j)).2 0).2).1,(bB p.2 (bs (ff x i j) (y.get j)).2 0).1))).2):=by
   rw[← Ts];rfl
  rw[JB,ht,hs]
  have me: ∀ (v:Int×Int) k,k<5→(r.set ((i+j)%5) v).getD k (0,0)=if (i+j)%5=k then v else r.getD k (0,0):=by
   intro v k hk
   simp only[List.getD_eq_getElem?_getD,List.getElem?_set]
   split
   ·rename_i e;subst e;simp[hl,hkk]
   ·rfl
  obtain ⟨h1,h2⟩:=EW hc hy l (r.set ((i+j)%5) ((p.1+ab/18446744073709551616+(p.2+ab%18446744073709551616+0)/18446744073709551616)%18446744073709551616,(p.2+ab%18446744073709551616+0)%18446744073709551616))
   (B+324518553658426726783156020576256) (fun p hp=>hm p (by simp[hp])) (by simpa using hl) (fun k hk=>by
    rw[me _ k hk]
    split
    ·refine ⟨⟨?_,?_,?_⟩,?_⟩
     ·show 0≤(p.2+ab%18446744073709551616+0)%18446744073709551616;omega
     ·show (p.2+ab%18446744073709551616+0)%18446744073709551616<_;omega
     ·show 0≤(p.1+ab/18446744073709551616+(p.2+ab%18446744073709551616+0)/18446744073709551616)%18446744073709551616;omega
     ·show (p.1+ab/18446744073709551616+(p.2+ab%18446744073709551616+0)/18446744073709551616)%18446744073709551616*18446744073709551616+(p.2+ab%18446744073709551616+0)%18446744073709551616≤_
      omega
    ·exact ⟨(hr k hk).1,by have:=(hr k hk).2;omega⟩) (by omega)
  refine ⟨fun k hk=>?_,?_⟩
  ·obtain ⟨h3,h4⟩:=h1 k hk
   refine ⟨h3,?_⟩
   show pv _=_+((if (i+j)%5=k then ff x i j*y.get j else 0)+qa x y k l)
   rw[h4,me _ k hk]
   split
   ·rename_i e
    rw[← e,Ts,hab]
    simp only[pv]
    omega
   ·omega
  ·intro q hq
   rcases List.mem_cons.1 hq with rfl|hq
   ·show 0≤(p.2+ab%18446744073709551616+0)/18446744073709551616∧(p.2+ab%18446744073709551616+0)/18446744073709551616≤1
    omega
   ·exact h2 q hq
theorem rT: ∀ {l:List Prop},(∀ p∈l,p)→eH (wE l)
 | [],_=>trivial
 |p::l,h=>by
  have h1:=h p (by simp)
  have h2:=rT (l:=l) fun q hq=>h q (by simp[hq])
  unfold wE
  cases hc:wE l with
  |none=>exact h1
  |some q=>rw[hc] at h2;exact ⟨h1,h2⟩
theorem asH (x0 x1 x2 x3 x4:Int) (u:Vec Int 0):Vec.get (n:=5) (x0,x1,x2,x3,x4,u) 0=x0∧Vec.get (n:=5) (x0,x1,x2,x3,x4,u) 1=x1∧Vec.get (n:=5) (x0,x1,x2,x3,x4,u) 2=x2∧
  Vec.get (n:=5) (x0,x1,x2,x3,x4,u) 3=x3∧Vec.get (n:=5) (x0,x1,x2,x3,x4,u) 4=x4:=⟨rfl,rfl,rfl,rfl,rfl⟩
theorem LR {x:Fe} {Q:Int→Prop} (h0:Q x.1) (h1:Q x.2.1) (h2:Q x.2.2.1) (h3:Q x.2.2.2.1) (h4:Q x.2.2.2.2.1): ∀ i,i<5→Q (x.get i)
 |0,_=>h0
 |1,_=>h1
 |2,_=>h2
 |3,_=>h3
 |4,_=>h4
 |n+5,h=>absurd h (by omega)
theorem LS {x y:Fe} (hx:fN x) (hy:fN y):eH (wE (CJ bs bB x y))∧
  ∀ k,k<5→ ∃ p,(gx bs bB x y fB [(0,0),(0,0),(0,0),(0,0),(0,0)]).1.getD k (0,0)=p∧OkP p∧pv p=qa x y k fB:=by
 have hgx: ∀ i,i<5→LQ (x.get i):=LR hx.1 hx.2.1 hx.2.2.1 hx.2.2.2.1 hx.2.2.2.2
 have hgy: ∀ i,i<5→LQ (y.get i):=LR hy.1 hy.2.1 hy.2.2.1 hy.2.2.2.1 hy.2.2.2.2
 obtain ⟨h1,h2⟩:=EW (x:=x) (y:=y) (fun i j hi hj=>by
   obtain ⟨a,b⟩:=hgx i hi
   unfold ff
   split
   ·omega
   ·unfold dV;rw[wrap_u64 (by omega) (by omega)];omega) (fun j hj=>by obtain ⟨a,b⟩:=hgy j hj;omega)
  fB [(0,0),(0,0),(0,0),(0,0),(0,0)] 0 (by decide) rfl (fun k hk=>by
   have:([(0,0),(0,0),(0,0),(0,0),(0,0)]:List (Int×Int)).getD k (0,0)=(0,0):=by
    match k,hk with
    |0,_=>rfl
    |1,_=>rfl
    |2,_=>rfl
    |3,_=>rfl
    |4,_=>rfl
   rw[this];exact ⟨⟨by decide,by decide,by decide⟩,by decide⟩) (by decide)
 refine ⟨rT h2,fun k hk=>⟨_,rfl,(h1 k hk).1,?_⟩⟩
 rw[(h1 k hk).2]
 have:([(0,0),(0,0),(0,0),(0,0),(0,0)]:List (Int×Int)).getD k (0,0)=(0,0):=by
  match k,hk with
  |0,_=>rfl
  |1,_=>rfl
  |2,_=>rfl
  |3,_=>rfl
  |4,_=>rfl
 rw[this];simp[pv]
theorem qb {p:Int×Int} (h:OkP p) {R:Int} (hR:pv p=R) (fq:R<20769187434139310514121985316880384):
  dI p.2 ES=R%2251799813685248∧bD .u64 (shl .u64 p.1 13) (bS p.2 51)=R/2251799813685248:=by
 obtain ⟨a,b⟩:=p
 obtain ⟨h0,h1,h2⟩:=h
 simp only[pv] at*
 rw[wG,Ir]
 have e:shl .u64 a 13=a*8192:=by
  have:=ia .u64 a 13 (by decide)
  rw[show ((13:Nat):Int)=13 from rfl] at this
  rw[this]
  exact wrap_u64 (by omega) (by omega)
 rw[e,pc (m:=13) (by omega) (by omega) (by omega) (by omega) (by omega)]
 constructor<;>omega
theorem aj1 (x0 x1 x2 x3 x4 y0 y1 y2 y3 y4:Int) (u v:Vec Int 0) (hx:fN (x0,x1,x2,x3,x4,u)) (k:Nat) (hk:k<5):
  qa (x0,x1,x2,x3,x4,u) (y0,y1,y2,y3,y4,v) k fB=
   [x0*y0+x1*19*y4+x2*19*y3+x3*19*y2+x4*19*y1,x0*y1+x1*y0+x2*19*y4+x3*19*y3+x4*19*y2,x0*y2+x1*y1+x2*y0+x3*19*y4+x4*19*y3,
    x0*y3+x1*y2+x2*y1+x3*y0+x4*19*y4,x0*y4+x1*y3+x2*y2+x3*y1+x4*y0].getD k 0:=by
 simp only[fN,LQ] at hx
 have w1:dV (x1*19)=x1*19:=wrap_u64 (by omega) (by omega)
 have w2:dV (x2*19)=x2*19:=wrap_u64 (by omega) (by omega)
 have w3:dV (x3*19)=x3*19:=wrap_u64 (by omega) (by omega)
 have w4:dV (x4*19)=x4*19:=wrap_u64 (by omega) (by omega)
 obtain ⟨g0,g1,g2,g3,g4⟩:=asH x0 x1 x2 x3 x4 u
 obtain ⟨f0,f1,f2,f3,f4⟩:=asH y0 y1 y2 y3 y4 v
 match k,hk with
 |0,_=>simp[qa,fB,ff,g0,g1,g2,g3,g4,f0,f1,f2,f3,f4,w1,w2,w3,w4];omega
 |1,_=>simp[qa,fB,ff,g0,g1,g2,g3,g4,f0,f1,f2,f3,f4,w2,w3,w4];omega
 |2,_=>simp[qa,fB,ff,g0,g1,g2,g3,g4,f0,f1,f2,f3,f4,w3,w4];omega
 |3,_=>simp[qa,fB,ff,g0,g1,g2,g3,g4,f0,f1,f2,f3,f4,w4];omega
 |4,_=>simp[qa,fB,ff,g0,g1,g2,g3,g4,f0,f1,f2,f3,f4];omega
theorem afr (x0 x1 x2 x3 x4 y0 y1 y2 y3 y4 t:F) (ht:t*t*t*t*t=19):
  (x0*y0+x1*19*y4+x2*19*y3+x3*19*y2+x4*19*y1)+(x0*y1+x1*y0+x2*19*y4+x3*19*y3+x4*19*y2)*t+(x0*y2+x1*y1+x2*y0+x3*19*y4+x4*19*y3)*(t*t)+
   (x0*y3+x1*y2+x2*y1+x3*y0+x4*19*y4)*(t*t*t)+(x0*y4+x1*y3+x2*y2+x3*y1+x4*y0)*(t*t*t*t)=
  (x0+x1*t+x2*(t*t)+x3*(t*t*t)+x4*(t*t*t*t))*(y0+y1*t+y2*(t*t)+y3*(t*t*t)+y4*(t*t*t*t)):=by
 grobner
end Go.Proofs.YtjalaohajcpllaaGreat
namespace Go.Proofs.YtjalaohajcpllaaGreat
open Go Go.Ev BJ
def tt:F:=dp 2251799813685248
theorem tt5:tt*tt*tt*tt*tt=19:=by decide+kernel
theorem tt2:dp 5070602400912917605986812821504=tt*tt:=by decide+kernel
theorem tt3:dp 11417981541647679048466287755595961091061972992=tt*tt*tt:=by decide+kernel
theorem tt4:dp 25711008708143844408671393477458601640355247900524685364822016=tt*tt*tt*tt:=by decide+kernel
theorem t19:dp 19=19:=by decide+kernel
theorem CN (x0 x1 x2 x3 x4:Int):dp (x0+x1*2251799813685248+x2*5070602400912917605986812821504+x3*11417981541647679048466287755595961091061972992+x4*25711008708143844408671393477458601640355247900524685364822016)=
  dp x0+dp x1*tt+dp x2*(tt*tt)+dp x3*(tt*tt*tt)+dp x4*(tt*tt*tt*tt):=by
 simp only[lG,rG,tt2,tt3,tt4];rfl
theorem aj2 {R0 R1 R2 R3 R4:Int} (n0:0≤R0∧R0≤1000000000000000000000000000000000) (n1:0≤R1∧R1≤1000000000000000000000000000000000) (n2:0≤R2∧R2≤1000000000000000000000000000000000)
  (n3:0≤R3∧R3≤1000000000000000000000000000000000) (n4:0≤R4∧R4≤26000000000000000000000000000000):
  ((dV (dV (0+R0%2251799813685248)+dV (R4/2251799813685248*19)),dV (dV (0+R0/2251799813685248)+R1%2251799813685248),dV (dV (0+R1/2251799813685248)+R2%2251799813685248),
    dV (dV (0+R2/2251799813685248)+R3%2251799813685248),dV (dV (0+R3/2251799813685248)+R4%2251799813685248),()):Fe)=EU (R0%2251799813685248+R4/2251799813685248*19) (R0/2251799813685248+R1%2251799813685248) (R1/2251799813685248+R2%2251799813685248)
    (R2/2251799813685248+R3%2251799813685248) (R3/2251799813685248+R4%2251799813685248):=by
 simp only[dV,Int.zero_add]
 rw[wrap_u64 (n:=R0%2251799813685248) (by omega) (by omega),wrap_u64 (n:=R4/2251799813685248*19) (by omega) (by omega),wrap_u64 (n:=R0/2251799813685248) (by omega) (by omega),wrap_u64 (n:=R1/2251799813685248) (by omega) (by omega),
  wrap_u64 (n:=R2/2251799813685248) (by omega) (by omega),wrap_u64 (n:=R3/2251799813685248) (by omega) (by omega)]
 rw[wrap_u64 (n:=R0%2251799813685248+R4/2251799813685248*19) (by omega) (by omega),wrap_u64 (n:=R0/2251799813685248+R1%2251799813685248) (by omega) (by omega),wrap_u64 (n:=R1/2251799813685248+R2%2251799813685248) (by omega) (by omega),
  wrap_u64 (n:=R2/2251799813685248+R3%2251799813685248) (by omega) (by omega),wrap_u64 (n:=R3/2251799813685248+R4%2251799813685248) (by omega) (by omega)]
 rfl
theorem aj3 {R0 R1 R2 R3 R4:Int} (n0:0≤R0∧R0≤1000000000000000000000000000000000) (n1:0≤R1∧R1≤1000000000000000000000000000000000) (n2:0≤R2∧R2≤1000000000000000000000000000000000)
  (n3:0≤R3∧R3≤1000000000000000000000000000000000) (n4:0≤R4∧R4≤26000000000000000000000000000000):
  U5 (EU (R0%2251799813685248+R4/2251799813685248*19) (R0/2251799813685248+R1%2251799813685248) (R1/2251799813685248+R2%2251799813685248)
   (R2/2251799813685248+R3%2251799813685248) (R3/2251799813685248+R4%2251799813685248))∧fe (EU (R0%2251799813685248+R4/2251799813685248*19) (R0/2251799813685248+R1%2251799813685248) (R1/2251799813685248+R2%2251799813685248)
   (R2/2251799813685248+R3%2251799813685248) (R3/2251799813685248+R4%2251799813685248))=
   dp (R0+R1*2251799813685248+R2*5070602400912917605986812821504+R3*11417981541647679048466287755595961091061972992+R4*25711008708143844408671393477458601640355247900524685364822016):=by
 constructor
 ·simp only[U5,xe,EU];omega
 ·unfold fe
  rw[← Iq (fC _) (R4/2251799813685248)]
  congr 1
  simp only[fC,pp,EU];omega
set_option maxHeartbeats 1000000 in
theorem yj {x y:Fe} (hx:fN x) (hy:fN y):fN (sX bs bB cO x y)∧fe (sX bs bB cO x y)=fe x*fe y:=by
 obtain ⟨_,hr⟩:=LS hx hy
 obtain ⟨x0,x1,x2,x3,x4,u⟩:=x
 obtain ⟨y0,y1,y2,y3,y4,v⟩:=y
 have hv:=aj1 x0 x1 x2 x3 x4 y0 y1 y2 y3 y4 u v hx
 have tf: ∀ {p q:Int},0≤p→p<2251799813947392→0≤q→q<2251799813947392→0≤p*q∧p*q≤5070602402093548913987446767616:=fun {p q} h1 h2 h3 h4=>
  ⟨Int.mul_nonneg h1 h3,Int.le_trans (Int.mul_le_mul (c:=2251799813947392) (d:=2251799813947392) (by omega) (by omega) h3 (by decide)) (by decide)⟩
 simp only[fN,LQ] at hx hy
 obtain ⟨xa,Ft,Nc,hx3,hx4⟩:=hx
 obtain ⟨AL,Nd,SN,hy3,hy4⟩:=hy
 have b00:=tf xa.1 xa.2 AL.1 AL.2
 have b01:=tf xa.1 xa.2 Nd.1 Nd.2
 have b02:=tf xa.1 xa.2 SN.1 SN.2
 have b03:=tf xa.1 xa.2 hy3.1 hy3.2
 have b04:=tf xa.1 xa.2 hy4.1 hy4.2
 have b10:=tf Ft.1 Ft.2 AL.1 AL.2
 have b11:=tf Ft.1 Ft.2 Nd.1 Nd.2
 have b12:=tf Ft.1 Ft.2 SN.1 SN.2
 have b13:=tf Ft.1 Ft.2 hy3.1 hy3.2
 have b14:=tf Ft.1 Ft.2 hy4.1 hy4.2
 have b20:=tf Nc.1 Nc.2 AL.1 AL.2
 have b21:=tf Nc.1 Nc.2 Nd.1 Nd.2
 have b22:=tf Nc.1 Nc.2 SN.1 SN.2
 have b23:=tf Nc.1 Nc.2 hy3.1 hy3.2
 have b24:=tf Nc.1 Nc.2 hy4.1 hy4.2
 have b30:=tf hx3.1 hx3.2 AL.1 AL.2
 have b31:=tf hx3.1 hx3.2 Nd.1 Nd.2
 have b32:=tf hx3.1 hx3.2 SN.1 SN.2
 have b33:=tf hx3.1 hx3.2 hy3.1 hy3.2
 have b34:=tf hx3.1 hx3.2 hy4.1 hy4.2
 have b40:=tf hx4.1 hx4.2 AL.1 AL.2
 have b41:=tf hx4.1 hx4.2 Nd.1 Nd.2
 have b42:=tf hx4.1 hx4.2 SN.1 SN.2
 have b43:=tf hx4.1 hx4.2 hy3.1 hy3.2
 have b44:=tf hx4.1 hx4.2 hy4.1 hy4.2
 have sw: ∀ a b:Int,a*19*b=19*(a*b):=fun a b=>by rw[Int.mul_comm a 19,Int.mul_assoc]
 obtain ⟨p0,e0,k0,v0⟩:=hr 0 (by decide)
 obtain ⟨p1,e1,k1,v1⟩:=hr 1 (by decide)
 obtain ⟨p2,e2,k2,v2⟩:=hr 2 (by decide)
 obtain ⟨p3,e3,k3,v3⟩:=hr 3 (by decide)
 obtain ⟨p4,e4,k4,v4⟩:=hr 4 (by decide)
 rw[hv 0 (by decide)] at v0
 rw[hv 1 (by decide)] at v1
 rw[hv 2 (by decide)] at v2
 rw[hv 3 (by decide)] at v3
 rw[hv 4 (by decide)] at v4
 have v0':pv p0=x0*y0+x1*19*y4+x2*19*y3+x3*19*y2+x4*19*y1:=v0
 have v1':pv p1=x0*y1+x1*y0+x2*19*y4+x3*19*y3+x4*19*y2:=v1
 have v2':pv p2=x0*y2+x1*y1+x2*y0+x3*19*y4+x4*19*y3:=v2
 have v3':pv p3=x0*y3+x1*y2+x2*y1+x3*y0+x4*19*y4:=v3
 have v4':pv p4=x0*y4+x1*y3+x2*y2+x3*y1+x4*y0:=v4
 have amz:=afr (dp x0) (dp x1) (dp x2) (dp x3) (dp x4) (dp y0) (dp y1) (dp y2) (dp y3) (dp y4) tt tt5
 have hR0:dp (pv p0)=dp x0*dp y0+dp x1*19*dp y4+dp x2*19*dp y3+dp x3*19*dp y2+dp x4*19*dp y1:=by rw[v0'];simp only[lG,rG,t19]
 have hR1:dp (pv p1)=dp x0*dp y1+dp x1*dp y0+dp x2*19*dp y4+dp x3*19*dp y3+dp x4*19*dp y2:=by rw[v1'];simp only[lG,rG,t19]
 have hR2:dp (pv p2)=dp x0*dp y2+dp x1*dp y1+dp x2*dp y0+dp x3*19*dp y4+dp x4*19*dp y3:=by rw[v2'];simp only[lG,rG,t19]
 have hR3:dp (pv p3)=dp x0*dp y3+dp x1*dp y2+dp x2*dp y1+dp x3*dp y0+dp x4*19*dp y4:=by rw[v3'];simp only[lG,rG,t19]
 have hR4:dp (pv p4)=dp x0*dp y4+dp x1*dp y3+dp x2*dp y2+dp x3*dp y1+dp x4*dp y0:=by rw[v4'];simp only[lG,rG]
 rw[← hR0,← hR1,← hR2,← hR3,← hR4] at amz
 have n0:0≤pv p0∧pv p0≤1000000000000000000000000000000000:=by rw[v0'];simp only[sw];omega
 have n1:0≤pv p1∧pv p1≤1000000000000000000000000000000000:=by rw[v1'];simp only[sw];omega
 have n2:0≤pv p2∧pv p2≤1000000000000000000000000000000000:=by rw[v2'];simp only[sw];omega
 have n3:0≤pv p3∧pv p3≤1000000000000000000000000000000000:=by rw[v3'];simp only[sw];omega
 have n4:0≤pv p4∧pv p4≤26000000000000000000000000000000:=by rw[v4'];omega
 obtain ⟨l0,c0⟩:=qb k0 rfl (by omega)
 obtain ⟨l1,c1⟩:=qb k1 rfl (by omega)
 obtain ⟨l2,c2⟩:=qb k2 rfl (by omega)
 obtain ⟨l3,c3⟩:=qb k3 rfl (by omega)
 obtain ⟨l4,c4⟩:=qb k4 rfl (by omega)
 generalize pv p0=R0 at*
 generalize pv p1=R1 at*
 generalize pv p2=R2 at*
 generalize pv p3=R3 at*
 generalize pv p4=R4 at*
 have e:sX bs bB cO (x0,x1,x2,x3,x4,u) (y0,y1,y2,y3,y4,v)=cO (EU (R0%2251799813685248+R4/2251799813685248*19) (R0/2251799813685248+R1%2251799813685248) (R1/2251799813685248+R2%2251799813685248)
   (R2/2251799813685248+R3%2251799813685248) (R3/2251799813685248+R4%2251799813685248)):=by
  rw[← aj2 n0 n1 n2 n3 n4]
  simp only[sX,e0,e1,e2,e3,e4,l0,l1,l2,l3,l4,c0,c1,c2,c3,c4]
 rw[e]
 obtain ⟨hU,h3⟩:=aj3 n0 n1 n2 n3 n4
 obtain ⟨h1,h2⟩:=wH hU
 refine ⟨h1,?_⟩
 rw[h2,h3,CN,amz]
 show _=dp (x0+x1*_+_+_+_)*dp (y0+y1*_+_+_+_)
 rw[CN,CN]
def lH (n:Int):Prop:=0≤n∧n<2251799813685248
def aoH (x:Fe):Prop:=(lH x.1∧lH x.2.1∧lH x.2.2.1∧lH x.2.2.2.1∧lH x.2.2.2.2.1)∧fC x<(pp:Int)
theorem afs {x:Fe} (hx:fN x):aoH (wD cO x)∧fe (wD cO x)=fe x:=by
 obtain ⟨hy,hyx⟩:=wH (x:=x) (by simp only[fN,LQ] at hx;simp only[U5,xe];omega)
 rw[← hyx]
 unfold wD
 generalize cO x=y at hy
 obtain ⟨y0,y1,y2,y3,y4,u⟩:=y
 simp only[fN,LQ] at hy
 simp only[wG,Ir,dV]
 obtain ⟨a0,ha0⟩: ∃ a,a=(y0+19)/2251799813685248:=⟨_,rfl⟩
 obtain ⟨a1,ha1⟩: ∃ a,a=(y1+a0)/2251799813685248:=⟨_,rfl⟩
 obtain ⟨a2,ha2⟩: ∃ a,a=(y2+a1)/2251799813685248:=⟨_,rfl⟩
 obtain ⟨a3,ha3⟩: ∃ a,a=(y3+a2)/2251799813685248:=⟨_,rfl⟩
 obtain ⟨q,hq⟩: ∃ a,a=(y4+a3)/2251799813685248:=⟨_,rfl⟩
 rw[wrap_u64 (n:=y0+19) (by omega) (by omega),← ha0]
 rw[wrap_u64 (n:=y1+a0) (by omega) (by omega),← ha1]
 rw[wrap_u64 (n:=y2+a1) (by omega) (by omega),← ha2]
 rw[wrap_u64 (n:=y3+a2) (by omega) (by omega),← ha3]
 rw[wrap_u64 (n:=y4+a3) (by omega) (by omega),← hq]
 have aws:q=0∨q=1:=by omega
 rw[wrap_u64 (n:=q*19) (by omega) (by omega)]
 obtain ⟨c0,hc0⟩: ∃ a,a=q*19+y0:=⟨_,rfl⟩
 rw[wrap_u64 (n:=q*19+y0) (by omega) (by omega),← hc0]
 obtain ⟨c1,hc1⟩: ∃ a,a=c0/2251799813685248+y1:=⟨_,rfl⟩
 rw[wrap_u64 (n:=c0/2251799813685248+y1) (by omega) (by omega),← hc1]
 obtain ⟨c2,hc2⟩: ∃ a,a=c1/2251799813685248+y2:=⟨_,rfl⟩
 rw[wrap_u64 (n:=c1/2251799813685248+y2) (by omega) (by omega),← hc2]
 obtain ⟨c3,hc3⟩: ∃ a,a=c2/2251799813685248+y3:=⟨_,rfl⟩
 rw[wrap_u64 (n:=c2/2251799813685248+y3) (by omega) (by omega),← hc3]
 obtain ⟨c4,hc4⟩: ∃ a,a=c3/2251799813685248+y4:=⟨_,rfl⟩
 rw[wrap_u64 (n:=c3/2251799813685248+y4) (by omega) (by omega),← hc4]
 have nk:fC (c0%2251799813685248,c1%2251799813685248,c2%2251799813685248,c3%2251799813685248,c4%2251799813685248,())=fC (y0,y1,y2,y3,y4,u)-q*(pp:Int)∧
   fC (c0%2251799813685248,c1%2251799813685248,c2%2251799813685248,c3%2251799813685248,c4%2251799813685248,())<(pp:Int):=by
  simp only[fC,pp]
  rcases aws with rfl|rfl
  ·constructor<;>omega
  ·constructor<;>omega
 refine ⟨⟨by simp only[lH];omega,nk.2⟩,?_⟩
 unfold fe
 rw[nk.1,← Iq (fC (y0,y1,y2,y3,y4,u)-_) q]
 congr 1;omega
end Go.Proofs.YtjalaohajcpllaaGreat
namespace Go.Proofs.YtjalaohajcpllaaGreat
open Go Go.Ev BJ
def dx: {n:Nat}→Vec Int n→Int
 |0,_=>0
 |_+1,v=>v.1+256*dx v.2
def rU: {n:Nat}→Vec Int n→Prop
 |0,_=>True
 |_+1,v=>(0≤v.1∧v.1<256)∧rU v.2
theorem eM: {n:Nat}→ {v:Vec Int n}→rU v→0≤dx v
 |0,_,_=>Int.le_refl _
 |n+1,v,h=>by have:=eM h.2;have:=h.1;simp only[dx];omega
theorem wI: {n:Nat}→ {v:Vec Int n}→rU v→dx v<(256 ^ n:Nat)
 |0,_,_=>by simp[dx]
 |n+1,v,h=>by
  have h1:=wI h.2
  have h2:=h.1
  simp only[dx]
  have e:(256 ^ (n+1):Nat)=256*256 ^ n:=by rw[Nat.pow_succ,Nat.mul_comm]
  rw[e]
  generalize (256 ^ n:Nat)=m at*
  omega
theorem LU: {n:Nat}→ {v u:Vec Int n}→rU v→rU u→dx v=dx u→v=u
 |0,_,_,_,_,_=>rfl
 |n+1,v,u,hv,hu,h=>by
  simp only[dx] at h
  have h1:=hv.1
  have h2:=hu.1
  have e1:v.1=u.1:=by omega
  have e2:dx v.2=dx u.2:=by omega
  exact Prod.ext e1 (LU hv.2 hu.2 e2)
def CO (n:Nat) (V:Int):Vec Int n:=Vec.ofFn n fun j=>V/(256 ^ j:Nat)%256
theorem yk:(n:Nat)→(V:Int)→0≤V→rU (CO n V)∧dx (CO n V)=V%(256 ^ n:Nat)
 |0,V,h=>⟨trivial,by simp[dx]⟩
 |n+1,V,h=>by
  have e:CO (n+1) V=(V/(256 ^ 0:Nat)%256,CO n (V/256)):=by
   unfold CO
   show (_,Vec.ofFn n fun i=>V/(256 ^ (i+1):Nat)%256)=_
   have:(fun i:Nat=>V/(256 ^ (i+1):Nat)%256)=fun j:Nat=>V/256/(256 ^ j:Nat)%256:=by
    funext j
    rw[Int.ediv_ediv_of_nonneg (by omega)]
    congr 2
    rw[Nat.pow_succ];simp[Int.mul_comm]
   rw[this]
  rw[e]
  obtain ⟨h1,h2⟩:=yk n (V/256) (by omega)
  refine ⟨⟨by simp only[Nat.pow_zero];omega,h1⟩,?_⟩
  show V/(256 ^ 0:Nat)%256+256*dx (CO n (V/256))=_
  rw[h2]
  have e2:(256 ^ (n+1):Nat)=256*256 ^ n:=by rw[Nat.pow_succ,Nat.mul_comm]
  rw[e2]
  generalize hm:(256 ^ n:Nat)=m
  have Jd:0<(m:Int):=by have:=Nat.pow_pos (n:=n) (show 0<256 by decide);omega
  have h3:=Int.emod_nonneg (V/256) (b:=(m:Int)) (by omega)
  have h4:=Int.emod_lt_of_pos (V/256) Jd
  have h5:=Int.emod_add_mul_ediv (V/256) (m:Int)
  have h6:V=(V%256+256*(V/256%m))+((256*m:Nat):Int)*(V/256/m):=by
   rw[Int.natCast_mul,Int.mul_assoc]
   generalize (m:Int)*(V/256/m)=z at*
   omega
  rw[Nat.pow_zero]
  have h7:V%((256*m:Nat):Int)=V%256+256*(V/256%m):=by
   conv=>lhs;rw[h6]
   rw[Int.add_mul_emod_self_left]
   exact Int.emod_eq_of_lt (by omega) (by rw[Int.natCast_mul];omega)
  rw[h7];omega
theorem X6 {n:Nat} {v:Vec Int n} (h:rU v):CO n (dx v)=v:=by
 obtain ⟨h1,h2⟩:=yk n (dx v) (eM h)
 exact LU h1 h (by rw[h2,Int.emod_eq_of_lt (eM h) (wI h)])
def fO (a:F):fM:=CO 32 (a.val:Int)
theorem asI:(256 ^ 32:Nat)=115792089237316195423570985008687907853269984665640564039457584007913129639936:=by decide
theorem kM (a:F):rU (fO a)∧dx (fO a)=(a.val:Int):=by
 obtain ⟨h1,h2⟩:=yk 32 (a.val:Int) (by omega)
 have:=a.isLt
 refine ⟨h1,h2.trans (Int.emod_eq_of_lt (by omega) ?_)⟩
 rw[asI];simp only[pp] at this;omega
theorem Rq {a b:F} (h:fO a=fO b):a=b:=CM (by rw[← (kM a).2,← (kM b).2,h])
def zf (f:Nat→Int):Nat→Int
 |0=>0
 |n+1=>zf f n+f n*(2 ^ n:Nat)
theorem UP (f:Nat→Int): ∀ n,n≤8→(∀ i,i<n→0≤f i∧f i≤1)→
  (List.range n).foldl (fun acc i=>bD .u8 acc (shl .u8 (f i) (i:Int))) 0=zf f n∧0≤zf f n∧zf f n<(2 ^ n:Nat)
 |0,_,_=>⟨rfl,by simp[zf],by simp[zf]⟩
 |n+1,hn,hf=>by
  obtain ⟨h1,h2,h3⟩:=UP f n (by omega) fun i hi=>hf i (by omega)
  have h4:=hf n (by omega)
  rw[List.range_succ,List.foldl_append,h1]
  simp only[List.foldl_cons,List.foldl_nil,zf]
  have hp:0<2 ^ n:=Nat.two_pow_pos n
  have hle:2 ^ n≤2 ^ 7:=Nat.pow_le_pow_right (by omega) (by omega)
  have hs:f n*(2 ^ n:Nat)=0∨f n*(2 ^ n:Nat)=(2 ^ n:Nat):=by
   have:f n=0∨f n=1:=by omega
   rcases this with e|e<;>rw[e]<;>simp
  have e:shl .u8 (f n) (n:Int)=f n*(2 ^ n:Nat):=by
   rw[ia .u8 _ _ (by show n≤8;omega),wrap_u8]
   have:(2:Nat) ^ 7=128:=by decide
   omega
  have hm:f n*(2 ^ n:Nat)%(2 ^ n:Nat)=0:=Int.mul_emod_left _ _
  have h7:(2:Nat) ^ 7=128:=by decide
  rw[e,js,alU (m:=n) (by omega) hm h2 h3 (by omega)]
  have e2:(2 ^ (n+1):Nat)=2*2 ^ n:=by rw[Nat.pow_succ,Nat.mul_comm]
  rw[e2]
  refine ⟨by omega,by omega,by omega⟩
theorem aj4 (u H:Int) {b:Nat} (hb:b<51):(u+2251799813685248*H)/(2 ^ b:Nat)%2=u/(2 ^ b:Nat)%2:=by
 have e:(2251799813685248:Int)=(2 ^ b:Nat)*(2*(2 ^ (50-b):Nat)):=by
  have:(2251799813685248:Nat)=2 ^ b*(2*2 ^ (50-b)):=by
   rw[← Nat.mul_assoc,Nat.mul_comm (2 ^ b) 2,Nat.mul_assoc,← Nat.pow_add,show b+(50-b)=50 by omega]
  have h2:((2251799813685248:Nat):Int)=((2 ^ b*(2*2 ^ (50-b)):Nat):Int):=by rw[← this]
  rw[Int.natCast_mul,Int.natCast_mul] at h2
  exact h2
 rw[e,Int.mul_assoc,Int.add_mul_ediv_left _ _ (by have:=Nat.two_pow_pos b;omega),Int.mul_assoc,Int.add_mul_emod_self_left]
theorem aft {y:Fe} (h:lH y.1∧lH y.2.1∧lH y.2.2.1∧lH y.2.2.2.1∧lH y.2.2.2.2.1) (q:Nat) (hq:q<255):
  y.get (q/51)/(2 ^ (q%51):Nat)%2=fC y/(2 ^ q:Nat)%2:=by
 obtain ⟨y0,y1,y2,y3,y4,u⟩:=y
 simp only[lH] at h
 have hb:q%51<51:=Nat.mod_lt _ (by decide)
 have hq2:(2 ^ q:Nat)=2 ^ (51*(q/51))*2 ^ (q%51):=by rw[← Nat.pow_add];congr 1;omega
 rw[hq2,Int.natCast_mul,← Int.ediv_ediv_of_nonneg (Int.natCast_nonneg _)]
 have h5:q/51<5:=by omega
 generalize q%51=b at*
 generalize q/51=a at*
 have key: ∀ (V H:Int),fC (y0,y1,y2,y3,y4,u)/(2 ^ (51*a):Nat)=V+2251799813685248*H→V/(2 ^ b:Nat)%2=fC (y0,y1,y2,y3,y4,u)/(2 ^ (51*a):Nat)/(2 ^ b:Nat)%2:=by
  intro V H e;rw[e,aj4 V H hb]
 match a,h5 with
 |0,_=>exact key y0 (y1+y2*2251799813685248+y3*5070602400912917605986812821504+y4*11417981541647679048466287755595961091061972992) (by simp only[fC,Nat.mul_zero,Nat.pow_zero];omega)
 |1,_=>exact key y1 (y2+y3*2251799813685248+y4*5070602400912917605986812821504) (by
   have:(2:Nat) ^ (51*1)=2251799813685248:=by decide
   rw[this];simp only[fC];omega)
 |2,_=>exact key y2 (y3+y4*2251799813685248) (by
   have:(2:Nat) ^ (51*2)=5070602400912917605986812821504:=by decide
   rw[this];simp only[fC];omega)
 |3,_=>exact key y3 y4 (by
   have:(2:Nat) ^ (51*3)=11417981541647679048466287755595961091061972992:=by decide
   rw[this];simp only[fC];omega)
 |4,_=>exact key y4 0 (by
   have:(2:Nat) ^ (51*4)=25711008708143844408671393477458601640355247900524685364822016:=by decide
   rw[this];simp only[fC];omega)
theorem asJ (W:Int):zf (fun i=>W/(2 ^ i:Nat)%2) 8=W%256:=by
 simp[zf];omega
theorem asK (W:Int) (h0:0≤W) (h:W<128):zf (fun i=>W/(2 ^ i:Nat)%2) 7=W%256:=by
 simp[zf];omega
theorem CP {α:Type}: ∀ {n:Nat} {f g:Nat→α},(∀ i,i<n→f i=g i)→Vec.ofFn n f=Vec.ofFn n g
 |0,_,_,_=>rfl
 |n+1,f,g,h=>by
  show (f 0,Vec.ofFn n _)=(g 0,Vec.ofFn n _)
  rw[h 0 (by omega),CP (n:=n) fun i hi=>h (i+1) (by omega)]
theorem afu {y:Fe} (h:aoH y):Rp y=CO 32 (fC y):=by
 have hv0:0≤fC y:=by
  obtain ⟨y0,y1,y2,y3,y4,u⟩:=y
  have:=h.1
  simp only[lH] at this
  simp only[fC];omega
 have hv1:=h.2
 unfold Rp CO
 refine CP fun j hj=>?_
 have amB: ∀ n,n≤8→(∀ i,i<n→8*j+i<255)→
   (List.range n).foldl (fun acc i=>bD .u8 acc (shl .u8 (IntKind.u8.wrap (dI (bS (y.get ((8*j+i)/51)) (((8*j+i)%51:Nat):Int)) 1)) (i:Int))) 0=
    zf (fun i=>fC y/(2 ^ (8*j):Nat)/(2 ^ i:Nat)%2) n:=by
  intro n hn fq
  have VJ: ∀ i,i<n→IntKind.u8.wrap (dI (bS (y.get ((8*j+i)/51)) (((8*j+i)%51:Nat):Int)) 1)=fC y/(2 ^ (8*j):Nat)/(2 ^ i:Nat)%2:=by
   intro i hi
   have e1:bS (y.get ((8*j+i)/51)) (((8*j+i)%51:Nat):Int)=y.get ((8*j+i)/51)/(2 ^ ((8*j+i)%51):Nat):=eX .u64 _ _ (by show (8*j+i)%51≤64;omega)
   have e2: ∀ x,dI x 1=x%2:=fun x=>by
    have:=tN (m:=1) (by decide) x 1 (by decide)
    simpa [dI] using this
   rw[e1,e2,aft h.1 _ (fq i hi),wrap_u8,Int.ediv_ediv_of_nonneg (Int.natCast_nonneg _),← Int.natCast_mul,← Nat.pow_add]
   omega
  have oL: ∀ (l:List Nat) (a:Int),(∀ i∈l,i<n)→l.foldl (fun (acc:Int) (i:Nat)=>bD .u8 acc (shl .u8 (IntKind.u8.wrap (dI (bS (y.get ((8*j+i)/51)) (((8*j+i)%51:Nat):Int)) 1)) (i:Int))) a=
    l.foldl (fun (acc:Int) (i:Nat)=>bD .u8 acc (shl .u8 (fC y/(2 ^ (8*j):Nat)/(2 ^ i:Nat)%2) (i:Int))) a:=by
   intro l
   induction l with
   |nil=>intro a _;rfl
   |cons i l ih=>intro a hl;simp only[List.foldl_cons];rw[VJ i (hl i (by simp)),ih _ fun k hk=>hl k (by simp[hk])]
  rw[oL _ _ fun i hi=>List.mem_range.1 hi]
  exact (UP (fun i=>fC y/(2 ^ (8*j):Nat)/(2 ^ i:Nat)%2) n hn fun i _=>by
   have:=Int.emod_nonneg (fC y/(2 ^ (8*j):Nat)/(2 ^ i:Nat)) (b:=2) (by omega)
   have:=Int.emod_lt_of_pos (fC y/(2 ^ (8*j):Nat)/(2 ^ i:Nat)) (b:=2) (by omega)
   omega).1
 have e8:(2 ^ (8*j):Nat)=256 ^ j:=by rw[Nat.pow_mul]
 by_cases h31:j=31
 ·rw[if_pos h31,amB 7 (by omega) (fun i hi=>by omega),e8]
  refine asK _ (Int.ediv_nonneg hv0 (Int.natCast_nonneg _)) ?_
  subst h31
  have:(256 ^ 31:Nat)=452312848583266388373324160190187140051835877600158453279131187530910662656:=by decide
  rw[this]
  simp only[pp] at hv1
  omega
 ·rw[if_neg h31,amB 8 (by omega) (fun i hi=>by omega),e8]
  exact asJ _
theorem It {y:Fe} (h:aoH y):((fe y).val:Int)=fC y:=by
 have hv0:0≤fC y:=by
  obtain ⟨y0,y1,y2,y3,y4,u⟩:=y
  have:=h.1
  simp only[lH] at this
  simp only[fC];omega
 unfold fe
 rw[fR,Int.emod_eq_of_lt hv0 h.2]
noncomputable def fg (x:Fe):fM:=Rp (wD cO x)
theorem wJ {x:Fe} (h:fN x):fg x=fO (fe x):=by
 obtain ⟨h1,h2⟩:=afs h
 unfold fg fO
 rw[afu h1,← It h1,h2]
theorem afv {a b:F}:eqV (fO a) (fO b)=decide (a=b):=by
 by_cases h:a=b
 ·subst h;rw[decide_eq_true rfl];exact (wC _ _).2 rfl
 ·rw[decide_eq_false h]
  refine Bool.eq_false_iff.2 fun e=>h (Rq ((wC _ _).1 e))
theorem CQ {x y:Fe} (hx:fN x) (hy:fN y):eqV (fg x) (fg y)=decide (fe x=fe y):=by
 rw[wJ hx,wJ hy,afv]
theorem afw {x:Fe} (h:fN x):afj fg x=decide ((fe x).val%2=1):=by
 unfold afj
 rw[wJ h]
 have e:(fO (fe x)).1=((fe x).val:Int)/(256 ^ 0:Nat)%256:=rfl
 rw[e,NF (m:=1) (by decide) _ 1 (by decide)]
 have:((((fe x).val:Int)/(256 ^ 0:Nat)%256%(2 ^ 1:Nat)==1)=true)↔(fe x).val%2=1:=by
  rw[beq_iff_eq];simp only[Nat.pow_zero,Nat.pow_one];omega
 by_cases h1:(fe x).val%2=1
 ·rw[decide_eq_true h1];exact this.2 h1
 ·rw[decide_eq_false h1];exact Bool.eq_false_iff.2 fun e=>h1 (this.1 e)
theorem qc {n:Int} (h:xe n):fN (bc n)∧fe (bc n)=dp n:=by
 simp only[xe] at h
 have e:bc n=EU (n%2251799813685248) (n/2251799813685248) 0 0 0:=by
  simp only[bc,wG,Ir];rfl
 rw[e]
 refine ⟨by simp only[fN,LQ,EU];omega,?_⟩
 unfold fe;congr 1;simp only[fC,EU];omega
end Go.Proofs.YtjalaohajcpllaaGreat
end
