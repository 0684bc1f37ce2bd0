/- What the laws lean on, part 14: a reader of code, plain facts, and what each function gives; no conditions. -/
import Derived.Test.YtnbkagglkajbkaaGreatA13
set_option linter.unusedVariables false
set_option linter.unusedSimpArgs false
noncomputable section
namespace BJ
theorem p2:aX 2:=ba 1 (by decide) (by decide) (by decide+kernel)
theorem p3:aX 3:=ba 1 (by decide) (by decide) (by decide+kernel)
theorem awF:aX 65147:=ba 254 (by decide) (by decide) (by decide+kernel)
theorem aFN:aX 353:=ba 17 (by decide) (by decide) (by decide+kernel)
theorem awG:aX 57467:=ba 238 (by decide) (by decide) (by decide+kernel)
theorem p7:aX 7:=ba 1 (by decide) (by decide) (by decide+kernel)
theorem aFO:aX 131:=ba 10 (by decide) (by decide) (by decide+kernel)
theorem apK:oJ 132049 26:=ct (f:=18) (l:= [2,2,2,2,3,3,7,131]) (by simp only[List.mem_cons,List.not_mem_nil,or_false];rintro q (rfl|rfl|rfl|rfl|rfl|rfl|rfl|rfl)<;>first|exact p2|exact p3|exact p7|exact aFO) (by decide+kernel)
theorem apL:aX 132049:=apK.kQ
theorem p43:aX 43:=ba 5 (by decide) (by decide) (by decide+kernel)
theorem aBp:aX 3727:=ba 60 (by decide) (by decide) (by decide+kernel)
theorem ajA:oJ 1923133 2:=ct (f:=21) (l:= [2,2,3,43,3727]) (by simp only[List.mem_cons,List.not_mem_nil,or_false];rintro q (rfl|rfl|rfl|rfl|rfl)<;>first|exact p2|exact p3|exact p43|exact aBp) (by decide+kernel)
theorem ajB:aX 1923133:=ajA.kQ
theorem p31:aX 31:=ba 4 (by decide) (by decide) (by decide+kernel)
theorem aFP:aX 107:=ba 9 (by decide) (by decide) (by decide+kernel)
theorem aFQ:aX 223:=ba 13 (by decide) (by decide) (by decide+kernel)
theorem aBq:aX 4153:=ba 63 (by decide) (by decide) (by decide+kernel)
theorem p5:aX 5:=ba 1 (by decide) (by decide) (by decide+kernel)
theorem aBr:aX 1723:=ba 40 (by decide) (by decide) (by decide+kernel)
theorem apM:oJ 430751 17:=ct (f:=19) (l:= [2,5,5,5,1723]) (by simp only[List.mem_cons,List.not_mem_nil,or_false];rintro q (rfl|rfl|rfl|rfl|rfl)<;>first|exact p2|exact p5|exact aBr) (by decide+kernel)
theorem apN:aX 430751:=apM.kQ
theorem tv:oJ 31757755568855353 10:=ct (f:=55) (l:= [2,2,2,3,31,107,223,4153,430751]) (by simp only[List.mem_cons,List.not_mem_nil,or_false];rintro q (rfl|rfl|rfl|rfl|rfl|rfl|rfl|rfl|rfl)<;>first|exact p2|exact p3|exact p31|exact aFP|exact aFQ|exact aBq|exact apN) (by decide+kernel)
theorem tw:aX 31757755568855353:=tv.kQ
theorem awH:aX 75707:=ba 274 (by decide) (by decide) (by decide+kernel)
theorem p13:aX 13:=ba 2 (by decide) (by decide) (by decide+kernel)
theorem aBs:aX 2437:=ba 48 (by decide) (by decide) (by decide+kernel)
theorem p97:aX 97:=ba 8 (by decide) (by decide) (by decide+kernel)
theorem aFR:aX 419:=ba 19 (by decide) (by decide) (by decide+kernel)
theorem apO:oJ 569003 2:=ct (f:=20) (l:= [2,7,97,419]) (by simp only[List.mem_cons,List.not_mem_nil,or_false];rintro q (rfl|rfl|rfl|rfl)<;>first|exact p2|exact p7|exact p97|exact aFR) (by decide+kernel)
theorem apP:aX 569003:=apO.kQ
theorem Nr:oJ 2773320623 5:=ct (f:=32) (l:= [2,2437,569003]) (by simp only[List.mem_cons,List.not_mem_nil,or_false];rintro q (rfl|rfl|rfl)<;>first|exact p2|exact aBs|exact apP) (by decide+kernel)
theorem Ns:aX 2773320623:=Nr.kQ
theorem Jn:oJ 72106336199 7:=ct (f:=37) (l:= [2,13,2773320623]) (by simp only[List.mem_cons,List.not_mem_nil,or_false];rintro q (rfl|rfl|rfl)<;>first|exact p2|exact p13|exact Ns) (by decide+kernel)
theorem Jo:aX 72106336199:=Jn.kQ
theorem p19:aX 19:=ba 3 (by decide) (by decide) (by decide+kernel)
theorem p47:aX 47:=ba 5 (by decide) (by decide) (by decide+kernel)
theorem aFS:aX 127:=ba 10 (by decide) (by decide) (by decide+kernel)
theorem aFT:aX 103:=ba 9 (by decide) (by decide) (by decide+kernel)
theorem aFU:aX 991:=ba 30 (by decide) (by decide) (by decide+kernel)
theorem ajC:oJ 8574133 2:=ct (f:=24) (l:= [2,2,3,7,103,991]) (by simp only[List.mem_cons,List.not_mem_nil,or_false];rintro q (rfl|rfl|rfl|rfl|rfl|rfl)<;>first|exact p2|exact p3|exact p7|exact aFT|exact aFU) (by decide+kernel)
theorem ajD:aX 8574133:=ajC.kQ
theorem wc:oJ 1919519569386763 2:=ct (f:=51) (l:= [2,3,7,19,47,47,127,8574133]) (by simp only[List.mem_cons,List.not_mem_nil,or_false];rintro q (rfl|rfl|rfl|rfl|rfl|rfl|rfl|rfl)<;>first|exact p2|exact p3|exact p7|exact p19|exact p47|exact aFS|exact ajD) (by decide+kernel)
theorem we:aX 1919519569386763:=wc.kQ
theorem gQ:oJ 75445702479781427272750846543864801 7:=ct (f:=116) (l:= [2,2,2,2,2,3,3,5,5,75707,72106336199,1919519569386763]) (by simp only[List.mem_cons,List.not_mem_nil,or_false];rintro q (rfl|rfl|rfl|rfl|rfl|rfl|rfl|rfl|rfl|rfl|rfl|rfl)<;>first|exact p2|exact p3|exact p5|exact awH|exact Jo|exact we) (by decide+kernel)
theorem gR:aX 75445702479781427272750846543864801:=gQ.kQ
theorem cA:oJ 74058212732561358302231226437062788676166966415465897661863160754340907 2:=ct (f:=236) (l:= [2,3,353,57467,132049,1923133,31757755568855353,75445702479781427272750846543864801]) (by simp only[List.mem_cons,List.not_mem_nil,or_false];rintro q (rfl|rfl|rfl|rfl|rfl|rfl|rfl|rfl)<;>first|exact p2|exact p3|exact aFN|exact awG|exact apL|exact ajB|exact tw|exact gR) (by decide+kernel)
theorem cC:aX 74058212732561358302231226437062788676166966415465897661863160754340907:=cA.kQ
theorem bl:oJ 57896044618658097711785492504343953926634992332820282019728792003956564819949 2:=ct (f:=255) (l:= [2,2,3,65147,74058212732561358302231226437062788676166966415465897661863160754340907]) (by simp only[List.mem_cons,List.not_mem_nil,or_false];rintro q (rfl|rfl|rfl|rfl|rfl)<;>first|exact p2|exact p3|exact awF|exact cC) (by decide+kernel)
theorem ca:aX 57896044618658097711785492504343953926634992332820282019728792003956564819949:=bl.kQ
abbrev pp:Nat:=57896044618658097711785492504343953926634992332820282019728792003956564819949
abbrev F:=Fin pp
instance:NeZero pp:=⟨by decide⟩
theorem ajE:aX pp:=ca
theorem F.mul_eq_zero{a b:F}(h:a*b=0):a=0∨b=0:=by
 have h1:(a.val*b.val)%pp=0:=by
  have:=congrArg Fin.val h;rwa [Fin.val_mul]at this
 rcases ajE.dvd_mul (Nat.dvd_of_mod_eq_zero h1)with h2|h2
 ·exact .inl (Fin.ext (Nat.eq_zero_of_dvd_of_lt h2 a.isLt))
 ·exact .inr (Fin.ext (Nat.eq_zero_of_dvd_of_lt h2 b.isLt))
theorem F.mz(a:F):a*0=0:=by grobner
theorem F.az:(0:F)+0=0:=by grobner
theorem F.fJ{a b:F}(ha:a≠0)(hb:b≠0):a*b≠0:=fun h=>
 (F.mul_eq_zero h).elim ha hb
theorem F.cancel{a b c:F}(hc:c≠0)(h:a*c=b*c):a=b:=by
 have:(a-b)*c=0:=by grobner
 rcases F.mul_eq_zero this with h1|h1
 ·grobner
 ·exact absurd h1 hc
def F.pow(a:F)(n:Nat):F:=⟨a.val ^ n%pp,Nat.mod_lt _ (by decide)⟩
theorem F.pow_zero(a:F):F.pow a 0=1:=by
 apply Fin.ext;simp[F.pow]
theorem F.pow_succ(a:F)(n:Nat):F.pow a (n+1)=F.pow a n*a:=by
 apply Fin.ext
 simp only[F.pow,Fin.val_mul,Nat.pow_succ];rw[Nat.mul_mod,Nat.mod_eq_of_lt a.isLt]
def F.inv(a:F):F:=F.pow a (pp-2)
theorem F.ajF{a:F}(h:a≠0):a.val%pp≠0:=by
 rw[Nat.mod_eq_of_lt a.isLt];intro e;exact h (Fin.ext e)
theorem XF:oJ pp 2:=bl
theorem F.inv_mul{a:F}(h:a≠0):a*F.inv a=1:=by
 have hf:=XF.TD (F.ajF h)
 apply Fin.ext
 show(a.val*(a.val ^ (pp-2)%pp))%pp=1%pp;rw[Nat.mul_mod,Nat.mod_mod,← Nat.mul_mod,Nat.mul_comm,← Nat.pow_succ];rw[show Nat.succ (pp-2)=pp-1 from by decide,hf];decide
def dd:F:=37095705934669439343138083508754565189542113879843219016388785533085940283555
def ii:F:=19681161376707505956807079304988542015446066515923890162744021073123829784752
theorem at1:ii*ii= -1:=by decide+kernel
theorem aBt:dd≠0:=by decide+kernel
theorem wg(s:F):s*s≠dd:=by
 intro h
 have hs:s≠0:=by
  rintro rfl
  exact aBt (by rw[← h];decide+kernel)
 have hf:=XF.TD (F.ajF hs)
 have h1:(s.val*s.val)%pp=dd.val:=by
  have:=congrArg Fin.val h;rwa [Fin.val_mul]at this
 have h2:dd.val ^ ((pp-1)/2)%pp=1:=by
  rw[← h1,← Nat.pow_mod,← Nat.pow_two,← Nat.pow_mul];rw[show 2*((pp-1)/2)=pp-1 from by decide];exact hf
 rw[← XD pp 255 _ _ (by decide+kernel)]at h2
 revert h2
 decide+kernel
theorem ajG:(2:F)≠0:=by decide+kernel
def tN(x y:F):Prop:=y*y-x*x=1+dd*(x*x)*(y*y)
theorem tN.zero{x y:F}(h:tN x y):y*y-x*x-(1+dd*(x*x)*(y*y))=0:=by unfold tN at h;grobner
theorem at3{x1 y1 x2 y2 e:F}(h1:tN x1 y1)(h2:tN x2 y2)(he:e*e=1):dd*x1*x2*y1*y2≠e:=by
 intro hd;unfold tN at h1 h2;have e0:e≠0:=by rintro rfl;revert he;decide+kernel
 have Gz:x1≠0:=by rintro rfl;apply e0;rw[← hd];grobner
 have PS:y1≠0:=by rintro rfl;apply e0;rw[← hd];grobner
 have Vx:y2≠0:=by rintro rfl;apply e0;rw[← hd];grobner
 have hi:=at1;have k1:dd*((x1*y1*(y2+ii*x2))*(x1*y1*(y2+ii*x2)))=(y1+e*ii*x1)*(y1+e*ii*x1):=by grobner
 have k2:dd*((x1*y1*(y2-ii*x2))*(x1*y1*(y2-ii*x2)))=(y1-e*ii*x1)*(y1-e*ii*x1):=by grobner
 have sq:∀t u:F,dd*(t*t)=u*u→t=0:=by
  intro t u h;refine Classical.byContradiction fun ht=>?_
  apply wg (u*F.inv t)
  have hv:=F.inv_mul ht;have:u*F.inv t*(u*F.inv t)=(u*u)*(F.inv t*F.inv t):=by grobner
  rw[this,← h];have:dd*(t*t)*(F.inv t*F.inv t)=dd*((t*F.inv t)*(t*F.inv t)):=by grobner
  rw[this,hv];grobner
 have z1:=sq _ _ k1;have z2:=sq _ _ k2;have hxy:=F.fJ Gz PS;have w1:y2+ii*x2=0:=(F.mul_eq_zero z1).resolve_left hxy;have w2:y2-ii*x2=0:=(F.mul_eq_zero z2).resolve_left hxy;have:(2:F)*y2=0:=by grobner
 exact Vx ((F.mul_eq_zero this).resolve_left ajG)
theorem gx{x1 y1 x2 y2:F}(h1:tN x1 y1)(h2:tN x2 y2):1+dd*x1*x2*y1*y2≠0:=by
 intro h;exact at3 h1 h2 (e:= -1) (by decide+kernel) (by grobner)
theorem fv{x1 y1 x2 y2:F}(h1:tN x1 y1)(h2:tN x2 y2):1-dd*x1*x2*y1*y2≠0:=by
 intro h;exact at3 h1 h2 (e:=1) (by decide+kernel) (by grobner)
structure Pt where
 x:F
 y:F
 on:tN x y
theorem Pt.ext'{p q:Pt}(hx:p.x=q.x)(hy:p.y=q.y):p=q:=by
 cases p;cases q;simp at hx hy;subst hx hy;rfl
def jQ(x1 y1 x2 y2:F):F:=(x1*y2+y1*x2)*F.inv (1+dd*x1*x2*y1*y2)
def jR(x1 y1 x2 y2:F):F:=(y1*y2+x1*x2)*F.inv (1-dd*x1*x2*y1*y2)
theorem kr{x1 y1 x2 y2:F}(h1:tN x1 y1)(h2:tN x2 y2):jQ x1 y1 x2 y2*(1+dd*x1*x2*y1*y2)=x1*y2+y1*x2:=by
 have:=F.inv_mul (gx h1 h2);unfold jQ;generalize F.inv (1+dd*x1*x2*y1*y2)=v at*
 grobner
theorem kt{x1 y1 x2 y2:F}(h1:tN x1 y1)(h2:tN x2 y2):jR x1 y1 x2 y2*(1-dd*x1*x2*y1*y2)=y1*y2+x1*x2:=by
 have:=F.inv_mul (fv h1 h2);unfold jR;generalize F.inv (1-dd*x1*x2*y1*y2)=v at*
 grobner
theorem TF(d x1 y1 x2 y2:F):((y1*y2+x1*x2)*(y1*y2+x1*x2))*((1+d*x1*x2*y1*y2)*(1+d*x1*x2*y1*y2))-((x1*y2+y1*x2)*(x1*y2+y1*x2))*((1-d*x1*x2*y1*y2)*(1-d*x1*x2*y1*y2))-((1+d*x1*x2*y1*y2)*(1+d*x1*x2*y1*y2))*((1-d*x1*x2*y1*y2)*(1-d*x1*x2*y1*y2))-d*((x1*y2+y1*x2)*(x1*y2+y1*x2))*((y1*y2+x1*x2)*(y1*y2+x1*x2))=(y2*y2*y2*y2-4*x2*x2*y2*y2-2*x2*x2*y2*y2*d+2*x2*x2*y2*y2*y2*y2+x2*x2*x2*x2-2*x2*x2*x2*x2*y2*y2-2*x2*x2*x2*x2*y2*y2*y2*y2*d-x2*x2*x2*x2*y2*y2*y2*y2*d*d-y1*y1*x2*x2*y2*y2*y2*y2*d+y1*y1*x2*x2*x2*x2*y2*y2*d+y1*y1*x2*x2*x2*x2*y2*y2*y2*y2*d*d+x1*x1*x2*x2*y2*y2*y2*y2*d-x1*x1*x2*x2*x2*x2*y2*y2*d-x1*x1*x2*x2*x2*x2*y2*y2*y2*y2*d*d+x1*x1*y1*y1*x2*x2*x2*x2*y2*y2*y2*y2*d*d*d)*(y1*y1-x1*x1-(1+d*(x1*x1)*(y1*y1)))+(1+y2*y2-x2*x2+2*x2*x2*y2*y2+x2*x2*y2*y2*d-y1*y1*y2*y2+y1*y1*x2*x2-2*y1*y1*x2*x2*y2*y2-2*y1*y1*x2*x2*y2*y2*d+y1*y1*y1*y1*x2*x2*y2*y2*d+x1*x1*y2*y2-x1*x1*x2*x2+2*x1*x1*x2*x2*y2*y2+2*x1*x1*x2*x2*y2*y2*d+x1*x1*x1*x1*x2*x2*y2*y2*d)*(y2*y2-x2*x2-(1+d*(x2*x2)*(y2*y2))):=by grobner
theorem TG(d x1 y1 x2 y2 x3 y3:F):((x1*y2+y1*x2)*(1-d*x1*x2*y1*y2)*y3+(y1*y2+x1*x2)*(1+d*x1*x2*y1*y2)*x3)*((1+d*x2*x3*y2*y3)*(1-d*x2*x3*y2*y3)+d*x1*y1*(x2*y3+y2*x3)*(y2*y3+x2*x3))-(x1*(y2*y3+x2*x3)*(1+d*x2*x3*y2*y3)+y1*(x2*y3+y2*x3)*(1-d*x2*x3*y2*y3))*((1+d*x1*x2*y1*y2)*(1-d*x1*x2*y1*y2)+d*(x1*y2+y1*x2)*(y1*y2+x1*x2)*x3*y3)=(-y1*x2*y2*y2*y2*y2*x3*x3*y3*d-y1*x2*x2*y2*y2*y2*x3*d-y1*x2*x2*y2*y2*y2*x3*x3*x3*d-y1*x2*x2*x2*y2*y2*y3*d+y1*x2*x2*x2*y2*y2*y3*y3*y3*d+y1*x2*x2*x2*y2*y2*y2*y2*x3*x3*y3*d*d+y1*x2*x2*x2*x2*y2*x3*y3*y3*d+y1*x2*x2*x2*x2*y2*y2*y2*x3*y3*y3*d*d+x1*x2*y2*y2*y2*y2*x3*y3*y3*d-x1*x2*x2*y2*y2*y2*y3*d+x1*x2*x2*y2*y2*y2*y3*y3*y3*d-x1*x2*x2*x2*y2*y2*x3*d-x1*x2*x2*x2*y2*y2*x3*x3*x3*d-x1*x2*x2*x2*y2*y2*y2*y2*x3*y3*y3*d*d-x1*x2*x2*x2*x2*y2*x3*x3*y3*d-x1*x2*x2*x2*x2*y2*y2*y2*x3*x3*y3*d*d)*(y1*y1-x1*x1-(1+d*(x1*x1)*(y1*y1)))+(y1*y2*x3-y1*y2*x3*y3*y3+y1*y2*x3*x3*x3+y1*y2*x3*x3*x3*y3*y3*d+y1*x2*y3-y1*x2*y3*y3*y3+y1*x2*x3*x3*y3+y1*x2*x3*x3*y3*y3*y3*d-y1*x2*y2*y2*x3*x3*y3*d-y1*x2*x2*y2*x3*y3*y3*d-y1*y1*y1*y2*x3+y1*y1*y1*y2*x3*y3*y3-y1*y1*y1*y2*x3*x3*x3-y1*y1*y1*y2*x3*x3*x3*y3*y3*d-y1*y1*y1*x2*y3+y1*y1*y1*x2*y3*y3*y3-y1*y1*y1*x2*x3*x3*y3-y1*y1*y1*x2*x3*x3*y3*y3*y3*d+y1*y1*y1*x2*y2*y2*x3*x3*y3*d+y1*y1*y1*x2*x2*y2*x3*y3*y3*d+x1*y2*y3-x1*y2*y3*y3*y3+x1*y2*x3*x3*y3+x1*y2*x3*x3*y3*y3*y3*d+x1*x2*x3-x1*x2*x3*y3*y3+x1*x2*x3*x3*x3+x1*x2*x3*x3*x3*y3*y3*d+x1*x2*y2*y2*x3*y3*y3*d+x1*x2*x2*y2*x3*x3*y3*d-x1*y1*y1*y2*y3+x1*y1*y1*y2*y3*y3*y3-x1*y1*y1*y2*x3*x3*y3-x1*y1*y1*y2*x3*x3*y3*y3*y3*d-x1*y1*y1*x2*x3+x1*y1*y1*x2*x3*y3*y3-x1*y1*y1*x2*x3*x3*x3-x1*y1*y1*x2*x3*x3*x3*y3*y3*d-x1*y1*y1*x2*y2*y2*x3*y3*y3*d+x1*y1*y1*x2*y2*y2*x3*x3*x3*y3*y3*d*d-x1*y1*y1*x2*x2*y2*x3*x3*y3*d-x1*y1*y1*x2*x2*y2*x3*x3*y3*y3*y3*d*d+x1*x1*y1*y2*x3-x1*x1*y1*y2*x3*y3*y3+x1*x1*y1*y2*x3*x3*x3+x1*x1*y1*y2*x3*x3*x3*y3*y3*d+x1*x1*y1*x2*y3-x1*x1*y1*x2*y3*y3*y3+x1*x1*y1*x2*x3*x3*y3+x1*x1*y1*x2*x3*x3*y3*y3*y3*d-x1*x1*y1*x2*y2*y2*x3*x3*y3*d-x1*x1*y1*x2*y2*y2*x3*x3*y3*y3*y3*d*d-x1*x1*y1*x2*x2*y2*x3*y3*y3*d+x1*x1*y1*x2*x2*y2*x3*x3*x3*y3*y3*d*d+x1*x1*x1*y2*y3-x1*x1*x1*y2*y3*y3*y3+x1*x1*x1*y2*x3*x3*y3+x1*x1*x1*y2*x3*x3*y3*y3*y3*d+x1*x1*x1*x2*x3-x1*x1*x1*x2*x3*y3*y3+x1*x1*x1*x2*x3*x3*x3+x1*x1*x1*x2*x3*x3*x3*y3*y3*d+x1*x1*x1*x2*y2*y2*x3*y3*y3*d+x1*x1*x1*x2*x2*y2*x3*x3*y3*d)*(y2*y2-x2*x2-(1+d*(x2*x2)*(y2*y2)))+(-y1*y2*x3+y1*y2*y2*y2*x3-y1*x2*y3+y1*x2*y2*y2*y3-y1*x2*x2*y2*x3-y1*x2*x2*x2*y3+y1*y1*y1*y2*x3-y1*y1*y1*y2*y2*y2*x3+y1*y1*y1*x2*y3-y1*y1*y1*x2*y2*y2*y3+y1*y1*y1*x2*x2*y2*x3+y1*y1*y1*x2*x2*x2*y3-x1*y2*y3+x1*y2*y2*y2*y3-x1*x2*x3+x1*x2*y2*y2*x3-x1*x2*x2*y2*y3-x1*x2*x2*x2*x3+x1*y1*y1*y2*y3-x1*y1*y1*y2*y2*y2*y3+x1*y1*y1*x2*x3-x1*y1*y1*x2*y2*y2*x3-x1*y1*y1*x2*y2*y2*x3*d+x1*y1*y1*x2*x2*y2*y3+x1*y1*y1*x2*x2*y2*y3*d+x1*y1*y1*x2*x2*x2*x3-x1*x1*y1*y2*x3+x1*x1*y1*y2*y2*y2*x3-x1*x1*y1*x2*y3+x1*x1*y1*x2*y2*y2*y3+x1*x1*y1*x2*y2*y2*y3*d-x1*x1*y1*x2*x2*y2*x3-x1*x1*y1*x2*x2*y2*x3*d-x1*x1*y1*x2*x2*x2*y3-x1*x1*x1*y2*y3+x1*x1*x1*y2*y2*y2*y3-x1*x1*x1*x2*x3+x1*x1*x1*x2*y2*y2*x3-x1*x1*x1*x2*x2*y2*y3-x1*x1*x1*x2*x2*x2*x3)*(y3*y3-x3*x3-(1+d*(x3*x3)*(y3*y3))):=by grobner
theorem TH(d x1 y1 x2 y2 x3 y3:F):((y1*y2+x1*x2)*(1+d*x1*x2*y1*y2)*y3+(x1*y2+y1*x2)*(1-d*x1*x2*y1*y2)*x3)*((1+d*x2*x3*y2*y3)*(1-d*x2*x3*y2*y3)-d*x1*y1*(x2*y3+y2*x3)*(y2*y3+x2*x3))-(y1*(y2*y3+x2*x3)*(1+d*x2*x3*y2*y3)+x1*(x2*y3+y2*x3)*(1-d*x2*x3*y2*y3))*((1+d*x1*x2*y1*y2)*(1-d*x1*x2*y1*y2)-d*(x1*y2+y1*x2)*(y1*y2+x1*x2)*x3*y3)=(y1*x2*y2*y2*y2*y2*x3*y3*y3*d-y1*x2*x2*y2*y2*y2*y3*d+y1*x2*x2*y2*y2*y2*y3*y3*y3*d-y1*x2*x2*x2*y2*y2*x3*d-y1*x2*x2*x2*y2*y2*x3*x3*x3*d-y1*x2*x2*x2*y2*y2*y2*y2*x3*y3*y3*d*d-y1*x2*x2*x2*x2*y2*x3*x3*y3*d-y1*x2*x2*x2*x2*y2*y2*y2*x3*x3*y3*d*d-x1*x2*y2*y2*y2*y2*x3*x3*y3*d-x1*x2*x2*y2*y2*y2*x3*d-x1*x2*x2*y2*y2*y2*x3*x3*x3*d-x1*x2*x2*x2*y2*y2*y3*d+x1*x2*x2*x2*y2*y2*y3*y3*y3*d+x1*x2*x2*x2*y2*y2*y2*y2*x3*x3*y3*d*d+x1*x2*x2*x2*x2*y2*x3*y3*y3*d+x1*x2*x2*x2*x2*y2*y2*y2*x3*y3*y3*d*d)*(y1*y1-x1*x1-(1+d*(x1*x1)*(y1*y1)))+(y1*y2*y3-y1*y2*y3*y3*y3+y1*y2*x3*x3*y3+y1*y2*x3*x3*y3*y3*y3*d+y1*x2*x3-y1*x2*x3*y3*y3+y1*x2*x3*x3*x3+y1*x2*x3*x3*x3*y3*y3*d+y1*x2*y2*y2*x3*y3*y3*d+y1*x2*x2*y2*x3*x3*y3*d-y1*y1*y1*y2*y3+y1*y1*y1*y2*y3*y3*y3-y1*y1*y1*y2*x3*x3*y3-y1*y1*y1*y2*x3*x3*y3*y3*y3*d-y1*y1*y1*x2*x3+y1*y1*y1*x2*x3*y3*y3-y1*y1*y1*x2*x3*x3*x3-y1*y1*y1*x2*x3*x3*x3*y3*y3*d-y1*y1*y1*x2*y2*y2*x3*y3*y3*d-y1*y1*y1*x2*x2*y2*x3*x3*y3*d+x1*y2*x3-x1*y2*x3*y3*y3+x1*y2*x3*x3*x3+x1*y2*x3*x3*x3*y3*y3*d+x1*x2*y3-x1*x2*y3*y3*y3+x1*x2*x3*x3*y3+x1*x2*x3*x3*y3*y3*y3*d-x1*x2*y2*y2*x3*x3*y3*d-x1*x2*x2*y2*x3*y3*y3*d-x1*y1*y1*y2*x3+x1*y1*y1*y2*x3*y3*y3-x1*y1*y1*y2*x3*x3*x3-x1*y1*y1*y2*x3*x3*x3*y3*y3*d-x1*y1*y1*x2*y3+x1*y1*y1*x2*y3*y3*y3-x1*y1*y1*x2*x3*x3*y3-x1*y1*y1*x2*x3*x3*y3*y3*y3*d+x1*y1*y1*x2*y2*y2*x3*x3*y3*d+x1*y1*y1*x2*y2*y2*x3*x3*y3*y3*y3*d*d+x1*y1*y1*x2*x2*y2*x3*y3*y3*d-x1*y1*y1*x2*x2*y2*x3*x3*x3*y3*y3*d*d+x1*x1*y1*y2*y3-x1*x1*y1*y2*y3*y3*y3+x1*x1*y1*y2*x3*x3*y3+x1*x1*y1*y2*x3*x3*y3*y3*y3*d+x1*x1*y1*x2*x3-x1*x1*y1*x2*x3*y3*y3+x1*x1*y1*x2*x3*x3*x3+x1*x1*y1*x2*x3*x3*x3*y3*y3*d+x1*x1*y1*x2*y2*y2*x3*y3*y3*d-x1*x1*y1*x2*y2*y2*x3*x3*x3*y3*y3*d*d+x1*x1*y1*x2*x2*y2*x3*x3*y3*d+x1*x1*y1*x2*x2*y2*x3*x3*y3*y3*y3*d*d+x1*x1*x1*y2*x3-x1*x1*x1*y2*x3*y3*y3+x1*x1*x1*y2*x3*x3*x3+x1*x1*x1*y2*x3*x3*x3*y3*y3*d+x1*x1*x1*x2*y3-x1*x1*x1*x2*y3*y3*y3+x1*x1*x1*x2*x3*x3*y3+x1*x1*x1*x2*x3*x3*y3*y3*y3*d-x1*x1*x1*x2*y2*y2*x3*x3*y3*d-x1*x1*x1*x2*x2*y2*x3*y3*y3*d)*(y2*y2-x2*x2-(1+d*(x2*x2)*(y2*y2)))+(-y1*y2*y3+y1*y2*y2*y2*y3-y1*x2*x3+y1*x2*y2*y2*x3-y1*x2*x2*y2*y3-y1*x2*x2*x2*x3+y1*y1*y1*y2*y3-y1*y1*y1*y2*y2*y2*y3+y1*y1*y1*x2*x3-y1*y1*y1*x2*y2*y2*x3+y1*y1*y1*x2*x2*y2*y3+y1*y1*y1*x2*x2*x2*x3-x1*y2*x3+x1*y2*y2*y2*x3-x1*x2*y3+x1*x2*y2*y2*y3-x1*x2*x2*y2*x3-x1*x2*x2*x2*y3+x1*y1*y1*y2*x3-x1*y1*y1*y2*y2*y2*x3+x1*y1*y1*x2*y3-x1*y1*y1*x2*y2*y2*y3-x1*y1*y1*x2*y2*y2*y3*d+x1*y1*y1*x2*x2*y2*x3+x1*y1*y1*x2*x2*y2*x3*d+x1*y1*y1*x2*x2*x2*y3-x1*x1*y1*y2*y3+x1*x1*y1*y2*y2*y2*y3-x1*x1*y1*x2*x3+x1*x1*y1*x2*y2*y2*x3+x1*x1*y1*x2*y2*y2*x3*d-x1*x1*y1*x2*x2*y2*y3-x1*x1*y1*x2*x2*y2*y3*d-x1*x1*y1*x2*x2*x2*x3-x1*x1*x1*y2*x3+x1*x1*x1*y2*y2*y2*x3-x1*x1*x1*x2*y3+x1*x1*x1*x2*y2*y2*y3-x1*x1*x1*x2*x2*y2*x3-x1*x1*x1*x2*x2*x2*y3)*(y3*y3-x3*x3-(1+d*(x3*x3)*(y3*y3))):=by grobner
theorem TI{x1 y1 x2 y2:F}(h1:tN x1 y1)(h2:tN x2 y2):tN (jQ x1 y1 x2 y2) (jR x1 y1 x2 y2):=by
 have a:=kr h1 h2;have b:=kt h1 h2;have p:=gx h1 h2;have q:=fv h1 h2;have c:=TF dd x1 y1 x2 y2;have z1:=h1.zero;have z2:=h2.zero;rw[z1,z2,F.mz,F.mz,F.az]at c;unfold tN;generalize jQ x1 y1 x2 y2=X at*;generalize jR x1 y1 x2 y2=Y at*;rw[← a,← b]at c;generalize 1+dd*x1*x2*y1*y2=D at*;generalize 1-dd*x1*x2*y1*y2=E at*;clear a b z1 z2 h1 h2;have k:(Y*Y-X*X-(1+dd*(X*X)*(Y*Y)))*((D*D)*(E*E))=0:=by grobner
 rcases F.mul_eq_zero k with k|k
 ·grobner
 ·exact absurd k (F.fJ (F.fJ p p) (F.fJ q q))
def Pt.add(p q:Pt):Pt:=⟨jQ p.x p.y q.x q.y,jR p.x p.y q.x q.y,TI p.on q.on⟩
def Pt.zero:Pt:=⟨0,1,by unfold tN;grobner⟩
def Pt.neg(p:Pt):Pt:=⟨-p.x,p.y,by have:=p.on;unfold tN at*;grobner⟩
theorem Pt.add_comm(p q:Pt):p.add q=q.add p:=by
 apply Pt.ext'
 ·show jQ _ _ _ _=jQ _ _ _ _;unfold jQ;rw[show p.x*q.y+p.y*q.x=q.x*p.y+q.y*p.x from by grobner,show 1+dd*p.x*q.x*p.y*q.y=1+dd*q.x*p.x*q.y*p.y from by grobner]
 ·show jR _ _ _ _=jR _ _ _ _;unfold jR;rw[show p.y*q.y+p.x*q.x=q.y*p.y+q.x*p.x from by grobner,show 1-dd*p.x*q.x*p.y*q.y=1-dd*q.x*p.x*q.y*p.y from by grobner]
theorem Pt.add_zero(p:Pt):p.add Pt.zero=p:=by
 have h1:=kr p.on Pt.zero.on;have h2:=kt p.on Pt.zero.on
 apply Pt.ext'
 ·show jQ p.x p.y 0 1=p.x;have e:jQ p.x p.y 0 1*(1+dd*p.x*0*p.y*1)=p.x*1+p.y*0:=h1
  grobner
 ·show jR p.x p.y 0 1=p.y;have e:jR p.x p.y 0 1*(1-dd*p.x*0*p.y*1)=p.y*1+p.x*0:=h2
  grobner
theorem Pt.add_neg(p:Pt):p.add p.neg=Pt.zero:=by
 have h1:=kr p.on p.neg.on;have h2:=kt p.on p.neg.on;have d1:=gx p.on p.neg.on;have d2:=fv p.on p.neg.on;have ho:=p.on;unfold tN at ho;simp only[Pt.neg]at h1 h2 d1 d2
 apply Pt.ext'
 ·show jQ p.x p.y (-p.x) p.y=0
  apply F.cancel d1
  rw[h1];grobner
 ·show jR p.x p.y (-p.x) p.y=1
  apply F.cancel d2
  rw[h2];grobner
theorem Pt.add_assoc(p q r:Pt):(p.add q).add r=p.add (q.add r):=by
 obtain⟨x1,y1,o1⟩:=p;obtain⟨x2,y2,o2⟩:=q;obtain⟨x3,y3,o3⟩:=r;have a12:=kr o1 o2;have b12:=kt o1 o2;have a23:=kr o2 o3;have b23:=kt o2 o3;have p12:=gx o1 o2;have q12:=fv o1 o2;have p23:=gx o2 o3;have q23:=fv o2 o3;have n12:=TI o1 o2;have n23:=TI o2 o3;have aL:=kr n12 o3;have bL:=kt n12 o3;have aR:=kr o1 n23;have bR:=kt o1 n23;have pL:=gx n12 o3;have qL:=fv n12 o3;have pR:=gx o1 n23;have qR:=fv o1 n23;have ix:=TG dd x1 y1 x2 y2 x3 y3;have iy:=TH dd x1 y1 x2 y2 x3 y3;have z1:=o1.zero;have z2:=o2.zero;have z3:=o3.zero;rw[z1,z2,z3,F.mz,F.mz,F.mz,F.az,F.az]at ix iy
 apply Pt.ext'
 ·show jQ (jQ x1 y1 x2 y2) (jR x1 y1 x2 y2) x3 y3=jQ x1 y1 (jQ x2 y2 x3 y3) (jR x2 y2 x3 y3);clear z1 z2 z3 o1 o2 o3 n12 n23 bL bR iy qL qR;generalize jQ (jQ x1 y1 x2 y2) (jR x1 y1 x2 y2) x3 y3=XL at*;generalize jQ x1 y1 (jQ x2 y2 x3 y3) (jR x2 y2 x3 y3)=XR at*;generalize jQ x1 y1 x2 y2=u at*;generalize jR x1 y1 x2 y2=v at*;generalize jQ x2 y2 x3 y3=s at*;generalize jR x2 y2 x3 y3=t at*;generalize 1+dd*x1*x2*y1*y2=D at*;generalize 1-dd*x1*x2*y1*y2=E at*;generalize 1+dd*x2*x3*y2*y3=G at*;generalize 1-dd*x2*x3*y2*y3=H at*;rw[← a12,← b12,← a23,← b23]at ix;clear a12 b12 a23 b23;generalize hA:1+dd*u*x3*v*y3=A at*;generalize hB:1+dd*x1*s*y1*t=B at*;have k1:XL*(D*E*A)=(u*y3+v*x3)*(D*E):=by grobner
  have k2:XR*(G*H*B)=(x1*t+y1*s)*(G*H):=by grobner
  have k3:(u*y3+v*x3)*(D*E)*(G*H*B)=(x1*t+y1*s)*(G*H)*(D*E*A):=by grobner
  apply F.cancel (F.fJ (F.fJ (F.fJ p12 q12) pL) (F.fJ (F.fJ p23 q23) pR))
  grobner
 ·show jR (jQ x1 y1 x2 y2) (jR x1 y1 x2 y2) x3 y3=jR x1 y1 (jQ x2 y2 x3 y3) (jR x2 y2 x3 y3);clear z1 z2 z3 o1 o2 o3 n12 n23 aL aR ix pL pR;generalize jR (jQ x1 y1 x2 y2) (jR x1 y1 x2 y2) x3 y3=XL at*;generalize jR x1 y1 (jQ x2 y2 x3 y3) (jR x2 y2 x3 y3)=XR at*;generalize jQ x1 y1 x2 y2=u at*;generalize jR x1 y1 x2 y2=v at*;generalize jQ x2 y2 x3 y3=s at*;generalize jR x2 y2 x3 y3=t at*;generalize 1+dd*x1*x2*y1*y2=D at*;generalize 1-dd*x1*x2*y1*y2=E at*;generalize 1+dd*x2*x3*y2*y3=G at*;generalize 1-dd*x2*x3*y2*y3=H at*;rw[← a12,← b12,← a23,← b23]at iy;clear a12 b12 a23 b23;generalize hA:1-dd*u*x3*v*y3=A at*;generalize hB:1-dd*x1*s*y1*t=B at*;have k1:XL*(D*E*A)=(v*y3+u*x3)*(D*E):=by grobner
  have k2:XR*(G*H*B)=(y1*t+x1*s)*(G*H):=by grobner
  have k3:(v*y3+u*x3)*(D*E)*(G*H*B)=(y1*t+x1*s)*(G*H)*(D*E*A):=by grobner
  apply F.cancel (F.fJ (F.fJ (F.fJ p12 q12) qL) (F.fJ (F.fJ p23 q23) qR))
  grobner
end BJ
end
noncomputable section
namespace Go.Proofs.YtnbkagglkajbkaaGreat
open Go Go.Ev Go.Proofs.Tryz
open Go.IntKind (i64 signed u16 u64 wrap)
set_option maxRecDepth 100000
abbrev Fe:=Vec Int 5
abbrev cR:=Vec Int 32
def eJ(n:Int):Int:=u64.wrap n
def dJ(a b:Int):Int:=aI .u64 a b
def bH(a b:Int):Int:=shr .u64 a b
def FE:Int:=2251799813685247
def cD(x:Fe):Fe:=
 (eJ (dJ x.1 FE+eJ (bH x.2.2.2.2.1 51*19)),
  eJ (dJ x.2.1 FE+bH x.1 51),
  eJ (dJ x.2.2.1 FE+bH x.2.1 51),
  eJ (dJ x.2.2.2.1 FE+bH x.2.2.1 51),
  eJ (dJ x.2.2.2.2.1 FE+bH x.2.2.2.1 51),())
def a6(n:Int):Fe:=(dJ n FE,bH n 51,0,0,0,())
def XG(carry:Fe→Fe)(x y:Fe):Fe:=carry (Vec.zip (fun a b=>eJ (a+b)) x y)
def Nt(carry:Fe→Fe)(x y:Fe):Fe:=carry (Vec.zip (fun a b=>eJ (a-b)) (Vec.zip (fun a b=>eJ (a+b)) x (4503599627370458,4503599627370494,4503599627370494,4503599627370494,4503599627370494,())) y)
def dw:Fe:=(0,0,0,0,0,())
def m7: {n:Nat}→Vec Int n→Vec Int n→Bool
 |0,_,_=>true
 |_+1,v,u=>(v.1==u.1)&&m7 v.2 u.2
theorem lj: {n:Nat}→(v u:Vec Int n)→(m7 v u=true↔v=u)
 |0,_,_=>⟨fun _=>rfl,fun _=>rfl⟩
 |n+1,v,u=>by
  simp only[m7,Bool.and_eq_true,beq_iff_eq,lj v.2 u.2];exact⟨fun h=>Prod.ext h.1 h.2,fun h=>by rw[h];exact⟨rfl,rfl⟩⟩
def ajH(bytes:Fe→cR)(x:Fe):Bool:=aI .u8 (bytes x).1 1==1
def wh(carry:Fe→Fe)(x:Fe):Fe:=
 let y:=carry x
 let c:=bH (eJ (y.1+19)) 51
 let c:=bH (eJ (y.2.1+c)) 51
 let c:=bH (eJ (y.2.2.1+c)) 51
 let c:=bH (eJ (y.2.2.2.1+c)) 51
 let c:=bH (eJ (y.2.2.2.2.1+c)) 51
 let c:=eJ (c*19)
 let c0:=eJ (c+y.1)
 let c1:=eJ (bH c0 51+y.2.1)
 let c2:=eJ (bH c1 51+y.2.2.1)
 let c3:=eJ (bH c2 51+y.2.2.2.1)
 let c4:=eJ (bH c3 51+y.2.2.2.2.1)
 (dJ c0 FE,dJ c1 FE,dJ c2 FE,dJ c3 FE,dJ c4 FE,())
end Go.Proofs.YtnbkagglkajbkaaGreat
namespace Go.Proofs.YtnbkagglkajbkaaGreat
open Go Go.Ev Go.Proofs.Tryz
open Go.IntKind (i64 signed u16 u64 wrap)
set_option maxRecDepth 1000000
def TJ(y:Fe):cR:=Vec.ofFn 32 fun j=>(List.range (if j=31 then 7 else 8)).foldl
 (fun acc i=>bn .u8 acc (shl .u8 (IntKind.u8.wrap (dJ (bH (y.get ((8*j+i)/51)) (((8*j+i)%51:Nat):Int)) 1)) (i:Int))) 0
def word(b:cR)(j:Nat):Int:=(List.range 8).foldl (fun acc i=>bn .u64 acc (shl .u64 (eJ (b.get (8*j+i))) (8*i:Nat))) 0
def gy(b:cR):Fe:=
 (dJ (word b 0) FE,dJ (bn .u64 (bH (word b 0) 51) (shl .u64 (word b 1) 13)) FE,dJ (bn .u64 (bH (word b 1) 38) (shl .u64 (word b 2) 26)) FE,
  dJ (bn .u64 (bH (word b 2) 25) (shl .u64 (word b 3) 39)) FE,dJ (bH (word b 3) 12) FE,())
def Vec.oa{α:Type}(f:α→α): {n:Nat}→Nat→Vec α n→Vec α n
 |0,_,_=>()
 |_+1,0,v=>(f v.1,v.2)
 |_+1,i+1,v=>(v.1,Vec.oa f i v.2)
def ia(b:cR):cR:=Vec.oa (fun x=>c5 .u8 x 128) 31 b
def bV(x y:Int):Int×Int:=
 let x0:=dJ x 4294967295
 let x1:=bH x 32
 let y0:=dJ y 4294967295
 let y1:=bH y 32
 let t:=eJ (eJ (x1*y0)+bH (eJ (x0*y0)) 32)
 let w1:=eJ (dJ t 4294967295+eJ (x0*y1))
 (eJ (eJ (eJ (x1*y1)+bH t 32)+bH w1 32),eJ (x*y))
def wi:List Prop→Option Prop
 | []=>none
 |p::l=>aFK p (wi l)
noncomputable section
variable (m64:Int→Int→Int×Int) (a64:Int→Int→Int→Int×Int)
def gS(x y:Fe):List (Nat×Nat)→List (Int×Int)→List (Int×Int)×List Prop
 | [],r=>(r,[])
 |(i,j)::l,r=>
  let a:=if i+j<5 then x.get i else eJ (x.get i*19)
  let p:=r.getD ((i+j)%5) (0,0)
  let m:=m64 a (y.get j)
  let s:=a64 p.2 m.2 0
  let t:=a64 p.1 m.1 s.2
  let z:=gS x y l (r.set ((i+j)%5) (t.1,s.1))
  (z.1,(0≤s.2∧s.2≤1)::z.2)
def fS:List (Nat×Nat):= [(0,0),(0,1),(0,2),(0,3),(0,4),(1,0),(1,1),(1,2),(1,3),(1,4),(2,0),(2,1),(2,2),(2,3),(2,4),(3,0),(3,1),(3,2),(3,3),(3,4),(4,0),(4,1),(4,2),(4,3),(4,4)]
def Dk(x y:Fe):List Prop:=(gS m64 a64 x y fS [(0,0),(0,0),(0,0),(0,0),(0,0)]).2
def tx(carry:Fe→Fe)(x y:Fe):Fe:=
 let r:=(gS m64 a64 x y fS [(0,0),(0,0),(0,0),(0,0),(0,0)]).1
 let lo (i:Nat):=dJ (r.getD i (0,0)).2 FE
 let c (i:Nat):=bn .u64 (shl .u64 (r.getD i (0,0)).1 13) (bH (r.getD i (0,0)).2 51)
 carry (eJ (eJ (0+lo 0)+eJ (c 4*19)),eJ (eJ (0+c 0)+lo 1),eJ (eJ (0+c 1)+lo 2),eJ (eJ (0+c 2)+lo 3),eJ (eJ (0+c 3)+lo 4),())
end
end Go.Proofs.YtnbkagglkajbkaaGreat
namespace Go.Proofs.YtnbkagglkajbkaaGreat
open Go Go.Ev Go.Proofs.Tryz
open Go.IntKind (i64 signed u16 u64 wrap)
set_option maxRecDepth 1000000
def cf(lo hi:Int):cR:=Vec.ofFn 32 fun j=>if j=0 then lo else if j=31 then hi else 255
def cZ(b:Bool): {n:Nat}→Vec Int n→Vec Int n→Vec Int n
 |0,_,_=>()
 |_+1,v,u=>(bif b then v.1 else u.1,cZ b v.2 u.2)
theorem bG: {n:Nat}→(b:Bool)→(v u:Vec Int n)→cZ b v u=bif b then v else u
 |0,b,v,u=>by cases b<;>rfl
 |n+1,b,v,u=>by
  show((bif b then v.1 else u.1),cZ b v.2 u.2)=_;rw[bG b v.2 u.2]
  cases b<;>rfl
theorem rQ{n:Nat}(b:Bool)(v:Vec Int n):cZ b v v=v:=by rw[bG];cases b<;>rfl
def FF(e:cR)(i:Nat):Bool:=aI .u8 (shr .u8 (e.get (i/8)) ((i%8:Nat):Int)) 1==1
noncomputable section
variable (small:Int→Fe) (qI:Fe→Fe) (mul:Fe→Fe→Fe)
def gh(x:Fe)(e:cR)(k:Nat)(r:Fe):Fe:=cZ (FF e (255-k)) (mul (qI r) x) (qI r)
def at4(x:Fe)(e:cR):Fe:=gw (gh qI mul x e) 256 (small 1)
end
noncomputable section
variable (pow:Fe→cR→Fe) (exp:Int→Int→cR) (mul:Fe→Fe→Fe) (qI neg:Fe→Fe) (small:Int→Fe) (equal:Fe→Fe→Bool) (su isZero:Fe→Bool) (invert:Fe→Fe)
def Dl(x:Fe):Fe×Bool:=
 let r:=pow x (exp 254 15)
 let r1:=cZ (!(equal (qI r) x)) (mul r (pow (small 2) (exp 251 31))) r
 let bad:= !(equal (qI r1) (cZ (!(equal (qI r) x)) x x))
 (cZ bad dw (cZ (su r1) (neg r1) r1),bif bad then false else true)
end
end Go.Proofs.YtnbkagglkajbkaaGreat
namespace Go.Proofs.YtnbkagglkajbkaaGreat
open Go Go.Ev Go.Proofs.Tryz
open Go.IntKind (i64 signed u16 u64 wrap)
set_option maxRecDepth 1000000
abbrev Pt:=Bool×Fe×Fe×Fe×Fe
def Nu(b:Bool)(p q:Pt):Pt:=(bif b then p.1 else q.1,cZ b p.2.1 q.2.1,cZ b p.2.2.1 q.2.2.1,cZ b p.2.2.2.1 q.2.2.2.1,cZ b p.2.2.2.2 q.2.2.2.2)
theorem jg(b:Bool)(p q:Pt):Nu b p q=bif b then p else q:=by
 unfold Nu;rw[bG,bG,bG,bG];cases b<;>rfl
noncomputable section
variable (mul add sub:Fe→Fe→Fe) (qI neg invert:Fe→Fe) (small:Int→Fe) (isZero su:Fe→Bool) (sqrt:Fe→Fe×Bool) (ratio:Fe→Fe→Fe×Bool) (ku:cR→Fe) (bytes:Fe→cR)
 (ya:cR→Bool) (equal:Fe→Fe→Bool) (abt:Fe) (zero:Pt) (own:Pt→Pt) (awI:Fe→Fe→Pt) (root:Fe→Fe×Bool) (place:Pt→Fe×Fe) (XH:Fe→Fe→Fe→Fe→Pt) (abu:Pt→Pt→Pt)
def nS:cR:=(0xa3,0x78,0x59,0x13,0xca,0x4d,0xeb,0x75,0xab,0xd8,0x41,0x41,0x4d,0x0a,0x70,0x00,0x98,0xe8,0x79,0x77,0x79,0x40,0xc7,0x8c,0x73,0xfe,0x6f,0x2b,0xee,0x6c,0x03,0x52,())
def ajI(x y:Fe):Pt:=(true,x,y,small 1,mul x y)
def ajJ(p:Pt):Pt:=Nu (!p.1) zero p
def fK:Pt:=(false,dw,dw,dw,dw)
def yb(b:cR):Bool:=aI .u8 (b.get 31) 128!=0
def wj(b:cR):Pt×Bool:=
 let y:=ku b
 let x:=(root y).1
 let ok:=(root y).2
 let b1:=(!ok)==false
 let b2:=(!(ya b))==false
 let b3:=yb b==true
 let j (v:Fe):Fe:=cZ b1 (cZ b2 (cZ b3 v v) v) v
 let jb (v:Bool):Bool:=bif b1 then(bif b2 then(bif b3 then v else v)else v)else v
 let bad:=bif b1 then(bif b2 then(bif b3 then isZero x else false)else true)else true
 let o:=jb (yb b)
 (Nu bad fK (awI (cZ o (neg (j x)) (j x)) (cZ o (j y) (j y))),bif bad then false else true)
def apQ(p:Pt):Fe×Fe:=(mul (own p).2.1 (invert (own p).2.2.2.1),mul (own p).2.2.1 (invert (own p).2.2.2.1))
def Dm(p:Pt):cR:=
 let b:=bytes (place p).2
 cZ (su (place p).1) (Vec.oa (fun x=>bn .u8 x 128) 31 b) b
def apR(e f g h:Fe):Pt:=(true,mul e f,mul g h,mul f g,mul e h)
def addFn(p0 q0:Pt):Pt:=
 let p:=own p0
 let q:=own q0
 let a:=mul (sub p.2.2.1 p.2.1) (sub q.2.2.1 q.2.1)
 let b:=mul (add p.2.2.1 p.2.1) (add q.2.2.1 q.2.1)
 let c:=mul (mul p.2.2.2.2 q.2.2.2.2) abt
 let c:=add c c
 let d:=mul p.2.2.2.1 q.2.2.2.1
 let d:=add d d
 XH (sub b a) (sub d c) (add d c) (add b a)
def negFn(p:Pt):Pt:=((own p).1,neg (own p).2.1,(own p).2.2.1,(own p).2.2.2.1,neg (own p).2.2.2.2)
end
end Go.Proofs.YtnbkagglkajbkaaGreat
namespace Go.Ev
open Go
open Go.IntKind (i64 signed u16 u64 wrap)
end Go.Ev
namespace Go.Proofs.YtnbkagglkajbkaaGreat
open Go Go.Ev Go.Proofs.Tryz
open Go.IntKind (i64 signed u16 u64 wrap)
set_option maxRecDepth 1000000
def mw(b:cR)(k:Nat):Int:=i64.wrap (aI .u8 (shr .u8 (b.get (k/8)) ((k%8:Nat):Int)) 1)
noncomputable section
variable (bit:cR→Nat→Int) (zero base:Pt) (double:Pt→Pt) (abu:Pt→Pt→Pt)
end
end Go.Proofs.YtnbkagglkajbkaaGreat
namespace Go.Proofs.YtnbkagglkajbkaaGreat
open Go Go.Ev Go.Proofs.Tryz
open Go.IntKind (i64 signed u16 u64 wrap)
set_option maxRecDepth 1000000
abbrev Fn:=Vec Int 16
def w(n:Int):Int:=i64.wrap n
def cg(n m:Int):Int:=aI .i64 n m
def down(n m:Int):Int:=shr .i64 n m
def dQ:Fn:=(65517,65535,65535,65535,65535,65535,65535,65535,65535,65535,65535,65535,65535,65535,65535,32767,())
def cw:Fn:=(0,0,0,0,0,0,0,0,0,0,0,0,0,0,0,0,())
def jh(a b:Fn):Nat→Bool
 |0=>false
 |k+1=>bif a.get k !=b.get k then decide (a.get k<b.get k)else jh a b k
def ib: {n:Nat}→Int→Vec Int n→Vec Int (n+1)
 |0,x,_=>(x,())
 |_+1,x,v=>(cg x 65535,ib (w (v.1+down x 16)) v.2)
def cF(t:Fn):Fn:=ib t.1 t.2
def eK(t:Fn):Fn:=(w (t.1+w (19*down (t.get 15) 15)),(Vec.oa (fun x=>cg x 32767) 15 t).2)
noncomputable section
variable (kQ:Fn) (below:Fn→Fn→Bool) (norm:Fn→Fn)
def at5(t:Fn):Fn:=
 let r:=cF (eK (cF (eK (cF (eK (cF (eK (cF t))))))))
 cZ (!(below r kQ)) (cF (Vec.zip (fun a b=>w (a-b)) r kQ)) r
def Jp(b:cR):Fn:=Vec.ofFn 16 fun i=>w (w (b.get (2*i))+w (256*w (b.get (2*i+1))))
def ajK(b:cR):Fn:=norm (Vec.oa (fun x=>cg x 32767) 15 (Jp b))
def bt(n:Int):Fn:=Vec.ofFn 16 fun i=>if i<4 then w (dJ (bH n ((16*i:Nat):Int)) 65535)else 0
def oK(x:Fn):cR:=Vec.ofFn 32 fun i=>if i%2=0 then IntKind.u8.wrap (cg (x.get (i/2)) 255)else IntKind.u8.wrap (down (x.get (i/2)) 8)
def TK(b:cR):cR:=Vec.oa (fun x=>aI .u8 x 127) 31 b
def awJ(x y:Fn):Fn:=norm (Vec.zip (fun a b=>w (a+b)) x y)
def awK(x y:Fn):Fn:=norm (Vec.zip (fun a b=>w (a-b)) (Vec.zip (fun a b=>w (a+b)) x kQ) y)
def wm(x y:Fn)(j:Nat):Int:=(List.range 16).foldl (fun acc i=>if i≤j∧j-i<16 then w (acc+w (x.get i*y.get (j-i)))else acc) 0
def awL(x y:Fn):Fn:=norm (Vec.ofFn 16 fun i=>w (wm x y i+w (38*wm x y (i+16))))
def sx(x:Fn):Bool:=x.1.tmod 2==1
end
end Go.Proofs.YtnbkagglkajbkaaGreat
namespace Go.Proofs.YtnbkagglkajbkaaGreat
open Go Go.Ev Go.Proofs.Tryz
open Go.IntKind (i64 signed u16 u64 wrap)
set_option maxRecDepth 1000000
def mU(b:cR)(k:Nat):Int:=aI .i64 (i64.wrap (shr .u8 (b.get (k/8)) ((k%8:Nat):Int))) 1
abbrev Pn:=Fn×Fn×Fn×Fn
def FG(b:Bool)(p q:Pn):Pn:=(cZ b p.1 q.1,cZ b p.2.1 q.2.1,cZ b p.2.2.1 q.2.2.1,cZ b p.2.2.2 q.2.2.2)
theorem Dn(b:Bool)(p q:Pn):FG b p q=bif b then p else q:=by
 unfold FG;rw[bG,bG,bG,bG];cases b<;>rfl
noncomputable section
variable (bit:cR→Nat→Int) (small:Int→Fn) (mul add sub:Fn→Fn→Fn) (neg invert:Fn→Fn) (su:Fn→Bool) (pow:Fn→cR→Fn) (sqrt:Fn→Fn×Bool) (ratio:Fn→Fn→Fn×Bool) (abt:Fn)
 (ku:cR→Fn) (bytes:Fn→cR) (ya:cR→Bool) (zero:Pn) (ofp:Fn→Fn→Pn) (xOf:Fn→Fn×Bool) (Nv:Pn→Pn→Fn→Pn)
def nT(x:Fn)(e:cR)(k:Nat)(r:Fn):Fn:=cZ (bit e (255-k)==1) (mul (mul r r) x) (mul r r)
def ajL(x:Fn)(e:cR):Fn:=gw (nT bit mul x e) 256 (small 1)
def wo(x:Fn):Fn×Bool:=
 let r:=pow x (cf 254 15)
 let b1:= !(m7 (mul r r) x)
 let r1:=cZ b1 (mul r (pow (small 2) (cf 251 31))) r
 let bad:= !(m7 (mul r1 r1) (cZ b1 x x))
 (cZ bad cw (cZ (su r1) (neg r1) r1),bif bad then false else true)
def Nw(u v:Fn):Fn×Bool:=(cZ (m7 v cw) cw (sqrt (mul u (invert v))).1,bif m7 v cw then m7 u cw else(sqrt (mul u (invert v))).2)
def TL:Pn:=(cw,small 1,small 1,cw)
def awM(x y:Fn):Pn:=(x,y,small 1,mul x y)
def ajM(y:Fn):Fn×Bool:=ratio (sub (mul y y) (small 1)) (add (mul abt (mul y y)) (small 1))
def Jq:Pn:=ofp (xOf (mul (small 4) (invert (small 5)))).1 (mul (small 4) (invert (small 5)))
def rR(b:cR):Pn×Bool:=
 let o:=decide (b.get 31>127)
 let nc:= !(ya b)
 let y:=ku b
 let x:=(xOf y).1
 let b1:=(!(xOf y).2)==false
 let b2:=(m7 x cw)==true
 let j (v:Fn):Fn:=cZ b1 (cZ b2 v v) v
 let o':=bif b1 then(bif b2 then o else o)else o
 let bad:=bif b1 then(bif b2 then o else false)else true
 (FG nc zero (FG bad zero (ofp (cZ o' (neg (j x)) (j x)) (cZ o' (j y) (j y)))),bif nc then false else(bif bad then false else true))
def yc(p:Pn):cR:=
 let z:=invert p.2.2.1
 let b:=bytes (mul p.2.1 z)
 cZ (su (mul p.1 z)) (Vec.oa (fun x=>IntKind.u8.wrap (x+128)) 31 b) b
def Ak(p q:Pn)(dd:Fn):Pn:=
 let a:=mul (sub p.2.1 p.1) (sub q.2.1 q.1)
 let b:=mul (add p.2.1 p.1) (add q.2.1 q.1)
 let c:=mul (mul p.2.2.2 q.2.2.2) dd
 let d:=mul (add p.2.2.1 p.2.2.1) q.2.2.1
 let e:=sub b a
 let f:=sub d c
 let g:=add d c
 let h:=add b a
 (mul e f,mul g h,mul f g,mul e h)
end
end Go.Proofs.YtnbkagglkajbkaaGreat
namespace BJ
def cG(n:Int):F:=⟨(n%(pp:Int)).toNat,by
 have h1:0≤n%(pp:Int):=Int.emod_nonneg _ (by decide);have h2:n%(pp:Int)<(pp:Int):=Int.emod_lt_of_pos _ (by decide);omega⟩
theorem dZ(n:Int):((cG n).val:Int)=n%(pp:Int):=Int.toNat_of_nonneg (Int.emod_nonneg _ (by decide))
theorem za{a b:F}(h:(a.val:Int)=b.val):a=b:=Fin.ext (Int.ofNat_inj.1 h)
theorem XI{a b:Int}:cG a=cG b↔a%(pp:Int)=b%(pp:Int):=by
 constructor
 ·intro h;rw[← dZ,← dZ,h]
 ·intro h;exact za (by rw[dZ,dZ,h])
theorem il(a b:Int):cG (a+b)=cG a+cG b:=by
 apply za
 rw[dZ,Fin.val_add,Int.natCast_emod,Int.natCast_add,dZ,dZ,← Int.add_emod]
theorem lk(a b:Int):cG (a*b)=cG a*cG b:=by
 apply za
 rw[dZ,Fin.val_mul,Int.natCast_emod,Int.natCast_mul,dZ,dZ,← Int.mul_emod]
theorem Nx:cG 0=0:=by apply za;rw[dZ];decide
theorem Al:cG 1=1:=by apply za;rw[dZ];decide
theorem XJ(a b:Int):cG (a-b)=cG a-cG b:=by
 have h:cG (a-b)+cG b=cG a:=by rw[← il];congr 1;omega
 grobner
theorem Dp(a k:Int):cG (a+k*(pp:Int))=cG a:=XI.2 (Int.add_mul_emod_self_right _ _ _)
end BJ
namespace Go.Proofs.YtnbkagglkajbkaaGreat
open Go Go.Ev BJ Go.Proofs.Tryz
open Go.IntKind (i64 signed u16 u64 wrap)
def FH(a b c d e:Int):Fe:=(a,b,c,d,e,())
def KD(n:Int):Prop:=0≤n∧n<18446744073709551616
def Ny(n:Int):Prop:=0≤n∧n<2251799813947392
def U5(x:Fe):Prop:=KD x.1∧KD x.2.1∧KD x.2.2.1∧KD x.2.2.2.1∧KD x.2.2.2.2.1
def fZ(x:Fe):Prop:=Ny x.1∧Ny x.2.1∧Ny x.2.2.1∧Ny x.2.2.2.1∧Ny x.2.2.2.2.1
def fT(x:Fe):Int:=x.1+x.2.1*2251799813685248+x.2.2.1*5070602400912917605986812821504+x.2.2.2.1*11417981541647679048466287755595961091061972992+x.2.2.2.2.1*25711008708143844408671393477458601640355247900524685364822016
def fe(x:Fe):F:=cG (fT x)
theorem wq(x:Int):dJ x FE=x%2251799813685248:=by
 have:=ry (m:=51) (by decide) x FE (by decide);simpa [dJ]using this
theorem Jr(x:Int):bH x 51=x/2251799813685248:=by
 have:=c9 .u64 x 51 (by decide);simpa [bH]using this
theorem abv{x:Fe}(h:U5 x):fZ (cD x)∧∃k,fT (cD x)=fT x+k*(pp:Int):=by
 obtain⟨x0,x1,x2,x3,x4,u⟩:=x;obtain⟨h0,h1,h2,h3,h4⟩:=h;simp only[KD]at h0 h1 h2 h3 h4
 have e:cD (x0,x1,x2,x3,x4,u)=FH (x0%2251799813685248+x4/2251799813685248*19) (x1%2251799813685248+x0/2251799813685248) (x2%2251799813685248+x1/2251799813685248)
   (x3%2251799813685248+x2/2251799813685248) (x4%2251799813685248+x3/2251799813685248):=by
  simp only[cD,wq,Jr,eJ];rw[wrap_u64 (n:=x4/2251799813685248*19) (by omega) (by omega)];rw[wrap_u64 (by omega) (by omega),wrap_u64 (by omega) (by omega),wrap_u64 (by omega) (by omega),wrap_u64 (by omega) (by omega),wrap_u64 (by omega) (by omega)];rfl
 rw[e];refine⟨?_,-(x4/2251799813685248),?_⟩
 ·simp only[fZ,Ny,FH];omega
 ·simp only[fT,pp,FH];omega
theorem wu{x:Fe}(h:U5 x):fZ (cD x)∧fe (cD x)=fe x:=by
 obtain⟨h1,k,h2⟩:=abv h;exact⟨h1,by unfold fe;rw[h2,Dp]⟩
theorem awN{x y:Fe}(hx:fZ x)(hy:fZ y):fZ (XG cD x y)∧fe (XG cD x y)=fe x+fe y:=by
 obtain⟨x0,x1,x2,x3,x4,u⟩:=x;obtain⟨y0,y1,y2,y3,y4,v⟩:=y;simp only[fZ,Ny]at hx hy
 have e:Vec.zip (n:=5) (fun a b=>eJ (a+b)) (x0,x1,x2,x3,x4,u) (y0,y1,y2,y3,y4,v)=FH (x0+y0) (x1+y1) (x2+y2) (x3+y3) (x4+y4):=by
  show(eJ (x0+y0),eJ (x1+y1),eJ (x2+y2),eJ (x3+y3),eJ (x4+y4),())=_;simp only[eJ];rw[wrap_u64 (by omega) (by omega),wrap_u64 (by omega) (by omega),wrap_u64 (by omega) (by omega),wrap_u64 (by omega) (by omega),wrap_u64 (by omega) (by omega)];rfl
 unfold XG;rw[e];obtain⟨h1,h2⟩:=wu (x:=FH (x0+y0) (x1+y1) (x2+y2) (x3+y3) (x4+y4)) (by simp only[U5,KD,FH];omega);refine⟨h1,?_⟩;rw[h2];unfold fe;rw[← il]
 congr 1
 simp only[fT,FH];omega
theorem ajN{x y:Fe}(hx:fZ x)(hy:fZ y):fZ (Nt cD x y)∧fe (Nt cD x y)=fe x-fe y:=by
 obtain⟨x0,x1,x2,x3,x4,u⟩:=x;obtain⟨y0,y1,y2,y3,y4,v⟩:=y;simp only[fZ,Ny]at hx hy
 have e:Vec.zip (n:=5) (fun a b=>eJ (a-b)) (Vec.zip (n:=5) (fun a b=>eJ (a+b)) (x0,x1,x2,x3,x4,u) (4503599627370458,4503599627370494,4503599627370494,4503599627370494,4503599627370494,())) (y0,y1,y2,y3,y4,v)=
   FH (x0+4503599627370458-y0) (x1+4503599627370494-y1) (x2+4503599627370494-y2) (x3+4503599627370494-y3) (x4+4503599627370494-y4):=by
  show(eJ (eJ (x0+4503599627370458)-y0),eJ (eJ (x1+4503599627370494)-y1),eJ (eJ (x2+4503599627370494)-y2),eJ (eJ (x3+4503599627370494)-y3),eJ (eJ (x4+4503599627370494)-y4),())=_;simp only[eJ];rw[wrap_u64 (n:=x0+4503599627370458) (by omega) (by omega),wrap_u64 (n:=x1+4503599627370494) (by omega) (by omega),wrap_u64 (n:=x2+4503599627370494) (by omega) (by omega),wrap_u64 (n:=x3+4503599627370494) (by omega) (by omega),wrap_u64 (n:=x4+4503599627370494) (by omega) (by omega)];rw[wrap_u64 (by omega) (by omega),wrap_u64 (by omega) (by omega),wrap_u64 (by omega) (by omega),wrap_u64 (by omega) (by omega),wrap_u64 (by omega) (by omega)];rfl
 unfold Nt;rw[e];obtain⟨h1,h2⟩:=wu (x:=FH (x0+4503599627370458-y0) (x1+4503599627370494-y1) (x2+4503599627370494-y2) (x3+4503599627370494-y3) (x4+4503599627370494-y4)) (by simp only[U5,KD,FH];omega);refine⟨h1,?_⟩;rw[h2];unfold fe;rw[← XJ,← Dp (fT (x0,x1,x2,x3,x4,u)-_) 2]
 congr 1
 simp only[fT,pp,FH];omega
theorem j3:fZ dw∧fe dw=0:=by
 refine⟨by simp[fZ,Ny,dw],?_⟩;rw[← Nx];rfl
theorem abw{a b:Int}(ha:KD a)(hb:KD b):bV a b=(a*b/18446744073709551616,a*b%18446744073709551616):=by
 simp only[KD]at ha hb
 have e0:∀x,dJ x 4294967295=x%4294967296:=fun x=>by
  have:=ry (m:=32) (by decide) x 4294967295 (by decide);simpa [dJ]using this
 have e1:∀x,bH x 32=x/4294967296:=fun x=>by
  have:=c9 .u64 x 32 (by decide);simpa [bH]using this
 obtain⟨a0,a1,ha0,ha1,rfl⟩:∃a0 a1:Int,a%4294967296=a0∧a/4294967296=a1∧a=a1*4294967296+a0:=⟨_,_,rfl,rfl,by omega⟩;obtain⟨b0,b1,hb0,hb1,rfl⟩:∃b0 b1:Int,b%4294967296=b0∧b/4294967296=b1∧b=b1*4294967296+b0:=⟨_,_,rfl,rfl,by omega⟩
 have tO:∀ {p q:Int},0≤p→p≤4294967295→0≤q→q≤4294967295→0≤p*q∧p*q≤18446744065119617025:=fun {p q} h1 h2 h3 h4=>
  ⟨Int.mul_nonneg h1 h3,Int.le_trans (Int.mul_le_mul h2 h4 h3 (by decide)) (by decide)⟩
 have PY:=tO (p:=a0) (q:=b0) (by omega) (by omega) (by omega) (by omega);have h01:=tO (p:=a0) (q:=b1) (by omega) (by omega) (by omega) (by omega);have h10:=tO (p:=a1) (q:=b0) (by omega) (by omega) (by omega) (by omega);have h11:=tO (p:=a1) (q:=b1) (by omega) (by omega) (by omega) (by omega);have hab:(a1*4294967296+a0)*(b1*4294967296+b0)=a1*b1*18446744073709551616+(a1*b0+a0*b1)*4294967296+a0*b0:=by grind
 simp only[bV,e0,e1,ha0,ha1,hb0,hb1,eJ];rw[hab];generalize a0*b0=p00 at*;generalize a0*b1=p01 at*;generalize a1*b0=p10 at*;generalize a1*b1=p11 at*;rw[wrap_u64 (n:=p00) (by omega) (by omega),wrap_u64 (n:=p10) (by omega) (by omega),wrap_u64 (n:=p01) (by omega) (by omega),wrap_u64 (n:=p11) (by omega) (by omega)];rw[wrap_u64 (n:=p10+p00/4294967296) (by omega) (by omega)];rw[wrap_u64 (n:=(p10+p00/4294967296)%4294967296+p01) (by omega) (by omega)];rw[wrap_u64 (n:=p11+(p10+p00/4294967296)/4294967296) (by omega) (by omega)];rw[ly,ly];refine Prod.ext ?_ ?_
 ·show _=_/_;omega
 ·show _=_%_;omega
end Go.Proofs.YtnbkagglkajbkaaGreat
namespace Go.Proofs.YtnbkagglkajbkaaGreat
open Go Go.Ev BJ Go.Proofs.Tryz
open Go.IntKind (i64 signed u16 u64 wrap)
theorem rS{x y c:Int}(hx:0≤x)(hy:0≤y)(hc:0≤c):bU x y c=((x+y+c)%18446744073709551616,(x+y+c)/18446744073709551616):=by
 obtain⟨a,rfl⟩:=Int.eq_ofNat_of_zero_le hx;obtain⟨b,rfl⟩:=Int.eq_ofNat_of_zero_le hy;obtain⟨d,rfl⟩:=Int.eq_ofNat_of_zero_le hc;simp only[bU,Int.toNat_natCast];refine Prod.ext ?_ ?_
 ·show(((a+b+d)%2 ^ 64:Nat):Int)=_;omega
 ·show(((a+b+d)/2 ^ 64:Nat):Int)=_;omega
def OkP(p:Int×Int):Prop:=0≤p.2∧p.2<18446744073709551616∧0≤p.1
def pv(p:Int×Int):Int:=p.1*18446744073709551616+p.2
def fL(x:Fe)(i j:Nat):Int:=if i+j<5 then x.get i else eJ (x.get i*19)
def qJ(x y:Fe)(k:Nat):List (Nat×Nat)→Int
 | []=>0
 |(i,j)::l=>(if(i+j)%5=k then fL x i j*y.get j else 0)+qJ x y k l
theorem FI{x y:Fe}(hc:∀i j,i<5→j<5→0≤fL x i j∧fL x i j<72057594037927936)(hy:∀j,j<5→0≤y.get j∧y.get j<4503599627370496):
  ∀ (l:List (Nat×Nat)) (r:List (Int×Int)) (B:Int),(∀p∈l,p.1<5∧p.2<5)→r.length=5→(∀k,k<5→OkP (r.getD k (0,0))∧pv (r.getD k (0,0))≤B)→
   B+l.length*324518553658426726783156020576256<340282366920938463463374607431768211456→
   (∀k,k<5→OkP ((gS bV bU x y l r).1.getD k (0,0))∧pv ((gS bV bU x y l r).1.getD k (0,0))=pv (r.getD k (0,0))+qJ x y k l)∧
   ∀p∈(gS bV bU x y l r).2,p
 | [],r,B,_,hl,hr,_=>⟨fun k hk=>⟨(hr k hk).1,by simp[gS,qJ]⟩,fun p hp=>by simp[gS]at hp⟩
 |(i,j)::l,r,B,hm,hl,hr,hB=>by
  obtain⟨hi,hj⟩:=hm (i,j) (by simp);obtain⟨c0,c1⟩:=hc i j hi hj;obtain⟨y0,y1⟩:=hy j hj;have hkk:(i+j)%5<5:=Nat.mod_lt _ (by decide);obtain⟨⟨p0,p1,p2⟩,p3⟩:=hr _ hkk
  have hpr:0≤fL x i j*y.get j∧fL x i j*y.get j≤324518553658426726783156020576256:=⟨Int.mul_nonneg c0 y0,by
   have:=Int.mul_le_mul (a:=fL x i j) (b:=y.get j) (c:=72057594037927936) (d:=4503599627370496) (by omega) (by omega) (by omega) (by omega);omega⟩
  have hcB:0≤(l.length:Int):=by omega
  simp only[List.length_cons,Int.natCast_add]at hB;have hmul:=abw (a:=fL x i j) (b:=y.get j) ⟨c0,by omega⟩ ⟨y0,by omega⟩;generalize hab:fL x i j*y.get j=ab at hpr hmul;generalize Wc:r.getD ((i+j)%5) (0,0)=p at p0 p1 p2 p3;unfold pv at p3
  have hs:bU p.2 (bV (fL x i j) (y.get j)).2 0=((p.2+ab%18446744073709551616+0)%18446744073709551616,(p.2+ab%18446744073709551616+0)/18446744073709551616):=by
   rw[hmul];exact rS p0 (by show 0≤ab%18446744073709551616;omega) (by omega)
  have ht:bU p.1 (bV (fL x i j) (y.get j)).1 (bU p.2 (bV (fL x i j) (y.get j)).2 0).2=((p.1+ab/18446744073709551616+(p.2+ab%18446744073709551616+0)/18446744073709551616)%18446744073709551616,
    (p.1+ab/18446744073709551616+(p.2+ab%18446744073709551616+0)/18446744073709551616)/18446744073709551616):=by
   rw[hs,hmul];exact rS p2 (by show 0≤ab/18446744073709551616;omega) (by show 0≤(p.2+ab%18446744073709551616+0)/18446744073709551616;omega)
  have K2:gS bV bU x y ((i,j)::l) r=((gS bV bU x y l (r.set ((i+j)%5) ((bU p.1 (bV (fL x i j) (y.get j)).1 (bU p.2 (bV (fL x i j) (y.get j)).2 0).2).1,(bU p.2 (bV (fL x i j) (y.get j)).2 0).1))).1,
    (0≤(bU p.2 (bV (fL x i j) (y.get j)).2 0).2∧(bU p.2 (bV (fL x i j) (y.get j)).2 0).2≤1)::(gS bV bU x y l (r.set ((i+j)%5) ((bU p.1 (bV (fL x i j) (y.get j)).1 (bU p.2 (bV (fL x i j) (y.get j)).2 0).2).1,(bU p.2 (bV (fL x i j) (y.get j)).2 0).1))).2):=by
   rw[← Wc];rfl
  rw[K2,ht,hs]
  have nd:∀ (v:Int×Int) k,k<5→(r.set ((i+j)%5) v).getD k (0,0)=if(i+j)%5=k then v else r.getD k (0,0):=by
   intro v k hk;simp only[List.getD_eq_getElem?_getD,List.getElem?_set]
   split
   ·rename_i e;subst e;simp[hl,hkk]
   ·rfl
  obtain⟨h1,h2⟩:=FI hc hy l (r.set ((i+j)%5) ((p.1+ab/18446744073709551616+(p.2+ab%18446744073709551616+0)/18446744073709551616)%18446744073709551616,(p.2+ab%18446744073709551616+0)%18446744073709551616))
   (B+324518553658426726783156020576256) (fun p hp=>hm p (by simp[hp])) (by simpa using hl) (fun k hk=>by
    rw[nd _ k hk]
    split
    ·refine⟨⟨?_,?_,?_⟩,?_⟩
     ·show 0≤(p.2+ab%18446744073709551616+0)%18446744073709551616;omega
     ·show(p.2+ab%18446744073709551616+0)%18446744073709551616<_;omega
     ·show 0≤(p.1+ab/18446744073709551616+(p.2+ab%18446744073709551616+0)/18446744073709551616)%18446744073709551616;omega
     ·show(p.1+ab/18446744073709551616+(p.2+ab%18446744073709551616+0)/18446744073709551616)%18446744073709551616*18446744073709551616+(p.2+ab%18446744073709551616+0)%18446744073709551616≤_;omega
    ·exact⟨(hr k hk).1,by have:=(hr k hk).2;omega⟩) (by omega)
  refine⟨fun k hk=>?_,?_⟩
  ·obtain⟨h3,h4⟩:=h1 k hk;refine⟨h3,?_⟩;show pv _=_+((if(i+j)%5=k then fL x i j*y.get j else 0)+qJ x y k l);rw[h4,nd _ k hk]
   split
   ·rename_i e;rw[← e,Wc,hab];simp only[pv];omega
   ·omega
  ·intro q hq;rcases List.mem_cons.1 hq with rfl|hq
   ·show 0≤(p.2+ab%18446744073709551616+0)/18446744073709551616∧(p.2+ab%18446744073709551616+0)/18446744073709551616≤1;omega
   ·exact h2 q hq
theorem sJ:∀ {l:List Prop},(∀p∈l,p)→fo (wi l)
 | [],_=>trivial
 |p::l,h=>by
  have h1:=h p (by simp);have h2:=sJ (l:=l) fun q hq=>h q (by simp[hq]);unfold wi
  cases hc:wi l with
  |none=>exact h1
  |some q=>rw[hc]at h2;exact⟨h1,h2⟩
theorem aBz(x0 x1 x2 x3 x4:Int)(u:Vec Int 0):Vec.get (n:=5) (x0,x1,x2,x3,x4,u) 0=x0∧Vec.get (n:=5) (x0,x1,x2,x3,x4,u) 1=x1∧Vec.get (n:=5) (x0,x1,x2,x3,x4,u) 2=x2∧
  Vec.get (n:=5) (x0,x1,x2,x3,x4,u) 3=x3∧Vec.get (n:=5) (x0,x1,x2,x3,x4,u) 4=x4:=⟨rfl,rfl,rfl,rfl,rfl⟩
theorem Nz{x:Fe}{Q:Int→Prop}(h0:Q x.1)(h1:Q x.2.1)(h2:Q x.2.2.1)(h3:Q x.2.2.2.1)(h4:Q x.2.2.2.2.1):∀i,i<5→Q (x.get i)
 |0,_=>h0
 |1,_=>h1
 |2,_=>h2
 |3,_=>h3
 |4,_=>h4
 |n+5,h=>absurd h (by omega)
theorem NA{x y:Fe}(hx:fZ x)(hy:fZ y):fo (wi (Dk bV bU x y))∧
  ∀k,k<5→∃p,(gS bV bU x y fS [(0,0),(0,0),(0,0),(0,0),(0,0)]).1.getD k (0,0)=p∧OkP p∧pv p=qJ x y k fS:=by
 have hgx:∀i,i<5→Ny (x.get i):=Nz hx.1 hx.2.1 hx.2.2.1 hx.2.2.2.1 hx.2.2.2.2;have hgy:∀i,i<5→Ny (y.get i):=Nz hy.1 hy.2.1 hy.2.2.1 hy.2.2.2.1 hy.2.2.2.2
 obtain⟨h1,h2⟩:=FI (x:=x) (y:=y) (fun i j hi hj=>by
   obtain⟨a,b⟩:=hgx i hi;unfold fL
   split
   ·omega
   ·unfold eJ;rw[wrap_u64 (by omega) (by omega)];omega) (fun j hj=>by obtain⟨a,b⟩:=hgy j hj;omega)
  fS [(0,0),(0,0),(0,0),(0,0),(0,0)] 0 (by decide) rfl (fun k hk=>by
   have:([(0,0),(0,0),(0,0),(0,0),(0,0)]:List (Int×Int)).getD k (0,0)=(0,0):=by
    match k,hk with
    |0,_=>rfl
    |1,_=>rfl
    |2,_=>rfl
    |3,_=>rfl
    |4,_=>rfl
   rw[this];exact⟨⟨by decide,by decide,by decide⟩,by decide⟩) (by decide)
 refine⟨sJ h2,fun k hk=>⟨_,rfl,(h1 k hk).1,?_⟩⟩;rw[(h1 k hk).2]
 have:([(0,0),(0,0),(0,0),(0,0),(0,0)]:List (Int×Int)).getD k (0,0)=(0,0):=by
  match k,hk with
  |0,_=>rfl
  |1,_=>rfl
  |2,_=>rfl
  |3,_=>rfl
  |4,_=>rfl
 rw[this];simp[pv]
theorem qK{p:Int×Int}(h:OkP p){R:Int}(hR:pv p=R)(dL:R<20769187434139310514121985316880384):
  dJ p.2 FE=R%2251799813685248∧bn .u64 (shl .u64 p.1 13) (bH p.2 51)=R/2251799813685248:=by
 obtain⟨a,b⟩:=p;obtain⟨h0,h1,h2⟩:=h;simp only[pv]at*;rw[wq,Jr]
 have e:shl .u64 a 13=a*8192:=by
  have:=gd .u64 a 13 (by decide);rw[show((13:Nat):Int)=13 from rfl]at this;rw[this];exact wrap_u64 (by omega) (by omega)
 rw[e,ow (m:=13) (by omega) (by omega) (by omega) (by omega) (by omega)];constructor<;>omega
theorem apS(x0 x1 x2 x3 x4 y0 y1 y2 y3 y4:Int)(u v:Vec Int 0)(hx:fZ (x0,x1,x2,x3,x4,u))(k:Nat)(hk:k<5):
  qJ (x0,x1,x2,x3,x4,u) (y0,y1,y2,y3,y4,v) k fS=
   [x0*y0+x1*19*y4+x2*19*y3+x3*19*y2+x4*19*y1,x0*y1+x1*y0+x2*19*y4+x3*19*y3+x4*19*y2,x0*y2+x1*y1+x2*y0+x3*19*y4+x4*19*y3,
    x0*y3+x1*y2+x2*y1+x3*y0+x4*19*y4,x0*y4+x1*y3+x2*y2+x3*y1+x4*y0].getD k 0:=by
 simp only[fZ,Ny]at hx;have w1:eJ (x1*19)=x1*19:=wrap_u64 (by omega) (by omega);have w2:eJ (x2*19)=x2*19:=wrap_u64 (by omega) (by omega);have w3:eJ (x3*19)=x3*19:=wrap_u64 (by omega) (by omega);have w4:eJ (x4*19)=x4*19:=wrap_u64 (by omega) (by omega);obtain⟨g0,g1,g2,g3,g4⟩:=aBz x0 x1 x2 x3 x4 u;obtain⟨f0,f1,f2,f3,f4⟩:=aBz y0 y1 y2 y3 y4 v
 match k,hk with
 |0,_=>simp[qJ,fS,fL,g0,g1,g2,g3,g4,f0,f1,f2,f3,f4,w1,w2,w3,w4];omega
 |1,_=>simp[qJ,fS,fL,g0,g1,g2,g3,g4,f0,f1,f2,f3,f4,w2,w3,w4];omega
 |2,_=>simp[qJ,fS,fL,g0,g1,g2,g3,g4,f0,f1,f2,f3,f4,w3,w4];omega
 |3,_=>simp[qJ,fS,fL,g0,g1,g2,g3,g4,f0,f1,f2,f3,f4,w4];omega
 |4,_=>simp[qJ,fS,fL,g0,g1,g2,g3,g4,f0,f1,f2,f3,f4];omega
theorem ajO(x0 x1 x2 x3 x4 y0 y1 y2 y3 y4 t:F)(ht:t*t*t*t*t=19):
  (x0*y0+x1*19*y4+x2*19*y3+x3*19*y2+x4*19*y1)+(x0*y1+x1*y0+x2*19*y4+x3*19*y3+x4*19*y2)*t+(x0*y2+x1*y1+x2*y0+x3*19*y4+x4*19*y3)*(t*t)+
   (x0*y3+x1*y2+x2*y1+x3*y0+x4*19*y4)*(t*t*t)+(x0*y4+x1*y3+x2*y2+x3*y1+x4*y0)*(t*t*t*t)=
  (x0+x1*t+x2*(t*t)+x3*(t*t*t)+x4*(t*t*t*t))*(y0+y1*t+y2*(t*t)+y3*(t*t*t)+y4*(t*t*t*t)):=by
 grobner
end Go.Proofs.YtnbkagglkajbkaaGreat
namespace Go.Proofs.YtnbkagglkajbkaaGreat
open Go Go.Ev BJ Go.Proofs.Tryz
open Go.IntKind (i64 signed u16 u64 wrap)
def tt:F:=cG 2251799813685248
theorem tt5:tt*tt*tt*tt*tt=19:=by decide+kernel
theorem tt2:cG 5070602400912917605986812821504=tt*tt:=by decide+kernel
theorem tt3:cG 11417981541647679048466287755595961091061972992=tt*tt*tt:=by decide+kernel
theorem tt4:cG 25711008708143844408671393477458601640355247900524685364822016=tt*tt*tt*tt:=by decide+kernel
theorem t19:cG 19=19:=by decide+kernel
theorem Dq(x0 x1 x2 x3 x4:Int):cG (x0+x1*2251799813685248+x2*5070602400912917605986812821504+x3*11417981541647679048466287755595961091061972992+x4*25711008708143844408671393477458601640355247900524685364822016)=
  cG x0+cG x1*tt+cG x2*(tt*tt)+cG x3*(tt*tt*tt)+cG x4*(tt*tt*tt*tt):=by
 simp only[il,lk,tt2,tt3,tt4];rfl
theorem apT{R0 R1 R2 R3 R4:Int}(n0:0≤R0∧R0≤1000000000000000000000000000000000)(n1:0≤R1∧R1≤1000000000000000000000000000000000)(n2:0≤R2∧R2≤1000000000000000000000000000000000)
  (n3:0≤R3∧R3≤1000000000000000000000000000000000) (n4:0≤R4∧R4≤26000000000000000000000000000000):
  ((eJ (eJ (0+R0%2251799813685248)+eJ (R4/2251799813685248*19)),eJ (eJ (0+R0/2251799813685248)+R1%2251799813685248),eJ (eJ (0+R1/2251799813685248)+R2%2251799813685248),
    eJ (eJ (0+R2/2251799813685248)+R3%2251799813685248),eJ (eJ (0+R3/2251799813685248)+R4%2251799813685248),()):Fe)=FH (R0%2251799813685248+R4/2251799813685248*19) (R0/2251799813685248+R1%2251799813685248) (R1/2251799813685248+R2%2251799813685248)
    (R2/2251799813685248+R3%2251799813685248) (R3/2251799813685248+R4%2251799813685248):=by
 simp only[eJ,Int.zero_add]
 rw[wrap_u64 (n:=R0%2251799813685248) (by omega) (by omega),wrap_u64 (n:=R4/2251799813685248*19) (by omega) (by omega),wrap_u64 (n:=R0/2251799813685248) (by omega) (by omega),wrap_u64 (n:=R1/2251799813685248) (by omega) (by omega),
  wrap_u64 (n:=R2/2251799813685248) (by omega) (by omega),wrap_u64 (n:=R3/2251799813685248) (by omega) (by omega)]
 rw[wrap_u64 (n:=R0%2251799813685248+R4/2251799813685248*19) (by omega) (by omega),wrap_u64 (n:=R0/2251799813685248+R1%2251799813685248) (by omega) (by omega),wrap_u64 (n:=R1/2251799813685248+R2%2251799813685248) (by omega) (by omega),
  wrap_u64 (n:=R2/2251799813685248+R3%2251799813685248) (by omega) (by omega),wrap_u64 (n:=R3/2251799813685248+R4%2251799813685248) (by omega) (by omega)]
 rfl
theorem apU{R0 R1 R2 R3 R4:Int}(n0:0≤R0∧R0≤1000000000000000000000000000000000)(n1:0≤R1∧R1≤1000000000000000000000000000000000)(n2:0≤R2∧R2≤1000000000000000000000000000000000)
  (n3:0≤R3∧R3≤1000000000000000000000000000000000) (n4:0≤R4∧R4≤26000000000000000000000000000000):
  U5 (FH (R0%2251799813685248+R4/2251799813685248*19) (R0/2251799813685248+R1%2251799813685248) (R1/2251799813685248+R2%2251799813685248)
   (R2/2251799813685248+R3%2251799813685248) (R3/2251799813685248+R4%2251799813685248))∧fe (FH (R0%2251799813685248+R4/2251799813685248*19) (R0/2251799813685248+R1%2251799813685248) (R1/2251799813685248+R2%2251799813685248)
   (R2/2251799813685248+R3%2251799813685248) (R3/2251799813685248+R4%2251799813685248))=
   cG (R0+R1*2251799813685248+R2*5070602400912917605986812821504+R3*11417981541647679048466287755595961091061972992+R4*25711008708143844408671393477458601640355247900524685364822016):=by
 constructor
 ·simp only[U5,KD,FH];omega
 ·unfold fe;rw[← Dp (fT _) (R4/2251799813685248)]
  congr 1
  simp only[fT,pp,FH];omega
set_option maxHeartbeats 1000000 in
theorem yd{x y:Fe}(hx:fZ x)(hy:fZ y):fZ (tx bV bU cD x y)∧fe (tx bV bU cD x y)=fe x*fe y:=by
 obtain⟨_,hr⟩:=NA hx hy;obtain⟨x0,x1,x2,x3,x4,u⟩:=x;obtain⟨y0,y1,y2,y3,y4,v⟩:=y;have hv:=apS x0 x1 x2 x3 x4 y0 y1 y2 y3 y4 u v hx
 have tO:∀ {p q:Int},0≤p→p<2251799813947392→0≤q→q<2251799813947392→0≤p*q∧p*q≤5070602402093548913987446767616:=fun {p q} h1 h2 h3 h4=>
  ⟨Int.mul_nonneg h1 h3,Int.le_trans (Int.mul_le_mul (c:=2251799813947392) (d:=2251799813947392) (by omega) (by omega) h3 (by decide)) (by decide)⟩
 simp only[fZ,Ny]at hx hy;obtain⟨xh,Gz,Vw,hx3,hx4⟩:=hx;obtain⟨AX,PS,Vx,hy3,hy4⟩:=hy;have b00:=tO xh.1 xh.2 AX.1 AX.2;have b01:=tO xh.1 xh.2 PS.1 PS.2;have b02:=tO xh.1 xh.2 Vx.1 Vx.2;have b03:=tO xh.1 xh.2 hy3.1 hy3.2;have b04:=tO xh.1 xh.2 hy4.1 hy4.2;have b10:=tO Gz.1 Gz.2 AX.1 AX.2;have b11:=tO Gz.1 Gz.2 PS.1 PS.2;have b12:=tO Gz.1 Gz.2 Vx.1 Vx.2;have b13:=tO Gz.1 Gz.2 hy3.1 hy3.2;have b14:=tO Gz.1 Gz.2 hy4.1 hy4.2;have b20:=tO Vw.1 Vw.2 AX.1 AX.2;have b21:=tO Vw.1 Vw.2 PS.1 PS.2;have b22:=tO Vw.1 Vw.2 Vx.1 Vx.2;have b23:=tO Vw.1 Vw.2 hy3.1 hy3.2;have b24:=tO Vw.1 Vw.2 hy4.1 hy4.2;have b30:=tO hx3.1 hx3.2 AX.1 AX.2;have b31:=tO hx3.1 hx3.2 PS.1 PS.2;have b32:=tO hx3.1 hx3.2 Vx.1 Vx.2;have b33:=tO hx3.1 hx3.2 hy3.1 hy3.2;have b34:=tO hx3.1 hx3.2 hy4.1 hy4.2;have b40:=tO hx4.1 hx4.2 AX.1 AX.2;have b41:=tO hx4.1 hx4.2 PS.1 PS.2;have b42:=tO hx4.1 hx4.2 Vx.1 Vx.2;have b43:=tO hx4.1 hx4.2 hy3.1 hy3.2;have b44:=tO hx4.1 hx4.2 hy4.1 hy4.2;have sw:∀a b:Int,a*19*b=19*(a*b):=fun a b=>by rw[Int.mul_comm a 19,Int.mul_assoc]
 obtain⟨p0,e0,k0,v0⟩:=hr 0 (by decide);obtain⟨p1,e1,k1,v1⟩:=hr 1 (by decide);obtain⟨p2,e2,k2,v2⟩:=hr 2 (by decide);obtain⟨p3,e3,k3,v3⟩:=hr 3 (by decide);obtain⟨p4,e4,k4,v4⟩:=hr 4 (by decide);rw[hv 0 (by decide)]at v0;rw[hv 1 (by decide)]at v1;rw[hv 2 (by decide)]at v2;rw[hv 3 (by decide)]at v3;rw[hv 4 (by decide)]at v4;have v0':pv p0=x0*y0+x1*19*y4+x2*19*y3+x3*19*y2+x4*19*y1:=v0;have v1':pv p1=x0*y1+x1*y0+x2*19*y4+x3*19*y3+x4*19*y2:=v1;have v2':pv p2=x0*y2+x1*y1+x2*y0+x3*19*y4+x4*19*y3:=v2;have v3':pv p3=x0*y3+x1*y2+x2*y1+x3*y0+x4*19*y4:=v3;have v4':pv p4=x0*y4+x1*y3+x2*y2+x3*y1+x4*y0:=v4;have at6:=ajO (cG x0) (cG x1) (cG x2) (cG x3) (cG x4) (cG y0) (cG y1) (cG y2) (cG y3) (cG y4) tt tt5;have hR0:cG (pv p0)=cG x0*cG y0+cG x1*19*cG y4+cG x2*19*cG y3+cG x3*19*cG y2+cG x4*19*cG y1:=by rw[v0'];simp only[il,lk,t19]
 have hR1:cG (pv p1)=cG x0*cG y1+cG x1*cG y0+cG x2*19*cG y4+cG x3*19*cG y3+cG x4*19*cG y2:=by rw[v1'];simp only[il,lk,t19]
 have hR2:cG (pv p2)=cG x0*cG y2+cG x1*cG y1+cG x2*cG y0+cG x3*19*cG y4+cG x4*19*cG y3:=by rw[v2'];simp only[il,lk,t19]
 have hR3:cG (pv p3)=cG x0*cG y3+cG x1*cG y2+cG x2*cG y1+cG x3*cG y0+cG x4*19*cG y4:=by rw[v3'];simp only[il,lk,t19]
 have hR4:cG (pv p4)=cG x0*cG y4+cG x1*cG y3+cG x2*cG y2+cG x3*cG y1+cG x4*cG y0:=by rw[v4'];simp only[il,lk]
 rw[← hR0,← hR1,← hR2,← hR3,← hR4]at at6;have n0:0≤pv p0∧pv p0≤1000000000000000000000000000000000:=by rw[v0'];simp only[sw];omega
 have n1:0≤pv p1∧pv p1≤1000000000000000000000000000000000:=by rw[v1'];simp only[sw];omega
 have n2:0≤pv p2∧pv p2≤1000000000000000000000000000000000:=by rw[v2'];simp only[sw];omega
 have n3:0≤pv p3∧pv p3≤1000000000000000000000000000000000:=by rw[v3'];simp only[sw];omega
 have n4:0≤pv p4∧pv p4≤26000000000000000000000000000000:=by rw[v4'];omega
 obtain⟨l0,c0⟩:=qK k0 rfl (by omega);obtain⟨l1,c1⟩:=qK k1 rfl (by omega);obtain⟨l2,c2⟩:=qK k2 rfl (by omega);obtain⟨l3,c3⟩:=qK k3 rfl (by omega);obtain⟨l4,c4⟩:=qK k4 rfl (by omega);generalize pv p0=R0 at*;generalize pv p1=R1 at*;generalize pv p2=R2 at*;generalize pv p3=R3 at*;generalize pv p4=R4 at*
 have e:tx bV bU cD (x0,x1,x2,x3,x4,u) (y0,y1,y2,y3,y4,v)=cD (FH (R0%2251799813685248+R4/2251799813685248*19) (R0/2251799813685248+R1%2251799813685248) (R1/2251799813685248+R2%2251799813685248)
   (R2/2251799813685248+R3%2251799813685248) (R3/2251799813685248+R4%2251799813685248)):=by
  rw[← apT n0 n1 n2 n3 n4];simp only[tx,e0,e1,e2,e3,e4,l0,l1,l2,l3,l4,c0,c1,c2,c3,c4]
 rw[e];obtain⟨hU,h3⟩:=apU n0 n1 n2 n3 n4;obtain⟨h1,h2⟩:=wu hU;refine⟨h1,?_⟩;rw[h2,h3,Dq,at6];show _=cG (x0+x1*_+_+_+_)*cG (y0+y1*_+_+_+_);rw[Dq,Dq]
def my(n:Int):Prop:=0≤n∧n<2251799813685248
def awO(x:Fe):Prop:=(my x.1∧my x.2.1∧my x.2.2.1∧my x.2.2.2.1∧my x.2.2.2.2.1)∧fT x<(pp:Int)
theorem ajP{x:Fe}(hx:fZ x):awO (wh cD x)∧fe (wh cD x)=fe x:=by
 obtain⟨hy,hyx⟩:=wu (x:=x) (by simp only[fZ,Ny]at hx;simp only[U5,KD];omega);rw[← hyx];unfold wh;generalize cD x=y at hy;obtain⟨y0,y1,y2,y3,y4,u⟩:=y;simp only[fZ,Ny]at hy;simp only[wq,Jr,eJ];obtain⟨a0,ha0⟩:∃a,a=(y0+19)/2251799813685248:=⟨_,rfl⟩;obtain⟨a1,ha1⟩:∃a,a=(y1+a0)/2251799813685248:=⟨_,rfl⟩;obtain⟨a2,ha2⟩:∃a,a=(y2+a1)/2251799813685248:=⟨_,rfl⟩;obtain⟨a3,ha3⟩:∃a,a=(y3+a2)/2251799813685248:=⟨_,rfl⟩;obtain⟨q,hq⟩:∃a,a=(y4+a3)/2251799813685248:=⟨_,rfl⟩;rw[wrap_u64 (n:=y0+19) (by omega) (by omega),← ha0];rw[wrap_u64 (n:=y1+a0) (by omega) (by omega),← ha1];rw[wrap_u64 (n:=y2+a1) (by omega) (by omega),← ha2];rw[wrap_u64 (n:=y3+a2) (by omega) (by omega),← ha3];rw[wrap_u64 (n:=y4+a3) (by omega) (by omega),← hq];have aF0:q=0∨q=1:=by omega
 rw[wrap_u64 (n:=q*19) (by omega) (by omega)];obtain⟨c0,hc0⟩:∃a,a=q*19+y0:=⟨_,rfl⟩;rw[wrap_u64 (n:=q*19+y0) (by omega) (by omega),← hc0];obtain⟨c1,hc1⟩:∃a,a=c0/2251799813685248+y1:=⟨_,rfl⟩;rw[wrap_u64 (n:=c0/2251799813685248+y1) (by omega) (by omega),← hc1];obtain⟨c2,hc2⟩:∃a,a=c1/2251799813685248+y2:=⟨_,rfl⟩;rw[wrap_u64 (n:=c1/2251799813685248+y2) (by omega) (by omega),← hc2];obtain⟨c3,hc3⟩:∃a,a=c2/2251799813685248+y3:=⟨_,rfl⟩;rw[wrap_u64 (n:=c2/2251799813685248+y3) (by omega) (by omega),← hc3];obtain⟨c4,hc4⟩:∃a,a=c3/2251799813685248+y4:=⟨_,rfl⟩;rw[wrap_u64 (n:=c3/2251799813685248+y4) (by omega) (by omega),← hc4]
 have ns:fT (c0%2251799813685248,c1%2251799813685248,c2%2251799813685248,c3%2251799813685248,c4%2251799813685248,())=fT (y0,y1,y2,y3,y4,u)-q*(pp:Int)∧
   fT (c0%2251799813685248,c1%2251799813685248,c2%2251799813685248,c3%2251799813685248,c4%2251799813685248,())<(pp:Int):=by
  simp only[fT,pp];rcases aF0 with rfl|rfl
  ·constructor<;>omega
  ·constructor<;>omega
 refine⟨⟨by simp only[my];omega,ns.2⟩,?_⟩;unfold fe;rw[ns.1,← Dp (fT (y0,y1,y2,y3,y4,u)-_) q]
 congr 1;omega
end Go.Proofs.YtnbkagglkajbkaaGreat
namespace Go.Proofs.YtnbkagglkajbkaaGreat
open Go Go.Ev BJ Go.Proofs.Tryz
open Go.IntKind (i64 signed u16 u64 wrap)
def bx: {n:Nat}→Vec Int n→Int
 |0,_=>0
 |_+1,v=>v.1+256*bx v.2
def m8: {n:Nat}→Vec Int n→Prop
 |0,_=>True
 |_+1,v=>(0≤v.1∧v.1<256)∧m8 v.2
theorem cH: {n:Nat}→ {v:Vec Int n}→m8 v→0≤bx v
 |0,_,_=>Int.le_refl _
 |n+1,v,h=>by have:=cH h.2;have:=h.1;simp only[bx];omega
theorem mA: {n:Nat}→ {v:Vec Int n}→m8 v→bx v<(256 ^ n:Nat)
 |0,_,_=>by simp[bx]
 |n+1,v,h=>by
  have h1:=mA h.2;have h2:=h.1;simp only[bx];have e:(256 ^ (n+1):Nat)=256*256 ^ n:=by rw[Nat.pow_succ,Nat.mul_comm]
  rw[e];generalize (256 ^ n:Nat)=m at*;omega
theorem Dr: {n:Nat}→ {v u:Vec Int n}→m8 v→m8 u→bx v=bx u→v=u
 |0,_,_,_,_,_=>rfl
 |n+1,v,u,hv,hu,h=>by
  simp only[bx]at h;have h1:=hv.1;have h2:=hu.1;have e1:v.1=u.1:=by omega
  have e2:bx v.2=bx u.2:=by omega
  exact Prod.ext e1 (Dr hv.2 hu.2 e2)
def zl(n:Nat)(V:Int):Vec Int n:=Vec.ofFn n fun j=>V/(256 ^ j:Nat)%256
theorem ye:(n:Nat)→(V:Int)→0≤V→m8 (zl n V)∧bx (zl n V)=V%(256 ^ n:Nat)
 |0,V,h=>⟨trivial,by simp[bx]⟩
 |n+1,V,h=>by
  have e:zl (n+1) V=(V/(256 ^ 0:Nat)%256,zl n (V/256)):=by
   unfold zl;show(_,Vec.ofFn n fun i=>V/(256 ^ (i+1):Nat)%256)=_
   have:(fun i:Nat=>V/(256 ^ (i+1):Nat)%256)=fun j:Nat=>V/256/(256 ^ j:Nat)%256:=by
    funext j
    rw[Int.ediv_ediv_of_nonneg (by omega)]
    congr 2
    rw[Nat.pow_succ];simp[Int.mul_comm]
   rw[this]
  rw[e];obtain⟨h1,h2⟩:=ye n (V/256) (by omega);refine⟨⟨by simp only[Nat.pow_zero];omega,h1⟩,?_⟩;show V/(256 ^ 0:Nat)%256+256*bx (zl n (V/256))=_;rw[h2];have e2:(256 ^ (n+1):Nat)=256*256 ^ n:=by rw[Nat.pow_succ,Nat.mul_comm]
  rw[e2];generalize hm:(256 ^ n:Nat)=m;have GH:0<(m:Int):=by have:=Nat.pow_pos (n:=n) (show 0<256 by decide);omega
  have h3:=Int.emod_nonneg (V/256) (b:=(m:Int)) (by omega);have h4:=Int.emod_lt_of_pos (V/256) GH;have h5:=Int.emod_add_mul_ediv (V/256) (m:Int)
  have h6:V=(V%256+256*(V/256%m))+((256*m:Nat):Int)*(V/256/m):=by
   rw[Int.natCast_mul,Int.mul_assoc];generalize (m:Int)*(V/256/m)=z at*;omega
  rw[Nat.pow_zero]
  have h7:V%((256*m:Nat):Int)=V%256+256*(V/256%m):=by
   conv=>lhs;rw[h6]
   rw[Int.add_mul_emod_self_left];exact Int.emod_eq_of_lt (by omega) (by rw[Int.natCast_mul];omega)
  rw[h7];omega
theorem abx{n:Nat}{v:Vec Int n}(h:m8 v):zl n (bx v)=v:=by
 obtain⟨h1,h2⟩:=ye n (bx v) (cH h);exact Dr h1 h (by rw[h2,Int.emod_eq_of_lt (cH h) (mA h)])
def dR(a:F):cR:=zl 32 (a.val:Int)
theorem apV:(256 ^ 32:Nat)=115792089237316195423570985008687907853269984665640564039457584007913129639936:=by decide
theorem lP(a:F):m8 (dR a)∧bx (dR a)=(a.val:Int):=by
 obtain⟨h1,h2⟩:=ye 32 (a.val:Int) (by omega);have:=a.isLt;refine⟨h1,h2.trans (Int.emod_eq_of_lt (by omega) ?_)⟩;rw[apV];simp only[pp]at this;omega
theorem TM{a b:F}(h:dR a=dR b):a=b:=za (by rw[← (lP a).2,← (lP b).2,h])
def zo(f:Nat→Int):Nat→Int
 |0=>0
 |n+1=>zo f n+f n*(2 ^ n:Nat)
theorem XK(f:Nat→Int):∀n,n≤8→(∀i,i<n→0≤f i∧f i≤1)→
  (List.range n).foldl (fun acc i=>bn .u8 acc (shl .u8 (f i) (i:Int))) 0=zo f n∧0≤zo f n∧zo f n<(2 ^ n:Nat)
 |0,_,_=>⟨rfl,by simp[zo],by simp[zo]⟩
 |n+1,hn,hf=>by
  obtain⟨h1,h2,h3⟩:=XK f n (by omega) fun i hi=>hf i (by omega);have h4:=hf n (by omega);rw[List.range_succ,List.foldl_append,h1];simp only[List.foldl_cons,List.foldl_nil,zo];have hp:0<2 ^ n:=Nat.two_pow_pos n;have hle:2 ^ n≤2 ^ 7:=Nat.pow_le_pow_right (by omega) (by omega)
  have hs:f n*(2 ^ n:Nat)=0∨f n*(2 ^ n:Nat)=(2 ^ n:Nat):=by
   have:f n=0∨f n=1:=(by omega);rcases this with e|e<;>rw[e]<;>simp
  have e:shl .u8 (f n) (n:Int)=f n*(2 ^ n:Nat):=by
   rw[gd .u8 _ _ (by show n≤8;omega),wrap_u8];have:(2:Nat) ^ 7=128:=(by decide);omega
  have hm:f n*(2 ^ n:Nat)%(2 ^ n:Nat)=0:=Int.mul_emod_left _ _;have h7:(2:Nat) ^ 7=128:=by decide
  rw[e,gY,asx (m:=n) (by omega) hm h2 h3 (by omega)];have e2:(2 ^ (n+1):Nat)=2*2 ^ n:=by rw[Nat.pow_succ,Nat.mul_comm]
  rw[e2];refine⟨by omega,by omega,by omega⟩
theorem apW(u H:Int){b:Nat}(hb:b<51):(u+2251799813685248*H)/(2 ^ b:Nat)%2=u/(2 ^ b:Nat)%2:=by
 have e:(2251799813685248:Int)=(2 ^ b:Nat)*(2*(2 ^ (50-b):Nat)):=by
  have:(2251799813685248:Nat)=2 ^ b*(2*2 ^ (50-b)):=by
   rw[← Nat.mul_assoc,Nat.mul_comm (2 ^ b) 2,Nat.mul_assoc,← Nat.pow_add,show b+(50-b)=50 by omega]
  have h2:((2251799813685248:Nat):Int)=((2 ^ b*(2*2 ^ (50-b)):Nat):Int):=by rw[← this]
  rw[Int.natCast_mul,Int.natCast_mul]at h2;exact h2
 rw[e,Int.mul_assoc,Int.add_mul_ediv_left _ _ (by have:=Nat.two_pow_pos b;omega),Int.mul_assoc,Int.add_mul_emod_self_left]
theorem ajQ{y:Fe}(h:my y.1∧my y.2.1∧my y.2.2.1∧my y.2.2.2.1∧my y.2.2.2.2.1)(q:Nat)(hq:q<255):
  y.get (q/51)/(2 ^ (q%51):Nat)%2=fT y/(2 ^ q:Nat)%2:=by
 obtain⟨y0,y1,y2,y3,y4,u⟩:=y;simp only[my]at h;have hb:q%51<51:=Nat.mod_lt _ (by decide);have hq2:(2 ^ q:Nat)=2 ^ (51*(q/51))*2 ^ (q%51):=by rw[← Nat.pow_add];congr 1;omega
 rw[hq2,Int.natCast_mul,← Int.ediv_ediv_of_nonneg (Int.natCast_nonneg _)];have h5:q/51<5:=by omega
 generalize q%51=b at*;generalize q/51=a at*
 have key:∀ (V H:Int),fT (y0,y1,y2,y3,y4,u)/(2 ^ (51*a):Nat)=V+2251799813685248*H→V/(2 ^ b:Nat)%2=fT (y0,y1,y2,y3,y4,u)/(2 ^ (51*a):Nat)/(2 ^ b:Nat)%2:=by
  intro V H e;rw[e,apW V H hb]
 match a,h5 with
 |0,_=>exact key y0 (y1+y2*2251799813685248+y3*5070602400912917605986812821504+y4*11417981541647679048466287755595961091061972992) (by simp only[fT,Nat.mul_zero,Nat.pow_zero];omega)
 |1,_=>exact key y1 (y2+y3*2251799813685248+y4*5070602400912917605986812821504) (by
   have:(2:Nat) ^ (51*1)=2251799813685248:=(by decide);rw[this];simp only[fT];omega)
 |2,_=>exact key y2 (y3+y4*2251799813685248) (by
   have:(2:Nat) ^ (51*2)=5070602400912917605986812821504:=(by decide);rw[this];simp only[fT];omega)
 |3,_=>exact key y3 y4 (by
   have:(2:Nat) ^ (51*3)=11417981541647679048466287755595961091061972992:=(by decide);rw[this];simp only[fT];omega)
 |4,_=>exact key y4 0 (by
   have:(2:Nat) ^ (51*4)=25711008708143844408671393477458601640355247900524685364822016:=(by decide);rw[this];simp only[fT];omega)
theorem aBA(W:Int):zo (fun i=>W/(2 ^ i:Nat)%2) 8=W%256:=by
 simp[zo];omega
theorem aBB(W:Int)(h0:0≤W)(h:W<128):zo (fun i=>W/(2 ^ i:Nat)%2) 7=W%256:=by
 simp[zo];omega
theorem jS{α:Type}:∀ {n:Nat} {f g:Nat→α},(∀i,i<n→f i=g i)→Vec.ofFn n f=Vec.ofFn n g
 |0,_,_,_=>rfl
 |n+1,f,g,h=>by
  show(f 0,Vec.ofFn n _)=(g 0,Vec.ofFn n _);rw[h 0 (by omega),jS (n:=n) fun i hi=>h (i+1) (by omega)]
theorem ajR{y:Fe}(h:awO y):TJ y=zl 32 (fT y):=by
 have hv0:0≤fT y:=by
  obtain⟨y0,y1,y2,y3,y4,u⟩:=y;have:=h.1;simp only[my]at this;simp only[fT];omega
 have hv1:=h.2;unfold TJ zl;refine jS fun j hj=>?_
 have at8:∀n,n≤8→(∀i,i<n→8*j+i<255)→
   (List.range n).foldl (fun acc i=>bn .u8 acc (shl .u8 (IntKind.u8.wrap (dJ (bH (y.get ((8*j+i)/51)) (((8*j+i)%51:Nat):Int)) 1)) (i:Int))) 0=
    zo (fun i=>fT y/(2 ^ (8*j):Nat)/(2 ^ i:Nat)%2) n:=by
  intro n hn dL
  have GN:∀i,i<n→IntKind.u8.wrap (dJ (bH (y.get ((8*j+i)/51)) (((8*j+i)%51:Nat):Int)) 1)=fT y/(2 ^ (8*j):Nat)/(2 ^ i:Nat)%2:=by
   intro i hi;have e1:bH (y.get ((8*j+i)/51)) (((8*j+i)%51:Nat):Int)=y.get ((8*j+i)/51)/(2 ^ ((8*j+i)%51):Nat):=c9 .u64 _ _ (by show(8*j+i)%51≤64;omega)
   have e2:∀x,dJ x 1=x%2:=fun x=>by
    have:=ry (m:=1) (by decide) x 1 (by decide);simpa [dJ]using this
   rw[e1,e2,ajQ h.1 _ (dL i hi),wrap_u8,Int.ediv_ediv_of_nonneg (Int.natCast_nonneg _),← Int.natCast_mul,← Nat.pow_add];omega
  have pK:∀ (l:List Nat) (a:Int),(∀i∈l,i<n)→l.foldl (fun(acc:Int) (i:Nat)=>bn .u8 acc (shl .u8 (IntKind.u8.wrap (dJ (bH (y.get ((8*j+i)/51)) (((8*j+i)%51:Nat):Int)) 1)) (i:Int))) a=
    l.foldl (fun(acc:Int) (i:Nat)=>bn .u8 acc (shl .u8 (fT y/(2 ^ (8*j):Nat)/(2 ^ i:Nat)%2) (i:Int))) a:=by
   intro l
   induction l with
   |nil=>intro a _;rfl
   |cons i l ih=>intro a hl;simp only[List.foldl_cons];rw[GN i (hl i (by simp)),ih _ fun k hk=>hl k (by simp[hk])]
  rw[pK _ _ fun i hi=>List.mem_range.1 hi]
  exact(XK (fun i=>fT y/(2 ^ (8*j):Nat)/(2 ^ i:Nat)%2) n hn fun i _=>by
   have:=Int.emod_nonneg (fT y/(2 ^ (8*j):Nat)/(2 ^ i:Nat)) (b:=2) (by omega);have:=Int.emod_lt_of_pos (fT y/(2 ^ (8*j):Nat)/(2 ^ i:Nat)) (b:=2) (by omega);omega).1
 have e8:(2 ^ (8*j):Nat)=256 ^ j:=by rw[Nat.pow_mul]
 by_cases h31:j=31
 ·rw[if_pos h31,at8 7 (by omega) (fun i hi=>by omega),e8];refine aBB _ (Int.ediv_nonneg hv0 (Int.natCast_nonneg _)) ?_;subst h31;have:(256 ^ 31:Nat)=452312848583266388373324160190187140051835877600158453279131187530910662656:=by decide
  rw[this];simp only[pp]at hv1;omega
 ·rw[if_neg h31,at8 8 (by omega) (fun i hi=>by omega),e8];exact aBA _
theorem Js{y:Fe}(h:awO y):((fe y).val:Int)=fT y:=by
 have hv0:0≤fT y:=by
  obtain⟨y0,y1,y2,y3,y4,u⟩:=y;have:=h.1;simp only[my]at this;simp only[fT];omega
 unfold fe;rw[dZ,Int.emod_eq_of_lt hv0 h.2]
def ee(x:Fe):cR:=TJ (wh cD x)
theorem qM{x:Fe}(h:fZ x):ee x=dR (fe x):=by
 obtain⟨h1,h2⟩:=ajP h;unfold ee dR;rw[ajR h1,← Js h1,h2]
theorem ajS{a b:F}:m7 (dR a) (dR b)=decide (a=b):=by
 by_cases h:a=b
 ·subst h;rw[decide_eq_true rfl];exact(lj _ _).2 rfl
 ·rw[decide_eq_false h];refine Bool.eq_false_iff.2 fun e=>h (TM ((lj _ _).1 e))
theorem Ds{x y:Fe}(hx:fZ x)(hy:fZ y):m7 (ee x) (ee y)=decide (fe x=fe y):=by
 rw[qM hx,qM hy,ajS]
theorem ajT{x:Fe}(h:fZ x):ajH ee x=decide ((fe x).val%2=1):=by
 unfold ajH;rw[qM h];have e:(dR (fe x)).1=((fe x).val:Int)/(256 ^ 0:Nat)%256:=rfl;rw[e,sY (m:=1) (by decide) _ 1 (by decide)]
 have:((((fe x).val:Int)/(256 ^ 0:Nat)%256%(2 ^ 1:Nat)==1)=true)↔(fe x).val%2=1:=by
  rw[beq_iff_eq];simp only[Nat.pow_zero,Nat.pow_one];omega
 by_cases h1:(fe x).val%2=1
 ·rw[decide_eq_true h1];exact this.2 h1
 ·rw[decide_eq_false h1];exact Bool.eq_false_iff.2 fun e=>h1 (this.1 e)
theorem qN{n:Int}(h:KD n):fZ (a6 n)∧fe (a6 n)=cG n:=by
 simp only[KD]at h
 have e:a6 n=FH (n%2251799813685248) (n/2251799813685248) 0 0 0:=by
  simp only[a6,wq,Jr];rfl
 rw[e];refine⟨by simp only[fZ,Ny,FH];omega,?_⟩;unfold fe;congr 1;simp only[fT,FH];omega
end Go.Proofs.YtnbkagglkajbkaaGreat
end
