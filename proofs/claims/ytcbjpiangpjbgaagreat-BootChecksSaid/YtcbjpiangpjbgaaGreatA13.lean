/- What the laws lean on, part 13: a reader of code, plain facts, and what each function gives; no conditions. -/
import Derived.Test.YtcbjpiangpjbgaaGreatA12
set_option linter.unusedVariables false
set_option linter.unusedSimpArgs false
noncomputable section
namespace BJ
theorem p2:aI 2:=aO 1 (by decide) (by decide) (by decide+kernel)
theorem p3:aI 3:=aO 1 (by decide) (by decide) (by decide+kernel)
theorem axU:aI 65147:=aO 254 (by decide) (by decide) (by decide+kernel)
theorem aHW:aI 353:=aO 17 (by decide) (by decide) (by decide+kernel)
theorem axV:aI 57467:=aO 238 (by decide) (by decide) (by decide+kernel)
theorem p7:aI 7:=aO 1 (by decide) (by decide) (by decide+kernel)
theorem aHX:aI 131:=aO 10 (by decide) (by decide) (by decide+kernel)
theorem aoY:gf 132049 26:=aX (f:=18) (l:= [2,2,2,2,3,3,7,131]) (by simp only[List.mem_cons,List.not_mem_nil,or_false];rintro q (rfl|rfl|rfl|rfl|rfl|rfl|rfl|rfl)<;>first|exact p2|exact p3|exact p7|exact aHX) (by decide+kernel)
theorem aoZ:aI 132049:=aoY.dW
theorem p43:aI 43:=aO 5 (by decide) (by decide) (by decide+kernel)
theorem aDl:aI 3727:=aO 60 (by decide) (by decide) (by decide+kernel)
theorem ahD:gf 1923133 2:=aX (f:=21) (l:= [2,2,3,43,3727]) (by simp only[List.mem_cons,List.not_mem_nil,or_false];rintro q (rfl|rfl|rfl|rfl|rfl)<;>first|exact p2|exact p3|exact p43|exact aDl) (by decide+kernel)
theorem ahE:aI 1923133:=ahD.dW
theorem p31:aI 31:=aO 4 (by decide) (by decide) (by decide+kernel)
theorem aHY:aI 107:=aO 9 (by decide) (by decide) (by decide+kernel)
theorem aHZ:aI 223:=aO 13 (by decide) (by decide) (by decide+kernel)
theorem aDm:aI 4153:=aO 63 (by decide) (by decide) (by decide+kernel)
theorem p5:aI 5:=aO 1 (by decide) (by decide) (by decide+kernel)
theorem aDn:aI 1723:=aO 40 (by decide) (by decide) (by decide+kernel)
theorem ao0:gf 430751 17:=aX (f:=19) (l:= [2,5,5,5,1723]) (by simp only[List.mem_cons,List.not_mem_nil,or_false];rintro q (rfl|rfl|rfl|rfl|rfl)<;>first|exact p2|exact p5|exact aDn) (by decide+kernel)
theorem ao1:aI 430751:=ao0.dW
theorem rW:gf 31757755568855353 10:=aX (f:=55) (l:= [2,2,2,3,31,107,223,4153,430751]) (by simp only[List.mem_cons,List.not_mem_nil,or_false];rintro q (rfl|rfl|rfl|rfl|rfl|rfl|rfl|rfl|rfl)<;>first|exact p2|exact p3|exact p31|exact aHY|exact aHZ|exact aDm|exact ao1) (by decide+kernel)
theorem rX:aI 31757755568855353:=rW.dW
theorem axW:aI 75707:=aO 274 (by decide) (by decide) (by decide+kernel)
theorem p13:aI 13:=aO 2 (by decide) (by decide) (by decide+kernel)
theorem aDo:aI 2437:=aO 48 (by decide) (by decide) (by decide+kernel)
theorem p97:aI 97:=aO 8 (by decide) (by decide) (by decide+kernel)
theorem aH0:aI 419:=aO 19 (by decide) (by decide) (by decide+kernel)
theorem ao2:gf 569003 2:=aX (f:=20) (l:= [2,7,97,419]) (by simp only[List.mem_cons,List.not_mem_nil,or_false];rintro q (rfl|rfl|rfl|rfl)<;>first|exact p2|exact p7|exact p97|exact aH0) (by decide+kernel)
theorem ao3:aI 569003:=ao2.dW
theorem JR:gf 2773320623 5:=aX (f:=32) (l:= [2,2437,569003]) (by simp only[List.mem_cons,List.not_mem_nil,or_false];rintro q (rfl|rfl|rfl)<;>first|exact p2|exact aDo|exact ao3) (by decide+kernel)
theorem JS:aI 2773320623:=JR.dW
theorem E8:gf 72106336199 7:=aX (f:=37) (l:= [2,13,2773320623]) (by simp only[List.mem_cons,List.not_mem_nil,or_false];rintro q (rfl|rfl|rfl)<;>first|exact p2|exact p13|exact JS) (by decide+kernel)
theorem E9:aI 72106336199:=E8.dW
theorem p19:aI 19:=aO 3 (by decide) (by decide) (by decide+kernel)
theorem p47:aI 47:=aO 5 (by decide) (by decide) (by decide+kernel)
theorem aH1:aI 127:=aO 10 (by decide) (by decide) (by decide+kernel)
theorem aH2:aI 103:=aO 9 (by decide) (by decide) (by decide+kernel)
theorem aH3:aI 991:=aO 30 (by decide) (by decide) (by decide+kernel)
theorem ahF:gf 8574133 2:=aX (f:=24) (l:= [2,2,3,7,103,991]) (by simp only[List.mem_cons,List.not_mem_nil,or_false];rintro q (rfl|rfl|rfl|rfl|rfl|rfl)<;>first|exact p2|exact p3|exact p7|exact aH2|exact aH3) (by decide+kernel)
theorem ahG:aI 8574133:=ahF.dW
theorem tY:gf 1919519569386763 2:=aX (f:=51) (l:= [2,3,7,19,47,47,127,8574133]) (by simp only[List.mem_cons,List.not_mem_nil,or_false];rintro q (rfl|rfl|rfl|rfl|rfl|rfl|rfl|rfl)<;>first|exact p2|exact p3|exact p7|exact p19|exact p47|exact aH1|exact ahG) (by decide+kernel)
theorem tZ:aI 1919519569386763:=tY.dW
theorem gM:gf 75445702479781427272750846543864801 7:=aX (f:=116) (l:= [2,2,2,2,2,3,3,5,5,75707,72106336199,1919519569386763]) (by simp only[List.mem_cons,List.not_mem_nil,or_false];rintro q (rfl|rfl|rfl|rfl|rfl|rfl|rfl|rfl|rfl|rfl|rfl|rfl)<;>first|exact p2|exact p3|exact p5|exact axW|exact E9|exact tZ) (by decide+kernel)
theorem gN:aI 75445702479781427272750846543864801:=gM.dW
theorem cJ:gf 74058212732561358302231226437062788676166966415465897661863160754340907 2:=aX (f:=236) (l:= [2,3,353,57467,132049,1923133,31757755568855353,75445702479781427272750846543864801]) (by simp only[List.mem_cons,List.not_mem_nil,or_false];rintro q (rfl|rfl|rfl|rfl|rfl|rfl|rfl|rfl)<;>first|exact p2|exact p3|exact aHW|exact axV|exact aoZ|exact ahE|exact rX|exact gN) (by decide+kernel)
theorem cK:aI 74058212732561358302231226437062788676166966415465897661863160754340907:=cJ.dW
theorem bF:gf 57896044618658097711785492504343953926634992332820282019728792003956564819949 2:=aX (f:=255) (l:= [2,2,3,65147,74058212732561358302231226437062788676166966415465897661863160754340907]) (by simp only[List.mem_cons,List.not_mem_nil,or_false];rintro q (rfl|rfl|rfl|rfl|rfl)<;>first|exact p2|exact p3|exact axU|exact cK) (by decide+kernel)
theorem cu:aI 57896044618658097711785492504343953926634992332820282019728792003956564819949:=bF.dW
theorem p11:aI 11:=aO 2 (by decide) (by decide) (by decide+kernel)
theorem p23:aI 23:=aO 3 (by decide) (by decide) (by decide+kernel)
theorem axX:aI 34123:=aO 183 (by decide) (by decide) (by decide+kernel)
theorem ao4:gf 409477 2:=aX (f:=19) (l:= [2,2,3,34123]) (by simp only[List.mem_cons,List.not_mem_nil,or_false];rintro q (rfl|rfl|rfl|rfl)<;>first|exact p2|exact p3|exact axX) (by decide+kernel)
theorem ao5:aI 409477:=ao4.dW
theorem Xr:gf 14741173 2:=aX (f:=24) (l:= [2,2,3,3,409477]) (by simp only[List.mem_cons,List.not_mem_nil,or_false];rintro q (rfl|rfl|rfl|rfl|rfl)<;>first|exact p2|exact p3|exact ao5) (by decide+kernel)
theorem Xs:aI 14741173:=Xr.dW
theorem Xt:gf 58964693 2:=aX (f:=26) (l:= [2,2,14741173]) (by simp only[List.mem_cons,List.not_mem_nil,or_false];rintro q (rfl|rfl|rfl)<;>first|exact p2|exact Xs) (by decide+kernel)
theorem Xu:aI 58964693:=Xt.dW
theorem axY:aI 30703:=aO 174 (by decide) (by decide) (by decide+kernel)
theorem axZ:aI 82163:=aO 285 (by decide) (by decide) (by decide+kernel)
theorem ax0:aI 22111:=aO 147 (by decide) (by decide) (by decide+kernel)
theorem ao6:gf 132667 5:=aX (f:=18) (l:= [2,3,22111]) (by simp only[List.mem_cons,List.not_mem_nil,or_false];rintro q (rfl|rfl|rfl)<;>first|exact p2|exact p3|exact ax0) (by decide+kernel)
theorem ao7:aI 132667:=ao6.dW
theorem ax1:aI 17231:=aO 130 (by decide) (by decide) (by decide+kernel)
theorem ao8:gf 137849 3:=aX (f:=18) (l:= [2,2,2,17231]) (by simp only[List.mem_cons,List.not_mem_nil,or_false];rintro q (rfl|rfl|rfl|rfl)<;>first|exact p2|exact ax1) (by decide+kernel)
theorem ao9:aI 137849:=ao8.dW
theorem mX:gf 3044861653679985063343 5:=aX (f:=72) (l:= [2,3,11,30703,82163,132667,137849]) (by simp only[List.mem_cons,List.not_mem_nil,or_false];rintro q (rfl|rfl|rfl|rfl|rfl|rfl|rfl)<;>first|exact p2|exact p3|exact p11|exact axY|exact axZ|exact ao7|exact ao9) (by decide+kernel)
theorem mY:aI 3044861653679985063343:=mX.dW
theorem hY:gf 198211423230930754013084525763697 5:=aX (f:=108) (l:= [2,2,2,2,3,23,58964693,3044861653679985063343]) (by simp only[List.mem_cons,List.not_mem_nil,or_false];rintro q (rfl|rfl|rfl|rfl|rfl|rfl|rfl|rfl)<;>first|exact p2|exact p3|exact p23|exact Xu|exact mY) (by decide+kernel)
theorem hZ:aI 198211423230930754013084525763697:=hY.dW
theorem aH4:aI 269:=aO 15 (by decide) (by decide) (by decide+kernel)
theorem p73:aI 73:=aO 7 (by decide) (by decide) (by decide+kernel)
theorem aH5:aI 307:=aO 16 (by decide) (by decide) (by decide+kernel)
theorem aDr:aI 5879:=aO 75 (by decide) (by decide) (by decide+kernel)
theorem OV:gf 292386187 2:=aX (f:=29) (l:= [2,3,3,3,3,307,5879]) (by simp only[List.mem_cons,List.not_mem_nil,or_false];rintro q (rfl|rfl|rfl|rfl|rfl|rfl|rfl)<;>first|exact p2|exact p3|exact aH5|exact aDr) (by decide+kernel)
theorem OW:aI 292386187:=OV.dW
theorem Bn:gf 213441916511 13:=aX (f:=38) (l:= [2,5,73,292386187]) (by simp only[List.mem_cons,List.not_mem_nil,or_false];rintro q (rfl|rfl|rfl|rfl)<;>first|exact p2|exact p5|exact p73|exact OW) (by decide+kernel)
theorem Bo:aI 213441916511:=Bn.dW
theorem aDs:aI 1361:=aO 35 (by decide) (by decide) (by decide+kernel)
theorem aDt:aI 2851:=aO 52 (by decide) (by decide) (by decide+kernel)
theorem p41:aI 41:=aO 5 (by decide) (by decide) (by decide+kernel)
theorem aDu:aI 3797:=aO 60 (by decide) (by decide) (by decide+kernel)
theorem apa:gf 531581 2:=aX (f:=20) (l:= [2,2,5,7,3797]) (by simp only[List.mem_cons,List.not_mem_nil,or_false];rintro q (rfl|rfl|rfl|rfl|rfl)<;>first|exact p2|exact p5|exact p7|exact aDu) (by decide+kernel)
theorem apb:aI 531581:=apa.dW
theorem aDv:aI 2551:=aO 49 (by decide) (by decide) (by decide+kernel)
theorem ahH:gf 1224481 13:=aX (f:=21) (l:= [2,2,2,2,2,3,5,2551]) (by simp only[List.mem_cons,List.not_mem_nil,or_false];rintro q (rfl|rfl|rfl|rfl|rfl|rfl|rfl|rfl)<;>first|exact p2|exact p3|exact p5|exact aDv) (by decide+kernel)
theorem ahI:aI 1224481:=ahH.dW
theorem ua:gf 1257559732178653 2:=aX (f:=51) (l:= [2,2,3,7,23,531581,1224481]) (by simp only[List.mem_cons,List.not_mem_nil,or_false];rintro q (rfl|rfl|rfl|rfl|rfl|rfl|rfl)<;>first|exact p2|exact p3|exact p7|exact p23|exact apb|exact ahI) (by decide+kernel)
theorem ub:aI 1257559732178653:=ua.dW
theorem pd:gf 4434155615661930479 17:=aX (f:=62) (l:= [2,41,43,1257559732178653]) (by simp only[List.mem_cons,List.not_mem_nil,or_false];rintro q (rfl|rfl|rfl|rfl)<;>first|exact p2|exact p41|exact p43|exact ub) (by decide+kernel)
theorem pe:aI 4434155615661930479:=pd.dW
theorem ke:gf 172054593956031949258510691 2:=aX (f:=88) (l:= [2,5,1361,2851,4434155615661930479]) (by simp only[List.mem_cons,List.not_mem_nil,or_false];rintro q (rfl|rfl|rfl|rfl|rfl)<;>first|exact p2|exact p5|exact aDs|exact aDt|exact pe) (by decide+kernel)
theorem kf:aI 172054593956031949258510691:=ke.dW
theorem fH:gf 19757330305831588566944191468367130476339 2:=aX (f:=134) (l:= [2,269,213441916511,172054593956031949258510691]) (by simp only[List.mem_cons,List.not_mem_nil,or_false];rintro q (rfl|rfl|rfl|rfl)<;>first|exact p2|exact aH4|exact Bo|exact kf) (by decide+kernel)
theorem fI:aI 19757330305831588566944191468367130476339:=fH.dW
theorem fh:gf 276602624281642239937218680557139826668747 2:=aX (f:=138) (l:= [2,7,19757330305831588566944191468367130476339]) (by simp only[List.mem_cons,List.not_mem_nil,or_false];rintro q (rfl|rfl|rfl)<;>first|exact p2|exact p7|exact fI) (by decide+kernel)
theorem fk:aI 276602624281642239937218680557139826668747:=fh.dW
theorem cy:gf 7237005577332262213973186563042994240857116359379907606001950938285454250989 2:=aX (f:=253) (l:= [2,2,3,11,198211423230930754013084525763697,276602624281642239937218680557139826668747]) (by simp only[List.mem_cons,List.not_mem_nil,or_false];rintro q (rfl|rfl|rfl|rfl|rfl|rfl)<;>first|exact p2|exact p3|exact p11|exact hZ|exact fk) (by decide+kernel)
abbrev pp:Nat:=57896044618658097711785492504343953926634992332820282019728792003956564819949
abbrev F:=Fin pp
instance:NeZero pp:=⟨by decide⟩
theorem ahJ:aI pp:=cu
theorem F.mul_eq_zero{a b:F}(h:a*b=0):a=0∨b=0:=by
 have h1:(a.val*b.val)%pp=0:=by
  have:=congrArg Fin.val h;rwa [Fin.val_mul]at this
 rcases ahJ.dvd_mul (Nat.dvd_of_mod_eq_zero h1)with h2|h2
 ·exact .inl (Fin.ext (Nat.eq_zero_of_dvd_of_lt h2 a.isLt))
 ·exact .inr (Fin.ext (Nat.eq_zero_of_dvd_of_lt h2 b.isLt))
theorem F.mz(a:F):a*0=0:=by grobner
theorem F.az:(0:F)+0=0:=by grobner
theorem F.fJ{a b:F}(ha:a≠0)(hb:b≠0):a*b≠0:=fun h=>
 (F.mul_eq_zero h).elim ha hb
theorem F.cancel{a b c:F}(hc:c≠0)(h:a*c=b*c):a=b:=by
 have:(a-b)*c=0:=by grobner
 rcases F.mul_eq_zero this with h1|h1
 ·grobner
 ·exact absurd h1 hc
def F.pow(a:F)(n:Nat):F:=⟨a.val ^ n%pp,Nat.mod_lt _ (by decide)⟩
theorem F.pow_zero(a:F):F.pow a 0=1:=by
 apply Fin.ext;simp[F.pow]
theorem F.pow_succ(a:F)(n:Nat):F.pow a (n+1)=F.pow a n*a:=by
 apply Fin.ext
 simp only[F.pow,Fin.val_mul,Nat.pow_succ];rw[Nat.mul_mod,Nat.mod_eq_of_lt a.isLt]
def F.inv(a:F):F:=F.pow a (pp-2)
theorem F.OX{a:F}(h:a≠0):a.val%pp≠0:=by
 rw[Nat.mod_eq_of_lt a.isLt];intro e;exact h (Fin.ext e)
theorem Fa:gf pp 2:=bF
theorem F.inv_mul{a:F}(h:a≠0):a*F.inv a=1:=by
 have hf:=Fa.vV (F.OX h)
 apply Fin.ext
 show(a.val*(a.val ^ (pp-2)%pp))%pp=1%pp;rw[Nat.mul_mod,Nat.mod_mod,← Nat.mul_mod,Nat.mul_comm,← Nat.pow_succ];rw[show Nat.succ (pp-2)=pp-1 from by decide,hf];decide
def dd:F:=37095705934669439343138083508754565189542113879843219016388785533085940283555
def ii:F:=19681161376707505956807079304988542015446066515923890162744021073123829784752
theorem aul:ii*ii= -1:=by decide+kernel
theorem aDw:dd≠0:=by decide+kernel
theorem uc(s:F):s*s≠dd:=by
 intro h
 have hs:s≠0:=by
  rintro rfl
  exact aDw (by rw[← h];decide+kernel)
 have hf:=Fa.vV (F.OX hs)
 have h1:(s.val*s.val)%pp=dd.val:=by
  have:=congrArg Fin.val h;rwa [Fin.val_mul]at this
 have h2:dd.val ^ ((pp-1)/2)%pp=1:=by
  rw[← h1,← Nat.pow_mod,← Nat.pow_two,← Nat.pow_mul];rw[show 2*((pp-1)/2)=pp-1 from by decide];exact hf
 rw[← TI pp 255 _ _ (by decide+kernel)]at h2
 revert h2
 decide+kernel
theorem ahK:(2:F)≠0:=by decide+kernel
def sA(x y:F):Prop:=y*y-x*x=1+dd*(x*x)*(y*y)
theorem sA.zero{x y:F}(h:sA x y):y*y-x*x-(1+dd*(x*x)*(y*y))=0:=by unfold sA at h;grobner
theorem aum{x1 y1 x2 y2 e:F}(h1:sA x1 y1)(h2:sA x2 y2)(he:e*e=1):dd*x1*x2*y1*y2≠e:=by
 intro hd;unfold sA at h1 h2;have e0:e≠0:=by rintro rfl;revert he;decide+kernel
 have L7:x1≠0:=by rintro rfl;apply e0;rw[← hd];grobner
 have Mo:y1≠0:=by rintro rfl;apply e0;rw[← hd];grobner
 have Rc:y2≠0:=by rintro rfl;apply e0;rw[← hd];grobner
 have hi:=aul;have k1:dd*((x1*y1*(y2+ii*x2))*(x1*y1*(y2+ii*x2)))=(y1+e*ii*x1)*(y1+e*ii*x1):=by grobner
 have k2:dd*((x1*y1*(y2-ii*x2))*(x1*y1*(y2-ii*x2)))=(y1-e*ii*x1)*(y1-e*ii*x1):=by grobner
 have sq:∀t u:F,dd*(t*t)=u*u→t=0:=by
  intro t u h;refine Classical.byContradiction fun ht=>?_
  apply uc (u*F.inv t)
  have hv:=F.inv_mul ht;have:u*F.inv t*(u*F.inv t)=(u*u)*(F.inv t*F.inv t):=by grobner
  rw[this,← h];have:dd*(t*t)*(F.inv t*F.inv t)=dd*((t*F.inv t)*(t*F.inv t)):=by grobner
  rw[this,hv];grobner
 have z1:=sq _ _ k1;have z2:=sq _ _ k2;have hxy:=F.fJ L7 Mo;have w1:y2+ii*x2=0:=(F.mul_eq_zero z1).resolve_left hxy;have w2:y2-ii*x2=0:=(F.mul_eq_zero z2).resolve_left hxy;have:(2:F)*y2=0:=by grobner
 exact Rc ((F.mul_eq_zero this).resolve_left ahK)
theorem gx{x1 y1 x2 y2:F}(h1:sA x1 y1)(h2:sA x2 y2):1+dd*x1*x2*y1*y2≠0:=by
 intro h;exact aum h1 h2 (e:= -1) (by decide+kernel) (by grobner)
theorem ft{x1 y1 x2 y2:F}(h1:sA x1 y1)(h2:sA x2 y2):1-dd*x1*x2*y1*y2≠0:=by
 intro h;exact aum h1 h2 (e:=1) (by decide+kernel) (by grobner)
structure Pt where
 x:F
 y:F
 on:sA x y
theorem Pt.ext'{p q:Pt}(hx:p.x=q.x)(hy:p.y=q.y):p=q:=by
 cases p;cases q;simp at hx hy;subst hx hy;rfl
def jC(x1 y1 x2 y2:F):F:=(x1*y2+y1*x2)*F.inv (1+dd*x1*x2*y1*y2)
def jD(x1 y1 x2 y2:F):F:=(y1*y2+x1*x2)*F.inv (1-dd*x1*x2*y1*y2)
theorem j0{x1 y1 x2 y2:F}(h1:sA x1 y1)(h2:sA x2 y2):jC x1 y1 x2 y2*(1+dd*x1*x2*y1*y2)=x1*y2+y1*x2:=by
 have:=F.inv_mul (gx h1 h2);unfold jC;generalize F.inv (1+dd*x1*x2*y1*y2)=v at*
 grobner
theorem j3{x1 y1 x2 y2:F}(h1:sA x1 y1)(h2:sA x2 y2):jD x1 y1 x2 y2*(1-dd*x1*x2*y1*y2)=y1*y2+x1*x2:=by
 have:=F.inv_mul (ft h1 h2);unfold jD;generalize F.inv (1-dd*x1*x2*y1*y2)=v at*
 grobner
theorem OY(d x1 y1 x2 y2:F):((y1*y2+x1*x2)*(y1*y2+x1*x2))*((1+d*x1*x2*y1*y2)*(1+d*x1*x2*y1*y2))-((x1*y2+y1*x2)*(x1*y2+y1*x2))*((1-d*x1*x2*y1*y2)*(1-d*x1*x2*y1*y2))-((1+d*x1*x2*y1*y2)*(1+d*x1*x2*y1*y2))*((1-d*x1*x2*y1*y2)*(1-d*x1*x2*y1*y2))-d*((x1*y2+y1*x2)*(x1*y2+y1*x2))*((y1*y2+x1*x2)*(y1*y2+x1*x2))=(y2*y2*y2*y2-4*x2*x2*y2*y2-2*x2*x2*y2*y2*d+2*x2*x2*y2*y2*y2*y2+x2*x2*x2*x2-2*x2*x2*x2*x2*y2*y2-2*x2*x2*x2*x2*y2*y2*y2*y2*d-x2*x2*x2*x2*y2*y2*y2*y2*d*d-y1*y1*x2*x2*y2*y2*y2*y2*d+y1*y1*x2*x2*x2*x2*y2*y2*d+y1*y1*x2*x2*x2*x2*y2*y2*y2*y2*d*d+x1*x1*x2*x2*y2*y2*y2*y2*d-x1*x1*x2*x2*x2*x2*y2*y2*d-x1*x1*x2*x2*x2*x2*y2*y2*y2*y2*d*d+x1*x1*y1*y1*x2*x2*x2*x2*y2*y2*y2*y2*d*d*d)*(y1*y1-x1*x1-(1+d*(x1*x1)*(y1*y1)))+(1+y2*y2-x2*x2+2*x2*x2*y2*y2+x2*x2*y2*y2*d-y1*y1*y2*y2+y1*y1*x2*x2-2*y1*y1*x2*x2*y2*y2-2*y1*y1*x2*x2*y2*y2*d+y1*y1*y1*y1*x2*x2*y2*y2*d+x1*x1*y2*y2-x1*x1*x2*x2+2*x1*x1*x2*x2*y2*y2+2*x1*x1*x2*x2*y2*y2*d+x1*x1*x1*x1*x2*x2*y2*y2*d)*(y2*y2-x2*x2-(1+d*(x2*x2)*(y2*y2))):=by grobner
theorem OZ(d x1 y1 x2 y2 x3 y3:F):((x1*y2+y1*x2)*(1-d*x1*x2*y1*y2)*y3+(y1*y2+x1*x2)*(1+d*x1*x2*y1*y2)*x3)*((1+d*x2*x3*y2*y3)*(1-d*x2*x3*y2*y3)+d*x1*y1*(x2*y3+y2*x3)*(y2*y3+x2*x3))-(x1*(y2*y3+x2*x3)*(1+d*x2*x3*y2*y3)+y1*(x2*y3+y2*x3)*(1-d*x2*x3*y2*y3))*((1+d*x1*x2*y1*y2)*(1-d*x1*x2*y1*y2)+d*(x1*y2+y1*x2)*(y1*y2+x1*x2)*x3*y3)=(-y1*x2*y2*y2*y2*y2*x3*x3*y3*d-y1*x2*x2*y2*y2*y2*x3*d-y1*x2*x2*y2*y2*y2*x3*x3*x3*d-y1*x2*x2*x2*y2*y2*y3*d+y1*x2*x2*x2*y2*y2*y3*y3*y3*d+y1*x2*x2*x2*y2*y2*y2*y2*x3*x3*y3*d*d+y1*x2*x2*x2*x2*y2*x3*y3*y3*d+y1*x2*x2*x2*x2*y2*y2*y2*x3*y3*y3*d*d+x1*x2*y2*y2*y2*y2*x3*y3*y3*d-x1*x2*x2*y2*y2*y2*y3*d+x1*x2*x2*y2*y2*y2*y3*y3*y3*d-x1*x2*x2*x2*y2*y2*x3*d-x1*x2*x2*x2*y2*y2*x3*x3*x3*d-x1*x2*x2*x2*y2*y2*y2*y2*x3*y3*y3*d*d-x1*x2*x2*x2*x2*y2*x3*x3*y3*d-x1*x2*x2*x2*x2*y2*y2*y2*x3*x3*y3*d*d)*(y1*y1-x1*x1-(1+d*(x1*x1)*(y1*y1)))+(y1*y2*x3-y1*y2*x3*y3*y3+y1*y2*x3*x3*x3+y1*y2*x3*x3*x3*y3*y3*d+y1*x2*y3-y1*x2*y3*y3*y3+y1*x2*x3*x3*y3+y1*x2*x3*x3*y3*y3*y3*d-y1*x2*y2*y2*x3*x3*y3*d-y1*x2*x2*y2*x3*y3*y3*d-y1*y1*y1*y2*x3+y1*y1*y1*y2*x3*y3*y3-y1*y1*y1*y2*x3*x3*x3-y1*y1*y1*y2*x3*x3*x3*y3*y3*d-y1*y1*y1*x2*y3+y1*y1*y1*x2*y3*y3*y3-y1*y1*y1*x2*x3*x3*y3-y1*y1*y1*x2*x3*x3*y3*y3*y3*d+y1*y1*y1*x2*y2*y2*x3*x3*y3*d+y1*y1*y1*x2*x2*y2*x3*y3*y3*d+x1*y2*y3-x1*y2*y3*y3*y3+x1*y2*x3*x3*y3+x1*y2*x3*x3*y3*y3*y3*d+x1*x2*x3-x1*x2*x3*y3*y3+x1*x2*x3*x3*x3+x1*x2*x3*x3*x3*y3*y3*d+x1*x2*y2*y2*x3*y3*y3*d+x1*x2*x2*y2*x3*x3*y3*d-x1*y1*y1*y2*y3+x1*y1*y1*y2*y3*y3*y3-x1*y1*y1*y2*x3*x3*y3-x1*y1*y1*y2*x3*x3*y3*y3*y3*d-x1*y1*y1*x2*x3+x1*y1*y1*x2*x3*y3*y3-x1*y1*y1*x2*x3*x3*x3-x1*y1*y1*x2*x3*x3*x3*y3*y3*d-x1*y1*y1*x2*y2*y2*x3*y3*y3*d+x1*y1*y1*x2*y2*y2*x3*x3*x3*y3*y3*d*d-x1*y1*y1*x2*x2*y2*x3*x3*y3*d-x1*y1*y1*x2*x2*y2*x3*x3*y3*y3*y3*d*d+x1*x1*y1*y2*x3-x1*x1*y1*y2*x3*y3*y3+x1*x1*y1*y2*x3*x3*x3+x1*x1*y1*y2*x3*x3*x3*y3*y3*d+x1*x1*y1*x2*y3-x1*x1*y1*x2*y3*y3*y3+x1*x1*y1*x2*x3*x3*y3+x1*x1*y1*x2*x3*x3*y3*y3*y3*d-x1*x1*y1*x2*y2*y2*x3*x3*y3*d-x1*x1*y1*x2*y2*y2*x3*x3*y3*y3*y3*d*d-x1*x1*y1*x2*x2*y2*x3*y3*y3*d+x1*x1*y1*x2*x2*y2*x3*x3*x3*y3*y3*d*d+x1*x1*x1*y2*y3-x1*x1*x1*y2*y3*y3*y3+x1*x1*x1*y2*x3*x3*y3+x1*x1*x1*y2*x3*x3*y3*y3*y3*d+x1*x1*x1*x2*x3-x1*x1*x1*x2*x3*y3*y3+x1*x1*x1*x2*x3*x3*x3+x1*x1*x1*x2*x3*x3*x3*y3*y3*d+x1*x1*x1*x2*y2*y2*x3*y3*y3*d+x1*x1*x1*x2*x2*y2*x3*x3*y3*d)*(y2*y2-x2*x2-(1+d*(x2*x2)*(y2*y2)))+(-y1*y2*x3+y1*y2*y2*y2*x3-y1*x2*y3+y1*x2*y2*y2*y3-y1*x2*x2*y2*x3-y1*x2*x2*x2*y3+y1*y1*y1*y2*x3-y1*y1*y1*y2*y2*y2*x3+y1*y1*y1*x2*y3-y1*y1*y1*x2*y2*y2*y3+y1*y1*y1*x2*x2*y2*x3+y1*y1*y1*x2*x2*x2*y3-x1*y2*y3+x1*y2*y2*y2*y3-x1*x2*x3+x1*x2*y2*y2*x3-x1*x2*x2*y2*y3-x1*x2*x2*x2*x3+x1*y1*y1*y2*y3-x1*y1*y1*y2*y2*y2*y3+x1*y1*y1*x2*x3-x1*y1*y1*x2*y2*y2*x3-x1*y1*y1*x2*y2*y2*x3*d+x1*y1*y1*x2*x2*y2*y3+x1*y1*y1*x2*x2*y2*y3*d+x1*y1*y1*x2*x2*x2*x3-x1*x1*y1*y2*x3+x1*x1*y1*y2*y2*y2*x3-x1*x1*y1*x2*y3+x1*x1*y1*x2*y2*y2*y3+x1*x1*y1*x2*y2*y2*y3*d-x1*x1*y1*x2*x2*y2*x3-x1*x1*y1*x2*x2*y2*x3*d-x1*x1*y1*x2*x2*x2*y3-x1*x1*x1*y2*y3+x1*x1*x1*y2*y2*y2*y3-x1*x1*x1*x2*x3+x1*x1*x1*x2*y2*y2*x3-x1*x1*x1*x2*x2*y2*y3-x1*x1*x1*x2*x2*x2*x3)*(y3*y3-x3*x3-(1+d*(x3*x3)*(y3*y3))):=by grobner
theorem O0(d x1 y1 x2 y2 x3 y3:F):((y1*y2+x1*x2)*(1+d*x1*x2*y1*y2)*y3+(x1*y2+y1*x2)*(1-d*x1*x2*y1*y2)*x3)*((1+d*x2*x3*y2*y3)*(1-d*x2*x3*y2*y3)-d*x1*y1*(x2*y3+y2*x3)*(y2*y3+x2*x3))-(y1*(y2*y3+x2*x3)*(1+d*x2*x3*y2*y3)+x1*(x2*y3+y2*x3)*(1-d*x2*x3*y2*y3))*((1+d*x1*x2*y1*y2)*(1-d*x1*x2*y1*y2)-d*(x1*y2+y1*x2)*(y1*y2+x1*x2)*x3*y3)=(y1*x2*y2*y2*y2*y2*x3*y3*y3*d-y1*x2*x2*y2*y2*y2*y3*d+y1*x2*x2*y2*y2*y2*y3*y3*y3*d-y1*x2*x2*x2*y2*y2*x3*d-y1*x2*x2*x2*y2*y2*x3*x3*x3*d-y1*x2*x2*x2*y2*y2*y2*y2*x3*y3*y3*d*d-y1*x2*x2*x2*x2*y2*x3*x3*y3*d-y1*x2*x2*x2*x2*y2*y2*y2*x3*x3*y3*d*d-x1*x2*y2*y2*y2*y2*x3*x3*y3*d-x1*x2*x2*y2*y2*y2*x3*d-x1*x2*x2*y2*y2*y2*x3*x3*x3*d-x1*x2*x2*x2*y2*y2*y3*d+x1*x2*x2*x2*y2*y2*y3*y3*y3*d+x1*x2*x2*x2*y2*y2*y2*y2*x3*x3*y3*d*d+x1*x2*x2*x2*x2*y2*x3*y3*y3*d+x1*x2*x2*x2*x2*y2*y2*y2*x3*y3*y3*d*d)*(y1*y1-x1*x1-(1+d*(x1*x1)*(y1*y1)))+(y1*y2*y3-y1*y2*y3*y3*y3+y1*y2*x3*x3*y3+y1*y2*x3*x3*y3*y3*y3*d+y1*x2*x3-y1*x2*x3*y3*y3+y1*x2*x3*x3*x3+y1*x2*x3*x3*x3*y3*y3*d+y1*x2*y2*y2*x3*y3*y3*d+y1*x2*x2*y2*x3*x3*y3*d-y1*y1*y1*y2*y3+y1*y1*y1*y2*y3*y3*y3-y1*y1*y1*y2*x3*x3*y3-y1*y1*y1*y2*x3*x3*y3*y3*y3*d-y1*y1*y1*x2*x3+y1*y1*y1*x2*x3*y3*y3-y1*y1*y1*x2*x3*x3*x3-y1*y1*y1*x2*x3*x3*x3*y3*y3*d-y1*y1*y1*x2*y2*y2*x3*y3*y3*d-y1*y1*y1*x2*x2*y2*x3*x3*y3*d+x1*y2*x3-x1*y2*x3*y3*y3+x1*y2*x3*x3*x3+x1*y2*x3*x3*x3*y3*y3*d+x1*x2*y3-x1*x2*y3*y3*y3+x1*x2*x3*x3*y3+x1*x2*x3*x3*y3*y3*y3*d-x1*x2*y2*y2*x3*x3*y3*d-x1*x2*x2*y2*x3*y3*y3*d-x1*y1*y1*y2*x3+x1*y1*y1*y2*x3*y3*y3-x1*y1*y1*y2*x3*x3*x3-x1*y1*y1*y2*x3*x3*x3*y3*y3*d-x1*y1*y1*x2*y3+x1*y1*y1*x2*y3*y3*y3-x1*y1*y1*x2*x3*x3*y3-x1*y1*y1*x2*x3*x3*y3*y3*y3*d+x1*y1*y1*x2*y2*y2*x3*x3*y3*d+x1*y1*y1*x2*y2*y2*x3*x3*y3*y3*y3*d*d+x1*y1*y1*x2*x2*y2*x3*y3*y3*d-x1*y1*y1*x2*x2*y2*x3*x3*x3*y3*y3*d*d+x1*x1*y1*y2*y3-x1*x1*y1*y2*y3*y3*y3+x1*x1*y1*y2*x3*x3*y3+x1*x1*y1*y2*x3*x3*y3*y3*y3*d+x1*x1*y1*x2*x3-x1*x1*y1*x2*x3*y3*y3+x1*x1*y1*x2*x3*x3*x3+x1*x1*y1*x2*x3*x3*x3*y3*y3*d+x1*x1*y1*x2*y2*y2*x3*y3*y3*d-x1*x1*y1*x2*y2*y2*x3*x3*x3*y3*y3*d*d+x1*x1*y1*x2*x2*y2*x3*x3*y3*d+x1*x1*y1*x2*x2*y2*x3*x3*y3*y3*y3*d*d+x1*x1*x1*y2*x3-x1*x1*x1*y2*x3*y3*y3+x1*x1*x1*y2*x3*x3*x3+x1*x1*x1*y2*x3*x3*x3*y3*y3*d+x1*x1*x1*x2*y3-x1*x1*x1*x2*y3*y3*y3+x1*x1*x1*x2*x3*x3*y3+x1*x1*x1*x2*x3*x3*y3*y3*y3*d-x1*x1*x1*x2*y2*y2*x3*x3*y3*d-x1*x1*x1*x2*x2*y2*x3*y3*y3*d)*(y2*y2-x2*x2-(1+d*(x2*x2)*(y2*y2)))+(-y1*y2*y3+y1*y2*y2*y2*y3-y1*x2*x3+y1*x2*y2*y2*x3-y1*x2*x2*y2*y3-y1*x2*x2*x2*x3+y1*y1*y1*y2*y3-y1*y1*y1*y2*y2*y2*y3+y1*y1*y1*x2*x3-y1*y1*y1*x2*y2*y2*x3+y1*y1*y1*x2*x2*y2*y3+y1*y1*y1*x2*x2*x2*x3-x1*y2*x3+x1*y2*y2*y2*x3-x1*x2*y3+x1*x2*y2*y2*y3-x1*x2*x2*y2*x3-x1*x2*x2*x2*y3+x1*y1*y1*y2*x3-x1*y1*y1*y2*y2*y2*x3+x1*y1*y1*x2*y3-x1*y1*y1*x2*y2*y2*y3-x1*y1*y1*x2*y2*y2*y3*d+x1*y1*y1*x2*x2*y2*x3+x1*y1*y1*x2*x2*y2*x3*d+x1*y1*y1*x2*x2*x2*y3-x1*x1*y1*y2*y3+x1*x1*y1*y2*y2*y2*y3-x1*x1*y1*x2*x3+x1*x1*y1*x2*y2*y2*x3+x1*x1*y1*x2*y2*y2*x3*d-x1*x1*y1*x2*x2*y2*y3-x1*x1*y1*x2*x2*y2*y3*d-x1*x1*y1*x2*x2*x2*x3-x1*x1*x1*y2*x3+x1*x1*x1*y2*y2*y2*x3-x1*x1*x1*x2*y3+x1*x1*x1*x2*y2*y2*y3-x1*x1*x1*x2*x2*y2*x3-x1*x1*x1*x2*x2*x2*y3)*(y3*y3-x3*x3-(1+d*(x3*x3)*(y3*y3))):=by grobner
theorem O1{x1 y1 x2 y2:F}(h1:sA x1 y1)(h2:sA x2 y2):sA (jC x1 y1 x2 y2) (jD x1 y1 x2 y2):=by
 have a:=j0 h1 h2;have b:=j3 h1 h2;have p:=gx h1 h2;have q:=ft h1 h2;have c:=OY dd x1 y1 x2 y2;have z1:=h1.zero;have z2:=h2.zero;rw[z1,z2,F.mz,F.mz,F.az]at c;unfold sA;generalize jC x1 y1 x2 y2=X at*;generalize jD x1 y1 x2 y2=Y at*;rw[← a,← b]at c;generalize 1+dd*x1*x2*y1*y2=D at*;generalize 1-dd*x1*x2*y1*y2=E at*;clear a b z1 z2 h1 h2;have k:(Y*Y-X*X-(1+dd*(X*X)*(Y*Y)))*((D*D)*(E*E))=0:=by grobner
 rcases F.mul_eq_zero k with k|k
 ·grobner
 ·exact absurd k (F.fJ (F.fJ p p) (F.fJ q q))
def Pt.add(p q:Pt):Pt:=⟨jC p.x p.y q.x q.y,jD p.x p.y q.x q.y,O1 p.on q.on⟩
def Pt.zero:Pt:=⟨0,1,by unfold sA;grobner⟩
def Pt.neg(p:Pt):Pt:=⟨-p.x,p.y,by have:=p.on;unfold sA at*;grobner⟩
theorem Pt.add_comm(p q:Pt):p.add q=q.add p:=by
 apply Pt.ext'
 ·show jC _ _ _ _=jC _ _ _ _;unfold jC;rw[show p.x*q.y+p.y*q.x=q.x*p.y+q.y*p.x from by grobner,show 1+dd*p.x*q.x*p.y*q.y=1+dd*q.x*p.x*q.y*p.y from by grobner]
 ·show jD _ _ _ _=jD _ _ _ _;unfold jD;rw[show p.y*q.y+p.x*q.x=q.y*p.y+q.x*p.x from by grobner,show 1-dd*p.x*q.x*p.y*q.y=1-dd*q.x*p.x*q.y*p.y from by grobner]
theorem Pt.add_zero(p:Pt):p.add Pt.zero=p:=by
 have h1:=j0 p.on Pt.zero.on;have h2:=j3 p.on Pt.zero.on
 apply Pt.ext'
 ·show jC p.x p.y 0 1=p.x;have e:jC p.x p.y 0 1*(1+dd*p.x*0*p.y*1)=p.x*1+p.y*0:=h1
  grobner
 ·show jD p.x p.y 0 1=p.y;have e:jD p.x p.y 0 1*(1-dd*p.x*0*p.y*1)=p.y*1+p.x*0:=h2
  grobner
theorem Pt.add_neg(p:Pt):p.add p.neg=Pt.zero:=by
 have h1:=j0 p.on p.neg.on;have h2:=j3 p.on p.neg.on;have d1:=gx p.on p.neg.on;have d2:=ft p.on p.neg.on;have ho:=p.on;unfold sA at ho;simp only[Pt.neg]at h1 h2 d1 d2
 apply Pt.ext'
 ·show jC p.x p.y (-p.x) p.y=0
  apply F.cancel d1
  rw[h1];grobner
 ·show jD p.x p.y (-p.x) p.y=1
  apply F.cancel d2
  rw[h2];grobner
theorem Pt.add_assoc(p q r:Pt):(p.add q).add r=p.add (q.add r):=by
 obtain⟨x1,y1,o1⟩:=p;obtain⟨x2,y2,o2⟩:=q;obtain⟨x3,y3,o3⟩:=r;have a12:=j0 o1 o2;have b12:=j3 o1 o2;have a23:=j0 o2 o3;have b23:=j3 o2 o3;have p12:=gx o1 o2;have q12:=ft o1 o2;have p23:=gx o2 o3;have q23:=ft o2 o3;have n12:=O1 o1 o2;have n23:=O1 o2 o3;have aL:=j0 n12 o3;have bL:=j3 n12 o3;have aR:=j0 o1 n23;have bR:=j3 o1 n23;have pL:=gx n12 o3;have qL:=ft n12 o3;have pR:=gx o1 n23;have qR:=ft o1 n23;have ix:=OZ dd x1 y1 x2 y2 x3 y3;have iy:=O0 dd x1 y1 x2 y2 x3 y3;have z1:=o1.zero;have z2:=o2.zero;have z3:=o3.zero;rw[z1,z2,z3,F.mz,F.mz,F.mz,F.az,F.az]at ix iy
 apply Pt.ext'
 ·show jC (jC x1 y1 x2 y2) (jD x1 y1 x2 y2) x3 y3=jC x1 y1 (jC x2 y2 x3 y3) (jD x2 y2 x3 y3);clear z1 z2 z3 o1 o2 o3 n12 n23 bL bR iy qL qR;generalize jC (jC x1 y1 x2 y2) (jD x1 y1 x2 y2) x3 y3=XL at*;generalize jC x1 y1 (jC x2 y2 x3 y3) (jD x2 y2 x3 y3)=XR at*;generalize jC x1 y1 x2 y2=u at*;generalize jD x1 y1 x2 y2=v at*;generalize jC x2 y2 x3 y3=s at*;generalize jD x2 y2 x3 y3=t at*;generalize 1+dd*x1*x2*y1*y2=D at*;generalize 1-dd*x1*x2*y1*y2=E at*;generalize 1+dd*x2*x3*y2*y3=G at*;generalize 1-dd*x2*x3*y2*y3=H at*;rw[← a12,← b12,← a23,← b23]at ix;clear a12 b12 a23 b23;generalize hA:1+dd*u*x3*v*y3=A at*;generalize hB:1+dd*x1*s*y1*t=B at*;have k1:XL*(D*E*A)=(u*y3+v*x3)*(D*E):=by grobner
  have k2:XR*(G*H*B)=(x1*t+y1*s)*(G*H):=by grobner
  have k3:(u*y3+v*x3)*(D*E)*(G*H*B)=(x1*t+y1*s)*(G*H)*(D*E*A):=by grobner
  apply F.cancel (F.fJ (F.fJ (F.fJ p12 q12) pL) (F.fJ (F.fJ p23 q23) pR))
  grobner
 ·show jD (jC x1 y1 x2 y2) (jD x1 y1 x2 y2) x3 y3=jD x1 y1 (jC x2 y2 x3 y3) (jD x2 y2 x3 y3);clear z1 z2 z3 o1 o2 o3 n12 n23 aL aR ix pL pR;generalize jD (jC x1 y1 x2 y2) (jD x1 y1 x2 y2) x3 y3=XL at*;generalize jD x1 y1 (jC x2 y2 x3 y3) (jD x2 y2 x3 y3)=XR at*;generalize jC x1 y1 x2 y2=u at*;generalize jD x1 y1 x2 y2=v at*;generalize jC x2 y2 x3 y3=s at*;generalize jD x2 y2 x3 y3=t at*;generalize 1+dd*x1*x2*y1*y2=D at*;generalize 1-dd*x1*x2*y1*y2=E at*;generalize 1+dd*x2*x3*y2*y3=G at*;generalize 1-dd*x2*x3*y2*y3=H at*;rw[← a12,← b12,← a23,← b23]at iy;clear a12 b12 a23 b23;generalize hA:1-dd*u*x3*v*y3=A at*;generalize hB:1-dd*x1*s*y1*t=B at*;have k1:XL*(D*E*A)=(v*y3+u*x3)*(D*E):=by grobner
  have k2:XR*(G*H*B)=(y1*t+x1*s)*(G*H):=by grobner
  have k3:(v*y3+u*x3)*(D*E)*(G*H*B)=(y1*t+x1*s)*(G*H)*(D*E*A):=by grobner
  apply F.cancel (F.fJ (F.fJ (F.fJ p12 q12) qL) (F.fJ (F.fJ p23 q23) qR))
  grobner
end BJ
end
noncomputable section
namespace Go.Proofs.YtcbjpiangpjbgaaGreat
open Go Go.Ev Go.Proofs.Tryz
open Go.IntKind (i64 signed u32 u64 wrap wrap_u32)
set_option maxRecDepth 100000
abbrev Fe:=Vec Int 5
abbrev cZ:=Vec Int 32
def eL(n:Int):Int:=u64.wrap n
def dM(a b:Int):Int:=bd .u64 a b
def bV(a b:Int):Int:=shr .u64 a b
def Ca:Int:=2251799813685247
def cL(x:Fe):Fe:=
 (eL (dM x.1 Ca+eL (bV x.2.2.2.2.1 51*19)),
  eL (dM x.2.1 Ca+bV x.1 51),
  eL (dM x.2.2.1 Ca+bV x.2.1 51),
  eL (dM x.2.2.2.1 Ca+bV x.2.2.1 51),
  eL (dM x.2.2.2.2.1 Ca+bV x.2.2.2.1 51),())
def bw(n:Int):Fe:=(dM n Ca,bV n 51,0,0,0,())
def TK(carry:Fe→Fe)(x y:Fe):Fe:=carry (Vec.zip (fun a b=>eL (a+b)) x y)
def JT(carry:Fe→Fe)(x y:Fe):Fe:=carry (Vec.zip (fun a b=>eL (a-b)) (Vec.zip (fun a b=>eL (a+b)) x (4503599627370458,4503599627370494,4503599627370494,4503599627370494,4503599627370494,())) y)
def dE:Fe:=(0,0,0,0,0,())
def mn: {n:Nat}→Vec Int n→Vec Int n→Bool
 |0,_,_=>true
 |_+1,v,u=>(v.1==u.1)&&mn v.2 u.2
theorem kF: {n:Nat}→(v u:Vec Int n)→(mn v u=true↔v=u)
 |0,_,_=>⟨fun _=>rfl,fun _=>rfl⟩
 |n+1,v,u=>by
  simp only[mn,Bool.and_eq_true,beq_iff_eq,kF v.2 u.2];exact⟨fun h=>Prod.ext h.1 h.2,fun h=>by rw[h];exact⟨rfl,rfl⟩⟩
def ahL(bytes:Fe→cZ)(x:Fe):Bool:=bd .u8 (bytes x).1 1==1
def ud(carry:Fe→Fe)(x:Fe):Fe:=
 let y:=carry x
 let c:=bV (eL (y.1+19)) 51
 let c:=bV (eL (y.2.1+c)) 51
 let c:=bV (eL (y.2.2.1+c)) 51
 let c:=bV (eL (y.2.2.2.1+c)) 51
 let c:=bV (eL (y.2.2.2.2.1+c)) 51
 let c:=eL (c*19)
 let c0:=eL (c+y.1)
 let c1:=eL (bV c0 51+y.2.1)
 let c2:=eL (bV c1 51+y.2.2.1)
 let c3:=eL (bV c2 51+y.2.2.2.1)
 let c4:=eL (bV c3 51+y.2.2.2.2.1)
 (dM c0 Ca,dM c1 Ca,dM c2 Ca,dM c3 Ca,dM c4 Ca,())
end Go.Proofs.YtcbjpiangpjbgaaGreat
namespace Go.Proofs.YtcbjpiangpjbgaaGreat
open Go Go.Ev Go.Proofs.Tryz
open Go.IntKind (i64 signed u32 u64 wrap wrap_u32)
set_option maxRecDepth 1000000
def O2(y:Fe):cZ:=Vec.ofFn 32 fun j=>(List.range (if j=31 then 7 else 8)).foldl
 (fun acc i=>bq .u8 acc (shl .u8 (IntKind.u8.wrap (dM (bV (y.get ((8*j+i)/51)) (((8*j+i)%51:Nat):Int)) 1)) (i:Int))) 0
def word(b:cZ)(j:Nat):Int:=(List.range 8).foldl (fun acc i=>bq .u64 acc (shl .u64 (eL (b.get (8*j+i))) (8*i:Nat))) 0
def gy(b:cZ):Fe:=
 (dM (word b 0) Ca,dM (bq .u64 (bV (word b 0) 51) (shl .u64 (word b 1) 13)) Ca,dM (bq .u64 (bV (word b 1) 38) (shl .u64 (word b 2) 26)) Ca,
  dM (bq .u64 (bV (word b 2) 25) (shl .u64 (word b 3) 39)) Ca,dM (bV (word b 3) 12) Ca,())
def Vec.nf{α:Type}(f:α→α): {n:Nat}→Nat→Vec α n→Vec α n
 |0,_,_=>()
 |_+1,0,v=>(f v.1,v.2)
 |_+1,i+1,v=>(v.1,Vec.nf f i v.2)
def gV(b:cZ):cZ:=Vec.nf (fun x=>dh .u8 x 128) 31 b
def cm(x y:Int):Int×Int:=
 let x0:=dM x 4294967295
 let x1:=bV x 32
 let y0:=dM y 4294967295
 let y1:=bV y 32
 let t:=eL (eL (x1*y0)+bV (eL (x0*y0)) 32)
 let w1:=eL (dM t 4294967295+eL (x0*y1))
 (eL (eL (eL (x1*y1)+bV t 32)+bV w1 32),eL (x*y))
def ue:List Prop→Option Prop
 | []=>none
 |p::l=>aHT p (ue l)
noncomputable section
variable (m64:Int→Int→Int×Int) (a64:Int→Int→Int→Int×Int)
def gO(x y:Fe):List (Nat×Nat)→List (Int×Int)→List (Int×Int)×List Prop
 | [],r=>(r,[])
 |(i,j)::l,r=>
  let a:=if i+j<5 then x.get i else eL (x.get i*19)
  let p:=r.getD ((i+j)%5) (0,0)
  let m:=m64 a (y.get j)
  let s:=a64 p.2 m.2 0
  let t:=a64 p.1 m.1 s.2
  let z:=gO x y l (r.set ((i+j)%5) (t.1,s.1))
  (z.1,(0≤s.2∧s.2≤1)::z.2)
def fU:List (Nat×Nat):= [(0,0),(0,1),(0,2),(0,3),(0,4),(1,0),(1,1),(1,2),(1,3),(1,4),(2,0),(2,1),(2,2),(2,3),(2,4),(3,0),(3,1),(3,2),(3,3),(3,4),(4,0),(4,1),(4,2),(4,3),(4,4)]
def z8(x y:Fe):List Prop:=(gO m64 a64 x y fU [(0,0),(0,0),(0,0),(0,0),(0,0)]).2
def rY(carry:Fe→Fe)(x y:Fe):Fe:=
 let r:=(gO m64 a64 x y fU [(0,0),(0,0),(0,0),(0,0),(0,0)]).1
 let lo (i:Nat):=dM (r.getD i (0,0)).2 Ca
 let c (i:Nat):=bq .u64 (shl .u64 (r.getD i (0,0)).1 13) (bV (r.getD i (0,0)).2 51)
 carry (eL (eL (0+lo 0)+eL (c 4*19)),eL (eL (0+c 0)+lo 1),eL (eL (0+c 1)+lo 2),eL (eL (0+c 2)+lo 3),eL (eL (0+c 3)+lo 4),())
end
end Go.Proofs.YtcbjpiangpjbgaaGreat
namespace Go.Proofs.YtcbjpiangpjbgaaGreat
open Go Go.Ev Go.Proofs.Tryz
open Go.IntKind (i64 signed u32 u64 wrap wrap_u32)
set_option maxRecDepth 1000000
def cz(lo hi:Int):cZ:=Vec.ofFn 32 fun j=>if j=0 then lo else if j=31 then hi else 255
def df(b:Bool): {n:Nat}→Vec Int n→Vec Int n→Vec Int n
 |0,_,_=>()
 |_+1,v,u=>(bif b then v.1 else u.1,df b v.2 u.2)
theorem bU: {n:Nat}→(b:Bool)→(v u:Vec Int n)→df b v u=bif b then v else u
 |0,b,v,u=>by cases b<;>rfl
 |n+1,b,v,u=>by
  show((bif b then v.1 else u.1),df b v.2 u.2)=_;rw[bU b v.2 u.2]
  cases b<;>rfl
theorem ql{n:Nat}(b:Bool)(v:Vec Int n):df b v v=v:=by rw[bU];cases b<;>rfl
def Cb(e:cZ)(i:Nat):Bool:=bd .u8 (shr .u8 (e.get (i/8)) ((i%8:Nat):Int)) 1==1
noncomputable section
variable (small:Int→Fe) (pf:Fe→Fe) (mul:Fe→Fe→Fe)
def gl(x:Fe)(e:cZ)(k:Nat)(r:Fe):Fe:=df (Cb e (255-k)) (mul (pf r) x) (pf r)
def aun(x:Fe)(e:cZ):Fe:=fG (gl pf mul x e) 256 (small 1)
end
noncomputable section
variable (pow:Fe→cZ→Fe) (exp:Int→Int→cZ) (mul:Fe→Fe→Fe) (pf neg:Fe→Fe) (small:Int→Fe) (equal:Fe→Fe→Bool) (qT isZero:Fe→Bool) (invert:Fe→Fe)
def z9(x:Fe):Fe×Bool:=
 let r:=pow x (exp 254 15)
 let r1:=df (!(equal (pf r) x)) (mul r (pow (small 2) (exp 251 31))) r
 let bad:= !(equal (pf r1) (df (!(equal (pf r) x)) x x))
 (df bad dE (df (qT r1) (neg r1) r1),bif bad then false else true)
end
end Go.Proofs.YtcbjpiangpjbgaaGreat
namespace Go.Proofs.YtcbjpiangpjbgaaGreat
open Go Go.Ev Go.Proofs.Tryz
open Go.IntKind (i64 signed u32 u64 wrap wrap_u32)
set_option maxRecDepth 1000000
abbrev Pt:=Bool×Fe×Fe×Fe×Fe
def JU(b:Bool)(p q:Pt):Pt:=(bif b then p.1 else q.1,df b p.2.1 q.2.1,df b p.2.2.1 q.2.2.1,df b p.2.2.2.1 q.2.2.2.1,df b p.2.2.2.2 q.2.2.2.2)
theorem iL(b:Bool)(p q:Pt):JU b p q=bif b then p else q:=by
 unfold JU;rw[bU,bU,bU,bU];cases b<;>rfl
noncomputable section
variable (mul add sub:Fe→Fe→Fe) (pf neg invert:Fe→Fe) (small:Int→Fe) (isZero qT:Fe→Bool) (sqrt:Fe→Fe×Bool) (ratio:Fe→Fe→Fe×Bool) (j4:cZ→Fe) (bytes:Fe→cZ)
 (vW:cZ→Bool) (equal:Fe→Fe→Bool) (Xv:Fe) (zero:Pt) (own:Pt→Pt) (ax2:Fe→Fe→Pt) (root:Fe→Fe×Bool) (place:Pt→Fe×Fe) (TL:Fe→Fe→Fe→Fe→Pt) (Xw:Pt→Pt→Pt)
def mZ:cZ:=(0xa3,0x78,0x59,0x13,0xca,0x4d,0xeb,0x75,0xab,0xd8,0x41,0x41,0x4d,0x0a,0x70,0x00,0x98,0xe8,0x79,0x77,0x79,0x40,0xc7,0x8c,0x73,0xfe,0x6f,0x2b,0xee,0x6c,0x03,0x52,())
def ahM(x y:Fe):Pt:=(true,x,y,small 1,mul x y)
def ahN(p:Pt):Pt:=JU (!p.1) zero p
def fK:Pt:=(false,dE,dE,dE,dE)
def vX(b:cZ):Bool:=bd .u8 (b.get 31) 128!=0
def uf(b:cZ):Pt×Bool:=
 let y:=j4 b
 let x:=(root y).1
 let ok:=(root y).2
 let b1:=(!ok)==false
 let b2:=(!(vW b))==false
 let b3:=vX b==true
 let j (v:Fe):Fe:=df b1 (df b2 (df b3 v v) v) v
 let jb (v:Bool):Bool:=bif b1 then(bif b2 then(bif b3 then v else v)else v)else v
 let bad:=bif b1 then(bif b2 then(bif b3 then isZero x else false)else true)else true
 let o:=jb (vX b)
 (JU bad fK (ax2 (df o (neg (j x)) (j x)) (df o (j y) (j y))),bif bad then false else true)
def apc(p:Pt):Fe×Fe:=(mul (own p).2.1 (invert (own p).2.2.2.1),mul (own p).2.2.1 (invert (own p).2.2.2.1))
def Aa(p:Pt):cZ:=
 let b:=bytes (place p).2
 df (qT (place p).1) (Vec.nf (fun x=>bq .u8 x 128) 31 b) b
def apd(e f g h:Fe):Pt:=(true,mul e f,mul g h,mul f g,mul e h)
def addFn(p0 q0:Pt):Pt:=
 let p:=own p0
 let q:=own q0
 let a:=mul (sub p.2.2.1 p.2.1) (sub q.2.2.1 q.2.1)
 let b:=mul (add p.2.2.1 p.2.1) (add q.2.2.1 q.2.1)
 let c:=mul (mul p.2.2.2.2 q.2.2.2.2) Xv
 let c:=add c c
 let d:=mul p.2.2.2.1 q.2.2.2.1
 let d:=add d d
 TL (sub b a) (sub d c) (add d c) (add b a)
def negFn(p:Pt):Pt:=((own p).1,neg (own p).2.1,(own p).2.2.1,(own p).2.2.2.1,neg (own p).2.2.2.2)
end
end Go.Proofs.YtcbjpiangpjbgaaGreat
namespace Go.Ev
open Go
open Go.IntKind (i64 signed u32 u64 wrap wrap_u32)
end Go.Ev
namespace Go.Proofs.YtcbjpiangpjbgaaGreat
open Go Go.Ev Go.Proofs.Tryz
open Go.IntKind (i64 signed u32 u64 wrap wrap_u32)
set_option maxRecDepth 1000000
def lP(b:cZ)(k:Nat):Int:=i64.wrap (bd .u8 (shr .u8 (b.get (k/8)) ((k%8:Nat):Int)) 1)
noncomputable section
variable (bit:cZ→Nat→Int) (zero base:Pt) (double:Pt→Pt) (Xw:Pt→Pt→Pt)
end
end Go.Proofs.YtcbjpiangpjbgaaGreat
namespace Go.Proofs.YtcbjpiangpjbgaaGreat
open Go Go.Ev Go.Proofs.Tryz
open Go.IntKind (i64 signed u32 u64 wrap wrap_u32)
set_option maxRecDepth 1000000
abbrev Fn:=Vec Int 16
def w(n:Int):Int:=i64.wrap n
def cA(n m:Int):Int:=bd .i64 n m
def down(n m:Int):Int:=shr .i64 n m
def dR:Fn:=(65517,65535,65535,65535,65535,65535,65535,65535,65535,65535,65535,65535,65535,65535,65535,32767,())
def cI:Fn:=(0,0,0,0,0,0,0,0,0,0,0,0,0,0,0,0,())
def iM(a b:Fn):Nat→Bool
 |0=>false
 |k+1=>bif a.get k !=b.get k then decide (a.get k<b.get k)else iM a b k
def gW: {n:Nat}→Int→Vec Int n→Vec Int (n+1)
 |0,x,_=>(x,())
 |_+1,x,v=>(cA x 65535,gW (w (v.1+down x 16)) v.2)
def cN(t:Fn):Fn:=gW t.1 t.2
def eM(t:Fn):Fn:=(w (t.1+w (19*down (t.get 15) 15)),(Vec.nf (fun x=>cA x 32767) 15 t).2)
noncomputable section
variable (dW:Fn) (below:Fn→Fn→Bool) (norm:Fn→Fn)
def auo(t:Fn):Fn:=
 let r:=cN (eM (cN (eM (cN (eM (cN (eM (cN t))))))))
 df (!(below r dW)) (cN (Vec.zip (fun a b=>w (a-b)) r dW)) r
def Fb(b:cZ):Fn:=Vec.ofFn 16 fun i=>w (w (b.get (2*i))+w (256*w (b.get (2*i+1))))
def ahO(b:cZ):Fn:=norm (Vec.nf (fun x=>cA x 32767) 15 (Fb b))
def bK(n:Int):Fn:=Vec.ofFn 16 fun i=>if i<4 then w (dM (bV n ((16*i:Nat):Int)) 65535)else 0
def nG(x:Fn):cZ:=Vec.ofFn 32 fun i=>if i%2=0 then IntKind.u8.wrap (cA (x.get (i/2)) 255)else IntKind.u8.wrap (down (x.get (i/2)) 8)
def O3(b:cZ):cZ:=Vec.nf (fun x=>bd .u8 x 127) 31 b
def ax3(x y:Fn):Fn:=norm (Vec.zip (fun a b=>w (a+b)) x y)
def ax4(x y:Fn):Fn:=norm (Vec.zip (fun a b=>w (a-b)) (Vec.zip (fun a b=>w (a+b)) x dW) y)
def ug(x y:Fn)(j:Nat):Int:=(List.range 16).foldl (fun acc i=>if i≤j∧j-i<16 then w (acc+w (x.get i*y.get (j-i)))else acc) 0
def ax5(x y:Fn):Fn:=norm (Vec.ofFn 16 fun i=>w (ug x y i+w (38*ug x y (i+16))))
def qU(x:Fn):Bool:=x.1.tmod 2==1
end
end Go.Proofs.YtcbjpiangpjbgaaGreat
namespace Go.Proofs.YtcbjpiangpjbgaaGreat
open Go Go.Ev Go.Proofs.Tryz
open Go.IntKind (i64 signed u32 u64 wrap wrap_u32)
set_option maxRecDepth 1000000
def mb(b:cZ)(k:Nat):Int:=bd .i64 (i64.wrap (shr .u8 (b.get (k/8)) ((k%8:Nat):Int))) 1
abbrev Pn:=Fn×Fn×Fn×Fn
def Cc(b:Bool)(p q:Pn):Pn:=(df b p.1 q.1,df b p.2.1 q.2.1,df b p.2.2.1 q.2.2.1,df b p.2.2.2 q.2.2.2)
theorem Ab(b:Bool)(p q:Pn):Cc b p q=bif b then p else q:=by
 unfold Cc;rw[bU,bU,bU,bU];cases b<;>rfl
noncomputable section
variable (bit:cZ→Nat→Int) (small:Int→Fn) (mul add sub:Fn→Fn→Fn) (neg invert:Fn→Fn) (qT:Fn→Bool) (pow:Fn→cZ→Fn) (sqrt:Fn→Fn×Bool) (ratio:Fn→Fn→Fn×Bool) (Xv:Fn)
 (j4:cZ→Fn) (bytes:Fn→cZ) (vW:cZ→Bool) (zero:Pn) (ofp:Fn→Fn→Pn) (xOf:Fn→Fn×Bool) (JV:Pn→Pn→Fn→Pn)
def m5(x:Fn)(e:cZ)(k:Nat)(r:Fn):Fn:=df (bit e (255-k)==1) (mul (mul r r) x) (mul r r)
def ahP(x:Fn)(e:cZ):Fn:=fG (m5 bit mul x e) 256 (small 1)
def uh(x:Fn):Fn×Bool:=
 let r:=pow x (cz 254 15)
 let b1:= !(mn (mul r r) x)
 let r1:=df b1 (mul r (pow (small 2) (cz 251 31))) r
 let bad:= !(mn (mul r1 r1) (df b1 x x))
 (df bad cI (df (qT r1) (neg r1) r1),bif bad then false else true)
def JW(u v:Fn):Fn×Bool:=(df (mn v cI) cI (sqrt (mul u (invert v))).1,bif mn v cI then mn u cI else(sqrt (mul u (invert v))).2)
def O4:Pn:=(cI,small 1,small 1,cI)
def ax6(x y:Fn):Pn:=(x,y,small 1,mul x y)
def ahQ(y:Fn):Fn×Bool:=ratio (sub (mul y y) (small 1)) (add (mul Xv (mul y y)) (small 1))
def Fc:Pn:=ofp (xOf (mul (small 4) (invert (small 5)))).1 (mul (small 4) (invert (small 5)))
def qm(b:cZ):Pn×Bool:=
 let o:=decide (b.get 31>127)
 let nc:= !(vW b)
 let y:=j4 b
 let x:=(xOf y).1
 let b1:=(!(xOf y).2)==false
 let b2:=(mn x cI)==true
 let j (v:Fn):Fn:=df b1 (df b2 v v) v
 let o':=bif b1 then(bif b2 then o else o)else o
 let bad:=bif b1 then(bif b2 then o else false)else true
 (Cc nc zero (Cc bad zero (ofp (df o' (neg (j x)) (j x)) (df o' (j y) (j y)))),bif nc then false else(bif bad then false else true))
def vY(p:Pn):cZ:=
 let z:=invert p.2.2.1
 let b:=bytes (mul p.2.1 z)
 df (qT (mul p.1 z)) (Vec.nf (fun x=>IntKind.u8.wrap (x+128)) 31 b) b
def yg(p q:Pn)(dd:Fn):Pn:=
 let a:=mul (sub p.2.1 p.1) (sub q.2.1 q.1)
 let b:=mul (add p.2.1 p.1) (add q.2.1 q.1)
 let c:=mul (mul p.2.2.2 q.2.2.2) dd
 let d:=mul (add p.2.2.1 p.2.2.1) q.2.2.1
 let e:=sub b a
 let f:=sub d c
 let g:=add d c
 let h:=add b a
 (mul e f,mul g h,mul f g,mul e h)
end
end Go.Proofs.YtcbjpiangpjbgaaGreat
namespace BJ
def cO(n:Int):F:=⟨(n%(pp:Int)).toNat,by
 have h1:0≤n%(pp:Int):=Int.emod_nonneg _ (by decide);have h2:n%(pp:Int)<(pp:Int):=Int.emod_lt_of_pos _ (by decide);omega⟩
theorem ef(n:Int):((cO n).val:Int)=n%(pp:Int):=Int.toNat_of_nonneg (Int.emod_nonneg _ (by decide))
theorem xc{a b:F}(h:(a.val:Int)=b.val):a=b:=Fin.ext (Int.ofNat_inj.1 h)
theorem TM{a b:Int}:cO a=cO b↔a%(pp:Int)=b%(pp:Int):=by
 constructor
 ·intro h;rw[← ef,← ef,h]
 ·intro h;exact xc (by rw[ef,ef,h])
theorem g9(a b:Int):cO (a+b)=cO a+cO b:=by
 apply xc
 rw[ef,Fin.val_add,Int.natCast_emod,Int.natCast_add,ef,ef,← Int.add_emod]
theorem kG(a b:Int):cO (a*b)=cO a*cO b:=by
 apply xc
 rw[ef,Fin.val_mul,Int.natCast_emod,Int.natCast_mul,ef,ef,← Int.mul_emod]
theorem JX:cO 0=0:=by apply xc;rw[ef];decide
theorem yh:cO 1=1:=by apply xc;rw[ef];decide
theorem TN(a b:Int):cO (a-b)=cO a-cO b:=by
 have h:cO (a-b)+cO b=cO a:=by rw[← g9];congr 1;omega
 grobner
theorem Ac(a k:Int):cO (a+k*(pp:Int))=cO a:=TM.2 (Int.add_mul_emod_self_right _ _ _)
end BJ
namespace Go.Proofs.YtcbjpiangpjbgaaGreat
open Go Go.Ev BJ Go.Proofs.Tryz
open Go.IntKind (i64 signed u32 u64 wrap wrap_u32)
def Cd(a b c d e:Int):Fe:=(a,b,c,d,e,())
def G8(n:Int):Prop:=0≤n∧n<18446744073709551616
def JY(n:Int):Prop:=0≤n∧n<2251799813947392
def U5(x:Fe):Prop:=G8 x.1∧G8 x.2.1∧G8 x.2.2.1∧G8 x.2.2.2.1∧G8 x.2.2.2.2.1
def gb(x:Fe):Prop:=JY x.1∧JY x.2.1∧JY x.2.2.1∧JY x.2.2.2.1∧JY x.2.2.2.2.1
def fV(x:Fe):Int:=x.1+x.2.1*2251799813685248+x.2.2.1*5070602400912917605986812821504+x.2.2.2.1*11417981541647679048466287755595961091061972992+x.2.2.2.2.1*25711008708143844408671393477458601640355247900524685364822016
def fe(x:Fe):F:=cO (fV x)
theorem ui(x:Int):dM x Ca=x%2251799813685248:=by
 have:=pZ (m:=51) (by decide) x Ca (by decide);simpa [dM]using this
theorem Ff(x:Int):bV x 51=x/2251799813685248:=by
 have:=ee .u64 x 51 (by decide);simpa [bV]using this
theorem Xx{x:Fe}(h:U5 x):gb (cL x)∧∃k,fV (cL x)=fV x+k*(pp:Int):=by
 obtain⟨x0,x1,x2,x3,x4,u⟩:=x;obtain⟨h0,h1,h2,h3,h4⟩:=h;simp only[G8]at h0 h1 h2 h3 h4
 have e:cL (x0,x1,x2,x3,x4,u)=Cd (x0%2251799813685248+x4/2251799813685248*19) (x1%2251799813685248+x0/2251799813685248) (x2%2251799813685248+x1/2251799813685248)
   (x3%2251799813685248+x2/2251799813685248) (x4%2251799813685248+x3/2251799813685248):=by
  simp only[cL,ui,Ff,eL];rw[wrap_u64 (n:=x4/2251799813685248*19) (by omega) (by omega)];rw[wrap_u64 (by omega) (by omega),wrap_u64 (by omega) (by omega),wrap_u64 (by omega) (by omega),wrap_u64 (by omega) (by omega),wrap_u64 (by omega) (by omega)];rfl
 rw[e];refine⟨?_,-(x4/2251799813685248),?_⟩
 ·simp only[gb,JY,Cd];omega
 ·simp only[fV,pp,Cd];omega
theorem uj{x:Fe}(h:U5 x):gb (cL x)∧fe (cL x)=fe x:=by
 obtain⟨h1,k,h2⟩:=Xx h;exact⟨h1,by unfold fe;rw[h2,Ac]⟩
theorem ax7{x y:Fe}(hx:gb x)(hy:gb y):gb (TK cL x y)∧fe (TK cL x y)=fe x+fe y:=by
 obtain⟨x0,x1,x2,x3,x4,u⟩:=x;obtain⟨y0,y1,y2,y3,y4,v⟩:=y;simp only[gb,JY]at hx hy
 have e:Vec.zip (n:=5) (fun a b=>eL (a+b)) (x0,x1,x2,x3,x4,u) (y0,y1,y2,y3,y4,v)=Cd (x0+y0) (x1+y1) (x2+y2) (x3+y3) (x4+y4):=by
  show(eL (x0+y0),eL (x1+y1),eL (x2+y2),eL (x3+y3),eL (x4+y4),())=_;simp only[eL];rw[wrap_u64 (by omega) (by omega),wrap_u64 (by omega) (by omega),wrap_u64 (by omega) (by omega),wrap_u64 (by omega) (by omega),wrap_u64 (by omega) (by omega)];rfl
 unfold TK;rw[e];obtain⟨h1,h2⟩:=uj (x:=Cd (x0+y0) (x1+y1) (x2+y2) (x3+y3) (x4+y4)) (by simp only[U5,G8,Cd];omega);refine⟨h1,?_⟩;rw[h2];unfold fe;rw[← g9]
 congr 1
 simp only[fV,Cd];omega
theorem ahR{x y:Fe}(hx:gb x)(hy:gb y):gb (JT cL x y)∧fe (JT cL x y)=fe x-fe y:=by
 obtain⟨x0,x1,x2,x3,x4,u⟩:=x;obtain⟨y0,y1,y2,y3,y4,v⟩:=y;simp only[gb,JY]at hx hy
 have e:Vec.zip (n:=5) (fun a b=>eL (a-b)) (Vec.zip (n:=5) (fun a b=>eL (a+b)) (x0,x1,x2,x3,x4,u) (4503599627370458,4503599627370494,4503599627370494,4503599627370494,4503599627370494,())) (y0,y1,y2,y3,y4,v)=
   Cd (x0+4503599627370458-y0) (x1+4503599627370494-y1) (x2+4503599627370494-y2) (x3+4503599627370494-y3) (x4+4503599627370494-y4):=by
  show(eL (eL (x0+4503599627370458)-y0),eL (eL (x1+4503599627370494)-y1),eL (eL (x2+4503599627370494)-y2),eL (eL (x3+4503599627370494)-y3),eL (eL (x4+4503599627370494)-y4),())=_;simp only[eL];rw[wrap_u64 (n:=x0+4503599627370458) (by omega) (by omega),wrap_u64 (n:=x1+4503599627370494) (by omega) (by omega),wrap_u64 (n:=x2+4503599627370494) (by omega) (by omega),wrap_u64 (n:=x3+4503599627370494) (by omega) (by omega),wrap_u64 (n:=x4+4503599627370494) (by omega) (by omega)];rw[wrap_u64 (by omega) (by omega),wrap_u64 (by omega) (by omega),wrap_u64 (by omega) (by omega),wrap_u64 (by omega) (by omega),wrap_u64 (by omega) (by omega)];rfl
 unfold JT;rw[e];obtain⟨h1,h2⟩:=uj (x:=Cd (x0+4503599627370458-y0) (x1+4503599627370494-y1) (x2+4503599627370494-y2) (x3+4503599627370494-y3) (x4+4503599627370494-y4)) (by simp only[U5,G8,Cd];omega);refine⟨h1,?_⟩;rw[h2];unfold fe;rw[← TN,← Ac (fV (x0,x1,x2,x3,x4,u)-_) 2]
 congr 1
 simp only[fV,pp,Cd];omega
theorem jL:gb dE∧fe dE=0:=by
 refine⟨by simp[gb,JY,dE],?_⟩;rw[← JX];rfl
theorem Xy{a b:Int}(ha:G8 a)(hb:G8 b):cm a b=(a*b/18446744073709551616,a*b%18446744073709551616):=by
 simp only[G8]at ha hb
 have e0:∀x,dM x 4294967295=x%4294967296:=fun x=>by
  have:=pZ (m:=32) (by decide) x 4294967295 (by decide);simpa [dM]using this
 have e1:∀x,bV x 32=x/4294967296:=fun x=>by
  have:=ee .u64 x 32 (by decide);simpa [bV]using this
 obtain⟨a0,a1,ha0,ha1,rfl⟩:∃a0 a1:Int,a%4294967296=a0∧a/4294967296=a1∧a=a1*4294967296+a0:=⟨_,_,rfl,rfl,by omega⟩;obtain⟨b0,b1,hb0,hb1,rfl⟩:∃b0 b1:Int,b%4294967296=b0∧b/4294967296=b1∧b=b1*4294967296+b0:=⟨_,_,rfl,rfl,by omega⟩
 have sB:∀ {p q:Int},0≤p→p≤4294967295→0≤q→q≤4294967295→0≤p*q∧p*q≤18446744065119617025:=fun {p q} h1 h2 h3 h4=>
  ⟨Int.mul_nonneg h1 h3,Int.le_trans (Int.mul_le_mul h2 h4 h3 (by decide)) (by decide)⟩
 have Mu:=sB (p:=a0) (q:=b0) (by omega) (by omega) (by omega) (by omega);have h01:=sB (p:=a0) (q:=b1) (by omega) (by omega) (by omega) (by omega);have h10:=sB (p:=a1) (q:=b0) (by omega) (by omega) (by omega) (by omega);have h11:=sB (p:=a1) (q:=b1) (by omega) (by omega) (by omega) (by omega);have hab:(a1*4294967296+a0)*(b1*4294967296+b0)=a1*b1*18446744073709551616+(a1*b0+a0*b1)*4294967296+a0*b0:=by grind
 simp only[cm,e0,e1,ha0,ha1,hb0,hb1,eL];rw[hab];generalize a0*b0=p00 at*;generalize a0*b1=p01 at*;generalize a1*b0=p10 at*;generalize a1*b1=p11 at*;rw[wrap_u64 (n:=p00) (by omega) (by omega),wrap_u64 (n:=p10) (by omega) (by omega),wrap_u64 (n:=p01) (by omega) (by omega),wrap_u64 (n:=p11) (by omega) (by omega)];rw[wrap_u64 (n:=p10+p00/4294967296) (by omega) (by omega)];rw[wrap_u64 (n:=(p10+p00/4294967296)%4294967296+p01) (by omega) (by omega)];rw[wrap_u64 (n:=p11+(p10+p00/4294967296)/4294967296) (by omega) (by omega)];rw[jy,jy];refine Prod.ext ?_ ?_
 ·show _=_/_;omega
 ·show _=_%_;omega
end Go.Proofs.YtcbjpiangpjbgaaGreat
namespace Go.Proofs.YtcbjpiangpjbgaaGreat
open Go Go.Ev BJ Go.Proofs.Tryz
open Go.IntKind (i64 signed u32 u64 wrap wrap_u32)
theorem qn{x y c:Int}(hx:0≤x)(hy:0≤y)(hc:0≤c):cl x y c=((x+y+c)%18446744073709551616,(x+y+c)/18446744073709551616):=by
 obtain⟨a,rfl⟩:=Int.eq_ofNat_of_zero_le hx;obtain⟨b,rfl⟩:=Int.eq_ofNat_of_zero_le hy;obtain⟨d,rfl⟩:=Int.eq_ofNat_of_zero_le hc;simp only[cl,Int.toNat_natCast];refine Prod.ext ?_ ?_
 ·show(((a+b+d)%2 ^ 64:Nat):Int)=_;omega
 ·show(((a+b+d)/2 ^ 64:Nat):Int)=_;omega
def OkP(p:Int×Int):Prop:=0≤p.2∧p.2<18446744073709551616∧0≤p.1
def pv(p:Int×Int):Int:=p.1*18446744073709551616+p.2
def fL(x:Fe)(i j:Nat):Int:=if i+j<5 then x.get i else eL (x.get i*19)
def pg(x y:Fe)(k:Nat):List (Nat×Nat)→Int
 | []=>0
 |(i,j)::l=>(if(i+j)%5=k then fL x i j*y.get j else 0)+pg x y k l
theorem Ce{x y:Fe}(hc:∀i j,i<5→j<5→0≤fL x i j∧fL x i j<72057594037927936)(hy:∀j,j<5→0≤y.get j∧y.get j<4503599627370496):
  ∀ (l:List (Nat×Nat)) (r:List (Int×Int)) (B:Int),(∀p∈l,p.1<5∧p.2<5)→r.length=5→(∀k,k<5→OkP (r.getD k (0,0))∧pv (r.getD k (0,0))≤B)→
   B+l.length*324518553658426726783156020576256<340282366920938463463374607431768211456→
   (∀k,k<5→OkP ((gO cm cl x y l r).1.getD k (0,0))∧pv ((gO cm cl x y l r).1.getD k (0,0))=pv (r.getD k (0,0))+pg x y k l)∧
   ∀p∈(gO cm cl x y l r).2,p
 | [],r,B,_,hl,hr,_=>⟨fun k hk=>⟨(hr k hk).1,by simp[gO,pg]⟩,fun p hp=>by simp[gO]at hp⟩
 |(i,j)::l,r,B,hm,hl,hr,hB=>by
  obtain⟨hi,hj⟩:=hm (i,j) (by simp);obtain⟨c0,c1⟩:=hc i j hi hj;obtain⟨y0,y1⟩:=hy j hj;have hkk:(i+j)%5<5:=Nat.mod_lt _ (by decide);obtain⟨⟨p0,p1,p2⟩,p3⟩:=hr _ hkk
  have hpr:0≤fL x i j*y.get j∧fL x i j*y.get j≤324518553658426726783156020576256:=⟨Int.mul_nonneg c0 y0,by
   have:=Int.mul_le_mul (a:=fL x i j) (b:=y.get j) (c:=72057594037927936) (d:=4503599627370496) (by omega) (by omega) (by omega) (by omega);omega⟩
  have hcB:0≤(l.length:Int):=by omega
  simp only[List.length_cons,Int.natCast_add]at hB;have hmul:=Xy (a:=fL x i j) (b:=y.get j) ⟨c0,by omega⟩ ⟨y0,by omega⟩;generalize hab:fL x i j*y.get j=ab at hpr hmul;generalize hpe:r.getD ((i+j)%5) (0,0)=p at p0 p1 p2 p3;unfold pv at p3
  have hs:cl p.2 (cm (fL x i j) (y.get j)).2 0=((p.2+ab%18446744073709551616+0)%18446744073709551616,(p.2+ab%18446744073709551616+0)/18446744073709551616):=by
   rw[hmul];exact qn p0 (by show 0≤ab%18446744073709551616;omega) (by omega)
  have ht:cl p.1 (cm (fL x i j) (y.get j)).1 (cl p.2 (cm (fL x i j) (y.get j)).2 0).2=((p.1+ab/18446744073709551616+(p.2+ab%18446744073709551616+0)/18446744073709551616)%18446744073709551616,
    (p.1+ab/18446744073709551616+(p.2+ab%18446744073709551616+0)/18446744073709551616)/18446744073709551616):=by
   rw[hs,hmul];exact qn p2 (by show 0≤ab/18446744073709551616;omega) (by show 0≤(p.2+ab%18446744073709551616+0)/18446744073709551616;omega)
  have Hx:gO cm cl x y ((i,j)::l) r=((gO cm cl x y l (r.set ((i+j)%5) ((cl p.1 (cm (fL x i j) (y.get j)).1 (cl p.2 (cm (fL x i j) (y.get j)).2 0).2).1,(cl p.2 (cm (fL x i j) (y.get j)).2 0).1))).1,
    (0≤(cl p.2 (cm (fL x i j) (y.get j)).2 0).2∧(cl p.2 (cm (fL x i j) (y.get j)).2 0).2≤1)::(gO cm cl x y l (r.set ((i+j)%5) ((cl p.1 (cm (fL x i j) (y.get j)).1 (cl p.2 (cm (fL x i j) (y.get j)).2 0).2).1,(cl p.2 (cm (fL x i j) (y.get j)).2 0).1))).2):=by
   rw[← hpe];rfl
  rw[Hx,ht,hs]
  have my:∀ (v:Int×Int) k,k<5→(r.set ((i+j)%5) v).getD k (0,0)=if(i+j)%5=k then v else r.getD k (0,0):=by
   intro v k hk;simp only[List.getD_eq_getElem?_getD,List.getElem?_set]
   split
   ·rename_i e;subst e;simp[hl,hkk]
   ·rfl
  obtain⟨h1,h2⟩:=Ce hc hy l (r.set ((i+j)%5) ((p.1+ab/18446744073709551616+(p.2+ab%18446744073709551616+0)/18446744073709551616)%18446744073709551616,(p.2+ab%18446744073709551616+0)%18446744073709551616))
   (B+324518553658426726783156020576256) (fun p hp=>hm p (by simp[hp])) (by simpa using hl) (fun k hk=>by
    rw[my _ k hk]
    split
    ·refine⟨⟨?_,?_,?_⟩,?_⟩
     ·show 0≤(p.2+ab%18446744073709551616+0)%18446744073709551616;omega
     ·show(p.2+ab%18446744073709551616+0)%18446744073709551616<_;omega
     ·show 0≤(p.1+ab/18446744073709551616+(p.2+ab%18446744073709551616+0)/18446744073709551616)%18446744073709551616;omega
     ·show(p.1+ab/18446744073709551616+(p.2+ab%18446744073709551616+0)/18446744073709551616)%18446744073709551616*18446744073709551616+(p.2+ab%18446744073709551616+0)%18446744073709551616≤_;omega
    ·exact⟨(hr k hk).1,by have:=(hr k hk).2;omega⟩) (by omega)
  refine⟨fun k hk=>?_,?_⟩
  ·obtain⟨h3,h4⟩:=h1 k hk;refine⟨h3,?_⟩;show pv _=_+((if(i+j)%5=k then fL x i j*y.get j else 0)+pg x y k l);rw[h4,my _ k hk]
   split
   ·rename_i e;rw[← e,hpe,hab];simp only[pv];omega
   ·omega
  ·intro q hq;rcases List.mem_cons.1 hq with rfl|hq
   ·show 0≤(p.2+ab%18446744073709551616+0)/18446744073709551616∧(p.2+ab%18446744073709551616+0)/18446744073709551616≤1;omega
   ·exact h2 q hq
theorem rl:∀ {l:List Prop},(∀p∈l,p)→fo (ue l)
 | [],_=>trivial
 |p::l,h=>by
  have h1:=h p (by simp);have h2:=rl (l:=l) fun q hq=>h q (by simp[hq]);unfold ue
  cases hc:ue l with
  |none=>exact h1
  |some q=>rw[hc]at h2;exact⟨h1,h2⟩
theorem aDC(x0 x1 x2 x3 x4:Int)(u:Vec Int 0):Vec.get (n:=5) (x0,x1,x2,x3,x4,u) 0=x0∧Vec.get (n:=5) (x0,x1,x2,x3,x4,u) 1=x1∧Vec.get (n:=5) (x0,x1,x2,x3,x4,u) 2=x2∧
  Vec.get (n:=5) (x0,x1,x2,x3,x4,u) 3=x3∧Vec.get (n:=5) (x0,x1,x2,x3,x4,u) 4=x4:=⟨rfl,rfl,rfl,rfl,rfl⟩
theorem JZ{x:Fe}{Q:Int→Prop}(h0:Q x.1)(h1:Q x.2.1)(h2:Q x.2.2.1)(h3:Q x.2.2.2.1)(h4:Q x.2.2.2.2.1):∀i,i<5→Q (x.get i)
 |0,_=>h0
 |1,_=>h1
 |2,_=>h2
 |3,_=>h3
 |4,_=>h4
 |n+5,h=>absurd h (by omega)
theorem J0{x y:Fe}(hx:gb x)(hy:gb y):fo (ue (z8 cm cl x y))∧
  ∀k,k<5→∃p,(gO cm cl x y fU [(0,0),(0,0),(0,0),(0,0),(0,0)]).1.getD k (0,0)=p∧OkP p∧pv p=pg x y k fU:=by
 have hgx:∀i,i<5→JY (x.get i):=JZ hx.1 hx.2.1 hx.2.2.1 hx.2.2.2.1 hx.2.2.2.2;have hgy:∀i,i<5→JY (y.get i):=JZ hy.1 hy.2.1 hy.2.2.1 hy.2.2.2.1 hy.2.2.2.2
 obtain⟨h1,h2⟩:=Ce (x:=x) (y:=y) (fun i j hi hj=>by
   obtain⟨a,b⟩:=hgx i hi;unfold fL
   split
   ·omega
   ·unfold eL;rw[wrap_u64 (by omega) (by omega)];omega) (fun j hj=>by obtain⟨a,b⟩:=hgy j hj;omega)
  fU [(0,0),(0,0),(0,0),(0,0),(0,0)] 0 (by decide) rfl (fun k hk=>by
   have:([(0,0),(0,0),(0,0),(0,0),(0,0)]:List (Int×Int)).getD k (0,0)=(0,0):=by
    match k,hk with
    |0,_=>rfl
    |1,_=>rfl
    |2,_=>rfl
    |3,_=>rfl
    |4,_=>rfl
   rw[this];exact⟨⟨by decide,by decide,by decide⟩,by decide⟩) (by decide)
 refine⟨rl h2,fun k hk=>⟨_,rfl,(h1 k hk).1,?_⟩⟩;rw[(h1 k hk).2]
 have:([(0,0),(0,0),(0,0),(0,0),(0,0)]:List (Int×Int)).getD k (0,0)=(0,0):=by
  match k,hk with
  |0,_=>rfl
  |1,_=>rfl
  |2,_=>rfl
  |3,_=>rfl
  |4,_=>rfl
 rw[this];simp[pv]
theorem ph{p:Int×Int}(h:OkP p){R:Int}(hR:pv p=R)(dU:R<20769187434139310514121985316880384):
  dM p.2 Ca=R%2251799813685248∧bq .u64 (shl .u64 p.1 13) (bV p.2 51)=R/2251799813685248:=by
 obtain⟨a,b⟩:=p;obtain⟨h0,h1,h2⟩:=h;simp only[pv]at*;rw[ui,Ff]
 have e:shl .u64 a 13=a*8192:=by
  have:=iE .u64 a 13 (by decide);rw[show((13:Nat):Int)=13 from rfl]at this;rw[this];exact wrap_u64 (by omega) (by omega)
 rw[e,nw (m:=13) (by omega) (by omega) (by omega) (by omega) (by omega)];constructor<;>omega
theorem ape(x0 x1 x2 x3 x4 y0 y1 y2 y3 y4:Int)(u v:Vec Int 0)(hx:gb (x0,x1,x2,x3,x4,u))(k:Nat)(hk:k<5):
  pg (x0,x1,x2,x3,x4,u) (y0,y1,y2,y3,y4,v) k fU=
   [x0*y0+x1*19*y4+x2*19*y3+x3*19*y2+x4*19*y1,x0*y1+x1*y0+x2*19*y4+x3*19*y3+x4*19*y2,x0*y2+x1*y1+x2*y0+x3*19*y4+x4*19*y3,
    x0*y3+x1*y2+x2*y1+x3*y0+x4*19*y4,x0*y4+x1*y3+x2*y2+x3*y1+x4*y0].getD k 0:=by
 simp only[gb,JY]at hx;have w1:eL (x1*19)=x1*19:=wrap_u64 (by omega) (by omega);have w2:eL (x2*19)=x2*19:=wrap_u64 (by omega) (by omega);have w3:eL (x3*19)=x3*19:=wrap_u64 (by omega) (by omega);have w4:eL (x4*19)=x4*19:=wrap_u64 (by omega) (by omega);obtain⟨g0,g1,g2,g3,g4⟩:=aDC x0 x1 x2 x3 x4 u;obtain⟨f0,f1,f2,f3,f4⟩:=aDC y0 y1 y2 y3 y4 v
 match k,hk with
 |0,_=>simp[pg,fU,fL,g0,g1,g2,g3,g4,f0,f1,f2,f3,f4,w1,w2,w3,w4];omega
 |1,_=>simp[pg,fU,fL,g0,g1,g2,g3,g4,f0,f1,f2,f3,f4,w2,w3,w4];omega
 |2,_=>simp[pg,fU,fL,g0,g1,g2,g3,g4,f0,f1,f2,f3,f4,w3,w4];omega
 |3,_=>simp[pg,fU,fL,g0,g1,g2,g3,g4,f0,f1,f2,f3,f4,w4];omega
 |4,_=>simp[pg,fU,fL,g0,g1,g2,g3,g4,f0,f1,f2,f3,f4];omega
theorem ahS(x0 x1 x2 x3 x4 y0 y1 y2 y3 y4 t:F)(ht:t*t*t*t*t=19):
  (x0*y0+x1*19*y4+x2*19*y3+x3*19*y2+x4*19*y1)+(x0*y1+x1*y0+x2*19*y4+x3*19*y3+x4*19*y2)*t+(x0*y2+x1*y1+x2*y0+x3*19*y4+x4*19*y3)*(t*t)+
   (x0*y3+x1*y2+x2*y1+x3*y0+x4*19*y4)*(t*t*t)+(x0*y4+x1*y3+x2*y2+x3*y1+x4*y0)*(t*t*t*t)=
  (x0+x1*t+x2*(t*t)+x3*(t*t*t)+x4*(t*t*t*t))*(y0+y1*t+y2*(t*t)+y3*(t*t*t)+y4*(t*t*t*t)):=by
 grobner
end Go.Proofs.YtcbjpiangpjbgaaGreat
namespace Go.Proofs.YtcbjpiangpjbgaaGreat
open Go Go.Ev BJ Go.Proofs.Tryz
open Go.IntKind (i64 signed u32 u64 wrap wrap_u32)
def tt:F:=cO 2251799813685248
theorem tt5:tt*tt*tt*tt*tt=19:=by decide+kernel
theorem tt2:cO 5070602400912917605986812821504=tt*tt:=by decide+kernel
theorem tt3:cO 11417981541647679048466287755595961091061972992=tt*tt*tt:=by decide+kernel
theorem tt4:cO 25711008708143844408671393477458601640355247900524685364822016=tt*tt*tt*tt:=by decide+kernel
theorem t19:cO 19=19:=by decide+kernel
theorem Ad(x0 x1 x2 x3 x4:Int):cO (x0+x1*2251799813685248+x2*5070602400912917605986812821504+x3*11417981541647679048466287755595961091061972992+x4*25711008708143844408671393477458601640355247900524685364822016)=
  cO x0+cO x1*tt+cO x2*(tt*tt)+cO x3*(tt*tt*tt)+cO x4*(tt*tt*tt*tt):=by
 simp only[g9,kG,tt2,tt3,tt4];rfl
theorem apf{R0 R1 R2 R3 R4:Int}(n0:0≤R0∧R0≤1000000000000000000000000000000000)(n1:0≤R1∧R1≤1000000000000000000000000000000000)(n2:0≤R2∧R2≤1000000000000000000000000000000000)
  (n3:0≤R3∧R3≤1000000000000000000000000000000000) (n4:0≤R4∧R4≤26000000000000000000000000000000):
  ((eL (eL (0+R0%2251799813685248)+eL (R4/2251799813685248*19)),eL (eL (0+R0/2251799813685248)+R1%2251799813685248),eL (eL (0+R1/2251799813685248)+R2%2251799813685248),
    eL (eL (0+R2/2251799813685248)+R3%2251799813685248),eL (eL (0+R3/2251799813685248)+R4%2251799813685248),()):Fe)=Cd (R0%2251799813685248+R4/2251799813685248*19) (R0/2251799813685248+R1%2251799813685248) (R1/2251799813685248+R2%2251799813685248)
    (R2/2251799813685248+R3%2251799813685248) (R3/2251799813685248+R4%2251799813685248):=by
 simp only[eL,Int.zero_add]
 rw[wrap_u64 (n:=R0%2251799813685248) (by omega) (by omega),wrap_u64 (n:=R4/2251799813685248*19) (by omega) (by omega),wrap_u64 (n:=R0/2251799813685248) (by omega) (by omega),wrap_u64 (n:=R1/2251799813685248) (by omega) (by omega),
  wrap_u64 (n:=R2/2251799813685248) (by omega) (by omega),wrap_u64 (n:=R3/2251799813685248) (by omega) (by omega)]
 rw[wrap_u64 (n:=R0%2251799813685248+R4/2251799813685248*19) (by omega) (by omega),wrap_u64 (n:=R0/2251799813685248+R1%2251799813685248) (by omega) (by omega),wrap_u64 (n:=R1/2251799813685248+R2%2251799813685248) (by omega) (by omega),
  wrap_u64 (n:=R2/2251799813685248+R3%2251799813685248) (by omega) (by omega),wrap_u64 (n:=R3/2251799813685248+R4%2251799813685248) (by omega) (by omega)]
 rfl
theorem apg{R0 R1 R2 R3 R4:Int}(n0:0≤R0∧R0≤1000000000000000000000000000000000)(n1:0≤R1∧R1≤1000000000000000000000000000000000)(n2:0≤R2∧R2≤1000000000000000000000000000000000)
  (n3:0≤R3∧R3≤1000000000000000000000000000000000) (n4:0≤R4∧R4≤26000000000000000000000000000000):
  U5 (Cd (R0%2251799813685248+R4/2251799813685248*19) (R0/2251799813685248+R1%2251799813685248) (R1/2251799813685248+R2%2251799813685248)
   (R2/2251799813685248+R3%2251799813685248) (R3/2251799813685248+R4%2251799813685248))∧fe (Cd (R0%2251799813685248+R4/2251799813685248*19) (R0/2251799813685248+R1%2251799813685248) (R1/2251799813685248+R2%2251799813685248)
   (R2/2251799813685248+R3%2251799813685248) (R3/2251799813685248+R4%2251799813685248))=
   cO (R0+R1*2251799813685248+R2*5070602400912917605986812821504+R3*11417981541647679048466287755595961091061972992+R4*25711008708143844408671393477458601640355247900524685364822016):=by
 constructor
 ·simp only[U5,G8,Cd];omega
 ·unfold fe;rw[← Ac (fV _) (R4/2251799813685248)]
  congr 1
  simp only[fV,pp,Cd];omega
set_option maxHeartbeats 1000000 in
theorem vZ{x y:Fe}(hx:gb x)(hy:gb y):gb (rY cm cl cL x y)∧fe (rY cm cl cL x y)=fe x*fe y:=by
 obtain⟨_,hr⟩:=J0 hx hy;obtain⟨x0,x1,x2,x3,x4,u⟩:=x;obtain⟨y0,y1,y2,y3,y4,v⟩:=y;have hv:=ape x0 x1 x2 x3 x4 y0 y1 y2 y3 y4 u v hx
 have sB:∀ {p q:Int},0≤p→p<2251799813947392→0≤q→q<2251799813947392→0≤p*q∧p*q≤5070602402093548913987446767616:=fun {p q} h1 h2 h3 h4=>
  ⟨Int.mul_nonneg h1 h3,Int.le_trans (Int.mul_le_mul (c:=2251799813947392) (d:=2251799813947392) (by omega) (by omega) h3 (by decide)) (by decide)⟩
 simp only[gb,JY]at hx hy;obtain⟨vl,L7,Rb,hx3,hx4⟩:=hx;obtain⟨yS,Mo,Rc,hy3,hy4⟩:=hy;have b00:=sB vl.1 vl.2 yS.1 yS.2;have b01:=sB vl.1 vl.2 Mo.1 Mo.2;have b02:=sB vl.1 vl.2 Rc.1 Rc.2;have b03:=sB vl.1 vl.2 hy3.1 hy3.2;have b04:=sB vl.1 vl.2 hy4.1 hy4.2;have b10:=sB L7.1 L7.2 yS.1 yS.2;have b11:=sB L7.1 L7.2 Mo.1 Mo.2;have b12:=sB L7.1 L7.2 Rc.1 Rc.2;have b13:=sB L7.1 L7.2 hy3.1 hy3.2;have b14:=sB L7.1 L7.2 hy4.1 hy4.2;have b20:=sB Rb.1 Rb.2 yS.1 yS.2;have b21:=sB Rb.1 Rb.2 Mo.1 Mo.2;have b22:=sB Rb.1 Rb.2 Rc.1 Rc.2;have b23:=sB Rb.1 Rb.2 hy3.1 hy3.2;have b24:=sB Rb.1 Rb.2 hy4.1 hy4.2;have b30:=sB hx3.1 hx3.2 yS.1 yS.2;have b31:=sB hx3.1 hx3.2 Mo.1 Mo.2;have b32:=sB hx3.1 hx3.2 Rc.1 Rc.2;have b33:=sB hx3.1 hx3.2 hy3.1 hy3.2;have b34:=sB hx3.1 hx3.2 hy4.1 hy4.2;have b40:=sB hx4.1 hx4.2 yS.1 yS.2;have b41:=sB hx4.1 hx4.2 Mo.1 Mo.2;have b42:=sB hx4.1 hx4.2 Rc.1 Rc.2;have b43:=sB hx4.1 hx4.2 hy3.1 hy3.2;have b44:=sB hx4.1 hx4.2 hy4.1 hy4.2;have sw:∀a b:Int,a*19*b=19*(a*b):=fun a b=>by rw[Int.mul_comm a 19,Int.mul_assoc]
 obtain⟨p0,e0,k0,v0⟩:=hr 0 (by decide);obtain⟨p1,e1,k1,v1⟩:=hr 1 (by decide);obtain⟨p2,e2,k2,v2⟩:=hr 2 (by decide);obtain⟨p3,e3,k3,v3⟩:=hr 3 (by decide);obtain⟨p4,e4,k4,v4⟩:=hr 4 (by decide);rw[hv 0 (by decide)]at v0;rw[hv 1 (by decide)]at v1;rw[hv 2 (by decide)]at v2;rw[hv 3 (by decide)]at v3;rw[hv 4 (by decide)]at v4;have v0':pv p0=x0*y0+x1*19*y4+x2*19*y3+x3*19*y2+x4*19*y1:=v0;have v1':pv p1=x0*y1+x1*y0+x2*19*y4+x3*19*y3+x4*19*y2:=v1;have v2':pv p2=x0*y2+x1*y1+x2*y0+x3*19*y4+x4*19*y3:=v2;have v3':pv p3=x0*y3+x1*y2+x2*y1+x3*y0+x4*19*y4:=v3;have v4':pv p4=x0*y4+x1*y3+x2*y2+x3*y1+x4*y0:=v4;have aup:=ahS (cO x0) (cO x1) (cO x2) (cO x3) (cO x4) (cO y0) (cO y1) (cO y2) (cO y3) (cO y4) tt tt5;have hR0:cO (pv p0)=cO x0*cO y0+cO x1*19*cO y4+cO x2*19*cO y3+cO x3*19*cO y2+cO x4*19*cO y1:=by rw[v0'];simp only[g9,kG,t19]
 have hR1:cO (pv p1)=cO x0*cO y1+cO x1*cO y0+cO x2*19*cO y4+cO x3*19*cO y3+cO x4*19*cO y2:=by rw[v1'];simp only[g9,kG,t19]
 have hR2:cO (pv p2)=cO x0*cO y2+cO x1*cO y1+cO x2*cO y0+cO x3*19*cO y4+cO x4*19*cO y3:=by rw[v2'];simp only[g9,kG,t19]
 have hR3:cO (pv p3)=cO x0*cO y3+cO x1*cO y2+cO x2*cO y1+cO x3*cO y0+cO x4*19*cO y4:=by rw[v3'];simp only[g9,kG,t19]
 have hR4:cO (pv p4)=cO x0*cO y4+cO x1*cO y3+cO x2*cO y2+cO x3*cO y1+cO x4*cO y0:=by rw[v4'];simp only[g9,kG]
 rw[← hR0,← hR1,← hR2,← hR3,← hR4]at aup;have n0:0≤pv p0∧pv p0≤1000000000000000000000000000000000:=by rw[v0'];simp only[sw];omega
 have n1:0≤pv p1∧pv p1≤1000000000000000000000000000000000:=by rw[v1'];simp only[sw];omega
 have n2:0≤pv p2∧pv p2≤1000000000000000000000000000000000:=by rw[v2'];simp only[sw];omega
 have n3:0≤pv p3∧pv p3≤1000000000000000000000000000000000:=by rw[v3'];simp only[sw];omega
 have n4:0≤pv p4∧pv p4≤26000000000000000000000000000000:=by rw[v4'];omega
 obtain⟨l0,c0⟩:=ph k0 rfl (by omega);obtain⟨l1,c1⟩:=ph k1 rfl (by omega);obtain⟨l2,c2⟩:=ph k2 rfl (by omega);obtain⟨l3,c3⟩:=ph k3 rfl (by omega);obtain⟨l4,c4⟩:=ph k4 rfl (by omega);generalize pv p0=R0 at*;generalize pv p1=R1 at*;generalize pv p2=R2 at*;generalize pv p3=R3 at*;generalize pv p4=R4 at*
 have e:rY cm cl cL (x0,x1,x2,x3,x4,u) (y0,y1,y2,y3,y4,v)=cL (Cd (R0%2251799813685248+R4/2251799813685248*19) (R0/2251799813685248+R1%2251799813685248) (R1/2251799813685248+R2%2251799813685248)
   (R2/2251799813685248+R3%2251799813685248) (R3/2251799813685248+R4%2251799813685248)):=by
  rw[← apf n0 n1 n2 n3 n4];simp only[rY,e0,e1,e2,e3,e4,l0,l1,l2,l3,l4,c0,c1,c2,c3,c4]
 rw[e];obtain⟨hU,h3⟩:=apg n0 n1 n2 n3 n4;obtain⟨h1,h2⟩:=uj hU;refine⟨h1,?_⟩;rw[h2,h3,Ad,aup];show _=cO (x0+x1*_+_+_+_)*cO (y0+y1*_+_+_+_);rw[Ad,Ad]
def lQ(n:Int):Prop:=0≤n∧n<2251799813685248
def ax8(x:Fe):Prop:=(lQ x.1∧lQ x.2.1∧lQ x.2.2.1∧lQ x.2.2.2.1∧lQ x.2.2.2.2.1)∧fV x<(pp:Int)
theorem ahT{x:Fe}(hx:gb x):ax8 (ud cL x)∧fe (ud cL x)=fe x:=by
 obtain⟨hy,hyx⟩:=uj (x:=x) (by simp only[gb,JY]at hx;simp only[U5,G8];omega);rw[← hyx];unfold ud;generalize cL x=y at hy;obtain⟨y0,y1,y2,y3,y4,u⟩:=y;simp only[gb,JY]at hy;simp only[ui,Ff,eL];obtain⟨a0,ha0⟩:∃a,a=(y0+19)/2251799813685248:=⟨_,rfl⟩;obtain⟨a1,ha1⟩:∃a,a=(y1+a0)/2251799813685248:=⟨_,rfl⟩;obtain⟨a2,ha2⟩:∃a,a=(y2+a1)/2251799813685248:=⟨_,rfl⟩;obtain⟨a3,ha3⟩:∃a,a=(y3+a2)/2251799813685248:=⟨_,rfl⟩;obtain⟨q,hq⟩:∃a,a=(y4+a3)/2251799813685248:=⟨_,rfl⟩;rw[wrap_u64 (n:=y0+19) (by omega) (by omega),← ha0];rw[wrap_u64 (n:=y1+a0) (by omega) (by omega),← ha1];rw[wrap_u64 (n:=y2+a1) (by omega) (by omega),← ha2];rw[wrap_u64 (n:=y3+a2) (by omega) (by omega),← ha3];rw[wrap_u64 (n:=y4+a3) (by omega) (by omega),← hq];have aIb:q=0∨q=1:=by omega
 rw[wrap_u64 (n:=q*19) (by omega) (by omega)];obtain⟨c0,Rh⟩:∃a,a=q*19+y0:=⟨_,rfl⟩;rw[wrap_u64 (n:=q*19+y0) (by omega) (by omega),← Rh];obtain⟨c1,hc1⟩:∃a,a=c0/2251799813685248+y1:=⟨_,rfl⟩;rw[wrap_u64 (n:=c0/2251799813685248+y1) (by omega) (by omega),← hc1];obtain⟨c2,hc2⟩:∃a,a=c1/2251799813685248+y2:=⟨_,rfl⟩;rw[wrap_u64 (n:=c1/2251799813685248+y2) (by omega) (by omega),← hc2];obtain⟨c3,hc3⟩:∃a,a=c2/2251799813685248+y3:=⟨_,rfl⟩;rw[wrap_u64 (n:=c2/2251799813685248+y3) (by omega) (by omega),← hc3];obtain⟨c4,hc4⟩:∃a,a=c3/2251799813685248+y4:=⟨_,rfl⟩;rw[wrap_u64 (n:=c3/2251799813685248+y4) (by omega) (by omega),← hc4]
 have kW:fV (c0%2251799813685248,c1%2251799813685248,c2%2251799813685248,c3%2251799813685248,c4%2251799813685248,())=fV (y0,y1,y2,y3,y4,u)-q*(pp:Int)∧
   fV (c0%2251799813685248,c1%2251799813685248,c2%2251799813685248,c3%2251799813685248,c4%2251799813685248,())<(pp:Int):=by
  simp only[fV,pp];rcases aIb with rfl|rfl
  ·constructor<;>omega
  ·constructor<;>omega
 refine⟨⟨by simp only[lQ];omega,kW.2⟩,?_⟩;unfold fe;rw[kW.1,← Ac (fV (y0,y1,y2,y3,y4,u)-_) q]
 congr 1;omega
end Go.Proofs.YtcbjpiangpjbgaaGreat
namespace Go.Proofs.YtcbjpiangpjbgaaGreat
open Go Go.Ev BJ Go.Proofs.Tryz
open Go.IntKind (i64 signed u32 u64 wrap wrap_u32)
def bN: {n:Nat}→Vec Int n→Int
 |0,_=>0
 |_+1,v=>v.1+256*bN v.2
def mo: {n:Nat}→Vec Int n→Prop
 |0,_=>True
 |_+1,v=>(0≤v.1∧v.1<256)∧mo v.2
theorem cR: {n:Nat}→ {v:Vec Int n}→mo v→0≤bN v
 |0,_,_=>Int.le_refl _
 |n+1,v,h=>by have:=cR h.2;have:=h.1;simp only[bN];omega
theorem lR: {n:Nat}→ {v:Vec Int n}→mo v→bN v<(256 ^ n:Nat)
 |0,_,_=>by simp[bN]
 |n+1,v,h=>by
  have h1:=lR h.2;have h2:=h.1;simp only[bN];have e:(256 ^ (n+1):Nat)=256*256 ^ n:=by rw[Nat.pow_succ,Nat.mul_comm]
  rw[e];generalize (256 ^ n:Nat)=m at*;omega
theorem Ae: {n:Nat}→ {v u:Vec Int n}→mo v→mo u→bN v=bN u→v=u
 |0,_,_,_,_,_=>rfl
 |n+1,v,u,hv,hu,h=>by
  simp only[bN]at h;have h1:=hv.1;have h2:=hu.1;have e1:v.1=u.1:=by omega
  have e2:bN v.2=bN u.2:=by omega
  exact Prod.ext e1 (Ae hv.2 hu.2 e2)
def xr(n:Nat)(V:Int):Vec Int n:=Vec.ofFn n fun j=>V/(256 ^ j:Nat)%256
theorem v7:(n:Nat)→(V:Int)→0≤V→mo (xr n V)∧bN (xr n V)=V%(256 ^ n:Nat)
 |0,V,h=>⟨trivial,by simp[bN]⟩
 |n+1,V,h=>by
  have e:xr (n+1) V=(V/(256 ^ 0:Nat)%256,xr n (V/256)):=by
   unfold xr;show(_,Vec.ofFn n fun i=>V/(256 ^ (i+1):Nat)%256)=_
   have:(fun i:Nat=>V/(256 ^ (i+1):Nat)%256)=fun j:Nat=>V/256/(256 ^ j:Nat)%256:=by
    funext j
    rw[Int.ediv_ediv_of_nonneg (by omega)]
    congr 2
    rw[Nat.pow_succ];simp[Int.mul_comm]
   rw[this]
  rw[e];obtain⟨h1,h2⟩:=v7 n (V/256) (by omega);refine⟨⟨by simp only[Nat.pow_zero];omega,h1⟩,?_⟩;show V/(256 ^ 0:Nat)%256+256*bN (xr n (V/256))=_;rw[h2];have e2:(256 ^ (n+1):Nat)=256*256 ^ n:=by rw[Nat.pow_succ,Nat.mul_comm]
  rw[e2];generalize hm:(256 ^ n:Nat)=m;have C9:0<(m:Int):=by have:=Nat.pow_pos (n:=n) (show 0<256 by decide);omega
  have h3:=Int.emod_nonneg (V/256) (b:=(m:Int)) (by omega);have h4:=Int.emod_lt_of_pos (V/256) C9;have h5:=Int.emod_add_mul_ediv (V/256) (m:Int)
  have h6:V=(V%256+256*(V/256%m))+((256*m:Nat):Int)*(V/256/m):=by
   rw[Int.natCast_mul,Int.mul_assoc];generalize (m:Int)*(V/256/m)=z at*;omega
  rw[Nat.pow_zero]
  have h7:V%((256*m:Nat):Int)=V%256+256*(V/256%m):=by
   conv=>lhs;rw[h6]
   rw[Int.add_mul_emod_self_left];exact Int.emod_eq_of_lt (by omega) (by rw[Int.natCast_mul];omega)
  rw[h7];omega
theorem Xz{n:Nat}{v:Vec Int n}(h:mo v):xr n (bN v)=v:=by
 obtain⟨h1,h2⟩:=v7 n (bN v) (cR h);exact Ae h1 h (by rw[h2,Int.emod_eq_of_lt (cR h) (lR h)])
def dS(a:F):cZ:=xr 32 (a.val:Int)
theorem aph:(256 ^ 32:Nat)=115792089237316195423570985008687907853269984665640564039457584007913129639936:=by decide
theorem lf(a:F):mo (dS a)∧bN (dS a)=(a.val:Int):=by
 obtain⟨h1,h2⟩:=v7 32 (a.val:Int) (by omega);have:=a.isLt;refine⟨h1,h2.trans (Int.emod_eq_of_lt (by omega) ?_)⟩;rw[aph];simp only[pp]at this;omega
theorem O5{a b:F}(h:dS a=dS b):a=b:=xc (by rw[← (lf a).2,← (lf b).2,h])
def xt(f:Nat→Int):Nat→Int
 |0=>0
 |n+1=>xt f n+f n*(2 ^ n:Nat)
theorem TO(f:Nat→Int):∀n,n≤8→(∀i,i<n→0≤f i∧f i≤1)→
  (List.range n).foldl (fun acc i=>bq .u8 acc (shl .u8 (f i) (i:Int))) 0=xt f n∧0≤xt f n∧xt f n<(2 ^ n:Nat)
 |0,_,_=>⟨rfl,by simp[xt],by simp[xt]⟩
 |n+1,hn,hf=>by
  obtain⟨h1,h2,h3⟩:=TO f n (by omega) fun i hi=>hf i (by omega);have h4:=hf n (by omega);rw[List.range_succ,List.foldl_append,h1];simp only[List.foldl_cons,List.foldl_nil,xt];have hp:0<2 ^ n:=Nat.two_pow_pos n;have hle:2 ^ n≤2 ^ 7:=Nat.pow_le_pow_right (by omega) (by omega)
  have hs:f n*(2 ^ n:Nat)=0∨f n*(2 ^ n:Nat)=(2 ^ n:Nat):=by
   have:f n=0∨f n=1:=(by omega);rcases this with e|e<;>rw[e]<;>simp
  have e:shl .u8 (f n) (n:Int)=f n*(2 ^ n:Nat):=by
   rw[iE .u8 _ _ (by show n≤8;omega),wrap_u8];have:(2:Nat) ^ 7=128:=(by decide);omega
  have hm:f n*(2 ^ n:Nat)%(2 ^ n:Nat)=0:=Int.mul_emod_left _ _;have h7:(2:Nat) ^ 7=128:=by decide
  rw[e,eK,arX (m:=n) (by omega) hm h2 h3 (by omega)];have e2:(2 ^ (n+1):Nat)=2*2 ^ n:=by rw[Nat.pow_succ,Nat.mul_comm]
  rw[e2];refine⟨by omega,by omega,by omega⟩
theorem api(u H:Int){b:Nat}(hb:b<51):(u+2251799813685248*H)/(2 ^ b:Nat)%2=u/(2 ^ b:Nat)%2:=by
 have e:(2251799813685248:Int)=(2 ^ b:Nat)*(2*(2 ^ (50-b):Nat)):=by
  have:(2251799813685248:Nat)=2 ^ b*(2*2 ^ (50-b)):=by
   rw[← Nat.mul_assoc,Nat.mul_comm (2 ^ b) 2,Nat.mul_assoc,← Nat.pow_add,show b+(50-b)=50 by omega]
  have h2:((2251799813685248:Nat):Int)=((2 ^ b*(2*2 ^ (50-b)):Nat):Int):=by rw[← this]
  rw[Int.natCast_mul,Int.natCast_mul]at h2;exact h2
 rw[e,Int.mul_assoc,Int.add_mul_ediv_left _ _ (by have:=Nat.two_pow_pos b;omega),Int.mul_assoc,Int.add_mul_emod_self_left]
theorem ahU{y:Fe}(h:lQ y.1∧lQ y.2.1∧lQ y.2.2.1∧lQ y.2.2.2.1∧lQ y.2.2.2.2.1)(q:Nat)(hq:q<255):
  y.get (q/51)/(2 ^ (q%51):Nat)%2=fV y/(2 ^ q:Nat)%2:=by
 obtain⟨y0,y1,y2,y3,y4,u⟩:=y;simp only[lQ]at h;have hb:q%51<51:=Nat.mod_lt _ (by decide);have hq2:(2 ^ q:Nat)=2 ^ (51*(q/51))*2 ^ (q%51):=by rw[← Nat.pow_add];congr 1;omega
 rw[hq2,Int.natCast_mul,← Int.ediv_ediv_of_nonneg (Int.natCast_nonneg _)];have h5:q/51<5:=by omega
 generalize q%51=b at*;generalize q/51=a at*
 have key:∀ (V H:Int),fV (y0,y1,y2,y3,y4,u)/(2 ^ (51*a):Nat)=V+2251799813685248*H→V/(2 ^ b:Nat)%2=fV (y0,y1,y2,y3,y4,u)/(2 ^ (51*a):Nat)/(2 ^ b:Nat)%2:=by
  intro V H e;rw[e,api V H hb]
 match a,h5 with
 |0,_=>exact key y0 (y1+y2*2251799813685248+y3*5070602400912917605986812821504+y4*11417981541647679048466287755595961091061972992) (by simp only[fV,Nat.mul_zero,Nat.pow_zero];omega)
 |1,_=>exact key y1 (y2+y3*2251799813685248+y4*5070602400912917605986812821504) (by
   have:(2:Nat) ^ (51*1)=2251799813685248:=(by decide);rw[this];simp only[fV];omega)
 |2,_=>exact key y2 (y3+y4*2251799813685248) (by
   have:(2:Nat) ^ (51*2)=5070602400912917605986812821504:=(by decide);rw[this];simp only[fV];omega)
 |3,_=>exact key y3 y4 (by
   have:(2:Nat) ^ (51*3)=11417981541647679048466287755595961091061972992:=(by decide);rw[this];simp only[fV];omega)
 |4,_=>exact key y4 0 (by
   have:(2:Nat) ^ (51*4)=25711008708143844408671393477458601640355247900524685364822016:=(by decide);rw[this];simp only[fV];omega)
theorem aDD(W:Int):xt (fun i=>W/(2 ^ i:Nat)%2) 8=W%256:=by
 simp[xt];omega
theorem aDE(W:Int)(h0:0≤W)(h:W<128):xt (fun i=>W/(2 ^ i:Nat)%2) 7=W%256:=by
 simp[xt];omega
theorem jE{α:Type}:∀ {n:Nat} {f g:Nat→α},(∀i,i<n→f i=g i)→Vec.ofFn n f=Vec.ofFn n g
 |0,_,_,_=>rfl
 |n+1,f,g,h=>by
  show(f 0,Vec.ofFn n _)=(g 0,Vec.ofFn n _);rw[h 0 (by omega),jE (n:=n) fun i hi=>h (i+1) (by omega)]
theorem ahV{y:Fe}(h:ax8 y):O2 y=xr 32 (fV y):=by
 have hv0:0≤fV y:=by
  obtain⟨y0,y1,y2,y3,y4,u⟩:=y;have:=h.1;simp only[lQ]at this;simp only[fV];omega
 have hv1:=h.2;unfold O2 xr;refine jE fun j hj=>?_
 have aur:∀n,n≤8→(∀i,i<n→8*j+i<255)→
   (List.range n).foldl (fun acc i=>bq .u8 acc (shl .u8 (IntKind.u8.wrap (dM (bV (y.get ((8*j+i)/51)) (((8*j+i)%51:Nat):Int)) 1)) (i:Int))) 0=
    xt (fun i=>fV y/(2 ^ (8*j):Nat)/(2 ^ i:Nat)%2) n:=by
  intro n hn dU
  have Df:∀i,i<n→IntKind.u8.wrap (dM (bV (y.get ((8*j+i)/51)) (((8*j+i)%51:Nat):Int)) 1)=fV y/(2 ^ (8*j):Nat)/(2 ^ i:Nat)%2:=by
   intro i hi;have e1:bV (y.get ((8*j+i)/51)) (((8*j+i)%51:Nat):Int)=y.get ((8*j+i)/51)/(2 ^ ((8*j+i)%51):Nat):=ee .u64 _ _ (by show(8*j+i)%51≤64;omega)
   have e2:∀x,dM x 1=x%2:=fun x=>by
    have:=pZ (m:=1) (by decide) x 1 (by decide);simpa [dM]using this
   rw[e1,e2,ahU h.1 _ (dU i hi),wrap_u8,Int.ediv_ediv_of_nonneg (Int.natCast_nonneg _),← Int.natCast_mul,← Nat.pow_add];omega
  have ow:∀ (l:List Nat) (a:Int),(∀i∈l,i<n)→l.foldl (fun(acc:Int) (i:Nat)=>bq .u8 acc (shl .u8 (IntKind.u8.wrap (dM (bV (y.get ((8*j+i)/51)) (((8*j+i)%51:Nat):Int)) 1)) (i:Int))) a=
    l.foldl (fun(acc:Int) (i:Nat)=>bq .u8 acc (shl .u8 (fV y/(2 ^ (8*j):Nat)/(2 ^ i:Nat)%2) (i:Int))) a:=by
   intro l
   induction l with
   |nil=>intro a _;rfl
   |cons i l ih=>intro a hl;simp only[List.foldl_cons];rw[Df i (hl i (by simp)),ih _ fun k hk=>hl k (by simp[hk])]
  rw[ow _ _ fun i hi=>List.mem_range.1 hi]
  exact(TO (fun i=>fV y/(2 ^ (8*j):Nat)/(2 ^ i:Nat)%2) n hn fun i _=>by
   have:=Int.emod_nonneg (fV y/(2 ^ (8*j):Nat)/(2 ^ i:Nat)) (b:=2) (by omega);have:=Int.emod_lt_of_pos (fV y/(2 ^ (8*j):Nat)/(2 ^ i:Nat)) (b:=2) (by omega);omega).1
 have e8:(2 ^ (8*j):Nat)=256 ^ j:=by rw[Nat.pow_mul]
 by_cases h31:j=31
 ·rw[if_pos h31,aur 7 (by omega) (fun i hi=>by omega),e8];refine aDE _ (Int.ediv_nonneg hv0 (Int.natCast_nonneg _)) ?_;subst h31;have:(256 ^ 31:Nat)=452312848583266388373324160190187140051835877600158453279131187530910662656:=by decide
  rw[this];simp only[pp]at hv1;omega
 ·rw[if_neg h31,aur 8 (by omega) (fun i hi=>by omega),e8];exact aDD _
theorem Fg{y:Fe}(h:ax8 y):((fe y).val:Int)=fV y:=by
 have hv0:0≤fV y:=by
  obtain⟨y0,y1,y2,y3,y4,u⟩:=y;have:=h.1;simp only[lQ]at this;simp only[fV];omega
 unfold fe;rw[ef,Int.emod_eq_of_lt hv0 h.2]
def eh(x:Fe):cZ:=O2 (ud cL x)
theorem pj{x:Fe}(h:gb x):eh x=dS (fe x):=by
 obtain⟨h1,h2⟩:=ahT h;unfold eh dS;rw[ahV h1,← Fg h1,h2]
theorem ahW{a b:F}:mn (dS a) (dS b)=decide (a=b):=by
 by_cases h:a=b
 ·subst h;rw[decide_eq_true rfl];exact(kF _ _).2 rfl
 ·rw[decide_eq_false h];refine Bool.eq_false_iff.2 fun e=>h (O5 ((kF _ _).1 e))
theorem Af{x y:Fe}(hx:gb x)(hy:gb y):mn (eh x) (eh y)=decide (fe x=fe y):=by
 rw[pj hx,pj hy,ahW]
theorem ahX{x:Fe}(h:gb x):ahL eh x=decide ((fe x).val%2=1):=by
 unfold ahL;rw[pj h];have e:(dS (fe x)).1=((fe x).val:Int)/(256 ^ 0:Nat)%256:=rfl;rw[e,rJ (m:=1) (by decide) _ 1 (by decide)]
 have:((((fe x).val:Int)/(256 ^ 0:Nat)%256%(2 ^ 1:Nat)==1)=true)↔(fe x).val%2=1:=by
  rw[beq_iff_eq];simp only[Nat.pow_zero,Nat.pow_one];omega
 by_cases h1:(fe x).val%2=1
 ·rw[decide_eq_true h1];exact this.2 h1
 ·rw[decide_eq_false h1];exact Bool.eq_false_iff.2 fun e=>h1 (this.1 e)
theorem pk{n:Int}(h:G8 n):gb (bw n)∧fe (bw n)=cO n:=by
 simp only[G8]at h
 have e:bw n=Cd (n%2251799813685248) (n/2251799813685248) 0 0 0:=by
  simp only[bw,ui,Ff];rfl
 rw[e];refine⟨by simp only[gb,JY,Cd];omega,?_⟩;unfold fe;congr 1;simp only[fV,Cd];omega
end Go.Proofs.YtcbjpiangpjbgaaGreat
end
