/- What the laws lean on, part 17: a reader of code, plain facts, and what each function gives; no conditions. -/
import Derived.Test.YtnbkagglkajbkaaGreatC16
set_option linter.unusedVariables false
set_option linter.unusedSimpArgs false
noncomputable section
namespace Go.Proofs.YtnbkagglkajbkaaGreat
open Go Go.Ev BJ Go.Proofs.Tryz
open Go.IntKind (i64 signed u16 u64 wrap)
set_option maxRecDepth 1000000
abbrev rPn:aQ (List SV) Pn:=B5 .i64 (B5 .i64 (B5 .i64 (iU .i64 16) 16) 16) 16
abbrev Hy:aQ LV Pn:=qC rPn
abbrev pnA:aQ (List LV) (Pn×Unit):=ae Hy ag
def e0P(c:Pn):an:=an.cm [] ag ag fun _ _=>.leaf none (Hy.wr c) []
def ans(g:Pn→Pn→Fn→Pn):an:=an.cm [] (ae Hy (ae Hy (ae uT ag))) ag fun x _=>.leaf none (Hy.wr (g x.1 x.2.1 x.2.2.1)) []
def ant(g:Fn→Fn→Pn):an:=an.cm [] qI ag fun x _=>.leaf none (Hy.wr (g x.1 x.2.1)) []
def eNE(g:Pn→List Int):an:=an.cm [] pnA ag fun x _=>.leaf none (cY .u8 32 (g x.1)) []
theorem U2{u x:Pn}(h:x=u):(Ev.End.leaf (Hy.wr u) []).sat fun v dP=>v=Hy.wr x∧dP= []:=by subst h;exact⟨rfl,rfl⟩
theorem atv{u x:Fn×Bool}(h:x=u):(Ev.End.leaf (Bl u) []).sat fun v dP=>v=Bl x∧dP= []:=by subst h;exact⟨rfl,rfl⟩
theorem ahP:fo=a9 (kC (bq 121665)) (cM (bq 121666)):=by unfold fo;rfl
abbrev atw:an:=ZW fo
theorem Rr(mul:Fn→Fn→Fn)(neg inv:Fn→Fn)(sm:Int→Fn):aH Tryz.prog [(216,kM mul),(284,rQ neg),(214,rQ inv),(223,Dz sm)] [] f219 ((ag).wr ()) [] kK= .leaf (uT.wr (mul (neg (sm 121665)) (inv (sm 121666)))) []:=by kernel_rfl
theorem Rs:∀p_∈([(216,kM a9),(284,rQ kC),(214,rQ cM),(223,Dz bq)]:List (FuncId×an)),p_.2.Ok Tryz.prog p_.1:=(al jd (al UZ (al x8 (al iY aw))))
theorem L2:atw.Ok Tryz.prog 219:=by
 refine(an.aS call219 fun x_ y_ Q H_=>?_).sym;have hq:=H_.2;refine(ar (tab:= [(216,kM a9),(284,rQ kC),(214,rQ cM),(223,Dz bq)]) mixed Rs func219 rfl (LT:= []) (ks:=kK) (aK.nil _)).use (D:= []) ?_ hq;show(aH _ _ _ _ ((ag).wr ()) [] _).sat _;rw[Rr a9 kC cM bq];exact DD ahP
theorem ahQ:lQ=(cy,bq 1,bq 1,cy):=by unfold lQ Qr;rfl
abbrev atx:an:=e0P lQ
theorem Rt(sm:Int→Fn):aH Tryz.prog [(223,Dz sm)] [] f220 ((ag).wr ()) [] kK= .leaf (Hy.wr (cy,sm 1,sm 1,cy)) []:=by kernel_rfl
theorem Ru:∀p_∈([(223,Dz bq)]:List (FuncId×an)),p_.2.Ok Tryz.prog p_.1:=(al iY aw)
theorem ahR:atx.Ok Tryz.prog 220:=by
 refine(an.aS call220 fun x_ y_ Q H_=>?_).sym;have hq:=H_.2;refine(ar (tab:= [(223,Dz bq)]) mixed Ru func220 rfl (LT:= []) (ks:=kK) (aK.nil _)).use (D:= []) ?_ hq;show(aH _ _ _ _ ((ag).wr ()) [] _).sat _;rw[Rt bq];exact U2 ahQ
theorem aty(x y:Fn):AW x y=(x,y,bq 1,a9 x y):=by unfold AW aso;rfl
abbrev aCY:an:=ant AW
theorem ahS(mul:Fn→Fn→Fn)(sm:Int→Fn)(x y:Fn):aH Tryz.prog [(216,kM mul),(223,Dz sm)] [] f225 ((qI).wr (x,y,())) [] kK= .leaf (Hy.wr (x,y,sm 1,mul x y)) []:=by kernel_rfl
theorem ahT:∀p_∈([(216,kM a9),(223,Dz bq)]:List (FuncId×an)),p_.2.Ok Tryz.prog p_.1:=(al jd (al iY aw))
theorem atz:aCY.Ok Tryz.prog 225:=by
 refine(an.aS call225 fun x_ y_ Q H_=>?_).sym;obtain⟨x,y,_⟩:=x_;have hq:=H_.2;refine(ar (tab:= [(216,kM a9),(223,Dz bq)]) mixed ahT func225 rfl (LT:= []) (ks:=kK) (aK.nil _)).use (D:= []) ?_ hq;show(aH _ _ _ _ ((qI).wr (x,y,())) [] _).sat _;rw[ahS a9 bq];exact U2 (aty x y)
theorem anu(y:Fn):qW y=jc (ij (a9 y y) (bq 1)) (gX (a9 fo (a9 y y)) (bq 1)):=by unfold qW afJ;rfl
abbrev ayP:an:=LI qW
theorem Ze(mul add sub:Fn→Fn→Fn)(sm:Int→Fn)(ratio:Fn→Fn→Fn×Bool)(ed:Fn)(y:Fn):aH Tryz.prog [(216,kM mul),(218,kM add),(285,kM sub),(223,Dz sm),(286,ane ratio),(219,ZW ed)] [] f224 ((H8).wr (y,())) [] kK= .leaf (Bl (ratio (sub (mul y y) (sm 1)) (add (mul ed (mul y y)) (sm 1)))) []:=by kernel_rfl
theorem Zf:∀p_∈([(216,kM a9),(218,kM gX),(285,kM ij),(223,Dz bq),(286,ane jc),(219,ZW fo)]:List (FuncId×an)),p_.2.Ok Tryz.prog p_.1:=(al jd (al Hu (al Hv (al iY (al Zd (al L2 aw))))))
theorem anv:ayP.Ok Tryz.prog 224:=by
 refine(an.aS call224 fun x_ y_ Q H_=>?_).sym;obtain⟨y,_⟩:=x_;have hq:=H_.2;refine(ar (tab:= [(216,kM a9),(218,kM gX),(285,kM ij),(223,Dz bq),(286,ane jc),(219,ZW fo)]) mixed Zf func224 rfl (LT:= []) (ks:=kK) (aK.nil _)).use (D:= []) ?_ hq;show(aH _ _ _ _ ((H8).wr (y,())) [] _).sat _;rw[Ze a9 gX ij bq jc fo];exact atv (anu y)
theorem ahU:gx=AW (qW (a9 (bq 4) (cM (bq 5)))).1 (a9 (bq 4) (cM (bq 5))):=by unfold gx GQ;rfl
abbrev atA:an:=e0P gx
theorem Rv(mul:Fn→Fn→Fn)(inv:Fn→Fn)(sm:Int→Fn)(xo:Fn→Fn×Bool)(of:Fn→Fn→Pn):aH Tryz.prog [(216,kM mul),(214,rQ inv),(223,Dz sm),(224,LI xo),(225,ant of)] [] f152 ((ag).wr ()) [] kK= .leaf (Hy.wr (of (xo (mul (sm 4) (inv (sm 5)))).1 (mul (sm 4) (inv (sm 5))))) []:=by kernel_rfl
theorem Rw:∀p_∈([(216,kM a9),(214,rQ cM),(223,Dz bq),(224,LI qW),(225,ant AW)]:List (FuncId×an)),p_.2.Ok Tryz.prog p_.1:=(al jd (al x8 (al iY (al anv (al atz aw)))))
theorem L3:atA.Ok Tryz.prog 152:=by
 refine(an.aS call152 fun x_ y_ Q H_=>?_).sym;have hq:=H_.2;refine(ar (tab:= [(216,kM a9),(214,rQ cM),(223,Dz bq),(224,LI qW),(225,ant AW)]) mixed Rw func152 rfl (LT:= []) (ks:=kK) (aK.nil _)).use (D:= []) ?_ hq;show(aH _ _ _ _ ((ag).wr ()) [] _).sat _;rw[Rv a9 cM bq qW AW];exact U2 ahU
theorem Zg(p q:Pn)(d:Fn):dq p q d=xZ a9 gX ij p q d:=by unfold dq;rfl
abbrev anw:an:=ans dq
theorem L4(mul add sub:Fn→Fn→Fn)(p q:Pn)(d:Fn):aH Tryz.prog [(216,kM mul),(218,kM add),(285,kM sub)] [] f221 (((ae Hy (ae Hy (ae uT ag)))).wr (p,q,d,())) [] kK= .leaf (Hy.wr (xZ mul add sub p q d)) []:=by kernel_rfl
theorem L5:∀p_∈([(216,kM a9),(218,kM gX),(285,kM ij)]:List (FuncId×an)),p_.2.Ok Tryz.prog p_.1:=(al jd (al Hu (al Hv aw)))
theorem DF:anw.Ok Tryz.prog 221:=by
 refine(an.aS call221 fun x_ y_ Q H_=>?_).sym;obtain⟨p,q,d,_⟩:=x_;have hq:=H_.2;refine(ar (tab:= [(216,kM a9),(218,kM gX),(285,kM ij)]) mixed L5 func221 rfl (LT:= []) (ks:=kK) (aK.nil _)).use (D:= []) ?_ hq;show(aH _ _ _ _ (((ae Hy (ae Hy (ae uT ag)))).wr (p,q,d,())) [] _).sat _;rw[L4 a9 gX ij];exact U2 (Zg p q d)
def dC(p:Pn):List Int:=(uB p).toList
theorem Bo(p:Pn):dC p=bif qG (a9 p.1 (cM p.2.2.1))then(lC (a9 p.2.1 (cM p.2.2.1))).set 31 (IntKind.u8.wrap ((lC (a9 p.2.1 (cM p.2.2.1))).getD 31 0+128))else lC (a9 p.2.1 (cM p.2.2.1)):=by
 unfold dC uB vZ lC;simp only[bE];generalize oV (a9 p.2.1 (cM p.2.2.1))=v
 cases qG (a9 p.1 (cM p.2.2.1))
 ·rfl
 ·exact UN v
abbrev ahV:an:=eNE dC
theorem Hz(mul:Fn→Fn→Fn)(inv:Fn→Fn)(UO:Fn→List Int)(C7:Fn→Bool)(p:Pn):aH Tryz.prog [(216,kM mul),(214,rQ inv),(215,eNY UO),(217,Rk C7)] [] f150 ((pnA).wr (p,())) [] kK= .ite (C7 (mul p.1 (inv p.2.2.1))) (.leaf (cY .u8 32 ((UO (mul p.2.1 (inv p.2.2.1))).set 31 (IntKind.u8.wrap ((UO (mul p.2.1 (inv p.2.2.1))).getD 31 0+128)))) []) (.leaf (cY .u8 32 (UO (mul p.2.1 (inv p.2.2.1)))) []):=by kernel_rfl
theorem HA:∀p_∈([(216,kM a9),(214,rQ cM),(215,eNY lC),(217,Rk qG)]:List (FuncId×an)),p_.2.Ok Tryz.prog p_.1:=(al jd (al x8 (al YT (al U0 aw))))
theorem Bp:ahV.Ok Tryz.prog 150:=by
 refine(an.aS call150 fun x_ y_ Q H_=>?_).sym;obtain⟨p,_⟩:=x_;have hq:=H_.2;refine(ar (tab:= [(216,kM a9),(214,rQ cM),(215,eNY lC),(217,Rk qG)]) mixed HA func150 rfl (LT:= []) (ks:=kK) (aK.nil _)).use (D:= []) ?_ hq;show(aH _ _ _ _ ((pnA).wr (p,())) [] _).sat _;rw[Hz a9 cM lC qG];exact G9 (fun h=>by rw[Bo,h];rfl) (fun h=>by rw[Bo,h];rfl)
abbrev Zh:Func:=f151
abbrev m9C:aQ (List LV) (Int×Unit):=(jk 2 (ai (ah (aD 0 0)) (ai (ah (aD 1 0)) (ai (ah (aD 2 0)) (ai (ah (aD 3 0)) (ai (ah (aD 4 0)) (ae (ah (aA .i64)) (jk 21 ag))))))))
abbrev ayQ:Wk:=.fr (cb 29 [(2,.ak),(3,.ak),(4,.ak),(5,.ak),(6,.ak),(7,.sym)])
abbrev m9X:aQ (List LV) (Unit):=(jk 4 (ai (ah (aD 0 0)) (jk 1 (ai (ah (aD 1 0)) (jk 22 ag)))))
abbrev iPn:aQ (Option Ev.Item) Pn:=fG 222 rPn
abbrev m9H:aQ Hp (List Int×Pn×Pn×Fn×Pn×Unit):=ae (gm 22 .u8 32) (ae iPn (ae iPn (ae iFn (ae iPn ag))))
abbrev atB:aQ Hp (Pn×Pn×Unit):=ae iPn (ae iPn ag)
abbrev U3(i:Nat):Wk:=.ba i (List.replicate 64 .sym)
def m9W:Exit→List Wk
 | .normal=> [ayQ,U3 2,Y6 3,U3 4,.auto]
 | .exit 0=> [.fr (cb 29 [(4,.ak),(6,.ak)]),.auto]
 |_=> []
theorem atC(bit:List Int→Int→Int)(p3:Pn→Pn→Fn→Pn)(n:List Int)(p z q:Pn)(d:Fn)(i:Int):ct Tryz.prog [(222,Q2 bit),(221,ans p3)] [] Zh 0 [] m9W ((aT m9C m9H).wr ((i,()),(n,p,z,d,q,())))=
 aG.ite (decide ((0:Int)≤i)) (aG.need (n.length=(32:Nat)∧(0:Int)≤i∧i<(256:Int)) (aG.ite (bit n i==(1:Int)) (aG.leaf Exit.normal ((aT m9C m9H).wr ((i64.wrap (i-(1:Int)),PUnit.unit),n,p,z,d,p3 (p3 q q d) p d,PUnit.unit)))
  (aG.leaf Exit.normal ((aT m9C m9H).wr ((i64.wrap (i-(1:Int)),PUnit.unit),n,p,z,d,p3 q q d,PUnit.unit))))) (aG.leaf (Exit.exit (0:Nat)) ((aT m9X atB).wr (PUnit.unit,z,q,PUnit.unit))):=by kernel_rfl
def uK(bit:List Int→Int→Int)(p3:Pn→Pn→Fn→Pn)(n:List Int)(p:Pn)(d:Fn)(k:Nat)(q:Pn):Pn:=bif bit n (255-(k:Int))==1 then p3 (p3 q q d) p d else p3 q q d
theorem ahW:∀p∈([(222,Q2 eO),(221,ans dq)]:List (FuncId×an)),p.2.Ok Tryz.prog p.1:=al uJ (al DF aw)
abbrev m9T:Type:=(Int×Unit)×List Int×Pn×Pn×Fn×Pn×Unit
def ayS(w:List Int→Pn→Fn→Pn→Pn)(x:m9T):aG:=.need (x.1.1=255∧x.2.1.length=32) (.leaf (.exit 0) ((aT m9X atB).wr ((),(x.2.2.2.1,w x.2.1 x.2.2.1 x.2.2.2.2.1 x.2.2.2.2.2.1,()))))
theorem DG:∃f:List Int→Pn→Fn→Pn→Pn,∀ (n:List Int) (p:Pn) (d:Fn) (z:Pn),f n p d z=(eQ (uK eO dq n p d) 256 z):=⟨fun n p d z=>eQ (uK eO dq n p d) 256 z,fun _ _ _ _=>rfl⟩
def wq:List Int→Pn→Fn→Pn→Pn:=Classical.choose DG
theorem DH(n:List Int)(p:Pn)(d:Fn)(z:Pn):wq n p d z=(eQ (uK eO dq n p d) 256 z):=Classical.choose_spec DG n p d z
theorem anx(x:m9T):Ex Tryz.prog [] (.loop (aP Zh 0)) ((aT m9C m9H).wr x) (ayS wq x):=by
 obtain⟨⟨i,_⟩,n,p,z,d,q,_⟩:=x;refine Ex.need fun⟨h1,h2⟩=>?_;simp only at h1 h2;subst h1
 have key:=c8 (fn:=Zh) (id:=0) (j:=0) (ws:=m9W) (hp:= []) mixed ahW (aK.nil _) 256 (fun k o=>(aT m9C m9H).wr ((255-(k:Int),()),(n,p,z,d,o,()))) (fun o=>(aT m9X atB).wr ((),(z,o,()))) (uK eO dq n p d) (fun _ _=>True)
  (fun k o R hk _ hn hx=>?_) (fun _ _ _ _=>trivial) 0 q (by omega) trivial
 ·rw[Nat.sub_zero,mD,← DH]at key;exact key
 rw[atC eO dq];refine⟨fun hb=>?_,fun hb=>?_⟩
 ·have g6:k<256:=by have:=of_decide_eq_true hb;omega
  have kf:=hn g6;have e3:i64.wrap ((255-(k:Int))-1)=255-((k+1:Nat):Int):=by rw[au (by omega) (by omega)];omega
  rw[e3];refine⟨⟨h2,by omega,by omega⟩,fun hc=>?_,fun hc=>?_⟩
  ·have:uK eO dq n p d k o=dq (dq o o d) p d:=(by unfold uK;rw[hc];rfl);rw[this]at kf;exact kf
  ·have:uK eO dq n p d k o=dq o o d:=(by unfold uK;rw[hc];rfl);rw[this]at kf;exact kf
 ·have:k=256:=by have:=of_decide_eq_false hb;omega
  exact hx this
abbrev anz:aQ (List LV) (List Int×Pn×Unit):=ae cB (ae Hy ag)
def eNM(g:List Int→Pn→Pn):an:=an.cm [] anz ag fun x _=>.leaf (some (x.1.length=32)) (Hy.wr (g x.1 x.2.1)) []
abbrev atD(w:List Int→Pn→Fn→Pn→Pn):df:= [(0,cJ (aT m9C m9H) 0 [ayQ,.auto,U3 2,Y6 3,U3 4] (ayS w))]
abbrev aqf(bit:List Int→Int→Int)(p3:Pn→Pn→Fn→Pn)(ed:Fn)(add:Fn→Fn→Fn)(z:Pn):List (FuncId×an):= [(222,Q2 bit),(221,ans p3),(219,ZW ed),(218,kM add),(220,e0P z)]
theorem Rx(w:List Int→Pn→Fn→Pn→Pn)(bit:List Int→Int→Int)(p3:Pn→Pn→Fn→Pn)(ed:Fn)(add:Fn→Fn→Fn)(z:Pn)(n:List Int)(p:Pn):aH Tryz.prog (aqf bit p3 ed add z) (atD w) Zh (anz.wr (n,p,())) [] kK=
  .need ((255:Int)=255∧n.length=32) (.leaf (Hy.wr (w n p (add ed ed) z)) []):=by kernel_rfl
theorem DI:∃f:List Int→Pn→Pn,∀ (n:List Int) (p:Pn),f n p=(AY (qT n) p):=⟨fun n p=>AY (qT n) p,fun _ _=>rfl⟩
def iq:List Int→Pn→Pn:=Classical.choose DI
theorem DJ(n:List Int)(p:Pn):iq n p=(AY (qT n) p):=Classical.choose_spec DI n p
abbrev atE:an:=eNM iq
theorem Ry(n:List Int)(p:Pn):wq n p (gX fo fo) lQ=iq n p:=by
 rw[DH,DJ];unfold AY UF;refine nx (fun k hk r=>?_) _ 256 (Nat.le_refl _);unfold uK qn eO;rw[Kw]
theorem atG:aK Tryz.prog [] (atD wq) (aJ Zh):=aK.bI (iu rfl (bt (hp:= []) anx) iE)
theorem L6:atE.Ok Tryz.prog 151:=by
 refine(an.aS call151 fun x_ y_ Q H_=>?_).sym;obtain⟨n,p,_⟩:=x_;obtain⟨hn,hq⟩:=H_;have hn:n.length=32:=hn;have hc:iO Tryz.prog 151 (anz.wr (n,p,())) [] (aH Tryz.prog (aqf eO dq fo gX lQ) (atD wq) Zh (anz.wr (n,p,())) [] kK):=ar mixed (al uJ (al DF (al L2 (al Hu (al ahR aw))))) func151 rfl atG;rw[Rx wq eO dq fo gX lQ]at hc;exact hc.use (D:= []) (show(Ev.End.need _ _).sat _ from⟨⟨rfl,hn⟩,by rw[Ry],rfl⟩) hq
def hh:Int:=65536
theorem cS:0<hh:=by decide
theorem Rz:hh=256 ^ 2:=by decide
def eF(b:List Int):List Int:=dg hh 34 (vd 256 b)
theorem anA{b:List Int}(hb:aN b)(hl:b.length≤64):0≤vd 256 b∧vd 256 b<256 ^ 64:=by
 have h0:=dt (by decide) (show dL 256 b from hb);have h1:=lA (by decide) (show dL 256 b from hb);exact⟨h0,Int.lt_of_lt_of_le h1 (lB (by decide) hl)⟩
theorem RA:(256:Int) ^ 64≤hh ^ 34:=by decide+kernel
theorem ahX{b:List Int}(hb:aN b)(hl:b.length≤64){k:Nat}(hk:k<b.length):
  (eF (b.take k)).set (k/2) (i64.wrap ((eF (b.take k)).getD (k/2) 0+shl .i64 (i64.wrap (b.getD k 0)) ((k%2*8:Nat):Int)))=eF (b.take (k+1)):=by
 have iw:dL 256 b:=hb;have hc:=dL.getD (by decide) iw k;have hV0:=dt (by decide) (iw.take k);have hV1:=lA (by decide) (iw.take k);rw[List.length_take,Nat.min_eq_left (by omega)]at hV1;unfold eF;rw[cq hk];generalize vd 256 (b.take k)=V at*;generalize b.getD k 0=c at*;have hi:k/2<34:=by omega
 have hs:k%2<2:=by omega
 have g6:k=2*(k/2)+k%2:=(Nat.div_add_mod k 2).symm;have hp:(256:Int) ^ k=hh ^ (k/2)*256 ^ (k%2):=by rw[Rz,← Int.pow_mul,← Int.pow_add,← g6]
 have hQ:0<hh ^ (k/2):=Int.pow_pos cS
 have hle:(256:Int) ^ (k%2)*256≤hh:=by
  rw[← Int.pow_succ,Rz];exact lB (by decide) (by omega)
 have hP:(0:Int)<256 ^ (k%2):=Int.pow_pos (by decide);have hdl:V/hh ^ (k/2)<256 ^ (k%2):=Int.ediv_lt_of_lt_mul hQ (by rw[Int.mul_comm,← hp];exact hV1);have hd0:0≤V/hh ^ (k/2):=Int.ediv_nonneg hV0 (Int.le_of_lt hQ)
 have eg:(dg hh 34 V).getD (k/2) 0=V/hh ^ (k/2):=by
  rw[j4 cS hi,Int.emod_eq_of_lt hd0 (by omega)]
 rw[eg];have ehh:hh=65536:=rfl;have ew:i64.wrap c=c:=au (by omega) (by omega);have hcP:c*256 ^ (k%2)≤255*256 ^ (k%2):=Int.mul_le_mul_of_nonneg_right (by omega) (by omega);have as3:0≤c*256 ^ (k%2):=Int.mul_nonneg hc.1 (by omega)
 have es:shl .i64 c ((k%2*8:Nat):Int)=c*256 ^ (k%2):=by
  rw[gL .i64 c _ (by simp[IntKind.bits];omega),ph,au (by omega) (by omega)]
 rw[ew,es,au (by omega) (by omega)];refine Dq cS ((jF cS 34 V).set ⟨by omega,by omega⟩) (by rw[List.length_set,bp]) ?_;rw[rM (by rw[bp];exact hi),eg,iG cS];have hV2:V<hh ^ 34:=Int.lt_of_lt_of_le hV1 (Int.le_trans (lB (by decide) (by omega)) RA);rw[Int.emod_eq_of_lt hV0 hV2]
 have e3:(V/hh ^ (k/2)+c*256 ^ (k%2)-V/hh ^ (k/2))*hh ^ (k/2)=c*256 ^ k:=by
  rw[hp,Int.mul_comm (hh ^ (k/2)),← Int.mul_assoc];congr 1;omega
 rw[e3]
 have dQ:V+c*256 ^ k<hh ^ 34:=by
  have h1:c*256 ^ k≤255*256 ^ k:=Int.mul_le_mul_of_nonneg_right (by omega) (Int.le_of_lt (Int.pow_pos (by decide)));have h2:(256:Int) ^ (k+1)≤256 ^ 64:=lB (by decide) (by omega);have h3:=RA;rw[Int.pow_succ]at h2;omega
 exact(Int.emod_eq_of_lt (Int.add_nonneg hV0 (Int.mul_nonneg hc.1 (Int.le_of_lt (Int.pow_pos (by decide))))) dQ).symm
def HB: {n:Nat}→Int→Vec Int n→Vec Int n
 |0,_,_=>()
 |_+1,c,v=>(cZ (w (c+w (2*v.1))) 65535,HB (down (w (c+w (2*v.1))) 16) v.2)
def Bq: {n:Nat}→Nat→Vec Int n→List Int→Vec Int n
 |0,_,_,_=>()
 |_+1,k,v,l=>(w (v.1-l.getD k 0),Bq (k+1) v.2 l)
def x9:(n:Nat)→Int→Vec Int n
 |0,_=>()
 |n+1,x=>(x%65536,x9 n (x/65536))
def dgT:(n:Nat)→Int→Vec Int (n+1)
 |0,x=>(x,())
 |n+1,x=>(x%65536,dgT n (x/65536))
def vdV: {n:Nat}→Vec Int n→Int
 |0,_=>0
 |_+1,v=>v.1+65536*vdV v.2
def Br: {n:Nat}→Vec Int n→Prop
 |0,_=>True
 |_+1,v=>(-65536<v.1∧v.1<65536)∧Br v.2
theorem ahY:∀ (n:Nat) (x c:Int),0≤x→0≤c→c≤1→HB c (x9 n x)=x9 n (2*x+c)
 |0,_,_,_,_,_=>rfl
 |n+1,x,c,hx,h0,h1=>by
  show(cZ (w (c+w (2*(x%65536)))) 65535,HB (down (w (c+w (2*(x%65536)))) 16) (x9 n (x/65536)))=((2*x+c)%65536,x9 n ((2*x+c)/65536));have e1:w (2*(x%65536))=2*(x%65536):=au (by omega) (by omega);have e2:w (c+2*(x%65536))=c+2*(x%65536):=au (by omega) (by omega);rw[e1,e2,Qz,GU,ahY n (x/65536) _ (by omega) (by omega) (by omega)]
  congr 1
  ·omega
  ·congr 1;omega
theorem L7:∀ (n k:Nat) (x Y:Int) (l:List Int),(∀j,j<n→l.getD (k+j) 0=Y/65536 ^ j%65536)→vdV (Bq k (x9 n x) l)=x%65536 ^ n-Y%65536 ^ n∧Br (Bq k (x9 n x) l)
 |0,_,x,Y,_,_=>by simp[Bq,vdV,Br,Int.emod_one]
 |n+1,k,x,Y,l,h=>by
  have h0:=h 0 (by omega);simp only[Nat.add_zero,Int.pow_zero,Int.ediv_one]at h0
  obtain⟨i1,i2⟩:=L7 n (k+1) (x/65536) (Y/65536) l fun j hj=>by
   have:=h (j+1) (by omega);rw[show k+(j+1)=k+1+j from by omega]at this;rw[this,Int.pow_succ,Int.mul_comm,← Int.ediv_ediv_of_nonneg (by decide)]
  have e1:w (x%65536-l.getD k 0)=x%65536-Y%65536:=by rw[h0];exact au (by omega) (by omega)
  show w (x%65536-l.getD k 0)+65536*vdV (Bq (k+1) (x9 n (x/65536)) l)=_∧((-65536<w (x%65536-l.getD k 0)∧w (x%65536-l.getD k 0)<65536)∧Br (Bq (k+1) (x9 n (x/65536)) l));rw[e1,i1];refine⟨?_,⟨by omega,by omega⟩,i2⟩;have s1:=ny (B:=65536) (by decide) (P:=65536 ^ n) (Int.pow_pos (by decide)) x;have s2:=ny (B:=65536) (by decide) (P:=65536 ^ n) (Int.pow_pos (by decide)) Y;rw[Int.pow_succ,Int.mul_comm ((65536:Int) ^ n),← s1,← s2];omega
theorem Bs:∀ (n:Nat) (x:Int) (v:Vec Int n),-4294967296<x→x<4294967296→Br v→gI x v=dgT n (x+65536*vdV v)
 |0,x,v,_,_,_=>by show(x,())=(x+65536*0,());rw[Int.mul_zero,Int.add_zero]
 |n+1,x,v,h1,h2,h3=>by
  obtain⟨h4,h5⟩:=h3;show(cZ x 65535,gI (w (v.1+down x 16)) v.2)=((x+65536*(v.1+65536*vdV v.2))%65536,dgT n ((x+65536*(v.1+65536*vdV v.2))/65536));have e1:w (v.1+x/65536)=v.1+x/65536:=au (by omega) (by omega);rw[Qz,GU,e1,Bs n _ v.2 (by omega) (by omega) h5];generalize vdV v.2=Z
  congr 1
  ·omega
  ·congr 1;omega
theorem U4:∀ (n:Nat) (x:Int),(dgT n x).get n=x/65536 ^ n
 |0,x=>by rw[Int.pow_zero,Int.ediv_one];rfl
 |n+1,x=>by
  show(dgT n (x/65536)).get n=_;rw[U4 n,Int.pow_succ,Int.mul_comm,Int.ediv_ediv_of_nonneg (by decide)]
theorem ahZ(n:Nat)(x:Int):dgT (n+1) x=(x%65536,dgT n (x/65536)):=rfl
theorem L8(n:Nat)(x:Int):x9 (n+1) x=(x%65536,x9 n (x/65536)):=rfl
theorem anD(n:Nat):∀ (x:Int),0≤x→x<65536 ^ (n+1)→dgT n x=x9 (n+1) x:=by
 induction n with
 |zero=>
  intro x h0 h1;rw[L8,Int.emod_eq_of_lt h0 (by rwa [Int.pow_succ,Int.pow_zero,Int.one_mul]at h1)];rfl
 |succ n ih=>
  intro x h0 h1;rw[Int.pow_succ]at h1;have h2:x/65536<65536 ^ (n+1):=Int.ediv_lt_of_lt_mul (by decide) h1;rw[ahZ,L8,ih (x/65536) (by omega) h2]
def kH:List Int:=dg 256 32 ll
def Zi(v:Vec Int 17):Vec Int 17:=gI v.1 v.2
theorem Zj:vd 256 kH=ll:=by
 unfold kH;rw[iG (by decide)];exact Int.emod_eq_of_lt (by have:=fq;omega) (by decide+kernel)
theorem ayU(j:Nat)(hj:j<17):(eF kH).getD (0+j) 0=ll/65536 ^ j%65536:=by
 unfold eF;rw[Nat.zero_add,j4 cS (by omega),Zj];rfl
theorem p17:ll+ll<65536 ^ 17:=by decide+kernel
theorem atH{R c:Int}(hR:0≤R∧R<ll)(hc:0≤c∧c<2):
  (if 0≤(Zi (Bq 0 (HB c (x9 17 R)) (eF kH))).get 16 then Zi (Bq 0 (HB c (x9 17 R)) (eF kH))else HB c (x9 17 R))=x9 17 ((2*R+c)%ll):=by
 have hp:=p17;rw[ahY 17 R c hR.1 hc.1 (by omega)];obtain⟨v1,v2⟩:=L7 17 0 (2*R+c) ll (eF kH) ayU;rw[Int.emod_eq_of_lt (by omega) (by omega),Int.emod_eq_of_lt (by have:=fq;omega) (by have:=fq;omega)]at v1
 have ec:Zi (Bq 0 (x9 17 (2*R+c)) (eF kH))=dgT 16 (2*R+c-ll):=by
  unfold Zi;rw[Bs 16 _ _ (by have:=v2.1.1;omega) (by have:=v2.1.2;omega) v2.2,← v1];rfl
 rw[ec,U4,Lm fq hR hc];have hq:(0:Int)<65536 ^ 16:=Int.pow_pos (by decide)
 by_cases h:2*R+c<ll
 ·rw[if_pos h,if_neg];intro h';have:=(Int.ediv_nonneg_iff_of_pos hq).1 h';omega
 ·rw[if_neg h,if_pos ((Int.ediv_nonneg_iff_of_pos hq).2 (by omega)),anD 16 _ (by omega) (by show _<(65536:Int) ^ 17;omega)]
abbrev anE:an:=e0B ath
theorem L9:aH Tryz.prog [] [] f280 ((ag).wr ()) [] [.eZ 0 0 32 .u8,.auto]= .leaf (cY .u8 32 ath) []:=by kernel_rfl
theorem Ma:∀p_∈([]:List (FuncId×an)),p_.2.Ok Tryz.prog p_.1:=aw
theorem Zk:anE.Ok Tryz.prog 280:=by
 refine(an.aS call280 fun x_ y_ Q H_=>?_).sym;have hq:=H_.2;refine(ar (tab:= []) mixed Ma func280 rfl (LT:= []) (ks:= [.eZ 0 0 32 .u8,.auto]) (aK.nil _)).use (D:= []) ?_ hq;show(aH _ _ _ _ ((ag).wr ()) [] _).sat _;rw[L9];exact⟨rfl,rfl⟩
abbrev anF:Func:=f213
abbrev dgC:aQ (List LV) (List Int×Int×Unit):=(ae (ah (gg false false u8)) (jk 2 (ai (ah (j0 0 0)) (ae (ah (aA .i64)) (jk 28 ag)))))
abbrev ayW:Wk:=.fr (cb 33 [(0,.ak),(3,.ak),(4,.sym)])
abbrev dgX:aQ (List LV) (Unit):=(jk 3 (ai (ah (j0 0 0)) (jk 29 ag)))
abbrev aC1:Wk:=.fr (cb 33 [(3,.ak)])
abbrev gf:aQ Hp (List Int×Unit):=ae (cE 0 (.int .i64)) ag
def dgW:Exit→List Wk
 | .normal=> [ayW,.auto]
 | .exit 0=> [aC1,.auto]
 |_=> []
theorem atI(b o:List Int)(i:Int):ct Tryz.prog [] [] anF 0 [] dgW ((aT dgC gf).wr ((b,i,()),(o,())))=
 aG.ite (decide (i<(↑b.length:Int))) (aG.need ((0:Int)≤i64.wrap (i.tdiv (2:Int))∧i64.wrap (i.tdiv (2:Int))<(↑o.length
 :Int)) (aG.need ((0:Int)≤i∧i<(↑b.length:Int)) (aG.need ((0:Int)≤u64.wrap (i64.wrap ((8:Int)*i.tmod (2:Int))))
 (aG.need ((0:Int)≤i64.wrap (i.tdiv (2:Int))∧i64.wrap (i.tdiv (2:Int))<(↑o.length:Int)) (aG.leaf Exit.normal ((aT dgC
 gf).wr ((b,i64.wrap (i+(1:Int)),PUnit.unit),o.set (i64.wrap (i.tdiv (2:Int))).toNat (i64.wrap (o.getD
 (i64.wrap (i.tdiv (2:Int))).toNat (0:Int)+shl i64 (i64.wrap (b.getD i.toNat (0:Int))) (u64.wrap
 (i64.wrap ((8:Int)*i.tmod (2:Int)))))),PUnit.unit))))))) (aG.leaf (Exit.exit (0:Nat)) ((aT dgX gf).wr (PUnit.unit,o,
 PUnit.unit))):=by kernel_rfl
abbrev anG:Func:=f212
abbrev mdC:aQ (List LV) (List Int×Int×Unit):=(ae (ah (gg false false (.int .i64))) (jk 1 (ai (ah (aD 0 0)) (jk 1 (ai (ah (j0 1 0)) (ai (ah (aD 2 0)) (ae (ah (aA .i64)) (jk 105 ag))))))))
abbrev ayX:Wk:=.fr (cb 112 [(0,.ak),(2,.ak),(4,.ak),(5,.ak),(6,.sym)])
abbrev mdX:aQ (List LV) (Unit):=(jk 2 (ai (ah (aD 0 0)) (jk 2 (ai (ah (aD 1 0)) (jk 106 ag)))))
abbrev aC3:Wk:=.fr (cb 112 [(2,.ak),(5,.ak)])
abbrev V17:=Vec Int 17
abbrev ayY:aQ (Option Ev.Item) V17:=fG 348 (iU .i64 17)
abbrev mdH:aQ Hp (List Int×List Int×V17×Unit):=ae (gm 22 .u8 32) (ae (cE 0 (.int .i64)) (ae ayY ag))
abbrev atJ:aQ Hp (List Int×V17×Unit):=ae (gm 22 .u8 32) (ae ayY ag)
def mdW:Exit→List Wk
 | .normal=> [ayX,.dz 0 0 32 .u8,.ba 2 (List.replicate 17 .sym),.auto]
 | .exit 0=> [aC3,.dz 0 0 32 .u8,.ba 2 (List.replicate 17 .sym),.auto]
 |_=> []
def ayZ(g:List Int→List Int)(x:(List Int×Int×Unit)×List Int×Unit):aG:=.need (x.1.2.1=0∧aN x.1.1∧x.1.1.length≤64∧x.2.1=List.replicate 34 0) (.leaf (.exit 0) ((aT dgX gf).wr ((),(g x.1.1,()))))
theorem ah0:eF []=List.replicate 34 0:=Hf cS 34
theorem anH(x):Ex Tryz.prog [] (.loop (aP anF 0)) ((aT dgC gf).wr x) (ayZ eF x):=by
 obtain⟨⟨b,i,_⟩,o,_⟩:=x;refine Ex.need fun⟨h1,h2,h3,h4⟩=>?_;simp only at h1 h2 h3 h4;subst h1 h4
 have key:=c8 (fn:=anF) (id:=0) (j:=0) (ws:=dgW) (hp:= []) mixed aw (aK.nil _) b.length (fun k (_:Unit)=>(aT dgC gf).wr ((b,(k:Int),()),(eF (b.take k),()))) (fun _=>(aT dgX gf).wr ((),(eF b,()))) (fun _ u=>u) (fun _ _=>True)
  (fun k o R hk _ hn hx=>?_) (fun _ _ _ _=>trivial) 0 () (by omega) trivial
 ·rw[List.take_zero,ah0]at key;exact key
 rw[atI];have e1:i64.wrap ((k:Int).tdiv 2)=((k/2:Nat):Int):=fw k 2 (by omega)
 have e2:u64.wrap (i64.wrap (8*(k:Int).tmod 2))=((k%2*8:Nat):Int):=by
  rw[show(k:Int).tmod 2=((k%2:Nat):Int)from Ln k 2,au (by omega) (by omega),wrap_u64 (by omega) (by omega)];omega
 have hl:(eF (b.take k)).length=34:=bp _ _;refine⟨fun hb=>?_,fun hb=>?_⟩
 ·have g6:k<b.length:=by have:=of_decide_eq_true hb;omega
  rw[e1,e2,Int.toNat_natCast,Int.toNat_natCast,ahX h2 h3 g6,bQ k (by omega)];exact⟨by omega,by omega,by omega,by omega,hn g6⟩
 ·have:k=b.length:=by have:=of_decide_eq_false hb;omega
  subst this;have:=hx rfl;rw[List.take_length];exact this
abbrev ay0(g:List Int→List Int):df:= [(0,cJ (aT dgC gf) 0 [ayW,.auto] (ayZ g))]
def eDg(g:List Int→List Int):an:=an.cm [some u8] bA ag fun x _=>.leaf (some (aN x.1∧x.1.length≤64)) (.one (.sc (.sl 0 0))) [(0,.own 0 (.int .i64) (g x.1))]
theorem Zl(g:List Int→List Int)(b:List Int):aH Tryz.prog [] (ay0 g) anF (bA.wr (b,())) [] [.cP 0 (.int .i64),.auto,.aF]=
 End.need ((34:Int)=(34:Int)∧(0:Int)≤(34:Int)∧(272:Int)≤(70368744177664:Int)∧(34:Int)≤(70368744177664:Int)) (End.need ((0
 :Int)=(0:Int)∧aN b∧b.length≤(64:Nat)∧List.replicate (34:Nat) (0:Int)=List.replicate (34:Nat) (0:Int)) (End.leaf (LV.one
 (VV.sc (SV.sl (0:Nat) (0:Nat)))) [some (Item.own (0:Nat) (Ty.int i64) (g b))])):=by kernel_rfl
abbrev ay1:an:=eDg eF
theorem HC:ay1.Ok Tryz.prog 213:=by
 refine(an.aS call213 fun x_ y_ Q H_=>?_).sym;obtain⟨b,_⟩:=x_;obtain⟨hn,hq⟩:=H_;refine(ar mixed aw func213 rfl (LT:=ay0 eF) (ks:= [.cP 0 (.int .i64),.auto,.aF]) (aK.bI (iu rfl (bt (hp:= []) anH) iE))).use (D:= [(0,.own 0 (.int .i64) (eF b))]) ?_ hq;show(aH _ _ _ _ (bA.wr (b,())) [] _).sat _;rw[Zl];exact⟨by decide,⟨rfl,hn.1,hn.2,rfl⟩,rfl,rfl⟩
def ah1(l:List Prop)(r:aG):aG:=l.foldr aG.need r
theorem Bu{R:Exit→St→Prop}:∀ {l:List Prop} {r:aG},(∀p∈l,p)→r.sat R→(ah1 l r).sat R
 | [],_,_,h=>h
 |p::l,r,hl,h=>⟨hl p (by simp),Bu (fun q hq=>hl q (by simp[hq])) h⟩
def Mb(d:List Int)(i:Int):Int:=aM .i64 (shr .i64 (d.getD (i64.wrap (i.tdiv 16)).toNat 0) (u64.wrap (i.tmod 16))) 1
theorem atK(d o l:List Int)(r:V17)(i:Int):ct Tryz.prog [] [] anG 0 [] mdW ((aT mdC mdH).wr ((d,i,()),(o,l,r,())))=
 aG.ite (decide (0≤i)) (ah1 ([0≤i64.wrap (i.tdiv 16)∧i64.wrap (i.tdiv 16)<(d.length:Int),0≤u64.wrap (i.tmod 16)]++(List.range 17).map fun k:Nat=>(0≤(k:Int)∧(k:Int)<(l.length:Int)))
  (aG.ite (decide (0≤(Zi (Bq 0 (HB (Mb d i) r) l)).get 16)) (aG.leaf .normal ((aT mdC mdH).wr ((d,i64.wrap (i-1),()),(o,l,Zi (Bq 0 (HB (Mb d i) r) l),()))))
   (aG.leaf .normal ((aT mdC mdH).wr ((d,i64.wrap (i-1),()),(o,l,HB (Mb d i) r,())))))) (aG.leaf (.exit 0) ((aT mdX atJ).wr ((),(o,r,())))):=by kernel_rfl
def okD(d:List Int):Prop:=d.length=34∧dL hh d
abbrev mdT:Type:=(List Int×Int×Unit)×List Int×List Int×V17×Unit
def ay2(g:List Int→V17)(LL:List Int)(x:mdT):aG:=.need (x.1.2.1=543∧okD x.1.1∧x.2.2.1=LL∧x.2.2.2.1=x9 17 0) (.leaf (.exit 0) ((aT mdX atJ).wr ((),(x.2.1,g x.1.1,()))))
def anI(d:List Int):V17:=x9 17 (vd hh d%ll)
theorem atL{d:List Int}(h:okD d){i:Nat}(hi:i<544):Mb d (i:Int)=vd hh d/2 ^ i%2:=by
 have e1:i64.wrap ((i:Int).tdiv 16)=((i/16:Nat):Int):=fw i 16 (by omega)
 have e2:u64.wrap ((i:Int).tmod 16)=((i%16:Nat):Int):=by
  rw[show(i:Int).tmod 16=((i%16:Nat):Int)from Ln i 16,wrap_u64 (by omega) (by omega)]
 unfold Mb;rw[e1,e2,Int.toNat_natCast,k8 (m:=1) (by decide) _ 1 (by decide),cz .i64 _ (i%16) (by simp[IntKind.bits];omega)];have:=qs (b:=2) (by decide) (m:=16) (by decide) (l:=d) (show dL (2 ^ 16) d from h.2) (k:=i) (by rw[h.1];omega);have e3:(((2 ^ (i%16):Nat)):Int)=2 ^ (i%16):=by rw[Int.natCast_pow];rfl
 rw[e3];exact this
theorem anJ(x:mdT):Ex Tryz.prog [] (.loop (aP anG 0)) ((aT mdC mdH).wr x) (ay2 anI (eF kH) x):=by
 obtain⟨⟨d,i,_⟩,o,l,r,_⟩:=x;refine Ex.need fun⟨h1,h2,h3,h4⟩=>?_;simp only at h1 h2 h3 h4;subst h1 h3 h4;have hV0:=dt cS h2.2;have hV1:=lA cS h2.2;rw[h2.1,show hh ^ 34=2 ^ 544 from by decide+kernel]at hV1
 have key:=c8 (fn:=anG) (id:=0) (j:=0) (ws:=mdW) (hp:= []) mixed aw (aK.nil _) 544 (fun k (_:Unit)=>(aT mdC mdH).wr ((d,543-(k:Int),()),(o,eF kH,x9 17 (vd hh d/2 ^ (544-k)%ll),()))) (fun _=>(aT mdX atJ).wr ((),(o,anI d,()))) (fun _ u=>u) (fun _ _=>True)
  (fun k u R hk _ hn hx=>?_) (fun _ _ _ _=>trivial) 0 () (by omega) trivial
 ·rw[show vd hh d/2 ^ (544-0)=0 from Int.ediv_eq_zero_of_lt hV0 hV1,Int.zero_emod]at key;exact key
 rw[atK];refine⟨fun hb=>?_,fun hb=>?_⟩
 ·have g6:k<544:=by have:=of_decide_eq_true hb;omega
  have e0:(543-(k:Int))=((544-(k+1):Nat):Int):=by omega
  have e3:i64.wrap (543-(k:Int)-1)=543-((k+1:Nat):Int):=by rw[au (by omega) (by omega)];omega
  have kf:=hn g6;have D9:=atL h2 (i:=544-(k+1)) (by omega);have e1:i64.wrap ((543-(k:Int)).tdiv 16)=(((544-(k+1))/16:Nat):Int):=by rw[e0];exact fw _ 16 (by omega)
  have e2:u64.wrap ((543-(k:Int)).tmod 16)=(((544-(k+1))%16:Nat):Int):=by
   rw[e0,show(((544-(k+1):Nat):Int)).tmod 16=(((544-(k+1))%16:Nat):Int)from Ln _ 16,wrap_u64 (by omega) (by omega)]
  rw[← e0]at D9;have hs:=Dr (vd hh d) (544-(k+1));rw[show 544-(k+1)+1=544-k from by omega]at hs
  have em:(vd hh d/2 ^ (544-(k+1)))%ll=(2*(vd hh d/2 ^ (544-k)%ll)+vd hh d/2 ^ (544-(k+1))%2)%ll:=by
   conv=>lhs;rw[hs]
   exact UP _ _ _
  have sa:0≤vd hh d/2 ^ (544-(k+1))%2∧vd hh d/2 ^ (544-(k+1))%2<2:=by omega
  have hR:0≤vd hh d/2 ^ (544-k)%ll∧vd hh d/2 ^ (544-k)%ll<ll:=⟨Int.emod_nonneg _ (by have:=fq;omega),Int.emod_lt_of_pos _ fq⟩;have hm:=atH hR sa;rw[← em]at hm;rw[← hm]at kf;rw[D9,e3];refine Bu (fun p hp=>?_) ⟨fun hc=>?_,fun hc=>?_⟩
  ·rcases List.mem_append.1 hp with hp|hp
   ·simp only[List.mem_cons,List.not_mem_nil,or_false]at hp;rcases hp with rfl|rfl
    ·rw[e1,h2.1];omega
    ·rw[e2];omega
   ·obtain⟨j,hj,rfl⟩:=List.mem_map.1 hp;have hj:=List.mem_range.1 hj;have:(eF kH).length=34:=bp _ _;rw[this];omega
  ·rw[if_pos (of_decide_eq_true hc)]at kf;exact kf
  ·rw[if_neg (of_decide_eq_false hc)]at kf;exact kf
 ·have:k=544:=by have:=of_decide_eq_false hb;omega
  subst this;have:=hx rfl;simp only[Nat.sub_self,Int.pow_zero,Int.ediv_one];exact this
abbrev ay3(g:List Int→V17)(LL:List Int):df:= [(0,cJ (aT mdC mdH) 0 [ayX,.auto,.dz 0 0 32 .u8,.ba 2 (List.replicate 17 .sym)] (ay2 g LL))]
def atM(v:V17):List Int:=(List.range 32).map fun i=>IntKind.u8.wrap (aM .i64 (shr .i64 (v.get (i/2)) ((8*(i%2):Nat):Int)) 255)
abbrev ah2:aQ (List LV) (List Int×Unit):=ae (ah (gg false false (.int .i64))) ag
def eMd(g:List Int→List Int):an:=an.cm [some (.int .i64)] ah2 ag fun x _=>.leaf (some (okD x.1)) (cY .u8 32 (g x.1)) []
theorem Zm(g:List Int→V17)(LL o:List Int)(DK:List Int→List Int)(d:List Int):aH Tryz.prog [(280,e0B o),(213,eDg DK)] (ay3 g LL) anG (ah2.wr (d,())) [] [.fr [.sym],.eZ 0 0 32 .u8,.auto]=
  .need ((0:Int)≤0∧(0:Int)≤32∧(32:Int)≤32) (.need (aN (List.take 32 (List.drop 0 o))∧(List.take 32 (List.drop 0 o)).length≤64) (.need (i64.wrap (i64.wrap (16*(d.length:Int))-1)=543∧okD d∧DK (List.take 32 (List.drop 0 o))=LL∧(x9 17 0)=x9 17 0) (.leaf (cY .u8 32 (atM (g d))) []))):=by kernel_rfl
theorem U6:∀ (n:Nat) (x:Int) (k:Nat),k<n→(x9 n x).get k=x/65536 ^ k%65536
 |0,_,_,h=>by omega
 |n+1,x,0,_=>by rw[Int.pow_zero,Int.ediv_one];rfl
 |n+1,x,k+1,h=>by
  have:=U6 n (x/65536) k (by omega);rw[Int.pow_succ,Int.mul_comm,← Int.ediv_ediv_of_nonneg (by decide),← this];rfl
theorem atN{R:Int}(hR:0≤R∧R<ll):atM (x9 17 R)=dg 256 32 R:=by
 rw[← ag6 (by decide) 32 R];unfold atM;refine List.map_congr_left fun i hi=>?_;have hi:=List.mem_range.1 hi;have hp:=p17;have hl:=fq;rw[U6 17 R (i/2) (by omega),k8 (m:=8) (by decide) _ 255 (by decide),cz .i64 _ (8*(i%2)) (by simp[IntKind.bits];omega)];have key:=qs (b:=256) (by decide) (m:=2) (by decide) (l:=dg hh 17 R) (show dL (256 ^ 2) _ from jF cS 17 R) (k:=i) (by rw[bp];omega)
 rw[j4 cS (by omega),show vd (256 ^ 2) (dg hh 17 R)=R from by
  rw[← Rz,iG cS];exact Int.emod_eq_of_lt hR.1 (by show R<(65536:Int) ^ 17;omega)]at key
 have e1:(((2 ^ (8*(i%2)):Nat)):Int)=256 ^ (i%2):=by rw[Nat.pow_mul,Int.natCast_pow];rfl
 have e2:(((2 ^ 8:Nat)):Int)=256:=by decide
 rw[e1,e2,wrap_u8,← key,Int.emod_emod_of_dvd _ (by decide)];rfl
def HD(d:List Int):List Int:=dg 256 32 (vd hh d%ll)
abbrev ay5:an:=eMd HD
theorem ah3:List.take 32 (List.drop 0 ath)=kH:=aX (bp _ _)
theorem U7:ay5.Ok Tryz.prog 212:=by
 refine(an.aS call212 fun x_ y_ Q H_=>?_).sym;obtain⟨d,_⟩:=x_;obtain⟨hn,hq⟩:=H_;have hn:okD d:=hn;refine(ar mixed (al Zk (al HC aw)) func212 rfl (LT:=ay3 anI (eF kH)) (ks:= [.fr [.sym],.eZ 0 0 32 .u8,.auto]) (aK.bI (iu rfl (bt (hp:= []) anJ) iE))).use (D:= []) ?_ hq;show(aH _ _ _ _ (ah2.wr (d,())) [] _).sat _;rw[Zm,ah3];have ho:aN kH∧kH.length≤64:=⟨jF (by decide) _ _,by rw[show kH.length=32 from bp _ _];decide⟩;refine⟨by decide,ho,⟨by rw[hn.1];decide,hn,rfl,rfl⟩,?_,rfl⟩;unfold anI HD;rw[atN ⟨Int.emod_nonneg _ (by have:=fq;omega),Int.emod_lt_of_pos _ fq⟩]
theorem j5(b:List Int):okD (eF b):=⟨bp _ _,jF cS _ _⟩
theorem HE{b:List Int}(hb:aN b)(hl:b.length≤64):vd hh (eF b)=vd 256 b:=by
 obtain⟨h0,h1⟩:=anA hb hl;have:=RA;unfold eF;rw[iG cS,Int.emod_eq_of_lt h0 (by omega)]
abbrev ah4:an:=Cb im
theorem HF(DK md:List Int→List Int)(b:List Int):aH Tryz.prog [(213,eDg DK),(212,eMd md)] [] f147 ((ahn).wr (b,())) [] kR=
 End.need ((0:Int)≤(0:Int)∧(0:Int)≤(64:Int)∧(64:Int)≤(64:Int)) (End.need (aN (List.take (64:Nat) (List.drop (0:Nat) b))∧
 (List.take (64:Nat) (List.drop (0:Nat) b)).length≤(64:Nat)) (End.need (okD (DK (List.take (64:Nat) (List.drop (0:Nat) b)))) (End.leaf
 (LV.one (VV.agg [SV.arr (Ty.int IntKind.u8) (32:Nat) (md (DK (List.take (64:Nat) (List.drop (0:Nat) b))))])) []))):=by kernel_rfl
theorem HG:∀p_∈([(213,eDg eF),(212,eMd HD)]:List (FuncId×an)),p_.2.Ok Tryz.prog p_.1:=(al HC (al U7 aw))
theorem RC:ah4.Ok Tryz.prog 147:=by
 refine(an.aS call147 fun x_ y_ Q H_=>?_).sym;obtain⟨b,_⟩:=x_;obtain⟨hn,hq⟩:=H_;have hn:b.length=64∧aN b:=hn;refine(ar (tab:= [(213,eDg eF),(212,eMd HD)]) mixed HG func147 rfl (LT:= []) (ks:=kR) (aK.nil _)).use (D:= []) ?_ hq;show(aH _ _ _ _ ((ahn).wr (b,())) [] _).sat _;rw[HF eF HD];rw[aX hn.1];have e:HD (eF b)=im b:=by unfold HD im;rw[HE hn.2 (by omega)]
 rw[e];exact⟨by decide,⟨hn.2,by rw[hn.1];decide⟩,j5 b,rfl,rfl⟩
theorem kI{l:List Int}{i:Nat}(h:i<l.length)(x:Int)(j:Nat):(l.set i x).getD j 0=if i=j then x else l.getD j 0:=by
 simp only[List.getD_eq_getElem?_getD,List.getElem?_set]
 by_cases e:i=j
 ·subst e;simp[h]
 ·simp[e]
theorem DL{l m:List Int}(h:l.length=m.length)(hj:∀j,j<l.length→l.getD j 0=m.getD j 0):l=m:=by
 refine List.ext_getElem? fun i=>?_
 by_cases hi:i<l.length
 ·have:=hj i hi;simp only[List.getD_eq_getElem?_getD,List.getElem?_eq_getElem hi,List.getElem?_eq_getElem (show i<m.length by omega),Option.getD_some]at this;rw[List.getElem?_eq_getElem hi,List.getElem?_eq_getElem (show i<m.length by omega),this]
 ·rw[List.getElem?_eq_none (by omega),List.getElem?_eq_none (by omega)]
def caS(k:Nat)(d:List Int):List Int:=(d.set (k+1) (i64.wrap (d.getD (k+1) 0+shr .i64 (d.getD k 0) 16))).set k (aM .i64 ((d.set (k+1) (i64.wrap (d.getD (k+1) 0+shr .i64 (d.getD k 0) 16))).getD k 0) 65535)
def okC(d:List Int):Prop:=d.length=34∧dL 1099511627776 d∧vd hh d<hh ^ 34
def Mc(d:List Int):List Int:=dg hh 34 (vd hh d)
theorem RD:∀ {l:List Int},dL 1099511627776 l→0≤vd hh l∧vd hh l≤1099511627776*hh ^ l.length-1099511627776
 | [],_=>by simp[vd]
 |x::l,h=>by
  obtain⟨i1,i2⟩:=RD (l:=l) h.tail;have hx:=h.head;have e:hh=65536:=rfl;have hv:vd hh (x::l)=x+hh*vd hh l:=rfl;have hp:(1:Int)≤hh ^ l.length:=Int.pow_pos cS;rw[hv,List.length_cons,Int.pow_succ];clear hv;generalize hh ^ l.length=P at*;generalize vd hh l=U at*;rw[e];omega
def CaI(d:List Int)(k:Nat)(s:List Int):Prop:=s.length=34∧∀j,j<34→s.getD j 0=if j<k then vd hh d/hh ^ j%hh else if j=k then d.getD j 0+vd hh (d.take k)/hh ^ k else d.getD j 0
theorem HI{d:List Int}{k:Nat}(hk:k<d.length):vd hh (d.take (k+1))/hh ^ k=d.getD k 0+vd hh (d.take k)/hh ^ k:=by
 rw[cq hk,Int.add_mul_ediv_right _ _ (Int.ne_of_gt (Int.pow_pos cS)),Int.add_comm]
theorem ah5{d:List Int}{k:Nat}(hk:k<d.length):(d.getD k 0+vd hh (d.take k)/hh ^ k)%hh=vd hh d/hh ^ k%hh:=by
 rw[← HI hk]
 have e:vd hh d=vd hh (d.take (k+1))+hh ^ (k+1)*vd hh (d.drop (k+1)):=by
  have:=qp (B:=hh) (d.take (k+1)) (d.drop (k+1));rw[List.take_append_drop,List.length_take,Nat.min_eq_left (by omega)]at this;exact this
 rw[e,Int.pow_succ,Int.mul_assoc,Int.add_mul_ediv_left _ _ (Int.ne_of_gt (Int.pow_pos cS)),Int.add_mul_emod_self_left]
theorem U8{d s:List Int}(hd:okC d){k:Nat}(hk:k<33)(h:CaI d k s):CaI d (k+1) (caS k s):=by
 obtain⟨h1,h2⟩:=h;obtain⟨d1,d2,d3⟩:=hd;have hz:=dL.getD (by decide) d2 k;have hz1:=dL.getD (by decide) d2 (k+1);obtain⟨b1,b2⟩:=RD (l:=d.take k) (d2.take k);rw[List.length_take,Nat.min_eq_left (by omega)]at b2;have hp:0<hh ^ k:=Int.pow_pos cS;have c0:0≤vd hh (d.take k)/hh ^ k:=Int.ediv_nonneg b1 (Int.le_of_lt hp);have c1:vd hh (d.take k)/hh ^ k<1099511627776:=Int.ediv_lt_of_lt_mul hp (by omega);have ek:=h2 k (by omega);rw[if_neg (by omega),if_pos rfl]at ek;have ek1:=h2 (k+1) (by omega);rw[if_neg (by omega),if_neg (by omega)]at ek1;have aC4:=ah5 (d:=d) (k:=k) (by omega)
 have ay6:vd hh (d.take (k+1))/hh ^ (k+1)=(d.getD k 0+vd hh (d.take k)/hh ^ k)/hh:=by
  rw[Int.pow_succ,← Int.ediv_ediv_of_nonneg (Int.le_of_lt hp),HI (by omega)]
 have ht:0≤d.getD k 0+vd hh (d.take k)/hh ^ k∧d.getD k 0+vd hh (d.take k)/hh ^ k<2199023255552:=by omega
 generalize d.getD k 0+vd hh (d.take k)/hh ^ k=t at*;have e1:shr .i64 (s.getD k 0) 16=t/hh:=by rw[ek];exact cz .i64 t 16 (by decide)
 have eh:hh=65536:=rfl;have e2:i64.wrap (s.getD (k+1) 0+t/hh)=d.getD (k+1) 0+t/hh:=by rw[ek1];rw[eh];exact au (by omega) (by omega)
 unfold caS;rw[e1,e2];have l1:(s.set (k+1) (d.getD (k+1) 0+t/hh)).length=34:=by rw[List.length_set,h1]
 refine⟨by rw[List.length_set,l1],fun j hj=>?_⟩;have q:(s.set (k+1) (d.getD (k+1) 0+t/hh)).getD k 0=t:=by rw[kI (l:=s) (i:=k+1) (by omega) _ k,if_neg (by omega),ek]
 rw[q,kI (l:=s.set (k+1) (d.getD (k+1) 0+t/hh)) (i:=k) (by omega) _ j];have e3:aM .i64 t 65535=t%hh:=k8 (m:=16) (by decide) t 65535 (by decide)
 by_cases ZS:k=j
 ·subst ZS;rw[if_pos rfl,if_pos (by omega),e3];exact aC4
 ·rw[if_neg ZS,kI (l:=s) (i:=k+1) (by omega) _ j]
  by_cases ay7:k+1=j
  ·subst ay7;rw[if_pos rfl,if_neg (by omega),if_pos rfl,ay6]
  ·rw[if_neg ay7,h2 j hj]
   by_cases h3:j<k
   ·rw[if_pos h3,if_pos (by omega)]
   ·rw[if_neg h3,if_neg (by omega),if_neg (by omega),if_neg (by omega)]
theorem Md{d:List Int}(hd:okC d):CaI d 0 d:=⟨hd.1,fun j hj=>by
 rw[if_neg (by omega)]
 by_cases h:j=0
 ·subst h;rw[if_pos rfl,List.take_zero];simp[vd]
 ·rw[if_neg h]⟩
theorem atP{d s:List Int}(hd:okC d)(h:CaI d 33 s):s=Mc d:=by
 obtain⟨h1,h2⟩:=h;refine DL (by rw[h1];exact(bp _ _).symm) fun j hj=>?_;rw[h1]at hj;rw[h2 j hj];unfold Mc;rw[j4 cS hj]
 by_cases h3:j<33
 ·rw[if_pos h3]
 ·have:j=33:=by omega
  subst this;rw[if_neg (by omega),if_pos rfl,← ah5 (d:=d) (by rw[hd.1];decide),← HI (by rw[hd.1];decide),show(33:Nat)+1=34 from rfl,List.take_of_length_le (by rw[hd.1];decide)];refine(Int.emod_eq_of_lt (Int.ediv_nonneg (RD hd.2.1).1 (Int.le_of_lt (Int.pow_pos cS))) ?_).symm;refine Int.ediv_lt_of_lt_mul (Int.pow_pos cS) ?_;have:=hd.2.2;rwa [Int.pow_succ,Int.mul_comm]at this
def zI(x y:List Int)(i k:Nat)(z:List Int):List Int:=z.set (i+k) (i64.wrap (z.getD (i+k) 0+i64.wrap (x.getD i 0*y.getD k 0)))
def Me(x y:List Int)(i:Nat)(z:List Int):List Int:=upto (zI x y i) 0 16 z
def HJ(x y z:List Int):List Int:=upto (Me x y) 0 16 z
def RE(d:List Int):Prop:=d.length=34∧dL hh d
def ZI(x y z0:List Int)(i k:Nat)(z:List Int):Prop:=z.length=34∧vd hh z=vd hh z0+vd hh (x.take i)*vd hh (y.take 16)+x.getD i 0*vd hh (y.take k)*hh ^ i∧∀j,0≤z.getD j 0∧z.getD j 0≤65535+((i:Int)+if j<i+k then 1 else 0)*4294836225
theorem anK{x y z0 z:List Int}(hx:RE x)(hy:RE y){i k:Nat}(hi:i<16)(hk:k<16)(h:ZI x y z0 i k z):ZI x y z0 i (k+1) (zI x y i k z):=by
 obtain⟨h1,h2,h3⟩:=h;have ax:=dL.getD cS hx.2 i;have ay:=dL.getD cS hy.2 k;have eh:hh=65536:=rfl;rw[eh]at ax ay;have p0:0≤x.getD i 0*y.getD k 0:=Int.mul_nonneg ax.1 ay.1
 have p1:x.getD i 0*y.getD k 0≤4294836225:=by
  have:=Int.mul_le_mul (show x.getD i 0≤65535 by omega) (show y.getD k 0≤65535 by omega) ay.1 (by decide);simpa using this
 have hz:=h3 (i+k);rw[if_neg (by omega)]at hz;have e1:i64.wrap (x.getD i 0*y.getD k 0)=x.getD i 0*y.getD k 0:=au (by omega) (by omega);have e2:i64.wrap (z.getD (i+k) 0+x.getD i 0*y.getD k 0)=z.getD (i+k) 0+x.getD i 0*y.getD k 0:=au (by omega) (by omega);unfold zI;rw[e1,e2];refine⟨by rw[List.length_set,h1],?_,fun j=>?_⟩
 ·rw[rM (by omega),h2,cq (l:=y) (k:=k) (by rw[hy.1];omega),Int.pow_add];generalize hh ^ i=P;generalize hh ^ k=Q;generalize x.getD i 0=a;generalize y.getD k 0=b;generalize vd hh (y.take k)=Y;generalize vd hh (y.take 16)=W;generalize vd hh (x.take i)=X;generalize z.getD (i+k) 0=c
  grobner
 ·rw[kI (by omega)];have hj:=h3 j
  by_cases e:i+k=j
  ·subst e;rw[if_pos rfl,if_pos (by omega)];omega
  ·rw[if_neg e]
   by_cases h4:j<i+k
   ·rw[if_pos h4]at hj;rw[if_pos (by omega)];exact hj
   ·rw[if_neg h4]at hj;rw[if_neg (by omega)];exact hj
theorem Zn{x y z0 z:List Int}(hx:RE x)(hy:RE y){i:Nat}(hi:i<16)(h:ZI x y z0 i 0 z):ZI x y z0 (i+1) 0 (Me x y i z):=by
 have key:ZI x y z0 i 16 (Me x y i z):=by
  have:=fV (f:=zI x y i) (n:=16) (fun k s=>ZI x y z0 i k s) (fun k s hk hs=>anK hx hy hi hk hs) 16 0 z (by omega) h;exact this
 obtain⟨h1,h2,h3⟩:=key;refine⟨h1,?_,fun j=>?_⟩
 ·rw[h2,cq (l:=x) (k:=i) (by rw[hx.1];omega)];rw[show vd hh (y.take 0)=0 from rfl];generalize hh ^ i=P;generalize x.getD i 0=a;generalize vd hh (y.take 16)=W;generalize vd hh (x.take i)=X;generalize x.getD (i+1) 0=a'
  grobner
 ·have hj:=h3 j;have hc:(((i+1:Nat)):Int)=(i:Int)+1:=by omega
  rw[hc]
  split at hj<;>split<;>omega
theorem ah6{x y z:List Int}(hx:RE x)(hy:RE y)(hz:RE z):(HJ x y z).length=34∧vd hh (HJ x y z)=vd hh z+vd hh (x.take 16)*vd hh (y.take 16)∧dL 1099511627776 (HJ x y z):=by
 have h0:ZI x y z 0 0 z:=by
  refine⟨hz.1,?_,fun j=>?_⟩
  ·rw[List.take_zero,List.take_zero];simp[vd]
  ·have:=dL.getD cS hz.2 j;rw[show hh=65536 from rfl]at this;rw[if_neg (by omega)];omega
 have key:=fV (f:=Me x y) (n:=16) (fun i s=>ZI x y z i 0 s) (fun i s hi hs=>Zn hx hy hi hs) 16 0 z (by omega) h0;obtain⟨h1,h2,h3⟩:=(show ZI x y z 16 0 (HJ x y z)from key);refine⟨h1,by rw[h2,List.take_zero];simp[vd],fun u hu=>?_⟩;obtain⟨j,hj,rfl⟩:=List.mem_iff_getElem.1 hu;have:=h3 j;rw[List.getD_eq_getElem?_getD,List.getElem?_eq_getElem hj,Option.getD_some]at this
 split at this<;>omega
abbrev anL:Func:=f226
abbrev caC:aQ (List LV) (Int×Unit):=(ai (ah (j0 0 0)) (jk 2 (ae (ah (aA .i64)) (jk 31 ag))))
abbrev ay9:Wk:=.fr (cb 35 [(0,.ak),(3,.sym)])
abbrev caX:aQ (List LV) (Unit):=(ai (ah (j0 0 0)) (jk 34 ag))
abbrev aC6:Wk:=.fr (cb 35 [(0,.ak)])
def caW:Exit→List Wk
 | .normal=> [ay9,.auto]
 | .exit 0=> [aC6,.auto]
 |_=> []
theorem atQ(d0 d:List Int)(i:Int):ct Tryz.prog [] [] anL 0 (gf.wr (d0,())) caW ((aT caC gf).wr ((i,()),(d,())))=
 aG.ite (decide (i64.wrap (i+(1:Int))<(↑d.length:Int))) (aG.need ((0:Int)≤i64.wrap (i+(1:Int))∧i64.wrap (i+
 (1:Int))<(↑d.length:Int)) (aG.need ((0:Int)≤i∧i<(↑d.length:Int)) (aG.need ((0:Int)≤i64.wrap (i+(1:Int))∧
 i64.wrap (i+(1:Int))<(↑d.length:Int)) (aG.need ((0:Int)≤i∧i<(↑(d.set (i64.wrap (i+(1:Int))).toNat
 (i64.wrap (d.getD (i64.wrap (i+(1:Int))).toNat (0:Int)+shr i64 (d.getD i.toNat (0:Int)) (16:Int)))).length:Int))
 (aG.need ((0:Int)≤i∧i<(↑(d.set (i64.wrap (i+(1:Int))).toNat (i64.wrap (d.getD (i64.wrap (i+(1:Int))).toNat (0
 :Int)+shr i64 (d.getD i.toNat (0:Int)) (16:Int)))).length:Int)) (aG.leaf Exit.normal ((aT caC gf).wr ((i64.wrap (i+(1:
 Int)),PUnit.unit),(d.set (i64.wrap (i+(1:Int))).toNat (i64.wrap (d.getD (i64.wrap (i+(1:Int))).toNat (0:Int)+shr
 i64 (d.getD i.toNat (0:Int)) (16:Int)))).set i.toNat (aM i64 ((d.set (i64.wrap (i+(1:Int))).toNat (i64.wrap
 (d.getD (i64.wrap (i+(1:Int))).toNat (0:Int)+shr i64 (d.getD i.toNat (0:Int)) (16:Int)))).getD i.toNat (0:Int)) (65535:
 Int)),PUnit.unit)))))))) (aG.leaf (Exit.exit (0:Nat)) ((aT caX gf).wr (PUnit.unit,d,PUnit.unit))):=by kernel_rfl
def aqi(g:List Int→List Int)(x:(Int×Unit)×List Int×Unit):aG:=.need (x.1.1=0∧okC x.2.1) (.leaf (.exit 0) ((aT caX gf).wr ((),(g x.2.1,()))))
theorem anM(d0:List Int)(x):Ex Tryz.prog (gf.wr (d0,())) (.loop (aP anL 0)) ((aT caC gf).wr x) (aqi Mc x):=by
 obtain⟨⟨i,_⟩,d,_⟩:=x;refine Ex.need fun⟨h1,h2⟩=>?_;simp only at h1 h2;subst h1
 have key:=c8 (fn:=anL) (id:=0) (j:=0) (ws:=caW) (hp:=gf.wr (d0,())) mixed aw (aK.nil _) 33 (fun k (o:List Int)=>(aT caC gf).wr (((k:Int),()),(o,()))) (fun(o:List Int)=>(aT caX gf).wr ((),(o,()))) caS (CaI d)
  (fun k o R hk ho hn hx=>?_) (fun k o hk ho=>U8 h2 hk ho) 0 d (by omega) (Md h2)
 ·rw[Nat.sub_zero,atP h2 (fV (f:=caS) (n:=33) (CaI d) (fun k s hk hs=>U8 h2 hk hs) 33 0 d (by omega) (Md h2))]at key;exact key
 rw[atQ];have hl:=ho.1;refine⟨fun hb=>?_,fun hb=>?_⟩
 ·have e1:i64.wrap ((k:Int)+1)=((k+1:Nat):Int):=bQ k (by omega);have g6:k<33:=by have:=of_decide_eq_true hb;rw[e1,hl]at this;omega
  have kf:=hn g6;rw[e1,Int.toNat_natCast,Int.toNat_natCast,List.length_set];exact⟨by omega,by omega,by omega,by omega,by omega,kf⟩
 ·have e1:i64.wrap ((k:Int)+1)=((k+1:Nat):Int):=bQ k (by omega);have:k=33:=by have:=of_decide_eq_false hb;rw[e1,hl]at this;omega
  exact hx this
abbrev aza(g:List Int→List Int):df:= [(0,cJ (aT caC gf) 1 [ay9,.auto] (aqi g))]
abbrev slA:aQ (List LV) Unit:=ai (ah (j0 0 0)) ag
def eCa(g:List Int→List Int):an:=an.cm [] slA gf fun _ h=>.leaf (some (okC h.1)) (.one (.sc (.sl 0 0))) [(0,.own 0 (.int .i64) (g h.1))]
theorem Zo(g:List Int→List Int)(d:List Int):aH Tryz.prog [] (aza g) anL (slA.wr ()) (gf.wr (d,())) [.auto]=
 End.need ((0:Int)=(0:Int)∧okC d) (End.leaf (LV.one (VV.sc (SV.sl (0:Nat) (0:Nat)))) [some (Item.own (0:Nat) (Ty.int i64) (g d))]):=by kernel_rfl
abbrev azb:an:=eCa Mc
theorem anN:azb.Ok Tryz.prog 226:=by
 refine(an.aS call226 fun x_ y_ Q H_=>?_).sym;obtain⟨d,_⟩:=y_;obtain⟨hn,hq⟩:=H_;refine(ar mixed aw func226 rfl (LT:=aza Mc) (ks:= [.auto]) (aK.bI (iu rfl (bt (hp:=gf.wr (d,())) (anM d)) iE))).use (D:= [(0,.own 0 (.int .i64) (Mc d))]) ?_ hq;show(aH _ _ _ _ (slA.wr ()) (gf.wr (d,())) _).sat _;rw[Zo];exact⟨⟨rfl,hn⟩,rfl,rfl⟩
abbrev zFn:Func:=f153
abbrev ziC:aQ (List LV) (Int×Int×Unit):=(jk 6 (ai (ah (aD 0 0)) (ai (ah (j0 1 0)) (ai (ah (j0 2 0)) (ai (ah (j0 3 0)) (ae (ah (aA .i64)) (ae (ah (aA .i64)) (jk 38 ag))))))))
abbrev azd:Wk:=.fr (cb 50 [(6,.ak),(7,.ak),(8,.ak),(9,.ak),(10,.sym),(11,.sym)])
abbrev ziX:aQ (List LV) (Int×Unit):=(jk 6 (ai (ah (aD 0 0)) (ai (ah (j0 1 0)) (ai (ah (j0 2 0)) (ai (ah (j0 3 0)) (ae (ah (aA .i64)) (jk 39 ag)))))))
abbrev atS:Wk:=.fr (cb 50 [(6,.ak),(7,.ak),(8,.ak),(9,.ak),(10,.sym)])
abbrev zoX:aQ (List LV) (Unit):=(jk 6 (ai (ah (aD 0 0)) (jk 2 (ai (ah (j0 1 0)) (jk 40 ag)))))
abbrev aC9:Wk:=.fr (cb 50 [(6,.ak),(9,.ak)])
abbrev o64:aQ (Option Ev.Item) (List Int):=cE 0 (.int .i64)
abbrev zH:aQ Hp (List Int×List Int×List Int×List Int×Unit):=ae (gm 22 .u8 32) (ae o64 (ae o64 (ae o64 ag)))
abbrev zHX:aQ Hp (List Int×List Int×Unit):=ae (gm 22 .u8 32) (ae o64 ag)
def ziW:Exit→List Wk
 | .normal=> [azd,.auto,.dz 0 0 32 .u8]
 | .exit 2=> [atS,.auto,.dz 0 0 32 .u8]
 |_=> []
theorem atT(o x y z:List Int)(i k:Int):ct Tryz.prog [] [] zFn 2 [] ziW ((aT ziC zH).wr ((i,k,()),(o,x,y,z,())))=
 aG.ite (decide (k<(16:Int))) (aG.need ((0:Int)≤i64.wrap (i+k)∧i64.wrap (i+k)<(↑z.length:Int)) (aG.need ((0:Int)
 ≤i∧i<(↑x.length:Int)) (aG.need ((0:Int)≤k∧k<(↑y.length:Int)) (aG.need ((0:Int)≤i64.wrap (i+k)∧i64.wrap (i+
 k)<(↑z.length:Int)) (aG.leaf Exit.normal ((aT ziC zH).wr ((i,i64.wrap (k+(1:Int)),PUnit.unit),o,x,y,z.set (i64.wrap (i
 +k)).toNat (i64.wrap (z.getD (i64.wrap (i+k)).toNat (0:Int)+i64.wrap (x.getD i.toNat (0:Int)*y.getD k.toNat (0:
 Int)))),PUnit.unit))))))) (aG.leaf (Exit.exit (2:Nat)) ((aT ziX zH).wr ((i,PUnit.unit),o,x,y,z,PUnit.unit))):=by kernel_rfl
def l34(x y z:List Int):Prop:=x.length=34∧y.length=34∧z.length=34
abbrev ziT:Type:=(Int×Int×Unit)×List Int×List Int×List Int×List Int×Unit
def aze(g:List Int→List Int→Nat→List Int→List Int)(x:ziT):aG:=.need (x.1.2.1=0∧0≤x.1.1∧x.1.1<16∧l34 x.2.2.1 x.2.2.2.1 x.2.2.2.2.1) (.leaf (.exit 2) ((aT ziX zH).wr ((x.1.1,()),(x.2.1,x.2.2.1,x.2.2.2.1,g x.2.2.1 x.2.2.2.1 x.1.1.toNat x.2.2.2.2.1,()))))
theorem anP(x:ziT):Ex Tryz.prog [] (.loop (aP zFn 2)) ((aT ziC zH).wr x) (aze Me x):=by
 obtain⟨⟨i,k,_⟩,o,x,y,z,_⟩:=x;refine Ex.need fun⟨h1,h2,h3,h4,h5,h6⟩=>?_;simp only at h1 h2 h3 h4 h5 h6;subst h1;obtain⟨i,rfl⟩:=Int.eq_ofNat_of_zero_le h2;have hi:i<16:=by omega
 have key:=c8 (fn:=zFn) (id:=2) (j:=2) (ws:=ziW) (hp:= []) mixed aw (aK.nil _) 16 (fun k (s:List Int)=>(aT ziC zH).wr (((i:Int),(k:Int),()),(o,x,y,s,()))) (fun(s:List Int)=>(aT ziX zH).wr (((i:Int),()),(o,x,y,s,()))) (zI x y i) (fun _ s=>s.length=34)
  (fun k s R hk hs hn hx=>?_) (fun k s hk hs=>by unfold zI;rw[List.length_set];exact hs) 0 z (by omega) h6
 ·exact key
 rw[atT];refine⟨fun hb=>?_,fun hb=>?_⟩
 ·have g6:k<16:=by have:=of_decide_eq_true hb;omega
  have e:i64.wrap ((i:Int)+(k:Int))=((i+k:Nat):Int):=by rw[au (by omega) (by omega)];omega
  have kf:=hn g6;rw[e,Int.toNat_natCast,Int.toNat_natCast,Int.toNat_natCast,bQ k (by omega)];exact⟨by omega,by omega,by omega,by omega,kf⟩
 ·have:k=16:=by have:=of_decide_eq_false hb;omega
  exact hx this
abbrev azf(g:List Int→List Int→Nat→List Int→List Int):df:= [(2,cJ (aT ziC zH) 0 [azd,.auto,.dz 0 0 32 .u8] (aze g))]
def zoW:Exit→List Wk
 | .normal=> [atS,.auto,.dz 0 0 32 .u8]
 | .exit 0=> [aC9,.auto,.dz 0 0 32 .u8]
 |_=> []
theorem atU(g:List Int→List Int→Nat→List Int→List Int)(o x y z:List Int)(i:Int):ct Tryz.prog [] (azf g) zFn 0 [] zoW ((aT ziX zH).wr ((i,()),(o,x,y,z,())))=
 aG.ite (decide (i<(16:Int))) (aG.need ((0:Int)=(0:Int)∧(0:Int)≤i∧i<(16:Int)∧l34 x y z) (aG.leaf Exit.normal ((aT ziX zH).wr
 ((i64.wrap (i+(1:Int)),PUnit.unit),o,x,y,g x y i.toNat z,PUnit.unit)))) (aG.leaf (Exit.exit (0:Nat)) ((aT zoX zHX).wr
 (PUnit.unit,o,z,PUnit.unit))):=by kernel_rfl
theorem Mf(x y:List Int)(i:Nat){z:List Int}(h:z.length=34):(Me x y i z).length=34:=fV (f:=zI x y i) (n:=16) (fun _ s=>s.length=34) (fun k s _ hs=>by unfold zI;rw[List.length_set];exact hs) 16 0 z (by omega) h
abbrev zoT:Type:=(Int×Unit)×List Int×List Int×List Int×List Int×Unit
def azg(g:List Int→List Int→List Int→List Int)(x:zoT):aG:=.need (x.1.1=0∧l34 x.2.2.1 x.2.2.2.1 x.2.2.2.2.1) (.leaf (.exit 0) ((aT zoX zHX).wr ((),(x.2.1,g x.2.2.1 x.2.2.2.1 x.2.2.2.2.1,()))))
theorem anQ:∀p∈azf Me,ki (fL (aJ zFn) p.1)=true∧∀st,Ex Tryz.prog [] (.loop (aP zFn p.1)) st (p.2 st):=iu rfl (bt (hp:= []) anP) iE
theorem anR(x:zoT):Ex Tryz.prog [] (.loop (aP zFn 0)) ((aT ziX zH).wr x) (azg HJ x):=by
 obtain⟨⟨i,_⟩,o,x,y,z,_⟩:=x;refine Ex.need fun⟨h1,h4,h5,h6⟩=>?_;simp only at h1 h4 h5 h6;subst h1
 have key:=c8 (fn:=zFn) (id:=0) (j:=0) (ws:=zoW) (hp:= []) mixed aw (aK.inner rfl anQ) 16 (fun k (s:List Int)=>(aT ziX zH).wr (((k:Int),()),(o,x,y,s,()))) (fun(s:List Int)=>(aT zoX zHX).wr ((),(o,s,()))) (Me x y) (fun _ s=>s.length=34)
  (fun k s R hk hs hn hx=>?_) (fun k s hk hs=>Mf x y k hs) 0 z (by omega) h6
 ·exact key
 rw[atU];refine⟨fun hb=>?_,fun hb=>?_⟩
 ·have g6:k<16:=by have:=of_decide_eq_true hb;omega
  have kf:=hn g6;rw[Int.toNat_natCast,bQ k (by omega)];exact⟨⟨rfl,by omega,by omega,h4,h5,hs⟩,kf⟩
 ·have:k=16:=by have:=of_decide_eq_false hb;omega
  exact hx this
abbrev azh(g:List Int→List Int→List Int→List Int):df:= [(0,cJ (aT ziX zH) 0 [atS,.auto,.dz 0 0 32 .u8] (azg g))]
theorem ah7(g:List Int→List Int→List Int→List Int)(DK md car:List Int→List Int)(a b c:List Int):aH Tryz.prog [(213,eDg DK),(212,eMd md),(226,eCa car)] (azh g) zFn (b3A.wr (a,b,c,())) [] [.fr [.sym],.eZ 0 0 32 .u8,.auto]=
 End.need ((0:Int)≤(0:Int)∧(0:Int)≤(32:Int)∧(32:Int)≤(32:Int)) (End.need (aN (List.take (32:Nat) (List.drop (0:Nat) a))∧
 (List.take (32:Nat) (List.drop (0:Nat) a)).length≤(64:Nat)) (End.need ((0:Int)≤(0:Int)∧(0:Int)≤(32:Int)∧(32:Int)≤(32:
 Int)) (End.need (aN (List.take (32:Nat) (List.drop (0:Nat) b))∧(List.take (32:Nat) (List.drop (0:Nat) b)).length≤(64:Nat)) (End.need
 ((0:Int)≤(0:Int)∧(0:Int)≤(32:Int)∧(32:Int)≤(32:Int)) (End.need (aN (List.take (32:Nat) (List.drop (0:Nat) c))∧(List.take
 (32:Nat) (List.drop (0:Nat) c)).length≤(64:Nat)) (End.need ((0:Int)=(0:Int)∧l34 (DK (List.take (32:Nat) (List.drop (0:Nat) a)))
 (DK (List.take (32:Nat) (List.drop (0:Nat) b))) (DK (List.take (32:Nat) (List.drop (0:Nat) c)))) (End.need (okC (g (DK (List.take (32:Nat)
 (List.drop (0:Nat) a))) (DK (List.take (32:Nat) (List.drop (0:Nat) b))) (DK (List.take (32:Nat) (List.drop (0:Nat) c))))) (End.need (okD
 (car (g (DK (List.take (32:Nat) (List.drop (0:Nat) a))) (DK (List.take (32:Nat) (List.drop (0:Nat) b))) (DK (List.take (32:Nat) (List.drop
 (0:Nat) c)))))) (End.leaf (LV.one (VV.agg [SV.arr (Ty.int IntKind.u8) (32:Nat) (md (car (g (DK (List.take (32:Nat) (List.drop (0:Nat) a)))
 (DK (List.take (32:Nat) (List.drop (0:Nat) b))) (DK (List.take (32:Nat) (List.drop (0:Nat) c))))))])) []))))))))):=by kernel_rfl
abbrev ah8:an:=eB3 nA
theorem anS:(2:Int) ^ 256=hh ^ 16:=by decide+kernel
theorem aDb:((2:Int) ^ 256-1)*(2 ^ 256-1)+2 ^ 256<hh ^ 34:=by decide+kernel
theorem Mg{a:List Int}(ha:okB a):vd hh ((eF a).take 16)=vd 256 a:=by
 have h:=ha.range;rw[amB cS (j5 a).2 16 (by rw[(j5 a).1];decide),HE ha.2 (by rw[ha.1];decide),← anS];exact Int.emod_eq_of_lt h.1 h.2
theorem RF:ah8.Ok Tryz.prog 153:=by
 refine(an.aS call153 fun x_ y_ Q H_=>?_).sym;obtain⟨a,b,c,_⟩:=x_;obtain⟨hn,hq⟩:=H_;obtain⟨ha,hb,hc⟩:okB a∧okB b∧okB c:=hn;refine(ar mixed (al HC (al U7 (al anN aw))) func153 rfl (LT:=azh HJ) (ks:= [.fr [.sym],.eZ 0 0 32 .u8,.auto]) (aK.bI (iu rfl (bt (hp:= []) anR) iE))).use (D:= []) ?_ hq;show(aH _ _ _ _ (b3A.wr (a,b,c,())) [] _).sat _;rw[ah7,aX ha.1,aX hb.1,aX hc.1];obtain⟨z1,z2,z3⟩:=ah6 (x:=eF a) (y:=eF b) (z:=eF c) (j5 a) (j5 b) (j5 c);rw[Mg ha,Mg hb,HE hc.2 (by rw[hc.1];decide)]at z2;have r1:=ha.range;have r2:=hb.range;have r3:=hc.range;have h5:vd 256 a*vd 256 b≤(2 ^ 256-1)*(2 ^ 256-1):=Int.mul_le_mul (by omega) (by omega) r2.1 (by decide+kernel);have h6:0≤vd 256 a*vd 256 b:=Int.mul_nonneg r1.1 r2.1;have hp:=aDb;have hV:vd hh (HJ (eF a) (eF b) (eF c))<hh ^ 34:=by rw[z2];omega
 have hV0:0≤vd hh (HJ (eF a) (eF b) (eF c)):=by rw[z2];omega
 have e:HD (Mc (HJ (eF a) (eF b) (eF c)))=nA a b c:=by
  unfold HD Mc nA;rw[iG cS,Int.emod_eq_of_lt hV0 hV,z2,Int.add_comm (vd 256 c)]
 have l8:(32:Nat)≤64:=by decide
 refine⟨by decide,⟨ha.2,by rw[ha.1];exact l8⟩,by decide,⟨hb.2,by rw[hb.1];exact l8⟩,by decide,⟨hc.2,by rw[hc.1];exact l8⟩,⟨rfl,(j5 a).1,(j5 b).1,(j5 c).1⟩,⟨z1,z3,hV⟩,⟨bp _ _,jF cS _ _⟩,?_,rfl⟩;rw[e]
def eRo(g:List Int→List Int):an:=an.cm [some u8] bA ag fun x _=>.leaf (some (x.1.length≤17592186044416)) (cY .u8 64 (g x.1)) []
theorem atV:asa=eRo gH:=by kernel_rfl
theorem HK:(eRo gH).Ok Tryz.prog 45:=atV▸aft
abbrev azi:an:=Cc fC
theorem Zp(c:List Int):aH Tryz.prog [] [] f149 (bA.wr (c,())) [] [.cP 0 u8,.auto,.aF]=
 End.ite (decide ((255:Int)<(↑c.length:Int))) (End.leaf (LV.one (VV.sc (SV.sl (0:Nat) (0:Nat)))) [some (Item.own (0:Nat) (Ty.int IntKind.u8)
 [])]) (End.need ((34:Nat)≤(70368744177664:Nat)∧(34:Nat)≤(70368744177664:Nat)) (End.need (((34:Nat)+c.length)*(1:Nat)≤
 (70368744177664:Nat)∧(34:Nat)+c.length≤(70368744177664:Nat)) (End.leaf (LV.one (VV.sc (SV.sl (0:Nat) (0:Nat)))) [some (Item.own (0:
 Nat) (Ty.int IntKind.u8) ([(83:Int),(105:Int),(103:Int),(69:Int),(100:Int),(50:Int),(53:Int),(53:Int),(49:Int),(57:Int),
 (32:Int),(110:Int),(111:Int),(32:Int),(69:Int),(100:Int),(50:Int),(53:Int),(53:Int),(49:Int),(57:Int),(32:Int),(99
 :Int),(111:Int),(108:Int),(108:Int),(105:Int),(115:Int),(105:Int),(111:Int),(110:Int),(115:Int)]++ [(1:Int),
 IntKind.u8.wrap (↑c.length:Int)]++c))]))):=by kernel_rfl
def ah9(sec fS:List Int→List Int):an:=an.cm [] nS ag fun x _=>.leaf (some (x.1.length=32)) (.c6 [.agg [.arr (.int .u8) 32 (sec x.1)],.sc (.sl 0 0)]) [(0,.own 0 u8 (fS x.1))]
def atW(h:List Int):List Int:=(((List.range 32).map fun i=>h.getD i 0).set 0 (aM .u8 (h.getD 0 0) 248)).set 31 (IntKind.u8.wrap (aM .u8 (h.getD 31 0) 63+64))
theorem Mh(cD:List Int→List Int)(s:List Int):aH Tryz.prog [(45,eRo cD)] [] f145 (nS.wr (s,())) [] [.eZ 0 0 32 .u8,.auto,.aF]=
 .need ((0:Int)≤0∧(0:Int)≤32∧(32:Int)≤32) (.need ((List.take 32 (List.drop 0 s)).length≤17592186044416) (.need ((0:Int)≤32∧(32:Int)≤64∧(64:Int)≤64) (.need ((List.take 32 (List.drop 32 (cD (List.take 32 (List.drop 0 s))))).length*1≤70368744177664∧(List.take 32 (List.drop 32 (cD (List.take 32 (List.drop 0 s))))).length≤70368744177664)
  (.leaf (.c6 [.agg [.arr (.int .u8) 32 (atW (cD (List.take 32 (List.drop 0 s))))],.sc (.sl 0 0)]) [some (.own 0 u8 (List.take 32 (List.drop 32 (cD (List.take 32 (List.drop 0 s))))))])))):=by kernel_rfl
theorem anT:azi.Ok Tryz.prog 149:=by
 refine(an.aS call149 fun x_ y_ Q H_=>?_).sym;obtain⟨c,_⟩:=x_;refine(ar mixed aw func149 rfl (LT:= []) (ks:= [.cP 0 u8,.auto,.aF]) (aK.nil _)).use (D:= [(0,.own 0 u8 (fC c))]) ?_ H_.2;show(aH _ _ _ _ (bA.wr (c,())) [] _).sat _;rw[Zp];refine⟨fun h=>?_,fun h=>?_⟩
 ·have h:=of_decide_eq_true h;have e:fC c= []:=if_neg (by omega);rw[e];exact⟨rfl,rfl⟩
 ·have h:=of_decide_eq_false h;have e:fC c=Rb++([1,(c.length:Int)]++c):=if_pos (by omega);have ew:IntKind.u8.wrap (c.length:Int)=c.length:=by rw[wrap_u8];omega
  rw[e,ew];exact⟨by decide,⟨by omega,by omega⟩,rfl,rfl⟩
theorem U9{P:Int→Prop}(h:∀x:Fin 256,P (x.val:Int)){x:Int}(hx:By x):P x:=by
 obtain⟨n,rfl⟩:=Int.eq_ofNat_of_zero_le hx.1;exact h ⟨n,by have:=hx.2;omega⟩
theorem anU{x:Int}(hx:By x):aM .u8 x 248=dn .u8 x 7:=U9 (P:=fun x=>aM .u8 x 248=dn .u8 x 7) (by decide+kernel) hx
theorem aia{x:Int}(hx:By x):IntKind.u8.wrap (aM .u8 x 63+64)=bC .u8 (dn .u8 x 128) 64:=U9 (P:=fun x=>IntKind.u8.wrap (aM .u8 x 63+64)=bC .u8 (dn .u8 x 128) 64) (by decide+kernel) hx
theorem anV{h:List Int}(hb:aN h)(hl:h.length=64):atW h=aht h:=by
 have e:(List.range 32).map (fun i=>h.getD i 0)=h.take 32:=by
  have:=B4 (l:=h) (j:=0) (n:=32) (by omega);simp only[Nat.zero_add,List.drop_zero]at this;exact this
 have g:∀k,k<32→(h.take 32).getD k 0=h.getD k 0:=fun k hk=>by
  rw[List.getD_eq_getElem?_getD,List.getElem?_take,if_pos hk,← List.getD_eq_getElem?_getD]
 have lt:(h.take 32).length=32:=by rw[List.length_take,hl];decide
 unfold atW aht;rw[e,kI (l:=h.take 32) (i:=0) (by omega) _ 31,if_neg (by decide),g 0 (by decide),g 31 (by decide),anU (dL.getD (by decide) (show dL 256 h from hb) 0),aia (dL.getD (by decide) (show dL 256 h from hb) 31)]
def kS(s:List Int):List Int:=(bB s).drop 32
abbrev anY:an:=ah9 kG kS
theorem DM:anY.Ok Tryz.prog 145:=by
 refine(an.aS call145 fun x_ y_ Q H_=>?_).sym;obtain⟨s,_⟩:=x_;obtain⟨hn,hq⟩:=H_;have hn:s.length=32:=hn;refine(ar mixed (al HK aw) func145 rfl (LT:= []) (ks:= [.eZ 0 0 32 .u8,.auto,.aF]) (aK.nil _)).use (D:= [(0,.own 0 u8 (kS s))]) ?_ hq;show(aH _ _ _ _ (nS.wr (s,())) [] _).sat _;rw[Mh,aX hn,← GK (by rw[hn];decide)];have e1:List.take 32 (List.drop 32 (bB s))=kS s:=by unfold kS;exact List.take_of_length_le (by rw[List.length_drop,cI];decide)
 have e2:(kS s).length=32:=by unfold kS;rw[List.length_drop,cI]
 rw[e1,anV (Ho s) (cI s),e2];exact⟨by decide,by rw[hn];decide,by decide,by decide,rfl,rfl⟩
abbrev b4A:aQ (List LV) (List Int×List Int×List Int×List Int×Unit):=ae (ah (gg false false u8)) (ae (ah (gg false false u8)) (ae (ah (gg false false u8)) (ae (ah (gg false false u8)) ag)))
def dy(a b c d:List Int):List Int:=a++b++c++d
def RG(a b c d:List Int):Prop:=a.length+b.length+c.length+d.length<1000000
def eJo(g:List Int→List Int→List Int→List Int→List Int):an:=an.cm [some u8,some u8,some u8,some u8] b4A ag fun x _=>.leaf (some (RG x.1 x.2.1 x.2.2.1 x.2.2.2.1)) (.one (.sc (.sl 0 0))) [(0,.own 0 u8 (g x.1 x.2.1 x.2.2.1 x.2.2.2.1))]
theorem RI(a b c d:List Int):aH Tryz.prog [] [] f148 (b4A.wr (a,b,c,d,())) [] [.cP 0 u8,.auto,.aF]=
 End.need (a.length*(1:Nat)≤(70368744177664:Nat)∧a.length≤(70368744177664:Nat)) (End.need ((a.length+b.length)*(1:Nat)≤
 (70368744177664:Nat)∧a.length+b.length≤(70368744177664:Nat)) (End.need (((a++b).length+c.length)*(1:Nat)≤(70368744177664:Nat)∧
 (a++b).length+c.length≤(70368744177664:Nat)) (End.need (((a++b++c).length+d.length)*(1:Nat)≤(70368744177664:Nat)∧(a++b++
 c).length+d.length≤(70368744177664:Nat)) (End.leaf (LV.one (VV.sc (SV.sl (0:Nat) (0:Nat)))) [some (Item.own (0:Nat) (Ty.int IntKind.u8) (a
 ++b++c++d))])))):=by kernel_rfl
abbrev atX:an:=eJo dy
theorem aib:atX.Ok Tryz.prog 148:=by
 refine(an.aS call148 fun x_ y_ Q H_=>?_).sym;obtain⟨a,b,c,d,_⟩:=x_;obtain⟨hn,hq⟩:=H_;have hn:a.length+b.length+c.length+d.length<1000000:=hn;refine(ar mixed aw func148 rfl (LT:= []) (ks:= [.cP 0 u8,.auto,.aF]) (aK.nil _)).use (D:= [(0,.own 0 u8 (dy a b c d))]) ?_ hq;show(aH _ _ _ _ (b4A.wr (a,b,c,d,())) [] _).sat _;rw[RI];refine⟨⟨by omega,by omega⟩,⟨by omega,by omega⟩,⟨?_,?_⟩,⟨?_,?_⟩,rfl,rfl⟩<;>simp only[List.length_append]<;>omega
def w9(s:List Int):List Int:=dC (iq (kG s) gx)
abbrev azj:an:=Rd w9
theorem Zq(sec fS:List Int→List Int)(en:Pn→List Int)(mu:List Int→Pn→Pn)(b:Pn)(s:List Int):aH Tryz.prog [(145,ah9 sec fS),(150,eNE en),(151,eNM mu),(152,e0P b)] [] f146 ((nS).wr (s,())) [] kR= .need (s.length=32) (.need ((sec s).length=32) (.leaf (cY .u8 32 (en (mu (sec s) b))) [])):=by kernel_rfl
theorem Zr:∀p_∈([(145,ah9 kG kS),(150,eNE dC),(151,eNM iq),(152,e0P gx)]:List (FuncId×an)),p_.2.Ok Tryz.prog p_.1:=(al DM (al Bp (al L6 (al L3 aw))))
theorem anZ:azj.Ok Tryz.prog 146:=by
 refine(an.aS call146 fun x_ y_ Q H_=>?_).sym;obtain⟨s,_⟩:=x_;obtain⟨hn,hq⟩:=H_;have hn:s.length=32:=hn;refine(ar (tab:= [(145,ah9 kG kS),(150,eNE dC),(151,eNM iq),(152,e0P gx)]) mixed Zr func146 rfl (LT:= []) (ks:=kR) (aK.nil _)).use (D:= []) ?_ hq;show(aH _ _ _ _ ((nS).wr (s,())) [] _).sat _;rw[Zq kG kS dC iq gx];exact⟨hn,Bh s,rfl,rfl⟩
abbrev Zs:Func:=f93
abbrev s9C:aQ (List LV) (Int×Unit):=(jk 6 (ai (ah (aD 0 0)) (jk 5 (ai (ah (aD 1 0)) (jk 1 (ai (ah (aD 2 0)) (ai (ah (aD 3 0)) (ae (ah (aA .i64)) (jk 51 ag)))))))))
abbrev azl:Wk:=.fr (cb 68 [(6,.ak),(12,.ak),(14,.ak),(15,.ak),(16,.sym)])
abbrev s9X:aQ (List LV) (Unit):=(jk 6 (ai (ah (aD 0 0)) (jk 8 (ai (ah (aD 1 0)) (jk 52 ag)))))
abbrev aDe:Wk:=.fr (cb 68 [(6,.ak),(15,.ak)])
abbrev azm:aQ (Option Ev.Item) (List Int):=gm 22 .u8 32
abbrev an0:aQ (Option Ev.Item) (List Int):=gm 41 .u8 64
abbrev s9H:aQ Hp (List Int×List Int×List Int×List Int×Unit):=ae an0 (ae azm (ae azm (ae an0 ag)))
abbrev atY:aQ Hp (List Int×List Int×Unit):=ae an0 (ae an0 ag)
def s9W:Exit→List Wk
 | .normal=> [azl,.auto]
 | .exit 0=> [aDe,.auto]
 |_=> []
theorem atZ(r a b o:List Int)(i:Int):ct Tryz.prog [] [] Zs 0 [] s9W ((aT s9C s9H).wr ((i,()),(r,a,b,o,())))=
 aG.ite (decide (i<(32:Int))) (aG.need ((0:Int)≤i∧i<(32:Int)) (aG.need ((0:Int)≤i∧i<(64:Int)) (aG.need ((0:Int)≤i∧i<
 (32:Int)) (aG.need ((0:Int)≤i64.wrap ((32:Int)+i)∧i64.wrap ((32:Int)+i)<(64:Int)) (aG.leaf Exit.normal ((aT s9C
 s9H).wr ((i64.wrap (i+(1:Int)),PUnit.unit),r,a,b,(o.set ((0:Nat)+i.toNat) ((List.take (32:Nat) (List.drop (0:Nat) a)).getD
 i.toNat (0:Int))).set ((0:Nat)+(i64.wrap ((32:Int)+i)).toNat) ((List.take (32:Nat) (List.drop (0:Nat) b)).getD i.toNat (0:
 Int)),PUnit.unit))))))) (aG.leaf (Exit.exit (0:Nat)) ((aT s9X atY).wr (PUnit.unit,r,o,PUnit.unit))):=by kernel_rfl
def SiI(a b:List Int)(k:Nat)(o:List Int):Prop:=o.length=64∧∀j,j<64→o.getD j 0=if j<32 then(if j<k then a.getD j 0 else 0)else(if j-32<k then b.getD (j-32) 0 else 0)
def siS(a b:List Int)(k:Nat)(o:List Int):List Int:=(o.set k (a.getD k 0)).set (32+k) (b.getD k 0)
theorem Va{a b o:List Int}{k:Nat}(hk:k<32)(h:SiI a b k o):SiI a b (k+1) (siS a b k o):=by
 obtain⟨h1,h2⟩:=h;unfold siS;have l1:(o.set k (a.getD k 0)).length=64:=by rw[List.length_set,h1]
 refine⟨by rw[List.length_set,l1],fun j hj=>?_⟩;rw[kI (l:=o.set k (a.getD k 0)) (i:=32+k) (by omega) _ j,kI (l:=o) (i:=k) (by omega) _ j]
 by_cases e1:32+k=j
 ·subst e1;rw[if_pos rfl,if_neg (by omega),if_pos (by omega),show 32+k-32=k from by omega]
 ·rw[if_neg e1]
  by_cases e2:k=j
  ·subst e2;rw[if_pos rfl,if_pos hk,if_pos (by omega)]
  ·rw[if_neg e2,h2 j hj]
   by_cases e3:j<32
   ·rw[if_pos e3,if_pos e3]
    by_cases e4:j<k
    ·rw[if_pos e4,if_pos (by omega)]
    ·rw[if_neg e4,if_neg (by omega)]
   ·rw[if_neg e3,if_neg e3]
    by_cases e4:j-32<k
    ·rw[if_pos e4,if_pos (by omega)]
    ·rw[if_neg e4,if_neg (by omega)]
theorem Mi(a b:List Int):SiI a b 0 (List.replicate 64 0):=⟨List.length_replicate,fun j hj=>by
 rw[List.getD_eq_getElem?_getD,List.getElem?_replicate,if_pos hj]
 split<;>rfl⟩
theorem at0{a b o:List Int}(ha:a.length=32)(hb:b.length=32)(h:SiI a b 32 o):o=a++b:=by
 obtain⟨h1,h2⟩:=h;refine DL (by rw[h1,List.length_append,ha,hb]) fun j hj=>?_;rw[h1]at hj;rw[h2 j hj]
 by_cases e:j<32
 ·rw[if_pos e,if_pos e,List.getD_eq_getElem?_getD,List.getD_eq_getElem?_getD,List.getElem?_append_left (by omega)]
 ·rw[if_neg e,if_pos (by omega),List.getD_eq_getElem?_getD,List.getD_eq_getElem?_getD,List.getElem?_append_right (by omega),ha]
abbrev s9T:Type:=(Int×Unit)×List Int×List Int×List Int×List Int×Unit
def azo(g:List Int→List Int→List Int)(x:s9T):aG:=.need (x.1.1=0∧x.2.2.1.length=32∧x.2.2.2.1.length=32∧x.2.2.2.2.1=List.replicate 64 0) (.leaf (.exit 0) ((aT s9X atY).wr ((),(x.2.1,g x.2.2.1 x.2.2.2.1,()))))
theorem an1(x:s9T):Ex Tryz.prog [] (.loop (aP Zs 0)) ((aT s9C s9H).wr x) (azo (· ++ ·) x):=by
 obtain⟨⟨i,_⟩,r,a,b,o,_⟩:=x;refine Ex.need fun⟨h1,h2,h3,h4⟩=>?_;simp only at h1 h2 h3 h4;subst h1 h4
 have key:=c8 (fn:=Zs) (id:=0) (j:=0) (ws:=s9W) (hp:= []) mixed aw (aK.nil _) 32 (fun k (o:List Int)=>(aT s9C s9H).wr (((k:Int),()),(r,a,b,o,()))) (fun(o:List Int)=>(aT s9X atY).wr ((),(r,o,()))) (siS a b) (SiI a b)
  (fun k o R hk ho hn hx=>?_) (fun k o hk ho=>Va hk ho) 0 (List.replicate 64 0) (by omega) (Mi a b)
 ·rw[Nat.sub_zero,at0 h2 h3 (fV (f:=siS a b) (n:=32) (SiI a b) (fun k s hk hs=>Va hk hs) 32 0 _ (by omega) (Mi a b))]at key;exact key
 rw[atZ];refine⟨fun hb=>?_,fun hb=>?_⟩
 ·have g6:k<32:=by have:=of_decide_eq_true hb;omega
  have e1:i64.wrap (32+(k:Int))=((32+k:Nat):Int):=by rw[au (by omega) (by omega)];omega
  have kf:=hn g6;rw[e1,aX h2,aX h3,Int.toNat_natCast,Int.toNat_natCast,Nat.zero_add,Nat.zero_add,bQ k (by omega)];exact⟨by omega,by omega,by omega,by omega,kf⟩
 ·have:k=32:=by have:=of_decide_eq_false hb;omega
  exact hx this
abbrev at1(g:List Int→List Int→List Int):df:= [(0,cJ (aT s9C s9H) 0 [azl,.auto,.dz 1 0 32 .u8,.dz 2 0 32 .u8] (azo g))]
abbrev Vb(sec fS pre cD red kL:List Int→List Int)(jo:List Int→List Int→List Int→List Int→List Int)(en:Pn→List Int)(mu:List Int→Pn→Pn)(b0:Pn)(ma:List Int→List Int→List Int→List Int):List (FuncId×an):=
 [(145,ah9 sec fS),(146,Rd kL),(149,Cc pre),(148,eJo jo),(45,eRo cD),(147,Cb red),(150,eNE en),(151,eNM mu),(152,e0P b0),(153,eB3 ma)]
theorem RJ(f:List Int→List Int→List Int)(sec fS pre cD red kL:List Int→List Int)(jo:List Int→List Int→List Int→List Int→List Int)(en:Pn→List Int)(mu:List Int→Pn→Pn)(b0:Pn)(ma:List Int→List Int→List Int→List Int)(s c m:List Int):aH Tryz.prog (Vb sec fS pre cD red kL jo en mu b0 ma) (at1 f) Zs (siA.wr (s,c,m,())) [] [.fr [.sym],.auto]=
 End.ite (decide ((255:Int)<(↑c.length:Int))) (End.leaf (LV.c6 [VV.agg [SV.arr (Ty.int IntKind.u8) (64:Nat) (List.replicate (64:Nat) (0:
 Int))],VV.sc (SV.bool (SB.sym false))]) []) (End.need (s.length=(32:Nat)) (End.need (s.length=(32:Nat)) (End.need ((0:Int)≤(0:Int)∧(0
 :Int)≤(64:Int)∧(64:Int)≤(64:Int)) (End.need (RG (pre c) (fS s) (List.take (64:Nat) (List.drop (0:Nat) m)) []) (End.need ((jo
 (pre c) (fS s) (List.take (64:Nat) (List.drop (0:Nat) m)) []).length≤(17592186044416:Nat)) (End.need ((cD (jo (pre c) (fS s) (List.take
 (64:Nat) (List.drop (0:Nat) m)) [])).length=(64:Nat)∧aN (cD (jo (pre c) (fS s) (List.take (64:Nat) (List.drop (0:Nat) m)) [])))
 (End.need ((red (cD (jo (pre c) (fS s) (List.take (64:Nat) (List.drop (0:Nat) m)) []))).length=(32:Nat)) (End.need ((0:Int)≤(0:Int)∧
 (0:Int)≤(32:Int)∧(32:Int)≤(32:Int)) (End.need ((0:Int)≤(0:Int)∧(0:Int)≤(32:Int)∧(32:Int)≤(32:Int)) (End.need ((0:
 Int)≤(0:Int)∧(0:Int)≤(64:Int)∧(64:Int)≤(64:Int)) (End.need (RG (pre c) (List.take (32:Nat) (List.drop (0:Nat) (en (mu (red
 (cD (jo (pre c) (fS s) (List.take (64:Nat) (List.drop (0:Nat) m)) []))) b0)))) (List.take (32:Nat) (List.drop (0:Nat) (kL s))) (List.take
 (64:Nat) (List.drop (0:Nat) m))) (End.need ((jo (pre c) (List.take (32:Nat) (List.drop (0:Nat) (en (mu (red (cD (jo (pre c) (fS s)
 (List.take (64:Nat) (List.drop (0:Nat) m)) []))) b0)))) (List.take (32:Nat) (List.drop (0:Nat) (kL s))) (List.take (64:Nat) (List.drop (0:
 Nat) m))).length≤(17592186044416:Nat)) (End.need ((cD (jo (pre c) (List.take (32:Nat) (List.drop (0:Nat) (en (mu (red (cD (jo (pre c) (fS
 s) (List.take (64:Nat) (List.drop (0:Nat) m)) []))) b0)))) (List.take (32:Nat) (List.drop (0:Nat) (kL s))) (List.take (64:Nat) (List.drop (0
 :Nat) m)))).length=(64:Nat)∧aN (cD (jo (pre c) (List.take (32:Nat) (List.drop (0:Nat) (en (mu (red (cD (jo (pre c) (fS s) (List.take
 (64:Nat) (List.drop (0:Nat) m)) []))) b0)))) (List.take (32:Nat) (List.drop (0:Nat) (kL s))) (List.take (64:Nat) (List.drop (0:Nat) m)))))
 (End.need (okB (red (cD (jo (pre c) (List.take (32:Nat) (List.drop (0:Nat) (en (mu (red (cD (jo (pre c) (fS s) (List.take (64:Nat) (List.drop
 (0:Nat) m)) []))) b0)))) (List.take (32:Nat) (List.drop (0:Nat) (kL s))) (List.take (64:Nat) (List.drop (0:Nat) m)))))∧okB (sec s)∧okB
 (red (cD (jo (pre c) (fS s) (List.take (64:Nat) (List.drop (0:Nat) m)) [])))) (End.need ((0:Int)=(0:Int)∧(en (mu (red (cD (jo (pre c)
 (fS s) (List.take (64:Nat) (List.drop (0:Nat) m)) []))) b0)).length=(32:Nat)∧(ma (red (cD (jo (pre c) (List.take (32:Nat) (List.drop (0
 :Nat) (en (mu (red (cD (jo (pre c) (fS s) (List.take (64:Nat) (List.drop (0:Nat) m)) []))) b0)))) (List.take (32:Nat) (List.drop (0:Nat)
 (kL s))) (List.take (64:Nat) (List.drop (0:Nat) m))))) (sec s) (red (cD (jo (pre c) (fS s) (List.take (64:Nat) (List.drop (0:Nat) m))
 [])))).length=(32:Nat)∧List.replicate (64:Nat) (0:Int)=List.replicate (64:Nat) (0:Int)) (End.leaf (LV.c6 [VV.agg [SV.arr (Ty.int
 IntKind.u8) (64:Nat) (f (en (mu (red (cD (jo (pre c) (fS s) (List.take (64:Nat) (List.drop (0:Nat) m)) []))) b0)) (ma (red (cD (jo (pre c)
 (List.take (32:Nat) (List.drop (0:Nat) (en (mu (red (cD (jo (pre c) (fS s) (List.take (64:Nat) (List.drop (0:Nat) m)) []))) b0))))
 (List.take (32:Nat) (List.drop (0:Nat) (kL s))) (List.take (64:Nat) (List.drop (0:Nat) m))))) (sec s) (red (cD (jo (pre c) (fS s)
 (List.take (64:Nat) (List.drop (0:Nat) m)) [])))))],VV.sc (SV.bool (SB.sym true))]) [])))))))))))))))):=by kernel_rfl
def an2(q:Pn)(P:BJ.Pt):Prop:=∃p:E4,q=pn p∧ML p P
theorem aic{q:Pn}{P:BJ.Pt}(h:an2 q P):dC q=ahE P:=by
 obtain⟨p,rfl,hp⟩:=h;unfold dC ahE;rw[QD];unfold alJ qH;rw[apP hp,apQ hp]
theorem Zt:an2 gx il:=⟨AG,agf,KW⟩
theorem Zu{n:List Int}(hn:okB n){q:Pn}{P:BJ.Pt}(h:an2 q P):an2 (iq n q) (o9 (sc n) P):=by
 obtain⟨p,rfl,hp⟩:=h;obtain⟨h1,h2⟩:=UY hn;refine⟨AH (cR (qT n)).toNat p,by rw[DJ,agr h1],?_⟩;have:=AZ (agp h1) hp;unfold sc;rw[← h2];exact this
theorem azp{n:List Int}(hn:okB n):dC (iq n gx)=dF (gS n):=by
 rw[aic (Zu hn Zt),ahF (Bk hn)]
theorem an3(s:List Int):w9 s=Bi s:=by unfold w9 Bi;exact azp (Hr s)
theorem xa(q:Pn):(dC q).length=32:=Vec.cF _
theorem aid(s:List Int):(w9 s).length=32:=xa _
theorem aie(b:List Int):(gH b).length=64:=oR _
theorem an4(b:List Int):aN (gH b):=by
 have key:∀ (l:List Nat) (s a:List Int),aN a→aN (l.foldl (fun a i=>a++bX (s.getD i 0)) a):=by
  intro l s
  induction l with
  |nil=>exact fun a h=>h
  |cons i l ih=>exact fun a h=>ih _ (h.append (LB _))
 exact key _ _ [] (fun z hz=>by cases hz)
theorem Bv(a b c d:List Int):(dy a b c d).length=a.length+b.length+c.length+d.length:=by unfold dy;simp only[List.length_append]
abbrev nSB(r:List Int×Bool):LV:=.c6 [.agg [.arr (.int .u8) 64 r.1],.sc (.bool (.sym r.2))]
def azq(g:List Int→List Int→List Int→List Int×Bool):an:=an.cm [none,some u8,none] siA ag fun x _=>.leaf (some (x.1.length=32∧x.2.2.1.length=64)) (nSB (g x.1 x.2.1 x.2.2.1)) []
abbrev Mj(fS pre cD red:List Int→List Int)(jo:List Int→List Int→List Int→List Int→List Int)(s c m:List Int):List Int:=red (cD (jo (pre c) (fS s) m []))
abbrev an5(pre cD red:List Int→List Int)(jo:List Int→List Int→List Int→List Int→List Int)(r p c m:List Int):List Int:=red (cD (jo (pre c) r p m))
theorem Zv(f:List Int→List Int→List Int)(sec fS pre cD red kL:List Int→List Int)(jo:List Int→List Int→List Int→List Int→List Int)(en:Pn→List Int)(mu:List Int→Pn→Pn)(b0:Pn)(ma:List Int→List Int→List Int→List Int){s c m:List Int}(hs:s.length=32)(hm:m.length=64)(h1:∀b,(cD b).length=64)(h2:∀b,aN (cD b))(h3:∀b,okB (red b))(h4:∀q,(en q).length=32)(h5:(kL s).length=32)(h7:okB (sec s))(h8:∀a b c,(ma a b c).length=32)(h9:(pre c).length≤289)(Z0:(fS s).length=32)(hj:∀a b c d,(jo a b c d).length=a.length+b.length+c.length+d.length):
  ∃t_:Ev.End,aH Tryz.prog (Vb sec fS pre cD red kL jo en mu b0 ma) (at1 f) Zs (siA.wr (s,c,m,())) [] [.fr [.sym],.auto]=t_∧t_.sat fun v dP=>v=nSB (if c.length≤255 then(f (en (mu (Mj fS pre cD red jo s c m) b0)) (ma (an5 pre cD red jo (en (mu (Mj fS pre cD red jo s c m) b0)) (kL s) c m) (sec s) (Mj fS pre cD red jo s c m)),true)else(List.replicate 64 0,false))∧dP= []:=by
 refine⟨_,RJ ..,?_⟩;unfold Mj an5;rw[aX hm,aX h5];have l2:=h3 (cD (jo (pre c) (fS s) m []));generalize hN:red (cD (jo (pre c) (fS s) m []))=N at*;have l3:=h4 (mu N b0);rw[aX l3];generalize hR:en (mu N b0)=R at*;have j1:=hj (pre c) (fS s) m [];have j2:=hj (pre c) R (kL s) m;have l4:=h3 (cD (jo (pre c) R (kL s) m));refine⟨fun h=>?_,fun h=>?_⟩
 ·have h:=of_decide_eq_true h;rw[if_neg (by omega)];exact⟨rfl,rfl⟩
 ·have h:=of_decide_eq_false h;rw[if_pos (by omega)];refine⟨hs,hs,by decide,?_,?_,⟨h1 _,h2 _⟩,l2.1,by decide,by decide,by decide,?_,?_,⟨h1 _,h2 _⟩,⟨l4,h7,l2⟩,⟨rfl,l3,h8 _ _ _,rfl⟩,rfl,rfl⟩
  ·show(pre c).length+(fS s).length+m.length+0<1000000;omega
  ·rw[j1,List.length_nil];omega
  ·show(pre c).length+R.length+(kL s).length+m.length<1000000;omega
  ·rw[j2];omega
def Bw(s c m:List Int):List Int×Bool:=((jU s c m).1,decide (c.length≤255))
theorem aif{b:List Int}(h:b.length≤17592186044416):gH b=bB b:=(GK h).symm
theorem an6(s:List Int){c m:List Int}(hm:m.length=64):Mj kS fC gH im dy s c m=xi s c m:=by
 have hp:=uG c;have hl:(kS s).length=32:=by unfold kS;rw[List.length_drop,cI]
 have e:dy (fC c) (kS s) m []=fC c++((bB s).drop 32++m):=by unfold dy kS;rw[List.append_nil,List.append_assoc]
 show im (gH (dy (fC c) (kS s) m []))=xi s c m;rw[aif (by rw[Bv,hl,hm,List.length_nil];omega),e];unfold xi;rfl
theorem an7{r p c m:List Int}(hr:r.length=32)(dP:p.length=32)(hm:m.length=64):an5 fC gH im dy r p c m=nL c r p m:=by
 have hp:=uG c;have e:dy (fC c) r p m=fC c++(r++(p++m)):=by unfold dy;rw[List.append_assoc,List.append_assoc]
 show im (gH (dy (fC c) r p m))=nL c r p m;rw[aif (by rw[Bv,hr,dP,hm];omega),e];unfold nL;rfl
theorem aih{s c m:List Int}(hm:m.length=64):
  (if c.length≤255 then(dC (iq (Mj kS fC gH im dy s c m) gx)++nA (an5 fC gH im dy (dC (iq (Mj kS fC gH im dy s c m) gx)) (w9 s) c m) (kG s) (Mj kS fC gH im dy s c m),true)else(List.replicate 64 0,false))=Bw s c m:=by
 unfold Bw;rw[uH,an6 s hm,azp (show okB (xi s c m)from uF _),an3,an7 (pj _) (LD s) hm]
 by_cases h:c.length≤255
 ·rw[if_pos h,if_pos h,decide_eq_true h];unfold Hs;rfl
 ·rw[if_neg h,if_neg h,decide_eq_false h]
theorem aii:∀p∈Vb kG kS fC gH im w9 dy dC iq gx nA,p.2.Ok Tryz.prog p.1:=al DM (al anZ (al anT (al aib (al HK (al RC (al Bp (al L6 (al L3 (al RF aw)))))))))
abbrev at3:an:=azq Bw
theorem aij:at3.Ok Tryz.prog 93:=by
 refine(an.aS call93 fun x_ y_ Q H_=>?_).sym;obtain⟨s,c,m,_⟩:=x_;obtain⟨hn,hq⟩:=H_;have hn:s.length=32∧m.length=64:=hn;have hc:iO Tryz.prog 93 (siA.wr (s,c,m,())) [] (aH Tryz.prog (Vb kG kS fC gH im w9 dy dC iq gx nA) (at1 (· ++ ·)) Zs (siA.wr (s,c,m,())) [] [.fr [.sym],.auto]):=ar mixed aii func93 rfl (aK.bI (iu rfl (bt (hp:= []) an1) iE));obtain⟨t_,ht,hs⟩:=Zv (· ++ ·) kG kS fC gH im w9 dy dC iq gx nA (c:=c) hn.1 hn.2 aie an4 uF xa (aid s) (Hr s) LF (uG c) (by unfold kS;rw[List.length_drop,cI]) Bv;rw[aih hn.2]at hs;rw[ht]at hc;exact hc.use (D:= []) hs hq
theorem Zw:aH Tryz.prog [] [] f94 [] [] [.auto,.aF]=
 End.leaf (LV.one (VV.sc (SV.sl (0:Nat) (0:Nat)))) [some (Item.own (0:Nat) (Ty.int IntKind.u8) [(98:Int),(111:Int),(111:Int),(116:Int),
 (106:Int),(97:Int),(99:Int),(107:Int)])]:=by kernel_rfl
theorem an8:adM.Ok Tryz.prog 94:=by
 refine an.aS call94 fun x y Q h=>?_;refine(ar mixed aw func94 rfl (LT:= []) (ks:= [.auto,.aF]) (aK.nil _)).use (D:= [(0,.own 0 u8 [98,111,111,116,106,97,99,107])]) ?_ h.2;show(aH _ _ _ _ [] [] _).sat _;rw[Zw];exact⟨rfl,rfl⟩
abbrev hd2:aQ (Option Ev.Item) (Int×Int×Unit):=fG 40 (oM ag)
end Go.Proofs.YtnbkagglkajbkaaGreat
end
noncomputable section
namespace Go.Proofs.YtnbkagglkajbkaaGreat
open Go Go.Ev Go.Proofs.Tryz
open Go.IntKind (i64 signed u16 u64 wrap)
set_option maxRecDepth 1000000
abbrev de:Type:=Int×Int×Int×List Int
abbrev Vc:aQ (List SV) de:=(ae (aA .i64) (ae (aA .u64) (ae (aA .u64) (ae (gg false false (.int .i64)) ag)))).lV (fun x=>(x.1,x.2.1,x.2.2.1,x.2.2.2.1)) (fun y=>(y.1,y.2.1,y.2.2.1,y.2.2.2,())) (fun _=>rfl)
abbrev an9:aQ (List LV) (de×List Int×Unit):=ae (qC Vc) (ae (ah (gg false false u8)) ag)
def nT:List Int→Int→Bool
 | [],_=>true
 |s::l,n=>decide (1≤s∧s≤8192∧s≤n)&&nT l (n-s)
def du:List Int→Int
 | []=>0
 |s::l=>s+du l
abbrev Bx:Type:=Int×(List Int)×Int×Int
abbrev Bz:aQ St Bx:=(aT (jk 5 (ae (ah (aA i64)) (jk 32 (ae (ah (gg false false (Ty.int i64)))
 (ae (ah (aA i64)) (ae (ah (aA i64)) (jk 20 ag))))))) ag).lV (fun y=>(y.1.1,y.1.2.1,y.1.2.2.1,y.1.2.2.2.1)) (fun
 x=>((x.1,(x.2.1,(x.2.2.1,(x.2.2.2,())))),())) (fun _=>rfl)
abbrev RK:List Wk:= [.fr (cb 61 [(5,.ak),(38,.ak),(39,.ak),(40,.ak)]),.syms,.auto,.aF]
abbrev aik:Exit→List Wk:=wT RK 0 [.fr (cb 61 [(5,.ak)]),.syms,.auto,.aF] [.fr (cb 61 [(4,.ak)]),.syms,.auto,.aF]
abbrev HL:Type:=Bool
abbrev Vd(x:HL):Exit×St:=(Exit.ret,⟨(gA 4 (LV.one (VV.sc (SV.bool (SB.sym x)))::(gA 56 []))),[]⟩)
abbrev HM:Type:=Int
abbrev Ve(x:HM):Exit×St:=(Exit.exit 0,⟨(gA 5 (LV.one (VV.sc (SV.int i64 (SI.sym x)))::(gA 55 []))),[]⟩)
def BA(n:Int)(s:List Int)(m:Int)(i:Int):Tr (Bx⊕(HL⊕HM)):=(.ite (decide (i<m)) (.need (0≤i∧i<
 (↑s.length:Int)) (.ite (decide (s.getD i.toNat (0:Int)<1)==false) (.ite (decide (8192<s.getD i.toNat 0)==false) (.ite (decide (n<s.getD
 i.toNat 0)) (.ret (.inr (.inl (false)))) (.ret (.inl (i64.wrap (n-s.getD i.toNat 0),s,m,i64.wrap (i+1))))) (.ret (.inr (.inl
 (false))))) (.ret (.inr (.inl (false)))))) (.ret (.inr (.inr (n)))))
theorem RL(p:de)(d:List Int)(n:Int)(s:List Int)(m:Int)(i:Int):ct Tryz.prog [] [] f36 0 ((ag).wr (())) aik (Bz.wr (n,s,m,i))=(BA n s m i).res Bz.wr (Sum.elim Vd Ve):=by kernel_rfl
abbrev uL(n:Int)(s:List Int)(m:Int)(i:Int):Prop:=m=s.length∧0≤i∧i≤m∧0≤n∧n<1099511627776∧m<1099511627776
abbrev RM(n:Int)(s:List Int)(m:Int)(i:Int):Bool:= !nT (s.drop i.toNat) n
abbrev RN(n:Int)(s:List Int)(m:Int)(i:Int):HL:=false
abbrev RO(n:Int)(s:List Int)(m:Int)(i:Int):HM:=n-du (s.drop i.toNat)
abbrev RP:Bx→aG:=mW (fun x_=>uL x_.1 x_.2.1 x_.2.2.1 x_.2.2.2) (fun x_=>RM x_.1 x_.2.1 x_.2.2.1 x_.2.2.2) (fun x_=>RN x_.1 x_.2.1 x_.2.2.1 x_.2.2.2) (fun x_=>RO x_.1 x_.2.1 x_.2.2.1 x_.2.2.2) Vd Ve
theorem ail(n:Int)(s:List Int)(m:Int)(i:Int)(h_:uL n s m i):cK (fun x_:Bx=>BA x_.1 x_.2.1 x_.2.2.1 x_.2.2.2) (n,s,m,i) (bif RM n s m i then .inl (RN n s m i)else .inr (RO n s m i)):=by
 delta RM RN RO;obtain⟨rfl,h1,h2,h3,h4,h5⟩:=h_;obtain⟨k,rfl⟩:∃k:Nat,i=k:=⟨i.toNat,by omega⟩;obtain⟨j,hj⟩:∃j:Nat,s.length-k=j:=⟨_,rfl⟩;rw[Int.toNat_natCast]
 induction j generalizing k n with
 |zero=>
  rw[List.drop_eq_nil_of_le (by omega)];refine .stop ?_;simp only[BA,nT,du,a5,ao,Bool.not_true,cond_false];exact⟨fun h=>by omega,fun _=>by simp⟩
 |succ j ih=>
  have hk:k<s.length:=by omega
  rw[ja 0 hk,nT,du];have e1:decide ((k:Int)<s.length)=true:=decide_eq_true (by omega);generalize hx:s.getD k 0=x at*
  by_cases c:1≤x∧x≤8192∧x≤n
  ·have d1:(decide (x<1)==false)=true:=(by simp;omega);have d2:(decide (8192<x)==false)=true:=(by simp;omega);have d3:decide (n<x)=false:=decide_eq_false (by omega);rw[decide_eq_true c,Bool.true_and,show n-(x+du (s.drop (k+1)))=n-x-du (s.drop (k+1))from by omega];refine .go ?_ (ih (n-x) (by omega) (by omega) (k+1) (by omega) (by omega) (by omega));simp only[BA,e1,a6,aq,ao,Int.toNat_natCast,hx,d1,d2,d3,bw];rw[au (by omega) (by omega),au (by omega) (by omega)];exact⟨⟨by omega,by omega⟩,rfl⟩
  ·rw[decide_eq_false c,Bool.false_and];refine .stop ?_;simp only[BA,e1,a6,aq,ao,cu,Int.toNat_natCast,hx];simp;omega
theorem Zx(p:de)(d:List Int):∀x:Bx,Ex Tryz.prog ((ag).wr (())) (.loop (aP f36 0)) (Bz.wr x) (RP x):=
 cn mixed aw (ws:=aik) (aK.nil _) (fun x_=>RL p d x_.1 x_.2.1 x_.2.2.1 x_.2.2.2) (fun z=>by cases z<;>(intro e;cases e)) oA (fun x_ h=>ail x_.1 x_.2.1 x_.2.2.1 x_.2.2.2 h)
def pq(p:de)(n:Int):Bool:=decide (0≤p.1∧p.1<8∧1≤p.2.2.2.length∧p.2.2.2.length≤16∧p.2.2.1≤p.2.1)&&(nT p.2.2.2 n&&decide (n-du p.2.2.2=0))
def HN(p:Int×Int×Int×List Int)(d:List Int):Int:=(↑d.length:Int)
def HO(p:Int×Int×Int×List Int)(d:List Int):Int:=(↑p.snd.snd.snd.length:Int)
abbrev Vf:Type:=Bool
abbrev aqk(x:Vf):LV:=LV.one (VV.sc (SV.bool (SB.sym x)))
abbrev aql(x:Vf):List (Nat×Ev.Item):= []
def aim(p:Int×Int×Int×List Int)(d:List Int):Tr (Vf):=(.ite (decide (p.fst<0)==false) (.ite (decide (8≤p.fst)
 ==false) (.ite (decide (HO p d<1)==false) (.ite (decide (16<HO p d)==false) (.ite (decide (p.snd.fst<p.snd.snd.fst)) (.ret (false))
 (.need (uL (HN p d) p.snd.snd.snd (HO p d) 0) (.ite (!nT (List.drop 0 p.snd.snd.snd) (HN p d)) (.ret (false)) (.ret (HN p d-
 du (List.drop 0 p.snd.snd.snd)==0))))) (.ret (false))) (.ret (false))) (.ret (false))) (.ret (false)))
theorem Zy(p:de)(d:List Int):aH Tryz.prog [] [(0,bU Bz ((ag).wr (())) RK (RP))] f36 ((an9).wr (p,d,())) ((ag).wr (())) [.fr [.sym],.syms,.auto,.aF]=(aim p d).end aqk aql ((ag).wr (())):=by kernel_rfl
theorem ain(p:de)(d:List Int):aK Tryz.prog ((ag).wr (())) [(0,bU Bz ((ag).wr (())) RK (RP))] (aJ f36):=(aK.bI (iu (by kernel_rfl) (bM (hp:=(ag).wr (())) (Zx p d)) iE))
abbrev ya(p:de)(d:List Int):Prop:=d.length<1099511627776∧p.2.2.2.length<1099511627776
abbrev aio(p:de)(d:List Int):Vf:=pq p d.length
def aip:an:=cQ [] (an9) (ag) (fun x_ y_=>ya x_.1 x_.2.1) (fun x_ y_=>aio x_.1 x_.2.1) aqk aql
theorem aoa(p:de)(d:List Int)(h_:ya p d):(aim p d).Is (aio p d):=by
 delta aio;obtain⟨h1,h2⟩:=h_;obtain⟨a,b,c,s⟩:=p;simp only at h2;have p0:uL (d.length:Int) s (s.length:Int) 0:=⟨rfl,by omega,by omega,by omega,by omega,by omega⟩;have e0:HN (a,b,c,s) d=d.length:=rfl;have e2:HO (a,b,c,s) d=s.length:=rfl;simp only[aim,cu,aq,ao,pq,e0,e2];simp;grind
theorem Vg:aip.Ok Tryz.prog 36:=
 bJ mixed aw func36 (by kernel_rfl) call36 (fun x_ y_=>ain x_.1 x_.2.1) (fun x_ y_=>Zy x_.1 x_.2.1) (fun x_ y_ h=>aoa x_.1 x_.2.1 h)
end Go.Proofs.YtnbkagglkajbkaaGreat
end
