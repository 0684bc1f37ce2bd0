/- What the laws lean on, part 18: a reader of code, plain facts, and what each function gives; no conditions. -/
import Derived.Test.YtcbjpiangpjbgaaGreatA17
set_option linter.unusedVariables false
set_option linter.unusedSimpArgs false
noncomputable section
namespace Go.Proofs.YtcbjpiangpjbgaaGreat
open Go Go.Ev BJ Go.Proofs.Tryz
open Go.IntKind (i64 signed u32 u64 wrap wrap_u32)
set_option maxRecDepth 1000000
abbrev sC:aY LV Fn:=iD (jd .i64 16)
abbrev Ha:aY (List LV) (Fn×Unit):=ag sC ae
abbrev qZ:aY (List LV) (Fn×Fn×Unit):=ag sC (ag sC ae)
abbrev AK(r:Fn×Bool):LV:=.cG [.agg ((jd .i64 16).wr r.1),.sc (.bool (.sym r.2))]
def Qd(c:Fn):ao:=ao.cH [] ae ae fun _ _=>.leaf none (sC.wr c) []
def nW(g:Fn→Fn):ao:=ao.cH [] Ha ae fun x _=>.leaf none (sC.wr (g x.1)) []
def kM(g:Fn→Fn→Fn):ao:=ao.cH [] qZ ae fun x _=>.leaf none (sC.wr (g x.1 x.2.1)) []
def Qe(g:Fn→Bool):ao:=ao.cH [] Ha ae fun x _=>.leaf none (nB (g x.1)) []
def aqU(g:Fn→Fn→Bool):ao:=ao.cH [] qZ ae fun x _=>.leaf none (nB (g x.1 x.2.1)) []
def AL(g:Fn→Fn×Bool):ao:=ao.cH [] Ha ae fun x _=>.leaf none (AK (g x.1)) []
def aqV(g:Fn→Fn→Fn×Bool):ao:=ao.cH [] qZ ae fun x _=>.leaf none (AK (g x.1 x.2.1)) []
def eNF(g:List Int→Fn):ao:=ao.cH [] ki ae fun x _=>.leaf none (sC.wr (g x.1)) []
def CK(g:Int→Fn):ao:=ao.cH [] Pk ae fun x _=>.leaf none (sC.wr (g x.1)) []
def eNY(g:Fn→List Int):ao:=ao.cH [] Ha ae fun x _=>.leaf none (dQ .u8 32 (g x.1)) []
def eNC(g:List Int→Bool):ao:=ao.cH [] ki ae fun x _=>.leaf (some (x.1.length=32)) (nB (g x.1)) []
abbrev aqW:ao:=Qd dR
theorem Lt:aN Tryz.prog [] [] f222 ((ae).wr ()) [] kK= .leaf (sC.wr dR) []:=by kernel_rfl
theorem Lu:∀p_∈([]:List (FuncId×ao)),p_.2.Ok Tryz.prog p_.1:=aw
theorem CL:aqW.Ok Tryz.prog 222:=by
 refine(ao.ba call222 fun x_ y_ Q H_=>?_).sym;have hq:=H_.2;refine(au (tab:= []) mixed Lu func222 rfl (LT:= []) (ks:=kK) (aJ.nil _)).use (D:= []) ?_ hq;show(aN _ _ _ _ ((ae).wr ()) [] _).sat _;rw[Lt];exact⟨rfl,rfl⟩
def wz(a b:Fn):Nat→Ev.End
 |0=>.leaf (nB false) []
 |k+1=>.ite (a.get k !=b.get k) (.leaf (nB (decide (a.get k<b.get k))) []) (wz a b k)
theorem CM(a b:Fn):∀k,(wz a b k).sat fun v dI=>v=nB (iM a b k)∧dI= []
 |0=>⟨rfl,rfl⟩
 |k+1=>by
  refine⟨fun h=>⟨?_,rfl⟩,fun h=>?_⟩
  ·rw[iM,h];rfl
  ·rw[iM,h];exact CM a b k
abbrev aqX:ao:=aqU uF
theorem Lv(a b:Fn):aN Tryz.prog [] [] f221 ((qZ).wr (a,b,())) [] kK=wz a b 16:=by kernel_rfl
theorem Lw:∀p_∈([]:List (FuncId×ao)),p_.2.Ok Tryz.prog p_.1:=aw
theorem YY:aqX.Ok Tryz.prog 221:=by
 refine(ao.ba call221 fun x_ y_ Q H_=>?_).sym;obtain⟨a,b,_⟩:=x_;have hq:=H_.2;refine(au (tab:= []) mixed Lw func221 rfl (LT:= []) (ks:=kK) (aJ.nil _)).use (D:= []) ?_ hq;show(aN _ _ _ _ ((qZ).wr (a,b,())) [] _).sat _;rw[Lv];exact CM a b 16
def CN(t:Fn):Fn:=cN (eM (cN (eM (cN (eM (cN (eM (cN t))))))))
theorem akv{b:Bool}{u v x:Fn}(h:x=df b u v):(Ev.End.ite b (.leaf (sC.wr u) []) (.leaf (sC.wr v) [])).sat fun v dI=>v=sC.wr x∧dI= []:=by
 subst h;rw[bU]
 cases b
 ·exact⟨fun h=>(by cases h),fun _=>⟨rfl,rfl⟩⟩
 ·exact⟨fun _=>⟨rfl,rfl⟩,fun h=>(by cases h)⟩
theorem AM{u x:Fn}(h:x=u):(Ev.End.leaf (sC.wr u) []).sat fun v dI=>v=sC.wr x∧dI= []:=by subst h;exact⟨rfl,rfl⟩
theorem norm_eq(t:Fn):dN t=df (!(uF (CN t) dR)) (cN (Vec.zip (fun a b=>w (a-b)) (CN t) dR)) (CN t):=by unfold dN auo;rfl
abbrev azh:ao:=nW dN
theorem Qf(p:Fn)(bel:Fn→Fn→Bool)(t:Fn):aN Tryz.prog [(222,Qd p),(221,aqU bel)] [] f197 ((Ha).wr (t,())) [] kK= .ite (!(bel (CN t) p)) (.leaf (sC.wr (cN (Vec.zip (fun a b=>w (a-b)) (CN t) p))) []) (.leaf (sC.wr (CN t)) []):=by kernel_rfl
theorem Qg:∀p_∈([(222,Qd dR),(221,aqU uF)]:List (FuncId×ao)),p_.2.Ok Tryz.prog p_.1:=(aj CL (aj YY aw))
theorem uV:azh.Ok Tryz.prog 197:=by
 refine(ao.ba call197 fun x_ y_ Q H_=>?_).sym;obtain⟨t,_⟩:=x_;have hq:=H_.2;refine(au (tab:= [(222,Qd dR),(221,aqU uF)]) mixed Qg func197 rfl (LT:= []) (ks:=kK) (aJ.nil _)).use (D:= []) ?_ hq;show(aN _ _ _ _ ((Ha).wr (t,())) [] _).sat _;rw[Qf dR uF];exact akv (norm_eq t)
def gQ(b:List Int):Fn:=wm (kp b)
theorem YZ(b:List Int):gQ b=ahO dN (kp b):=by unfold gQ wm;rfl
abbrev azi:ao:=eNF gQ
theorem Qh(norm:Fn→Fn)(b:List Int):aN Tryz.prog [(197,nW norm)] [] f159 ((ki).wr (b,())) [] kK= .leaf (sC.wr (ahO norm (kp b))) []:=by kernel_rfl
theorem Qi:∀p_∈([(197,nW dN)]:List (FuncId×ao)),p_.2.Ok Tryz.prog p_.1:=(aj uV aw)
theorem Lx:azi.Ok Tryz.prog 159:=by
 refine(ao.ba call159 fun x_ y_ Q H_=>?_).sym;obtain⟨b,_⟩:=x_;have hq:=H_.2;refine(au (tab:= [(197,nW dN)]) mixed Qi func159 rfl (LT:= []) (ks:=kK) (aJ.nil _)).use (D:= []) ?_ hq;show(aN _ _ _ _ ((ki).wr (b,())) [] _).sat _;rw[Qh dN];exact AM (YZ b)
abbrev aqY:ao:=CK bK
theorem Ly(n:Int):aN Tryz.prog [] [] f173 ((Pk).wr (n,())) [] kK= .leaf (sC.wr (bK n)) []:=by kernel_rfl
theorem Lz:∀p_∈([]:List (FuncId×ao)),p_.2.Ok Tryz.prog p_.1:=aw
theorem jI:aqY.Ok Tryz.prog 173:=by
 refine(ao.ba call173 fun x_ y_ Q H_=>?_).sym;obtain⟨n,_⟩:=x_;have hq:=H_.2;refine(au (tab:= []) mixed Lz func173 rfl (LT:= []) (ks:=kK) (aJ.nil _)).use (D:= []) ?_ hq;show(aN _ _ _ _ ((Pk).wr (n,())) [] _).sat _;rw[Ly];exact⟨rfl,rfl⟩
def hS(x:Fn):List Int:=(nG x).toList
abbrev aqZ:ao:=eNY hS
theorem LA(x:Fn):aN Tryz.prog [] [] f166 ((Ha).wr (x,())) [] kR= .leaf (dQ .u8 32 (nG x).toList) []:=by kernel_rfl
theorem LB:∀p_∈([]:List (FuncId×ao)),p_.2.Ok Tryz.prog p_.1:=aw
theorem CO:aqZ.Ok Tryz.prog 166:=by
 refine(ao.ba call166 fun x_ y_ Q H_=>?_).sym;obtain⟨x,_⟩:=x_;have hq:=H_.2;refine(au (tab:= []) mixed LB func166 rfl (LT:= []) (ks:=kR) (aJ.nil _)).use (D:= []) ?_ hq;show(aN _ _ _ _ ((Ha).wr (x,())) [] _).sat _;rw[LA];exact⟨rfl,rfl⟩
def im(b:List Int):Bool:=il (kp b)
abbrev aq0:ao:=eNC im
theorem LC(j4:List Int→Fn)(bytes:Fn→List Int)(b:List Int):aN Tryz.prog [(159,eNF j4),(166,eNY bytes)] [] f157 ((ki).wr (b,())) [] kK= .leaf (nB (decide (bytes (j4 (b.set 31 (bd .u8 (b.getD 31 0) 127)))=b.set 31 (bd .u8 (b.getD 31 0) 127)))) []:=by kernel_rfl
theorem LD:∀p_∈([(159,eNF gQ),(166,eNY hS)]:List (FuncId×ao)),p_.2.Ok Tryz.prog p_.1:=(aj Lx (aj CO aw))
theorem Y0:aq0.Ok Tryz.prog 157:=by
 refine(ao.ba call157 fun x_ y_ Q H_=>?_).sym;obtain⟨b,_⟩:=x_;obtain⟨hn,hq⟩:=H_;have hn:b.length=32:=hn;refine(au (tab:= [(159,eNF gQ),(166,eNY hS)]) mixed LD func157 rfl (LT:= []) (ks:=kK) (aJ.nil _)).use (D:= []) ?_ hq;show(aN _ _ _ _ ((ki).wr (b,())) [] _).sat _;rw[LC gQ hS];have e:=FC hn (k:=31) (by omega) (fun x=>bd .u8 x 127);unfold gQ hS im;rw[e];rw[show b.set 31 (bd .u8 (b.getD 31 0) 127)=(kp (b.set 31 (bd .u8 (b.getD 31 0) 127))).toList from(ib (by simpa using hn)).symm,FB,e];exact⟨rfl,rfl⟩
theorem aq1(x y:Fn):fY x y=ax3 dN x y:=by unfold fY;rfl
abbrev aER:ao:=kM fY
theorem Y1(norm:Fn→Fn)(x y:Fn):aN Tryz.prog [(197,nW norm)] [] f170 ((qZ).wr (x,y,())) [] kK= .leaf (sC.wr (ax3 norm x y)) []:=by kernel_rfl
theorem Y2:∀p_∈([(197,nW dN)]:List (FuncId×ao)),p_.2.Ok Tryz.prog p_.1:=(aj uV aw)
theorem yw:aER.Ok Tryz.prog 170:=by
 refine(ao.ba call170 fun x_ y_ Q H_=>?_).sym;obtain⟨x,y,_⟩:=x_;have hq:=H_.2;refine(au (tab:= [(197,nW dN)]) mixed Y2 func170 rfl (LT:= []) (ks:=kK) (aJ.nil _)).use (D:= []) ?_ hq;show(aN _ _ _ _ ((qZ).wr (x,y,())) [] _).sat _;rw[Y1 dN];exact AM (aq1 x y)
theorem aq2(x y:Fn):iN x y=ax4 dR dN x y:=by unfold iN;rfl
abbrev aES:ao:=kM iN
theorem Y3(p:Fn)(norm:Fn→Fn)(x y:Fn):aN Tryz.prog [(222,Qd p),(197,nW norm)] [] f199 ((qZ).wr (x,y,())) [] kK= .leaf (sC.wr (ax4 p norm x y)) []:=by kernel_rfl
theorem Y4:∀p_∈([(222,Qd dR),(197,nW dN)]:List (FuncId×ao)),p_.2.Ok Tryz.prog p_.1:=(aj CL (aj uV aw))
theorem Gr:aES.Ok Tryz.prog 199:=by
 refine(ao.ba call199 fun x_ y_ Q H_=>?_).sym;obtain⟨x,y,_⟩:=x_;have hq:=H_.2;refine(au (tab:= [(222,Qd dR),(197,nW dN)]) mixed Y4 func199 rfl (LT:= []) (ks:=kK) (aJ.nil _)).use (D:= []) ?_ hq;show(aN _ _ _ _ ((qZ).wr (x,y,())) [] _).sat _;rw[Y3 dR dN];exact AM (aq2 x y)
theorem aq3(x y:Fn):bx x y=ax5 dN x y:=by unfold bx;rfl
abbrev aET:ao:=kM bx
theorem Y5(norm:Fn→Fn)(x y:Fn):aN Tryz.prog [(197,nW norm)] [] f167 ((qZ).wr (x,y,())) [] kK= .leaf (sC.wr (ax5 norm x y)) []:=by kernel_rfl
theorem Y6:∀p_∈([(197,nW dN)]:List (FuncId×ao)),p_.2.Ok Tryz.prog p_.1:=(aj uV aw)
theorem jN:aET.Ok Tryz.prog 167:=by
 refine(ao.ba call167 fun x_ y_ Q H_=>?_).sym;obtain⟨x,y,_⟩:=x_;have hq:=H_.2;refine(au (tab:= [(197,nW dN)]) mixed Y6 func167 rfl (LT:= []) (ks:=kK) (aJ.nil _)).use (D:= []) ?_ hq;show(aN _ _ _ _ ((qZ).wr (x,y,())) [] _).sat _;rw[Y5 dN];exact AM (aq3 x y)
theorem aq4(x:Fn):fb x=iN cI x:=by unfold fb;rfl
abbrev aEU:ao:=nW fb
theorem Y7(sub:Fn→Fn→Fn)(x:Fn):aN Tryz.prog [(199,kM sub)] [] f161 ((Ha).wr (x,())) [] kK= .leaf (sC.wr (sub cI x)) []:=by kernel_rfl
theorem Y8:∀p_∈([(199,kM iN)]:List (FuncId×ao)),p_.2.Ok Tryz.prog p_.1:=(aj Gr aw)
theorem yx:aEU.Ok Tryz.prog 161:=by
 refine(ao.ba call161 fun x_ y_ Q H_=>?_).sym;obtain⟨x,_⟩:=x_;have hq:=H_.2;refine(au (tab:= [(199,kM iN)]) mixed Y8 func161 rfl (LT:= []) (ks:=kK) (aJ.nil _)).use (D:= []) ?_ hq;show(aN _ _ _ _ ((Ha).wr (x,())) [] _).sat _;rw[Y7 iN];exact AM (aq4 x)
abbrev aEV:ao:=Qe qU
theorem Y9(x:Fn):aN Tryz.prog [] [] f168 ((Ha).wr (x,())) [] kK= .leaf (nB (qU x)) []:=by kernel_rfl
theorem Za:∀p_∈([]:List (FuncId×ao)),p_.2.Ok Tryz.prog p_.1:=aw
theorem UH:aEV.Ok Tryz.prog 168:=by
 refine(ao.ba call168 fun x_ y_ Q H_=>?_).sym;obtain⟨x,_⟩:=x_;have hq:=H_.2;refine(au (tab:= []) mixed Za func168 rfl (LT:= []) (ks:=kK) (aJ.nil _)).use (D:= []) ?_ hq;show(aN _ _ _ _ ((Ha).wr (x,())) [] _).sat _;rw[Y9];exact⟨rfl,rfl⟩
def fg(a:List Int)(i:Int):Int:=mb (kp a) i.toNat
def avc:ao:=ao.cH [] (biA) (ae) fun x_ y_=>(fun(a:List Int) (i:Int)=>.leaf (some (a.length=32∧0≤i∧i<256)) (nI (fg a i)) []) x_.1 x_.2.1
theorem Zb(a:List Int)(i:Int):aN Tryz.prog [] [] f172 ((biA).wr (a,i,())) ((ae).wr ()) [.fr [.sym],.auto]=
 End.ite (decide (i<(0:Int))==false) (End.ite (decide ((255:Int)<i)) (End.leaf (LV.one (VV.sc (SV.int i64 (SI.sym (0:Int))))) [])
 (End.need ((0:Int)≤i64.wrap (i.tdiv (8:Int))∧i64.wrap (i.tdiv (8:Int))<(32:Int)) (End.need ((0:Int)≤u64.wrap
 (i.tmod (8:Int))) (End.leaf (LV.one (VV.sc (SV.int i64 (SI.sym (bd i64 (i64.wrap (shr IntKind.u8 ((List.take (32:Nat)
 (List.drop (0:Nat) a)).getD (i64.wrap (i.tdiv (8:Int))).toNat (0:Int)) (u64.wrap (i.tmod (8:Int))))) (1:Int)))))) []))))
 (End.leaf (LV.one (VV.sc (SV.int i64 (SI.sym (0:Int))))) []):=by kernel_rfl
theorem aq5:avc.Ok Tryz.prog 172:=by
 refine(ao.ba call172 fun x_ y_ Q H_=>?_).sym;obtain⟨a,i,_⟩:=x_;obtain⟨hn,hq⟩:=H_;have hn:a.length=32∧0≤i∧i<256:=hn;refine(au mixed aw func172 rfl (LT:= []) (ks:= [.fr [.sym],.auto]) (aJ.nil _)).use (D:= []) ?_ hq;show(aN _ _ _ _ ((biA).wr (a,i,())) ((ae).wr ()) _).sat _;rw[Zb];obtain⟨ha,h0,h1⟩:=hn;obtain⟨k,rfl⟩:=Int.eq_ofNat_of_zero_le h0;have hk:k<256:=by omega
 have e1:i64.wrap ((k:Int).tdiv 8)=((k/8:Nat):Int):=fS k 8 (by omega);have e2:u64.wrap ((k:Int).tmod 8)=((k%8:Nat):Int):=by rw[show(k:Int).tmod 8=((k%8:Nat):Int)from uK k 8,wrap_u64 (by omega) (by omega)]
 have e:fg a (k:Int)=bd .i64 (i64.wrap (shr .u8 (a.getD (k/8) 0) ((k%8:Nat):Int))) 1:=by
  unfold fg mb;rw[Int.toNat_natCast,yk a (show k/8<32 by omega)]
 rw[e1,e2,bI ha,Int.toNat_natCast,e];refine⟨fun _=>⟨fun h=>?_,fun _=>⟨by omega,by omega,rfl,rfl⟩⟩,fun h=>?_⟩
 ·have:=of_decide_eq_true h;omega
 ·exfalso;revert h;simp
theorem aq6:avc=Yl fg:=by kernel_rfl
theorem uW:(Yl fg).Ok Tryz.prog 172:=aq6▸aq5
abbrev Zc:Func:=f201
abbrev pwC:aY (List LV) (Int×Unit):=(jk 2 (aq (ah (aU 0 0)) (aq (ah (aU 1 0)) (aq (ah (aU 2 0)) (aq (ah (aU 3 0)) (ag (ah (aC .i64)) (jk 16 ae)))))))
abbrev aEW:Wk:=.fr (cC 23 [(2,.al),(3,.al),(4,.al),(5,.al),(6,.sym)])
abbrev pwX:aY (List LV) (Unit):=(jk 4 (aq (ah (aU 0 0)) (aq (ah (aU 1 0)) (jk 17 ae))))
abbrev iFn:aY (Option Ev.Item) Fn:=kY 179 (jd .i64 16)
abbrev pwH:aY Hp (Fn×List Int×Fn×Fn×Unit):=ag iFn (ag (gJ 52 .u8 32) (ag iFn (ag iFn ae)))
abbrev azj:aY Hp (Fn×Fn×Unit):=ag iFn (ag iFn ae)
abbrev Zd(i:Nat):Wk:=.bH i (List.replicate 16 .sym)
def pwW:Exit→List Wk
 | .normal=> [aEW,Zd 2,Zd 3,.auto]
 | .exit 0=> [.fr (cC 23 [(4,.al),(5,.al)]),.auto]
 |_=> []
theorem azk(bit:List Int→Int→Int)(mul:Fn→Fn→Fn)(x r o:Fn)(e:List Int)(i:Int):cY Tryz.prog [(172,Yl bit),(167,kM mul)] [] Zc 0 [] pwW ((bg pwC pwH).wr ((i,()),(x,e,r,o,())))=
 aW.ite (decide ((0:Int)≤i)) (aW.need (e.length=(32:Nat)∧(0:Int)≤i∧i<(256:Int)) (aW.ite (bit e i==(1:Int)) (aW.leaf
 Exit.normal ((bg pwC pwH).wr ((i64.wrap (i-(1:Int)),PUnit.unit),x,e,r,mul (mul o o) x,PUnit.unit))) (aW.leaf Exit.normal ((bg pwC
 pwH).wr ((i64.wrap (i-(1:Int)),PUnit.unit),x,e,r,mul o o,PUnit.unit))))) (aW.leaf (Exit.exit (0:Nat)) ((bg pwX azj).wr
 (PUnit.unit,r,o,PUnit.unit))):=by kernel_rfl
def Gs(bit:List Int→Int→Int)(mul:Fn→Fn→Fn)(x:Fn)(e:List Int)(k:Nat)(r:Fn):Fn:=bif bit e (255-(k:Int))==1 then mul (mul r r) x else mul r r
theorem akw:∀p∈([(172,Yl fg),(167,kM bx)]:List (FuncId×ao)),p.2.Ok Tryz.prog p.1:=aj uW (aj jN aw)
abbrev pwT:Type:=(Int×Unit)×Fn×List Int×Fn×Fn×Unit
def aEX(w:Fn→List Int→Fn→Fn)(x:pwT):aW:=.need (x.1.1=255∧x.2.2.1.length=32) (.leaf (.exit 0) ((bg pwX azj).wr ((),(x.2.2.2.1,w x.2.1 x.2.2.1 x.2.2.2.2.1,()))))
theorem LF:∃f:Fn→List Int→Fn→Fn,∀ (x:Fn) (e:List Int) (o:Fn),f x e o=(fG (Gs fg bx x e) 256 o):=⟨fun x e o=>fG (Gs fg bx x e) 256 o,fun _ _ _=>rfl⟩
def CP:Fn→List Int→Fn→Fn:=Classical.choose LF
theorem LG(x:Fn)(e:List Int)(o:Fn):CP x e o=(fG (Gs fg bx x e) 256 o):=Classical.choose_spec LF x e o
theorem aq7(x:pwT):Ex Tryz.prog [] (.loop (a9 Zc 0)) ((bg pwC pwH).wr x) (aEX CP x):=by
 obtain⟨⟨i,_⟩,x,e,r,o,_⟩:=x;refine Ex.need fun⟨h1,h2⟩=>?_;simp only at h1 h2;subst h1
 have key:=dP (fn:=Zc) (id:=0) (j:=0) (ws:=pwW) (hp:= []) mixed akw (aJ.nil _) 256 (fun k o=>(bg pwC pwH).wr ((255-(k:Int),()),(x,e,r,o,()))) (fun o=>(bg pwX azj).wr ((),(r,o,()))) (Gs fg bx x e) (fun _ _=>True)
  (fun k o R hk _ hn hx=>?_) (fun _ _ _ _=>trivial) 0 o (by omega) trivial
 ·rw[Nat.sub_zero,mU,← LG]at key;exact key
 rw[azk fg bx];refine⟨fun hb=>?_,fun hb=>?_⟩
 ·have jl:k<256:=by have:=of_decide_eq_true hb;omega
  have nh:=hn jl;have e3:i64.wrap ((255-(k:Int))-1)=255-((k+1:Nat):Int):=by rw[ar (by omega) (by omega)];omega
  rw[e3];refine⟨⟨h2,by omega,by omega⟩,fun hc=>?_,fun hc=>?_⟩
  ·have:Gs fg bx x e k o=bx (bx o o) x:=(by unfold Gs;rw[hc];rfl);rw[this]at nh;exact nh
  ·have:Gs fg bx x e k o=bx o o:=(by unfold Gs;rw[hc];rfl);rw[this]at nh;exact nh
 ·have:k=256:=by have:=of_decide_eq_false hb;omega
  exact hx this
abbrev pwA:aY (List LV) (Fn×List Int×Unit):=ag sC (ag cB ae)
def eNW(g:Fn→List Int→Fn):ao:=ao.cH [] pwA ae fun x _=>.leaf (some (x.2.1.length=32)) (sC.wr (g x.1 x.2.1)) []
abbrev azm(w:Fn→List Int→Fn→Fn):dL:= [(0,dx (bg pwC pwH) 0 [aEW,.auto,Zd 2,Zd 3] (aEX w))]
abbrev avd(bit:List Int→Int→Int)(mul:Fn→Fn→Fn)(sm:Int→Fn):List (FuncId×ao):= [(172,Yl bit),(167,kM mul),(173,CK sm)]
theorem Ze(w:Fn→List Int→Fn→Fn)(bit:List Int→Int→Int)(mul:Fn→Fn→Fn)(sm:Int→Fn)(x:Fn)(e:List Int):aN Tryz.prog (avd bit mul sm) (azm w) Zc (pwA.wr (x,e,())) [] kK=
  .need ((255:Int)=255∧e.length=32) (.leaf (sC.wr (w x e (sm 1))) []):=by kernel_rfl
theorem LH:∃f:Fn→List Int→Fn,∀ (x:Fn) (e:List Int),f x e=(lT x (kp e)):=⟨fun x e=>lT x (kp e),fun _ _=>rfl⟩
def pK:Fn→List Int→Fn:=Classical.choose LH
theorem LI(x:Fn)(e:List Int):pK x e=(lT x (kp e)):=Classical.choose_spec LH x e
abbrev aEY:ao:=eNW pK
theorem Zf(x:Fn)(e:List Int):CP x e (bK 1)=pK x e:=by
 rw[LG,LI];unfold lT ahP;refine nR (fun k hk r=>?_) _ 256 (Nat.le_refl _);unfold Gs m5 fg;rw[bU,show(255-(k:Int)).toNat=255-k from by omega]
theorem azn:aJ Tryz.prog [] (azm CP) (aD Zc):=aJ.bW (jc rfl (bQ (hp:= []) aq7) jh)
theorem UI:aEY.Ok Tryz.prog 201:=by
 refine(ao.ba call201 fun x_ y_ Q H_=>?_).sym;obtain⟨x,e,_⟩:=x_;obtain⟨hn,hq⟩:=H_;have hn:e.length=32:=hn;have hc:gI Tryz.prog 201 (pwA.wr (x,e,())) [] (aN Tryz.prog (avd fg bx bK) (azm CP) Zc (pwA.wr (x,e,())) [] kK):=au mixed (aj uW (aj jN (aj jI aw))) func201 rfl azn;rw[Ze CP fg bx bK]at hc;exact hc.use (D:= []) (show(Ev.End.need _ _).sat _ from⟨⟨rfl,hn⟩,by rw[Zf],rfl⟩) hq
def aEZ(k:IntKind)(n:Int):aY SV Unit where
 rd s:=match s with
  | .int k' (.lit m)=>if k'=k∧m=n then some ()else none
  |_=>none
 wr _:=.int k (.lit n)
 ok:=by
  intro s x h
  split at h
  ·split at h
   ·rename_i hh;rw[hh.1,hh.2]
   ·cases h
  ·cases h
abbrev onA(a h:Int):aY (List LV) Unit:=aq (ah (aEZ .i64 a)) (aq (ah (aEZ .i64 h)) ae)
def eOn(a h:Int)(c:List Int):ao:=ao.of [] (onA a h) ae fun _ _=>.leaf none (dQ .u8 32 c) []
def Qj(f:Int→Int→List Int):ao:=(eOn 2 0 (f 2 0)).or ((eOn 1 3 (f 1 3)).or (eOn 1 2 (f 1 2)))
def j9(a h:Int):List Int:=if h=0 then(cz 235 127).toList else if h=3 then(cz 253 15).toList else(cz 251 31).toList
theorem akx:aN Tryz.prog [] [] f202 ((onA 2 0).wr ()) [] [.fQ 0 0 32 .u8,.auto]= .leaf (dQ .u8 32 (j9 2 0)) []:=by kernel_rfl
theorem aky:aN Tryz.prog [] [] f202 ((onA 1 3).wr ()) [] [.fQ 0 0 32 .u8,.auto]= .leaf (dQ .u8 32 (j9 1 3)) []:=by kernel_rfl
theorem akz:aN Tryz.prog [] [] f202 ((onA 1 2).wr ()) [] [.fQ 0 0 32 .u8,.auto]= .leaf (dQ .u8 32 (j9 1 2)) []:=by kernel_rfl
theorem akA{a h:Int}{c:List Int}(ht:aN Tryz.prog [] [] f202 ((onA a h).wr ()) [] [.fQ 0 0 32 .u8,.auto]= .leaf (dQ .u8 32 c) []):(eOn a h c).Ok Tryz.prog 202:=by
 refine ao.ba call202 fun x y Q H=>?_;have hc:gI Tryz.prog 202 ((onA a h).wr ()) [] (aN Tryz.prog [] [] f202 ((onA a h).wr ()) [] [.fQ 0 0 32 .u8,.auto]):=au mixed aw func202 rfl (aJ.nil _);rw[ht]at hc;exact hc.use (D:= []) ⟨rfl,rfl⟩ H.2
theorem LJ:(Qj j9).Ok Tryz.prog 202:=(akA akx).or ((akA aky).or (akA akz))
theorem AN(a h:Int):(j9 a h).length=32:=by unfold j9;split;exact Vec.eT _;split<;>exact Vec.eT _
theorem Gt(x:Fn)(e:cZ):pK x e.toList=lT x e:=by rw[LI,AA]
theorem aq8(x:Fn):pK x (j9 2 0)=dm x:=by
 rw[show j9 2 0=(cz 235 127).toList from rfl,Gt];unfold dm;rfl
abbrev aE0:ao:=nW dm
theorem Zg(pow:Fn→List Int→Fn)(on:Int→Int→List Int)(x:Fn):aN Tryz.prog [(201,eNW pow),(202,Qj on)] [] f165 ((Ha).wr (x,())) [] kK= .need ((on 2 0).length=32) (.leaf (sC.wr (pow x (on 2 0))) []):=by kernel_rfl
theorem Zh:∀p_∈([(201,eNW pK),(202,Qj j9)]:List (FuncId×ao)),p_.2.Ok Tryz.prog p_.1:=(aj UI (aj LJ aw))
theorem yy:aE0.Ok Tryz.prog 165:=by
 refine(ao.ba call165 fun x_ y_ Q H_=>?_).sym;obtain⟨x,_⟩:=x_;have hq:=H_.2;refine(au (tab:= [(201,eNW pK),(202,Qj j9)]) mixed Zh func165 rfl (LT:= []) (ks:=kK) (aJ.nil _)).use (D:= []) ?_ hq;show(aN _ _ _ _ ((Ha).wr (x,())) [] _).sat _;rw[Zg pK j9];exact⟨AN _ _,AM (aq8 x).symm⟩
def eO(l:List Int):List Int:=l.set 0 (IntKind.u8.wrap (l.getD 0 0+1))
theorem LK(l:List Int):(eO l).length=l.length:=by unfold eO;rw[List.length_set]
theorem aIG:eO (j9 1 3)=(cz 254 15).toList:=by kernel_rfl
theorem Zi{t1 t2 o1 o2:Bool}{r r2 n1 n2:Fn}{p1 p2:Prop}(h1:p1)(h2:p2){q:Fn×Bool}(hq:q=bif t1 then(bif o1 then n1 else r,true)else bif t2 then(bif o2 then n2 else r2,true)else(cI,false)):
  (Ev.End.need p1 (.ite (!t1) (.need p2 (.ite (!t2) (.leaf (AK (cI,false)) []) (.ite o2 (.leaf (AK (n2,true)) []) (.leaf (AK (r2,true)) [])))) (.ite (!t1) (.leaf (AK (cI,false)) []) (.ite o1 (.leaf (AK (n1,true)) []) (.leaf (AK (r,true)) []))))).sat fun v dI=>v=AK q∧dI= []:=by
 subst hq;refine⟨h1,?_⟩
 cases t1
 ·refine⟨fun _=>⟨h2,?_⟩,fun h=>(by cases h)⟩
  cases t2
  ·exact⟨fun _=>⟨rfl,rfl⟩,fun h=>(by cases h)⟩
  ·refine⟨fun h=>(by cases h),fun _=>?_⟩
   cases o2
   ·exact⟨fun h=>(by cases h),fun _=>⟨rfl,rfl⟩⟩
   ·exact⟨fun _=>⟨rfl,rfl⟩,fun h=>(by cases h)⟩
 ·refine⟨fun h=>(by cases h),fun _=>⟨fun h=>(by cases h),fun _=>?_⟩⟩
  cases o1
  ·exact⟨fun h=>(by cases h),fun _=>⟨rfl,rfl⟩⟩
  ·exact⟨fun _=>⟨rfl,rfl⟩,fun h=>(by cases h)⟩
theorem akB(pw:Fn→cZ→Fn)(ml:Fn→Fn→Fn)(ng:Fn→Fn)(sm:Int→Fn)(od:Fn→Bool)(x:Fn):
  uh sm ml ng od pw x=bif mn (ml (pw x (cz 254 15)) (pw x (cz 254 15))) x then(bif od (pw x (cz 254 15))then ng (pw x (cz 254 15))else pw x (cz 254 15),true)
   else bif mn (ml (ml (pw x (cz 254 15)) (pw (sm 2) (cz 251 31))) (ml (pw x (cz 254 15)) (pw (sm 2) (cz 251 31)))) x then(bif od (ml (pw x (cz 254 15)) (pw (sm 2) (cz 251 31)))then ng (ml (pw x (cz 254 15)) (pw (sm 2) (cz 251 31)))else ml (pw x (cz 254 15)) (pw (sm 2) (cz 251 31)),true)else(cI,false):=by
 have ayo:∀ (b:Bool) (u v:Fn),df b u v=bif b then u else v:=fun b u v=>bU b u v;unfold uh;simp only[ayo];generalize pw x (cz 254 15)=r;generalize pw (sm 2) (cz 251 31)=c
 cases h:mn (ml r r) x
 ·simp only[Bool.not_false,cond_true,cond_false]
  cases mn (ml (ml r c) (ml r c)) x<;>rfl
 ·simp only[Bool.not_true,cond_true,cond_false,h]
theorem akC(x:Fn):iO x=uh bK bx fb qU lT x:=by unfold iO;rfl
abbrev azp:ao:=AL iO
theorem Qk(pow:Fn→List Int→Fn)(on:Int→Int→List Int)(mul:Fn→Fn→Fn)(neg:Fn→Fn)(qT:Fn→Bool)(sm:Int→Fn)(x:Fn):aN Tryz.prog [(201,eNW pow),(202,Qj on),(167,kM mul),(161,nW neg),(168,Qe qT),(173,CK sm)] [] f223 ((Ha).wr (x,())) [] kK= .need ((eO (on 1 3)).length=32) (.ite (!(mn (mul (pow x (eO (on 1 3))) (pow x (eO (on 1 3)))) x)) (.need ((on 1 2).length=32) (.ite (!(mn (mul (mul (pow x (eO (on 1 3))) (pow (sm 2) (on 1 2))) (mul (pow x (eO (on 1 3))) (pow (sm 2) (on 1 2)))) x)) (.leaf (AK (cI,false)) []) (.ite (qT (mul (pow x (eO (on 1 3))) (pow (sm 2) (on 1 2)))) (.leaf (AK (neg (mul (pow x (eO (on 1 3))) (pow (sm 2) (on 1 2))),true)) []) (.leaf (AK (mul (pow x (eO (on 1 3))) (pow (sm 2) (on 1 2)),true)) [])))) (.ite (!(mn (mul (pow x (eO (on 1 3))) (pow x (eO (on 1 3)))) x)) (.leaf (AK (cI,false)) []) (.ite (qT (pow x (eO (on 1 3)))) (.leaf (AK (neg (pow x (eO (on 1 3))),true)) []) (.leaf (AK (pow x (eO (on 1 3)),true)) [])))):=by kernel_rfl
theorem Ql:∀p_∈([(201,eNW pK),(202,Qj j9),(167,kM bx),(161,nW fb),(168,Qe qU),(173,CK bK)]:List (FuncId×ao)),p_.2.Ok Tryz.prog p_.1:=(aj UI (aj LJ (aj jN (aj yx (aj UH (aj jI aw))))))
theorem akD:azp.Ok Tryz.prog 223:=by
 refine(ao.ba call223 fun x_ y_ Q H_=>?_).sym;obtain⟨x,_⟩:=x_;have hq:=H_.2;refine(au (tab:= [(201,eNW pK),(202,Qj j9),(167,kM bx),(161,nW fb),(168,Qe qU),(173,CK bK)]) mixed Ql func223 rfl (LT:= []) (ks:=kK) (aJ.nil _)).use (D:= []) ?_ hq;show(aN _ _ _ _ ((Ha).wr (x,())) [] _).sat _;rw[Qk pK j9 bx fb qU bK];have hl:(eO (j9 1 3)).length=32:=by rw[LK,AN]
 refine Zi hl (AN _ _) ?_;rw[akC,akB,aIG,show j9 1 2=(cz 251 31).toList from rfl,Gt,Gt]
theorem Zj(u v:Fn):jM u v=(df (mn v cI) cI (iO (bx u (dm v))).1,bif mn v cI then mn u cI else(iO (bx u (dm v))).2):=by unfold jM JW;rfl
theorem Qm{z zu:Bool}{s r:Fn×Bool}(hr:r=(df z cI s.1,bif z then zu else s.2)):(Ev.End.ite z (.leaf (AK (cI,zu)) []) (.leaf (AK s) [])).sat fun v dI=>v=AK r∧dI= []:=by
 subst hr;rw[bU]
 cases z
 ·exact⟨fun h=>(by cases h),fun _=>⟨rfl,rfl⟩⟩
 ·exact⟨fun _=>⟨rfl,rfl⟩,fun h=>(by cases h)⟩
abbrev aq9:ao:=aqV jM
theorem LM(mul:Fn→Fn→Fn)(inv:Fn→Fn)(sqrt:Fn→Fn×Bool)(u v:Fn):aN Tryz.prog [(167,kM mul),(165,nW inv),(223,AL sqrt)] [] f198 ((qZ).wr (u,v,())) [] kK= .ite (mn v cI) (.leaf (AK (cI,mn u cI)) []) (.leaf (AK (sqrt (mul u (inv v)))) []):=by kernel_rfl
theorem LN:∀p_∈([(167,kM bx),(165,nW dm),(223,AL iO)]:List (FuncId×ao)),p_.2.Ok Tryz.prog p_.1:=(aj jN (aj yy (aj akD aw)))
theorem Zk:aq9.Ok Tryz.prog 198:=by
 refine(ao.ba call198 fun x_ y_ Q H_=>?_).sym;obtain⟨u,v,_⟩:=x_;have hq:=H_.2;refine(au (tab:= [(167,kM bx),(165,nW dm),(223,AL iO)]) mixed LN func198 rfl (LT:= []) (ks:=kK) (aJ.nil _)).use (D:= []) ?_ hq;show(aN _ _ _ _ ((qZ).wr (u,v,())) [] _).sat _;rw[LM bx dm iO];exact Qm (Zj u v)
abbrev rPn:aY (List SV) Pn:=pc .i64 (pc .i64 (pc .i64 (jd .i64 16) 16) 16) 16
abbrev xw:aY LV Pn:=iD rPn
abbrev pnA:aY (List LV) (Pn×Unit):=ag xw ae
abbrev azq:aY (List LV) (Pn×Pn×Unit):=ag xw (ag xw ae)
abbrev Mg(r:Pn×Bool):LV:=.cG [.agg (rPn.wr r.1),.sc (.bool (.sym r.2))]
def e0P(c:Pn):ao:=ao.cH [] ae ae fun _ _=>.leaf none (xw.wr c) []
def aE1(g:Pn→Pn):ao:=ao.cH [] pnA ae fun x _=>.leaf none (xw.wr (g x.1)) []
def aE2(g:Pn→Pn→Pn):ao:=ao.cH [] azq ae fun x _=>.leaf none (xw.wr (g x.1 x.2.1)) []
def Qn(g:Pn→Pn→Fn→Pn):ao:=ao.cH [] (ag xw (ag xw (ag sC ae))) ae fun x _=>.leaf none (xw.wr (g x.1 x.2.1 x.2.2.1)) []
def Qo(g:Fn→Fn→Pn):ao:=ao.cH [] qZ ae fun x _=>.leaf none (xw.wr (g x.1 x.2.1)) []
def eNE(g:Pn→List Int):ao:=ao.cH [] pnA ae fun x _=>.leaf none (dQ .u8 32 (g x.1)) []
def eND(g:List Int→Pn×Bool):ao:=ao.cH [] ki ae fun x _=>.leaf (some (x.1.length=32)) (Mg (g x.1)) []
theorem CQ{u x:Pn}(h:x=u):(Ev.End.leaf (xw.wr u) []).sat fun v dI=>v=xw.wr x∧dI= []:=by subst h;exact⟨rfl,rfl⟩
theorem azs{u x:Fn×Bool}(h:x=u):(Ev.End.leaf (AK u) []).sat fun v dI=>v=AK x∧dI= []:=by subst h;exact⟨rfl,rfl⟩
theorem akE:dF=bx (fb (bK 121665)) (dm (bK 121666)):=by unfold dF;rfl
abbrev azt:ao:=Qd dF
theorem Qp(mul:Fn→Fn→Fn)(neg inv:Fn→Fn)(sm:Int→Fn):aN Tryz.prog [(167,kM mul),(161,nW neg),(165,nW inv),(173,CK sm)] [] f171 ((ae).wr ()) [] kK= .leaf (sC.wr (mul (neg (sm 121665)) (inv (sm 121666)))) []:=by kernel_rfl
theorem Qq:∀p_∈([(167,kM bx),(161,nW fb),(165,nW dm),(173,CK bK)]:List (FuncId×ao)),p_.2.Ok Tryz.prog p_.1:=(aj jN (aj yx (aj yy (aj jI aw))))
theorem AO:azt.Ok Tryz.prog 171:=by
 refine(ao.ba call171 fun x_ y_ Q H_=>?_).sym;have hq:=H_.2;refine(au (tab:= [(167,kM bx),(161,nW fb),(165,nW dm),(173,CK bK)]) mixed Qq func171 rfl (LT:= []) (ks:=kK) (aJ.nil _)).use (D:= []) ?_ hq;show(aN _ _ _ _ ((ae).wr ()) [] _).sat _;rw[Qp bx fb dm bK];exact AM akE
theorem akF:gA=(cI,bK 1,bK 1,cI):=by unfold gA O4;rfl
abbrev azu:ao:=e0P gA
theorem Qr(sm:Int→Fn):aN Tryz.prog [(173,CK sm)] [] f158 ((ae).wr ()) [] kK= .leaf (xw.wr (cI,sm 1,sm 1,cI)) []:=by kernel_rfl
theorem Qs:∀p_∈([(173,CK bK)]:List (FuncId×ao)),p_.2.Ok Tryz.prog p_.1:=(aj jI aw)
theorem LO:azu.Ok Tryz.prog 158:=by
 refine(ao.ba call158 fun x_ y_ Q H_=>?_).sym;have hq:=H_.2;refine(au (tab:= [(173,CK bK)]) mixed Qs func158 rfl (LT:= []) (ks:=kK) (aJ.nil _)).use (D:= []) ?_ hq;show(aN _ _ _ _ ((ae).wr ()) [] _).sat _;rw[Qr bK];exact CQ akF
theorem azv(x y:Fn):pB x y=(x,y,bK 1,bx x y):=by unfold pB ax6;rfl
abbrev aII:ao:=Qo pB
theorem akG(mul:Fn→Fn→Fn)(sm:Int→Fn)(x y:Fn):aN Tryz.prog [(167,kM mul),(173,CK sm)] [] f162 ((qZ).wr (x,y,())) [] kK= .leaf (xw.wr (x,y,sm 1,mul x y)) []:=by kernel_rfl
theorem akH:∀p_∈([(167,kM bx),(173,CK bK)]:List (FuncId×ao)),p_.2.Ok Tryz.prog p_.1:=(aj jN (aj jI aw))
theorem akI:aII.Ok Tryz.prog 162:=by
 refine(ao.ba call162 fun x_ y_ Q H_=>?_).sym;obtain⟨x,y,_⟩:=x_;have hq:=H_.2;refine(au (tab:= [(167,kM bx),(173,CK bK)]) mixed akH func162 rfl (LT:= []) (ks:=kK) (aJ.nil _)).use (D:= []) ?_ hq;show(aN _ _ _ _ ((qZ).wr (x,y,())) [] _).sat _;rw[akG bx bK];exact CQ (azv x y)
theorem ara(y:Fn):iP y=jM (iN (bx y y) (bK 1)) (fY (bx dF (bx y y)) (bK 1)):=by unfold iP ahQ;rfl
abbrev aE3:ao:=AL iP
theorem Zl(mul add sub:Fn→Fn→Fn)(sm:Int→Fn)(ratio:Fn→Fn→Fn×Bool)(ed:Fn)(y:Fn):aN Tryz.prog [(167,kM mul),(170,kM add),(199,kM sub),(173,CK sm),(198,aqV ratio),(171,Qd ed)] [] f160 ((Ha).wr (y,())) [] kK= .leaf (AK (ratio (sub (mul y y) (sm 1)) (add (mul ed (mul y y)) (sm 1)))) []:=by kernel_rfl
theorem Zm:∀p_∈([(167,kM bx),(170,kM fY),(199,kM iN),(173,CK bK),(198,aqV jM),(171,Qd dF)]:List (FuncId×ao)),p_.2.Ok Tryz.prog p_.1:=(aj jN (aj yw (aj Gr (aj jI (aj Zk (aj AO aw))))))
theorem UJ:aE3.Ok Tryz.prog 160:=by
 refine(ao.ba call160 fun x_ y_ Q H_=>?_).sym;obtain⟨y,_⟩:=x_;have hq:=H_.2;refine(au (tab:= [(167,kM bx),(170,kM fY),(199,kM iN),(173,CK bK),(198,aqV jM),(171,Qd dF)]) mixed Zm func160 rfl (LT:= []) (ks:=kK) (aJ.nil _)).use (D:= []) ?_ hq;show(aN _ _ _ _ ((Ha).wr (y,())) [] _).sat _;rw[Zl bx fY iN bK jM dF];exact azs (ara y)
theorem akJ:mf=pB (iP (bx (bK 4) (dm (bK 5)))).1 (bx (bK 4) (dm (bK 5))):=by unfold mf Fc;rfl
abbrev azw:ao:=e0P mf
theorem Qt(mul:Fn→Fn→Fn)(inv:Fn→Fn)(sm:Int→Fn)(xo:Fn→Fn×Bool)(of:Fn→Fn→Pn):aN Tryz.prog [(167,kM mul),(165,nW inv),(173,CK sm),(160,AL xo),(162,Qo of)] [] f119 ((ae).wr ()) [] kK= .leaf (xw.wr (of (xo (mul (sm 4) (inv (sm 5)))).1 (mul (sm 4) (inv (sm 5))))) []:=by kernel_rfl
theorem Qu:∀p_∈([(167,kM bx),(165,nW dm),(173,CK bK),(160,AL iP),(162,Qo pB)]:List (FuncId×ao)),p_.2.Ok Tryz.prog p_.1:=(aj jN (aj yy (aj jI (aj UJ (aj akI aw)))))
theorem akK:azw.Ok Tryz.prog 119:=by
 refine(ao.ba call119 fun x_ y_ Q H_=>?_).sym;have hq:=H_.2;refine(au (tab:= [(167,kM bx),(165,nW dm),(173,CK bK),(160,AL iP),(162,Qo pB)]) mixed Qu func119 rfl (LT:= []) (ks:=kK) (aJ.nil _)).use (D:= []) ?_ hq;show(aN _ _ _ _ ((ae).wr ()) [] _).sat _;rw[Qt bx dm bK iP pB];exact CQ akJ
theorem Zn(p q:Pn)(d:Fn):cT p q d=yg bx fY iN p q d:=by unfold cT;rfl
abbrev arb:ao:=Qn cT
theorem LP(mul add sub:Fn→Fn→Fn)(p q:Pn)(d:Fn):aN Tryz.prog [(167,kM mul),(170,kM add),(199,kM sub)] [] f169 (((ag xw (ag xw (ag sC ae)))).wr (p,q,d,())) [] kK= .leaf (xw.wr (yg mul add sub p q d)) []:=by kernel_rfl
theorem LQ:∀p_∈([(167,kM bx),(170,kM fY),(199,kM iN)]:List (FuncId×ao)),p_.2.Ok Tryz.prog p_.1:=(aj jN (aj yw (aj Gr aw)))
theorem wB:arb.Ok Tryz.prog 169:=by
 refine(ao.ba call169 fun x_ y_ Q H_=>?_).sym;obtain⟨p,q,d,_⟩:=x_;have hq:=H_.2;refine(au (tab:= [(167,kM bx),(170,kM fY),(199,kM iN)]) mixed LQ func169 rfl (LT:= []) (ks:=kK) (aJ.nil _)).use (D:= []) ?_ hq;show(aN _ _ _ _ (((ag xw (ag xw (ag sC ae)))).wr (p,q,d,())) [] _).sat _;rw[LP bx fY iN];exact CQ (Zn p q d)
theorem akL(p q:Pn):mg p q=cT p q (fY dF dF):=by unfold mg;rfl
abbrev azx:ao:=aE2 mg
theorem Qv(p3:Pn→Pn→Fn→Pn)(add:Fn→Fn→Fn)(ed:Fn)(p q:Pn):aN Tryz.prog [(169,Qn p3),(170,kM add),(171,Qd ed)] [] f117 ((azq).wr (p,q,())) [] kK= .leaf (xw.wr (p3 p q (add ed ed))) []:=by kernel_rfl
theorem Qw:∀p_∈([(169,Qn cT),(170,kM fY),(171,Qd dF)]:List (FuncId×ao)),p_.2.Ok Tryz.prog p_.1:=(aj wB (aj yw (aj AO aw)))
theorem akM:azx.Ok Tryz.prog 117:=by
 refine(ao.ba call117 fun x_ y_ Q H_=>?_).sym;obtain⟨p,q,_⟩:=x_;have hq:=H_.2;refine(au (tab:= [(169,Qn cT),(170,kM fY),(171,Qd dF)]) mixed Qw func117 rfl (LT:= []) (ks:=kK) (aJ.nil _)).use (D:= []) ?_ hq;show(aN _ _ _ _ ((azq).wr (p,q,())) [] _).sat _;rw[Qv cT fY dF];exact CQ (akL p q)
theorem akN(p:Pn):mh p=(fb p.1,p.2.1,p.2.2.1,fb p.2.2.2):=by unfold mh;rfl
abbrev azy:ao:=aE1 mh
theorem Qx(neg:Fn→Fn)(p:Pn):aN Tryz.prog [(161,nW neg)] [] f120 ((pnA).wr (p,())) [] kK= .leaf (xw.wr (neg p.1,p.2.1,p.2.2.1,neg p.2.2.2)) []:=by kernel_rfl
theorem Qy:∀p_∈([(161,nW fb)]:List (FuncId×ao)),p_.2.Ok Tryz.prog p_.1:=(aj yx aw)
theorem akO:azy.Ok Tryz.prog 120:=by
 refine(ao.ba call120 fun x_ y_ Q H_=>?_).sym;obtain⟨p,_⟩:=x_;have hq:=H_.2;refine(au (tab:= [(161,nW fb)]) mixed Qy func120 rfl (LT:= []) (ks:=kK) (aJ.nil _)).use (D:= []) ?_ hq;show(aN _ _ _ _ ((pnA).wr (p,())) [] _).sat _;rw[Qx fb];exact CQ (akN p)
def iT(p:Pn):List Int:=(uC p).toList
theorem AP(p:Pn):iT p=bif qU (bx p.1 (dm p.2.2.1))then(hS (bx p.2.1 (dm p.2.2.1))).set 31 (IntKind.u8.wrap ((hS (bx p.2.1 (dm p.2.2.1))).getD 31 0+128))else hS (bx p.2.1 (dm p.2.2.1)):=by
 unfold iT uC vY hS;simp only[bU];generalize nG (bx p.2.1 (dm p.2.2.1))=v
 cases qU (bx p.1 (dm p.2.2.1))
 ·rfl
 ·exact Uc v
abbrev akP:ao:=eNE iT
theorem Gu(mul:Fn→Fn→Fn)(inv:Fn→Fn)(Ud:Fn→List Int)(qT:Fn→Bool)(p:Pn):aN Tryz.prog [(167,kM mul),(165,nW inv),(166,eNY Ud),(168,Qe qT)] [] f116 ((pnA).wr (p,())) [] kK= .ite (qT (mul p.1 (inv p.2.2.1))) (.leaf (dQ .u8 32 ((Ud (mul p.2.1 (inv p.2.2.1))).set 31 (IntKind.u8.wrap ((Ud (mul p.2.1 (inv p.2.2.1))).getD 31 0+128)))) []) (.leaf (dQ .u8 32 (Ud (mul p.2.1 (inv p.2.2.1)))) []):=by kernel_rfl
theorem Gv:∀p_∈([(167,kM bx),(165,nW dm),(166,eNY hS),(168,Qe qU)]:List (FuncId×ao)),p_.2.Ok Tryz.prog p_.1:=(aj jN (aj yy (aj CO (aj UH aw))))
theorem Qz:akP.Ok Tryz.prog 116:=by
 refine(ao.ba call116 fun x_ y_ Q H_=>?_).sym;obtain⟨p,_⟩:=x_;have hq:=H_.2;refine(au (tab:= [(167,kM bx),(165,nW dm),(166,eNY hS),(168,Qe qU)]) mixed Gv func116 rfl (LT:= []) (ks:=kK) (aJ.nil _)).use (D:= []) ?_ hq;show(aN _ _ _ _ ((pnA).wr (p,())) [] _).sat _;rw[Gu bx dm hS qU];exact FJ (fun h=>by rw[AP,h];rfl) (fun h=>by rw[AP,h];rfl)
def gC(b:List Int):Pn×Bool:=pC (kp b)
theorem Zo(neg:Fn→Fn)(j4:cZ→Fn)(canon:cZ→Bool)(z:Pn)(of:Fn→Fn→Pn)(xo:Fn→Fn×Bool)(b:cZ):
  qm neg j4 canon z of xo b=bif canon b then(bif (xo (j4 b)).2 then(bif decide (127<b.get 31)then(bif mn (xo (j4 b)).1 cI then(z,false)else(of (neg (xo (j4 b)).1) (j4 b),true))else(of (xo (j4 b)).1 (j4 b),true))else(z,false))else(z,false):=by
 unfold qm;simp only[bU,Ab,gt_iff_lt];generalize xo (j4 b)=r;generalize j4 b=y;generalize decide (127<b.get 31)=t;obtain⟨x,ok⟩:=r;simp only
 cases canon b<;>cases ok<;>cases t<;>cases mn x cI<;>rfl
theorem QA(b:List Int):gC b=bif im b then(bif (iP (gQ b)).2 then(bif decide (127<b.getD 31 0)then(bif mn (iP (gQ b)).1 cI then(gA,false)else(pB (fb (iP (gQ b)).1) (gQ b),true))else(pB (iP (gQ b)).1 (gQ b),true))else(gA,false))else(gA,false):=by
 unfold gC pC;rw[Zo,yk b (show 31<32 by decide)];rfl
theorem akQ{p:Prop}{canon ok qT G9:Bool}{Z P Q:Pn}(hp:p){r:Pn×Bool}(hr:r=bif canon then(bif ok then(bif qT then(bif G9 then(Z,false)else(P,true))else(Q,true))else(Z,false))else(Z,false)):
  (Ev.End.need p (.ite (!canon) (.leaf (Mg (Z,false)) []) (.ite ((!ok)==false) (.ite (G9==true) (.ite qT (.leaf (Mg (Z,false)) []) (.ite qT (.leaf (Mg (P,true)) []) (.leaf (Mg (Q,true)) []))) (.ite qT (.leaf (Mg (P,true)) []) (.leaf (Mg (Q,true)) []))) (.leaf (Mg (Z,false)) [])))).sat fun v dI=>v=Mg r∧dI= []:=by
 subst hr;refine⟨hp,?_⟩
 cases canon
 ·exact⟨fun _=>⟨rfl,rfl⟩,fun h=>(by cases h)⟩
 ·refine⟨fun h=>(by cases h),fun _=>?_⟩
  cases ok
  ·exact⟨fun h=>(by cases h),fun _=>⟨rfl,rfl⟩⟩
  ·refine⟨fun _=>?_,fun h=>(by cases h)⟩
   cases G9
   ·refine⟨fun h=>(by cases h),fun _=>?_⟩
    cases qT
    ·exact⟨fun h=>(by cases h),fun _=>⟨rfl,rfl⟩⟩
    ·exact⟨fun _=>⟨rfl,rfl⟩,fun h=>(by cases h)⟩
   ·refine⟨fun _=>?_,fun h=>(by cases h)⟩
    cases qT
    ·exact⟨fun h=>(by cases h),fun _=>⟨fun h=>(by cases h),fun _=>⟨rfl,rfl⟩⟩⟩
    ·exact⟨fun _=>⟨rfl,rfl⟩,fun h=>(by cases h)⟩
abbrev akR:ao:=eND gC
theorem Gw(canon:List Int→Bool)(z:Pn)(j4:List Int→Fn)(xo:Fn→Fn×Bool)(neg:Fn→Fn)(of:Fn→Fn→Pn)(b:List Int):aN Tryz.prog [(157,eNC canon),(158,e0P z),(159,eNF j4),(160,AL xo),(161,nW neg),(162,Qo of)] [] f111 ((ki).wr (b,())) [] kK= .need (b.length=32) (.ite (!(canon b)) (.leaf (Mg (z,false)) []) (.ite ((!(xo (j4 b)).2)==false) (.ite (mn (xo (j4 b)).1 cI==true) (.ite (decide (127<b.getD 31 0)) (.leaf (Mg (z,false)) []) (.ite (decide (127<b.getD 31 0)) (.leaf (Mg (of (neg (xo (j4 b)).1) (j4 b),true)) []) (.leaf (Mg (of (xo (j4 b)).1 (j4 b),true)) []))) (.ite (decide (127<b.getD 31 0)) (.leaf (Mg (of (neg (xo (j4 b)).1) (j4 b),true)) []) (.leaf (Mg (of (xo (j4 b)).1 (j4 b),true)) []))) (.leaf (Mg (z,false)) []))):=by kernel_rfl
theorem Gx:∀p_∈([(157,eNC im),(158,e0P gA),(159,eNF gQ),(160,AL iP),(161,nW fb),(162,Qo pB)]:List (FuncId×ao)),p_.2.Ok Tryz.prog p_.1:=(aj Y0 (aj LO (aj Lx (aj UJ (aj yx (aj akI aw))))))
theorem QB:akR.Ok Tryz.prog 111:=by
 refine(ao.ba call111 fun x_ y_ Q H_=>?_).sym;obtain⟨b,_⟩:=x_;obtain⟨hn,hq⟩:=H_;have hn:b.length=32:=hn;refine(au (tab:= [(157,eNC im),(158,e0P gA),(159,eNF gQ),(160,AL iP),(161,nW fb),(162,Qo pB)]) mixed Gx func111 rfl (LT:= []) (ks:=kK) (aJ.nil _)).use (D:= []) ?_ hq;show(aN _ _ _ _ ((ki).wr (b,())) [] _).sat _;rw[Gw im gA gQ iP fb pB];exact akQ hn (QA b)
abbrev Zp:Func:=f118
abbrev m9C:aY (List LV) (Int×Unit):=(jk 2 (aq (ah (aU 0 0)) (aq (ah (aU 1 0)) (aq (ah (aU 2 0)) (aq (ah (aU 3 0)) (aq (ah (aU 4 0)) (ag (ah (aC .i64)) (jk 21 ae))))))))
abbrev aE4:Wk:=.fr (cC 29 [(2,.al),(3,.al),(4,.al),(5,.al),(6,.al),(7,.sym)])
abbrev m9X:aY (List LV) (Unit):=(jk 4 (aq (ah (aU 0 0)) (jk 1 (aq (ah (aU 1 0)) (jk 22 ae)))))
abbrev iPn:aY (Option Ev.Item) Pn:=kY 181 rPn
abbrev m9H:aY Hp (List Int×Pn×Pn×Fn×Pn×Unit):=ag (gJ 52 .u8 32) (ag iPn (ag iPn (ag iFn (ag iPn ae))))
abbrev azA:aY Hp (Pn×Pn×Unit):=ag iPn (ag iPn ae)
abbrev UK(i:Nat):Wk:=.bH i (List.replicate 64 .sym)
def m9W:Exit→List Wk
 | .normal=> [aE4,UK 2,Zd 3,UK 4,.auto]
 | .exit 0=> [.fr (cC 29 [(4,.al),(6,.al)]),.auto]
 |_=> []
theorem azB(bit:List Int→Int→Int)(p3:Pn→Pn→Fn→Pn)(n:List Int)(p z q:Pn)(d:Fn)(i:Int):cY Tryz.prog [(172,Yl bit),(169,Qn p3)] [] Zp 0 [] m9W ((bg m9C m9H).wr ((i,()),(n,p,z,d,q,())))=
 aW.ite (decide ((0:Int)≤i)) (aW.need (n.length=(32:Nat)∧(0:Int)≤i∧i<(256:Int)) (aW.ite (bit n i==(1:Int)) (aW.leaf Exit.normal ((bg m9C m9H).wr ((i64.wrap (i-(1:Int)),PUnit.unit),n,p,z,d,p3 (p3 q q d) p d,PUnit.unit)))
  (aW.leaf Exit.normal ((bg m9C m9H).wr ((i64.wrap (i-(1:Int)),PUnit.unit),n,p,z,d,p3 q q d,PUnit.unit))))) (aW.leaf (Exit.exit (0:Nat)) ((bg m9X azA).wr (PUnit.unit,z,q,PUnit.unit))):=by kernel_rfl
def uX(bit:List Int→Int→Int)(p3:Pn→Pn→Fn→Pn)(n:List Int)(p:Pn)(d:Fn)(k:Nat)(q:Pn):Pn:=bif bit n (255-(k:Int))==1 then p3 (p3 q q d) p d else p3 q q d
theorem akS:∀p∈([(172,Yl fg),(169,Qn cT)]:List (FuncId×ao)),p.2.Ok Tryz.prog p.1:=aj uW (aj wB aw)
abbrev m9T:Type:=(Int×Unit)×List Int×Pn×Pn×Fn×Pn×Unit
def aE5(w:List Int→Pn→Fn→Pn→Pn)(x:m9T):aW:=.need (x.1.1=255∧x.2.1.length=32) (.leaf (.exit 0) ((bg m9X azA).wr ((),(x.2.2.2.1,w x.2.1 x.2.2.1 x.2.2.2.2.1 x.2.2.2.2.2.1,()))))
theorem CR:∃f:List Int→Pn→Fn→Pn→Pn,∀ (n:List Int) (p:Pn) (d:Fn) (z:Pn),f n p d z=(fG (uX fg cT n p d) 256 z):=⟨fun n p d z=>fG (uX fg cT n p d) 256 z,fun _ _ _ _=>rfl⟩
def wC:List Int→Pn→Fn→Pn→Pn:=Classical.choose CR
theorem CS(n:List Int)(p:Pn)(d:Fn)(z:Pn):wC n p d z=(fG (uX fg cT n p d) 256 z):=Classical.choose_spec CR n p d z
theorem arc(x:m9T):Ex Tryz.prog [] (.loop (a9 Zp 0)) ((bg m9C m9H).wr x) (aE5 wC x):=by
 obtain⟨⟨i,_⟩,n,p,z,d,q,_⟩:=x;refine Ex.need fun⟨h1,h2⟩=>?_;simp only at h1 h2;subst h1
 have key:=dP (fn:=Zp) (id:=0) (j:=0) (ws:=m9W) (hp:= []) mixed akS (aJ.nil _) 256 (fun k o=>(bg m9C m9H).wr ((255-(k:Int),()),(n,p,z,d,o,()))) (fun o=>(bg m9X azA).wr ((),(z,o,()))) (uX fg cT n p d) (fun _ _=>True)
  (fun k o R hk _ hn hx=>?_) (fun _ _ _ _=>trivial) 0 q (by omega) trivial
 ·rw[Nat.sub_zero,mU,← CS]at key;exact key
 rw[azB fg cT];refine⟨fun hb=>?_,fun hb=>?_⟩
 ·have jl:k<256:=by have:=of_decide_eq_true hb;omega
  have nh:=hn jl;have e3:i64.wrap ((255-(k:Int))-1)=255-((k+1:Nat):Int):=by rw[ar (by omega) (by omega)];omega
  rw[e3];refine⟨⟨h2,by omega,by omega⟩,fun hc=>?_,fun hc=>?_⟩
  ·have:uX fg cT n p d k o=cT (cT o o d) p d:=(by unfold uX;rw[hc];rfl);rw[this]at nh;exact nh
  ·have:uX fg cT n p d k o=cT o o d:=(by unfold uX;rw[hc];rfl);rw[this]at nh;exact nh
 ·have:k=256:=by have:=of_decide_eq_false hb;omega
  exact hx this
abbrev ard:aY (List LV) (List Int×Pn×Unit):=ag cB (ag xw ae)
def eNM(g:List Int→Pn→Pn):ao:=ao.cH [] ard ae fun x _=>.leaf (some (x.1.length=32)) (xw.wr (g x.1 x.2.1)) []
abbrev azC(w:List Int→Pn→Fn→Pn→Pn):dL:= [(0,dx (bg m9C m9H) 0 [aE4,.auto,UK 2,Zd 3,UK 4] (aE5 w))]
abbrev ave(bit:List Int→Int→Int)(p3:Pn→Pn→Fn→Pn)(ed:Fn)(add:Fn→Fn→Fn)(z:Pn):List (FuncId×ao):= [(172,Yl bit),(169,Qn p3),(171,Qd ed),(170,kM add),(158,e0P z)]
theorem QC(w:List Int→Pn→Fn→Pn→Pn)(bit:List Int→Int→Int)(p3:Pn→Pn→Fn→Pn)(ed:Fn)(add:Fn→Fn→Fn)(z:Pn)(n:List Int)(p:Pn):aN Tryz.prog (ave bit p3 ed add z) (azC w) Zp (ard.wr (n,p,())) [] kK=
  .need ((255:Int)=255∧n.length=32) (.leaf (xw.wr (w n p (add ed ed) z)) []):=by kernel_rfl
theorem CT:∃f:List Int→Pn→Pn,∀ (n:List Int) (p:Pn),f n p=(Ax (kp n) p):=⟨fun n p=>Ax (kp n) p,fun _ _=>rfl⟩
def nX:List Int→Pn→Pn:=Classical.choose CT
theorem CU(n:List Int)(p:Pn):nX n p=(Ax (kp n) p):=Classical.choose_spec CT n p
abbrev azD:ao:=eNM nX
theorem QD(n:List Int)(p:Pn):wC n p (fY dF dF) gA=nX n p:=by
 rw[CS,CU];unfold Ax T4;refine nR (fun k hk r=>?_) _ 256 (Nat.le_refl _);unfold uX qB fg;rw[Ab]
theorem azE:aJ Tryz.prog [] (azC wC) (aD Zp):=aJ.bW (jc rfl (bQ (hp:= []) arc) jh)
theorem akT:azD.Ok Tryz.prog 118:=by
 refine(ao.ba call118 fun x_ y_ Q H_=>?_).sym;obtain⟨n,p,_⟩:=x_;obtain⟨hn,hq⟩:=H_;have hn:n.length=32:=hn;have hc:gI Tryz.prog 118 (ard.wr (n,p,())) [] (aN Tryz.prog (ave fg cT dF fY gA) (azC wC) Zp (ard.wr (n,p,())) [] kK):=au mixed (aj uW (aj wB (aj AO (aj yw (aj LO aw))))) func118 rfl azE;rw[QC wC fg cT dF fY gA]at hc;exact hc.use (D:= []) (show(Ev.End.need _ _).sat _ from⟨⟨rfl,hn⟩,by rw[QD],rfl⟩) hq
def hh:Int:=65536
theorem iU:0<hh:=by decide
theorem QE:hh=256 ^ 2:=by decide
def g8(b:List Int):List Int:=dg hh 34 (vd 256 b)
theorem are{b:List Int}(hb:ax b)(hl:b.length≤64):0≤vd 256 b∧vd 256 b<256 ^ 64:=by
 have h0:=eI (by decide) (show gP 256 b from hb);have h1:=ob (by decide) (show gP 256 b from hb);exact⟨h0,Int.lt_of_lt_of_le h1 (lX (by decide) hl)⟩
theorem QF:(256:Int) ^ 64≤hh ^ 34:=by decide+kernel
theorem akU{b:List Int}(hb:ax b)(hl:b.length≤64){k:Nat}(hk:k<b.length):
  (g8 (b.take k)).set (k/2) (i64.wrap ((g8 (b.take k)).getD (k/2) 0+shl .i64 (i64.wrap (b.getD k 0)) ((k%2*8:Nat):Int)))=g8 (b.take (k+1)):=by
 have gR:gP 256 b:=hb;have hc:=gP.getD (by decide) gR k;have hV0:=eI (by decide) (gR.take k);have hV1:=ob (by decide) (gR.take k);rw[List.length_take,Nat.min_eq_left (by omega)]at hV1;unfold g8;rw[fM hk];generalize vd 256 (b.take k)=V at*;generalize b.getD k 0=c at*;have hi:k/2<34:=by omega
 have hs:k%2<2:=by omega
 have jl:k=2*(k/2)+k%2:=(Nat.div_add_mod k 2).symm;have hp:(256:Int) ^ k=hh ^ (k/2)*256 ^ (k%2):=by rw[QE,← Int.pow_mul,← Int.pow_add,← jl]
 have hQ:0<hh ^ (k/2):=Int.pow_pos iU
 have hle:(256:Int) ^ (k%2)*256≤hh:=by
  rw[← Int.pow_succ,QE];exact lX (by decide) (by omega)
 have hP:(0:Int)<256 ^ (k%2):=Int.pow_pos (by decide);have hdl:V/hh ^ (k/2)<256 ^ (k%2):=Int.ediv_lt_of_lt_mul hQ (by rw[Int.mul_comm,← hp];exact hV1);have hd0:0≤V/hh ^ (k/2):=Int.ediv_nonneg hV0 (Int.le_of_lt hQ)
 have eg:(dg hh 34 V).getD (k/2) 0=V/hh ^ (k/2):=by
  rw[lW iU hi,Int.emod_eq_of_lt hd0 (by omega)]
 rw[eg];have ehh:hh=65536:=rfl;have ew:i64.wrap c=c:=ar (by omega) (by omega);have hcP:c*256 ^ (k%2)≤255*256 ^ (k%2):=Int.mul_le_mul_of_nonneg_right (by omega) (by omega);have ayI:0≤c*256 ^ (k%2):=Int.mul_nonneg hc.1 (by omega)
 have es:shl .i64 c ((k%2*8:Nat):Int)=c*256 ^ (k%2):=by
  rw[iE .i64 c _ (by simp[IntKind.bits];omega),pG,ar (by omega) (by omega)]
 rw[ew,es,ar (by omega) (by omega)];refine Cw iU ((na iU 34 V).set ⟨by omega,by omega⟩) (by rw[List.length_set,cn]) ?_;rw[FV (by rw[cn];exact hi),eg,lV iU];have XA:V<hh ^ 34:=Int.lt_of_lt_of_le hV1 (Int.le_trans (lX (by decide) (by omega)) QF);rw[Int.emod_eq_of_lt hV0 XA]
 have e3:(V/hh ^ (k/2)+c*256 ^ (k%2)-V/hh ^ (k/2))*hh ^ (k/2)=c*256 ^ k:=by
  rw[hp,Int.mul_comm (hh ^ (k/2)),← Int.mul_assoc];congr 1;omega
 rw[e3]
 have dU:V+c*256 ^ k<hh ^ 34:=by
  have h1:c*256 ^ k≤255*256 ^ k:=Int.mul_le_mul_of_nonneg_right (by omega) (Int.le_of_lt (Int.pow_pos (by decide)));have h2:(256:Int) ^ (k+1)≤256 ^ 64:=lX (by decide) (by omega);have h3:=QF;rw[Int.pow_succ]at h2;omega
 exact(Int.emod_eq_of_lt (Int.add_nonneg hV0 (Int.mul_nonneg hc.1 (Int.le_of_lt (Int.pow_pos (by decide))))) dU).symm
def Gy: {n:Nat}→Int→Vec Int n→Vec Int n
 |0,_,_=>()
 |_+1,c,v=>(cA (w (c+w (2*v.1))) 65535,Gy (down (w (c+w (2*v.1))) 16) v.2)
def AQ: {n:Nat}→Nat→Vec Int n→List Int→Vec Int n
 |0,_,_,_=>()
 |_+1,k,v,l=>(w (v.1-l.getD k 0),AQ (k+1) v.2 l)
def yz:(n:Nat)→Int→Vec Int n
 |0,_=>()
 |n+1,x=>(x%65536,yz n (x/65536))
def dgT:(n:Nat)→Int→Vec Int (n+1)
 |0,x=>(x,())
 |n+1,x=>(x%65536,dgT n (x/65536))
def vdV: {n:Nat}→Vec Int n→Int
 |0,_=>0
 |_+1,v=>v.1+65536*vdV v.2
def AR: {n:Nat}→Vec Int n→Prop
 |0,_=>True
 |_+1,v=>(-65536<v.1∧v.1<65536)∧AR v.2
theorem akV:∀ (n:Nat) (x c:Int),0≤x→0≤c→c≤1→Gy c (yz n x)=yz n (2*x+c)
 |0,_,_,_,_,_=>rfl
 |n+1,x,c,hx,h0,h1=>by
  show(cA (w (c+w (2*(x%65536)))) 65535,Gy (down (w (c+w (2*(x%65536)))) 16) (yz n (x/65536)))=((2*x+c)%65536,yz n ((2*x+c)/65536));have e1:w (2*(x%65536))=2*(x%65536):=ar (by omega) (by omega);have e2:w (c+2*(x%65536))=c+2*(x%65536):=ar (by omega) (by omega);rw[e1,e2,Pc,Fs,akV n (x/65536) _ (by omega) (by omega) (by omega)]
  congr 1
  ·omega
  ·congr 1;omega
theorem LR:∀ (n k:Nat) (x Y:Int) (l:List Int),(∀j,j<n→l.getD (k+j) 0=Y/65536 ^ j%65536)→vdV (AQ k (yz n x) l)=x%65536 ^ n-Y%65536 ^ n∧AR (AQ k (yz n x) l)
 |0,_,x,Y,_,_=>by simp[AQ,vdV,AR,Int.emod_one]
 |n+1,k,x,Y,l,h=>by
  have h0:=h 0 (by omega);simp only[Nat.add_zero,Int.pow_zero,Int.ediv_one]at h0
  obtain⟨i1,i2⟩:=LR n (k+1) (x/65536) (Y/65536) l fun j hj=>by
   have:=h (j+1) (by omega);rw[show k+(j+1)=k+1+j from by omega]at this;rw[this,Int.pow_succ,Int.mul_comm,← Int.ediv_ediv_of_nonneg (by decide)]
  have e1:w (x%65536-l.getD k 0)=x%65536-Y%65536:=by rw[h0];exact ar (by omega) (by omega)
  show w (x%65536-l.getD k 0)+65536*vdV (AQ (k+1) (yz n (x/65536)) l)=_∧((-65536<w (x%65536-l.getD k 0)∧w (x%65536-l.getD k 0)<65536)∧AR (AQ (k+1) (yz n (x/65536)) l));rw[e1,i1];refine⟨?_,⟨by omega,by omega⟩,i2⟩;have s1:=nS (B:=65536) (by decide) (P:=65536 ^ n) (Int.pow_pos (by decide)) x;have s2:=nS (B:=65536) (by decide) (P:=65536 ^ n) (Int.pow_pos (by decide)) Y;rw[Int.pow_succ,Int.mul_comm ((65536:Int) ^ n),← s1,← s2];omega
theorem AS:∀ (n:Nat) (x:Int) (v:Vec Int n),-4294967296<x→x<4294967296→AR v→gW x v=dgT n (x+65536*vdV v)
 |0,x,v,_,_,_=>by show(x,())=(x+65536*0,());rw[Int.mul_zero,Int.add_zero]
 |n+1,x,v,h1,h2,h3=>by
  obtain⟨h4,h5⟩:=h3;show(cA x 65535,gW (w (v.1+down x 16)) v.2)=((x+65536*(v.1+65536*vdV v.2))%65536,dgT n ((x+65536*(v.1+65536*vdV v.2))/65536));have e1:w (v.1+x/65536)=v.1+x/65536:=ar (by omega) (by omega);rw[Pc,Fs,e1,AS n _ v.2 (by omega) (by omega) h5];generalize vdV v.2=Z
  congr 1
  ·omega
  ·congr 1;omega
theorem UL:∀ (n:Nat) (x:Int),(dgT n x).get n=x/65536 ^ n
 |0,x=>by rw[Int.pow_zero,Int.ediv_one];rfl
 |n+1,x=>by
  show(dgT n (x/65536)).get n=_;rw[UL n,Int.pow_succ,Int.mul_comm,Int.ediv_ediv_of_nonneg (by decide)]
theorem akW(n:Nat)(x:Int):dgT (n+1) x=(x%65536,dgT n (x/65536)):=rfl
theorem LS(n:Nat)(x:Int):yz (n+1) x=(x%65536,yz n (x/65536)):=rfl
theorem arh(n:Nat):∀ (x:Int),0≤x→x<65536 ^ (n+1)→dgT n x=yz (n+1) x:=by
 induction n with
 |zero=>
  intro x h0 h1;rw[LS,Int.emod_eq_of_lt h0 (by rwa [Int.pow_succ,Int.pow_zero,Int.one_mul]at h1)];rfl
 |succ n ih=>
  intro x h0 h1;rw[Int.pow_succ]at h1;have h2:x/65536<65536 ^ (n+1):=Int.ediv_lt_of_lt_mul (by decide) h1;rw[akW,LS,ih (x/65536) (by omega) h2]
def lr:List Int:=dg 256 32 ll
def Zq(v:Vec Int 17):Vec Int 17:=gW v.1 v.2
theorem Zr:vd 256 lr=ll:=by
 unfold lr;rw[lV (by decide)];exact Int.emod_eq_of_lt (by have:=fN;omega) (by decide+kernel)
theorem aE6(j:Nat)(hj:j<17):(g8 lr).getD (0+j) 0=ll/65536 ^ j%65536:=by
 unfold g8;rw[Nat.zero_add,lW iU (by omega),Zr];rfl
theorem p17:ll+ll<65536 ^ 17:=by decide+kernel
theorem azF{R c:Int}(hR:0≤R∧R<ll)(hc:0≤c∧c<2):
  (if 0≤(Zq (AQ 0 (Gy c (yz 17 R)) (g8 lr))).get 16 then Zq (AQ 0 (Gy c (yz 17 R)) (g8 lr))else Gy c (yz 17 R))=yz 17 ((2*R+c)%ll):=by
 have hp:=p17;rw[akV 17 R c hR.1 hc.1 (by omega)];obtain⟨v1,v2⟩:=LR 17 0 (2*R+c) ll (g8 lr) aE6;rw[Int.emod_eq_of_lt (by omega) (by omega),Int.emod_eq_of_lt (by have:=fN;omega) (by have:=fN;omega)]at v1
 have ec:Zq (AQ 0 (yz 17 (2*R+c)) (g8 lr))=dgT 16 (2*R+c-ll):=by
  unfold Zq;rw[AS 16 _ _ (by have:=v2.1.1;omega) (by have:=v2.1.2;omega) v2.2,← v1];rfl
 rw[ec,UL,KQ fN hR hc];have hq:(0:Int)<65536 ^ 16:=Int.pow_pos (by decide)
 by_cases h:2*R+c<ll
 ·rw[if_pos h,if_neg];intro h';have:=(Int.ediv_nonneg_iff_of_pos hq).1 h';omega
 ·rw[if_neg h,if_pos ((Int.ediv_nonneg_iff_of_pos hq).2 (by omega)),arh 16 _ (by omega) (by show _<(65536:Int) ^ 17;omega)]
abbrev ari:ao:=e0B ayT
theorem LU:aN Tryz.prog [] [] f200 ((ae).wr ()) [] [.fQ 0 0 32 .u8,.auto]= .leaf (dQ .u8 32 ayT) []:=by kernel_rfl
theorem LW:∀p_∈([]:List (FuncId×ao)),p_.2.Ok Tryz.prog p_.1:=aw
theorem Zs:ari.Ok Tryz.prog 200:=by
 refine(ao.ba call200 fun x_ y_ Q H_=>?_).sym;have hq:=H_.2;refine(au (tab:= []) mixed LW func200 rfl (LT:= []) (ks:= [.fQ 0 0 32 .u8,.auto]) (aJ.nil _)).use (D:= []) ?_ hq;show(aN _ _ _ _ ((ae).wr ()) [] _).sat _;rw[LU];exact⟨rfl,rfl⟩
abbrev arj:Func:=f164
abbrev dgC:aY (List LV) (List Int×Int×Unit):=(ag (ah (fR false false u8)) (jk 2 (aq (ah (u5 0 0)) (ag (ah (aC .i64)) (jk 28 ae)))))
abbrev aE8:Wk:=.fr (cC 33 [(0,.al),(3,.al),(4,.sym)])
abbrev dgX:aY (List LV) (Unit):=(jk 3 (aq (ah (u5 0 0)) (jk 29 ae)))
abbrev aIL:Wk:=.fr (cC 33 [(3,.al)])
abbrev xf:aY Hp (List Int×Unit):=ag (eX 0 (.int .i64)) ae
def dgW:Exit→List Wk
 | .normal=> [aE8,.auto]
 | .exit 0=> [aIL,.auto]
 |_=> []
theorem azG(b o:List Int)(i:Int):cY Tryz.prog [] [] arj 0 [] dgW ((bg dgC xf).wr ((b,i,()),(o,())))=
 aW.ite (decide (i<(↑b.length:Int))) (aW.need ((0:Int)≤i64.wrap (i.tdiv (2:Int))∧i64.wrap (i.tdiv (2:Int))<(↑o.length
 :Int)) (aW.need ((0:Int)≤i∧i<(↑b.length:Int)) (aW.need ((0:Int)≤u64.wrap (i64.wrap ((8:Int)*i.tmod (2:Int))))
 (aW.need ((0:Int)≤i64.wrap (i.tdiv (2:Int))∧i64.wrap (i.tdiv (2:Int))<(↑o.length:Int)) (aW.leaf Exit.normal ((bg dgC
 xf).wr ((b,i64.wrap (i+(1:Int)),PUnit.unit),o.set (i64.wrap (i.tdiv (2:Int))).toNat (i64.wrap (o.getD
 (i64.wrap (i.tdiv (2:Int))).toNat (0:Int)+shl i64 (i64.wrap (b.getD i.toNat (0:Int))) (u64.wrap
 (i64.wrap ((8:Int)*i.tmod (2:Int)))))),PUnit.unit))))))) (aW.leaf (Exit.exit (0:Nat)) ((bg dgX xf).wr (PUnit.unit,o,
 PUnit.unit))):=by kernel_rfl
abbrev ark:Func:=f163
abbrev mdC:aY (List LV) (List Int×Int×Unit):=(ag (ah (fR false false (.int .i64))) (jk 1 (aq (ah (aU 0 0)) (jk 1 (aq (ah (u5 1 0)) (aq (ah (aU 2 0)) (ag (ah (aC .i64)) (jk 105 ae))))))))
abbrev aE9:Wk:=.fr (cC 112 [(0,.al),(2,.al),(4,.al),(5,.al),(6,.sym)])
abbrev mdX:aY (List LV) (Unit):=(jk 2 (aq (ah (aU 0 0)) (jk 2 (aq (ah (aU 1 0)) (jk 106 ae)))))
abbrev aIN:Wk:=.fr (cC 112 [(2,.al),(5,.al)])
abbrev V17:=Vec Int 17
abbrev aFa:aY (Option Ev.Item) V17:=kY 251 (jd .i64 17)
abbrev mdH:aY Hp (List Int×List Int×V17×Unit):=ag (gJ 52 .u8 32) (ag (eX 0 (.int .i64)) (ag aFa ae))
abbrev azH:aY Hp (List Int×V17×Unit):=ag (gJ 52 .u8 32) (ag aFa ae)
def mdW:Exit→List Wk
 | .normal=> [aE9,.db 0 0 32 .u8,.bH 2 (List.replicate 17 .sym),.auto]
 | .exit 0=> [aIN,.db 0 0 32 .u8,.bH 2 (List.replicate 17 .sym),.auto]
 |_=> []
def aFb(g:List Int→List Int)(x:(List Int×Int×Unit)×List Int×Unit):aW:=.need (x.1.2.1=0∧ax x.1.1∧x.1.1.length≤64∧x.2.1=List.replicate 34 0) (.leaf (.exit 0) ((bg dgX xf).wr ((),(g x.1.1,()))))
theorem akX:g8 []=List.replicate 34 0:=FW iU 34
theorem arl(x):Ex Tryz.prog [] (.loop (a9 arj 0)) ((bg dgC xf).wr x) (aFb g8 x):=by
 obtain⟨⟨b,i,_⟩,o,_⟩:=x;refine Ex.need fun⟨h1,h2,h3,h4⟩=>?_;simp only at h1 h2 h3 h4;subst h1 h4
 have key:=dP (fn:=arj) (id:=0) (j:=0) (ws:=dgW) (hp:= []) mixed aw (aJ.nil _) b.length (fun k (_:Unit)=>(bg dgC xf).wr ((b,(k:Int),()),(g8 (b.take k),()))) (fun _=>(bg dgX xf).wr ((),(g8 b,()))) (fun _ u=>u) (fun _ _=>True)
  (fun k o R hk _ hn hx=>?_) (fun _ _ _ _=>trivial) 0 () (by omega) trivial
 ·rw[List.take_zero,akX]at key;exact key
 rw[azG];have e1:i64.wrap ((k:Int).tdiv 2)=((k/2:Nat):Int):=fS k 2 (by omega)
 have e2:u64.wrap (i64.wrap (8*(k:Int).tmod 2))=((k%2*8:Nat):Int):=by
  rw[show(k:Int).tmod 2=((k%2:Nat):Int)from KR k 2,ar (by omega) (by omega),wrap_u64 (by omega) (by omega)];omega
 have hl:(g8 (b.take k)).length=34:=cn _ _;refine⟨fun hb=>?_,fun hb=>?_⟩
 ·have jl:k<b.length:=by have:=of_decide_eq_true hb;omega
  rw[e1,e2,Int.toNat_natCast,Int.toNat_natCast,akU h2 h3 jl,cS k (by omega)];exact⟨by omega,by omega,by omega,by omega,hn jl⟩
 ·have:k=b.length:=by have:=of_decide_eq_false hb;omega
  subst this;have:=hx rfl;rw[List.take_length];exact this
abbrev aFc(g:List Int→List Int):dL:= [(0,dx (bg dgC xf) 0 [aE8,.auto] (aFb g))]
def eDg(g:List Int→List Int):ao:=ao.cH [some u8] bA ae fun x _=>.leaf (some (ax x.1∧x.1.length≤64)) (.one (.sc (.sl 0 0))) [(0,.own 0 (.int .i64) (g x.1))]
theorem Zt(g:List Int→List Int)(b:List Int):aN Tryz.prog [] (aFc g) arj (bA.wr (b,())) [] [.mO 0 (.int .i64),.auto,.aE]=
 End.need ((34:Int)=(34:Int)∧(0:Int)≤(34:Int)∧(272:Int)≤(70368744177664:Int)∧(34:Int)≤(70368744177664:Int)) (End.need ((0
 :Int)=(0:Int)∧ax b∧b.length≤(64:Nat)∧List.replicate (34:Nat) (0:Int)=List.replicate (34:Nat) (0:Int)) (End.leaf (LV.one
 (VV.sc (SV.sl (0:Nat) (0:Nat)))) [some (Item.own (0:Nat) (Ty.int i64) (g b))])):=by kernel_rfl
abbrev aFd:ao:=eDg g8
theorem Gz:aFd.Ok Tryz.prog 164:=by
 refine(ao.ba call164 fun x_ y_ Q H_=>?_).sym;obtain⟨b,_⟩:=x_;obtain⟨hn,hq⟩:=H_;refine(au mixed aw func164 rfl (LT:=aFc g8) (ks:= [.mO 0 (.int .i64),.auto,.aE]) (aJ.bW (jc rfl (bQ (hp:= []) arl) jh))).use (D:= [(0,.own 0 (.int .i64) (g8 b))]) ?_ hq;show(aN _ _ _ _ (bA.wr (b,())) [] _).sat _;rw[Zt];exact⟨by decide,⟨rfl,hn.1,hn.2,rfl⟩,rfl,rfl⟩
def akY(l:List Prop)(r:aW):aW:=l.foldr aW.need r
theorem AT{R:Exit→St→Prop}:∀ {l:List Prop} {r:aW},(∀p∈l,p)→r.sat R→(akY l r).sat R
 | [],_,_,h=>h
 |p::l,r,hl,h=>⟨hl p (by simp),AT (fun q hq=>hl q (by simp[hq])) h⟩
def LX(d:List Int)(i:Int):Int:=bd .i64 (shr .i64 (d.getD (i64.wrap (i.tdiv 16)).toNat 0) (u64.wrap (i.tmod 16))) 1
theorem azI(d o l:List Int)(r:V17)(i:Int):cY Tryz.prog [] [] ark 0 [] mdW ((bg mdC mdH).wr ((d,i,()),(o,l,r,())))=
 aW.ite (decide (0≤i)) (akY ([0≤i64.wrap (i.tdiv 16)∧i64.wrap (i.tdiv 16)<(d.length:Int),0≤u64.wrap (i.tmod 16)]++(List.range 17).map fun k:Nat=>(0≤(k:Int)∧(k:Int)<(l.length:Int)))
  (aW.ite (decide (0≤(Zq (AQ 0 (Gy (LX d i) r) l)).get 16)) (aW.leaf .normal ((bg mdC mdH).wr ((d,i64.wrap (i-1),()),(o,l,Zq (AQ 0 (Gy (LX d i) r) l),()))))
   (aW.leaf .normal ((bg mdC mdH).wr ((d,i64.wrap (i-1),()),(o,l,Gy (LX d i) r,())))))) (aW.leaf (.exit 0) ((bg mdX azH).wr ((),(o,r,())))):=by kernel_rfl
def okD(d:List Int):Prop:=d.length=34∧gP hh d
abbrev mdT:Type:=(List Int×Int×Unit)×List Int×List Int×V17×Unit
def aFe(g:List Int→V17)(LL:List Int)(x:mdT):aW:=.need (x.1.2.1=543∧okD x.1.1∧x.2.2.1=LL∧x.2.2.2.1=yz 17 0) (.leaf (.exit 0) ((bg mdX azH).wr ((),(x.2.1,g x.1.1,()))))
def arn(d:List Int):V17:=yz 17 (vd hh d%ll)
theorem azJ{d:List Int}(h:okD d){i:Nat}(hi:i<544):LX d (i:Int)=vd hh d/2 ^ i%2:=by
 have e1:i64.wrap ((i:Int).tdiv 16)=((i/16:Nat):Int):=fS i 16 (by omega)
 have e2:u64.wrap ((i:Int).tmod 16)=((i%16:Nat):Int):=by
  rw[show(i:Int).tmod 16=((i%16:Nat):Int)from KR i 16,wrap_u64 (by omega) (by omega)]
 unfold LX;rw[e1,e2,Int.toNat_natCast,p8 (m:=1) (by decide) _ 1 (by decide),ee .i64 _ (i%16) (by simp[IntKind.bits];omega)];have:=qF (b:=2) (by decide) (m:=16) (by decide) (l:=d) (show gP (2 ^ 16) d from h.2) (k:=i) (by rw[h.1];omega);have e3:(((2 ^ (i%16):Nat)):Int)=2 ^ (i%16):=by rw[Int.natCast_pow];rfl
 rw[e3];exact this
theorem aro(x:mdT):Ex Tryz.prog [] (.loop (a9 ark 0)) ((bg mdC mdH).wr x) (aFe arn (g8 lr) x):=by
 obtain⟨⟨d,i,_⟩,o,l,r,_⟩:=x;refine Ex.need fun⟨h1,h2,h3,h4⟩=>?_;simp only at h1 h2 h3 h4;subst h1 h3 h4;have hV0:=eI iU h2.2;have hV1:=ob iU h2.2;rw[h2.1,show hh ^ 34=2 ^ 544 from by decide+kernel]at hV1
 have key:=dP (fn:=ark) (id:=0) (j:=0) (ws:=mdW) (hp:= []) mixed aw (aJ.nil _) 544 (fun k (_:Unit)=>(bg mdC mdH).wr ((d,543-(k:Int),()),(o,g8 lr,yz 17 (vd hh d/2 ^ (544-k)%ll),()))) (fun _=>(bg mdX azH).wr ((),(o,arn d,()))) (fun _ u=>u) (fun _ _=>True)
  (fun k u R hk _ hn hx=>?_) (fun _ _ _ _=>trivial) 0 () (by omega) trivial
 ·rw[show vd hh d/2 ^ (544-0)=0 from Int.ediv_eq_zero_of_lt hV0 hV1,Int.zero_emod]at key;exact key
 rw[azI];refine⟨fun hb=>?_,fun hb=>?_⟩
 ·have jl:k<544:=by have:=of_decide_eq_true hb;omega
  have e0:(543-(k:Int))=((544-(k+1):Nat):Int):=by omega
  have e3:i64.wrap (543-(k:Int)-1)=543-((k+1:Nat):Int):=by rw[ar (by omega) (by omega)];omega
  have nh:=hn jl;have Df:=azJ h2 (i:=544-(k+1)) (by omega);have e1:i64.wrap ((543-(k:Int)).tdiv 16)=(((544-(k+1))/16:Nat):Int):=by rw[e0];exact fS _ 16 (by omega)
  have e2:u64.wrap ((543-(k:Int)).tmod 16)=(((544-(k+1))%16:Nat):Int):=by
   rw[e0,show(((544-(k+1):Nat):Int)).tmod 16=(((544-(k+1))%16:Nat):Int)from KR _ 16,wrap_u64 (by omega) (by omega)]
  rw[← e0]at Df;have hs:=Cy (vd hh d) (544-(k+1));rw[show 544-(k+1)+1=544-k from by omega]at hs
  have em:(vd hh d/2 ^ (544-(k+1)))%ll=(2*(vd hh d/2 ^ (544-k)%ll)+vd hh d/2 ^ (544-(k+1))%2)%ll:=by
   conv=>lhs;rw[hs]
   exact Uh _ _ _
  have yU:0≤vd hh d/2 ^ (544-(k+1))%2∧vd hh d/2 ^ (544-(k+1))%2<2:=by omega
  have hR:0≤vd hh d/2 ^ (544-k)%ll∧vd hh d/2 ^ (544-k)%ll<ll:=⟨Int.emod_nonneg _ (by have:=fN;omega),Int.emod_lt_of_pos _ fN⟩;have hm:=azF hR yU;rw[← em]at hm;rw[← hm]at nh;rw[Df,e3];refine AT (fun p hp=>?_) ⟨fun hc=>?_,fun hc=>?_⟩
  ·rcases List.mem_append.1 hp with hp|hp
   ·simp only[List.mem_cons,List.not_mem_nil,or_false]at hp;rcases hp with rfl|rfl
    ·rw[e1,h2.1];omega
    ·rw[e2];omega
   ·obtain⟨j,hj,rfl⟩:=List.mem_map.1 hp;have hj:=List.mem_range.1 hj;have:(g8 lr).length=34:=cn _ _;rw[this];omega
  ·rw[if_pos (of_decide_eq_true hc)]at nh;exact nh
  ·rw[if_neg (of_decide_eq_false hc)]at nh;exact nh
 ·have:k=544:=by have:=of_decide_eq_false hb;omega
  subst this;have:=hx rfl;simp only[Nat.sub_self,Int.pow_zero,Int.ediv_one];exact this
abbrev aFf(g:List Int→V17)(LL:List Int):dL:= [(0,dx (bg mdC mdH) 0 [aE9,.auto,.db 0 0 32 .u8,.bH 2 (List.replicate 17 .sym)] (aFe g LL))]
def azK(v:V17):List Int:=(List.range 32).map fun i=>IntKind.u8.wrap (bd .i64 (shr .i64 (v.get (i/2)) ((8*(i%2):Nat):Int)) 255)
abbrev akZ:aY (List LV) (List Int×Unit):=ag (ah (fR false false (.int .i64))) ae
def eMd(g:List Int→List Int):ao:=ao.cH [some (.int .i64)] akZ ae fun x _=>.leaf (some (okD x.1)) (dQ .u8 32 (g x.1)) []
theorem Zu(g:List Int→V17)(LL o:List Int)(dig:List Int→List Int)(d:List Int):aN Tryz.prog [(200,e0B o),(164,eDg dig)] (aFf g LL) ark (akZ.wr (d,())) [] [.fr [.sym],.fQ 0 0 32 .u8,.auto]=
  .need ((0:Int)≤0∧(0:Int)≤32∧(32:Int)≤32) (.need (ax (List.take 32 (List.drop 0 o))∧(List.take 32 (List.drop 0 o)).length≤64) (.need (i64.wrap (i64.wrap (16*(d.length:Int))-1)=543∧okD d∧dig (List.take 32 (List.drop 0 o))=LL∧(yz 17 0)=yz 17 0) (.leaf (dQ .u8 32 (azK (g d))) []))):=by kernel_rfl
theorem UM:∀ (n:Nat) (x:Int) (k:Nat),k<n→(yz n x).get k=x/65536 ^ k%65536
 |0,_,_,h=>by omega
 |n+1,x,0,_=>by rw[Int.pow_zero,Int.ediv_one];rfl
 |n+1,x,k+1,h=>by
  have:=UM n (x/65536) k (by omega);rw[Int.pow_succ,Int.mul_comm,← Int.ediv_ediv_of_nonneg (by decide),← this];rfl
theorem azM{R:Int}(hR:0≤R∧R<ll):azK (yz 17 R)=dg 256 32 R:=by
 rw[← ai6 (by decide) 32 R];unfold azK;refine List.map_congr_left fun i hi=>?_;have hi:=List.mem_range.1 hi;have hp:=p17;have hl:=fN;rw[UM 17 R (i/2) (by omega),p8 (m:=8) (by decide) _ 255 (by decide),ee .i64 _ (8*(i%2)) (by simp[IntKind.bits];omega)];have key:=qF (b:=256) (by decide) (m:=2) (by decide) (l:=dg hh 17 R) (show gP (256 ^ 2) _ from na iU 17 R) (k:=i) (by rw[cn];omega)
 rw[lW iU (by omega),show vd (256 ^ 2) (dg hh 17 R)=R from by
  rw[← QE,lV iU];exact Int.emod_eq_of_lt hR.1 (by show R<(65536:Int) ^ 17;omega)]at key
 have e1:(((2 ^ (8*(i%2)):Nat)):Int)=256 ^ (i%2):=by rw[Nat.pow_mul,Int.natCast_pow];rfl
 have e2:(((2 ^ 8:Nat)):Int)=256:=by decide
 rw[e1,e2,wrap_u8,← key,Int.emod_emod_of_dvd _ (by decide)];rfl
def AU(d:List Int):List Int:=dg 256 32 (vd hh d%ll)
abbrev aFg:ao:=eMd AU
theorem ak0:List.take 32 (List.drop 0 ayT)=lr:=bI (cn _ _)
theorem UN:aFg.Ok Tryz.prog 163:=by
 refine(ao.ba call163 fun x_ y_ Q H_=>?_).sym;obtain⟨d,_⟩:=x_;obtain⟨hn,hq⟩:=H_;have hn:okD d:=hn;refine(au mixed (aj Zs (aj Gz aw)) func163 rfl (LT:=aFf arn (g8 lr)) (ks:= [.fr [.sym],.fQ 0 0 32 .u8,.auto]) (aJ.bW (jc rfl (bQ (hp:= []) aro) jh))).use (D:= []) ?_ hq;show(aN _ _ _ _ (akZ.wr (d,())) [] _).sat _;rw[Zu,ak0];have ho:ax lr∧lr.length≤64:=⟨na (by decide) _ _,by rw[show lr.length=32 from cn _ _];decide⟩;refine⟨by decide,ho,⟨by rw[hn.1];decide,hn,rfl,rfl⟩,?_,rfl⟩;unfold arn AU;rw[azM ⟨Int.emod_nonneg _ (by have:=fN;omega),Int.emod_lt_of_pos _ fN⟩]
theorem UO(b:List Int):okD (g8 b):=⟨cn _ _,na iU _ _⟩
theorem UP{b:List Int}(hb:ax b)(hl:b.length≤64):vd hh (g8 b)=vd 256 b:=by
 obtain⟨h0,h1⟩:=are hb hl;have:=QF;unfold g8;rw[lV iU,Int.emod_eq_of_lt h0 (by omega)]
abbrev ak1:ao:=Yw pH
theorem GA(dig md:List Int→List Int)(b:List Int):aN Tryz.prog [(164,eDg dig),(163,eMd md)] [] f113 ((ajh).wr (b,())) [] kR=
 End.need ((0:Int)≤(0:Int)∧(0:Int)≤(64:Int)∧(64:Int)≤(64:Int)) (End.need (ax (List.take (64:Nat) (List.drop (0:Nat) b))∧
 (List.take (64:Nat) (List.drop (0:Nat) b)).length≤(64:Nat)) (End.need (okD (dig (List.take (64:Nat) (List.drop (0:Nat) b)))) (End.leaf
 (LV.one (VV.agg [SV.arr (Ty.int IntKind.u8) (32:Nat) (md (dig (List.take (64:Nat) (List.drop (0:Nat) b))))])) []))):=by kernel_rfl
theorem GB:∀p_∈([(164,eDg g8),(163,eMd AU)]:List (FuncId×ao)),p_.2.Ok Tryz.prog p_.1:=(aj Gz (aj UN aw))
theorem QG:ak1.Ok Tryz.prog 113:=by
 refine(ao.ba call113 fun x_ y_ Q H_=>?_).sym;obtain⟨b,_⟩:=x_;obtain⟨hn,hq⟩:=H_;have hn:b.length=64∧ax b:=hn;refine(au (tab:= [(164,eDg g8),(163,eMd AU)]) mixed GB func113 rfl (LT:= []) (ks:=kR) (aJ.nil _)).use (D:= []) ?_ hq;show(aN _ _ _ _ ((ajh).wr (b,())) [] _).sat _;rw[GA g8 AU];rw[bI hn.1];have e:AU (g8 b)=pH b:=by unfold AU pH;rw[UP hn.2 (by omega)]
 rw[e];exact⟨by decide,⟨hn.2,by rw[hn.1];decide⟩,UO b,rfl,rfl⟩
abbrev aFh:ao:=eBB sn
theorem Zv(dig md:List Int→List Int)(b:List Int):aN Tryz.prog [(164,eDg dig),(163,eMd md)] [] f112 ((ki).wr (b,())) [] kK=
 End.need ((0:Int)≤(0:Int)∧(0:Int)≤(32:Int)∧(32:Int)≤(32:Int)) (End.need (ax (List.take (32:Nat) (List.drop (0:Nat) b))∧
 (List.take (32:Nat) (List.drop (0:Nat) b)).length≤(64:Nat)) (End.need (okD (dig (List.take (32:Nat) (List.drop (0:Nat) b)))) (End.leaf
 (LV.one (VV.sc (SV.bool (SB.sym (decide (md (dig (List.take (32:Nat) (List.drop (0:Nat) b)))=b)))))) []))):=by kernel_rfl
theorem Zw:∀p_∈([(164,eDg g8),(163,eMd AU)]:List (FuncId×ao)),p_.2.Ok Tryz.prog p_.1:=(aj Gz (aj UN aw))
theorem arp:aFh.Ok Tryz.prog 112:=by
 refine(ao.ba call112 fun x_ y_ Q H_=>?_).sym;obtain⟨b,_⟩:=x_;obtain⟨hn,hq⟩:=H_;have hn:okB b:=hn;refine(au (tab:= [(164,eDg g8),(163,eMd AU)]) mixed Zw func112 rfl (LT:= []) (ks:=kK) (aJ.nil _)).use (D:= []) ?_ hq;show(aN _ _ _ _ ((ki).wr (b,())) [] _).sat _;rw[Zv g8 AU];rw[bI hn.1];refine⟨by decide,⟨hn.2,by rw[hn.1];decide⟩,UO b,zL ?_,rfl⟩;unfold AU sn;rw[UP hn.2 (by rw[hn.1];decide)];have h0:=hn.range;have hm:0≤vd 256 b%ll∧vd 256 b%ll<ll:=⟨Int.emod_nonneg _ (by have:=fN;omega),Int.emod_lt_of_pos _ fN⟩;have hp:ll<256 ^ 32:=by decide+kernel
 refine decide_eq_decide.2 ⟨fun h=>?_,fun h=>?_⟩
 ·have:=congrArg (vd 256) h;rw[lV (by decide),Int.emod_eq_of_lt hm.1 (by omega)]at this;show vd 256 b<ll;omega
 ·rw[Int.emod_eq_of_lt h0.1 h,← hn.1];exact KP (by decide) hn.2
def eRo(g:List Int→List Int):ao:=ao.cH [some u8] bA ae fun x _=>.leaf (some (x.1.length≤17592186044416)) (dQ .u8 64 (g x.1)) []
theorem azN:axs=eRo ko:=by kernel_rfl
theorem UQ:(eRo ko).Ok Tryz.prog 31:=azN▸afq
abbrev aFi:ao:=Yy kI
theorem Zx(c:List Int):aN Tryz.prog [] [] f115 (bA.wr (c,())) [] [.mO 0 u8,.auto,.aE]=
 End.ite (decide ((255:Int)<(↑c.length:Int))) (End.leaf (LV.one (VV.sc (SV.sl (0:Nat) (0:Nat)))) [some (Item.own (0:Nat) (Ty.int IntKind.u8)
 [])]) (End.need ((34:Nat)≤(70368744177664:Nat)∧(34:Nat)≤(70368744177664:Nat)) (End.need (((34:Nat)+c.length)*(1:Nat)≤
 (70368744177664:Nat)∧(34:Nat)+c.length≤(70368744177664:Nat)) (End.leaf (LV.one (VV.sc (SV.sl (0:Nat) (0:Nat)))) [some (Item.own (0:
 Nat) (Ty.int IntKind.u8) ([(83:Int),(105:Int),(103:Int),(69:Int),(100:Int),(50:Int),(53:Int),(53:Int),(49:Int),(57:Int),
 (32:Int),(110:Int),(111:Int),(32:Int),(69:Int),(100:Int),(50:Int),(53:Int),(53:Int),(49:Int),(57:Int),(32:Int),(99
 :Int),(111:Int),(108:Int),(108:Int),(105:Int),(115:Int),(105:Int),(111:Int),(110:Int),(115:Int)]++ [(1:Int),
 IntKind.u8.wrap (↑c.length:Int)]++c))]))):=by kernel_rfl
theorem arq:aFi.Ok Tryz.prog 115:=by
 refine(ao.ba call115 fun x_ y_ Q H_=>?_).sym;obtain⟨c,_⟩:=x_;refine(au mixed aw func115 rfl (LT:= []) (ks:= [.mO 0 u8,.auto,.aE]) (aJ.nil _)).use (D:= [(0,.own 0 u8 (kI c))]) ?_ H_.2;show(aN _ _ _ _ (bA.wr (c,())) [] _).sat _;rw[Zx];refine⟨fun h=>?_,fun h=>?_⟩
 ·have h:=of_decide_eq_true h;have e:kI c= []:=if_neg (by omega);rw[e];exact⟨rfl,rfl⟩
 ·have h:=of_decide_eq_false h;have e:kI c=PU++([1,(c.length:Int)]++c):=if_pos (by omega);have ew:IntKind.u8.wrap (c.length:Int)=c.length:=by rw[wrap_u8];omega
  rw[e,ew];exact⟨by decide,⟨by omega,by omega⟩,rfl,rfl⟩
abbrev b4A:aY (List LV) (List Int×List Int×List Int×List Int×Unit):=ag (ah (fR false false u8)) (ag (ah (fR false false u8)) (ag (ah (fR false false u8)) (ag (ah (fR false false u8)) ae)))
def fq(a b c d:List Int):List Int:=a++b++c++d
def ak2(a b c d:List Int):Prop:=a.length+b.length+c.length+d.length<1000000
def eJo(g:List Int→List Int→List Int→List Int→List Int):ao:=ao.cH [some u8,some u8,some u8,some u8] b4A ae fun x _=>.leaf (some (ak2 x.1 x.2.1 x.2.2.1 x.2.2.2.1)) (.one (.sc (.sl 0 0))) [(0,.own 0 u8 (g x.1 x.2.1 x.2.2.1 x.2.2.2.1))]
theorem QH(a b c d:List Int):aN Tryz.prog [] [] f114 (b4A.wr (a,b,c,d,())) [] [.mO 0 u8,.auto,.aE]=
 End.need (a.length*(1:Nat)≤(70368744177664:Nat)∧a.length≤(70368744177664:Nat)) (End.need ((a.length+b.length)*(1:Nat)≤
 (70368744177664:Nat)∧a.length+b.length≤(70368744177664:Nat)) (End.need (((a++b).length+c.length)*(1:Nat)≤(70368744177664:Nat)∧
 (a++b).length+c.length≤(70368744177664:Nat)) (End.need (((a++b++c).length+d.length)*(1:Nat)≤(70368744177664:Nat)∧(a++b++
 c).length+d.length≤(70368744177664:Nat)) (End.leaf (LV.one (VV.sc (SV.sl (0:Nat) (0:Nat)))) [some (Item.own (0:Nat) (Ty.int IntKind.u8) (a
 ++b++c++d))])))):=by kernel_rfl
abbrev azO:ao:=eJo fq
theorem ak3:azO.Ok Tryz.prog 114:=by
 refine(ao.ba call114 fun x_ y_ Q H_=>?_).sym;obtain⟨a,b,c,d,_⟩:=x_;obtain⟨hn,hq⟩:=H_;have hn:a.length+b.length+c.length+d.length<1000000:=hn;refine(au mixed aw func114 rfl (LT:= []) (ks:= [.mO 0 u8,.auto,.aE]) (aJ.nil _)).use (D:= [(0,.own 0 u8 (fq a b c d))]) ?_ hq;show(aN _ _ _ _ (b4A.wr (a,b,c,d,())) [] _).sat _;rw[QH];refine⟨⟨by omega,by omega⟩,⟨by omega,by omega⟩,⟨?_,?_⟩,⟨?_,?_⟩,rfl,rfl⟩<;>simp only[List.length_append]<;>omega
abbrev Zy:aY (Option Ev.Item) (List Int):=gJ 52 .u8 32
abbrev azP:aY (Option Ev.Item) (List Int):=gJ 37 .u8 64
abbrev Zz:Func:=f81
abbrev v9C:aY (List LV) (List Int×Bool×Int×Unit):=(jk 1 (ag (ah (fR false false u8)) (jk 2 (aq (ah (aU 0 0)) (jk 1 (aq (ah (aU 1 0)) (aq (ah (aU 2 0)) (jk 1 (aq (ah (aU 3 0)) (ag (ah jX) (aq (ah (aU 4 0)) (aq (ah (aU 5 0)) (ag (ah (aC .i64)) (jk 54 ae))))))))))))))
abbrev aFk:Wk:=.fr (cC 68 [(1,.al),(4,.al),(6,.al),(7,.al),(9,.al),(10,.sym),(11,.al),(12,.al),(13,.sym)])
abbrev v9X:aY (List LV) (List Int×Bool×Unit):=(jk 1 (ag (ah (fR false false u8)) (jk 2 (aq (ah (aU 0 0)) (jk 1 (aq (ah (aU 1 0)) (jk 2 (aq (ah (aU 2 0)) (ag (ah jX) (aq (ah (aU 3 0)) (aq (ah (aU 4 0)) (jk 55 ae))))))))))))
abbrev aIR:Wk:=.fr (cC 68 [(1,.al),(4,.al),(6,.al),(9,.al),(10,.sym),(11,.al),(12,.al)])
abbrev v9H:aY Hp (List Int×List Int×List Int×Pn×List Int×List Int×Unit):=ag Zy (ag azP (ag azP (ag iPn (ag Zy (ag Zy ae)))))
abbrev azQ:aY Hp (List Int×List Int×Pn×List Int×List Int×Unit):=ag Zy (ag azP (ag iPn (ag Zy (ag Zy ae))))
def v9W:Exit→List Wk
 | .normal=> [aFk,.auto]
 | .exit 0=> [aIR,.auto]
 |_=> []
theorem azR(c p m g:List Int)(a:Pn)(ok:Bool)(r s:List Int)(i:Int):cY Tryz.prog [] [] Zz 0 [] v9W ((bg v9C v9H).wr ((c,ok,i,()),(p,m,g,a,r,s,())))=
 .ite (decide (i<32)) (.need (0≤i∧i<64) (.need (0≤i∧i<32) (.need (0≤i64.wrap (32+i)∧i64.wrap (32+i)<64) (.need (0≤i∧i<32) (.leaf .normal ((bg v9C v9H).wr ((c,ok,i64.wrap (i+1),()),(p,m,g,a,r.set (0+i.toNat) ((List.take 64 (List.drop 0 g)).getD i.toNat 0),s.set (0+i.toNat) ((List.take 64 (List.drop 0 g)).getD (i64.wrap (32+i)).toNat 0),()))))))))
  (.leaf (.exit 0) ((bg v9X azQ).wr ((c,ok,()),(p,m,a,r,s,())))):=by kernel_rfl
abbrev v9T:Type:=(List Int×Bool×Int×Unit)×List Int×List Int×List Int×Pn×List Int×List Int×Unit
def aFm(x:v9T):aW:=.need (x.1.2.2.1=0∧x.2.2.2.1.length=64∧x.2.2.2.2.2.1.length=32∧x.2.2.2.2.2.2.1.length=32) (.leaf (.exit 0) ((bg v9X azQ).wr ((x.1.1,x.1.2.1,()),(x.2.1,x.2.2.1,x.2.2.2.2.1,x.2.2.2.1.take 32,x.2.2.2.1.drop 32,()))))
theorem ars(x:v9T):Ex Tryz.prog [] (.loop (a9 Zz 0)) ((bg v9C v9H).wr x) (aFm x):=by
 obtain⟨⟨c,ok,i,_⟩,p,m,g,a,r,s,_⟩:=x;refine Ex.need fun⟨h1,h2,h3,h4⟩=>?_;simp only at h1 h2 h3 h4;subst h1
 have key:=dP (fn:=Zz) (id:=0) (j:=0) (ws:=v9W) (hp:= []) mixed aw (aJ.nil _) 32 (fun k (o:List Int×List Int)=>(bg v9C v9H).wr ((c,ok,(k:Int),()),(p,m,g,a,o.1,o.2,()))) (fun o=>(bg v9X azQ).wr ((c,ok,()),(p,m,a,o.1,o.2,())))
  (fun k (o:List Int×List Int)=>(o.1.set k (g.getD (0+k) 0),o.2.set k (g.getD (32+k) 0))) (fun _ o=>o.1.length=32∧o.2.length=32)
  (fun k o R hk ho hn hx=>?_) (fun k o hk hh=>by simpa using hh) 0 (r,s) (by omega) ⟨h3,h4⟩
 ·rw[Nat.sub_zero,vE (fun k (o:List Int)=>o.set k (g.getD (0+k) 0)) (fun k (o:List Int)=>o.set k (g.getD (32+k) 0)),jx (fun k=>g.getD (0+k) 0) h3,jx (fun k=>g.getD (32+k) 0) h4,gU (by omega),gU (by omega)]at key;rw[List.drop_zero,List.take_of_length_le (l:=g.drop 32) (by rw[List.length_drop];omega)]at key;exact key
 rw[azR];refine⟨fun hb=>?_,fun hb=>?_⟩
 ·have jl:k<32:=by have:=of_decide_eq_true hb;omega
  have e1:i64.wrap (32+(k:Int))=((32+k:Nat):Int):=by rw[ar (by omega) (by omega)];omega
  have nh:=hn jl;rw[Nat.zero_add]at nh;rw[e1,bI h2,Int.toNat_natCast,Int.toNat_natCast,Nat.zero_add,cS k (by omega)];exact⟨by omega,by omega,by omega,by omega,nh⟩
 ·have:k=32:=by have:=of_decide_eq_false hb;omega
  exact hx this
abbrev azS:dL:= [(0,dx (bg v9C v9H) 0 [aFk,.auto,.db 4 0 32 .u8,.db 5 0 32 .u8] aFm)]
abbrev UR(de:List Int→Pn×Bool)(can:List Int→Bool)(pre CE red:List Int→List Int)(jo:List Int→List Int→List Int→List Int→List Int)(en:Pn→List Int)(mu:List Int→Pn→Pn)(b0:Pn)(pl:Pn→Pn→Pn)(tu:Pn→Pn):List (FuncId×ao):=
 [(111,eND de),(112,eBB can),(115,Yy pre),(114,eJo jo),(31,eRo CE),(113,Yw red),(116,eNE en),(118,eNM mu),(119,e0P b0),(117,aE2 pl),(120,aE1 tu)]
abbrev jk9(pre:List Int→List Int)(jo:List Int→List Int→List Int→List Int→List Int)(p c m g:List Int):List Int:=jo (pre c) (List.take 32 (List.drop 0 (List.take 32 g))) (List.take 32 (List.drop 0 p)) (List.take 64 (List.drop 0 m))
theorem ZA(de:List Int→Pn×Bool)(can:List Int→Bool)(pre CE red:List Int→List Int)(jo:List Int→List Int→List Int→List Int→List Int)(en:Pn→List Int)(mu:List Int→Pn→Pn)(b0:Pn)(pl:Pn→Pn→Pn)(tu:Pn→Pn)(p c m g:List Int):aN Tryz.prog (UR de can pre CE red jo en mu b0 pl tu) azS Zz (veA.wr (p,c,m,g,())) [] kK=
 .need (p.length=32) (.need ((0:Int)=0∧g.length=64∧(List.replicate 32 (0:Int)).length=32∧(List.replicate 32 (0:Int)).length=32) (.ite (decide (255<(c.length:Int))==false) (.ite ((!(de p).2)==false) (.need (okB (g.drop 32)) (.ite (!(can (g.drop 32))) (.leaf (nB false) [])
  (.need ((0:Int)≤0∧(0:Int)≤32∧(32:Int)≤32) (.need ((0:Int)≤0∧(0:Int)≤32∧(32:Int)≤32) (.need ((0:Int)≤0∧(0:Int)≤64∧(64:Int)≤64) (.need (ak2 (pre c) (List.take 32 (List.drop 0 (List.take 32 g))) (List.take 32 (List.drop 0 p)) (List.take 64 (List.drop 0 m))) (.need ((jk9 pre jo p c m g).length≤17592186044416)
   (.need ((CE (jk9 pre jo p c m g)).length=64∧ax (CE (jk9 pre jo p c m g))) (.need ((g.drop 32).length=32) (.need ((red (CE (jk9 pre jo p c m g))).length=32) (.leaf (nB (decide (en (pl (mu (g.drop 32) b0) (tu (mu (red (CE (jk9 pre jo p c m g))) (de p).1)))=g.take 32))) []))))))))))) (.leaf (nB false) [])) (.leaf (nB false) []))):=by kernel_rfl
def Br(q:Pn)(P:BJ.Pt):Prop:=∃p:E4,q=pn p∧Fy p P
theorem ak4{q:Pn}{P:BJ.Pt}(h:Br q P):iT q=aqC P:=by
 obtain⟨p,rfl,hp⟩:=h;unfold iT aqC;rw[Pg];unfold apk apE;rw[aus hp,aut hp]
theorem ZB:Br mf fc:=⟨Ah,aik,Kl⟩
theorem CV{n:List Int}(hn:okB n){q:Pn}{P:BJ.Pt}(h:Br q P):Br (nX n q) (ja (sc n) P):=by
 obtain⟨p,rfl,hp⟩:=h;obtain⟨h1,h2⟩:=ym hn;refine⟨Ch (bN (kp n)).toNat p,by rw[CU,ais h1],?_⟩;have:=Ko (Pj h1) hp;unfold sc;rw[← h2];exact this
theorem ZC{q r:Pn}{P Q:BJ.Pt}(h:Br q P)(h':Br r Q):Br (mg q r) (P.add Q):=by
 obtain⟨p,rfl,hp⟩:=h;obtain⟨p',rfl,dI⟩:=h';exact⟨qW p p',ail p p',yj hp dI⟩
theorem ZD{q:Pn}{P:BJ.Pt}(h:Br q P):Br (mh q) P.neg:=by
 obtain⟨p,rfl,hp⟩:=h;exact⟨ah2 p,aim p,T3 hp⟩
theorem art{b:List Int}(hb:okB b):(gC b).2=(gp b).2∧∃P,Br (gC b).1 P∧Km (gp b).1 P:=by
 obtain⟨h1,_⟩:=ym hb;obtain⟨d1,d2,d3⟩:=XC h1;have e:=Pf h1;obtain⟨P,hP⟩:=ayf (kp b);unfold gC;rw[e];exact⟨d3.symm,P,⟨_,rfl,hP⟩,⟨d1,by rw[show(gp b).1=(qs (kp b)).1 from rfl,d2];exact hP⟩⟩
theorem ak5(b:List Int):(ko b).length=64:=o6 _
theorem aru(b:List Int):ax (ko b):=by
 have key:∀ (l:List Nat) (s a:List Int),ax a→ax (l.foldl (fun a i=>a++cD (s.getD i 0)) a):=by
  intro l s
  induction l with
  |nil=>exact fun a h=>h
  |cons i l ih=>exact fun a h=>ih _ (h.append (K7 _))
 exact key _ _ [] (fun z hz=>by cases hz)
theorem LY(a b c d:List Int):(fq a b c d).length=a.length+b.length+c.length+d.length:=by unfold fq;simp only[List.length_append]
abbrev azT(pre CE red:List Int→List Int)(jo:List Int→List Int→List Int→List Int→List Int)(r p c m:List Int):List Int:=red (CE (jo (pre c) r p m))
theorem avi{b:List Int}(h:b.length≤17592186044416):ko b=la b:=(Og h).symm
theorem arv{r p c m:List Int}(hr:r.length=32)(dI:p.length=32)(hm:m.length=64):azT kI ko pH fq r p c m=oc c r p m:=by
 have hp:=F2 c;have e:fq (kI c) r p m=kI c++(r++(p++m)):=by unfold fq;rw[List.append_assoc,List.append_assoc]
 show pH (ko (fq (kI c) r p m))=oc c r p m;rw[avi (by rw[LY,hr,dI,hm];omega),e];unfold oc;rfl
theorem ak6(de:List Int→Pn×Bool)(can:List Int→Bool)(pre CE red:List Int→List Int)(jo:List Int→List Int→List Int→List Int→List Int)(en:Pn→List Int)(mu:List Int→Pn→Pn)(b0:Pn)(pl:Pn→Pn→Pn)(tu:Pn→Pn){p c m g:List Int}(hp:p.length=32)(hm:m.length=64)(hg:g.length=64)(hb:ax g)(h1:∀b,(CE b).length=64)(h2:∀b,ax (CE b))(h3:∀b,okB (red b))(h9:(pre c).length≤289)(hj:∀a b c d,(jo a b c d).length=a.length+b.length+c.length+d.length):
  ∃t_:Ev.End,aN Tryz.prog (UR de can pre CE red jo en mu b0 pl tu) azS Zz (veA.wr (p,c,m,g,())) [] kK=t_∧t_.sat fun v dI=>v=nB ((de p).2&&(decide (c.length≤255)&&(can (g.drop 32)&&decide (en (pl (mu (g.drop 32) b0) (tu (mu (azT pre CE red jo (g.take 32) p c m) (de p).1)))=g.take 32))))∧dI= []:=by
 refine⟨_,ZA ..,?_⟩;have l1:(g.take 32).length=32:=by rw[List.length_take,hg];decide
 have l2:(g.drop 32).length=32:=by rw[List.length_drop,hg]
 have ej:jk9 pre jo p c m g=jo (pre c) (g.take 32) p m:=by show jo _ _ _ _=_;rw[bI l1,bI hp,bI hm]
 rw[ej,bI l1,bI hp,bI hm];have hbd:ax (g.drop 32):=hb.drop 32;have j1:=hj (pre c) (g.take 32) p m;have l3:=h3 (CE (jo (pre c) (g.take 32) p m));generalize de p=d at*;generalize g.take 32=r at*;generalize g.drop 32=s at*;obtain⟨a,ok⟩:=d;refine⟨hp,⟨rfl,hg,rfl,rfl⟩,fun h=>?_,fun h=>?_⟩
 ·have h:c.length≤255:=by simp at h;omega
  rw[decide_eq_true h]
  cases ok
  ·exact⟨fun h=>(by cases h),fun _=>⟨rfl,rfl⟩⟩
  ·refine⟨fun _=>⟨⟨l2,hbd⟩,fun h'=>?_,fun h'=>⟨by decide,by decide,by decide,?_,by rw[j1];omega,⟨h1 _,h2 _⟩,l2,l3.1,?_,rfl⟩⟩,fun h=>(by cases h)⟩
   ·have h':can s=false:=(by simpa using h');rw[h'];exact⟨rfl,rfl⟩
   ·show(pre c).length+r.length+p.length+m.length<1000000;omega
   ·have h':can s=true:=(by simpa using h');rw[h'];rfl
 ·have h:¬c.length≤255:=by simp at h;omega
  rw[decide_eq_false h]
  cases ok<;>exact⟨rfl,rfl⟩
theorem arw{p c m g:List Int}(hp:okB p)(hm:m.length=64)(hg:g.length=64)(hb:ax g):
  ((gC p).2&&(decide (c.length≤255)&&(sn (g.drop 32)&&decide (iT (mg (nX (g.drop 32) mf) (mh (nX (azT kI ko pH fq (g.take 32) p c m) (gC p).1)))=g.take 32))))=pI p c m g:=by
 obtain⟨e1,P,r9,r⟩:=art hp;have l1:(g.take 32).length=32:=by rw[List.length_take,hg];decide
 have os:okB (g.drop 32):=⟨by rw[List.length_drop,hg],hb.drop 32⟩;have ok:=K8 c (g.take 32) p m;rw[Uo,e1,arv l1 hp.1 hm,ak4 (ZC (CV os ZB) (ZD (CV ok r9))),ayZ (ajr ok os (apD r)),apz,BJ.Pt.add_comm]
def aFn(g:List Int→List Int→List Int→List Int→Bool):ao:=ao.cH [none,some u8,none,none] veA ae fun x _=>.leaf (some (okB x.1∧x.2.2.1.length=64∧x.2.2.2.1.length=64∧ax x.2.2.2.1)) (nB (g x.1 x.2.1 x.2.2.1 x.2.2.2.1)) []
theorem ak7:∀p∈UR gC sn kI ko pH fq iT nX mf mg mh,p.2.Ok Tryz.prog p.1:=aj QB (aj arp (aj arq (aj ak3 (aj UQ (aj QG (aj Qz (aj akT (aj akK (aj akM (aj akO aw))))))))))
abbrev aFo:ao:=aFn pI
theorem arx:aFo.Ok Tryz.prog 81:=by
 refine(ao.ba call81 fun x_ y_ Q H_=>?_).sym;obtain⟨p,c,m,g,_⟩:=x_;obtain⟨hn,hq⟩:=H_;have hn:okB p∧m.length=64∧g.length=64∧ax g:=hn;have hc:gI Tryz.prog 81 (veA.wr (p,c,m,g,())) [] (aN Tryz.prog (UR gC sn kI ko pH fq iT nX mf mg mh) azS Zz (veA.wr (p,c,m,g,())) [] kK):=au mixed ak7 func81 rfl (aJ.bW (jc rfl (bQ (hp:= []) ars) jh));obtain⟨t_,ht,hs⟩:=ak6 gC sn kI ko pH fq iT nX mf mg mh (c:=c) hn.1.1 hn.2.1 hn.2.2.1 hn.2.2.2 ak5 aru Um (F2 c) LY;rw[arw hn.1 hn.2.1 hn.2.2.1 hn.2.2.2]at hs;rw[ht]at hc;exact hc.use (D:= []) hs hq
end Go.Proofs.YtcbjpiangpjbgaaGreat
end
