/- What the laws lean on, part 11: a reader of code, plain facts, and what each function gives; no conditions. -/
import Derived.Test.YtliehnnljilacaaGreatA10
noncomputable section
open Go.IntKind (i64 signed u16 u32 u64 wrap wrap_u32)
set_option linter.unusedVariables false
set_option linter.unusedSimpArgs false
namespace Go.Proofs.YtliehnnljilacaaGreat
open Go Go.Ev Go.Proofs.Tryz
set_option maxRecDepth 1000000
def oZ(f:ai):(Int×ab)×Bool×Bool×Int:=f
def dQ(c:aj)(bK fl:Int)(f:ai)(b er:ab):ab×Int:=if f.2.1=true then([],5)else if(0:Int)≤0∧(0:Int)≤224∧(224:Int)≤1024*c.2 then(cO b (1024*(2+bK*c.2)+0) 224,0)else([],2)
def w7(c:aj)(bK fl:Int)(f:ai)(b er:ab):ab×Int:=Ec (oZ f) b {begun:=true,s:=qx,n:=0,wait:=List.replicate 128 (0:Int)} (2+bK*c.2,c.2) (eI c.1 fl (cR c) (dQ c bK fl f b er).1).1.cU.len
def oF(c:aj)(bK fl:Int)(f:ai)(b er:ab):ab:=ub (eI c.1 fl (cR c) (dQ c bK fl f b er).1).1.cU.ver (eI c.1 fl (cR c) (dQ c bK fl f b er).1).1.cU.lP (eI c.1 fl (cR c) (dQ c bK fl f b er).1).1.cU.len (eI c.1 fl (cR c) (dQ c bK fl f b er).1).1.cU.list (eI c.1 fl (cR c) (dQ c bK fl f b er).1).1.cU.plain
def JJ(c:aj)(bK fl:Int)(f:ai)(b er:ab):HH:=dk {begun:=true,s:=qx,n:=0,wait:=List.replicate 128 (0:Int)} (oF c bK fl f b er)
def w8(c:aj)(bK fl:Int)(f:ai)(b er:ab):ab×Int:=Ec (oZ f) b (JJ c bK fl f b er) (2+bK*c.2,c.2) (eI c.1 fl (cR c) (dQ c bK fl f b er).1).1.cU.len
abbrev Qz:Type:=Int×Int×Int×Int×Int×ab×ab×ab×ab×Int
abbrev aOL(x:Qz):LV:=LV.dB [VV.agg [ar x.1,ar x.2.1,SV.int u64 (SI.sym x.2.2.1),SV.int u64 (SI.sym x.2.2.2.1),ar x.2.2.2.2.1,SV.arr ae 64 x.2.2.2.2.2.1,SV.arr ae 64 x.2.2.2.2.2.2.1,SV.arr ae 64 x.2.2.2.2.2.2.2.1],VV.agg [SV.arr ae 64 x.2.2.2.2.2.2.2.2.1],VV.sc (ar x.2.2.2.2.2.2.2.2.2)]
abbrev aOM(x:Qz):List ao:= []
def aAA(c:aj)(bK fl:Int)(f:ai)(b er:ab):Tr Qz:=(.ite (!decide (((1≤c.1.length∧c.1.length≤8∧3≤c.2∧c.2≤100)∧(2:Int)+2*c.2≤(↑er.length:Int))∧0≤bK∧bK<2)) (.need (nz c bK (oZ f) b er) (.ret (0,0,0,0,0,List.replicate 64 (0:Int),List.replicate 64 (0:Int),List.replicate 64 (0:Int),List.replicate 64 (0:Int),1))) (.need (nz c bK (oZ f) b er) (.need (fO (2+bK*c.2,c.2) 0 224 (oZ f) b er) (.ite ((dQ c bK fl f b er).2 !=0) (.ret (0,0,0,0,0,List.replicate 64 (0:Int),List.replicate 64 (0:Int),List.replicate 64 (0:Int),List.replicate 64 (0:Int),(dQ c bK fl f b er).2)) (.need (qH c fl (dQ c bK fl f b er).1) (.ite ((eI c.1 fl (cR c) (dQ c bK fl f b er).1).2 !=0) (.ret (0,0,0,0,0,List.replicate 64 (0:Int),List.replicate 64 (0:Int),List.replicate 64 (0:Int),List.replicate 64 (0:Int),(eI c.1 fl (cR c) (dQ c bK fl f b er).1).2)) (.need (u5 {begun:=true,s:=qx,n:=0,wait:=List.replicate 128 (0:Int)} (2+bK*c.2,c.2) (eI c.1 fl (cR c) (dQ c bK fl f b er).1).1.cU.len (oZ f) b er) (.ite ((w7 c bK fl f b er).2 !=0) (.ret (0,0,0,0,0,List.replicate 64 (0:Int),List.replicate 64 (0:Int),List.replicate 64 (0:Int),List.replicate 64 (0:Int),(w7 c bK fl f b er).2)) (.ite (!decide ((w7 c bK fl f b er).1=(eI c.1 fl (cR c) (dQ c bK fl f b er).1).1.cU.plain)) (.ret (0,0,0,0,0,List.replicate 64 (0:Int),List.replicate 64 (0:Int),List.replicate 64 (0:Int),List.replicate 64 (0:Int),7)) (.need (0≤(eI c.1 fl (cR c) (dQ c bK fl f b er).1).1.cU.ver∧(eI c.1 fl (cR c) (dQ c bK fl f b er).1).1.cU.ver<18446744073709551616∧0≤(eI c.1 fl (cR c) (dQ c bK fl f b er).1).1.cU.lP∧(eI c.1 fl (cR c) (dQ c bK fl f b er).1).1.cU.lP<18446744073709551616) (.need (oA {begun:=true,s:=qx,n:=0,wait:=List.replicate 128 (0:Int)}∧0+(↑(oF c bK fl f b er).length:Int)<2305843009213693952) (.need (u5 (JJ c bK fl f b er) (2+bK*c.2,c.2) (eI c.1 fl (cR c) (dQ c bK fl f b er).1).1.cU.len (oZ f) b er) (.ite ((w8 c bK fl f b er).2 !=0) (.ret (0,0,0,0,0,List.replicate 64 (0:Int),List.replicate 64 (0:Int),List.replicate 64 (0:Int),List.replicate 64 (0:Int),(w8 c bK fl f b er).2)) (.ret ((eI c.1 fl (cR c) (dQ c bK fl f b er).1).1.key,(eI c.1 fl (cR c) (dQ c bK fl f b er).1).1.bQ,(eI c.1 fl (cR c) (dQ c bK fl f b er).1).1.cU.ver,(eI c.1 fl (cR c) (dQ c bK fl f b er).1).1.cU.lP,(eI c.1 fl (cR c) (dQ c bK fl f b er).1).1.cU.len,(eI c.1 fl (cR c) (dQ c bK fl f b er).1).1.cU.list,(eI c.1 fl (cR c) (dQ c bK fl f b er).1).1.cU.plain,(eI c.1 fl (cR c) (dQ c bK fl f b er).1).1.sign,(w8 c bK fl f b er).1,0)))))))))))))))
def TZ(f:Fl)(b er:ab)(c:aj)(bK fl:Int):JF×ab×Int:=if ¬ (kD c er∧0≤bK∧bK<2)then(nH,List.replicate 64 0,1) else if f.2.1=true then(nH,List.replicate 64 0,5) else if(eI c.1 fl (cR c) (cO b (1024*(2+bK*c.2)) 224)).2≠0 then(nH,List.replicate 64 0,(eI c.1 fl (cR c) (cO b (1024*(2+bK*c.2)) 224)).2) else(fun(l:JF) (d:ab)=>if iG d≠l.cU.plain then(nH,List.replicate 64 0,7)else(l,iG (ub l.cU.ver l.cU.lP l.cU.len l.cU.list l.cU.plain++d),0)) (eI c.1 fl (cR c) (cO b (1024*(2+bK*c.2)) 224)).1 (cO b (1024*(2+bK*c.2)+2048) (eI c.1 fl (cR c) (cO b (1024*(2+bK*c.2)) 224)).1.cU.len)
def aON(x:JF×ab×Int):Qz:=(x.1.key,x.1.bQ,x.1.cU.ver,x.1.cU.lP,x.1.cU.len,x.1.cU.list,x.1.cU.plain,x.1.sign,x.2.1,x.2.2)
theorem Ya(m:ab)(e:Int):aON (nH,m,e)=(0,0,0,0,0,List.replicate 64 0,List.replicate 64 0,List.replicate 64 0,m,e):=rfl
abbrev Bb(c:aj)(bK fl:Int)(f:Fl)(b er:ab):Prop:=dE b er∧bL b∧zt c.1
abbrev aiw(c:aj)(bK fl:Int)(f:Fl)(b er:ab):Qz:=aON (TZ f b er c bK fl)
def aOO:bT:=cj [none,some (.arr u8 32),none,none] ((bR (bO (cr 0 0)) (bD (jf cCf) (bD (bO (bX .i64)) (bD (bO (bX .u64)) bG))))) ow (q3∘q3 Bb) (q3∘q3 aiw) aOL aOM
theorem atD:ac1 Bb aAA aiw:=by
 intro c bK fl f b er h_;delta aiw;obtain⟨h1,h2,h3⟩:=h_
 have hr:(kD c er∧0≤bK∧bK<2)→iO (2+bK*c.2,c.2) er:=fun⟨⟨⟨a,b,c1,d⟩,e⟩,h,i⟩=>by
  rcases(by omega:bK=0∨bK=1)with rfl|rfl<;>exact⟨by simp only;omega,by simp only;omega,by simp only;omega⟩
 simp only[aAA,oZ,cD,bF,b9,bH];refine⟨fun c1=>⟨h1,by rw[TZ,if_pos c1];exact(Ya _ _).symm⟩,fun c1=>⟨h1,⟨h1,hr c1⟩,?_⟩⟩;obtain⟨r1,r2,r3⟩:=hr c1;simp only at r1 r2 r3;rw[TZ,if_neg (fun h=>h c1)];cases c2:f.2.1 with
 |true=>
  have Yb:dQ c bK fl f b er=([],5):=by unfold dQ;rw[if_pos c2]
  rw[Yb,if_pos rfl];exact⟨fun h=>by simp at h,fun _=>(Ya _ _).symm⟩
 |false=>
  rw[if_neg (by decide)];have Yb:dQ c bK fl f b er=(cO b (1024*(2+bK*c.2)) 224,0):=by
   unfold dQ;rw[if_neg (by rw[c2];decide),if_pos (by omega),Int.add_zero]
  have l1:=gg (b:=b) (p:=1024*(2+bK*c.2)) (m:=224) (by omega);have e12:∀d,JJ c bK fl f b er=dk eX (oF c bK fl f b er)∧AH (dk (dk eX (oF c bK fl f b er)) d)=iG (oF c bK fl f b er++d):=fun d=>⟨rfl,by rw[← sx];rfl⟩;have e14:∀h n,Ec f b h (2+bK*c.2,c.2) n=(AH (dk h (cO b (1024*(2+bK*c.2)+2048) n)),0):=fun h n=>by unfold Ec;rw[if_neg (by rw[c2];simp)]
  have e11:w7 c bK fl f b er=(iG (cO b (1024*(2+bK*c.2)+2048) (eI c.1 fl (cR c) (cO b (1024*(2+bK*c.2)) 224)).1.cU.len),0):=by unfold w7 oZ;rw[e14,Yb];rfl
  have e15:w8 c bK fl f b er=(iG (oF c bK fl f b er++cO b (1024*(2+bK*c.2)+2048) (eI c.1 fl (cR c) (cO b (1024*(2+bK*c.2)) 224)).1.cU.len),0):=by
   unfold w8 oZ;rw[e14,Yb,(e12 []).1,(e12 _).2]
  have e16:=TX (eI c.1 fl (cR c) (cO b (1024*(2+bK*c.2)) 224)).1.cU.ver (eI c.1 fl (cR c) (cO b (1024*(2+bK*c.2)) 224)).1.cU.lP (eI c.1 fl (cR c) (cO b (1024*(2+bK*c.2)) 224)).1.cU.len (eI c.1 fl (cR c) (cO b (1024*(2+bK*c.2)) 224)).1.cU.list (eI c.1 fl (cR c) (cO b (1024*(2+bK*c.2)) 224)).1.cU.plain;have e17:oF c bK fl f b er=ub (eI c.1 fl (cR c) (cO b (1024*(2+bK*c.2)) 224)).1.cU.ver (eI c.1 fl (cR c) (cO b (1024*(2+bK*c.2)) 224)).1.cU.lP (eI c.1 fl (cR c) (cO b (1024*(2+bK*c.2)) 224)).1.cU.len (eI c.1 fl (cR c) (cO b (1024*(2+bK*c.2)) 224)).1.cU.list (eI c.1 fl (cR c) (cO b (1024*(2+bK*c.2)) 224)).1.cU.plain:=by unfold oF;rw[Yb]
  rw[e15,e11,(e12 []).1,e17,Yb];have hf:=Ba (ks:=c.1) (fl:=fl) (rm:=cR c) (b:=cO b (1024*(2+bK*c.2)) 224);have hb:=wB h2 (1024*(2+bK*c.2)) 224;have hm:cR c=1024*(c.2-2):=if_pos c1.1.1;clear Yb e11 e12 e14 e15 e17;generalize cO b (1024*(2+bK*c.2)) 224=x at*;generalize eI c.1 fl (cR c) x=y at*
  have hs:∀h:HH,y.2=0→oA h→h.n≤1024→u5 h (2+bK*c.2,c.2) y.1.cU.len f b er:=fun h h0 h5 h6=>by
   obtain⟨g1,g2,g3,g4,g5,g6,g7⟩:=hf h0;rw[g1];exact⟨h1,⟨by simp only;omega,by simp only;omega,by simp only;omega⟩,g5,by simp only;omega,h5,by simp only;omega⟩
  have ho:=jO (ub y.1.cU.ver y.1.cU.lP y.1.cU.len y.1.cU.list y.1.cU.plain) lO;have hn:=js (ub y.1.cU.ver y.1.cU.lP y.1.cU.len y.1.cU.list y.1.cU.plain) eX;have AU:eX.n=0:=rfl;refine⟨fun _=>⟨⟨hb,by simp only;omega,h3⟩,fun c3=>?_,fun c3=>?_⟩,fun h=>absurd rfl h⟩
  ·rw[if_neg (by simpa using c3)];obtain⟨g1,g2,g3,g4,g5,g6,g7⟩:=hf c3;have g7:uC y.1.cU:=(by rw[g1];exact g7);refine⟨hs _ c3 lO (by decide),fun _=>⟨fun c4=>?_,fun c4=>⟨g7,⟨lO,by omega⟩,hs _ c3 ho (by omega),fun _=>?_,fun h=>absurd rfl h⟩⟩,fun h=>absurd rfl h⟩
   ·simp only;rw[if_pos c4];exact(Ya _ _).symm
   ·simp only;rw[if_neg (by simpa using c4)];rfl
  ·rw[if_pos c3];exact(Ya _ _).symm
theorem Yc:aOO.Ok aA 42:=ay (bI DF (bI lE (bI JH (bI wG (bI TY (bI ag7 (bI pR bU))))))) func42 call42 (ks:=eU) (fun x_=>br (@atD x_.1 x_.2.1 x_.2.2.1))
def aGm(k:Int):Int:=if dz .u32 k 1=1 then dU .u32 (shr .u32 k 1) 3988292384 else shr .u32 k 1
def Gl:Nat→Int→Int
 |0,k=>k
 |n+1,k=>Gl n (aGm k)
abbrev QA:Type:=Int×Int
abbrev aAB:cl St QA:=(dy (jk 3 (bD (bO (bX u32)) (jk 3 (bD (bO (bX i64)) (jk 11 bG))))) bG).jr (fun y=>(y.1.1,y.1.2.1)) (fun x=>((x.1,(x.2,())),())) (fun _=>rfl)
abbrev aAC:List Wk:= [.fr (eH 19 [(3,.bV),(7,.bV)]),.cu,.bS,.ck]
abbrev aOP:Exit→List Wk:=ua aAC 0 [.fr (eH 19 [(3,.bV)]),.cu,.bS,.ck] [.fr (eH 19 [(2,.bV)]),.cu,.bS,.ck]
abbrev aOQ(x:sk):Exit×St:=(Exit.exit 0,⟨(gE 3 (LV.one (VV.sc (SV.int u32 (SI.sym x)))::(gE 15 []))),[]⟩)
def aiy(k x:Int):Tr (QA⊕(sk)):=.ite (decide (x<8)) (.ite (dz u32 k (1:Int)==1) (.ret (.inl (dU u32 (shr u32 k 1) 3988292384,i64.wrap (x+1)))) (.ret (.inl (shr u32 k 1,i64.wrap (x+1))))) (.ret (.inr k))
abbrev JK(k x:Int):Prop:=0≤x∧x≤8
abbrev aiz(k x:Int):sk:=Gl (8-x).toNat k
abbrev aAD:QA→cT:=gX (aB JK) (aB aiz) aOQ
theorem atG:aeU JK aiy aiz:=by
 intro k x h_;delta aiz;obtain⟨h1,h2⟩:=h_;obtain⟨j,hj⟩:∃j,(8-x).toNat=j:=⟨_,rfl⟩;rw[hj];induction j generalizing k x with
 |zero=>refine .stop ?_;have:¬x<8:=by omega
        simp[aiy,this,bY,bH,Gl]
 |succ j ih=>
  have c:x<8:=by omega
  refine .go ?_ (ih (aGm k) (x+1) (by omega) (by omega) (by omega));simp only[aiy,aGm,c,bF,cv,cA,cD,cz,bW,b9,cC,cy,cx,cZ,cQ,cd,cm,bH];try simp only[bY,bF,cv,cA,cD,cz,bW,b9,cC,cy,cx,cZ,cQ,cd,cm,bH]
  grind [bM]
theorem aiA(y_):∀x:QA,Ex aA (bG.wr y_) (.loop (cG f252 0)) (aAB.wr x) (aAD x):=ee bJ bU (ws:=aOP) (cn.nil _) (fun _=>by kernel_rfl) (fun z e=>by cases e) im (aQ @atG)
abbrev aOR(x:sk):LV:=LV.one (VV.sc (SV.int u32 (SI.sym x)))
def aAE(i:Int):Tr sk:=.need (JK (u32.wrap i) 0) (.ret (Gl 8 (u32.wrap i)))
abbrev JL(i:Int):Prop:=True
abbrev aiB(i:Int):sk:=Gl 8 (u32.wrap i)
def aOT:bT:=cj [] inA bG (q0∘q1 JL) (q0∘q1 aiB) aOR aEE
theorem atH:abY JL aAE aiB:=by
 intro i h_;delta aiB;simp only[aAE,bF,bH];exact⟨⟨by decide,by decide⟩,trivial⟩
theorem atI:aOT.Ok aA 252:=az bU func252 call252 (ks:=eU) aAB aAC aAD aiA (fun x_ _=>@atH x_.1)
def aiC(n:Int):Tr sk:=.ite (decide (n<0)==false) (.ite (decide (512<n)) (.ret (0)) (.ret (i64.wrap (16+i64.wrap (i64.wrap ((i64.wrap (i64.wrap (n+8)-1)).tdiv 8)*8))))) (.ret (0))
def lh(n:Int):Int:=if 0≤n∧n≤512 then 16+(n+7)/8*8 else 0
abbrev Ed(n:Int):Prop:=True
abbrev T0(n:Int):sk:=lh n
def aGp:bT:=cj [] inA bG (q0∘q1 Ed) (q0∘q1 T0) aED aEE
theorem aiD:abY Ed aiC T0:=by
 intro n h_;delta T0;have e:0≤n→n≤512→i64.wrap (i64.wrap (n+8)-1)=n+7:=fun h1 h2=>by rw[bM (n:=n+8) (by omega) (by omega),bM (by omega) (by omega)];omega
 have e2:0≤n→n≤512→i64.wrap (16+i64.wrap (i64.wrap ((i64.wrap (i64.wrap (n+8)-1)).tdiv 8)*8))=16+(n+7)/8*8:=fun h1 h2=>by
  rw[e h1 h2,Int.tdiv_eq_ediv_of_nonneg (by omega),bM (n:=(n+7)/8) (by omega) (by omega),bM (n:=(n+7)/8*8) (by omega) (by omega),bM (by omega) (by omega)]
 simp only[aiC,lh,bF,cv,cA,cD,cz,bW,b9,cC,cy,cx,cZ,cQ,cd,cm,bH];try simp only[bY,bF,cv,cA,cD,cz,bW,b9,cC,cy,cx,cZ,cQ,cd,cm,bH]
 grind [bM]
theorem aiE:aGp.Ok aA 204:=ay bU func204 call204 (ks:=eU) (fun x_ _=>@aiD x_.1)
def aGs(x:Int):Tr af4:=.ret ([IntKind.u8.wrap x,IntKind.u8.wrap (shr u32 x 8),IntKind.u8.wrap (shr u32 x 16),IntKind.u8.wrap (shr u32 x 24)])
def mg(x:Int):ab:= [IntKind.u8.wrap x,IntKind.u8.wrap (shr .u32 x 8),IntKind.u8.wrap (shr .u32 x 16),IntKind.u8.wrap (shr .u32 x 24)]
abbrev sK(x:Int):Prop:=True
abbrev T1(x:Int):af4:=mg x
def aGt:bT:=cj [] ((bD (bO (bX .u32)) bG)) bG (q0∘q1 sK) (q0∘q1 T1) aXT aXU
theorem aiF:abY sK aGs T1:=by
 intro x h_;delta T1;exact rfl
theorem QB:aGt.Ok aA 217:=ay bU func217 call217 (ks:= [.fr [.rd true u8],.fr [.sym],.cu,.bS,.ck]) (fun x_ _=>@aiF x_.1)
abbrev QC:Type:=Int×ab×ab
abbrev aAF:cl St QC:=(dy (bR (bO (cr (0) (0))) (bR (bO (cr (1) (0))) (jk 1 (bD (bO (bX i64)) (jk 8 bG))))) (bD (ob (305) ((bD (oa (Ty.int u32) (256)) bG))) (bD (ob (305) ((bD (oa (Ty.int u32) (256)) bG))) bG))).jr (fun y=>(y.1.1,y.2.1.1,y.2.2.1.1)) (fun x=>((x.1,()),((x.2.1,()),((x.2.2,()),())))) (fun _=>rfl)
abbrev aAG:List Wk:= [.fr (eH 12 [(0,.bV),(1,.bV),(3,.bV)]),.cu,.bS,.ck]
abbrev aOU:Exit→List Wk:=ua aAG 0 [.fr (eH 12 [(0,.bV),(1,.bV)]),.cu,.bS,.ck] [.fr (eH 12 [(0,.bV)]),.cu,.bS,.ck]
abbrev aiG:Type:=ab×ab
abbrev aOV(x:aiG):Exit×St:=(Exit.exit 0,⟨(LV.one (VV.sc (SV.ptr 0 0))::(LV.one (VV.sc (SV.ptr 1 0))::(gE 10 []))),[some (bE.cK [SV.arr (Ty.int u32) 256 x.1] 305),some (bE.cK [SV.arr (Ty.int u32) 256 x.2] 305)]⟩)
def aiH(i:Int)(z t:ab):Tr (QC⊕(aiG)):=.ite (decide (i<256)) (.need (JL i) (.need (0≤i∧i <256) (.ret (.inl (i64.wrap (i+1),z,t.set (0+i.toNat) (Gl 8 (u32.wrap i))))))) (.ret (.inr (z,t)))
theorem Ye:∃l:ab,l=(List.range 256).map fun i:Nat=>Gl 8 i:=⟨_,rfl⟩
def QD:ab:=Classical.choose Ye
theorem atJ:QD=(List.range 256).map fun i:Nat=>Gl 8 i:=Classical.choose_spec Ye
def Gm(n:Nat)(t:ab):ab:=(List.range 256).map fun i=>if i<n then Gl 8 i else t.getD i 0
theorem aiI{n:Nat}(h:n<256)(t:ab):(Gm n t).set n (Gl 8 n)=Gm (n+1) t:=by
 apply List.ext_getElem
 ·simp[Gm]
 intro i h1 h2;have h3:i<256:=by simpa [Gm]using h2
 simp only[Gm,List.getElem_set,List.getElem_map,List.getElem_range];by_cases c:n=i
 ·subst c;simp
 ·rw[if_neg c];by_cases c2:i<n
  ·rw[if_pos c2,if_pos (by omega)]
  ·rw[if_neg c2,if_neg (by omega)]
abbrev JO(i:Int)(z t:ab):Prop:=0≤i∧i≤256∧∃u,t=Gm i.toNat u
abbrev aiJ(i:Int)(z t:ab):aiG:=(z,QD)
abbrev aAH:QC→cT:=gX (aC JO) (aC aiJ) aOV
theorem atK:aeV JO aiH aiJ:=by
 intro i z t h_;delta aiJ;obtain⟨h1,h2,u,rfl⟩:=h_;obtain⟨k,rfl⟩:∃m:Nat,i=m:=⟨i.toNat,by omega⟩;obtain⟨j,hj⟩:∃j,256-k=j:=⟨_,rfl⟩;rw[Int.toNat_natCast];induction j generalizing k with
 |zero=>refine .stop ?_
        have c:¬ (k:Int)<256:=(by omega);have e:Gm k u=QD:=by
          rw[atJ];unfold Gm;apply List.map_congr_left;intro i hi;rw[if_pos (by have:=List.mem_range.1 hi;omega)]
        simp[aiH,c,bY,bH,e]
 |succ j ih=>
  have c:(k:Int)<256:=by omega
  refine .go ?_ (ih (k+1) (by omega) (by omega) (by omega));have e1:u32.wrap (k:Int)=k:=by rw[wrap_u32];omega
  have e2:=aiI (n:=k) (by omega) u;simp only[aiH,c,e1,Nat.zero_add,Int.toNat_natCast,e2,bF,cv,cA,cD,cz,bW,b9,cC,cy,cx,cZ,cQ,cd,cm,bH];try simp only[bY,bF,cv,cA,cD,cz,bW,b9,cC,cy,cx,cZ,cQ,cd,cm,bH]
  refine⟨fun _=>?_,fun h=>absurd trivial h⟩;rw[bM (by omega) (by omega)];exact⟨trivial,⟨by omega,trivial⟩,rfl⟩
theorem aiK(y_):∀x:QC,Ex aA (bG.wr y_) (.loop (cG f236 0)) (aAF.wr x) (aAH x):=ee bJ ((bI atI bU)) (ws:=aOU) (cn.nil _) (fun _=>by kernel_rfl) (fun z e=>by cases e) im (aR @atK)
abbrev aOW(x:af4):LV:=LV.one (VV.agg [SV.arr (Ty.int u32) 256 x])
def aAI:Tr af4:=.need (JO 0 (List.replicate 256 (0:Int)) (List.replicate 256 (0:Int))) (.ret QD)
abbrev JP:Prop:=True
abbrev aiL:af4:=QD
def aOY:bT:=cj [] bG bG (q0∘q0 JP) (q0∘q0 aiL) aOW aEL
theorem atL(h_:JP):(aAI).Is (aiL):=by
 delta aiL;simp only[aAI,bF,bH];refine⟨⟨by decide,by decide,List.replicate 256 0,?_⟩,trivial⟩;apply List.ext_getElem
 ·simp[Gm]
 ·intro i h1 h2;rw[List.getElem_replicate];simp only[Gm,List.getElem_map,List.getElem_range];rw[if_neg (by simp),List.getD_eq_getElem?_getD,List.getElem?_replicate];split<;>rfl
theorem Yg:aOY.Ok aA 236:=az bU func236 call236 (ks:=eU) aAF aAG aAH aiK (fun x_ y_ h=>atL h)
def aiM(t:ab)(x:Int)(b:ab):Int:=b.foldl (fun x c=>dU .u32 (shr .u32 x 8) ((t.take 256).getD (dU .u8 (IntKind.u8.wrap x) c).toNat 0)) x
theorem aGu(x y:Int):0≤dU .u8 x y∧dU .u8 x y<256:=by
 unfold dU;rw[IntKind.wrap_u8];omega
abbrev QE:Type:=Int×ab×Int×Int×ab
abbrev aAJ:cl St QE:=(dy (jk 3 (bR (bO (cr (0) (0))) (bD (bO (bX u32)) (jk 3 (bD (bO (gx false false ae)) (bD (bO (bX i64)) (bD (bO (bX i64)) (jk 15 bG)))))))) (bD (ob (305) ((bD (oa (Ty.int u32) (256)) bG))) bG)).jr (fun y=>(y.1.1,y.1.2.1,y.1.2.2.1,y.1.2.2.2.1,y.2.1.1)) (fun x=>((x.1,(x.2.1,(x.2.2.1,(x.2.2.2.1,())))),((x.2.2.2.2,()),()))) (fun _=>rfl)
abbrev aAK:List Wk:= [.fr (eH 26 [(3,.bV),(4,.bV),(8,.bV),(9,.bV),(10,.bV)]),.cu,.bS,.ck]
abbrev aOZ:Exit→List Wk:=ua aAK 0 [.fr (eH 26 [(4,.bV)]),.cu,.bS,.ck] [.fr (eH 26 [(2,.bV)]),.cu,.bS,.ck]
abbrev aO0(x:sk):Exit×St:=(Exit.exit 0,⟨(gE 4 (LV.one (VV.sc (SV.int u32 (SI.sym x)))::(gE 21 []))),[]⟩)
def aiO(x:Int)(b:ab)(n i:Int)(t:ab):Tr (QE⊕(sk)):=.ite (decide (i<n)) (.need (0≤i∧i <(↑b.length:Int)) (.need (0≤dU IntKind.u8 (IntKind.u8.wrap x) (b.getD i.toNat 0)∧dU IntKind.u8 (IntKind.u8.wrap x) (b.getD i.toNat 0)< 256) (.ret (.inl (dU u32 (shr u32 x 8) ((List.take 256 (List.drop 0 t)).getD (dU IntKind.u8 (IntKind.u8.wrap x) (b.getD i.toNat 0)).toNat 0),b,n,i64.wrap (i+1),t))))) (.ret (.inr x))
abbrev JQ(x:Int)(b:ab)(n i:Int)(t:ab):Prop:=0≤i∧i≤n∧n=b.length∧n<1099511627776
abbrev aiP(x:Int)(b:ab)(n i:Int)(t:ab):sk:=aiM t x (b.drop i.toNat)
abbrev aAL:QE→cT:=gX (aE JQ) (aE aiP) aO0
theorem atM:aeX JQ aiO aiP:=by
 intro x b n i t h_;delta aiP;obtain⟨h1,h2,rfl,h4⟩:=h_;obtain⟨k,rfl⟩:∃m:Nat,i=m:=⟨i.toNat,by omega⟩;obtain⟨j,hj⟩:∃j,b.length-k=j:=⟨_,rfl⟩;rw[Int.toNat_natCast];induction j generalizing k x with
 |zero=>
  refine .stop ?_;have c:¬ (k:Int)<b.length:=by omega
  rw[List.drop_of_length_le (by omega)];simp[aiO,c,bY,bH,aiM]
 |succ j ih=>
  have c:(k:Int)<b.length:=by omega
  have w:=ih (dU .u32 (shr .u32 x 8) ((t.take 256).getD (dU .u8 (IntKind.u8.wrap x) (b.getD k 0)).toNat 0)) (k+1) (by omega) (by omega) (by omega);rw[gU 0 (by omega),aiM,List.foldl_cons];refine .go ?_ w;have:=aGu (IntKind.u8.wrap x) (b.getD k 0);simp only[aiO,c,List.drop_zero,Int.toNat_natCast,bF,cv,cA,cD,cz,bW,b9,cC,cy,cx,cZ,cQ,cd,cm,bH];try simp only[bY,bF,cv,cA,cD,cz,bW,b9,cC,cy,cx,cZ,cQ,cd,cm,bH]
  grind [bM]
theorem aiQ(y_):∀x:QE,Ex aA (bG.wr y_) (.loop (cG f218 0)) (aAJ.wr x) (aAL x):=ee bJ ((bI Yg bU)) (ws:=aOZ) (cn.nil _) (fun _=>by kernel_rfl) (fun z e=>by cases e) im (aT @atM)
def aAM(b:ab):Tr sk:=.need JP (.need (JQ 4294967295 b (↑b.length:Int) 0 QD) (.ret (dU u32 4294967295 (aiM QD 4294967295 (List.drop 0 b)))))
def Gn(b:ab):Int:=dU .u32 4294967295 (aiM QD 4294967295 b)
abbrev JR(b:ab):Prop:=b.length<1099511627776
abbrev aiR(b:ab):sk:=Gn b
def aO3:bT:=cj [some u8] bA bG (q0∘q1 JR) (q0∘q1 aiR) aOR aEE
theorem atN:abY JR aAM aiR:=by
 intro b h_;delta aiR;have h:b.length<1099511627776:=h_;simp only[aAM,bF,bH,Gn];exact⟨trivial,⟨by omega,by omega,rfl,by omega⟩,rfl⟩
theorem Yi:aO3.Ok aA 218:=az (bI Yg bU) func218 call218 (ks:=eU) aAJ aAK aAL aiQ (fun x_ _=>@atN x_.1)
abbrev aYQ:cl (List SV) (ah):=(bD (bX .i64) (bD (bX .i64) (bD (gx false false u8) bG))).jr (fun x=>(x.1,x.2.1,x.2.2.1)) (fun y=>(y.1,y.2.1,y.2.2,())) (fun _=>rfl)
abbrev aYR:cl (List LV) (ah×Unit):=bD (jf aYQ) bG
abbrev QF:Type:=ab
abbrev aAN:cl St QF:=(dy (jk 4 (bR (bO (pk (0) (0))) (jk 60 bG))) (bD (dd (0) ae) bG)).jr (fun y=>(y.2.1)) (fun x=>((),(x,()))) (fun _=>rfl)
abbrev aAO:List Wk:= [.fr (eH 65 [(4,.bV)]),.cu,.bS,.ck]
abbrev aO4:Exit→List Wk:=ua aAO 0 [.fr (eH 65 [(4,.bV)]),.cu,.bS,.ck] [.fr (eH 65 [(2,.bV)]),.cu,.bS,.ck]
abbrev aO5(x:af4):Exit×St:=(Exit.exit 0,⟨(gE 4 (LV.one (VV.sc (SV.sl 0 0))::(gE 60 []))),[some (bE.own 0 ae x)]⟩)
def aiT(r:ab):Tr (QF⊕(af4)):=.ite ((↑r.length:Int).tmod (8:Int)!=0) (.need ((r.length+1)*1≤ 70368744177664∧r.length+1≤70368744177664) (.ret (.inl (r++ [0])))) (.ret (.inr r))
def o5(r:ab):ab:=r++List.replicate ((8-r.length%8)%8) 0
theorem QG(r:ab):(o5 r).length%8=0∧r.length≤(o5 r).length∧(o5 r).length≤r.length+7:=by
 unfold o5;rw[List.length_append,List.length_replicate];omega
abbrev JS(r:ab):Prop:=r.length+(8-r.length%8)%8<1099511627776
abbrev aiU(r:ab):af4:=o5 r
abbrev aAP:QF→cT:=gX JS aiU aO5
theorem atO:aeT JS aiT aiU:=by
 intro r h_;delta aiU;have h:r.length+(8-r.length%8)%8<1099511627776:=h_;obtain⟨j,hj⟩:∃j,(8-r.length%8)%8=j:=⟨_,rfl⟩;induction j generalizing r with
 |zero=>
  refine .stop ?_;have c:(r.length:Int).tmod 8=0:=by rw[Int.tmod_eq_emod_of_nonneg (by omega)];omega
  simp[aiT,c,bY,bH,o5,hj]
 |succ j ih=>
  have c:(r.length:Int).tmod 8≠0:=by rw[Int.tmod_eq_emod_of_nonneg (by omega)];omega
  have e:o5 (r++ [0])=o5 r:=by
   unfold o5;rw[List.length_append,List.length_singleton,hj,show(8-(r.length+1)%8)%8=j by omega,List.append_assoc];rfl
  have w:=ih (r++ [0]) (by show(r++ [0]).length+_<_;rw[List.length_append,List.length_singleton];omega) (by rw[List.length_append,List.length_singleton];omega) (by rw[List.length_append,List.length_singleton];omega);rw[e]at w;refine .go ?_ w;simp only[aiT,b9,bF,bH];exact⟨fun h=>absurd h c,fun _=>⟨by omega,trivial⟩⟩
theorem aiV(y_):∀x:QF,Ex aA (bG.wr y_) (.loop (cG f187 0)) (aAN.wr x) (aAP x):=ee bJ ((bI QB (bI Yi (bI uU bU)))) (ws:=aO4) (cn.nil _) (fun _=>by kernel_rfl) (fun z e=>by cases e) im (@atO)
def Ee(r:ah):Int:=(↑r.2.2.length:Int)
def jv(r:ah):ab:= [[IntKind.u8.wrap r.1,0,IntKind.u8.wrap (Ee r),IntKind.u8.wrap (shr i64 (Ee r) 8)],mg (u32.wrap r.2.1),r.2.2].flatten
def aAQ(r:ah):Tr af4:=.ite (decide (r.1<1)==false) (.ite (decide (250<r.1)==false) (.ite (decide (r.2.1<0)==false) (.ite (decide (4294967295<r.2.1)==false) (.ite (decide (512<Ee r)) (.ret ([])) (.need (sK (u32.wrap r.2.1)) (.need ((jv r).length≤70368744177664∧3≤140737488355328) (.need (JS (jv r)) (.need (JR (o5 (jv r))) (.need (sK (Gn (o5 (jv r)))) (.need (sK (dU u32 4294967295 (Gn (o5 (jv r))))) (.need ([o5 (jv r),mg (Gn (o5 (jv r))),mg (dU u32 4294967295 (Gn (o5 (jv r))))].flatten.length≤70368744177664∧3≤ 140737488355328) (.ret ([o5 (jv r),mg (Gn (o5 (jv r))),mg (dU u32 4294967295 (Gn (o5 (jv r))))].flatten)))))))))) (.ret ([]))) (.ret ([]))) (.ret ([]))) (.ret ([]))
def Ef(r:ah):ab:=o5 ([IntKind.u8.wrap r.1,0,IntKind.u8.wrap r.2.2.length,IntKind.u8.wrap (shr .i64 r.2.2.length 8)]++(mg (u32.wrap r.2.1)++r.2.2))
abbrev aiW(r:ah):Prop:=1≤r.1∧r.1≤250∧0≤r.2.1∧r.2.1≤4294967295∧r.2.2.length≤512
def fD(r:ah):ab:=if aiW r then Ef r++(mg (Gn (Ef r))++mg (dU .u32 4294967295 (Gn (Ef r))))else []
theorem adF{r:ah}(h:r.2.2.length≤512):(Ef r).length≤527∧8≤(Ef r).length:=by
 unfold Ef;have h1:=QG ([IntKind.u8.wrap r.1,0,IntKind.u8.wrap r.2.2.length,IntKind.u8.wrap (shr .i64 r.2.2.length 8)]++(mg (u32.wrap r.2.1)++r.2.2));have h2:([IntKind.u8.wrap r.1,0,IntKind.u8.wrap r.2.2.length,IntKind.u8.wrap (shr .i64 r.2.2.length 8)]++(mg (u32.wrap r.2.1)++r.2.2)).length=8+r.2.2.length:=by
  simp only[List.length_append,mg,List.length_cons,List.length_nil];omega
 omega
abbrev kH(r:ah):Prop:=True
abbrev aiX(r:ah):af4:=fD r
def aO8:bT:=cj [some u8] aYR bG (q0∘q1 kH) (q0∘q1 aiX) aEK aEL
theorem atQ:abY kH aAQ aiX:=by
 intro r h_;delta aiX;have e3:jv r= [IntKind.u8.wrap r.1,0,IntKind.u8.wrap r.2.2.length,IntKind.u8.wrap (shr .i64 r.2.2.length 8)]++(mg (u32.wrap r.2.1)++r.2.2):=by
  unfold jv Ee;simp
 have l3:(jv r).length=8+r.2.2.length:=by rw[e3];simp only[List.length_append,mg,List.length_cons,List.length_nil];omega
 have hp:=QG (jv r);have e2:Ee r=r.2.2.length:=rfl;have hb:o5 (jv r)=Ef r:=by rw[e3];rfl
 have l4:∀x,(mg x).length=4:=fun _=>rfl;simp only[aAQ,e2,hb,fD,cv,bW,bF,bH,List.flatten_cons,List.flatten_nil,List.append_nil];rw[hb]at hp;grind
theorem w9:aO8.Ok aA 187:=az (bI QB (bI Yi (bI uU bU))) func187 call187 (ks:= [.pN,.fr [.rd true u8],.fr [.sym],.cu,.bS,.ck]) aAN aAO aAP aiV (fun x_ _=>@atQ x_.1)
def u6(b:ab):Int:=i64.wrap (8+cV i64 (i64.wrap (b.getD 2 0)) (shl i64 (i64.wrap (b.getD 3 0)) 8))
def T2(b:ab):Int:=(↑b.length:Int)
def T3(b:ab):Int:=cV i64 (cV i64 (cV i64 (i64.wrap (b.getD 4 0)) (shl i64 (i64.wrap (b.getD 5 0)) 8)) (shl i64 (i64.wrap (b.getD 6 0)) 16)) (shl i64 (i64.wrap (b.getD 7 0)) 24)
def JT(b:ab):Int×Int×ab:=(i64.wrap (b.getD 0 0),T3 b,List.take (u6 b-8).toNat (List.drop 8 b))
abbrev Yk:Type:=Int×Int×ab×Int×Bool
abbrev aO9(x:Yk):LV:=LV.dB [VV.agg [ar x.1,ar x.2.1,SV.rd true false ae x.2.2.1],VV.sc (ar x.2.2.2.1),VV.sc (au x.2.2.2.2)]
abbrev aPa(x:Yk):List ao:= []
def aAR(b:ab):Tr Yk:=.ite (decide (T2 b<16)) (.ret (0,0,[],0,false)) (.need ((0:Int)≤2∧2< (↑b.length:Int)) (.need ((0:Int)≤3∧3<(↑b.length:Int)) (.need (Ed (cV i64 (i64.wrap (b.getD 2 0)) (shl i64 (i64.wrap (b.getD 3 0)) 8))) (.ite ((lh (cV i64 (i64.wrap (b.getD 2 0)) (shl i64 (i64.wrap (b.getD 3 0)) 8))==0)==false) (.ite (decide (T2 b<lh (cV i64 (i64.wrap (b.getD 2 0)) (shl i64 (i64.wrap (b.getD 3 0)) 8)))) (.ret (0,0,[],0,false)) (.need ((0:Int)≤4∧4<(↑b.length:Int)) (.need ((0:Int)≤5∧5<(↑b.length:Int)) (.need ((0:Int)≤6∧6<(↑b.length:Int)) (.need ((0:Int)≤7∧7<(↑b.length:Int)) (.need ((0:Int)≤0∧0<(↑b.length:Int)) (.need ((0:Int)≤8∧8≤u6 b∧u6 b≤(↑b.length:Int)) (.need ((List.take (u6 b-8).toNat (List.drop 8 b)).length≤70368744177664) (.need (kH (JT b)) (.need ((0:Int)≤0∧0≤lh (cV i64 (i64.wrap (b.getD 2 0)) (shl i64 (i64.wrap (b.getD 3 0)) 8))∧lh (cV i64 (i64.wrap (b.getD 2 0)) (shl i64 (i64.wrap (b.getD 3 0)) 8))≤(↑b.length:Int)) (.ite (!gP (fD (JT b)) (List.take (lh (cV i64 (i64.wrap (b.getD 2 0)) (shl i64 (i64.wrap (b.getD 3 0)) 8))-0).toNat (List.drop 0 b))) (.ret (0,0,[],0,false)) (.ret (i64.wrap (b.getD 0 0),T3 b,List.take (u6 b-8).toNat (List.drop 8 b),lh (cV i64 (i64.wrap (b.getD 2 0)) (shl i64 (i64.wrap (b.getD 3 0)) 8)),true))))))))))))) (.ret (0,0,[],0,false))))))
theorem aiY{b:Int}(k:Nat){m:Int}(hm:m=2 ^ k)(hk:k≤24)(h:By b)(hb:0≤b*m∧b*m≤4294967296):shl .i64 (i64.wrap b) (k:Nat)=b*m:=by
 unfold By at h;subst hm;rw[bM (by omega) (by omega)];have:=mU .i64 b k (by simp[IntKind.bits];omega);have e:((2 ^ k:Nat):Int)=(2:Int) ^ k:=by simp
 rw[this,e];exact bM (by omega) (by omega)
def rI(b:ab)(i:Nat):Int:=b.getD i 0+256*b.getD (i+1) 0
def aiZ(b:ab)(i:Nat):Int:=b.getD i 0+256*b.getD (i+1) 0+65536*b.getD (i+2) 0+16777216*b.getD (i+3) 0
theorem atS{b:ab}(h:bL b):cV .i64 (cV .i64 (cV .i64 (i64.wrap (b.getD 4 0)) (shl .i64 (i64.wrap (b.getD 5 0)) 8)) (shl .i64 (i64.wrap (b.getD 6 0)) 16)) (shl .i64 (i64.wrap (b.getD 7 0)) 24)=aiZ b 4:=by
 have h4:=h.getD 4;have h5:=h.getD 5;have h6:=h.getD 6;have h7:=h.getD 7;unfold aiZ;generalize b.getD 4 0=x4 at*;generalize b.getD 5 0=x5 at*;generalize b.getD 6 0=x6 at*;generalize b.getD 7 0=x7 at*;have e1:=aiY (b:=x5) 8 (m:=256) rfl (by decide) h5 (by unfold By at h5;omega);have e2:=aiY (b:=x6) 16 (m:=65536) rfl (by decide) h6 (by unfold By at h6;omega);have e3:=aiY (b:=x7) 24 (m:=16777216) rfl (by decide) h7 (by unfold By at h7;omega);rw[show((8:Nat):Int)=8 from rfl]at e1;rw[show((16:Nat):Int)=16 from rfl]at e2;rw[show((24:Nat):Int)=24 from rfl]at e3;rw[e1,e2,e3];unfold By at h4 h5 h6 h7;rw[bM (by omega) (by omega)];rw[nv .i64 x4,JG (m:=8) (x:=x5*256) (y:=x4) (by omega) (by omega) (by omega) (by omega) (by omega)];rw[nv .i64 (x5*256+x4),JG (m:=16) (x:=x6*65536) (y:=x5*256+x4) (by omega) (by omega) (by omega) (by omega) (by omega)];rw[nv .i64 (x6*65536+(x5*256+x4)),JG (m:=24) (x:=x7*16777216) (y:=x6*65536+(x5*256+x4)) (by omega) (by omega) (by omega) (by omega) (by omega)];show _=x4+256*x5+65536*x6+16777216*x7;omega
def QH(b:ab):Int×Int×ab:=(b.getD 0 0,aiZ b 4,(b.drop 8).take (rI b 2).toNat)
def eW(b:ab):ah×Int×Bool:=if 16≤b.length∧lh (rI b 2)≠0∧lh (rI b 2)≤b.length∧gP (fD (QH b)) (b.take (lh (rI b 2)).toNat)=true then(QH b,lh (rI b 2),true)else((0,0,[]),0,false)
abbrev Bc(b:ab):Prop:=bL b∧b.length<1099511627776
abbrev ai0(b:ab):Yk:=((eW b).1.1,(eW b).1.2.1,(eW b).1.2.2,(eW b).2.1,(eW b).2.2)
def aPb:bT:=cj [some u8] bA bG (q0∘q1 Bc) (q0∘q1 ai0) aO9 aPa
theorem atT:abY Bc aAR ai0:=by
 intro b h_;delta ai0;obtain⟨h1,h2⟩:=h_;have b2:=h1.getD 2;have b3:=h1.getD 3;have b0:=h1.getD 0;have t2:cV .i64 (i64.wrap (b.getD 2 0)) (shl .i64 (i64.wrap (b.getD 3 0)) 8)=rI b 2:=aGd b2 b3;have r2:0≤rI b 2∧rI b 2≤65535:=by show 0≤b.getD 2 0+256*b.getD 3 0∧b.getD 2 0+256*b.getD 3 0≤65535;unfold By at b2 b3;omega
 have w0:i64.wrap (b.getD 0 0)=b.getD 0 0:=by unfold By at b0;rw[bM (by omega) (by omega)]
 have e0:u6 b=8+rI b 2:=by unfold u6;rw[t2,bM (by omega) (by omega)]
 have e1:T2 b=b.length:=rfl;have e2:T3 b=aiZ b 4:=atS h1;have e3:(8+rI b 2-8).toNat=(rI b 2).toNat:=by congr 1;omega
 have e4:JT b=QH b:=by unfold JT QH;rw[e2,e0,w0,e3]
 simp only[aAR,t2,w0,e0,e1,e2,e3,e4,List.drop_zero,Int.sub_zero,bF,cv,bW,cZ,cm,bH,beq_iff_eq,beq_eq_false_iff_ne];have hl:(List.take (rI b 2).toNat (List.drop 8 b)).length≤b.length:=by rw[List.length_take,List.length_drop];omega
 have hs:lh (rI b 2)≠0→rI b 2+16≤lh (rI b 2):=fun h=>by
  unfold lh at h ⊢;split at h
  ·rename_i c;rw[if_pos c];omega
  ·exact absurd rfl h
 have hr:(eW b).1=QH b→((eW b).1.1,(eW b).1.2.1,(eW b).1.2.2,(eW b).2.1,(eW b).2.2)=(b.getD 0 0,aiZ b 4,List.take (rI b 2).toNat (List.drop 8 b),(eW b).2.1,(eW b).2.2):=fun h=>by rw[h];rfl
 unfold eW at*;generalize lh (rI b 2)=z at*;grind
theorem JU:aPb.Ok aA 168:=ay (bI aiE (bI jA (bI w9 (bI wJ bU)))) func168 call168 (ks:= [.pN,.fr [.rd true u8],.fr [.sym],.cu,.bS,.ck]) (fun x_ _=>@atT x_.1)
def aPc(x:Int):Tr IE:=.ret (x !=255)
abbrev T4(x:Int):Prop:=True
abbrev aGv(x:Int):IE:=decide (x≠255)
def aYU:bT:=cj [] ((bD (bO (bX .u8)) bG)) bG (q0∘q1 T4) (q0∘q1 aGv) aEH aEI
theorem aGw:abY T4 aPc aGv:=by
 intro x h_;delta aGv;simp only[aPc,bH];by_cases h:x=255<;>simp[h]
theorem ai1:aYU.Ok aA 206:=ay bU func206 call206 (ks:=eU) (fun x_ _=>@aGw x_.1)
abbrev bfA:cl (List LV) (ab×Unit):=bD (bO (gx false false u8)) (bR (bO (sFn 206)) bG)
def eS(b:ab):Bool:=b.all (· ==255)
def fixF:ab→Int
 | []=>0
 |x::l=>if x=255 then fixF l+1 else 0
theorem QI:∀l,0≤fixF l
 | []=>by simp[fixF]
 |x::l=>by have:=QI l;unfold fixF;split<;>omega
abbrev QJ:Type:=ab×Int×Int
abbrev aAS:cl St QJ:=(dy (bD (bO (gx false false ae)) (bR (bO (sFn (206))) (jk 5 (bD (bO (bX i64)) (bD (bO (bX i64)) (jk 10 bG)))))) bG).jr (fun y=>(y.1.1,y.1.2.1,y.1.2.2.1)) (fun x=>((x.1,(x.2.1,(x.2.2,()))),())) (fun _=>rfl)
abbrev aAT:List Wk:= [.fr (eH 19 [(0,.bV),(1,.bV),(7,.bV),(8,.bV)]),.cu,.bS,.ck]
abbrev aPd:Exit→List Wk:=ua aAT 0 [.fr (eH 19 []),.cu,.bS,.ck] [.fr (eH 19 [(4,.bV)]),.cu,.bS,.ck]
abbrev aGx(x:sk):Exit×St:=(Exit.ret,⟨(gE 4 (LV.one (VV.sc (SV.int i64 (SI.sym x)))::(gE 14 []))),[]⟩)
abbrev aGy(x:IK):Exit×St:=(Exit.exit 0,⟨(gE 19 []),[]⟩)
def Yl(b:ab)(n i:Int):Tr (QJ⊕(sk⊕IK)):=.ite (decide (i<n)) (.need (0≤i∧i<(↑b.length:Int)) (.need (T4 (b.getD i.toNat 0)) (.ite (decide ¬b.getD i.toNat (0:Int)=255) (.ret (.inr (.inl i))) (.ret (.inl (b,n,i64.wrap (i+1))))))) (.ret (.inr (.inr ())))
abbrev JV(b:ab)(n i:Int):Prop:=0≤i∧i≤n∧n=b.length∧n<1099511627776
abbrev ai2(b:ab)(n i:Int):Bool:= !eS (b.drop i.toNat)
abbrev ai3(b:ab)(n i:Int):sk:=i+fixF (b.drop i.toNat)
abbrev ai4(b:ab)(n i:Int):IK:=()
abbrev aAU:QJ→cT:=oU (aC JV) (aC ai2) (aC ai3) (aC ai4) aGx aGy
theorem atV(b:ab)(n i:Int)(h_:JV b n i):eG (fun x_:QJ=>Yl x_.1 x_.2.1 x_.2.2) (b,n,i) (bif ai2 b n i then .inl (ai3 b n i)else .inr (ai4 b n i)):=by
 delta ai2 ai3 ai4;obtain⟨h1,h2,rfl,h4⟩:=h_;obtain⟨k,rfl⟩:∃m:Nat,i=m:=⟨i.toNat,by omega⟩;obtain⟨j,hj⟩:∃j,b.length-k=j:=⟨_,rfl⟩;rw[Int.toNat_natCast];induction j generalizing k with
 |zero=>
  refine .stop ?_;have c:¬ (k:Int)<b.length:=by omega
  rw[List.drop_of_length_le (by omega)];simp[Yl,c,bY,bH,eS]
 |succ j ih=>
  have c:(k:Int)<b.length:=by omega
  rw[gU 0 (by omega)];by_cases c2:b.getD k 0=255
  ·have w:=ih (k+1) (by omega) (by omega) (by omega);have e1:eS (b.getD k 0::b.drop (k+1))=eS (b.drop (k+1)):=(by unfold eS;rw[List.all_cons,c2];rfl);have e2:(k:Int)+fixF (b.getD k 0::b.drop (k+1))=((k+1:Nat):Int)+fixF (b.drop (k+1)):=(by rw[fixF,if_pos c2];omega);rw[e1,e2];refine .go ?_ w;simp only[Yl,c,Int.toNat_natCast,c2,bF,cv,cA,cD,cz,bW,b9,cC,cy,cx,cZ,cQ,cd,cm,bH];try simp only[bY,bF,cv,cA,cD,cz,bW,b9,cC,cy,cx,cZ,cQ,cd,cm,bH]
   grind [bM]
  ·refine .stop ?_;have e1:eS (b.getD k 0::b.drop (k+1))=false:=(by unfold eS;rw[List.all_cons,beq_eq_false_iff_ne.2 c2];rfl);have e2:fixF (b.getD k 0::b.drop (k+1))=0:=(by rw[fixF,if_neg c2]);rw[e1,e2];simp only[Yl,c,Int.toNat_natCast,c2,bF,cv,cA,cD,cz,bW,b9,cC,cy,cx,cZ,cQ,cd,cm,bH];try simp only[bY,bF,cv,cA,cD,cz,bW,b9,cC,cy,cx,cZ,cQ,cd,cm,bH]
   grind
theorem ai5(y_):∀x:QJ,Ex aA (bG.wr y_) (.loop (cG f232 0)) (aAS.wr x) (aAU x):=ee bJ ((bI ai1 bU)) (ws:=aPd) (cn.nil _) (fun _=>by kernel_rfl) (fun z=>by cases z<;>(intro e;cases e)) qw (aR @atV)
def aPe(b:ab):Tr sk:=.need (JV b (↑b.length:Int) 0) (.ite (!eS (List.drop 0 b)) (.ret (0+fixF (List.drop 0 b))) (.ret ((-1))))
abbrev T7(b:ab):Prop:=b.length<1099511627776
abbrev aGz(b:ab):sk:=if eS b=true then-1 else fixF b
def aYX:bT:=cj [some u8,none] bfA bG (q0∘q1 T7) (q0∘q1 aGz) aED aEE
theorem aGA:abY T7 aPe aGz:=by
 intro b h_;delta aGz;have h:b.length<1099511627776:=h_;simp only[aPe,List.drop_zero,Int.toNat_zero,bF,cv,cA,cD,cz,bW,b9,cC,cy,cx,cZ,cQ,cd,cm,bH];try simp only[bY,bF,cv,cA,cD,cz,bW,b9,cC,cy,cx,cZ,cQ,cd,cm,bH]
 grind
theorem aGB:aYX.Ok aA 232:=az (bI ai1 bU) func232 call232 (ks:=eU) aAS aAT aAU ai5 (fun x_ _=>@aGA x_.1)
def aPf(b:ab):Tr IE:=.need (T7 b) (.ret (decide (0≤if eS b=true then(-1:sk)else fixF b)))
abbrev T8(b:ab):Prop:=b.length<1099511627776
abbrev aGC(b:ab):IE:= !eS b
def aY0:bT:=cj [some u8,none] bfA bG (q0∘q1 T8) (q0∘q1 aGC) aEH aEI
theorem aGD:abY T8 aPf aGC:=by
 intro b h_;delta aGC;have h:b.length<1099511627776:=h_;have:=QI b;simp only[aPf,bF,cv,cA,cD,cz,bW,b9,cC,cy,cx,cZ,cQ,cd,cm,bH];try simp only[bY,bF,cv,cA,cD,cz,bW,b9,cC,cy,cx,cZ,cQ,cd,cm,bH]
 grind
theorem aGE:aY0.Ok aA 205:=ay (bI aGB bU) func205 call205 (ks:=eU) (fun x_ _=>@aGD x_.1)
def aPg(b:ab):Tr IE:=.need (T8 b) (.ret (!!eS b))
abbrev JW(b:ab):Prop:=b.length<1099511627776
abbrev aGF(b:ab):IE:=eS b
def aY3:bT:=cj [some u8] bA bG (q0∘q1 JW) (q0∘q1 aGF) aEH aEI
theorem aGG:abY JW aPg aGF:=by
 intro b h_;delta aGF;simp only[aPg,Bool.not_not,bF,cv,cA,cD,cz,bW,b9,cC,cy,cx,cZ,cQ,cd,cm,bH];try simp only[bY,bF,cv,cA,cD,cz,bW,b9,cC,cy,cx,cZ,cQ,cd,cm,bH]
 exact⟨h_,trivial⟩
theorem T9:aY3.Ok aA 169:=ay (bI aGE bU) func169 call169 (ks:=eU) (fun x_ _=>@aGG x_.1)
def aPh(b:ab):Tr sk:=.need (Bc b) (.ite ((!(eW b).2.2)==false) (.ite (((eW b).1.1 !=1)==false) (.ite (decide (0<(↑(eW b).1.2.2.length:Int))) (.ret (0)) (.ret ((eW b).1.2.1))) (.ret (0))) (.ret (0)))
def zx(b:ab):Int:=if(eW b).2.2=true∧(eW b).1.1=1∧(eW b).1.2.2= []then(eW b).1.2.1 else 0
abbrev u7(b:ab):Prop:=bL b∧b.length<1099511627776
abbrev aGH(b:ab):sk:=zx b
def aY6:bT:=cj [some u8] bA bG (q0∘q1 u7) (q0∘q1 aGH) aED aEE
theorem aGI:abY u7 aPh aGH:=by
 intro b h_;delta aGH;have h:bL b∧b.length<1099511627776:=h_;have e:(eW b).1.2.2= []↔(eW b).1.2.2.length=0:=List.length_eq_zero_iff.symm;simp only[aPh,zx,bF,cv,cA,cD,cz,bW,b9,cC,cy,cx,cZ,cQ,cd,cm,bH];try simp only[bY,bF,cv,cA,cD,cz,bW,b9,cC,cy,cx,cZ,cQ,cd,cm,bH]
 refine⟨h,?_⟩;generalize eW b=x at*;grind
theorem aGJ:aY6.Ok aA 131:=ay (bI JU bU) func131 call131 (ks:=eU) (fun x_ _=>@aGI x_.1)
theorem oG{b:ab}(h:(eW b).2.2=true):16≤(eW b).2.1∧(eW b).2.1≤b.length∧(eW b).1=QH b∧(eW b).2.1=lh (rI b 2):=by
 unfold eW at h ⊢;split at h
 ·rename_i c;rw[if_pos c];refine⟨?_,c.2.2.1,rfl,rfl⟩;have:=c.2.1;unfold lh at this ⊢;split at this
  ·rename_i c2;simp only[if_pos c2];omega
  ·exact absurd rfl this
 ·cases h
def dP:Nat→ab→List ah×Int
 |0,_=>([],0)
 |n+1,b=>if(eW b).2.2=true∧(eW b).1.1≠1 then((eW b).1::(dP n (b.drop (eW b).2.1.toNat)).1,(eW b).2.1+(dP n (b.drop (eW b).2.1.toNat)).2)else([],0)
theorem Eg:∀ (n m:Nat) (b:ab),b.length≤16*n→b.length≤16*m→dP n b=dP m b
 |0,0,_,_,_=>rfl
 |0,m+1,b,h,_=>by
  rw[dP,dP,if_neg];rintro⟨h1,_⟩;have:=oG h1;omega
 |n+1,0,b,_,h=>by
  rw[dP,dP,if_neg];rintro⟨h1,_⟩;have:=oG h1;omega
 |n+1,m+1,b,h1,h2=>by
  rw[dP,dP];by_cases c:(eW b).2.2=true∧(eW b).1.1≠1
  ·have:=oG c.1;have hl:(b.drop (eW b).2.1.toNat).length=b.length-(eW b).2.1.toNat:=List.length_drop;rw[if_pos c,if_pos c,Eg n m _ (by omega) (by omega)]
  ·rw[if_neg c,if_neg c]
theorem pY:∀ (n:Nat) (b:ab),0≤(dP n b).2∧(dP n b).2≤b.length∧16*((dP n b).1.length:Int)≤(dP n b).2
 |0,b=>⟨Int.le_refl _,by simp[dP],by simp[dP]⟩
 |n+1,b=>by
  rw[dP];split
  ·rename_i c;have h1:=oG c.1;have h2:=pY n (b.drop (eW b).2.1.toNat);have hl:(b.drop (eW b).2.1.toNat).length=b.length-(eW b).2.1.toNat:=List.length_drop;rw[hl]at h2;refine⟨by simp only;omega,by simp only;omega,?_⟩;simp only[List.length_cons];omega
  ·exact⟨Int.le_refl _,by simp,by simp⟩
abbrev cH:Ty:=.pair (.int .i64) (.pair (.int .i64) (.sl u8))
abbrev aGK(k:Nat):cl (List SV) Fl:=(bR (pk k 0) (bR (pk (k+1) 0) (bD (bX .i64) (bD ou (bD ou (bD (bX .i64) (bD (gx true false u8) bG))))))).jr (fun x=>((x.1,x.2.2.2.2.1),x.2.1,x.2.2.1,x.2.2.2.1)) (fun y=>(y.1.1,y.2.1,y.2.2.1,y.2.2.2,y.1.2,())) (fun _=>rfl)
abbrev dA:cl bE Fl:=fe 90 (aGK 2)
abbrev qI:cl bE Fl:=fe 90 (aGK 3)
abbrev Jn:Type:=an
abbrev zy(p:Nat)(l:cl SV Unit):cl (List SV) Jn:=(bR (cr p 0) (bD (bX .i64) (bD (bX .i64) (bR l (bD (bX .i64) (bD (bX .i64) (bD (bX .i64) (bD ou (bD (bX .i64) bG))))))))).jr (fun x=>((x.1,x.2.1),x.2.2.1,x.2.2.2.1,x.2.2.2.2.1,x.2.2.2.2.2.1,x.2.2.2.2.2.2.1)) (fun y=>(y.1.1,y.1.2,y.2.1,y.2.2.1,y.2.2.2.1,y.2.2.2.2.1,y.2.2.2.2.2,())) (fun _=>rfl)
abbrev aGL(l:cl SV Unit):cl (List SV) Jn:=zy 1 l
abbrev aY7:cl bE Jn:=fe 206 (aGL aEr)
abbrev adG:cl bE Jn:=fe 206 (aGL (pk 4 0))
abbrev aPi:cl bE Jn:=fe 206 (aGL (pk 4 1))
abbrev aGM:cl Hp (Jn×Fl×ab×ab×Unit):=bD (cb aY7) (bD (cb dA) (bD (dd 0 u8) (bD (dd 0 (.int .i64)) bG)))
abbrev QK:Type:=ab×an×ai×ab×ab×(List ah)
abbrev aAV:cl St QK:=(dy (bR (bO (cr (0) (0))) (bD (bO (gx false false ae)) (jk 55 bG))) (bD (cb adG) (bD (cb dA) (bD (dd (0) ae) (bD (dd (0) ag) (bD (dd (0) (ag.pair (ag.pair ae.sl))) bG)))))).jr (fun y=>(y.1.1,y.2.1,y.2.2.1,y.2.2.2.1,y.2.2.2.2.1,y.2.2.2.2.2.1)) (fun x=>((x.1,()),(x.2.1,(x.2.2.1,(x.2.2.2.1,(x.2.2.2.2.1,(x.2.2.2.2.2,()))))))) (fun _=>rfl)
abbrev aAW:List Wk:= [.l9 0 3 cH,.fr (eH 57 [(0,.bV),(1,.bV)]),.cu,.bS,.ck]
abbrev aPj:Exit→List Wk:=ua aAW 0 [.l9 0 3 cH,.fr (eH 57 [(0,.bV),(1,.bV)]),.cu,.bS,.ck] [.l9 0 3 cH,.fr (eH 57 []),.cu,.bS,.ck]
def u9(s:ab)(j:an):ab:=List.take ((↑s.length:Int)-j.2.2.2.1).toNat (List.drop j.2.2.2.1.toNat s)
abbrev ai7:Type:=ab×an×ai×ab×ab×(List ah)
abbrev aPk(x:ai7):Exit×St:=(Exit.exit 0,⟨(LV.one (VV.sc (SV.ptr 0 0))::(LV.one (VV.sc (SV.rd false false ae x.1))::(gE 55 []))),[some (adG.wr x.2.1),some (dA.wr x.2.2.1),some (bE.own 0 ae x.2.2.2.1),some (bE.own 0 ag x.2.2.2.2.1),some (bE.own 0 (ag.pair (ag.pair ae.sl)) x.2.2.2.2.2)]⟩)
def Ym(s:ab)(j:an)(f:ai)(b er:ab) (l:List ah):Tr (QK⊕(ai7)):=.need (0≤j.2.2.2.1∧j.2.2.2.1≤(↑s.length:Int)∧(↑s.length:Int)≤(↑s.length:Int)) (.need (Bc (u9 s j)) (.ite ((!(eW (u9 s j)).2.2)==false) (.ite ((eW (u9 s j)).1.1==1) (.ret (.inr (s,j,f,b,er,l))) (.need ((l.length+1)*40≤70368744177664∧l.length+1≤70368744177664) (.ret (.inl (s,(j.1,j.2.1,j.2.2.1,i64.wrap (j.2.2.2.1+(eW (u9 s j)).2.1),j.2.2.2.2),f,b,er,l++ [(eW (u9 s j)).1]))))) (.ret (.inr (s,j,f,b,er,l)))))
abbrev JX(s:ab)(j:an)(f:ai)(b er:ab)(l:List ah):Prop:=bL s∧s.length≤1024∧0≤j.2.2.2.1∧j.2.2.2.1≤s.length∧l.length≤j.2.2.2.1
abbrev ai8(s:ab)(j:an)(f:ai)(b er:ab)(l:List ah):ai7:=(s,(j.1,j.2.1,j.2.2.1,j.2.2.2.1+(dP s.length (s.drop j.2.2.2.1.toNat)).2,j.2.2.2.2),f,b,er,l++(dP s.length (s.drop j.2.2.2.1.toNat)).1)
abbrev aAX:QK→cT:=gX (aF JX) (aF ai8) aPk
theorem atZ(s:ab)(j:an)(f:ai)(b er:ab)(l:List ah)(h_:JX s j f b er l):eG (fun x_:QK=>Ym x_.1 x_.2.1 x_.2.2.1 x_.2.2.2.1 x_.2.2.2.2.1 x_.2.2.2.2.2) (s,j,f,b,er,l) (ai8 s j f b er l):=by
 delta ai8;obtain⟨h1,h2,h3,h4,h5⟩:=h_;obtain⟨r,ep,cur,u,z⟩:=j;simp only at h3 h4 h5 ⊢;obtain⟨n,hn⟩:∃n:Nat,(s.drop u.toNat).length≤16*n:=⟨(s.drop u.toNat).length,by omega⟩;have hd:∀x:Int,(s.drop x.toNat).length=s.length-x.toNat:=fun x=>List.length_drop;rw[Eg s.length n _ (by rw[hd];omega) hn]
 have e0:∀x:Int,0≤x→u9 s (r,ep,cur,x,z)=s.drop x.toNat:=fun x hx=>by
  unfold u9;exact List.take_of_length_le (by rw[List.length_drop];simp only;omega)
 induction n generalizing u l with
 |zero=>
  have hk:¬ (eW (s.drop u.toNat)).2.2=true:=fun h=>by have:=oG h;omega
  refine .stop ?_;simp only[Ym,e0 u h3,bF,bY,bH];have h6:=hd u;simp[hk,dP];exact⟨by omega,h1.drop _,by omega⟩
 |succ n ih=>
  have h6:=hd u;by_cases c:(eW (s.drop u.toNat)).2.2=true∧(eW (s.drop u.toNat)).1.1≠1
  ·have hk:=oG c.1;have h7:=hd (u+(eW (s.drop u.toNat)).2.1);have w:=ih (l++ [(eW (s.drop u.toNat)).1]) (u+(eW (s.drop u.toNat)).2.1) (by omega) (by omega) (by rw[List.length_append,List.length_singleton];omega) (by omega);rw[dP,if_pos c,List.drop_drop,show u.toNat+(eW (s.drop u.toNat)).2.1.toNat=(u+(eW (s.drop u.toNat)).2.1).toNat by omega];rw[List.append_assoc,List.singleton_append,Int.add_assoc]at w;refine .go ?_ w;simp only[Ym,e0 u h3,bF,bY,bH];have hw:i64.wrap (u+(eW (s.drop u.toNat)).2.1)=u+(eW (s.drop u.toNat)).2.1:=bM (by omega) (by omega);simp[c.1,c.2,hw];exact⟨by omega,⟨h1.drop _,by omega⟩,by omega⟩
  ·refine .stop ?_;rw[dP,if_neg c];simp only[Ym,e0 u h3,bF,bY,bH];refine⟨by omega,⟨h1.drop _,by omega⟩,?_⟩;simp;grind
theorem ai9(y_):∀x:QK,Ex aA (aGM.wr y_) (.loop (cG f132 0)) (aAV.wr x) (aAX x):=ee bJ ((bI JU (bI T9 bU))) (ws:=aPj) (cn.nil _) (fun _=>by kernel_rfl) (fun z e=>by cases e) im (aU @atZ)
def QL(s:ab):ab:=List.take ((↑s.length:Int)-(16+(dP s.length (List.drop 16 s)).2)).toNat (List.drop (16+(dP s.length (List.drop 16 s)).2).toNat s)
abbrev at0:Type:=(an)×(List ah)
abbrev aY8(x:at0):LV:=LV.dB []
abbrev aY9(x:at0):List ao:= [(0,adG.wr x.1),(4,bE.own 0 (ag.pair (ag.pair ae.sl)) x.2)]
def aPl(s:ab)(j:an)(f:ai)(b er:ab):Tr at0:=.need (JX s (j.1,j.2.1,j.2.2.1,16,j.2.2.2.2) f b er []) (.need ((0:Int)≤16+(dP s.length (List.drop 16 s)).2∧16+(dP s.length (List.drop 16 s)).2≤(↑s.length:Int)∧(↑s.length:Int)≤(↑s.length:Int)) (.need (JW (QL s)) (.ret ((j.1,j.2.1,j.2.2.1,16+(dP s.length (List.drop 16 s)).2,!eS (QL s),j.2.2.2.2.2),[]++(dP s.length (List.drop 16 s)).1))))
def aGN(s:ab)(j:Jn):Jn:=(j.1,j.2.1,j.2.2.1,16+(dP s.length (s.drop 16)).2,!eS (s.drop (16+(dP s.length (s.drop 16)).2).toNat),j.2.2.2.2.2)
abbrev vf(s:ab)(j:Jn)(f:Fl)(b er:ab):Prop:=bL s∧s.length=1024
abbrev aGO(s:ab)(j:Jn)(f:Fl)(b er:ab):at0:=(aGN s j,(dP s.length (s.drop 16)).1)
def aZa:bT:=cj [none,some u8] ((bR (bO (cr 0 0)) (bD (bO (gx false false u8)) bG))) aGM (q4∘q1 vf) (q4∘q1 aGO) aY8 aY9
theorem aGP:acf vf aPl aGO:=by
 intro s j f b er h_;delta aGO;obtain⟨h1,h2⟩:=h_;have hp:=pY s.length (s.drop 16);rw[List.length_drop]at hp;have e0:QL s=s.drop (16+(dP s.length (s.drop 16)).2).toNat:=by
  unfold QL;exact List.take_of_length_le (by rw[List.length_drop];omega)
 have hb:(QL s).length≤1024:=by rw[e0,List.length_drop];omega
 simp only[aPl,bF,bH,List.nil_append,aGN,e0];rw[e0]at hb;refine⟨⟨h1,by omega,by simp only;omega,by simp only;omega,by simp only[List.length_nil];omega⟩,by omega,?_,trivial⟩;show(_:Nat)<_;omega
theorem aGQ:aZa.Ok aA 132:=az (bI JU (bI T9 bU)) func132 call132 (ks:=eU) aAV aAW aAX ai9 (fun x_=>bw (@aGP x_.1))
abbrev aZb:cl bE Jn:=fe 206 (zy 0 (pk 4 0))
def sL(f:ai):(Int×ab)×Bool×Bool×Int:=f
def kI(r:Int×Int)(f:ai)(b er:ab):ab×Int:=if f.2.1=true then([],5)else if(0:Int)≤0∧(0:Int)≤1024∧(1024:Int)≤1024*r.2 then(cO b (1024*r.1+0) 1024,0)else([],2)
def gu(r:Int×Int)(f:ai)(b er:ab):ab×Int:=if f.2.1=true then([],5)else if(0:Int)≤1024∧(0:Int)≤1024∧(2048:Int)≤1024*r.2 then(cO b (1024*r.1+1024) 1024,0)else([],2)
abbrev aPm(x:IK):LV:=LV.dB [VV.sc (SV.gm (Value.pointer none)),VV.sc (SV.int i64 (SI.lit 1))]
abbrev aPo(x:sk):LV:=LV.dB [VV.sc (SV.gm (Value.pointer none)),VV.sc (ar x)]
abbrev aPq(x:at0):LV:=LV.dB [VV.sc (SV.ptr 3 0),VV.sc (SV.int i64 (SI.lit 0))]
abbrev aPr(x:at0):List ao:= [(3,aZb.wr x.1),(4,bE.own 0 (ag.pair (ag.pair ae.sl)) x.2)]
def at1(r:Int×Int)(f:ai)(b er:ab):Tr (IK⊕sk⊕at0):=.need (ga r (sL f) b er) (.ite (1024*r.2 !=2048) (.ret (.inl ())) (.need (fO r 0 1024 (sL f) b er) (.ite ((kI r f b er).2 !=0) (.ret (.inr (.inl ((kI r f b er).2)))) (.need (u7 (kI r f b er).1) (.ite (decide (0<zx (kI r f b er).1)) (.need (fO r 1024 1024 (sL f) b er) (.ite ((gu r f b er).2 !=0) (.ret (.inr (.inl ((gu r f b er).2)))) (.need (u7 (gu r f b er).1) (.ite (decide (zx (kI r f b er).1<zx (gu r f b er).1)) (.need (vf (gu r f b er).1 (r,zx (gu r f b er).1,1,0,false,0) (sL f) b er) (.ret (.inr (.inr ((r,zx (gu r f b er).1,1,16+(dP (gu r f b er).1.length (List.drop 16 (gu r f b er).1)).2,!eS (List.drop (16+(dP (gu r f b er).1.length (List.drop 16 (gu r f b er).1)).2).toNat (gu r f b er).1),0),(dP (gu r f b er).1.length (List.drop 16 (gu r f b er).1)).1))))) (.need (vf (kI r f b er).1 (r,zx (kI r f b er).1,0,0,false,0) (sL f) b er) (.ret (.inr (.inr ((r,zx (kI r f b er).1,0,16+(dP (kI r f b er).1.length (List.drop 16 (kI r f b er).1)).2,!eS (List.drop (16+(dP (kI r f b er).1.length (List.drop 16 (kI r f b er).1)).2).toNat (kI r f b er).1),0),(dP (kI r f b er).1.length (List.drop 16 (kI r f b er).1)).1))))))))) (.need (fO r 1024 1024 (sL f) b er) (.ite ((gu r f b er).2 !=0) (.ret (.inr (.inl ((gu r f b er).2)))) (.need (u7 (gu r f b er).1) (.ite (decide (0<zx (gu r f b er).1)) (.need (vf (gu r f b er).1 (r,zx (gu r f b er).1,1,0,false,0) (sL f) b er) (.ret (.inr (.inr ((r,zx (gu r f b er).1,1,16+(dP (gu r f b er).1.length (List.drop 16 (gu r f b er).1)).2,!eS (List.drop (16+(dP (gu r f b er).1.length (List.drop 16 (gu r f b er).1)).2).toNat (gu r f b er).1),0),(dP (gu r f b er).1.length (List.drop 16 (gu r f b er).1)).1))))) (.ret (.inr (.inr ((r,0,(-1),0,false,0),[])))))))))))))
abbrev ff(b:ab)(r:Int×Int)(s:Int):ab:=cO b (1024*r.1+1024*s) 1024
def pZ(s0 s1:ab):Int×Int:=if 0<zx s0 then(if zx s0<zx s1 then(1,zx s1)else(0,zx s0))else if 0<zx s1 then(1,zx s1)else(-1,0)
def eO(b:ab)(r:Int×Int):Jn×List cH.D:=if(pZ (ff b r 0) (ff b r 1)).1= -1 then((r,0,-1,0,false,0),[]) else(aGN (ff b r (pZ (ff b r 0) (ff b r 1)).1) (r,(pZ (ff b r 0) (ff b r 1)).2,(pZ (ff b r 0) (ff b r 1)).1,0,false,0),(dP (ff b r (pZ (ff b r 0) (ff b r 1)).1).length ((ff b r (pZ (ff b r 0) (ff b r 1)).1).drop 16)).1)
abbrev zz(r:Int×Int)(f:Fl)(b er:ab):Prop:=dE b er∧bL b∧iO r er
abbrev aja(r:Int×Int)(f:Fl)(b er:ab):Bool:=decide (r.2≠2)
abbrev aGR(r:Int×Int)(f:Fl)(b er:ab):IK:=()
abbrev at3(r:Int×Int)(f:Fl)(b er:ab):Bool:=f.2.1
abbrev aGS(r:Int×Int)(f:Fl)(b er:ab):sk:=5
abbrev aGT(r:Int×Int)(f:Fl)(b er:ab):at0:=eO b r
def aZc:bT:=Xp [] rgA ow (q3∘q1 zz) (q3∘q1 aja) (q3∘q1 aGR) (q3∘q1 at3) (q3∘q1 aGS) (q3∘q1 aGT) aPm aEQ aPo aEE aPq aPr
theorem aGU(r:Int×Int)(f:Fl)(b er:ab)(h_:zz r f b er):(aja r f b er=true→(at1 r f b er).Is (.inl (aGR r f b er)))∧(aja r f b er=false→at3 r f b er=true→(at1 r f b er).Is (.inr (.inl (aGS r f b er))))∧(aja r f b er=false→at3 r f b er=false→(at1 r f b er).Is (.inr (.inr (aGT r f b er)))):=by
 delta aja aGR at3 aGS aGT;obtain⟨h1,h2,h3⟩:=h_;have hs:ga r (sL f) b er:=⟨by omega,by omega⟩;have hr:∀x y,fO r x y (sL f) b er:=fun _ _=>⟨h1,h3⟩;simp only[at1,bF,b9,bW,bH]
 refine⟨fun c=>⟨hs,fun e=>absurd e (by have:r.2≠2:=by simpa using c
                                       omega),fun _=>trivial⟩,fun c c2=>?_,fun c c2=>?_⟩
 all_goals have c':r.2=2:=by simpa using c
 all_goals refine⟨hs,fun _=>?_,fun h=>absurd (by omega) h⟩
 ·have e8:kI r f b er=([],5):=by unfold kI;rw[if_pos c2]
  rw[e8];exact⟨hr _ _,fun h=>by simp at h,fun _=>rfl⟩
 ·have e8:kI r f b er=(ff b r 0,0):=by unfold kI;rw[if_neg (by rw[c2];decide),if_pos (by omega)];rfl
  have e9:gu r f b er=(ff b r 1,0):=by unfold gu;rw[if_neg (by rw[c2];decide),if_pos (by omega)];rfl
  have l0:(ff b r 0).length=1024:=by have:=gg (b:=b) (p:=1024*r.1+1024*0) (m:=1024) (by omega);show(cO _ _ _).length=_;omega
  have l1:(ff b r 1).length=1024:=by have:=gg (b:=b) (p:=1024*r.1+1024*1) (m:=1024) (by omega);show(cO _ _ _).length=_;omega
  have a0:=wB h2 (1024*r.1+1024*0) 1024;have a1:=wB h2 (1024*r.1+1024*1) 1024;have q0:u7 (ff b r 0):=⟨a0,by show(_:Nat)<_;omega⟩;have q1:u7 (ff b r 1):=⟨a1,by show(_:Nat)<_;omega⟩;have d0:∀j,vf (ff b r 0) j (sL f) b er:=fun _=>⟨a0,l0⟩;have d1:∀j,vf (ff b r 1) j (sL f) b er:=fun _=>⟨a1,l1⟩;rw[e8,e9];unfold eO pZ;clear e8 e9 l0 l1 a0 a1 hs h1 h2 h3;by_cases k0:0<zx (ff b r 0)
  ·by_cases k1:zx (ff b r 0)<zx (ff b r 1)
   ·simp only[if_pos k0,if_pos k1];exact⟨hr _ _,fun _=>⟨q0,fun _=>⟨hr _ _,fun _=>⟨q1,fun _=>⟨d1 _,rfl⟩,fun h=>absurd k1 h⟩,fun h=>absurd rfl h⟩,fun h=>absurd k0 h⟩,fun h=>absurd rfl h⟩
   ·simp only[if_pos k0,if_neg k1];exact⟨hr _ _,fun _=>⟨q0,fun _=>⟨hr _ _,fun _=>⟨q1,fun h=>absurd h k1,fun _=>⟨d0 _,rfl⟩⟩,fun h=>absurd rfl h⟩,fun h=>absurd k0 h⟩,fun h=>absurd rfl h⟩
  ·by_cases k1:0<zx (ff b r 1)
   ·simp only[if_neg k0,if_pos k1];exact⟨hr _ _,fun _=>⟨q0,fun h=>absurd h k0,fun _=>⟨hr _ _,fun _=>⟨q1,fun _=>⟨d1 _,rfl⟩,fun h=>absurd k1 h⟩,fun h=>absurd rfl h⟩⟩,fun h=>absurd rfl h⟩
   ·simp only[if_neg k0,if_neg k1];exact⟨hr _ _,fun _=>⟨q0,fun h=>absurd h k0,fun _=>⟨hr _ _,fun _=>⟨q1,fun h=>absurd h k1,fun _=>rfl⟩,fun h=>absurd rfl h⟩⟩,fun h=>absurd rfl h⟩
theorem aGV:aZc.Ok aA 90:=SM bJ ((bI kg (bI lE (bI aGJ (bI aGQ bU))))) func90 (by kernel_rfl) call90 (ks:= [.bS,.ck,.cK 3 [.bV,.sym,.sym,.bV,.sym,.sym,.sym,.sym,.sym],.l9 3 3 cH]) (fun _ _=>cn.nil _) (fun _ _=>by kernel_rfl) fun x_=>br (@aGU x_.1)
end Go.Proofs.YtliehnnljilacaaGreat
