/- What the laws lean on, part 16: a reader of code, plain facts, and what each function gives; no conditions. -/
import Derived.Test.YtliehnnljilacaaGreatA15
noncomputable section
open Go.IntKind (i64 signed u16 u32 u64 wrap wrap_u32)
set_option linter.unusedVariables false
set_option linter.unusedSimpArgs false
namespace Go.Proofs.YtliehnnljilacaaGreat
open Go Go.Ev Go.Proofs.Tryz
set_option maxRecDepth 1000000
abbrev Wn:Type:=ab×Int
abbrev cWn:cl (List SV) Wn:=(bD (oa u8 4096) (bD (bX .i64) bG)).jr (fun x=>(x.1,x.2.1)) (fun y=>(y.1,y.2,())) (fun _=>rfl)
abbrev jWn:cl bE Wn:=fe 320 cWn
abbrev hWn:cl Hp (Wn×Unit):=bD (cb jWn) bG
abbrev aSc(x:IH):LV:=aw (SV.ptr 0 0)
abbrev aSd(x:IH):List ao:= [(0,jWn.wr x)]
def aSe:Tr IH:=.ret ((List.replicate 4096 (0:Int),0))
abbrev LO:Prop:=True
abbrev amz:IH:=(List.replicate 4096 0,0)
def aSf:bT:=cj [] bG bG (q0∘q0 LO) (q0∘q0 amz) aSc aSd
theorem awt(h_:LO):(aSe).Is (amz):=by
 delta amz;exact rfl
theorem awu:aSf.Ok aA 224:=ay bU func224 call224 (ks:=eU) (fun x_ y_ h=>awt h)
abbrev aSg(x:IH):LV:=LV.dB []
def aBW(x:Int)(w:ab×Int):Tr IH:=.need (0≤w.2.tmod 4096∧w.2.tmod (4096:Int)<4096) (.ret ((w.1.set (0+(w.2.tmod 4096).toNat) x,i64.wrap (w.2+1))))
def aed(w:Wn)(x:Int):Wn:=(w.1.set (w.2%4096).toNat x,w.2+1)
abbrev amA(w:Wn):Prop:=w.1.length=4096∧0≤w.2∧w.2<1099511627776
abbrev BX(x:Int)(w:Wn):Prop:=amA w
abbrev amB(x:Int)(w:Wn):IH:=aed w x
def aSi:bT:=cj [] aQW hWn (q1∘q1 BX) (q1∘q1 amB) aSg aSd
theorem awv(x:Int)(w:Wn)(h_:BX x w):(aBW x w).Is (amB x w):=by
 delta amB;obtain⟨h1,h2,h3⟩:=h_;have t:w.2.tmod 4096=w.2%4096:=Int.tmod_eq_emod_of_nonneg h2;simp only[aBW,t,Nat.zero_add,bF,bH,aed];exact⟨⟨by omega,by omega⟩,by rw[bM (by omega) (by omega)]⟩
theorem aww:aSi.Ok aA 244:=ay bU func244 call244 (ks:=eU) (fun x_ y_ h=>awv x_.1 y_.1 h)
def aSl(w:ab×Int):Tr sk:=.ret w.2
abbrev LP(w:Wn):Prop:=True
abbrev amC(w:Wn):sk:=w.2
def aSm:bT:=cj [] gL hWn (q1∘q0 LP) (q1∘q0 amC) aED aEE
theorem awx(w:Wn)(h_:LP w):(aSl w).Is (amC w):=by
 delta amC;exact rfl
theorem awy:aSm.Ok aA 260:=ay bU func260 call260 (ks:=eU) (fun x_ y_ h=>awx y_.1 h)
def aSp(w:ab×Int):Tr sk:=.need (LP w) (.ret (if 4096<w.2 then 4096 else w.2))
def awz(w:Wn):Int:=if 4096<w.2 then 4096 else w.2
abbrev LQ(w:Wn):Prop:=True
abbrev amD(w:Wn):sk:=awz w
def aSq:bT:=cj [] gL hWn (q1∘q0 LQ) (q1∘q0 amD) aED aEE
theorem awA(w:Wn)(h_:LQ w):(aSp w).Is (amD w):=by
 delta amD;exact⟨trivial,rfl⟩
theorem awB:aSq.Ok aA 256:=ay (bI awy bU) func256 call256 (ks:=eU) (fun x_ y_ h=>awA y_.1 h)
def LR(n:Int)(w:ab×Int):Int:=(i64.wrap (w.2-n)).tmod 4096
abbrev ZX:Type:=Int×Bool
abbrev aSr(x:ZX):LV:=LV.dB [VV.sc (SV.int IntKind.u8 (SI.sym x.1)),VV.sc (au x.2)]
abbrev aSs(x:ZX):List ao:= []
def aBX(n:Int)(w:ab×Int):Tr ZX:=.ite (decide (n<1)==false) (.need (LQ w) (.ite (decide (awz w<n)) (.ret (0,false)) (.need (0≤LR n w∧LR n w<4096) (.ret ((List.take 4096 (List.drop 0 w.1)).getD (LR n w).toNat 0,true))))) (.ret (0,false))
def E1(w:Wn)(n:Int):Int×Bool:=if n<1∨awz w<n then(0,false)else(w.1.getD ((w.2-n)%4096).toNat 0,true)
abbrev LS(n:Int)(w:Wn):Prop:=amA w
abbrev amE(n:Int)(w:Wn):ZX:=E1 w n
def aSt:bT:=cj [] ak9 hWn (q1∘q1 LS) (q1∘q1 amE) aSr aSs
theorem awC(n:Int)(w:Wn)(h_:LS n w):(aBX n w).Is (amE n w):=by
 delta amE;obtain⟨h1,h2,h3⟩:=h_;simp only[aBX,LR,cv,bF,bW,bH,E1,List.drop_zero];refine⟨fun c1=>⟨trivial,fun c2=>?_,fun c2=>?_⟩,fun c1=>?_⟩
 ·rw[if_pos (.inr c2)]
 ·rw[if_neg (fun h=>h.elim c1 c2)];have hn:n≤w.2:=by unfold awz at c2;split at c2<;>omega
  have t:(i64.wrap (w.2-n)).tmod 4096=(w.2-n)%4096:=by rw[bM (by omega) (by omega),Int.tmod_eq_emod_of_nonneg (by omega)]
  rw[t,List.take_of_length_le (by omega)];exact⟨⟨by omega,by omega⟩,rfl⟩
 ·rw[if_pos (.inl c1)]
theorem awD:aSt.Ok aA 243:=ay (bI awB bU) func243 call243 (ks:=eU) (fun x_ y_ h=>awC x_.1 y_.1 h)
structure Lz where
 plain:Int
 made:Int
 t:RY
 left:Int
 st:Int
abbrev cLz(d r w:Nat):cl (List SV) Lz:=(bR (cr d 0) (bR (cr r 0) (bR (cr w 0) (bD (bX .i64) (bD (bX .i64) (bD (bX .i64) (bD (bX .i64) (bD (bX .u8) (bD (bX .i64) (bD (bX .i64) bG)))))))))).jr (fun x=>⟨x.1,x.2.1,(x.2.2.1,x.2.2.2.1,x.2.2.2.2.1),x.2.2.2.2.2.1,x.2.2.2.2.2.2.1⟩) (fun y=>(y.plain,y.made,y.t.1,y.t.2.1,y.t.2.2,y.left,y.st,())) (fun _=>rfl)
abbrev jLz:cl bE Lz:=fe 302 (cLz 1 2 9)
abbrev aee:cl bE RH:=fe 318 (cRH 3 5 7)
abbrev jT8:=jT 8
abbrev hLz:cl Hp (Lz×Dc×RH×ab×ab×ab×Wn×Unit):=bD (cb jLz) (bD (cb Oe) (bD (cb aee) (bR (cb jT4) (bD (dd 0 (.int .u16)) (bR (cb jT6) (bD (dd 0 (.int .u16)) (bR (cb jT8) (bD (dd 0 (.int .u16)) (bD (cb jWn) bG)))))))))
def Lz.go(z:Lz)(s:Int):Lz:=⟨z.plain,z.made,z.t,z.left,s⟩
def Lz.LU(z:Lz):Lz:=⟨z.plain,z.made+1,z.t,z.left-1,z.st⟩
abbrev ZS:Type:=Lz×Dc×RH×ab×ab×ab×Wn
def oM(n:Int):ZS:=(⟨n,0,(0,0,0),0,1⟩,(0,4294967295,4),⟨[1024,1024],0,0,1,(0,0,0)⟩,ia 8,ia 8,ia 6,(List.replicate 4096 0,0))
abbrev E2:Type:=Int×Lz×(Int×Int×Int)×RH×ab×ab×ab×(ab×Int)
abbrev amF(x:E2):LV:=LV.dB [VV.sc (SV.ptr 0 0),VV.sc (ar x.1)]
abbrev amG(x:E2):List ao:= [(0,jLz.wr x.2.1),(1,Oe.wr x.2.2.1),(2,aee.wr x.2.2.2.1),(3,jT4.wr ()),(4,bE.own 0 (Ty.int u16) x.2.2.2.2.1),(5,jT6.wr ()),(6,bE.own 0 (Ty.int u16) x.2.2.2.2.2.1),(7,jT8.wr ()),(8,bE.own 0 (Ty.int u16) x.2.2.2.2.2.2.1),(9,jWn.wr x.2.2.2.2.2.2.2)]
abbrev LX:Type:=sk⊕E2
abbrev aIA:LX→LV:=Sum.elim aPo amF
abbrev aIB:LX→List ao:=Sum.elim aEE amG
def amH(n:Int):Tr (sk⊕E2):=(.ite (decide (n<0)==false) (.ite (decide (8192<n)) (.ret (.inl (1))) (.need Ly (.need EZ (.need LO (.ret (.inr (0,{plain:=n,made:=0,t:=(0,0,0),left:=0,st:=1},(0,4294967295,4),{cs:= [1024,1024],bh:=0,part:=0,node:=1,t:=(0,0,0)},ia 8,ia 8,ia 6,(List.replicate 4096 (0:Int),0)))))))) (.ret (.inl (1))))
abbrev ZY(n:Int):Prop:=True
abbrev amI(n:Int):Tr LX:=.ite (!decide (0≤n∧n≤8192)) (.ret (.inl 1)) (.ret (.inr (0,oM n)))
def aSu:bT:=sR [] inA bG (q0∘q1 ZY) (q0∘q1 amI) aIA aIB
theorem awE(n:Int)(h_:ZY n)(z_:LX)(fS:(amI n).Is z_):(amH n).Is z_:=by
 delta amI at fS;have fS:=cD.1 fS;by_cases c1:0≤n∧n≤8192
 ·obtain rfl:=fS.2 c1;simp only[amH,cv,bW,bF,bH];exact⟨fun _=>⟨fun h=>absurd h (by omega),fun _=>⟨trivial,trivial,trivial,rfl⟩⟩,fun h=>absurd h (by omega)⟩
 ·obtain rfl:=fS.1 c1;simp only[amH,cv,bW,bF,bH];exact⟨fun _=>⟨fun _=>trivial,fun h=>absurd ⟨by omega,by omega⟩ c1⟩,fun _=>trivial⟩
theorem awF:aSu.Ok aA 198:=kO bJ ((bI av9 (bI amv (bI awu bU)))) func198 (by kernel_rfl) call198 (ks:= [.bS,.ck,.fr [.sym],.cK 0 [.bV,.bV,.bV,.sym,.sym,.sym,.sym,.sym,.sym,.sym]]) (fun _ _=>cn.nil _) (fun _ _=>by kernel_rfl) fun x_ y_ h=>awE x_.1 h
def amJ(z:Lz)(w:ab×Int):ab×Int:=aed w (E1 w z.t.2.1).1
abbrev ZZ:Type:=Int×Lz×(ab×Int)
abbrev aSv(x:ZZ):LV:=LV.one (VV.sc (SV.int IntKind.u8 (SI.sym x.1)))
abbrev aSw(x:ZZ):List ao:= [(0,jLz.wr x.2.1),(9,jWn.wr x.2.2)]
def aBY(z:Lz)(d:Int×Int×Int)(r:RH)(p1 p2 p3:ab)(w:ab×Int):Tr ZZ:=.ite (decide (0<z.t.1)) (.need (LS z.t.2.1 w) (.need (BX (E1 w z.t.2.1).1 w) (.ret ((E1 w z.t.2.1).1,{plain:=z.plain,made:=i64.wrap (z.made+1),t:=z.t,left:=i64.wrap (z.left-1),st:=z.st},amJ z w)))) (.need (BX z.t.2.2 w) (.ret (z.t.2.2,{plain:=z.plain,made:=i64.wrap (z.made+1),t:=z.t,left:=i64.wrap (z.left-1),st:=z.st},aed w z.t.2.2)))
def s4(z:Lz)(w:Wn):Int:=if 0<z.t.1 then(E1 w z.t.2.1).1 else z.t.2.2
abbrev tR(z:Lz)(d:Dc)(r:RH)(p1 p2 p3:ab)(w:Wn):Prop:=amA w∧0≤z.made∧z.made<1099511627776∧0≤z.left∧z.left<1099511627776
abbrev amK(z:Lz)(d:Dc)(r:RH)(p1 p2 p3:ab)(w:Wn):ZZ:=(s4 z w,z.LU,aed w (s4 z w))
def aSx:bT:=cj [] gL hLz (q7∘q0 tR) (q7∘q0 amK) aSv aSw
theorem awG(z:Lz)(d:Dc)(r:RH)(p1 p2 p3:ab)(w:Wn)(h_:tR z d r p1 p2 p3 w):(aBY z d r p1 p2 p3 w).Is (amK z d r p1 p2 p3 w):=by
 delta amK;obtain⟨h1,h2,h3,h4,h5⟩:=h_;have w1:i64.wrap (z.made+1)=z.made+1:=bM (by omega) (by omega);have w2:i64.wrap (z.left-1)=z.left-1:=bM (by omega) (by omega);simp only[aBY,amJ,w1,w2,bW,bF,bH,s4];refine⟨fun c=>⟨h1,h1,?_⟩,fun c=>⟨h1,?_⟩⟩
 ·rw[if_pos c];rfl
 ·rw[if_neg c];rfl
theorem Z0:aSx.Ok aA 228:=ay (bI awD (bI aww bU)) func228 call228 (ks:=eU) (fun x_ y_ h=>awG y_.1 y_.2.1 y_.2.2.1 y_.2.2.2.1 y_.2.2.2.2.1 y_.2.2.2.2.2.1 y_.2.2.2.2.2.2.1 h)
def aBZ(d:Int×Int×Int):Tr IE:=.ite ((d.2.2==0)==true) (.ret (d.1==0)) (.ret false)
abbrev LY(d:Dc):Prop:=True
abbrev amL(d:Dc):IE:=decide (d.2.2=0∧d.1=0)
def aSA:bT:=cj [] gL hDe (q1∘q0 LY) (q1∘q0 amL) aEH aEI
theorem awH:abY LY aBZ amL:=by
 intro d h_;delta amL;simp only[aBZ,bF,cv,cA,cD,cz,bW,b9,cC,cy,cx,cZ,cQ,cd,cm,bH];try simp only[bY,bF,cv,cA,cD,cz,bW,b9,cC,cy,cx,cZ,cQ,cd,cm,bH]
 grind [bM]
theorem awI:aSA.Ok aA 245:=ay bU func245 call245 (ks:=eU) (fun _=>bq @awH)
def aB0(z:Lz)(d:Int×Int×Int)(r:RH)(p1 p2 p3:ab)(w:ab×Int):Tr sk:=.need (LY d) (.ite (decide (d.2.2=0∧d.1=0)) (.ret (3)) (.ret (4)))
def Gr(d:Dc):Int:=if d.2.2=0∧d.1=0 then 3 else 4
abbrev tS(z:Lz)(d:Dc)(r:RH)(p1 p2 p3:ab)(w:Wn):Prop:=True
abbrev amM(z:Lz)(d:Dc)(r:RH)(p1 p2 p3:ab)(w:Wn):sk:=Gr d
def aSD:bT:=cj [] gL hLz (q7∘q0 tS) (q7∘q0 amM) aED aEE
theorem awJ(z:Lz)(d:Dc)(r:RH)(p1 p2 p3:ab)(w:Wn)(h_:tS z d r p1 p2 p3 w):(aB0 z d r p1 p2 p3 w).Is (amM z d r p1 p2 p3 w):=by
 delta amM;simp only[aB0,bW,bF,bH,Gr];exact⟨trivial,fun c=>by rw[if_pos c],fun c=>by rw[if_neg c]⟩
theorem Z3:aSD.Ok aA 229:=ay (bI awI bU) func229 call229 (ks:=eU) (fun x_ y_ h=>awJ y_.1 y_.2.1 y_.2.2.1 y_.2.2.2.1 y_.2.2.2.2.1 y_.2.2.2.2.2.1 y_.2.2.2.2.2.2.1 h)
def LZ(d:Int×Int×Int)(r:RH)(p1 p2 p3:ab):Int:=uE (cE r p1 p2 p3 d).1.1
abbrev Z4:Type:=Bool×Lz×(Int×Int×Int)×RH×ab×ab×ab
abbrev aSE(x:Z4):LV:=aw (au x.1)
abbrev aSF(x:Z4):List ao:= [(0,jLz.wr x.2.1),(1,Oe.wr x.2.2.1),(2,aee.wr x.2.2.2.1),(3,bE.cK [SV.sl 4 1] 336),(4,bE.own 1 (Ty.int u16) x.2.2.2.2.1),(5,bE.cK [SV.sl 6 1] 336),(6,bE.own 1 (Ty.int u16) x.2.2.2.2.2.1),(7,bE.cK [SV.sl 8 1] 336),(8,bE.own 1 (Ty.int u16) x.2.2.2.2.2.2)]
def aB1(z:Lz)(d:Int×Int×Int)(r:RH)(p1 p2 p3:ab)(w:ab×Int):Tr Z4:=(.need (zK r p1 p2 p3 d) (.ite (!(cE r p1 p2 p3 d).1.2) (.ret (true,z,(cE r p1 p2 p3 d).2.2.2.2.2,(cE r p1 p2 p3 d).2.1,(cE r p1 p2 p3 d).2.2.1,(cE r p1 p2 p3 d).2.2.2.1,(cE r p1 p2 p3 d).2.2.2.2.1)) (.need (ER (cE r p1 p2 p3 d).1.1) (.need (Lv (cE r p1 p2 p3 d).1.1 z.made) (.ite (adZ (cE r p1 p2 p3 d).1.1 z.made==true) (.ret (decide (LZ d r p1 p2 p3≤i64.wrap (z.plain-z.made)),{plain:=z.plain,made:=z.made,t:=(cE r p1 p2 p3 d).1.1,left:=LZ d r p1 p2 p3,st:=z.st},(cE r p1 p2 p3 d).2.2.2.2.2,(cE r p1 p2 p3 d).2.1,(cE r p1 p2 p3 d).2.2.1,(cE r p1 p2 p3 d).2.2.2.1,(cE r p1 p2 p3 d).2.2.2.2.1)) (.ret (false,{plain:=z.plain,made:=z.made,t:=(cE r p1 p2 p3 d).1.1,left:=LZ d r p1 p2 p3,st:=z.st},(cE r p1 p2 p3 d).2.2.2.2.2,(cE r p1 p2 p3 d).2.1,(cE r p1 p2 p3 d).2.2.1,(cE r p1 p2 p3 d).2.2.2.1,(cE r p1 p2 p3 d).2.2.2.2.1)))))))
def iv(z:Lz)(x:RY×Bool):Bool×Lz:=if x.2=false then(true,z)else(adZ x.1 z.made&&decide (uE x.1≤z.plain-z.made),⟨z.plain,z.made,x.1,uE x.1,z.st⟩)
abbrev tT(z:Lz)(d:Dc)(r:RH)(p1 p2 p3:ab)(w:Wn):Prop:=ROk r∧jB p1∧jB p2∧jB p3∧Hw d∧0≤z.made∧z.made≤z.plain∧z.plain≤8192
abbrev amN(z:Lz)(d:Dc)(r:RH)(p1 p2 p3:ab)(w:Wn):Z4:=((iv z (cE r p1 p2 p3 d).1).1,(iv z (cE r p1 p2 p3 d).1).2,(cE r p1 p2 p3 d).2.2.2.2.2,(cE r p1 p2 p3 d).2.1,(cE r p1 p2 p3 d).2.2.1,(cE r p1 p2 p3 d).2.2.2.1,(cE r p1 p2 p3 d).2.2.2.2.1)
def aSG:bT:=cj [] gL hLz (q7∘q0 tT) (q7∘q0 amN) aSE aSF
theorem awK(z:Lz)(d:Dc)(r:RH)(p1 p2 p3:ab)(w:Wn)(h_:tT z d r p1 p2 p3 w):(aB1 z d r p1 p2 p3 w).Is (amN z d r p1 p2 p3 w):=by
 delta amN;obtain⟨h1,h2,h3,h4,h5,h6,h7,h8⟩:=h_;have w1:i64.wrap (z.plain-z.made)=z.plain-z.made:=bM (by omega) (by omega);simp only[aB1,LZ,w1,bF,iv];refine⟨⟨h1,h2,h3,h4,h5⟩,?_⟩;generalize cE r p1 p2 p3 d=x;simp only[cm,bF,cQ,bH];refine⟨fun c=>⟨trivial,trivial,fun c2=>?_,fun c2=>?_⟩,fun c=>?_⟩
 ·rw[if_neg (by rw[c];decide),c2,Bool.true_and]
 ·rw[if_neg (by rw[c];decide),c2,Bool.false_and]
 ·rw[if_pos c]
theorem Z5:aSG.Ok aA 230:=ay (bI aeb (bI alU (bI av0 bU))) func230 call230 (ks:= [.one 4,.one 6,.one 8,.fr [.sym],.cu,.bS,.ck]) (fun x_ y_ h=>awK y_.1 y_.2.1 y_.2.2.1 y_.2.2.2.1 y_.2.2.2.2.1 y_.2.2.2.2.2.1 y_.2.2.2.2.2.2.1 h)
def eQ(x:ab)(m u:Int)(out:ab)(z:Lz)(d:Dc)(r:RH)(p1 p2 p3:ab)(w:Wn):Bool×Int×ab×ZS:=if z.st=3∨z.st=4 then(false,u,out,z,d,r,p1,p2,p3,w) else if 0<d.2.2 then(if u=x.length then(false,u,out,z.go 1,d,r,p1,p2,p3,w)else(true,u+1,out,z,Hx d (x.getD u.toNat 0),r,p1,p2,p3,w)) else if ET d=true then(true,u,out,z.go 4,d,r,p1,p2,p3,w) else if 0<z.left then(if m≤out.length then(false,u,out,z.go 2,d,r,p1,p2,p3,w)else(true,u,out++ [s4 z w],z.LU,d,r,p1,p2,p3,aed w (s4 z w))) else if z.made=z.plain then(true,u,out,z.go (Gr d),d,r,p1,p2,p3,w) else(true,u,out,(if(iv z (cE r p1 p2 p3 d).1).1=true then(iv z (cE r p1 p2 p3 d).1).2 else(iv z (cE r p1 p2 p3 d).1).2.go 4),(cE r p1 p2 p3 d).2.2.2.2.2,(cE r p1 p2 p3 d).2.1,(cE r p1 p2 p3 d).2.2.1,(cE r p1 p2 p3 d).2.2.2.1,(cE r p1 p2 p3 d).2.2.2.2.1,w)
structure Rj (S:ZS):Prop where
 d:Hw S.2.1
 r:ROk S.2.2.1
 p1:jB S.2.2.2.1
 p2:jB S.2.2.2.2.1
 p3:jB S.2.2.2.2.2.1
 w:amA S.2.2.2.2.2.2
 wn:S.2.2.2.2.2.2.2=S.1.made
 wb:bL S.2.2.2.2.2.2.1
 made:0≤S.1.made∧S.1.made≤S.1.plain∧S.1.plain≤8192
 left:S.1.st=4∨0≤S.1.left∧S.1.left≤S.1.plain-S.1.made
 tb:By S.1.t.2.2
def muZ(x:ab)(u:Int)(z:Lz)(r:RH):Nat:=(x.length-u).toNat+40*(z.plain-z.made).toNat+(if z.left=0 then 1+muR r else 0)+(if z.st=3∨z.st=4 then 0 else 1)
theorem awL{z:Lz}{w:Wn}(h:bL w.1)(ht:By z.t.2.2):By (s4 z w):=by
 unfold s4 E1;split
 ·split
  ·exact⟨by decide,by decide⟩
  ·exact h.getD _
 ·exact ht
theorem Z6{z:Lz}{x:RY×Bool}(h:0≤z.left∧z.left≤z.plain-z.made)(h1:(iv z x).1=true):(iv z x).2.made=z.made∧(iv z x).2.plain=z.plain∧(iv z x).2.st=z.st∧(x.2=false→(iv z x).2=z)∧(x.2=true→1≤(iv z x).2.left∧(iv z x).2.left≤z.plain-z.made∧(iv z x).2.t=x.1):=by
 unfold iv at h1 ⊢;cases hx:x.2 with
 |false=>rw[if_pos rfl];exact⟨rfl,rfl,rfl,fun _=>rfl,fun h=>by cases h⟩
 |true=>
  rw[hx,if_neg (by decide),Bool.and_eq_true]at h1;rw[if_neg (by decide)];have hl:=alW h1.1;have:=of_decide_eq_true h1.2;exact⟨rfl,rfl,rfl,fun h=>(by cases h),fun _=>⟨hl.1,this,rfl⟩⟩
theorem E3(z:Lz)(x:RY×Bool):(iv z x).2.made=z.made∧(iv z x).2.plain=z.plain∧(x.2=false→(iv z x)=(true,z))∧(x.2=true→(iv z x).2.left=uE x.1∧(iv z x).2.t=x.1):=by
 unfold iv;cases hx:x.2 with
 |false=>rw[if_pos rfl];exact⟨rfl,rfl,fun _=>rfl,fun h=>by cases h⟩
 |true=>rw[if_neg (by decide)];exact⟨rfl,rfl,fun h=>(by cases h),fun _=>⟨rfl,rfl⟩⟩
theorem aef{r:RH}(p1 p2 p3:ab)(d:Dc)(h:(cE r p1 p2 p3 d).1.2=true):(cE r p1 p2 p3 d).1.1=(cE r p1 p2 p3 d).2.1.t:=by
 unfold cE at h ⊢;simp only at h ⊢;split
 ·rename_i e;rw[if_pos e]at h;cases h
 ·rename_i e;rw[if_neg e]at h;split
  ·rfl
  ·rename_i e2;rw[if_neg e2]at h;cases h
theorem E4{x:ab}{m u:Int}{out:ab}{z:Lz}{d:Dc}{r:RH}{p1 p2 p3:ab}{w:Wn}(h:Rj (z,d,r,p1,p2,p3,w))(hx:bL x)(hu:0≤u∧u≤x.length)(ho:bL out):Rj (eQ x m u out z d r p1 p2 p3 w).2.2.2∧u≤(eQ x m u out z d r p1 p2 p3 w).2.1∧(eQ x m u out z d r p1 p2 p3 w).2.1≤x.length∧bL (eQ x m u out z d r p1 p2 p3 w).2.2.1∧(eQ x m u out z d r p1 p2 p3 w).2.2.2.1.plain=z.plain∧((eQ x m u out z d r p1 p2 p3 w).1=true→muZ x (eQ x m u out z d r p1 p2 p3 w).2.1 (eQ x m u out z d r p1 p2 p3 w).2.2.2.1 (eQ x m u out z d r p1 p2 p3 w).2.2.2.2.2.1<muZ x u z r):=by
 obtain⟨h1,h2,h3,h4,h5,h6,h7,h8,h9,h10,H6⟩:=h;simp only at h1 h2 h3 h4 h5 h6 h7 h8 h9 h10 H6;unfold eQ;split
 ·exact⟨⟨h1,h2,h3,h4,h5,h6,h7,h8,h9,h10,H6⟩,by simp,hu.2,ho,rfl,fun h=>by cases h⟩
 ·rename_i c0;have hl:0≤z.left∧z.left≤z.plain-z.made:=h10.resolve_left fun h=>c0 (.inr h);split
  ·split
   ·exact⟨⟨h1,h2,h3,h4,h5,h6,h7,h8,h9,.inr hl,H6⟩,by simp,hu.2,ho,rfl,fun h=>by cases h⟩
   ·rename_i c1 c2;refine⟨⟨amr h1 (hx.getD _),h2,h3,h4,h5,h6,h7,h8,h9,h10,H6⟩,by simp only;omega,by simp only;omega,ho,rfl,fun _=>?_⟩;unfold muZ;simp only;omega
  ·split
   ·refine⟨⟨h1,h2,h3,h4,h5,h6,h7,h8,h9,.inl rfl,H6⟩,by simp,hu.2,ho,rfl,fun _=>?_⟩;unfold muZ;rw[if_neg c0,if_pos (show(z.go 4).st=3∨(z.go 4).st=4 from .inr rfl)];show((x.length:Int)-u).toNat+40*(z.plain-z.made).toNat+(if z.left=0 then 1+muR r else 0)+0<_;omega
   ·split
    ·split
     ·exact⟨⟨h1,h2,h3,h4,h5,h6,h7,h8,h9,.inr hl,H6⟩,by simp,hu.2,ho,rfl,fun h=>by cases h⟩
     ·rename_i c1 c2 c3 c4;have hb:=awL h8 H6;refine⟨⟨h1,h2,h3,h4,h5,⟨?_,?_,?_⟩,?_,h8.set _ hb,⟨?_,?_,h9.2.2⟩,.inr ⟨?_,?_⟩,H6⟩,by simp,hu.2,ho.append (.cons hb .nil),rfl,fun _=>?_⟩
      ·show(w.1.set _ _).length=4096;rw[List.length_set];exact h6.1
      ·show 0≤w.2+1;have:=h6.2.1;omega
      ·show w.2+1<1099511627776;omega
      ·show w.2+1=z.made+1;omega
      ·show 0≤z.made+1;omega
      ·show z.made+1≤z.plain;omega
      ·show 0≤z.left-1;omega
      ·show z.left-1≤z.plain-(z.made+1);omega
      ·have hm:muR r≤21:=(by unfold muR;(repeat' split)<;>omega);unfold muZ Lz.LU;simp only;have e:40*(z.plain-(z.made+1)).toNat+40=40*(z.plain-z.made).toNat:=(by omega);rw[if_neg (show ¬z.left=0 by omega)];split<;>omega
    ·split
     ·rename_i c1 c2 c3 c4;have e:Gr d=3∨Gr d=4:=(by unfold Gr;split;exact .inl rfl;exact .inr rfl);refine⟨⟨h1,h2,h3,h4,h5,h6,h7,h8,h9,.inr hl,H6⟩,by simp,hu.2,ho,rfl,fun _=>?_⟩;unfold muZ Lz.go;simp only;rw[if_neg c0,if_pos e];omega
     ·rename_i c1 c2 c3 c4;have hs:=Vn r p1 p2 p3 d;obtain⟨o1,o2,o3,o4⟩:=aIw (r:=r) h3 h4 h5 h1;have hr:=amt h2 p1 p2 p3 d;have hmu:=aws h2 p1 p2 p3 d;have htk:=aef p1 p2 p3 d (r:=r);rw[← hs]at o1 o2 o3 o4;generalize cE r p1 p2 p3 d=y at*;clear hs;obtain⟨a1,a2,a3,a4⟩:=E3 z y.1;have H8:By (iv z y.1).2.t.2.2:=by
       cases hy:y.1.2 with
       |false=>rw[a3 hy];exact H6
       |true=>rw[(a4 hy).2,htk hy];exact hr.tb
      have hq:Rj ((if(iv z y.1).1=true then(iv z y.1).2 else(iv z y.1).2.go 4),y.2.2.2.2.2,y.2.1,y.2.2.1,y.2.2.2.1,y.2.2.2.2.1,w):=by
       split
       ·rename_i c5;obtain⟨b1,b2,b3,b4,b5⟩:=Z6 hl c5;refine⟨o4,hr,o1,o2,o3,h6,by simp only[b1];exact h7,h8,by simp only[b1,b2];exact h9,?_,H8⟩;simp only[b1,b2];cases hy:y.1.2 with
        |false=>rw[b4 hy];exact .inr hl
        |true=>have:=b5 hy;exact .inr ⟨by omega,this.2.1⟩
       ·rename_i c5;exact⟨o4,hr,o1,o2,o3,h6,by show w.2=(iv z y.1).2.made;rw[a1];exact h7,h8,by show 0≤(iv z y.1).2.made∧(iv z y.1).2.made≤(iv z y.1).2.plain∧(iv z y.1).2.plain≤8192;rw[a1,a2];exact h9,.inl rfl,H8⟩
      refine⟨hq,by simp,hu.2,ho,by simp only;split<;>exact a2,fun _=>?_⟩;simp only;split
      ·rename_i c5;obtain⟨b1,b2,b3,b4,b5⟩:=Z6 hl c5;unfold muZ;rw[b1,b2,b3];have hz:z.left=0:=(by omega);rw[if_pos hz];cases hy:y.1.2 with
       |false=>rw[b4 hy,if_pos hz];have:=hmu hy;omega
       |true=>have:=b5 hy;rw[if_neg (by omega)];omega
      ·rename_i c5;unfold muZ;rw[if_neg c0,if_pos (show((iv z y.1).2.go 4).st=3∨((iv z y.1).2.go 4).st=4 from .inr rfl)];show((x.length:Int)-u).toNat+40*((iv z y.1).2.plain-(iv z y.1).2.made).toNat+(if(iv z y.1).2.left=0 then 1+muR y.2.1 else 0)+0<_;rw[a1,a2];have hz:z.left=0:=(by omega);have hy:y.1.2=true:=by
        cases hy:y.1.2 with
        |false=>rw[a3 hy]at c5;exact absurd rfl c5
        |true=>rfl
       have hn:(iv z y.1).2.left≠0:=(by rw[(a4 hy).1];unfold uE;split<;>omega);rw[if_neg hn];omega
def mL(x:ab)(m u:Int)(out:ab)(S:ZS):Bool×Int×ab×ZS:=eQ x m u out S.1 S.2.1 S.2.2.1 S.2.2.2.1 S.2.2.2.2.1 S.2.2.2.2.2.1 S.2.2.2.2.2.2
def kV:Nat→ab→Int→Int→ab→ZS→Int×ab×ZS
 |0,_,_,u,out,S=>(u,out,S)
 |n+1,x,m,u,out,S=>if(mL x m u out S).1=true then kV n x m (mL x m u out S).2.1 (mL x m u out S).2.2.1 (mL x m u out S).2.2.2 else(mL x m u out S).2
abbrev muS(x:ab)(u:Int)(S:ZS):Nat:=muZ x u S.1 S.2.2.1
def fG(x:ab)(m u:Int)(out:ab)(S:ZS):Int×ab×ZS:=kV (muS x u S+1) x m u out S
theorem amP{x:ab}{m u:Int}{out:ab}{z:Lz}{d:Dc}{r:RH}{p1 p2 p3:ab}{w:Wn}(h:out.length<1099511627776)(hm:m<1099511627776):(eQ x m u out z d r p1 p2 p3 w).2.2.1.length<1099511627776:=by
 unfold eQ
 (repeat' split)<;>first|exact h|(simp only[List.length_append,List.length_singleton];omega)
abbrev zM:Type:=ab×Int×Int×Lz×(Int×Int×Int)×RH×ab×ab×ab×(ab×Int)×ab
abbrev amQ:cl St zM:=(dy (bR (bO (cr (0) (0))) (bD (bO (gx false false ae)) (bD (bO (bX i64)) (jk 3 (bD (bO (bX i64)) (bR (bO (pk (10) (0))) (jk 110 bG))))))) (bD (cb jLz) (bD (cb Oe) (bD (cb aee) (bR (ob (336) ((bR (pk (4) (1)) bG))) (bD (dd (1) (Ty.int u16)) (bR (ob (336) ((bR (pk (6) (1)) bG))) (bD (dd (1) (Ty.int u16)) (bR (ob (336) ((bR (pk (8) (1)) bG))) (bD (dd (1) (Ty.int u16)) (bD (cb jWn) (bD (dd (0) ae) bG)))))))))))).jr (fun y=>(y.1.1,y.1.2.1,y.1.2.2.1,y.2.1,y.2.2.1,y.2.2.2.1,y.2.2.2.2.1,y.2.2.2.2.2.1,y.2.2.2.2.2.2.1,y.2.2.2.2.2.2.2.1,y.2.2.2.2.2.2.2.2.1)) (fun x=>((x.1,(x.2.1,(x.2.2.1,()))),(x.2.2.2.1,(x.2.2.2.2.1,(x.2.2.2.2.2.1,(x.2.2.2.2.2.2.1,(x.2.2.2.2.2.2.2.1,(x.2.2.2.2.2.2.2.2.1,(x.2.2.2.2.2.2.2.2.2.1,(x.2.2.2.2.2.2.2.2.2.2,())))))))))) (fun _=>rfl)
abbrev amR:List Wk:= [.one 4,.one 6,.one 8,.kA 7 u8,.fr (eH 118 [(0,.bV),(1,.bV),(2,.bV),(6,.bV),(7,.bV)]),.cu,.bS,.ck]
abbrev aIC:Exit→List Wk:=ua amR 0 [.one 4,.one 6,.one 8,.kA 7 u8,.fr (eH 118 [(0,.bV),(6,.bV),(7,.bV)]),.cu,.bS,.ck] [.one 4,.one 6,.one 8,.kA 7 u8,.fr (eH 118 [(6,.bV),(7,.bV),(8,.bV)]),.cu,.bS,.ck]
def mZ(x:ab)(u:Int)(d:Int×Int×Int):Int×Int×Int:=Hx d (x.getD u.toNat 0)
def dR(z:Lz)(d:Int×Int×Int)(r:RH)(p1 p2 p3:ab):Bool×Lz:=iv z (cE r p1 p2 p3 d).1
abbrev Vo:Type:=Int×Lz×(Int×Int×Int)×RH×ab×ab×ab×(ab×Int)×ab
abbrev aID(x:Vo):Exit×St:=(Exit.exit 0,⟨(LV.one (VV.sc (SV.ptr 0 0))::(gE 5 (LV.one (VV.sc (SV.int i64 (SI.sym x.1)))::(LV.one (VV.sc (SV.sl 10 0))::(gE 110 []))))),[some (jLz.wr x.2.1),some (Oe.wr x.2.2.1),some (aee.wr x.2.2.2.1),some (bE.cK [SV.sl 4 1] 336),some (bE.own 1 (Ty.int u16) x.2.2.2.2.1),some (bE.cK [SV.sl 6 1] 336),some (bE.own 1 (Ty.int u16) x.2.2.2.2.2.1),some (bE.cK [SV.sl 8 1] 336),some (bE.own 1 (Ty.int u16) x.2.2.2.2.2.2.1),some (jWn.wr x.2.2.2.2.2.2.2.1),some (bE.own 0 ae x.2.2.2.2.2.2.2.2)]⟩)
def mF(x:ab)(m u:Int)(z:Lz)(d:Int×Int×Int)(r:RH)(p1 p2 p3:ab)(w:ab×Int) (out:ab):Tr (zM⊕(Vo)):=(.ite ((z.st !=3)==true) (.ite (z.st !=4) (.need (p8 d) (.ite (decide (0< d.2.2)==true) (.ite (u==(↑x.length:Int)) (.ret (.inr (u,{plain:=z.plain,made:=z.made,t:=z.t,left:=z.left,st:=1},d,r,p1,p2,p3,w,out))) (.need (p8 d) (.ite (decide (0<d.2.2)) (.need (0≤u∧u<(↑x.length:Int)) (.need (xT (x.getD u.toNat 0) d) (.ret (.inl (x,m,i64.wrap (u+1),z,mZ x u d,r,p1,p2,p3,w,out))))) (.need (xU d) (.ite (ET d) (.ret (.inl (x,m,u,{plain:=z.plain,made:=z.made,t:=z.t,left:=z.left,st:=4},d,r,p1,p2,p3,w,out))) (.ite (decide (0<z.left)==true) (.ite (decide (m≤(↑out.length:Int))) (.ret (.inr (u,{plain:=z.plain,made:=z.made,t:=z.t,left:=z.left,st:=2},d,r,p1,p2,p3,w,out))) (.ite (decide (0<z.left)) (.need (tR z d r p1 p2 p3 w) (.need ((out.length+1)*1≤70368744177664∧out.length+1≤70368744177664) (.ret (.inl (x,m,u,{plain:=z.LU.plain,made:=z.LU.made,t:=z.t,left:=z.LU.left,st:=z.LU.st},d,r,p1,p2,p3,(w.1.set (w.2%4096).toNat (s4 z w),w.2+1),out++ [s4 z w]))))) (.ite (z.made==z.plain) (.need (tS z d r p1 p2 p3 w) (.ret (.inl (x,m,u,{plain:=z.plain,made:=z.made,t:=z.t,left:=z.left,st:=Gr d},d,r,p1,p2,p3,w,out)))) (.need (tT z d r p1 p2 p3 w) (.ite (!(dR z d r p1 p2 p3).1) (.ret (.inl (x,m,u,{plain:=(dR z d r p1 p2 p3).2.plain,made:=(dR z d r p1 p2 p3).2.made,t:=(dR z d r p1 p2 p3).2.t,left:=(dR z d r p1 p2 p3).2.left,st:=4},(cE r p1 p2 p3 d).2.2.2.2.2,(cE r p1 p2 p3 d).2.1,(cE r p1 p2 p3 d).2.2.1,(cE r p1 p2 p3 d).2.2.2.1,(cE r p1 p2 p3 d).2.2.2.2.1,w,out))) (.ret (.inl (x,m,u,(dR z d r p1 p2 p3).2,(cE r p1 p2 p3 d).2.2.2.2.2,(cE r p1 p2 p3 d).2.1,(cE r p1 p2 p3 d).2.2.1,(cE r p1 p2 p3 d).2.2.2.1,(cE r p1 p2 p3 d).2.2.2.2.1,w,out)))))))) (.ite (decide (0<z.left)) (.need (tR z d r p1 p2 p3 w) (.need ((out.length+1)*1≤70368744177664∧out.length+1≤70368744177664) (.ret (.inl (x,m,u,{plain:=z.LU.plain,made:=z.LU.made,t:=z.t,left:=z.LU.left,st:=z.LU.st},d,r,p1,p2,p3,(w.1.set (w.2% 4096).toNat (s4 z w),w.2+1),out++ [s4 z w]))))) (.ite (z.made==z.plain) (.need (tS z d r p1 p2 p3 w) (.ret (.inl (x,m,u,{plain:=z.plain,made:=z.made,t:=z.t,left:=z.left,st:=Gr d},d,r,p1,p2,p3,w,out)))) (.need (tT z d r p1 p2 p3 w) (.ite (!(dR z d r p1 p2 p3).1) (.ret (.inl (x,m,u,{plain:=(dR z d r p1 p2 p3).2.plain,made:=(dR z d r p1 p2 p3).2.made,t:=(dR z d r p1 p2 p3).2.t,left:=(dR z d r p1 p2 p3).2.left,st:=4},(cE r p1 p2 p3 d).2.2.2.2.2,(cE r p1 p2 p3 d).2.1,(cE r p1 p2 p3 d).2.2.1,(cE r p1 p2 p3 d).2.2.2.1,(cE r p1 p2 p3 d).2.2.2.2.1,w,out))) (.ret (.inl (x,m,u,(dR z d r p1 p2 p3).2,(cE r p1 p2 p3 d).2.2.2.2.2,(cE r p1 p2 p3 d).2.1,(cE r p1 p2 p3 d).2.2.1,(cE r p1 p2 p3 d).2.2.2.1,(cE r p1 p2 p3 d).2.2.2.2.1,w,out))))))))))))) (.need (p8 d) (.ite (decide (0<d.2.2)) (.need (0≤u∧u<(↑x.length:Int)) (.need (xT (x.getD u.toNat 0) d) (.ret (.inl (x,m,i64.wrap (u+1),z,mZ x u d,r,p1,p2,p3,w,out))))) (.need (xU d) (.ite (ET d) (.ret (.inl (x,m,u,{plain:=z.plain,made:=z.made,t:=z.t,left:=z.left,st:=4},d,r,p1,p2,p3,w,out))) (.ite (decide (0<z.left)==true) (.ite (decide (m≤(↑out.length:Int))) (.ret (.inr (u,{plain:=z.plain,made:=z.made,t:=z.t,left:=z.left,st:=2},d,r,p1,p2,p3,w,out))) (.ite (decide (0<z.left)) (.need (tR z d r p1 p2 p3 w) (.need ((out.length+1)*1≤70368744177664∧out.length+1≤70368744177664) (.ret (.inl (x,m,u,{plain:=z.LU.plain,made:=z.LU.made,t:=z.t,left:=z.LU.left,st:=z.LU.st},d,r,p1,p2,p3,(w.1.set (w.2%4096).toNat (s4 z w),w.2+1),out++ [s4 z w]))))) (.ite (z.made==z.plain) (.need (tS z d r p1 p2 p3 w) (.ret (.inl (x,m,u,{plain:=z.plain,made:=z.made,t:=z.t,left:=z.left,st:=Gr d},d,r,p1,p2,p3,w,out)))) (.need (tT z d r p1 p2 p3 w) (.ite (!(dR z d r p1 p2 p3).1) (.ret (.inl (x,m,u,{plain:=(dR z d r p1 p2 p3).2.plain,made:=(dR z d r p1 p2 p3).2.made,t:=(dR z d r p1 p2 p3).2.t,left:=(dR z d r p1 p2 p3).2.left,st:=4},(cE r p1 p2 p3 d).2.2.2.2.2,(cE r p1 p2 p3 d).2.1,(cE r p1 p2 p3 d).2.2.1,(cE r p1 p2 p3 d).2.2.2.1,(cE r p1 p2 p3 d).2.2.2.2.1,w,out))) (.ret (.inl (x,m,u,(dR z d r p1 p2 p3).2,(cE r p1 p2 p3 d).2.2.2.2.2,(cE r p1 p2 p3 d).2.1,(cE r p1 p2 p3 d).2.2.1,(cE r p1 p2 p3 d).2.2.2.1,(cE r p1 p2 p3 d).2.2.2.2.1,w,out)))))))) (.ite (decide (0<z.left)) (.need (tR z d r p1 p2 p3 w) (.need ((out.length+1)*1≤70368744177664∧out.length+1≤70368744177664) (.ret (.inl (x,m,u,{plain:=z.LU.plain,made:=z.LU.made,t:=z.t,left:=z.LU.left,st:=z.LU.st},d,r,p1,p2,p3,(w.1.set (w.2% 4096).toNat (s4 z w),w.2+1),out++ [s4 z w]))))) (.ite (z.made==z.plain) (.need (tS z d r p1 p2 p3 w) (.ret (.inl (x,m,u,{plain:=z.plain,made:=z.made,t:=z.t,left:=z.left,st:=Gr d},d,r,p1,p2,p3,w,out)))) (.need (tT z d r p1 p2 p3 w) (.ite (!(dR z d r p1 p2 p3).1) (.ret (.inl (x,m,u,{plain:=(dR z d r p1 p2 p3).2.plain,made:=(dR z d r p1 p2 p3).2.made,t:=(dR z d r p1 p2 p3).2.t,left:=(dR z d r p1 p2 p3).2.left,st:=4},(cE r p1 p2 p3 d).2.2.2.2.2,(cE r p1 p2 p3 d).2.1,(cE r p1 p2 p3 d).2.2.1,(cE r p1 p2 p3 d).2.2.2.1,(cE r p1 p2 p3 d).2.2.2.2.1,w,out))) (.ret (.inl (x,m,u,(dR z d r p1 p2 p3).2,(cE r p1 p2 p3 d).2.2.2.2.2,(cE r p1 p2 p3 d).2.1,(cE r p1 p2 p3 d).2.2.1,(cE r p1 p2 p3 d).2.2.2.1,(cE r p1 p2 p3 d).2.2.2.2.1,w,out)))))))))))))) (.ret (.inr (u,z,d,r,p1,p2,p3,w,out)))) (.ret (.inr (u,z,d,r,p1,p2,p3,w,out))))
abbrev ye(x:ab)(m u:Int)(z:Lz)(d:Int×Int×Int)(r:RH)(p1 p2 p3:ab)(w:ab×Int)(out:ab):Prop:=Rj (z,d,r,p1,p2,p3,w)∧bL x∧x.length<1099511627776∧0≤u∧u≤x.length∧bL out∧out.length<1099511627776∧0≤m∧m<1099511627776
abbrev Vp(x:ab)(m u:Int)(z:Lz)(d:Int×Int×Int)(r:RH)(p1 p2 p3:ab)(w:ab×Int)(out:ab):Vo:=((fG x m u out (z,d,r,p1,p2,p3,w)).1,(fG x m u out (z,d,r,p1,p2,p3,w)).2.2.1,(fG x m u out (z,d,r,p1,p2,p3,w)).2.2.2.1,(fG x m u out (z,d,r,p1,p2,p3,w)).2.2.2.2.1,(fG x m u out (z,d,r,p1,p2,p3,w)).2.2.2.2.2.1,(fG x m u out (z,d,r,p1,p2,p3,w)).2.2.2.2.2.2.1,(fG x m u out (z,d,r,p1,p2,p3,w)).2.2.2.2.2.2.2.1,(fG x m u out (z,d,r,p1,p2,p3,w)).2.2.2.2.2.2.2.2,(fG x m u out (z,d,r,p1,p2,p3,w)).2.1)
abbrev amS:zM→cT:=gX (aK ye) (aK Vp) aID
theorem amT(x:ab)(m u:Int)(z:Lz)(d:Int×Int×Int)(r:RH)(p1 p2 p3:ab)(w:ab×Int)(out:ab)(h_:ye x m u z d r p1 p2 p3 w out):eG (fun x_:zM=>mF x_.1 x_.2.1 x_.2.2.1 x_.2.2.2.1 x_.2.2.2.2.1 x_.2.2.2.2.2.1 x_.2.2.2.2.2.2.1 x_.2.2.2.2.2.2.2.1 x_.2.2.2.2.2.2.2.2.1 x_.2.2.2.2.2.2.2.2.2.1 x_.2.2.2.2.2.2.2.2.2.2) (x,m,u,z,d,r,p1,p2,p3,w,out) (Vp x m u z d r p1 p2 p3 w out):=by
 delta Vp
 have key:∀ (n:Nat) (u:Int) (z:Lz) (d:Dc) (r:RH) (p1 p2 p3:ab) (w:Wn) (out:ab),muZ x u z r<n→ye x m u z d r p1 p2 p3 w out→
   eG (fun x_:zM=>mF x_.1 x_.2.1 x_.2.2.1 x_.2.2.2.1 x_.2.2.2.2.1 x_.2.2.2.2.2.1 x_.2.2.2.2.2.2.1 x_.2.2.2.2.2.2.2.1 x_.2.2.2.2.2.2.2.2.1 x_.2.2.2.2.2.2.2.2.2.1 x_.2.2.2.2.2.2.2.2.2.2) (x,m,u,z,d,r,p1,p2,p3,w,out) ((kV n x m u out (z,d,r,p1,p2,p3,w)).1,(kV n x m u out (z,d,r,p1,p2,p3,w)).2.2.1,(kV n x m u out (z,d,r,p1,p2,p3,w)).2.2.2.1,(kV n x m u out (z,d,r,p1,p2,p3,w)).2.2.2.2.1,(kV n x m u out (z,d,r,p1,p2,p3,w)).2.2.2.2.2.1,(kV n x m u out (z,d,r,p1,p2,p3,w)).2.2.2.2.2.2.1,(kV n x m u out (z,d,r,p1,p2,p3,w)).2.2.2.2.2.2.2.1,(kV n x m u out (z,d,r,p1,p2,p3,w)).2.2.2.2.2.2.2.2,(kV n x m u out (z,d,r,p1,p2,p3,w)).2.1):=by
  intro n;induction n with
  |zero=>intro u z d r p1 p2 p3 w out h;exact absurd h (Nat.not_lt_zero _)
  |succ n ih=>
   intro u z d r p1 p2 p3 w out hmu aZH;obtain⟨h1,h2,h3,h4,h5,h6,h7,h8,h9⟩:=id aZH;obtain⟨k1,k2,k3,k4,k5,k6⟩:=E4 (m:=m) h1 h2 ⟨h4,h5⟩ h6;rw[kV]
   have De:((eQ x m u out z d r p1 p2 p3 w).1=true→(mF x m u z d r p1 p2 p3 w out).Is (.inl (x,m,(eQ x m u out z d r p1 p2 p3 w).2.1,(eQ x m u out z d r p1 p2 p3 w).2.2.2.1,(eQ x m u out z d r p1 p2 p3 w).2.2.2.2.1,(eQ x m u out z d r p1 p2 p3 w).2.2.2.2.2.1,(eQ x m u out z d r p1 p2 p3 w).2.2.2.2.2.2.1,(eQ x m u out z d r p1 p2 p3 w).2.2.2.2.2.2.2.1,(eQ x m u out z d r p1 p2 p3 w).2.2.2.2.2.2.2.2.1,(eQ x m u out z d r p1 p2 p3 w).2.2.2.2.2.2.2.2.2,(eQ x m u out z d r p1 p2 p3 w).2.2.1)))∧
     ((eQ x m u out z d r p1 p2 p3 w).1=false→(mF x m u z d r p1 p2 p3 w out).Is (.inr ((eQ x m u out z d r p1 p2 p3 w).2.1,(eQ x m u out z d r p1 p2 p3 w).2.2.2.1,(eQ x m u out z d r p1 p2 p3 w).2.2.2.2.1,(eQ x m u out z d r p1 p2 p3 w).2.2.2.2.2.1,(eQ x m u out z d r p1 p2 p3 w).2.2.2.2.2.2.1,(eQ x m u out z d r p1 p2 p3 w).2.2.2.2.2.2.2.1,(eQ x m u out z d r p1 p2 p3 w).2.2.2.2.2.2.2.2.1,(eQ x m u out z d r p1 p2 p3 w).2.2.2.2.2.2.2.2.2,(eQ x m u out z d r p1 p2 p3 w).2.2.1))):=by
    obtain⟨g1,g2,g3,g4,g5,g6,g7,g8,g9,g10,g11⟩:=h1;simp only at g1 g2 g3 g4 g5 g6 g7 g8 g9 g10 g11;have bt:((true:Bool)==true)=true:=rfl;have bf:((false:Bool)==true)=false:=rfl;unfold eQ;by_cases c0:z.st=3∨z.st=4
    ·rw[if_pos c0];refine⟨fun h=>(by cases h),fun _=>?_⟩;rcases c0 with c|c<;>simp[mF,c,bY,bH]
    ·rw[if_neg c0];have b1:(z.st !=3)=true:=(by simpa using fun h=>c0 (.inl h));have b2:(z.st !=4)=true:=(by simpa using fun h=>c0 (.inr h));have hl:0≤z.left∧z.left≤z.plain-z.made:=g10.resolve_left fun h=>c0 (.inr h);by_cases c1:0<d.2.2
     ·rw[if_pos c1];by_cases c2:u=x.length
      ·rw[if_pos c2];refine⟨fun h=>(by cases h),fun _=>?_⟩;simp only[mF,mZ,dR,b1,b2,decide_eq_true c1,bt,bf,(show(u==(x.length:Int))=true by simpa using c2),dH,bF,bH];exact⟨trivial,(by first|exact True.intro|rfl)⟩
      ·rw[if_neg c2];refine⟨fun _=>?_,fun h=>by cases h⟩;have bu:(u==(x.length:Int))=false:=(by simpa using c2);have w1:i64.wrap (u+1)=u+1:=bM (by omega) (by omega);simp only[mF,mZ,dR,b1,b2,decide_eq_true c1,bt,bf,bu,w1,dH,dV,bF,bH];exact⟨trivial,trivial,⟨by omega,by omega⟩,⟨g1,h2.getD _⟩,(by first|exact True.intro|rfl)⟩
     ·rw[if_neg c1];by_cases c2:ET d=true
      ·rw[if_pos c2];refine⟨fun _=>?_,fun h=>by cases h⟩;simp only[mF,mZ,dR,b1,b2,decide_eq_false c1,bt,bf,c2,dH,dV,bF,bH];exact⟨trivial,trivial,trivial,(by first|exact True.intro|rfl)⟩
      ·rw[if_neg c2];have c2:ET d=false:=(by simpa using c2);by_cases c3:0<z.left
       ·rw[if_pos c3];by_cases c4:m≤out.length
        ·rw[if_pos c4];refine⟨fun h=>(by cases h),fun _=>?_⟩;simp only[mF,mZ,dR,b1,b2,decide_eq_false c1,c2,decide_eq_true c3,decide_eq_true c4,bt,bf,dH,dV,bF,bH];exact⟨trivial,trivial,trivial,(by first|exact True.intro|rfl)⟩
        ·rw[if_neg c4];refine⟨fun _=>?_,fun h=>by cases h⟩;simp only[mF,mZ,dR,b1,b2,decide_eq_false c1,c2,decide_eq_true c3,decide_eq_false c4,bt,bf,dH,dV,bF,bH];exact⟨trivial,trivial,trivial,⟨g6,by omega,by omega,by omega,by omega⟩,by omega,(by first|exact True.intro|rfl)⟩
       ·rw[if_neg c3];by_cases c4:z.made=z.plain
        ·rw[if_pos c4];refine⟨fun _=>?_,fun h=>by cases h⟩;have be:(z.made==z.plain)=true:=(by simpa using c4);simp only[mF,mZ,dR,b1,b2,decide_eq_false c1,c2,decide_eq_false c3,be,bt,bf,dH,dV,bF,bH];exact⟨trivial,trivial,trivial,trivial,(by first|exact True.intro|rfl)⟩
        ·rw[if_neg c4];refine⟨fun _=>?_,fun h=>by cases h⟩;have be:(z.made==z.plain)=false:=(by simpa using c4);simp only[mF,mZ,dR,b1,b2,decide_eq_false c1,c2,decide_eq_false c3,be,bt,bf,dH,dV,bF];refine⟨trivial,trivial,trivial,⟨g2,g3,g4,g5,g1,g9.1,g9.2.1,g9.2.2⟩,?_⟩;cases hq:(iv z (cE r p1 p2 p3 d).1).1 with
         |true=>exact cm.2 ⟨fun _=>rfl,fun h=>by cases h⟩
         |false=>exact cm.2 ⟨fun h=>(by cases h),fun _=>rfl⟩
   change _∧_ at De;by_cases c:(eQ x m u out z d r p1 p2 p3 w).1=true
   ·rw[if_pos (show(mL x m u out (z,d,r,p1,p2,p3,w)).1=true from c)];refine .go (De.1 c) (ih _ _ _ _ _ _ _ _ _ ?_ ⟨k1,h2,h3,?_,k3,k4,?_,h8,h9⟩)
    ·have:=k6 c;omega
    ·omega
    ·exact amP h7 h9
   ·rw[if_neg (show ¬ (mL x m u out (z,d,r,p1,p2,p3,w)).1=true from c)];exact .stop (De.2 (by simpa using c))
 exact key _ u z d r p1 p2 p3 w out (Nat.lt_succ_self _) h_
theorem aeg(y_):∀x:zM,Ex aA (hLz.wr y_) (.loop (cG f199 0)) (amQ.wr x) (amS x):=ee bJ ((bI EU (bI Re (bI Rf (bI Z0 (bI Z3 (bI Z5 bU))))))) (ws:=aIC) (cn.nil _) (fun _=>by kernel_rfl) (fun z e=>by cases e) im (fun x_ h=>amT x_.1 x_.2.1 x_.2.2.1 x_.2.2.2.1 x_.2.2.2.2.1 x_.2.2.2.2.2.1 x_.2.2.2.2.2.2.1 x_.2.2.2.2.2.2.2.1 x_.2.2.2.2.2.2.2.2.1 x_.2.2.2.2.2.2.2.2.2.1 x_.2.2.2.2.2.2.2.2.2.2 h)
def nT(x:ab)(m:Int)(z:Lz)(d:Int×Int×Int)(r:RH)(p1 p2 p3:ab)(w:ab×Int):Int×ab×Lz×(Int×Int×Int)×RH×ab×ab×ab×ab×Int:=fG x m 0 [] (z,d,r,p1,p2,p3,w)
abbrev Z7:Type:=Int×ab×Int×Lz×(Int×Int×Int)×RH×ab×ab×ab×(ab×Int)
abbrev aSH(x:Z7):LV:=LV.dB [VV.sc (ar x.1),VV.sc (SV.rd true false ae x.2.1),VV.sc (ar x.2.2.1)]
abbrev aSI(x:Z7):List ao:= [(0,jLz.wr x.2.2.2.1),(1,Oe.wr x.2.2.2.2.1),(2,aee.wr x.2.2.2.2.2.1),(3,bE.cK [SV.sl 4 1] 336),(4,bE.own 1 (Ty.int u16) x.2.2.2.2.2.2.1),(5,bE.cK [SV.sl 6 1] 336),(6,bE.own 1 (Ty.int u16) x.2.2.2.2.2.2.2.1),(7,bE.cK [SV.sl 8 1] 336),(8,bE.own 1 (Ty.int u16) x.2.2.2.2.2.2.2.2.1),(9,jWn.wr x.2.2.2.2.2.2.2.2.2)]
def aB2(x:ab)(m:Int)(z:Lz)(d:Int×Int×Int)(r:RH)(p1 p2 p3:ab)(w:ab×Int):Tr Z7:=.need (ye x m 0 z d r p1 p2 p3 w []) (.ret ((nT x m z d r p1 p2 p3 w).1,(nT x m z d r p1 p2 p3 w).2.1,(nT x m z d r p1 p2 p3 w).2.2.1.st,(nT x m z d r p1 p2 p3 w).2.2.1,(nT x m z d r p1 p2 p3 w).2.2.2.1,(nT x m z d r p1 p2 p3 w).2.2.2.2.1,(nT x m z d r p1 p2 p3 w).2.2.2.2.2.1,(nT x m z d r p1 p2 p3 w).2.2.2.2.2.2.1,(nT x m z d r p1 p2 p3 w).2.2.2.2.2.2.2.1,(nT x m z d r p1 p2 p3 w).2.2.2.2.2.2.2.2))
abbrev tU(x:ab)(m:Int)(z:Lz)(d:Dc)(r:RH)(p1 p2 p3:ab)(w:Wn):Prop:=Rj (z,d,r,p1,p2,p3,w)∧bL x∧x.length<1099511627776∧0≤m∧m<1099511627776
abbrev amU(x:ab)(m:Int)(z:Lz)(d:Dc)(r:RH)(p1 p2 p3:ab)(w:Wn):Z7:=((fG x m 0 [] (z,d,r,p1,p2,p3,w)).1,(fG x m 0 [] (z,d,r,p1,p2,p3,w)).2.1,(fG x m 0 [] (z,d,r,p1,p2,p3,w)).2.2.1.st,(fG x m 0 [] (z,d,r,p1,p2,p3,w)).2.2)
def aSJ:bT:=cj [none,some u8,none] ((bR (bO (cr 0 0)) (bD (bO (gx false false u8)) (bD (bO (bX .i64)) bG)))) hLz (q7∘q2 tU) (q7∘q2 amU) aSH aSI
theorem awM(x:ab)(m:Int)(z:Lz)(d:Dc)(r:RH)(p1 p2 p3:ab)(w:Wn)(h_:tU x m z d r p1 p2 p3 w):(aB2 x m z d r p1 p2 p3 w).Is (amU x m z d r p1 p2 p3 w):=by
 delta amU;obtain⟨h1,h2,h3,h4,h5⟩:=h_;simp only[aB2,nT,bF,bH];exact⟨⟨h1,h2,h3,by decide,by omega,.nil,by decide,h4,h5⟩,trivial⟩
theorem BY:aSJ.Ok aA 199:=az (bI EU (bI Re (bI Rf (bI Z0 (bI Z3 (bI Z5 bU)))))) func199 call199 (ks:= [.one 4,.one 6,.one 8,.pN,.fr [.rd true u8],.fr [.sym],.cu,.bS,.ck]) amQ amR amS aeg (fun x_ y_ h=>awM x_.1 x_.2.1 y_.1 y_.2.1 y_.2.2.1 y_.2.2.2.1 y_.2.2.2.2.1 y_.2.2.2.2.2.1 y_.2.2.2.2.2.2.1 h)
theorem aB3:∀ (n:Nat) {x:ab} {m u:Int} {out:ab} {S:ZS},Rj S→bL x→0≤u∧u≤x.length→bL out→Rj (kV n x m u out S).2.2∧u≤(kV n x m u out S).1∧(kV n x m u out S).1≤x.length∧bL (kV n x m u out S).2.1∧(kV n x m u out S).2.2.1.plain=S.1.plain
 |0,_,_,_,_,_,h1,_,h3,h4=>⟨h1,Int.le_refl _,h3.2,h4,rfl⟩
 |n+1,x,m,u,out,S,h1,h2,h3,h4=>by
  rw[kV];obtain⟨k1,k2,k3,k4,k5,_⟩:=E4 (m:=m) h1 h2 h3 h4;split
  ·obtain⟨i1,i2,i3,i4,i5⟩:=aB3 n (m:=m) k1 h2 ⟨Int.le_trans h3.1 k2,k3⟩ k4;exact⟨i1,Int.le_trans k2 i2,i3,i4,i5.trans k5⟩
  ·exact⟨k1,k2,k3,k4,k5⟩
structure PP where
 bQ:Int
 block:Int
 part:Int
 len:Int
 cS:Int
 buf:ab
 bad:Bool
abbrev cPP:cl (List SV) PP:=(bD (bX .i64) (bD (bX .i64) (bD (bX .i64) (bD (bX .i64) (bD (bX .i64) (bD (oa u8 4096) (bD ou bG))))))).jr (fun x=>⟨x.1,x.2.1,x.2.2.1,x.2.2.2.1,x.2.2.2.2.1,x.2.2.2.2.2.1,x.2.2.2.2.2.2.1⟩) (fun p=>(p.bQ,p.block,p.part,p.len,p.cS,p.buf,p.bad,())) (fun _=>rfl)
abbrev pI(p:PP):bE:=.cK (cPP.wr p) 187
abbrev Vq:cl Hp (PP×Unit):=bD (ob 187 cPP) bG
abbrev AM:Wk:=.cK 0 (List.replicate 7 .sym)
def aIE:bT:=bT.fw [] (bR p0 bG) Vq fun _ h=>.bN none (nB (h.1.part==0)) []
def amV:bT:=bT.fw [] (bR p0 (bD (bO (bX .i64)) (bD (bO (bX .i64)) bG))) Vq fun x h=>.bN none (.dB []) [(0,pI {h.1 with part:=x.1,len:=0,cS:=x.2.1})]
def dY(p:PP):PP:=if p.block<p.bQ then {p with part:=4,len:=0,cS:=4}else {p with part:=0,len:=0,cS:=0}
def L0:bT:=bT.fw [] (bR p0 bG) Vq fun _ h=>.bN none (.dB []) [(0,pI (dY h.1))]
def lI(l:ab):Bool:=decide (1≤two l 0∧two l 0≤4096∧1≤two l 2∧two l 2≤8192)
def Z8:bT:=bT.fw [some u8] bA bG fun x _=>.bN (some (4≤x.1.length)) (.dB [.sc (.int .i64 (.sym (two x.1 0))),.sc (.int .i64 (.sym (two x.1 2))),.sc (.bool (.sym (lI x.1)))]) []
theorem Vr(p:PP):cY aA [] [] f74 ((bR p0 bG).wr ()) (Vq.wr (p,())) [.fr [.sym],AM,.bS]=End.bN (LV.one (VV.sc (SV.bool (SB.sym (p.part==(0:Int)))))) [some (bE.cK [SV.int i64 (SI.sym p.bQ),SV.int i64 (SI.sym p.block),SV.int i64 (SI.sym p.part),SV.int i64 (SI.sym p.len),SV.int i64 (SI.sym p.cS),SV.arr ae 4096 p.buf,SV.bool (SB.sym p.bad)] 187)]:=by kernel_rfl
theorem aeh(p:PP)(x y:Int):cY aA [] [] f146 ((bR p0 (bD (bO (bX .i64)) (bD (bO (bX .i64)) bG))).wr (x,y,())) (Vq.wr (p,())) [AM,.bS]=End.bN (LV.dB []) [some (bE.cK [SV.int i64 (SI.sym p.bQ),SV.int i64 (SI.sym p.block),SV.int i64 (SI.sym x),SV.int i64 (SI.sym 0),SV.int i64 (SI.sym y),SV.arr ae 4096 p.buf,SV.bool (SB.sym p.bad)] 187)]:=by kernel_rfl
theorem Vs(p:PP):cY aA [(146,amV)] [] f148 ((bR p0 bG).wr ()) (Vq.wr (p,())) [AM,.bS]=End.ite (decide (p.block<p.bQ)) (End.bN (LV.dB []) [some (bE.cK [SV.int i64 (SI.sym p.bQ),SV.int i64 (SI.sym p.block),SV.int i64 (SI.sym 4),SV.int i64 (SI.sym 0),SV.int i64 (SI.sym 4),SV.arr ae 4096 p.buf,SV.bool (SB.sym p.bad)] 187)]) (End.bN (LV.dB []) [some (bE.cK [SV.int i64 (SI.sym p.bQ),SV.int i64 (SI.sym p.block),SV.int i64 (SI.sym 0),SV.int i64 (SI.sym 0),SV.int i64 (SI.sym 0),SV.arr ae 4096 p.buf,SV.bool (SB.sym p.bad)] 187)]):=by kernel_rfl
theorem Rk(l:ab):cY aA [] [] f147 (bA.wr (l,())) [] [.fr [.sym],.bS]=End.need ((0:Int)≤(0:Int)∧(0:Int)<l.length) (End.need ((0:Int)≤(1:Int)∧(1:Int)<l.length) (End.need ((0:Int) ≤(2:Int)∧(2:Int)<l.length) (End.need ((0:Int)≤(3:Int)∧(3:Int)<l.length) (End.ite (decide ((1:Int)≤cV i64 (i64.wrap (l.getD 0 0)) (shl i64 (i64.wrap (l.getD 1 0)) (8:Int)))==true) (End.ite (decide (cV i64 (i64.wrap (l.getD 0 0)) (shl i64 (i64.wrap (l.getD 1 0)) (8:Int))≤(4096:Int))==true) (End.ite (decide ((1:Int)≤cV i64 (i64.wrap (l.getD 2 0)) (shl i64 (i64.wrap (l.getD 3 0)) (8:Int)))==true) (End.bN (LV.dB [VV.sc (SV.int i64 (SI.sym (cV i64 (i64.wrap (l.getD 0 0)) (shl i64 (i64.wrap (l.getD 1 0)) (8:Int))))),VV.sc (SV.int i64 (SI.sym (cV i64 (i64.wrap (l.getD 2 0)) (shl i64 (i64.wrap (l.getD 3 0)) (8:Int))))),VV.sc (SV.bool (SB.sym (decide (cV i64 (i64.wrap (l.getD 2 0)) (shl i64 (i64.wrap (l.getD 3 0)) (8:Int))≤(8192:Int)))))]) []) (End.bN (LV.dB [VV.sc (SV.int i64 (SI.sym (cV i64 (i64.wrap (l.getD 0 0)) (shl i64 (i64.wrap (l.getD 1 0)) (8:Int))))),VV.sc (SV.int i64 (SI.sym (cV i64 (i64.wrap (l.getD 2 0)) (shl i64 (i64.wrap (l.getD 3 0)) (8:Int))))),VV.sc (SV.bool (SB.sym false))]) [])) (End.bN (LV.dB [VV.sc (SV.int i64 (SI.sym (cV i64 (i64.wrap (l.getD 0 0)) (shl i64 (i64.wrap (l.getD 1 0)) (8:Int))))),VV.sc (SV.int i64 (SI.sym (cV i64 (i64.wrap (l.getD 2 0)) (shl i64 (i64.wrap (l.getD 3 0)) (8:Int))))),VV.sc (SV.bool (SB.sym false))]) [])) (End.bN (LV.dB [VV.sc (SV.int i64 (SI.sym (cV i64 (i64.wrap (l.getD 0 0)) (shl i64 (i64.wrap (l.getD 1 0)) (8:Int))))),VV.sc (SV.int i64 (SI.sym (cV i64 (i64.wrap (l.getD 2 0)) (shl i64 (i64.wrap (l.getD 3 0)) (8:Int))))),VV.sc (SV.bool (SB.sym false))]) []))))):=by kernel_rfl
theorem Rl:aIE.Ok aA 74:=by
 refine(bT.df call74 fun x y Q h=>?_).sym;obtain⟨p,_⟩:=y;refine(cg bJ bU func74 rfl (LT:= []) (ks:= [.fr [.sym],AM,.bS]) (cn.nil _)).use (D:= []) ?_ h.2;show(cY _ _ _ _ ((bR p0 bG).wr ()) (Vq.wr (p,())) _).sat _;rw[Vr];exact⟨rfl,rfl⟩
theorem Z9:amV.Ok aA 146:=by
 refine(bT.df call146 fun x y Q h=>?_).sym;obtain⟨p,_⟩:=y;obtain⟨a,b,_⟩:=x;refine(cg bJ bU func146 rfl (LT:= []) (ks:= [AM,.bS]) (cn.nil _)).use (D:= [(0,pI {p with part:=a,len:=0,cS:=b})]) ?_ h.2;show(cY _ _ _ _ ((bR p0 (bD (bO (bX .i64)) (bD (bO (bX .i64)) bG))).wr (a,b,())) (Vq.wr (p,())) _).sat _;rw[aeh];exact⟨rfl,rfl⟩
theorem Rm:L0.Ok aA 148:=by
 refine(bT.df call148 fun x y Q h=>?_).sym;obtain⟨p,_⟩:=y;refine(cg bJ (bI Z9 bU) func148 rfl (LT:= []) (ks:= [AM,.bS]) (cn.nil _)).use (D:= [(0,pI (dY p))]) ?_ h.2;show(cY _ _ _ _ ((bR p0 bG).wr ()) (Vq.wr (p,())) _).sat _;rw[Vs];refine⟨fun hb=>⟨rfl,?_⟩,fun hb=>⟨rfl,?_⟩⟩
 ·simp at hb;unfold dY;rw[if_pos hb];rfl
 ·simp at hb;unfold dY;rw[if_neg (by omega)];rfl
theorem HA:Z8.Ok aA 147:=by
 refine(bT.df call147 fun x y Q h=>?_).sym;obtain⟨l,_⟩:=x;obtain⟨hl,hq⟩:=h;have hl:4≤l.length:=hl;refine(cg bJ bU func147 rfl (LT:= []) (ks:=aq) (cn.nil _)).use (D:= []) ?_ hq;show(cY _ _ _ _ (bA.wr (l,())) [] _).sat _;rw[Rk];have key:∀ {b:Bool},b=lI l→LV.dB [.sc (.int .i64 (.sym (two l 0))),.sc (.int .i64 (.sym (two l 2))),.sc (.bool (.sym b))]=LV.dB [.sc (.int .i64 (.sym (two l 0))),.sc (.int .i64 (.sym (two l 2))),.sc (.bool (.sym (lI l)))]:=fun h=>by rw[h]
 have e0:two l 0=cV .i64 (i64.wrap (l.getD 0 0)) (shl .i64 (i64.wrap (l.getD 1 0)) 8):=rfl;have e2:two l 2=cV .i64 (i64.wrap (l.getD 2 0)) (shl .i64 (i64.wrap (l.getD 3 0)) 8):=rfl;rw[← e0,← e2];refine⟨by omega,by omega,by omega,by omega,fun h1=>⟨fun h2=>⟨fun h3=>⟨key ?_,rfl⟩,fun h3=>⟨key ?_,rfl⟩⟩,fun h2=>⟨key ?_,rfl⟩⟩,fun h1=>⟨key ?_,rfl⟩⟩<;>simp_all[lI]<;>omega
def dS(p:PP)(b:ab):PP×Bool:=if p.part=1 then({p with bQ:=(cJ b).1.2,part:=2,len:=0,cS:=216},(cJ b).2)
 else if p.part=2 then({p with part:=3,len:=0,cS:=i64.wrap (64*p.bQ)},true)
 else if p.part=4 then(if lI b then {p with part:=5,len:=0,cS:=two b 0}else p,lI b)
 else if p.part=5 then(dY {p with block:=i64.wrap (p.block+1)},true)
 else(dY p,true)
abbrev pbA:cl (List LV) (ab×Unit):=bR p0 (bD (bO (gx false false u8)) bG)
def aB4:bT:=bT.fw [none,some u8] pbA Vq fun x h=>.bN (some (h.1.part=4→4≤x.1.length)) (nB (dS h.1 x.1).2) [(0,pI (dS h.1 x.1).1)]
theorem aei(p:PP)(b:ab):cY aA [(135,sA),(147,Z8),(146,amV),(148,L0)] [] f106 (pbA.wr (b,())) (Vq.wr (p,())) [.fr [.sym],AM,.bS]=End.ite (p.part==(1:Int)) (End.bN (LV.one (VV.sc (SV.bool (SB.sym (cJ b).2)))) [some (bE.cK [SV.int i64 (SI.sym (cJ b).1.2),SV.int i64 (SI.sym p.block),SV.int i64 (SI.sym 2),SV.int i64 (SI.sym 0),SV.int i64 (SI.sym 216),SV.arr ae 4096 p.buf,SV.bool (SB.sym p.bad)] 187)]) (End.ite (p.part==(2:Int)) (End.bN (LV.one (VV.sc (SV.bool (SB.sym true)))) [some (bE.cK [SV.int i64 (SI.sym p.bQ),SV.int i64 (SI.sym p.block),SV.int i64 (SI.sym 3),SV.int i64 (SI.sym 0),SV.int i64 (SI.sym (i64.wrap (64*p.bQ))),SV.arr ae 4096 p.buf,SV.bool (SB.sym p.bad)] 187)]) (End.ite (p.part==(4:Int)) (End.need (4≤b.length) (End.ite (lI b) (End.bN (LV.one (VV.sc (SV.bool (SB.sym (lI b))))) [some (bE.cK [SV.int i64 (SI.sym p.bQ),SV.int i64 (SI.sym p.block),SV.int i64 (SI.sym 5),SV.int i64 (SI.sym 0),SV.int i64 (SI.sym (two b 0)),SV.arr ae 4096 p.buf,SV.bool (SB.sym p.bad)] 187)]) (End.bN (LV.one (VV.sc (SV.bool (SB.sym (lI b))))) [some (bE.cK [SV.int i64 (SI.sym p.bQ),SV.int i64 (SI.sym p.block),SV.int i64 (SI.sym p.part),SV.int i64 (SI.sym p.len),SV.int i64 (SI.sym p.cS),SV.arr ae 4096 p.buf,SV.bool (SB.sym p.bad)] 187)]))) (End.ite (p.part==(5:Int)) (End.bN (LV.one (VV.sc (SV.bool (SB.sym true)))) [some (bE.cK [SV.int i64 (SI.sym (dY {bQ:=p.bQ,block:=i64.wrap (p.block+1),part:=p.part,len:=p.len,cS:=p.cS,buf:=p.buf,bad:=p.bad}).bQ),SV.int i64 (SI.sym (dY {bQ:=p.bQ,block:=i64.wrap (p.block+1),part:=p.part,len:=p.len,cS:=p.cS,buf:=p.buf,bad:=p.bad}).block),SV.int i64 (SI.sym (dY {bQ:=p.bQ,block:=i64.wrap (p.block+1),part:=p.part,len:=p.len,cS:=p.cS,buf:=p.buf,bad:=p.bad}).part),SV.int i64 (SI.sym (dY {bQ:=p.bQ,block:=i64.wrap (p.block+1),part:=p.part,len:=p.len,cS:=p.cS,buf:=p.buf,bad:=p.bad}).len),SV.int i64 (SI.sym (dY {bQ:=p.bQ,block:=i64.wrap (p.block+1),part:=p.part,len:=p.len,cS:=p.cS,buf:=p.buf,bad:=p.bad}).cS),SV.arr ae 4096 (dY {bQ:=p.bQ,block:=i64.wrap (p.block+1),part:=p.part,len:=p.len,cS:=p.cS,buf:=p.buf,bad:=p.bad}).buf,SV.bool (SB.sym (dY {bQ:=p.bQ,block:=i64.wrap (p.block+1),part:=p.part,len:=p.len,cS:=p.cS,buf:=p.buf,bad:=p.bad}).bad)] 187)]) (End.bN (LV.one (VV.sc (SV.bool (SB.sym true)))) [some (bE.cK [SV.int i64 (SI.sym (dY p).bQ),SV.int i64 (SI.sym (dY p).block),SV.int i64 (SI.sym (dY p).part),SV.int i64 (SI.sym (dY p).len),SV.int i64 (SI.sym (dY p).cS),SV.arr ae 4096 (dY p).buf,SV.bool (SB.sym (dY p).bad)] 187)])))):=by kernel_rfl
theorem awN:aB4.Ok aA 106:=by
 refine(bT.df call106 fun x y Q h=>?_).sym;obtain⟨p,_⟩:=y;obtain⟨b,_⟩:=x;obtain⟨hl,hq⟩:=h;have hl:p.part=4→4≤b.length:=hl;refine(cg bJ (bI uW (bI HA (bI Z9 (bI Rm bU)))) func106 rfl (LT:= []) (ks:= [.fr [.sym],AM,.bS]) (cn.nil _)).use (D:= [(0,pI (dS p b).1)]) ?_ hq;show(cY _ _ _ _ (pbA.wr (b,())) (Vq.wr (p,())) _).sat _;rw[aei];refine⟨fun h1=>?_,fun h1=>⟨fun h2=>?_,fun h2=>⟨fun h3=>⟨hl (beq_iff_eq.1 h3),fun h4=>?_,fun h4=>?_⟩,fun h3=>⟨fun h4=>?_,fun h4=>?_⟩⟩⟩⟩
 ·have e:dS p b=({p with bQ:=(cJ b).1.2,part:=2,len:=0,cS:=216},(cJ b).2):=by simp at h1;simp[dS,h1]
  rw[e];exact⟨rfl,rfl⟩
 ·have e:dS p b=({p with part:=3,len:=0,cS:=i64.wrap (64*p.bQ)},true):=by simp at h1 h2;simp[dS,h2]
  rw[e];exact⟨rfl,rfl⟩
 ·have e:dS p b=({p with part:=5,len:=0,cS:=two b 0},lI b):=by simp at h1 h2 h3;simp[dS,h3,h4]
  rw[e];exact⟨rfl,rfl⟩
 ·have e:dS p b=(p,lI b):=by simp at h1 h2 h3;simp[dS,h3,h4]
  rw[e];exact⟨rfl,rfl⟩
 ·have e:dS p b=(dY {p with block:=i64.wrap (p.block+1)},true):=by simp at h1 h2 h3 h4;simp[dS,h4]
  rw[e];exact⟨rfl,rfl⟩
 ·have e:dS p b=(dY p,true):=by simp at h1 h2 h3 h4;simp[dS,h1,h2,h3,h4]
  rw[e];exact⟨rfl,rfl⟩
def du(p:PP)(b:Int):PP×(Int×ab×Bool×Int):=if p.bad=true∨p.part=0 then({p with bad:=true},0,[],false,6)
 else
  let q:PP:= {p with buf:=p.buf.set p.len.toNat b,len:=i64.wrap (p.len+1)}
  if q.len<q.cS then(q,0,[],false,0)
  else
   let l:=q.buf.take q.len.toNat
   let r:=dS q l
   if r.2=true then(r.1,q.part,l,true,0)else({r.1 with bad:=true},0,[],false,6)
abbrev pcA:cl (List LV) (Int×Unit):=bR p0 (bD (bO (bX .u8)) bG)
theorem aej(p:PP)(b:Int):cY aA [(43,afY),(106,aB4)] [] f71 (pcA.wr (b,())) (Vq.wr (p,())) [.fr [.sym],.fr [.rd true u8],AM,.bS]=End.ite (p.bad==false) (End.ite (p.part==(0:Int)) (End.bN (LV.dB [VV.agg [SV.int i64 (SI.sym 0),SV.rd true false ae []],VV.sc (SV.bool (SB.sym false)),VV.sc (SV.int i64 (SI.sym 6))]) [some (bE.cK [SV.int i64 (SI.sym p.bQ),SV.int i64 (SI.sym p.block),SV.int i64 (SI.sym p.part),SV.int i64 (SI.sym p.len),SV.int i64 (SI.sym p.cS),SV.arr ae 4096 p.buf,SV.bool (SB.sym true)] 187)]) (End.need ((0:Int)≤p.len∧p.len<(4096:Int)) (End.ite (decide (i64.wrap (p.len+1)<p.cS)) (End.bN (LV.dB [VV.agg [SV.int i64 (SI.sym 0),SV.rd true false ae []],VV.sc (SV.bool (SB.sym false)),VV.sc (SV.int i64 (SI.sym 0))]) [some (bE.cK [SV.int i64 (SI.sym p.bQ),SV.int i64 (SI.sym p.block),SV.int i64 (SI.sym p.part),SV.int i64 (SI.sym (i64.wrap (p.len+1))),SV.int i64 (SI.sym p.cS),SV.arr ae 4096 (p.buf.set (0+p.len.toNat) b),SV.bool (SB.sym p.bad)] 187)]) (End.need ((0:Int)≤(0:Int)∧(0:Int)≤i64.wrap (p.len+1)∧i64.wrap (p.len+1)≤(4096:Int)) (End.need ((List.take (i64.wrap (p.len+1)-0).toNat (List.drop 0 (p.buf.set (0+p.len.toNat) b))).length≤ 70368744177664) (End.need (p.part=(4:Int)→4≤(List.take (i64.wrap (p.len+1)-0).toNat (List.drop 0 (p.buf.set (0+p.len.toNat) b))).length) (End.ite (!(dS {bQ:=p.bQ,block:=p.block,part:=p.part,len:=i64.wrap (p.len+1),cS:=p.cS,buf:=p.buf.set (0+p.len.toNat) b,bad:=p.bad} (List.take (i64.wrap (p.len+1)-0).toNat (List.drop 0 (p.buf.set (0+p.len.toNat) b)))).2) (End.bN (LV.dB [VV.agg [SV.int i64 (SI.sym 0),SV.rd true false ae []],VV.sc (SV.bool (SB.sym false)),VV.sc (SV.int i64 (SI.sym 6))]) [some (bE.cK [SV.int i64 (SI.sym (dS {bQ:=p.bQ,block:=p.block,part:=p.part,len:=i64.wrap (p.len+1),cS:=p.cS,buf:=p.buf.set (0+p.len.toNat) b,bad:=p.bad} (List.take (i64.wrap (p.len+1)-0).toNat (List.drop 0 (p.buf.set (0+p.len.toNat) b)))).1.bQ),SV.int i64 (SI.sym (dS {bQ:=p.bQ,block:=p.block,part:=p.part,len:=i64.wrap (p.len+1),cS:=p.cS,buf:=p.buf.set (0+p.len.toNat) b,bad:=p.bad} (List.take (i64.wrap (p.len+1)-0).toNat (List.drop 0 (p.buf.set (0+p.len.toNat) b)))).1.block),SV.int i64 (SI.sym (dS {bQ:=p.bQ,block:=p.block,part:=p.part,len:=i64.wrap (p.len+1),cS:=p.cS,buf:=p.buf.set (0+p.len.toNat) b,bad:=p.bad} (List.take (i64.wrap (p.len+1)-0).toNat (List.drop 0 (p.buf.set (0+p.len.toNat) b)))).1.part),SV.int i64 (SI.sym (dS {bQ:=p.bQ,block:=p.block,part:=p.part,len:=i64.wrap (p.len+1),cS:=p.cS,buf:=p.buf.set (0+p.len.toNat) b,bad:=p.bad} (List.take (i64.wrap (p.len+1)-0).toNat (List.drop 0 (p.buf.set (0+p.len.toNat) b)))).1.len),SV.int i64 (SI.sym (dS {bQ:=p.bQ,block:=p.block,part:=p.part,len:=i64.wrap (p.len+1),cS:=p.cS,buf:=p.buf.set (0+p.len.toNat) b,bad:=p.bad} (List.take (i64.wrap (p.len+1)-0).toNat (List.drop 0 (p.buf.set (0+p.len.toNat) b)))).1.cS),SV.arr ae 4096 (dS {bQ:=p.bQ,block:=p.block,part:=p.part,len:=i64.wrap (p.len+1),cS:=p.cS,buf:=p.buf.set (0+p.len.toNat) b,bad:=p.bad} (List.take (i64.wrap (p.len+1)-0).toNat (List.drop 0 (p.buf.set (0+p.len.toNat) b)))).1.buf,SV.bool (SB.sym true)] 187)]) (End.bN (LV.dB [VV.agg [SV.int i64 (SI.sym p.part),SV.rd true false ae (List.take (i64.wrap (p.len+1)-0).toNat (List.drop 0 (p.buf.set (0+p.len.toNat) b)))],VV.sc (SV.bool (SB.sym true)),VV.sc (SV.int i64 (SI.sym 0))]) [some (bE.cK [SV.int i64 (SI.sym (dS {bQ:=p.bQ,block:=p.block,part:=p.part,len:=i64.wrap (p.len+1),cS:=p.cS,buf:=p.buf.set (0+p.len.toNat) b,bad:=p.bad} (List.take (i64.wrap (p.len+1)-0).toNat (List.drop 0 (p.buf.set (0+p.len.toNat) b)))).1.bQ),SV.int i64 (SI.sym (dS {bQ:=p.bQ,block:=p.block,part:=p.part,len:=i64.wrap (p.len+1),cS:=p.cS,buf:=p.buf.set (0+p.len.toNat) b,bad:=p.bad} (List.take (i64.wrap (p.len+1)-0).toNat (List.drop 0 (p.buf.set (0+p.len.toNat) b)))).1.block),SV.int i64 (SI.sym (dS {bQ:=p.bQ,block:=p.block,part:=p.part,len:=i64.wrap (p.len+1),cS:=p.cS,buf:=p.buf.set (0+p.len.toNat) b,bad:=p.bad} (List.take (i64.wrap (p.len+1)-0).toNat (List.drop 0 (p.buf.set (0+p.len.toNat) b)))).1.part),SV.int i64 (SI.sym (dS {bQ:=p.bQ,block:=p.block,part:=p.part,len:=i64.wrap (p.len+1),cS:=p.cS,buf:=p.buf.set (0+p.len.toNat) b,bad:=p.bad} (List.take (i64.wrap (p.len+1)-0).toNat (List.drop 0 (p.buf.set (0+p.len.toNat) b)))).1.len),SV.int i64 (SI.sym (dS {bQ:=p.bQ,block:=p.block,part:=p.part,len:=i64.wrap (p.len+1),cS:=p.cS,buf:=p.buf.set (0+p.len.toNat) b,bad:=p.bad} (List.take (i64.wrap (p.len+1)-0).toNat (List.drop 0 (p.buf.set (0+p.len.toNat) b)))).1.cS),SV.arr ae 4096 (dS {bQ:=p.bQ,block:=p.block,part:=p.part,len:=i64.wrap (p.len+1),cS:=p.cS,buf:=p.buf.set (0+p.len.toNat) b,bad:=p.bad} (List.take (i64.wrap (p.len+1)-0).toNat (List.drop 0 (p.buf.set (0+p.len.toNat) b)))).1.buf,SV.bool (SB.sym (dS {bQ:=p.bQ,block:=p.block,part:=p.part,len:=i64.wrap (p.len+1),cS:=p.cS,buf:=p.buf.set (0+p.len.toNat) b,bad:=p.bad} (List.take (i64.wrap (p.len+1)-0).toNat (List.drop 0 (p.buf.set (0+p.len.toNat) b)))).1.bad)] 187)])))))))) (End.bN (LV.dB [VV.agg [SV.int i64 (SI.sym 0),SV.rd true false ae []],VV.sc (SV.bool (SB.sym false)),VV.sc (SV.int i64 (SI.sym 6))]) [some (bE.cK [SV.int i64 (SI.sym p.bQ),SV.int i64 (SI.sym p.block),SV.int i64 (SI.sym p.part),SV.int i64 (SI.sym p.len),SV.int i64 (SI.sym p.cS),SV.arr ae 4096 p.buf,SV.bool (SB.sym true)] 187)]):=by kernel_rfl
def aSK(r:Int×ab×Bool×Int):LV:=.dB [.agg [.int .i64 (.sym r.1),.rd true false u8 r.2.1],.sc (.bool (.sym r.2.2.1)),.sc (.int .i64 (.sym r.2.2.2))]
def aaa:bT:=bT.fw [] pcA Vq fun x h=>.bN (some (h.1.bad=false→h.1.part≠0→0≤h.1.len∧h.1.len<4096∧h.1.buf.length=4096∧(h.1.part=4→h.1.cS=4))) (aSK (du h.1 x.1).2) [(0,pI (du h.1 x.1).1)]
theorem yf:aaa.Ok aA 71:=by
 refine(bT.df call71 fun x y Q h=>?_).sym;obtain⟨p,_⟩:=y;obtain⟨b,_⟩:=x;obtain⟨hl,hq⟩:=h;have hl:p.bad=false→p.part≠0→0≤p.len∧p.len<4096∧p.buf.length=4096∧(p.part=4→p.cS=4):=hl;refine(cg bJ (bI jA (bI awN bU)) func71 rfl (LT:= []) (ks:= [.fr [.sym],.fr [.rd true u8],AM,.bS]) (cn.nil _)).use (D:= [(0,pI (du p b).1)]) ?_ hq;show(cY _ _ _ _ (pcA.wr (b,())) (Vq.wr (p,())) _).sat _;rw[aej];simp only[Nat.zero_add,Int.sub_zero,List.drop_zero];have e0:p.bad=true∨p.part=0→du p b=({p with bad:=true},0,[],false,6):=fun h=>if_pos h;generalize hqq:({p with buf:=p.buf.set p.len.toNat b,len:=i64.wrap (p.len+1)}:PP)=q;generalize hll:List.take (i64.wrap (p.len+1)).toNat (p.buf.set p.len.toNat b)=l
 have e1:¬ (p.bad=true∨p.part=0)→i64.wrap (p.len+1)<p.cS→du p b=(q,0,[],false,0):=fun h h'=>by
  subst hqq;unfold du;rw[if_neg h];exact if_pos h'
 have e2:¬ (p.bad=true∨p.part=0)→¬i64.wrap (p.len+1)<p.cS→(dS q l).2=true→du p b=((dS q l).1,p.part,l,true,0):=fun h h' h2=>by
  subst hqq hll;unfold du;rw[if_neg h];refine(if_neg h').trans ?_;exact if_pos h2
 have e3:¬ (p.bad=true∨p.part=0)→¬i64.wrap (p.len+1)<p.cS→(dS q l).2=false→du p b=({(dS q l).1 with bad:=true},0,[],false,6):=fun h h' h2=>by
  subst hqq hll;unfold du;rw[if_neg h];refine(if_neg h').trans ?_;exact if_neg (by rw[h2];simp)
 refine⟨fun h1=>⟨fun h2=>?_,fun h2=>?_⟩,fun h1=>?_⟩
 ·rw[e0 (.inr (beq_iff_eq.1 h2))];exact⟨rfl,rfl⟩
 ·have h1':p.bad=false:=beq_iff_eq.1 h1;have h2':p.part≠0:=by simpa using h2
  have hn:¬ (p.bad=true∨p.part=0):=by rw[h1'];simp[h2']
  obtain⟨g1,g2,g3,g4⟩:=hl h1' h2';have hw:i64.wrap (p.len+1)=p.len+1:=bM (by omega) (by omega);have hlen:l.length=(p.len+1).toNat:=by rw[← hll,List.length_take,List.length_set,g3,hw];omega
  refine⟨⟨g1,g2⟩,fun h3=>?_,fun h3=>⟨⟨by omega,by omega,by omega⟩,by omega,fun h4=>?_,fun h4=>?_,fun h4=>?_⟩⟩
  ·rw[e1 hn (by simpa using h3),← hqq];exact⟨rfl,rfl⟩
  ·have:=g4 h4;have F1:¬i64.wrap (p.len+1)<p.cS:=(by simpa using h3);omega
  ·have F1:¬i64.wrap (p.len+1)<p.cS:=(by simpa using h3);rw[e3 hn F1 (by simpa using h4)];exact⟨rfl,rfl⟩
  ·have F1:¬i64.wrap (p.len+1)<p.cS:=(by simpa using h3);rw[e2 hn F1 (by simpa using h4)];exact⟨rfl,rfl⟩
 ·rw[e0 (.inl (by simpa using h1))];exact⟨rfl,rfl⟩
def Hf(n:Nat):ab:=List.replicate n 0
def og:PP:=⟨0,0,1,0,8,Hf 4096,false⟩
def aZL:bT:=bT.of [] bG bG fun _ _=>.bN none (.one (.sc (.ptr 0 0))) [(0,pI og)]
theorem amW:cY aA [] [] f104 [] [] [AM,.bS]=End.bN (LV.one (VV.sc (SV.ptr 0 0))) [some (bE.cK [SV.int i64 (SI.sym 0),SV.int i64 (SI.sym 0),SV.int i64 (SI.sym 1),SV.int i64 (SI.sym 0),SV.int i64 (SI.sym 8),SV.arr ae 4096 (List.replicate 4096 (0:Int)),SV.bool (SB.sym false)] 187)]:=by kernel_rfl
theorem aIF:aZL.Ok aA 104:=by
 refine bT.df call104 fun x y Q h=>?_;refine(cg bJ bU func104 rfl (LT:= []) (ks:= [AM,.bS]) (cn.nil _)).use (D:= [(0,pI og)]) ?_ h.2;show(cY _ _ _ _ [] [] _).sat _;rw[amW];exact⟨rfl,rfl⟩
def AB(bQ block:Int):Bool:=decide (bQ<1∨16<bQ∨block<0∨bQ<block)
def atP(bQ block:Int):PP:=dY ⟨bQ,block,0,0,0,Hf 4096,false⟩
abbrev iiA:cl (List LV) (Int×Int×Unit):=bD (bO (bX .i64)) (bD (bO (bX .i64)) bG)
def atE:bT:=bT.fw [] iiA bG fun x _=>.ite (AB x.1 x.2.1) (.bN none (.dB [.sc (.gm (.pointer none)),.sc (.int .i64 (.sym 1))]) []) (.bN none (.dB [.sc (.ptr 0 0),.sc (.int .i64 (.sym 0))]) [(0,pI (atP x.1 x.2.1))])
theorem aab(a b:Int):cY aA [(148,L0)] [] f113 (iiA.wr (a,b,())) [] [.fr [.sym],.bS]=End.ite (decide (a<(1:Int))==false) (End.ite (decide ((16:Int)<a)==false) (End.ite (decide (b<(0:Int))==false) (End.ite (decide (a< b)) (End.bN (LV.dB [VV.sc (SV.gm (Value.pointer none)),VV.sc (SV.int i64 (SI.sym 1))]) []) (End.bN (LV.dB [VV.sc (SV.ptr 0 0),VV.sc (SV.int i64 (SI.sym 0))]) [some (bE.cK [SV.int i64 (SI.sym (dY {bQ:=a,block:=b,part:=(0:Int),len:=(0:Int),cS:=(0:Int),buf:=List.replicate 4096 (0:Int),bad:=false}).bQ),SV.int i64 (SI.sym (dY {bQ:=a,block:=b,part:=(0:Int),len:=(0:Int),cS:=(0:Int),buf:=List.replicate 4096 (0:Int),bad:=false}).block),SV.int i64 (SI.sym (dY {bQ:=a,block:=b,part:=(0:Int),len:=(0:Int),cS:=(0:Int),buf:=List.replicate 4096 (0:Int),bad:=false}).part),SV.int i64 (SI.sym (dY {bQ:=a,block:=b,part:=(0:Int),len:=(0:Int),cS:=(0:Int),buf:=List.replicate 4096 (0:Int),bad:=false}).len),SV.int i64 (SI.sym (dY {bQ:=a,block:=b,part:=(0:Int),len:=(0:Int),cS:=(0:Int),buf:=List.replicate 4096 (0:Int),bad:=false}).cS),SV.arr ae 4096 (dY {bQ:=a,block:=b,part:=(0:Int),len:=(0:Int),cS:=(0:Int),buf:=List.replicate 4096 (0:Int),bad:=false}).buf,SV.bool (SB.sym (dY {bQ:=a,block:=b,part:=(0:Int),len:=(0:Int),cS:=(0:Int),buf:=List.replicate 4096 (0:Int),bad:=false}).bad)] 187)])) (End.bN (LV.dB [VV.sc (SV.gm (Value.pointer none)),VV.sc (SV.int i64 (SI.sym 1))]) [])) (End.bN (LV.dB [VV.sc (SV.gm (Value.pointer none)),VV.sc (SV.int i64 (SI.sym 1))]) [])) (End.bN (LV.dB [VV.sc (SV.gm (Value.pointer none)),VV.sc (SV.int i64 (SI.sym 1))]) []):=by kernel_rfl
theorem aSN:atE.Ok aA 113:=by
 refine(bT.df call113 fun x y Q h=>?_).sym;obtain⟨a,b,_⟩:=x
 have key:∀ {V:LV} {D:List ao},(cY aA [(148,L0)] [] f113 (iiA.wr (a,b,())) [] [.fr [.sym],.bS]).sat (fun v dZ=>v=V∧dZ=cq D [])→Q V D→
   il aA 113 (iiA.wr (a,b,())) [] fun v dZ=>∃d,Q v d∧dZ=cq d []:=fun h1 h2=>
  (cg bJ (bI Rm bU) func113 rfl (LT:= []) (ks:=aq) (cn.nil _)).use h1 h2
 cases hb:AB a b with
 |true=>
  refine key ?_ (h.1 hb).2;rw[aab];simp[AB]at hb;refine⟨fun h1=>⟨fun h2=>⟨fun h3=>⟨fun h4=>⟨rfl,rfl⟩,fun h4=>?_⟩,fun h3=>⟨rfl,rfl⟩⟩,fun h2=>⟨rfl,rfl⟩⟩,fun h1=>⟨rfl,rfl⟩⟩;simp at h1 h2 h3 h4;omega
 |false=>
  refine key ?_ (h.2 hb).2;rw[aab];simp[AB]at hb;refine⟨fun h1=>⟨fun h2=>⟨fun h3=>⟨fun h4=>?_,fun h4=>⟨rfl,rfl⟩⟩,fun h3=>?_⟩,fun h2=>?_⟩,fun h1=>?_⟩
  ·simp at h4;omega
  ·simp at h3;omega
  ·simp at h2;omega
  ·simp at h1;omega
structure Ss where
 target:Int
 bK:Int×Int
 bytes:ab
 cM:JF
 list:ab
 ct:ab
 plain:Int
 block:Int
 off:Int
 done:Int
abbrev Vt(p fl:Nat)(h o:cl SV Unit):cl (List SV) Ss:=(bR (cr p 0) (bD (bX .i64) (bR (cr fl 0) (bD (bX .i64) (bD (bX .i64) (bD (oa u8 224) (DN (A5 (bD (oa u8 64) (bD (oa u8 1024) (bD (oa u8 4) (bD (bX .i64) (bD (bX .i64) (bD (bX .i64) (bD (bX .i64) (bR h (bR o bG))))))))))))))))).jr (fun x=>⟨x.1,(x.2.1,x.2.2.1),x.2.2.2.1,⟨x.2.2.2.2.1,x.2.2.2.2.2.1,⟨x.2.2.2.2.2.2.1,x.2.2.2.2.2.2.2.1,x.2.2.2.2.2.2.2.2.1,x.2.2.2.2.2.2.2.2.2.1,x.2.2.2.2.2.2.2.2.2.2.1⟩,x.2.2.2.2.2.2.2.2.2.2.2.1⟩,x.2.2.2.2.2.2.2.2.2.2.2.2.1,x.2.2.2.2.2.2.2.2.2.2.2.2.2.1,x.2.2.2.2.2.2.2.2.2.2.2.2.2.2.1,x.2.2.2.2.2.2.2.2.2.2.2.2.2.2.2.1,x.2.2.2.2.2.2.2.2.2.2.2.2.2.2.2.2.1,x.2.2.2.2.2.2.2.2.2.2.2.2.2.2.2.2.2.1⟩) (fun s=>(s.target,s.bK.1,s.bK.2,s.bytes,s.cM.key,s.cM.bQ,s.cM.cU.ver,s.cM.cU.lP,s.cM.cU.len,s.cM.cU.list,s.cM.cU.plain,s.cM.sign,s.list,s.ct,s.plain,s.block,s.off,s.done,())) (fun _=>rfl)
abbrev cSs(p:Nat)(h o:cl SV Unit):cl (List SV) Ss:=Vt p 1 h o
abbrev ug:cl bE Cf:=jLd 1 4
abbrev awO:cl bE Jn:=fe 206 (zy 1 (pk 6 0))
abbrev AN:cl Hp (Cf×Fl×ab×ab×Sg×Jn×List Rc×Unit):=bD (cb ug) (bD (cb dA) (bD (dd 0 u8) (bD (dd 0 (.int .i64)) (bD (cb jc) (bD (cb awO) (bD (dd 0 cH) bG))))))
abbrev vt:cl bE Ss:=fe 151 (cSs 8 uv uv)
abbrev kY:cl bE PP:=fe 187 cPP
def aSQ(c:Cf)(f:Fl)(b er:ab)(g:Sg)(j:Jn)(l:List ah):Tr YD:=.need (qK g j f b er l) (.ret ((eP g).1,(eP g).2.1,(eP g).2.2.1,(eP g).2.2.2.1,(eP g).2.2.2.2.1,(eP g).2.2.2.2.2.1,(eP g).2.2.2.2.2.2.1,(eP g).2.2.2.2.2.2.2.1,(eP g).2.2.2.2.2.2.2.2.1,(eP g).2.2.2.2.2.2.2.2.2.1,(eP g).2.2.2.2.2.2.2.2.2.2.1,(eP g).2.2.2.2.2.2.2.2.2.2.2))
abbrev qV(c:Cf)(f:Fl)(b er:ab)(g:Sg)(j:Jn)(l:List Rc):Prop:=g.2.2.2.2.2.2.2.length≤200
abbrev amX(c:Cf)(f:Fl)(b er:ab)(g:Sg)(j:Jn)(l:List Rc):YD:=eP g
def aB5:bT:=cj [] gL AN (q7∘q0 qV) (q7∘q0 amX) aPP aPQ
theorem awP:ac2 qV aSQ amX:=by
 intro c f b er g j l h_;delta amX;exact⟨Nat.le_trans h_ (by decide),rfl⟩
theorem BZ:aB5.Ok aA 28:=ay (bI Bj bU) func28 call28 (ks:=eU) (fun _=>bB @awP)
def aB6(c:Cf)(f:Fl)(b er:ab)(g:Sg)(j:Jn)(l:List ah):Tr sk:=.need (qV c f b er g j l) (.ite ((eP g).1==0) (.ret (1)) (.ret (0)))
def kl(g:Sg):Int:=if g.1.1=0 then 1 else 0
abbrev L1(c:Cf)(f:Fl)(b er:ab)(g:Sg)(j:Jn)(l:List Rc):Prop:=g.2.2.2.2.2.2.2.length≤200
abbrev amY(c:Cf)(f:Fl)(b er:ab)(g:Sg)(j:Jn)(l:List Rc):sk:=kl g
def aST:bT:=cj [] gL AN (q7∘q0 L1) (q7∘q0 amY) aED aEE
theorem awQ:ac2 L1 aB6 amY:=by
 intro c f b er g j l h_;delta amY;simp only[aB6,bF,cd,bH,kl];exact⟨h_,fun c=>(if_pos c).symm,fun c=>(if_neg c).symm⟩
theorem awR:aST.Ok aA 105:=ay (bI BZ bU) func105 call105 (ks:=eU) (fun _=>bB @awQ)
def aSW(c:Cf)(f:Fl)(b er:ab)(g:Sg)(j:Jn)(l:List ah):Tr sk:=.need (qV c f b er g j l) (.ret ((eP g).2.2.1))
abbrev B0(c:Cf)(f:Fl)(b er:ab)(g:Sg)(j:Jn)(l:List Rc):Prop:=g.2.2.2.2.2.2.2.length≤200
abbrev amZ(c:Cf)(f:Fl)(b er:ab)(g:Sg)(j:Jn)(l:List Rc):sk:=g.1.2.2.1
def aSX:bT:=cj [] gL AN (q7∘q0 B0) (q7∘q0 amZ) aPx aEE
theorem awS:ac2 B0 aSW amZ:=by
 intro c f b er g j l h_;delta amZ;exact⟨h_,rfl⟩
theorem awT:aSX.Ok aA 149:=ay (bI BZ bU) func149 call149 (ks:=eU) (fun _=>bB @awS)
def aS0(c:Cf)(f:Fl)(b er:ab)(g:Sg)(j:Jn)(l:List ah):Tr IE:=.ret false
abbrev oN(c:Cf)(f:Fl)(b er:ab)(g:Sg)(j:Jn)(l:List Rc):Prop:=True
abbrev am0(c:Cf)(f:Fl)(b er:ab)(g:Sg)(j:Jn)(l:List Rc):IE:=false
def aS1:bT:=cj [] gL AN (q7∘q0 oN) (q7∘q0 am0) aEH aEI
theorem awU:ac2 oN aS0 am0:=by
 intro c f b er g j l h_;delta am0;exact rfl
theorem B1:aS1.Ok aA 68:=ay bU func68 call68 (ks:=eU) (fun _=>bB @awU)
theorem E5{P:Program}{f:FuncId}{tys:List (Option Ty)}{X Y Z Z':Type}{A:cl (List LV) X}{H:cl Hp Y}{pre Gc:X→Y→Prop}{c:X→Y→Bool}{sp:X→Y→Z}{yR:X→Y→Z'}{V:Z→LV}{D:Z→List ao}{V':Z'→LV}{D':Z'→List ao} (h:(Dw tys A H pre c sp yR V D V' D').Ok P f) (hS:∀x y,Gc x y→pre x y∧c x y=false):(cj tys A H Gc yR V' D').Ok P f:=by
 refine⟨fun args hp Q hq=>h.calls args hp Q ?_⟩;simp only[cj,Dw,bT.fw,bT.sym,bT.of]at hq ⊢;split at hq
 ·rename_i x y hx hy;obtain⟨h1,h2⟩:=hS x y hq.1;exact⟨fun e=>(by rw[h2]at e;cases e),fun _=>⟨h1,hq.2⟩⟩
 ·exact hq.elim
abbrev HC(c:Cf)(bK:Int)(f:Fl)(b er:ab):Prop:=dE b er∧kD c er∧0≤bK∧bK<2
def awV:bT:=cj [none,some (.arr u8 32),none] az1 ow (q3∘q2 HC) (q3∘q2 IZ) aER aES
theorem aek:awV.Ok aA 61:=E5 DF fun x y h=>⟨h.1,by
 have:decide (kD x.1 y.2.2.1∧0≤x.2.1∧x.2.1<2)=true:=decide_eq_true h.2;show(!decide (kD x.1 y.2.2.1∧0≤x.2.1∧x.2.1<2))=false;rw[this];rfl⟩
abbrev aag:Type:=Ss×PP
abbrev aS2(x:aag):LV:=aw (SV.ptr 7 0)
abbrev aS3(x:aag):List ao:= [(7,vt.wr x.1),(8,kY.wr x.2)]
def aS4(c:Cf)(f:Fl)(b er:ab)(g:Sg)(j:Jn)(l:List ah):Tr aag:=.need (L1 c f b er g j l) (.need (HC c (kl g) f b er) (.ret ({target:=kl g,bK:=(2+kl g*c.2,c.2),bytes:=List.replicate 224 (0:Int),cM:= {key:=0,bQ:=0,cU:= {ver:=0,lP:=0,len:=0,list:=List.replicate 64 (0:Int),plain:=List.replicate 64 (0:Int)},sign:=List.replicate 64 (0:Int)},list:=List.replicate 1024 (0:Int),ct:= [0,0,0,0],plain:=0,block:=0,off:=0,done:=0},{bQ:=0,block:=0,part:=1,len:=0,cS:=8,buf:=og.buf,bad:=og.bad})))
def AD(c:Cf)(g:Sg):Ss:=⟨kl g,(2+kl g*c.2,c.2),List.replicate 224 0,nH,List.replicate 1024 0,List.replicate 4 0,0,0,0,0⟩
abbrev yg(c:Cf)(f:Fl)(b er:ab)(g:Sg)(j:Jn)(l:List Rc):Prop:=dE b er∧kD c er∧g.2.2.2.2.2.2.2.length≤200
abbrev am1(c:Cf)(f:Fl)(b er:ab)(g:Sg)(j:Jn)(l:List Rc):aag:=(AD c g,og)
def aS5:bT:=cj [] gL AN (q7∘q0 yg) (q7∘q0 am1) aS2 aS3
theorem awW:ac2 yg aS4 am1:=by
 intro c f b er g j l h_;delta am1;obtain⟨h1,h2,h3⟩:=h_;have ht:0≤kl g∧kl g<2:=by unfold kl;split<;>exact⟨by decide,by decide⟩
 exact⟨h3,⟨h1,h2,ht.1,ht.2⟩,rfl⟩
theorem aah:aS5.Ok aA 70:=ay (bI aIF (bI awR (bI aek bU))) func70 call70 (ks:= [.fr [.sym],.cu,.bS,.ck,.iN 7 15 4 .u8]) (fun _=>bB @awW)
abbrev zN:cl bE Cf:=fe 112 (cLd 1 4 (cr 7 0))
abbrev fX:cl bE Jn:=fe 206 (zy 1 (pk 6 1))
structure gA (c:Cf) (b er:ab) (g:Sg) (j:Jn) (l:List Rc):Prop where
 fl:dE b er
 by_:bL b
 fit:kD c er
 jn:mY j l er
 st:mB g
 ks:zt c.1
def oO(c:Cf)(f:Fl)(b er:ab)(g:Sg)(j:Jn)(l:List ah):Ss:=AD c (ca g j f b er l).2.1
abbrev B2:Type:=Int×Cf×Fl×ab×ab×Sg×Jn×(List ah)
abbrev awX(x:B2):LV:=aw (ar x.1)
abbrev awY(x:B2):List ao:= [(0,ug.wr x.2.1),(1,dA.wr x.2.2.1),(2,bE.own 0 ae x.2.2.2.1),(3,bE.own 0 ag x.2.2.2.2.1),(4,jc.wr x.2.2.2.2.2.1),(5,fX.wr x.2.2.2.2.2.2.1),(6,bE.own 1 (ag.pair (ag.pair ae.sl)) x.2.2.2.2.2.2.2)]
abbrev B3:Type:=Int×Cf×Fl×ab×ab×Sg×Jn×(List ah)×Ss×PP
abbrev awZ(x:B3):LV:=aw (ar x.1)
abbrev aw0(x:B3):List ao:= [(0,zN.wr x.2.1),(1,dA.wr x.2.2.1),(2,bE.own 0 ae x.2.2.2.1),(3,bE.own 0 ag x.2.2.2.2.1),(4,jc.wr x.2.2.2.2.2.1),(5,fX.wr x.2.2.2.2.2.2.1),(6,bE.own 1 (ag.pair (ag.pair ae.sl)) x.2.2.2.2.2.2.2.1),(7,vt.wr x.2.2.2.2.2.2.2.2.1),(8,kY.wr x.2.2.2.2.2.2.2.2.2)]
abbrev B4:Type:=B2⊕B3
abbrev aw1:B4→LV:=Sum.elim awX awZ
abbrev aw2:B4→List ao:=Sum.elim awY aw0
def am2(c:Cf)(f:Fl)(b er:ab)(g:Sg)(j:Jn)(l:List ah):Tr (B2⊕B3):=(.need (oN c f b er g j l) (.ite false (.ret (.inl (12,c,f,b,er,g,j,l))) (.need (qU g j f b er l) (.ite ((ca g j f b er l).1 !=0) (.ret (.inl ((ca g j f b er l).1,c,(ca g j f b er l).2.2.2.1,(ca g j f b er l).2.2.2.2.1,(ca g j f b er l).2.2.2.2.2.1,(ca g j f b er l).2.1,(ca g j f b er l).2.2.1,(ca g j f b er l).2.2.2.2.2.2))) (.need (yg c (ca g j f b er l).2.2.2.1 (ca g j f b er l).2.2.2.2.1 (ca g j f b er l).2.2.2.2.2.1 (ca g j f b er l).2.1 (ca g j f b er l).2.2.1 (ca g j f b er l).2.2.2.2.2.2) (.ret (.inr (0,c,(ca g j f b er l).2.2.2.1,(ca g j f b er l).2.2.2.2.1,(ca g j f b er l).2.2.2.2.2.1,(ca g j f b er l).2.1,(ca g j f b er l).2.2.1,(ca g j f b er l).2.2.2.2.2.2,{target:=(oO c f b er g j l).target,bK:=(2+kl (ca g j f b er l).2.1*c.2,c.2),bytes:=(oO c f b er g j l).bytes,cM:= {key:=0,bQ:=0,cU:= {ver:=0,lP:=0,len:=0,list:=(oO c f b er g j l).cM.cU.list,plain:=(oO c f b er g j l).cM.cU.plain},sign:=(oO c f b er g j l).cM.sign},list:=(oO c f b er g j l).list,ct:=(oO c f b er g j l).ct,plain:=0,block:=0,off:=0,done:=0},{bQ:=0,block:=0,part:=1,len:=0,cS:=8,buf:=og.buf,bad:=og.bad}))))))))
theorem L2{s:Sg}{j:Jn}{f:Fl}{b er:ab}{l:List Rc}(h1:dE b er)(h2:mY j l er)(h3:mB s):Kp b er (ca s j f b er l).2.2.2.2.1 (ca s j f b er l).2.2.2.2.2.1∧mY (ca s j f b er l).2.2.1 (ca s j f b er l).2.2.2.2.2.2 (ca s j f b er l).2.2.2.2.2.1∧mB (ca s j f b er l).2.1:=by
 unfold ca;split
 ·exact⟨.rfl,h2,h3⟩
 ·exact Lq h1 h2 h3 .nil (by decide)
theorem gA.next{c:Cf}{b er:ab}{g:Sg}{j:Jn}{l:List Rc}(h:gA c b er g j l){b' Bl:ab}{g':Sg}{j':Jn}{l':List Rc}(k:Kp b er b' Bl)(h2:mY j' l' Bl)(h3:mB g'):gA c b' Bl g' j' l':=⟨k.fl h.fl,k.by_ h.by_,by have:=k.l2;exact⟨h.fit.1,by have:=h.fit.2;omega⟩,h2,h3,h.ks⟩
abbrev mo(c:Cf)(f:Fl)(b er:ab)(g:Sg)(j:Jn)(l:List Rc):Prop:=gA c b er g j l
abbrev Vu(c:Cf)(f:Fl)(b er:ab)(g:Sg)(j:Jn)(l:List Rc):Tr B4:=.ite ((ca g j f b er l).1!=0) (.ret (.inl ((ca g j f b er l).1,c,(ca g j f b er l).2.2.2.1,(ca g j f b er l).2.2.2.2.1,(ca g j f b er l).2.2.2.2.2.1,(ca g j f b er l).2.1,(ca g j f b er l).2.2.1,(ca g j f b er l).2.2.2.2.2.2))) (.ret (.inr (0,c,(ca g j f b er l).2.2.2.1,(ca g j f b er l).2.2.2.2.1,(ca g j f b er l).2.2.2.2.2.1,(ca g j f b er l).2.1,(ca g j f b er l).2.2.1,(ca g j f b er l).2.2.2.2.2.2,AD c (ca g j f b er l).2.1,og)))
def aIG:bT:=sR [] gL AN (q7∘q0 mo) (q7∘q0 Vu) aw1 aw2
theorem am3(c:Cf)(f:Fl)(b er:ab)(g:Sg)(j:Jn)(l:List Rc)(h_:mo c f b er g j l)(z_:B4)(fS:(Vu c f b er g j l).Is z_):(am2 c f b er g j l).Is z_:=by
 delta Vu at fS;have fS:=b9.1 fS;obtain⟨k1,k2,k3⟩:=L2 (f:=f) h_.fl h_.jn h_.st;have hn:=h_.next k1 k2 k3;have hp:qU g j f b er l:=⟨h_.fl,h_.jn,h_.st⟩;have hu:oN c f b er g j l:=trivial;simp only[am2,oO,bF,dV,b9];generalize ca g j f b er l=x at*;exact⟨hu,hp,fun c1=>⟨⟨hn.fl,hn.fit,hn.st.mid⟩,fS.1 c1⟩,fun c1=>fS.2 c1⟩
theorem Rn:aIG.Ok aA 44:=kO bJ ((bI B1 (bI BK (bI aah bU)))) func44 (by kernel_rfl) call44 (ks:= [.one 6,.fr [.sym],.cu,.bS,.ck]) (fun _ _=>cn.nil _) (fun _ _=>by kernel_rfl) fun x_ y_ h=>am3 y_.1 y_.2.1 y_.2.2.1 y_.2.2.2.1 y_.2.2.2.2.1 y_.2.2.2.2.2.1 y_.2.2.2.2.2.2.1 h
end Go.Proofs.YtliehnnljilacaaGreat
