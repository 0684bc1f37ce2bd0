/- What the laws lean on, part 17: a reader of code, plain facts, and what each function gives; no conditions. -/
import Derived.Test.YtliehnnljilacaaGreatA16
noncomputable section
open Go.IntKind (i64 signed u16 u32 u64 wrap wrap_u32)
set_option linter.unusedVariables false
set_option linter.unusedSimpArgs false
namespace Go.Proofs.YtliehnnljilacaaGreat
open Go Go.Ev Go.Proofs.Tryz
set_option maxRecDepth 1000000
def sVb(b o:Nat)(t:Ty)(m:Nat):cl SV (Int×Int) where
 rd s:=match s with
  | .vb b' o' t' m' z n=>if b'=b∧o'=o∧t'=t∧m'=m then some (z,n)else none
  |_=>none
 wr p:=.vb b o t m p.1 p.2
 ok:=by
  intro s x h;split at h
  ·split at h
   ·rename_i e;obtain⟨rfl,rfl,rfl,rfl⟩:=e;cases h;rfl
   ·cases h
  ·cases h
abbrev hHs:cl Hp (HH×Unit):=bD (cb oY) bG
def aB7(h:HH):Tr af4:=.need (h.begun=true) (.need ((200:Int)=200∧(0:Int)≤200∧(200:Int)≤70368744177664∧(200:Int)≤70368744177664) (.need ((0:Int)≤64∧(64:Int)≤200∧(200:Int)≤200) (.need ((0:Int)≤72∧(72:Int)≤200∧(200:Int)≤ 200) (.need ((0:Int)≤0∧0≤h.n.tmod 128∧h.n.tmod (128:Int)≤128) (.ret (cP (cP (cP (List.replicate 200 (0:Int)) 0 200 (jD h.s)) 64 136 (fC (u64.wrap h.n))) 72 128 (List.take (h.n.tmod (128:Int)-0).toNat (List.drop 0 h.wait))))))))
def Vv(h:HH):ab:=cP (cP (cP (List.replicate 200 0) 0 200 (jD h.s)) 64 136 (fC h.n)) 72 128 (h.wait.take (h.n%128).toNat)
abbrev L3(h:HH):Prop:=oA h∧h.n<2305843009213693000
abbrev am4(h:HH):af4:=Vv h
def aS8:bT:=cj [] gL hHs (q1∘q0 L3) (q1∘q0 am4) aEK aEL
theorem aw3:abY L3 aB7 am4:=by
 intro h h_;delta am4;obtain⟨h1,h2⟩:=h_;have h3:=h1.n;have w:u64.wrap h.n=h.n:=wrap_u64 (by omega) (by omega);have t:h.n.tmod 128=h.n%128:=Int.tmod_eq_emod_of_nonneg (by omega);simp only[aB7,w,t,bF,bH,Vv,Int.sub_zero,List.drop_zero];exact⟨h1.begun,by decide,by decide,by decide,⟨by decide,by omega,by omega⟩,trivial⟩
theorem aw4:aS8.Ok aA 197:=ay (bI S6 (bI DM (bI DL bU))) func197 call197 (ks:= [.pN,.fr [.rd true u8],.fr [.sym],.cu,.bS,.ck]) (fun _=>bq @aw3)
abbrev aZM:cl bE Ss:=fe 151 (Vt 1 2 uv uv)
abbrev aIH:cl Hp (Ss×PP×Fl×ab×ab×Unit):=bD (cb aZM) (bD (cb kY) (bD (cb qI) (bD (dd 0 u8) (bD (dd 0 (.int .i64)) bG))))
def mG(i:Int):Int:=i64.wrap (i*1024)
def E6(i:Int)(x:ab)(s:Ss)(f:Fl)(b er:ab):Int×Fl×ab:=gM (fH f b er s.bK i).2.1 (fH f b er s.bK i).2.2.1 s.bK (mG i) x
def pd(i:Int)(x:ab)(s:Ss)(p:PP)(f:Fl)(b er:ab):Bool×Int:=if f.2.1=true then (false,5)else if ¬(0≤i∧i<s.bK.2)then(false,2)else(eS (cO b (1024*s.bK.1+1024*i) 1024),0)
abbrev aTa(x:Zu):List ao:= [(2,qI.wr x.2.1),(3,bE.own 0 ae x.2.2.1),(4,bE.own 0 ag x.2.2.2)]
def am5(i:Int)(x:ab)(s:Ss)(p:PP)(f:Fl)(b er:ab):Tr Zu:=.need (kN s.bK i f b er) (.ite (((pd i x s p f b er).2==0)==true) (.ite (!(pd i x s p f b er).1) (.need (kM s.bK i f b er) (.ite ((fH f b er s.bK i).1 !=0) (.ret ((fH f b er s.bK i).1,(fH f b er s.bK i).2.1,(fH f b er s.bK i).2.2.1,(fH f b er s.bK i).2.2.2)) (.need (eB s.bK (mG i) x (fH f b er s.bK i).2.1 (fH f b er s.bK i).2.2.1 (fH f b er s.bK i).2.2.2) (.ret ((E6 i x s f b er).1,(E6 i x s f b er).2.1,(E6 i x s f b er).2.2,(fH f b er s.bK i).2.2.2))))) (.ite ((pd i x s p f b er).2 !=0) (.ret ((pd i x s p f b er).2,f,b,er)) (.need (eB s.bK (mG i) x f b er) (.ret ((gM f b s.bK (mG i) x).1,(gM f b s.bK (mG i) x).2.1,(gM f b s.bK (mG i) x).2.2,er))))) (.ite ((pd i x s p f b er).2 !=0) (.ret ((pd i x s p f b er).2,f,b,er)) (.need (eB s.bK (mG i) x f b er) (.ret ((gM f b s.bK (mG i) x).1,(gM f b s.bK (mG i) x).2.1,(gM f b s.bK (mG i) x).2.2,er)))))
def Ro(i:Int)(x:ab)(r:Int×Int)(c:Int×Fl×ab×ab):Int×Fl×ab×ab:=if c.1≠0 then c else((gM c.2.1 c.2.2.1 r (1024*i) x).1,(gM c.2.1 c.2.2.1 r (1024*i) x).2.1,(gM c.2.1 c.2.2.1 r (1024*i) x).2.2,c.2.2.2)
def eC(i:Int)(x:ab)(r:Int×Int)(f:Fl)(b er:ab):Int×Fl×ab×ab:=Ro i x r (nP f b er r i)
abbrev B5(i:Int)(x:ab)(s:Ss)(p:PP)(f:Fl)(b er:ab):Prop:=dE b er∧iO s.bK er∧0≤i∧i<s.bK.2∧x.length<1099511627776
abbrev am6(i:Int)(x:ab)(s:Ss)(p:PP)(f:Fl)(b er:ab):Zu:=eC i x s.bK f b er
def aTb:bT:=cj [none,none,some u8] QW aIH (q5∘q2 B5) (q5∘q2 am6) aRo aTa
theorem aak(i:Int)(x:ab)(s:Ss)(p:PP)(f:Fl)(b er:ab)(h_:B5 i x s p f b er):(am5 i x s p f b er).Is (am6 i x s p f b er):=by
 delta am6;obtain⟨h1,h2,h3,h4,h8⟩:=h_;have g4:=h1.2.2;have w0:i64.wrap (i*1024)=1024*i:=by rw[bM (by omega) (by omega),Int.mul_comm]
 have hb:kN s.bK i f b er:=⟨h1,h2⟩;have he:kM s.bK i f b er:=⟨h1,h2⟩;have k1:=KZ (f:=f) (r:=s.bK) (s:=i) h1;have q1:eB s.bK (1024*i) x f b er:=⟨h1,h2,h8⟩;have q3:eB s.bK (1024*i) x (fH f b er s.bK i).2.1 (fH f b er s.bK i).2.2.1 (fH f b er s.bK i).2.2.2:=⟨k1.fl h1,k1.rg h2,h8⟩;unfold eC nP;cases ho:f.2.1 with
 |true=>
  have e:pd i x s p f b er=(false,5):=by unfold pd;rw[if_pos ho]
  rw[if_pos rfl];simp only[am5,E6,mG,w0,e,bF];exact⟨hb,fun h=>(by cases h),fun _=>b9.2 ⟨fun h=>(by cases h),fun _=>bH.2 rfl⟩⟩
 |false=>
  have e:pd i x s p f b er=(eS (cO b (1024*s.bK.1+1024*i) 1024),0):=by unfold pd;rw[if_neg (by rw[ho];decide),if_neg (fun h=>h ⟨h3,h4⟩)]
  rw[if_neg (by decide),if_neg (fun h=>h ⟨h3,h4⟩)];simp only[am5,E6,mG,w0,e,bF];refine⟨hb,?_⟩;cases hk:eS (cO b (1024*s.bK.1+1024*i) 1024)with
  |true=>
   rw[if_pos rfl];unfold Ro;rw[if_neg (fun h=>h rfl)];exact⟨fun _=>⟨fun h=>(by cases h),fun _=>b9.2 ⟨fun _=>⟨q1,rfl⟩,fun h=>absurd rfl h⟩⟩,fun h=>by cases h⟩
  |false=>
   rw[if_neg (by decide)];unfold Ro;refine⟨fun _=>⟨fun _=>⟨he,b9.2 ⟨fun c=>⟨q3,?_⟩,fun c=>?_⟩⟩,fun h=>by cases h⟩,fun h=>by cases h⟩
   ·rw[if_neg (fun h=>h c)];rfl
   ·rw[if_pos c];rfl
theorem aw5:aTb.Ok aA 150:=ay (bI sQ (bI sP (bI sO bU))) func150 call150 (ks:=eU) (fun x_ y_ h=>aak x_.1 x_.2.1 y_.1 y_.2.1 y_.2.2.1 y_.2.2.2.1 y_.2.2.2.2.1 h)
def pe(i:Int):Int:=i64.wrap (i*1024)
def pf(z:Int×Int)(s:Ss):ab:=List.take z.2.toNat (List.drop z.1.toNat s.bytes)
def Vw(i:Int)(z:Int×Int)(s:Ss)(f:Fl)(b er:ab):Int×Fl×ab:=gM (fH f b er s.bK i).2.1 (fH f b er s.bK i).2.2.1 s.bK (pe i) (pf z s)
def zO(i:Int)(z:Int×Int)(s:Ss)(p:PP)(f:Fl)(b er:ab):Bool×Int:=if f.2.1=true then (false,5)else if ¬(0≤i∧i<s.bK.2)then(false,2)else(eS (cO b (1024*s.bK.1+1024*i) 1024),0)
def aTe(i:Int)(z:Int×Int)(s:Ss)(p:PP)(f:Fl)(b er:ab):Tr Zu:=.need (kN s.bK i f b er) (.ite (((zO i z s p f b er).2==0)==true) (.ite (!(zO i z s p f b er).1) (.need (kM s.bK i f b er) (.ite ((fH f b er s.bK i).1 !=0) (.ret ((fH f b er s.bK i).1,(fH f b er s.bK i).2.1,(fH f b er s.bK i).2.2.1,(fH f b er s.bK i).2.2.2)) (.need (eB s.bK (pe i) (pf z s) (fH f b er s.bK i).2.1 (fH f b er s.bK i).2.2.1 (fH f b er s.bK i).2.2.2) (.ret ((Vw i z s f b er).1,(Vw i z s f b er).2.1,(Vw i z s f b er).2.2,(fH f b er s.bK i).2.2.2))))) (.ite ((zO i z s p f b er).2 !=0) (.ret ((zO i z s p f b er).2,f,b,er)) (.need (eB s.bK (pe i) (pf z s) f b er) (.ret ((gM f b s.bK (pe i) (pf z s)).1,(gM f b s.bK (pe i) (pf z s)).2.1,(gM f b s.bK (pe i) (pf z s)).2.2,er))))) (.ite ((zO i z s p f b er).2 !=0) (.ret ((zO i z s p f b er).2,f,b,er)) (.need (eB s.bK (pe i) (pf z s) f b er) (.ret ((gM f b s.bK (pe i) (pf z s)).1,(gM f b s.bK (pe i) (pf z s)).2.1,(gM f b s.bK (pe i) (pf z s)).2.2,er)))))
abbrev L4(i:Int)(z:Int×Int)(s:Ss)(p:PP)(f:Fl)(b er:ab):Prop:=dE b er∧iO s.bK er∧0≤i∧i<s.bK.2∧s.bytes.length=224
abbrev am7(i:Int)(z:Int×Int)(s:Ss)(p:PP)(f:Fl)(b er:ab):Zu:=eC i ((s.bytes.drop z.1.toNat).take z.2.toNat) s.bK f b er
def aTf:bT:=cj [] ((bR (bO (cr 0 0)) (bD (bO (bX .i64)) (bD (bO (sVb 0 5 u8 224)) bG)))) aIH (q5∘q2 L4) (q5∘q2 am7) aRo aTa
theorem aw6:ac2 L4 aTe am7:=by
 intro i z s p f b er h_;delta am7;obtain⟨h1,h2,h3,h4,h5⟩:=h_;exact aak i ((s.bytes.drop z.1.toNat).take z.2.toNat) s p f b er ⟨h1,h2,h3,h4,by rw[List.length_take,List.length_drop];omega⟩
theorem aw7:aTf.Ok aA 150:=ay (bI sQ (bI sP (bI sO bU))) func150 call150 (ks:=eU) (fun x_=>bx (@aw6 x_.1 x_.2.1))
abbrev aTg:cl bE Ss:=fe 151 (Vt 1 2 uv (cr 5 0))
abbrev E7:cl bE Cu:=fe 275 (cCu 2)
abbrev HD(r:Int×Int)(a n:Int)(f:Fl)(b er:ab):Prop:=dE b er∧iO r er∧1≤n∧0≤a∧a+n≤r.2
def aw8:bT:=cj [] (bD (jf cRg) (bD (bO (bX .i64)) (bD (bO (bX .i64)) bG))) ow (q3∘q3 HD) (q3∘q3 KL) aER aES
theorem ael:aw8.Ok aA 158:=E5 akT fun x y h=>⟨⟨h.1,h.2.1⟩,by
 have:decide (1≤x.2.2.1∧0≤x.2.1∧x.2.1+x.2.2.1≤x.1.2)=true:=decide_eq_true h.2.2;show(!decide (1≤x.2.2.1∧0≤x.2.1∧x.2.1+x.2.2.1≤x.1.2))=false;rw[this];rfl⟩
abbrev aam(r:Int×Int)(p:Int)(f:Fl)(b er:ab):Prop:=dE b er∧iO r er∧0≤p∧p≤1024*r.2∧f.2.1=false
abbrev aTh(r:Int×Int)(p:Int)(f:Fl)(b er:ab):xM:=ry r p b
def aTi:bT:=cj [] (bD (jf cRg) (bD (bO (bX .i64)) bG)) ow (q3∘q2 aam) (q3∘q2 aTh) Zk Zl
theorem aw9:aTi.Ok aA 159:=lR als (fun z=>.inr (.inr z)) (fun _=>rfl) (fun _=>rfl) fun x y h=>⟨⟨h.1,h.2.1⟩,cD.2 ⟨fun c=>absurd ⟨h.2.2.1,h.2.2.2.1⟩ c,fun _=>bY.2 ⟨fun c=>(by have:=h.2.2.2.2;rw[this]at c;cases c),fun _=>rfl⟩⟩⟩
def L5(s:Ss):Int:=i64.wrap (i64.wrap (Int.tdiv (1024*s.bK.2) 1024)-2)
def L6(s:Ss):Int×Int:=(s.bK.1+2,L5 s)
abbrev aan:Type:=Ss×Cu
abbrev aTj(x:aan):LV:=LV.one (VV.sc (SV.int i64 (SI.lit 0)))
abbrev aTk(x:aan):List ao:= [(0,aTg.wr x.1),(5,E7.wr x.2)]
def aB8(s:Ss)(p:PP)(f:Fl)(b er:ab):Tr aan:=.need (ga s.bK f b er) (.need (HD s.bK 2 (L5 s) f b er) (.need (aam (L6 s) s.done f b er) (.ret (s,ry (L6 s) s.done b))))
def AO(s:Ss):Int×Int:=(s.bK.1+2,s.bK.2-2)
abbrev yh(s:Ss)(p:PP)(f:Fl)(b er:ab):Prop:=dE b er∧iO s.bK er∧3≤s.bK.2∧0≤s.done∧s.done≤1024*(s.bK.2-2)∧f.2.1=false
abbrev am8(s:Ss)(p:PP)(f:Fl)(b er:ab):aan:=(s,ry (AO s) s.done b)
def aTl:bT:=cj [] gL aIH (q5∘q0 yh) (q5∘q0 am8) aTj aTk
theorem axa:acf yh aB8 am8:=by
 intro s p f b er h_;delta am8;obtain⟨h1,h2,h3,h4,h5,h6⟩:=h_;have g1:=h1.2.2;have a0:L5 s=s.bK.2-2:=by
  unfold L5;rw[show Int.tdiv (1024*s.bK.2) 1024=s.bK.2 by rw[Int.mul_comm];exact Int.mul_tdiv_cancel _ (by decide),bM (n:=s.bK.2) (by omega) (by omega),bM (by omega) (by omega)]
 have a1:L6 s=AO s:=by unfold L6 AO;rw[a0]
 simp only[aB8,a0,a1,bF,bH];refine⟨⟨by omega,by omega⟩,⟨h1,h2,by omega,by decide,by omega⟩,⟨h1,⟨by show 0≤s.bK.1+2;omega,by show 1≤s.bK.2-2;omega,by show s.bK.1+2+(s.bK.2-2)≤_;omega⟩,h4,h5,h6⟩,trivial⟩
theorem aao:aTl.Ok aA 114:=ay (bI kg (bI ael (bI aw9 bU))) func114 call114 (ks:= [.bS,.ck]) (fun _=>bx @axa)
abbrev nV:cl Hp (Cf×Fl×ab×ab×Sg×Jn×List Rc×Ss×PP×Unit):=bD (cb zN) (bD (cb dA) (bD (dd 0 u8) (bD (dd 0 (.int .i64)) (bD (cb jc) (bD (cb awO) (bD (dd 0 cH) (bD (cb vt) (bD (cb kY) bG))))))))
abbrev aap:Type:=Int×Ss
abbrev aTm(x:aap):LV:=aw (ar x.1)
abbrev aTn(x:aap):List ao:= [(7,vt.wr x.2)]
def aB9(x:ab)(c:Cf)(f:Fl)(b er:ab)(g:Sg)(j:Jn)(l:List ah)(s:Ss)(p:PP):Tr aap:=.ite (decide ((↑c.1.length:Int)≤(cJ x).1.1)) (.ret (15,s)) (.need ((0:Int)≤0∧(0:Int)≤224∧(224:Int)≤224) (.ret (0,{target:=s.target,bK:=s.bK,bytes:=cP s.bytes 0 224 x,cM:=s.cM,list:=s.list,ct:=s.ct,plain:=s.plain,block:=s.block,off:=s.off,done:=s.done})))
def Rp(c:Cf)(x:ab)(s:Ss):Int×Ss:=if c.1.length≤(cJ x).1.1 then(15,s)else(0,{s with bytes:=cP s.bytes 0 224 x})
abbrev L7(x:ab)(c:Cf)(f:Fl)(b er:ab)(g:Sg)(j:Jn)(l:List Rc)(s:Ss)(p:PP):Prop:=True
abbrev am9(x:ab)(c:Cf)(f:Fl)(b er:ab)(g:Sg)(j:Jn)(l:List Rc)(s:Ss)(p:PP):aap:=Rp c x s
def aTo:bT:=cj [none,some u8] ((bR (bO (cr 0 0)) (bD (bO (gx false false u8)) bG))) nV (q9∘q1 L7) (q9∘q1 am9) aTm aTn
theorem axb:aeP L7 aB9 am9:=by
 intro x c f b er g j l s p h_;delta am9;simp only[aB9,bW,bF,bH,Rp];exact⟨fun h=>(by rw[if_pos h]),fun h=>⟨by decide,by rw[if_neg h]⟩⟩
theorem axc:aTo.Ok aA 107:=ay (bI uW bU) func107 call107 (ks:=eU) (fun x_=>uo (@axb x_.1))
def aIK(c:Cf)(f:Fl)(b er:ab)(g:Sg)(j:Jn)(l:List ah)(s:Ss)(p:PP):Tr YD:=.need (qK g j f b er l) (.ret ((eP g).1,(eP g).2.1,(eP g).2.2.1,(eP g).2.2.2.1,(eP g).2.2.2.2.1,(eP g).2.2.2.2.2.1,(eP g).2.2.2.2.2.2.1,(eP g).2.2.2.2.2.2.2.1,(eP g).2.2.2.2.2.2.2.2.1,(eP g).2.2.2.2.2.2.2.2.2.1,(eP g).2.2.2.2.2.2.2.2.2.2.1,(eP g).2.2.2.2.2.2.2.2.2.2.2))
abbrev yi(c:Cf)(f:Fl)(b er:ab)(g:Sg)(j:Jn)(l:List Rc)(s:Ss)(p:PP):Prop:=g.2.2.2.2.2.2.2.length≤200
abbrev Vx(c:Cf)(f:Fl)(b er:ab)(g:Sg)(j:Jn)(l:List Rc)(s:Ss)(p:PP):YD:=eP g
def ana:bT:=cj [] gL nV (q9∘q0 yi) (q9∘q0 Vx) aPP aPQ
theorem anb:aex yi aIK Vx:=by
 intro c f b er g j l s p h_;delta Vx;exact⟨Nat.le_trans h_ (by decide),rfl⟩
theorem Rq:ana.Ok aA 28:=ay (bI Bj bU) func28 call28 (ks:=eU) (fun _=>uo @anb)
def aIN(c:Cf)(f:Fl)(b er:ab)(g:Sg)(j:Jn)(l:List ah)(s:Ss)(p:PP):Tr sk:=.need (yi c f b er g j l s p) (.ret ((eP g).2.2.1))
abbrev E8(c:Cf)(f:Fl)(b er:ab)(g:Sg)(j:Jn)(l:List Rc)(s:Ss)(p:PP):Prop:=g.2.2.2.2.2.2.2.length≤200
abbrev Vy(c:Cf)(f:Fl)(b er:ab)(g:Sg)(j:Jn)(l:List Rc)(s:Ss)(p:PP):sk:=g.1.2.2.1
def aIO:bT:=cj [] gL nV (q9∘q0 E8) (q9∘q0 Vy) aPx aEE
theorem anc:aex E8 aIN Vy:=by
 intro c f b er g j l s p h_;delta Vy;exact⟨h_,rfl⟩
theorem ane:aIO.Ok aA 149:=ay (bI Rq bU) func149 call149 (ks:=eU) (fun _=>uo @anc)
def vu(x:ab)(s:Ss):ab:=cP s.bytes 8 216 x
def Ma(x:ab)(s:Ss):ab:=List.take 224 (List.drop 0 (vu x s))
def zP(x:ab)(f:Fl)(b er:ab)(s:Ss):Int×Fl×ab×ab:=eC 0 (List.take 224 (List.drop 0 (vu x s))) s.bK f b er
def hU(x:ab)(c:Cf)(g:Sg)(s:Ss):Int×Int×Int×Int×Int×ab×ab×ab×Int:=TW (eI c.1 g.1.2.2.1 (cR c) (Ma x s))
abbrev aaq:Type:=Int×Fl×ab×ab×Ss
abbrev aTp(x:aaq):LV:=aw (ar x.1)
abbrev aTq(x:aaq):List ao:= [(1,dA.wr x.2.1),(2,bE.own 0 ae x.2.2.1),(3,bE.own 0 ag x.2.2.2.1),(7,vt.wr x.2.2.2.2)]
def aCa(x:ab)(c:Cf)(f:Fl)(b er:ab)(g:Sg)(j:Jn)(l:List ah)(s:Ss)(p:PP):Tr aaq:=.need ((0:Int)≤8∧(8:Int)≤224∧(224:Int)≤224) (.need (E8 c f b er g j l {target:=s.target,bK:=s.bK,bytes:=vu x s,cM:=s.cM,list:=s.list,ct:=s.ct,plain:=s.plain,block:=s.block,off:=s.off,done:=s.done} p) (.need ((0:Int)≤0∧(0:Int)≤224∧(224:Int)≤224) (.need (qH c g.1.2.2.1 (Ma x s)) (.ite ((hU x c g s).2.2.2.2.2.2.2.2 !=0) (.ret ((hU x c g s).2.2.2.2.2.2.2.2,f,b,er,{target:=s.target,bK:=s.bK,bytes:=vu x s,cM:=s.cM,list:=s.list,ct:=s.ct,plain:=s.plain,block:=s.block,off:=s.off,done:=s.done})) (.need ((0:Int)≤0∧(0:Int)≤224∧(224:Int)≤224) (.need (L4 0 (0,224) {target:=s.target,bK:=s.bK,bytes:=vu x s,cM:= {key:=(hU x c g s).1,bQ:=(hU x c g s).2.1,cU:= {ver:=(hU x c g s).2.2.1,lP:=(hU x c g s).2.2.2.1,len:=(hU x c g s).2.2.2.2.1,list:=(hU x c g s).2.2.2.2.2.1,plain:=(hU x c g s).2.2.2.2.2.2.1},sign:=(hU x c g s).2.2.2.2.2.2.2.1},list:=s.list,ct:=s.ct,plain:=s.plain,block:=s.block,off:=s.off,done:=s.done} p f b er) (.ret ((zP x f b er s).1,(zP x f b er s).2.1,(zP x f b er s).2.2.1,(zP x f b er s).2.2.2,{target:=s.target,bK:=s.bK,bytes:=vu x s,cM:= {key:=(hU x c g s).1,bQ:=(hU x c g s).2.1,cU:= {ver:=(hU x c g s).2.2.1,lP:=(hU x c g s).2.2.2.1,len:=(hU x c g s).2.2.2.2.1,list:=(hU x c g s).2.2.2.2.2.1,plain:=(hU x c g s).2.2.2.2.2.2.1},sign:=(hU x c g s).2.2.2.2.2.2.2.1},list:=s.list,ct:=s.ct,plain:=s.plain,block:=s.block,off:=s.off,done:=s.done}))))))))
theorem jI{s x:ab}{k n:Nat}(h:s.length=n)(h2:k+x.length≤n):(cP s k (n-k) x).length=n:=by
 unfold cP;rw[List.length_append,List.length_append,List.length_take,List.length_take,List.length_drop];omega
theorem m5{s x:ab}{k n:Nat}(h:bL s)(hx:bL x):bL (cP s k n x):=(h.take k).append ((hx.take n).append (h.drop _))
structure aem (s:Ss) (er:ab):Prop where
 rg:iO s.bK er
 three:3≤s.bK.2
 len:s.bytes.length=224
 by_:bL s.bytes
def Gs(q:JF×Int)(bs:ab)(s:Ss)(f:Fl)(b er:ab):Int×Fl×ab×ab×Ss:=if q.2≠0 then(q.2,f,b,er,{s with bytes:=bs})else((eC 0 bs s.bK f b er).1,(eC 0 bs s.bK f b er).2.1,(eC 0 bs s.bK f b er).2.2.1,(eC 0 bs s.bK f b er).2.2.2,{s with bytes:=bs,cM:=q.1})
def uh(c:Cf)(g:Sg)(x:ab)(s:Ss)(f:Fl)(b er:ab):Int×Fl×ab×ab×Ss:=Gs (eI c.1 g.1.2.2.1 (cR c) (cP s.bytes 8 216 x)) (cP s.bytes 8 216 x) s f b er
abbrev B6(x:ab)(c:Cf)(f:Fl)(b er:ab)(g:Sg)(j:Jn)(l:List Rc)(s:Ss)(p:PP):Prop:=gA c b er g j l∧aem s er∧x.length=216∧bL x
abbrev anf(x:ab)(c:Cf)(f:Fl)(b er:ab)(g:Sg)(j:Jn)(l:List Rc)(s:Ss)(p:PP):aaq:=uh c g x s f b er
def aTr:bT:=cj [none,some u8] ((bR (bO (cr 0 0)) (bD (bO (gx false false u8)) bG))) nV (q9∘q1 B6) (q9∘q1 anf) aTp aTq
theorem axd:aeP B6 aCa anf:=by
 intro x c f b er g j l s p h_;delta anf;obtain⟨h1,h2,h3,h4⟩:=h_;have l0:(cP s.bytes 8 216 x).length=224:=jI (k:=8) h2.len (by omega);have b0:bL (cP s.bytes 8 216 x):=m5 h2.by_ h4;have e0:vu x s=cP s.bytes 8 216 x:=rfl;have e1:Ma x s=cP s.bytes 8 216 x:=by unfold Ma;rw[e0,List.drop_zero];exact List.take_of_length_le (by omega)
 have e2:zP x f b er s=eC 0 (cP s.bytes 8 216 x) s.bK f b er:=by unfold zP;rw[e0,List.drop_zero,List.take_of_length_le (by omega)]
 have e3:hU x c g s=TW (eI c.1 g.1.2.2.1 (cR c) (cP s.bytes 8 216 x)):=by unfold hU;rw[e1]
 have hm:qH c g.1.2.2.1 (cP s.bytes 8 216 x):=⟨b0,by omega,h1.ks⟩;unfold uh Gs;simp only[aCa,e0,e1,e2,e3,bF,b9,bH];generalize eI c.1 g.1.2.2.1 (cR c) (cP s.bytes 8 216 x)=q;refine⟨by decide,h1.st.mid,by decide,hm,fun c1=>⟨by decide,⟨h1.fl,h2.rg,by decide,by have:=h2.three;show 0<s.bK.2;omega,l0⟩,?_⟩,fun c1=>?_⟩
 ·have c1:q.2=0:=c1;rw[if_neg (fun h=>h c1)];rfl
 ·have c1:q.2≠0:=c1;rw[if_pos c1];rfl
theorem axe:aTr.Ok aA 108:=ay (bI JH (bI ane (bI aw7 bU))) func108 call108 (ks:=eU) (fun x_=>uo (@axd x_.1))
abbrev ui:cl bE Ss:=fe 151 (Vt 8 1 (cr 9 0) (cr 10 0))
abbrev s5:cl Hp (Cf×Fl×ab×ab×Sg×Jn×List Rc×Ss×PP×HH×Cu×Unit):=bD (cb zN) (bD (cb dA) (bD (dd 0 u8) (bD (dd 0 (.int .i64)) (bD (cb jc) (bD (cb awO) (bD (dd 0 cH) (bD (cb ui) (bD (cb kY) (bD (cb oY) (bD (cb p6) bG))))))))))
noncomputable section
variable {A B C D E F G H I J K L M T:Type}
abbrev zQ{R:Sort _}(f:A→B→C→D→E→F→G→H→I→J→K→R)(x:A×B×C×D×E×F×G×H×I×J×K×T):R:=Iz (fun a b c d e f' g h i j=>f a b c d e f' g h i j x.2.2.2.2.2.2.2.2.2.2.1) x
end
theorem Rr(x:Int):bL (fC x):=by
 unfold fC;intro z hz;obtain⟨i,_,rfl⟩:=List.mem_map.1 hz;exact lT _
theorem E9(s:ab):bL (jD s):=by
 have key:∀ (l:List Nat) (a:ab),bL a→bL (l.foldl (fun a i=>a++fC (s.getD i 0)) a):=by
  intro l;induction l with
  |nil=>exact fun _ h=>h
  |cons i l ih=>exact fun a h=>ih _ (h.append (Rr _))
 exact key _ _ .nil
theorem Vz(h:HH):bL (AH h):=E9 _
theorem ang(h:HH)(hw:h.wait.length=128)(hn:0≤h.n):(Vv h).length=200:=by
 unfold Vv;refine jI (k:=72) (n:=200) (jI (k:=64) (n:=200) (jI (k:=0) (n:=200) List.length_replicate ?_) ?_) ?_
 ·rw[sy];decide
 ·rw[wH];decide
 ·rw[List.length_take];omega
theorem axf{h:HH}(hw:bL h.wait):bL (Vv h):=m5 (m5 (m5 (bL.rep _ ⟨by decide,by decide⟩) (E9 _)) (Rr _)) (hw.take _)
structure Fa (h:HH):Prop where
 ok:oA h
 wait:bL h.wait
 lim:h.n<2305843009213690000
def km(s:Ss)(h:HH):Ck:=(s.target,s.block,s.off,s.done,idF s.bytes,Vv h)
theorem B7{s:Ss}{h:HH}(hh:Fa h):bL (km s h).2.2.2.2.1∧bL (km s h).2.2.2.2.2∧(km s h).2.2.2.2.2.length≤200:=⟨(Vz _).take 8,axf hh.wait,Nat.le_of_eq (ang h hh.ok.wait hh.ok.n)⟩
def Mb(s:Ss):ab:=List.take 224 (List.drop 0 s.bytes)
def pg(s:Ss)(h:HH):Int×Int×Int×Int×ab×ab:=(s.target,s.block,s.off,s.done,idF (Mb s),Vv h)
abbrev aar:Type:=Int×Fl×ab×ab×Sg×Jn×(List ah)
abbrev aTt(x:aar):LV:=aw (ar x.1)
abbrev aTu(x:aar):List ao:= [(1,dA.wr x.2.1),(2,bE.own 0 ae x.2.2.1),(3,bE.own 0 ag x.2.2.2.1),(4,jc.wr x.2.2.2.2.1),(5,fX.wr x.2.2.2.2.2.1),(6,bE.own 1 (ag.pair (ag.pair ae.sl)) x.2.2.2.2.2.2)]
def aCb(c:Cf)(f:Fl)(b er:ab)(g:Sg)(j:Jn)(l:List ah)(s:Ss)(p:PP)(h:HH) (u:Cu):Tr aar:=.need ((0:Int)≤0∧(0:Int)≤224∧(224:Int)≤224) (.need ((Mb s).length<1152921504606846976) (.need (L3 h) (.need (Lt (pg s h) g j f b er l) (.ret ((hY (pg s h) g j f b er l).1,(hY (pg s h) g j f b er l).2.2.2.1,(hY (pg s h) g j f b er l).2.2.2.2.1,(hY (pg s h) g j f b er l).2.2.2.2.2.1,(hY (pg s h) g j f b er l).2.1,(hY (pg s h) g j f b er l).2.2.1,(hY (pg s h) g j f b er l).2.2.2.2.2.2)))))
abbrev tV(c:Cf)(f:Fl)(b er:ab)(g:Sg)(j:Jn)(l:List Rc)(s:Ss)(p:PP)(h:HH)(u:Cu):Prop:=gA c b er g j l∧s.bytes.length=224∧Fa h
abbrev anh(c:Cf)(f:Fl)(b er:ab)(g:Sg)(j:Jn)(l:List Rc)(s:Ss)(p:PP)(h:HH)(u:Cu):aar:=((hY (km s h) g j f b er l).1,(hY (km s h) g j f b er l).2.2.2.1,(hY (km s h) g j f b er l).2.2.2.2.1,(hY (km s h) g j f b er l).2.2.2.2.2.1,(hY (km s h) g j f b er l).2.1,(hY (km s h) g j f b er l).2.2.1,(hY (km s h) g j f b er l).2.2.2.2.2.2)
def aTv:bT:=cj [] gL s5 (zQ∘q0 tV) (zQ∘q0 anh) aTt aTu
theorem axg:aeQ tV aCb anh:=by
 intro c f b er g j l s p h u h_;delta anh;obtain⟨h1,h2,h3⟩:=h_;obtain⟨k1,k2,k3⟩:=B7 (s:=s) h3;have e0:Mb s=s.bytes:=by unfold Mb;rw[List.drop_zero];exact List.take_of_length_le (by omega)
 have e1:pg s h=km s h:=by unfold pg;rw[e0];rfl
 have hl:=h3.lim;simp only[aCb,e0,e1,bF,bH];exact⟨by decide,by omega,⟨h3.ok,by omega⟩,⟨h1.fl,h1.jn,h1.st,k1,k2,k3⟩,trivial⟩
theorem aas:aTv.Ok aA 151:=ay (bI aAe (bI aw4 (bI avX bU))) func151 call151 (ks:= [.one 6,.fr [.sym],.cu,.bS,.ck]) (fun _=>aa9 @axg)
theorem Kp.rg'{b er b' Bl:ab}(h:Kp b er b' Bl){j:Jn}{l:List Rc}(g:mY j l er):mY j l Bl:=⟨h.rg g.rg,g.two,g.ep,g.cur,g.used,g.len,g.avw⟩
theorem aIQ{f:Fl}(h:(jw f).1=false):(jw f).2.2.1=f.2.1:=by
 unfold jw at h ⊢;split
 ·rfl
 ·rename_i c;rw[if_neg c]at h;split
  ·rfl
  ·rename_i c2;rw[if_neg c2]at h;cases h
theorem ani:∀ (n:Nat) {f:Fl} {b:ab} {p:Int} {x:ab},f.2.1=false→(wrF n f b p x).1=0→(wrF n f b p x).2.1.2.1=false
 |0,_,_,_,_,h,_=>h
 |n+1,f,b,p,x,h,h1=>by
  rw[wrF]at h1 ⊢;split
  ·rename_i c;rw[if_pos c]at h1;cases h1
  ·rename_i c;rw[if_neg c]at h1;exact ani n (by rw[aIQ (by simpa using c)];exact h) h1
theorem axh{f:Fl}{b x:ab}{r:Int×Int}{p:Int}(h:(gM f b r p x).1=0):(gM f b r p x).2.1.2.1=false:=by
 unfold gM at h ⊢;split
 ·rename_i c;rw[if_pos c]at h;cases h
 ·rename_i c;rw[if_neg c]at h;split
  ·rename_i c2;rw[if_pos c2]at h;cases h
  ·rename_i c2;rw[if_neg c2]at h;unfold Kw at h ⊢;rw[if_neg c]at h ⊢;split
   ·rename_i c3;rw[if_pos c3]at h;cases h
   ·rename_i c3;rw[if_neg c3]at h;split
    ·rename_i c4;rw[if_pos c4]at h;cases h
    ·rename_i c4;rw[if_neg c4]at h;split
     ·rename_i c5;rw[if_pos c5]at h;cases h
     ·rename_i c5;rw[if_neg c5]at h;exact ani _ (by simpa using c) h
theorem axi{i:Int}{x:ab}{r:Int×Int}{f:Fl}{b er:ab}(h:(eC i x r f b er).1=0):(eC i x r f b er).2.1.2.1=false:=by
 unfold eC Ro at h ⊢;split
 ·rename_i c;rw[if_pos c]at h;exact absurd h c
 ·rename_i c;rw[if_neg c]at h;exact axh h
theorem B8{i:Int}{x:ab}{r:Int×Int}{f:Fl}{b er:ab}(h:dE b er)(hx:bL x):Kp b er (eC i x r f b er).2.2.1 (eC i x r f b er).2.2.2:=by
 have k1:=BB (f:=f) (r:=r) (s:=i) h;unfold eC Ro;split
 ·exact k1
 ·exact k1.trans (qQ hx)
def Mc(x:ab)(s:Ss):ab:=cP s.list 0 1024 x
def VA(s:Ss):ab:=ub s.cM.cU.ver s.cM.cU.lP s.cM.cU.len s.cM.cU.list s.cM.cU.plain
def Md(s:Ss):HH:=dk {begun:=eX.begun,s:=eX.s,n:=0,wait:=eX.wait} (VA s)
def zR(x:ab)(s:Ss):Ss:= {target:=s.target,bK:=s.bK,bytes:=s.bytes,cM:=s.cM,list:=Mc x s,ct:=s.ct,plain:=s.plain,block:=s.block,off:=s.off,done:=s.done}
def qW(x:ab)(f:Fl)(b er:ab)(s:Ss):Cu:=ry (AO (zR x s)) s.done (eC 1 x s.bK f b er).2.2.1
def s6(x:ab)(f:Fl)(b er:ab)(g:Sg)(j:Jn)(l:List ah)(s:Ss):Int×Sg×Jn×Fl×ab×ab×List ah:=hY (km (zR x s) (Md s)) g j (eC 1 x s.bK f b er).2.1 (eC 1 x s.bK f b er).2.2.1 (eC 1 x s.bK f b er).2.2.2 l
abbrev Me:Type:=Int×Fl×ab×ab×Sg×Jn×(List ah)×Ss
abbrev aIR(x:Me):LV:=aw (ar x.1)
abbrev aIS(x:Me):List ao:= [(1,dA.wr x.2.1),(2,bE.own 0 ae x.2.2.1),(3,bE.own 0 ag x.2.2.2.1),(4,jc.wr x.2.2.2.2.1),(5,fX.wr x.2.2.2.2.2.1),(6,bE.own 1 (ag.pair (ag.pair ae.sl)) x.2.2.2.2.2.2.1),(7,vt.wr x.2.2.2.2.2.2.2)]
abbrev Mf:Type:=Int×Fl×ab×ab×Sg×Jn×(List ah)×Ss×HH×Cu
abbrev aIT(x:Mf):LV:=aw (ar x.1)
abbrev aIU(x:Mf):List ao:= [(1,dA.wr x.2.1),(2,bE.own 0 ae x.2.2.1),(3,bE.own 0 ag x.2.2.2.1),(4,jc.wr x.2.2.2.2.1),(5,fX.wr x.2.2.2.2.2.1),(6,bE.own 1 (ag.pair (ag.pair ae.sl)) x.2.2.2.2.2.2.1),(7,ui.wr x.2.2.2.2.2.2.2.1),(9,oY.wr x.2.2.2.2.2.2.2.2.1),(10,p6.wr x.2.2.2.2.2.2.2.2.2)]
abbrev Mg:Type:=Me⊕Mf
abbrev aIV:Mg→LV:=Sum.elim aIR aIT
abbrev aIW:Mg→List ao:=Sum.elim aIS aIU
def aCc(x:ab)(c:Cf)(f:Fl)(b er:ab)(g:Sg)(j:Jn)(l:List ah)(s:Ss)(p:PP):Tr (Me⊕Mf):=(.need (1<2305843009213693952∧ [x].flatten.length<1152921504606846976) (.ite (!decide (iG [x].flatten=s.cM.cU.list)) (.ret (.inl (7,f,b,er,g,j,l,s))) (.need ((0:Int)≤0∧(0:Int)≤1024∧(1024:Int)≤1024) (.need (B5 1 x (zR x s) p f b er) (.ite ((eC 1 x s.bK f b er).1 !=0) (.ret (.inl ((eC 1 x s.bK f b er).1,(eC 1 x s.bK f b er).2.1,(eC 1 x s.bK f b er).2.2.1,(eC 1 x s.bK f b er).2.2.2,g,j,l,{target:=s.target,bK:=s.bK,bytes:=s.bytes,cM:=s.cM,list:=Mc x s,ct:=s.ct,plain:=s.plain,block:=s.block,off:=s.off,done:=s.done}))) (.need (yh (zR x s) p (eC 1 x s.bK f b er).2.1 (eC 1 x s.bK f b er).2.2.1 (eC 1 x s.bK f b er).2.2.2) (.need (0≤ s.cM.cU.ver∧s.cM.cU.ver<18446744073709551616∧0≤s.cM.cU.lP∧s.cM.cU.lP<18446744073709551616) (.need (oA {begun:=eX.begun,s:=eX.s,n:=0,wait:=eX.wait}∧0+(↑(VA s).length:Int)<2305843009213693952) (.need (tV c (eC 1 x s.bK f b er).2.1 (eC 1 x s.bK f b er).2.2.1 (eC 1 x s.bK f b er).2.2.2 g j l (zR x s) p (Md s) {r:=(s.bK.1+2,s.bK.2-2),pos:=(qW x f b er s).pos,n:=(qW x f b er s).n,word:=(qW x f b er s).word,ready:=(qW x f b er s).ready,err:=0}) (.ret (.inr ((s6 x f b er g j l s).1,(s6 x f b er g j l s).2.2.2.1,(s6 x f b er g j l s).2.2.2.2.1,(s6 x f b er g j l s).2.2.2.2.2.1,(s6 x f b er g j l s).2.1,(s6 x f b er g j l s).2.2.1,(s6 x f b er g j l s).2.2.2.2.2.2,{target:=s.target,bK:=s.bK,bytes:=s.bytes,cM:=s.cM,list:=Mc x s,ct:=s.ct,plain:=s.plain,block:=s.block,off:=s.off,done:=s.done},Md s,{r:=(s.bK.1+2,s.bK.2-2),pos:=(qW x f b er s).pos,n:=(qW x f b er s).n,word:=(qW x f b er s).word,ready:=(qW x f b er s).ready,err:=0}))))))))))))
def m6(m:MM):ab:=ub m.ver m.lP m.len m.list m.plain
def gG(s:Ss)(x:ab):Ss:= {s with list:=cP s.list 0 1024 x}
theorem VB{h:HH}(hw:bL h.wait){c:Int}(hc:By c):bL (me h c).wait:=by
 unfold me;split<;>exact hw.set _ hc
theorem HE:∀ {b:ab} {h:HH},bL h.wait→bL b→bL (dk h b).wait
 | [],_,h,_=>h
 |c::b,h,hw,hb=>HE (b:=b) (h:=me h c) (VB hw (hb c (by simp))) fun z hz=>hb z (by simp[hz])
theorem VC{h:HH}{b:ab}(hh:Fa h)(hb:bL b)(hn:h.n+b.length<2305843009213690000):Fa (dk h b):=⟨jO b hh.ok,HE hh.wait hb,by rw[js];exact hn⟩
theorem anj:Fa eX:=⟨lO,bL.rep _ ⟨by decide,by decide⟩,by decide⟩
theorem aat{m:MM}(h1:bL m.list)(h2:bL m.plain):bL (m6 m):=by
 unfold m6 ub;split
 ·exact((((o9 _ _).append (o9 _ _)).append (o9 _ _)).append (h1.take 64)).append (h2.take 64)
 ·exact .nil
structure aIX (s:Ss):Prop where
 ver:uC s.cM.cU
 l1:bL s.cM.cU.list
 l2:bL s.cM.cU.plain
 list:s.list.length=1024∧bL s.list
 done:0≤s.done∧s.done≤1024*(s.bK.2-2)
abbrev tW(x:ab)(c:Cf)(f:Fl)(b er:ab)(g:Sg)(j:Jn)(l:List Rc)(s:Ss)(p:PP):Prop:=gA c b er g j l∧aem s er∧aIX s∧x.length≤1024∧bL x
abbrev ank(x:ab)(c:Cf)(f:Fl)(b er:ab)(g:Sg)(j:Jn)(l:List Rc)(s:Ss)(p:PP):Tr Mg:=.ite (!decide (iG x=s.cM.cU.list)) (.ret (.inl (7,f,b,er,g,j,l,s))) (.ite ((eC 1 x s.bK f b er).1!=0) (.ret (.inl ((eC 1 x s.bK f b er).1,(eC 1 x s.bK f b er).2.1,(eC 1 x s.bK f b er).2.2.1,(eC 1 x s.bK f b er).2.2.2,g,j,l,gG s x))) (.ret (.inr ((hY (km (gG s x) (dk eX (m6 s.cM.cU))) g j (eC 1 x s.bK f b er).2.1 (eC 1 x s.bK f b er).2.2.1 (eC 1 x s.bK f b er).2.2.2 l).1,(hY (km (gG s x) (dk eX (m6 s.cM.cU))) g j (eC 1 x s.bK f b er).2.1 (eC 1 x s.bK f b er).2.2.1 (eC 1 x s.bK f b er).2.2.2 l).2.2.2.1,(hY (km (gG s x) (dk eX (m6 s.cM.cU))) g j (eC 1 x s.bK f b er).2.1 (eC 1 x s.bK f b er).2.2.1 (eC 1 x s.bK f b er).2.2.2 l).2.2.2.2.1,(hY (km (gG s x) (dk eX (m6 s.cM.cU))) g j (eC 1 x s.bK f b er).2.1 (eC 1 x s.bK f b er).2.2.1 (eC 1 x s.bK f b er).2.2.2 l).2.2.2.2.2.1,(hY (km (gG s x) (dk eX (m6 s.cM.cU))) g j (eC 1 x s.bK f b er).2.1 (eC 1 x s.bK f b er).2.2.1 (eC 1 x s.bK f b er).2.2.2 l).2.1,(hY (km (gG s x) (dk eX (m6 s.cM.cU))) g j (eC 1 x s.bK f b er).2.1 (eC 1 x s.bK f b er).2.2.1 (eC 1 x s.bK f b er).2.2.2 l).2.2.1,(hY (km (gG s x) (dk eX (m6 s.cM.cU))) g j (eC 1 x s.bK f b er).2.1 (eC 1 x s.bK f b er).2.2.1 (eC 1 x s.bK f b er).2.2.2 l).2.2.2.2.2.2,gG s x,dk eX (m6 s.cM.cU),ry (AO s) s.done (eC 1 x s.bK f b er).2.2.1))))
def aTw:bT:=sR [none,some u8] ((bR (bO (cr 0 0)) (bD (bO (gx false false u8)) bG))) nV (q9∘q1 tW) (q9∘q1 ank) aIV aIW
theorem axj(x:ab)(c:Cf)(f:Fl)(b er:ab)(g:Sg)(j:Jn)(l:List Rc)(s:Ss)(p:PP)(h_:tW x c f b er g j l s p)(z_:Mg)(fS:(ank x c f b er g j l s p).Is z_):(aCc x c f b er g j l s p).Is z_:=by
 delta ank at fS;obtain⟨h1,h2,h3,h4,h5⟩:=h_;have fS:=cD.1 fS;have hm:=PA s.cM.cU.ver s.cM.cU.lP s.cM.cU.len s.cM.cU.list s.cM.cU.plain;have fx: [x].flatten=x:=by simp
 have k1:=B8 (i:=1) (r:=s.bK) (f:=f) h1.fl h5;have hh:Fa (dk eX (m6 s.cM.cU)):=VC anj (aat h3.l1 h3.l2) (by show(0:Int)+((m6 s.cM.cU).length:Int)<_;unfold m6;omega);have q1:B5 1 x (gG s x) p f b er:=⟨h1.fl,h2.rg,by decide,by have:=h2.three;show 1<s.bK.2;omega,by omega⟩;have q3:=h1.next k1 (k1.rg' h1.jn) h1.st;have on:=axi (i:=1) (x:=x) (r:=s.bK) (f:=f) (b:=b) (er:=er);simp only[aCc,Mc,VA,Md,zR,qW,s6,fx,bF];refine⟨⟨by decide,by omega⟩,cD.2 ⟨fun c=>fS.1 c,fun c=>?_⟩⟩;have fS:=b9.1 (fS.2 c);refine⟨by decide,q1,b9.2 ⟨fun c1=>?_,fun c1=>fS.2 c1⟩⟩;obtain rfl:=fS.1 c1;refine⟨⟨k1.fl h1.fl,k1.rg h2.rg,h2.three,h3.done.1,h3.done.2,on c1⟩,h3.ver,⟨lO,by omega⟩,⟨q3,h2.len,hh⟩,rfl⟩
theorem axk:aTw.Ok aA 109:=kO bJ ((bI G3 (bI aw5 (bI aao (bI wG (bI pR (bI ag7 (bI aas bU)))))))) func109 (by kernel_rfl) call109 (ks:= [.one 6,.fr [.sym],.cu,.bS,.ck]) (fun _ _=>cn.nil _) (fun _ _=>by kernel_rfl) fun x_ y_ h=>axj x_.1 y_.1 y_.2.1 y_.2.2.1 y_.2.2.2.1 y_.2.2.2.2.1 y_.2.2.2.2.2.1 y_.2.2.2.2.2.2.1 y_.2.2.2.2.2.2.2.1 y_.2.2.2.2.2.2.2.2.1 h
def aTx(g:FuncId)(b o:Nat):cl SV Unit where
 rd s:=match s with
  | .WR g' b' o'=>if g'=g∧b'=b∧o'=o then some ()else none
  |_=>none
 wr _:=.WR g b o
 ok:=by
  intro s x h;split at h
  ·split at h
   ·rename_i e;obtain⟨rfl,rfl,rfl⟩:=e;rfl
   ·cases h
  ·cases h
abbrev Mh:cl bE Ss:=fe 151 (Vt 1 2 (cr 5 0) (cr 6 0))
abbrev anl:cl Hp (Ss×PP×Fl×ab×ab×HH×Cu×Unit):=bD (cb Mh) (bD (cb kY) (bD (cb qI) (bD (dd 0 u8) (bD (dd 0 (.int .i64)) (bD (cb oY) (bD (cb E7) bG))))))
abbrev aZO(x:aap):List ao:= [(0,Mh.wr x.2)]
def aTy(x:ab)(s:Ss)(p:PP)(f:Fl)(b er:ab)(h:HH)(u:Cu):Tr aap:=.need (4≤x.length) (.ite (decide (i64.wrap (s.cM.cU.len-s.done)<two x 2)) (.ret (10,s)) (.need ((0:Int)≤0∧(0:Int)≤4∧(4:Int)≤4) (.ret (0,{target:=s.target,bK:=s.bK,bytes:=s.bytes,cM:=s.cM,list:=s.list,ct:=cP s.ct 0 4 x,plain:=two x 2,block:=s.block,off:=s.off,done:=s.done}))))
def Rs(x:ab)(s:Ss):Int×Ss:=if s.cM.cU.len-s.done<two x 2 then(10,s)else(0,{s with ct:=cP s.ct 0 4 x,plain:=two x 2})
abbrev VD(x:ab)(s:Ss)(p:PP)(f:Fl)(b er:ab)(h:HH)(u:Cu):Prop:=4≤x.length∧0≤s.cM.cU.len∧s.cM.cU.len<1099511627776∧0≤s.done∧s.done<1099511627776
abbrev aIY(x:ab)(s:Ss)(p:PP)(f:Fl)(b er:ab)(h:HH)(u:Cu):aap:=Rs x s
def aZP:bT:=cj [none,some u8] ((bR (bO (cr 0 0)) (bD (bO (gx false false u8)) bG))) anl (q7∘q1 VD) (q7∘q1 aIY) aTm aZO
theorem aIZ:aeo VD aTy aIY:=by
 intro x s p f b er h u h_;delta aIY;obtain⟨h1,h2,h3,h4,h5⟩:=h_;have w:i64.wrap (s.cM.cU.len-s.done)=s.cM.cU.len-s.done:=bM (by omega) (by omega);simp only[aTy,w,bW,bF,bH,Rs];exact⟨h1,fun c=>(by rw[if_pos c]),fun c=>⟨by decide,by rw[if_neg c]⟩⟩
theorem aI0:aZP.Ok aA 110:=ay (bI HA bU) func110 call110 (ks:=eU) (fun x_=>bB (@aIZ x_.1))
def aTB(x:ab):Tr sk:=.ret (0)
abbrev Mi(x:ab):Prop:=True
abbrev anm(x:ab):sk:=0
def aTC:bT:=cj [some u8] ((bD (bO (gx false false u8)) bG)) bG (q0∘q1 Mi) (q0∘q1 anm) aED aEE
theorem axm:abY Mi aTB anm:=by
 intro x h_;delta anm;exact rfl
theorem aav:aTC.Ok aA 153:=ay bU func153 call153 (ks:=eU) (fun x_ _=>@axm x_.1)
abbrev aZQ:cl bE Ss:=fe 151 (Vt 2 3 (cr 6 0) (cr 7 0))
abbrev aZR:cl bE Unit:=fe 110 (bR (cr 1 0) bG)
abbrev aTD:cl bE Fl:=fe 90 (aGK 4)
abbrev aTE:cl bE Cu:=fe 275 (cCu 3)
abbrev aZS:cl Hp (Ss×PP×Fl×ab×ab×HH×Cu×Unit):=bR (cb aZR) (bD (cb aZQ) (bD (cb kY) (bD (cb aTD) (bD (dd 0 u8) (bD (dd 0 (.int .i64)) (bD (cb oY) (bD (cb aTE) bG)))))))
abbrev aaw:Type:=Int×Fl×ab×ab×HH×Cu
abbrev aTF(x:aaw):LV:=aw (ar x.1)
abbrev aTG(x:aaw):List ao:= [(3,aTD.wr x.2.1),(4,bE.own 0 ae x.2.2.1),(5,bE.own 0 ag x.2.2.2.1),(6,oY.wr x.2.2.2.2.1),(7,aTE.wr x.2.2.2.2.2)]
def aTH(x:ab)(s:Ss)(p:PP)(f:Fl)(b er:ab)(h:HH)(u:Cu):Tr aaw:=.need (oA h∧h.n+(↑x.length:Int)<2305843009213693952) (.need (K5 x u f b er) (.ret ((k8 x u f b er).1,(k8 x u f b er).2.2.1,(k8 x u f b er).2.2.2.1,(k8 x u f b er).2.2.2.2,dk h x,(k8 x u f b er).2.1)))
abbrev B9(x:ab)(s:Ss)(p:PP)(f:Fl)(b er:ab)(h:HH)(u:Cu):Prop:=oA h∧h.n+x.length<2305843009213693952∧dE b er∧AK u er∧bL x∧x.length<1099511627776
abbrev ann(x:ab)(s:Ss)(p:PP)(f:Fl)(b er:ab)(h:HH)(u:Cu):aaw:=((k8 x u f b er).1,(k8 x u f b er).2.2.1,(k8 x u f b er).2.2.2.1,(k8 x u f b er).2.2.2.2,dk h x,(k8 x u f b er).2.1)
def aTI:bT:=cj [some u8] ((bD (bO (gx false false u8)) (bR (bO (cr 0 0)) bG))) aZS (q7∘q1 B9) (q7∘q1 ann) aTF aTG
theorem axn:aeo B9 aTH ann:=by
 intro x s p f b er h u h_;delta ann;obtain⟨h1,h2,h3⟩:=h_;exact⟨⟨h1,h2⟩,h3,rfl⟩
theorem aax:aTI.Ok aA 154:=ay (bI pR (bI avk bU)) func154 call154 (ks:=eU) (fun x_=>bB (@axn x_.1))
abbrev Fb(n:Int):Prop:=0≤n∧n≤8192
abbrev aI1(n:Int):E2:=(0,oM n)
def aI2:bT:=cj [] inA bG (q0∘q1 Fb) (q0∘q1 aI1) amF amG
theorem yj:aI2.Ok aA 198:=lR awF (fun z=>.inr z) (fun _=>rfl) (fun _=>rfl) fun x y h=>⟨trivial,cD.2 ⟨fun c=>absurd h c,fun _=>rfl⟩⟩
theorem ano{x:ab}{m u:Int}{out:ab}{z:Lz}{d:Dc}{r:RH}{p1 p2 p3:ab}{w:Wn}:(eQ x m u out z d r p1 p2 p3 w).2.2.2.1.made+out.length=z.made+(eQ x m u out z d r p1 p2 p3 w).2.2.1.length∧out.length≤(eQ x m u out z d r p1 p2 p3 w).2.2.1.length∧((eQ x m u out z d r p1 p2 p3 w).1=false→(eQ x m u out z d r p1 p2 p3 w).2.2.2.1.st=2→m≤(eQ x m u out z d r p1 p2 p3 w).2.2.1.length):=by
 unfold eQ;split
 ·rename_i c0;exact⟨rfl,Nat.le_refl _,fun _ h=>by rcases c0 with c|c<;>(have h:z.st=2:=h;omega)⟩
 ·split
  ·split
   ·exact⟨rfl,Nat.le_refl _,fun _ h=>by cases h⟩
   ·exact⟨rfl,Nat.le_refl _,fun h=>by cases h⟩
  ·split
   ·exact⟨rfl,Nat.le_refl _,fun h=>by cases h⟩
   ·split
    ·split
     ·rename_i c;exact⟨rfl,Nat.le_refl _,fun _ _=>c⟩
     ·refine⟨?_,?_,fun h=>by cases h⟩
      ·show z.made+1+(out.length:Int)=z.made+((out++ [s4 z w]).length:Int);rw[List.length_append,List.length_singleton];omega
      ·show out.length≤(out++ [s4 z w]).length;rw[List.length_append];omega
    ·split
     ·exact⟨rfl,Nat.le_refl _,fun h=>by cases h⟩
     ·refine⟨?_,Nat.le_refl _,fun h=>by cases h⟩;simp only;split
      ·rw[(E3 z _).1]
      ·show(iv z _).2.made+_=_;rw[(E3 z _).1]
theorem aay:∀ (n:Nat) {x:ab} {m u:Int} {out:ab} {S:ZS},Rj S→bL x→0≤u∧u≤x.length→bL out→muS x u S<n→
  (kV n x m u out S).2.2.1.made+out.length=S.1.made+(kV n x m u out S).2.1.length∧out.length≤(kV n x m u out S).2.1.length∧((kV n x m u out S).2.2.1.st=2→m≤(kV n x m u out S).2.1.length)
 |0,_,_,_,_,_,_,_,_,_,h=>absurd h (Nat.not_lt_zero _)
 |n+1,x,m,u,out,S,h1,h2,h3,h4,h5=>by
  rw[kV];obtain⟨k1,k2,k3,k4,k5,k6⟩:=E4 (m:=m) h1 h2 h3 h4;obtain⟨f1,f2,f3⟩:=ano (x:=x) (m:=m) (u:=u) (out:=out) (z:=S.1) (d:=S.2.1) (r:=S.2.2.1) (p1:=S.2.2.2.1) (p2:=S.2.2.2.2.1) (p3:=S.2.2.2.2.2.1) (w:=S.2.2.2.2.2.2);split
  ·rename_i c;have hm:=k6 c;obtain⟨i1,i2,i3⟩:=aay n (x:=x) (m:=m) (u:=(mL x m u out S).2.1) (out:=(mL x m u out S).2.2.1) (S:=(mL x m u out S).2.2.2) k1 h2 ⟨Int.le_trans h3.1 k2,k3⟩ k4 (by have:muS x (mL x m u out S).2.1 (mL x m u out S).2.2.2<muS x u S:=hm;omega);have f1:(mL x m u out S).2.2.2.1.made+out.length=S.1.made+(mL x m u out S).2.2.1.length:=f1;have f2:out.length≤(mL x m u out S).2.2.1.length:=f2;exact⟨by omega,by omega,i3⟩
  ·rename_i c;have c:(mL x m u out S).1=false:=(by simpa using c);exact⟨f1,f2,f3 c⟩
theorem Mj{x:ab}{S:ZS}(h1:Rj S)(h2:bL x):Rj (fG x 128 0 [] S).2.2∧0≤(fG x 128 0 [] S).1∧(fG x 128 0 [] S).1≤x.length∧bL (fG x 128 0 [] S).2.1∧(fG x 128 0 [] S).2.2.1.plain=S.1.plain∧(fG x 128 0 [] S).2.2.1.made=S.1.made+(fG x 128 0 [] S).2.1.length∧((fG x 128 0 [] S).2.2.1.st=2→128≤(fG x 128 0 [] S).2.1.length):=by
 have hu:(0:Int)≤0∧(0:Int)≤x.length:=⟨by decide,by omega⟩;obtain⟨a1,a2,a3,a4,a5⟩:=aB3 (muS x 0 S+1) (m:=128) (out:= []) h1 h2 hu .nil;obtain⟨b1,b2,b3⟩:=aay (muS x 0 S+1) (m:=128) (out:= []) h1 h2 hu .nil (Nat.lt_succ_self _);refine⟨a1,a2,a3,a4,a5,?_,fun h=>?_⟩
 ·have:(kV (muS x 0 S+1) x 128 0 [] S).2.2.1.made+(([]:ab).length:Int)=S.1.made+(kV (muS x 0 S+1) x 128 0 [] S).2.1.length:=b1;show(kV (muS x 0 S+1) x 128 0 [] S).2.2.1.made=_;rw[List.length_nil]at this;show _=S.1.made+((kV (muS x 0 S+1) x 128 0 [] S).2.1.length:Int);omega
 ·have:=b3 h;show 128≤(kV (muS x 0 S+1) x 128 0 [] S).2.1.length;omega
def Fc:Nat→ab→ZS→List ab×Int
 |0,_,_=>([],11)
 |n+1,x,S=>if(fG x 128 0 [] S).2.2.1.st=3∧(fG x 128 0 [] S).1=x.length then([(fG x 128 0 [] S).2.1],0)else if(fG x 128 0 [] S).2.2.1.st≠2 then([(fG x 128 0 [] S).2.1],11)
  else((fG x 128 0 [] S).2.1::(Fc n (x.drop (fG x 128 0 [] S).1.toNat) (fG x 128 0 [] S).2.2).1,(Fc n (x.drop (fG x 128 0 [] S).1.toNat) (fG x 128 0 [] S).2.2).2)
abbrev aZT:cl bE Lz:=fe 302 (cLz 8 9 16)
abbrev aZU:cl bE RH:=fe 318 (cRH 10 12 14)
abbrev aZV:=jT 11
abbrev aZW:=jT 13
abbrev aZX:=jT 15
abbrev aZY:cl (List LV) (ab×Unit):=bR (bO (cr 0 0)) (bD (bO (gx false false u8)) (bR (bO (sFn 153)) bG))
abbrev HI:Type:=ab×Int×Ss×PP×Fl×ab×ab×HH×Cu×Lz×(Int×Int×Int)×RH×ab×ab×ab×(ab×Int)
abbrev aCd:cl St HI:=(dy (jk 1 (bD (bO (gx false false ae)) (bR (bO (sFn (153))) (jk 4 (bR (bO (cr (7) (0))) (bD (bO (bX i64)) (jk 40 bG))))))) (bD (cb Mh) (bD (cb kY) (bD (cb qI) (bD (dd (0) ae) (bD (dd (0) ag) (bD (cb oY) (bD (cb E7) (bD (cb aZT) (bD (cb Oe) (bD (cb aZU) (bR (cb aZV) (bD (dd (0) (Ty.int u16)) (bR (cb aZW) (bD (dd (0) (Ty.int u16)) (bR (cb aZX) (bD (dd (0) (Ty.int u16)) (bD (cb jWn) bG)))))))))))))))))).jr (fun y=>(y.1.1,y.1.2.1,y.2.1,y.2.2.1,y.2.2.2.1,y.2.2.2.2.1,y.2.2.2.2.2.1,y.2.2.2.2.2.2.1,y.2.2.2.2.2.2.2.1,y.2.2.2.2.2.2.2.2.1,y.2.2.2.2.2.2.2.2.2.1,y.2.2.2.2.2.2.2.2.2.2.1,y.2.2.2.2.2.2.2.2.2.2.2.1,y.2.2.2.2.2.2.2.2.2.2.2.2.1,y.2.2.2.2.2.2.2.2.2.2.2.2.2.1,y.2.2.2.2.2.2.2.2.2.2.2.2.2.2.1)) (fun x=>((x.1,(x.2.1,())),(x.2.2.1,(x.2.2.2.1,(x.2.2.2.2.1,(x.2.2.2.2.2.1,(x.2.2.2.2.2.2.1,(x.2.2.2.2.2.2.2.1,(x.2.2.2.2.2.2.2.2.1,(x.2.2.2.2.2.2.2.2.2.1,(x.2.2.2.2.2.2.2.2.2.2.1,(x.2.2.2.2.2.2.2.2.2.2.2.1,(x.2.2.2.2.2.2.2.2.2.2.2.2.1,(x.2.2.2.2.2.2.2.2.2.2.2.2.2.1,(x.2.2.2.2.2.2.2.2.2.2.2.2.2.2.1,(x.2.2.2.2.2.2.2.2.2.2.2.2.2.2.2,())))))))))))))))) (fun _=>rfl)
abbrev aCe:List Wk:= [.fr (eH 49 [(1,.bV),(2,.bV),(7,.bV),(8,.bV)]),.cu,.bS,.ck]
abbrev aTJ:Exit→List Wk:=ua aCe 0 [.fr (eH 49 [(8,.bV)]),.cu,.bS,.ck] [.fr (eH 49 [(6,.bV)]),.cu,.bS,.ck]
def fJ(x:ab)(z:Lz)(d:Int×Int×Int)(r:RH)(p1 p2 p3:ab)(w:ab×Int):Int×ab×Lz×(Int×Int×Int)×RH×ab×ab×ab×ab×Int:=fG x 128 0 [] (z,d,r,p1,p2,p3,w)
def Ff(x:ab)(z:Lz)(d:Int×Int×Int)(r:RH)(p1 p2 p3:ab)(w:ab×Int):ab:=List.take ((↑x.length:Int)-(fJ x z d r p1 p2 p3 w).1).toNat (List.drop (fJ x z d r p1 p2 p3 w).1.toNat x)
abbrev VE:Type:=Int×Ss×PP×Fl×ab×ab×HH×Cu
abbrev aI3(x:VE):Exit×St:=(Exit.exit 0,⟨(gE 8 (LV.one (VV.sc (SV.int i64 (SI.sym x.1)))::(gE 40 []))),[some (Mh.wr x.2.1),some (kY.wr x.2.2.1),some (qI.wr x.2.2.2.1),some (bE.own 0 ae x.2.2.2.2.1),some (bE.own 0 ag x.2.2.2.2.2.1),some (oY.wr x.2.2.2.2.2.2.1),some (E7.wr x.2.2.2.2.2.2.2)]⟩)
abbrev aI4(x:VE):Exit×St:=(Exit.ret,⟨(gE 6 (LV.one (VV.sc (SV.int i64 (SI.sym x.1)))::(gE 42 []))),[some (Mh.wr x.2.1),some (kY.wr x.2.2.1),some (qI.wr x.2.2.2.1),some (bE.own 0 ae x.2.2.2.2.1),some (bE.own 0 ag x.2.2.2.2.2.1),some (oY.wr x.2.2.2.2.2.2.1),some (E7.wr x.2.2.2.2.2.2.2)]⟩)
abbrev VG:Type:=VE⊕VE
abbrev aI5:VG→Exit×St:=Sum.elim aI3 aI4
def Rt(x:ab)(e:Int)(s:Ss)(p:PP)(f:Fl)(b er:ab)(h:HH)(u:Cu)(z:Lz)(d:Int×Int×Int) (r:RH) (p1:ab) (p2:ab) (p3:ab) (w:ab×Int):Tr (HI⊕(VE⊕VE)):=.ite (e==0) (.need (tU x 128 z d r p1 p2 p3 w) (.need (0≤(fJ x z d r p1 p2 p3 w).1∧(fJ x z d r p1 p2 p3 w).1≤(↑x.length:Int)∧(↑x.length:Int)≤ (↑x.length:Int)) (.need (Mi (fJ x z d r p1 p2 p3 w).2.1) (.ite ((0:Int)!=0) (.ret (.inr (.inl (0,s,p,f,b,er,h,u)))) (.ite (((fJ x z d r p1 p2 p3 w).2.2.1.st==3)==true) (.ite ((↑(Ff x z d r p1 p2 p3 w).length:Int)==0) (.ret (.inr (.inr (0,s,p,f,b,er,h,u)))) (.ite ((fJ x z d r p1 p2 p3 w).2.2.1.st !=2) (.ret (.inr (.inr (11,s,p,f,b,er,h,u)))) (.ret (.inl (Ff x z d r p1 p2 p3 w,0,s,p,f,b,er,h,u,(fJ x z d r p1 p2 p3 w).2.2.1,(fJ x z d r p1 p2 p3 w).2.2.2.1,(fJ x z d r p1 p2 p3 w).2.2.2.2.1,(fJ x z d r p1 p2 p3 w).2.2.2.2.2.1,(fJ x z d r p1 p2 p3 w).2.2.2.2.2.2.1,(fJ x z d r p1 p2 p3 w).2.2.2.2.2.2.2.1,(fJ x z d r p1 p2 p3 w).2.2.2.2.2.2.2.2))))) (.ite ((fJ x z d r p1 p2 p3 w).2.2.1.st !=2) (.ret (.inr (.inr (11,s,p,f,b,er,h,u)))) (.ret (.inl (Ff x z d r p1 p2 p3 w,0,s,p,f,b,er,h,u,(fJ x z d r p1 p2 p3 w).2.2.1,(fJ x z d r p1 p2 p3 w).2.2.2.1,(fJ x z d r p1 p2 p3 w).2.2.2.2.1,(fJ x z d r p1 p2 p3 w).2.2.2.2.2.1,(fJ x z d r p1 p2 p3 w).2.2.2.2.2.2.1,(fJ x z d r p1 p2 p3 w).2.2.2.2.2.2.2.1,(fJ x z d r p1 p2 p3 w).2.2.2.2.2.2.2.2))))))))) (.ret (.inr (.inl (e,s,p,f,b,er,h,u))))
def nZ(S:ZS):Nat:=(S.1.plain-S.1.made).toNat+1
abbrev Mk(x:ab)(e:Int)(s:Ss)(p:PP)(f:ai)(b er:ab)(h:HH)(u:Cu)(z:Lz)(d:Int×Int×Int)(r:RH)(p1 p2 p3:ab)(w:ab×Int):Prop:=e=0∧Rj (z,d,r,p1,p2,p3,w)∧bL x∧x.length<1099511627776
abbrev anp(x:ab)(e:Int)(s:Ss)(p:PP)(f:ai)(b er:ab)(h:HH)(u:Cu)(z:Lz)(d:Int×Int×Int)(r:RH)(p1 p2 p3:ab)(w:ab×Int):Tr VG:=.ret (.inr ((Fc (nZ (z,d,r,p1,p2,p3,w)) x (z,d,r,p1,p2,p3,w)).2,s,p,f,b,er,h,u))
abbrev aCf:HI→cT:=KN (aP Mk) (aP anp) aI5
theorem axo(x:ab)(e:Int)(s:Ss)(p:PP)(f:ai)(b er:ab)(h:HH)(u:Cu)(z:Lz)(d:Int×Int×Int)(r:RH)(p1 p2 p3:ab)(w:ab×Int)(h_:Mk x e s p f b er h u z d r p1 p2 p3 w)(z_:VG)(fS:(anp x e s p f b er h u z d r p1 p2 p3 w).Is z_):eG (fun x_:HI=>Rt x_.1 x_.2.1 x_.2.2.1 x_.2.2.2.1 x_.2.2.2.2.1 x_.2.2.2.2.2.1 x_.2.2.2.2.2.2.1 x_.2.2.2.2.2.2.2.1 x_.2.2.2.2.2.2.2.2.1 x_.2.2.2.2.2.2.2.2.2.1 x_.2.2.2.2.2.2.2.2.2.2.1 x_.2.2.2.2.2.2.2.2.2.2.2.1 x_.2.2.2.2.2.2.2.2.2.2.2.2.1 x_.2.2.2.2.2.2.2.2.2.2.2.2.2.1 x_.2.2.2.2.2.2.2.2.2.2.2.2.2.2.1 x_.2.2.2.2.2.2.2.2.2.2.2.2.2.2.2) (x,e,s,p,f,b,er,h,u,z,d,r,p1,p2,p3,w) z_:=by
 delta anp at fS;have fS:=bH.1 fS;subst fS;obtain⟨rfl,h1_,h2_,h3_⟩:=h_
 have key:∀ (n:Nat) (x:ab) (z:Lz) (d:Dc) (r:RH) (p1 p2 p3:ab) (w:Wn),(z.plain-z.made).toNat<n→Rj (z,d,r,p1,p2,p3,w)→bL x→x.length<1099511627776→
   eG (fun x_:HI=>Rt x_.1 x_.2.1 x_.2.2.1 x_.2.2.2.1 x_.2.2.2.2.1 x_.2.2.2.2.2.1 x_.2.2.2.2.2.2.1 x_.2.2.2.2.2.2.2.1 x_.2.2.2.2.2.2.2.2.1 x_.2.2.2.2.2.2.2.2.2.1 x_.2.2.2.2.2.2.2.2.2.2.1 x_.2.2.2.2.2.2.2.2.2.2.2.1 x_.2.2.2.2.2.2.2.2.2.2.2.2.1 x_.2.2.2.2.2.2.2.2.2.2.2.2.2.1 x_.2.2.2.2.2.2.2.2.2.2.2.2.2.2.1 x_.2.2.2.2.2.2.2.2.2.2.2.2.2.2.2) (x,0,s,p,f,b,er,h,u,z,d,r,p1,p2,p3,w) (.inr ((Fc n x (z,d,r,p1,p2,p3,w)).2,s,p,f,b,er,h,u)):=by
  intro n;induction n with
  |zero=>intro x z d r p1 p2 p3 w h;exact absurd h (Nat.not_lt_zero _)
  |succ n ih=>
   intro x z d r p1 p2 p3 w hn h1 h2 h3;obtain⟨a1,a2,a3,a4,a5,a6,a7⟩:=Mj h1 h2;rw[Fc];have hp:tU x 128 z d r p1 p2 p3 w:=⟨h1,h2,h3,by decide,by decide⟩
   have e1:∀y,Ff x z d r p1 p2 p3 w=y→y=x.drop (fG x 128 0 [] (z,d,r,p1,p2,p3,w)).1.toNat:=fun y hy=>by
    rw[← hy];unfold Ff fJ;exact List.take_of_length_le (by rw[List.length_drop];omega)
   have e2:=e1 _ rfl;have hl:((x.drop (fG x 128 0 [] (z,d,r,p1,p2,p3,w)).1.toNat).length:Int)=0↔(fG x 128 0 [] (z,d,r,p1,p2,p3,w)).1=x.length:=(by rw[List.length_drop];omega);by_cases c1:(fG x 128 0 [] (z,d,r,p1,p2,p3,w)).2.2.1.st=3∧(fG x 128 0 [] (z,d,r,p1,p2,p3,w)).1=x.length
   ·rw[if_pos c1];refine .stop ?_;simp only[Rt,fJ,e2,bF,cd,b9,cQ,bH,bY,beq_iff_eq,bne_iff_ne,ne_eq,hl,c1.1,c1.2];grind
   ·rw[if_neg c1];by_cases c2:(fG x 128 0 [] (z,d,r,p1,p2,p3,w)).2.2.1.st=2
    ·rw[if_neg (fun h=>h c2)];refine .go ?_ (ih _ _ _ _ _ _ _ _ ?_ a1 ?_ ?_)
     ·simp only[Rt,fJ,e2,bF,cd,b9,cQ,bH,bY,beq_iff_eq,bne_iff_ne,ne_eq,hl,c2];grind
     ·have q1:=a1.made;have q2:=a7 c2;have a5:(fG x 128 0 [] (z,d,r,p1,p2,p3,w)).2.2.1.plain=z.plain:=a5;have a6:(fG x 128 0 [] (z,d,r,p1,p2,p3,w)).2.2.1.made=z.made+(fG x 128 0 [] (z,d,r,p1,p2,p3,w)).2.1.length:=a6;have q1:(fG x 128 0 [] (z,d,r,p1,p2,p3,w)).2.2.1.made≤(fG x 128 0 [] (z,d,r,p1,p2,p3,w)).2.2.1.plain:=q1.2.1;show((fG x 128 0 [] (z,d,r,p1,p2,p3,w)).2.2.1.plain-(fG x 128 0 [] (z,d,r,p1,p2,p3,w)).2.2.1.made).toNat<n;clear fS ih;omega
     ·exact fun y hy=>h2 y (List.mem_of_mem_drop hy)
     ·rw[List.length_drop];omega
    ·rw[if_pos c2];refine .stop ?_;simp only[Rt,fJ,e2,bF,cd,b9,cQ,bH,bY,beq_iff_eq,bne_iff_ne,ne_eq,hl];grind
 exact key _ x z d r p1 p2 p3 w (Nat.lt_succ_self _) h1_ h2_ h3_
theorem anq(y_):∀x:HI,Ex aA (anl.wr y_) (.loop (cG f152 0)) (aCd.wr x) (aCf x):=Eu bJ ((bI yj (bI BY (bI aav bU)))) (ws:=aTJ) (cn.nil _) (fun _=>by kernel_rfl) (fun z=>by rcases z with _|_<;>(intro e;cases e)) (fun x_ h=>axo x_.1 x_.2.1 x_.2.2.1 x_.2.2.2.1 x_.2.2.2.2.1 x_.2.2.2.2.2.1 x_.2.2.2.2.2.2.1 x_.2.2.2.2.2.2.2.1 x_.2.2.2.2.2.2.2.2.1 x_.2.2.2.2.2.2.2.2.2.1 x_.2.2.2.2.2.2.2.2.2.2.1 x_.2.2.2.2.2.2.2.2.2.2.2.1 x_.2.2.2.2.2.2.2.2.2.2.2.2.1 x_.2.2.2.2.2.2.2.2.2.2.2.2.2.1 x_.2.2.2.2.2.2.2.2.2.2.2.2.2.2.1 x_.2.2.2.2.2.2.2.2.2.2.2.2.2.2.2 h)
theorem Fg{n:Int}(h:0≤n∧n≤8192):Rj (oM n):=by
 have b0:By 0:=⟨by decide,by decide⟩;have d:Hw ((0,4294967295,4):Dc):=⟨by decide,by decide,by decide,.inr (.inr (.inr (.inr ⟨rfl,rfl⟩)))⟩;have w:amA (List.replicate 4096 0,0):=⟨List.length_replicate ..,by decide,by decide⟩;exact⟨d,aZF,E0 8 (by decide),E0 8 (by decide),E0 6 (by decide),w,rfl,bL.rep _ b0,⟨Int.le_refl _,h⟩,.inr ⟨Int.le_refl _,by show(0:Int)≤n-0;omega⟩,b0⟩
def aCg:ab×Int:=(List.replicate 4096 (0:Int),0)
def aCh:Int×Int×Int:=(0,4294967295,4)
def aCi:Int×Int×Int:=(0,0,0)
def aCj(s:Ss):Lz:= {plain:=(oM s.plain).1.plain,made:=0,t:=aCi,left:=0,st:=1}
def aCk(s:Ss):RH:= {cs:=(oM s.plain).2.2.1.cs,bh:=0,part:=0,node:=1,t:=aCi}
def aCl(s:Ss):Lz×(Int×Int×Int)×RH×ab×ab×ab×ab×Int:=(aCj s,aCh,aCk s,ia 8,ia 8,ia 6,aCg)
def aTK(x:ab)(s:Ss)(p:PP)(f:Fl)(b er:ab)(h:HH)(u:Cu):Tr sk:=.need (Fb s.plain) (.need (Mk x 0 s p f b er h u (aCj s) aCh (aCk s) (ia 8) (ia 8) (ia 6) aCg) (.ret ((Fc (nZ (aCl s)) x (aCl s)).2)))
abbrev Ml(x:ab)(s:Ss)(p:PP)(f:Fl)(b er:ab)(h:HH)(u:Cu):Prop:=(0≤s.plain∧s.plain≤8192)∧bL x∧x.length<1099511627776
abbrev aI6(x:ab)(s:Ss)(p:PP)(f:Fl)(b er:ab)(h:HH)(u:Cu):sk:=(Fc (nZ (oM s.plain)) x (oM s.plain)).2
def aTL:bT:=cj [none,some u8,none] aZY anl (q7∘q1 Ml) (q7∘q1 aI6) aED aEE
theorem aI7:aeo Ml aTK aI6:=by
 intro x s p f b er h u h_;delta aI6;obtain⟨h1,h2,h3⟩:=h_;simp only[aTK,bF,bH];exact⟨h1,⟨rfl,Fg h1,h2,h3⟩,rfl⟩
theorem aI8:aTL.Ok aA 152:=az (bI yj (bI BY (bI aav bU))) func152 call152 (ks:=eU) aCd aCe aCf anq (fun x_=>bB (@aI7 x_.1))
theorem axq{y:Int}{c:Cu}{f:Fl}{b er:ab}(h:dE b er)(hc:rJ c er)(h1:c.n<8)(h2:c.pos+1≤1024*c.r.2)(hx:By y)(he:(gT y c f b er).1≠0):(gT y c f b er).2.1.err≠0:=by
 obtain⟨k1,k2,k3,k4,k5,k6⟩:=BC (f:=f) h (UU hc h1 h2 hx);unfold gT at he ⊢;split
 ·rename_i c1;rw[if_pos c1]at he;exact absurd rfl he
 ·rename_i c1;split
  ·rename_i c2;rw[k6];exact c2
  ·rename_i c2;rw[if_neg c1,if_neg c2]at he;exact absurd rfl he
theorem aaz:∀ (x:ab) {c:Cu} {f:Fl} {b er:ab},dE b er→rJ c er→c.n<8→c.pos+x.length≤1024*c.r.2→bL x→
  Kp b er (o8 x c f b er).2.2.2.1 (o8 x c f b er).2.2.2.2∧rJ (o8 x c f b er).2.1 (o8 x c f b er).2.2.2.2∧(o8 x c f b er).2.1.r=c.r∧
  ((o8 x c f b er).1=0→(o8 x c f b er).2.1.n<8∧(o8 x c f b er).2.1.pos=c.pos+x.length)∧((o8 x c f b er).1≠0→(o8 x c f b er).2.1.err≠0)
 | [],c,f,b,er,h,hc,h1,_,_=>⟨.rfl,hc,rfl,fun _=>⟨h1,by show c.pos=c.pos+0;omega⟩,fun h=>absurd rfl h⟩
 |y::l,c,f,b,er,h,hc,h1,h2,hx=>by
  have hl:((y::l).length:Int)=l.length+1:=by rw[List.length_cons];rfl
  have hy:=hx y (List.mem_cons_self ..);obtain⟨k1,k2,k3,k4,k5⟩:=Q3 (x:=y) (f:=f) h hc h1 (by omega) hy;have ke:=axq (f:=f) h hc h1 (by omega) hy;rw[o8];split
  ·rename_i c1;exact⟨k1,k2,k4,fun h=>absurd h c1,fun _=>ke c1⟩
  ·rename_i c1;have c1:=Decidable.not_not.1 c1;obtain⟨i1,i2,i3,i4,i5⟩:=aaz l (f:=(gT y c f b er).2.2.1) (k1.fl h) k2 (k5 c1).1 (by rw[k3,k4];omega) (fun z hz=>hx z (List.mem_cons_of_mem _ hz));exact⟨k1.trans i1,i2,i3.trans k4,fun e=>⟨(i4 e).1,by rw[(i4 e).2,k3];omega⟩,i5⟩
theorem aaA{x:ab}{c:Cu}{f:Fl}{b er:ab}(h:dE b er)(hc:AK c er)(hx:bL x):Kp b er (k8 x c f b er).2.2.2.1 (k8 x c f b er).2.2.2.2∧AK (k8 x c f b er).2.1 (k8 x c f b er).2.2.2.2∧(k8 x c f b er).2.1.r=c.r∧((k8 x c f b er).1=0→(k8 x c f b er).2.1.pos=c.pos+x.length):=by
 unfold k8;split
 ·rename_i c1;exact⟨.rfl,hc,rfl,fun h=>absurd h c1⟩
 ·rename_i c1;have c1:=Decidable.not_not.1 c1;split
  ·exact⟨.rfl,hc,rfl,fun h=>absurd (show(2:Int)=0 from h) (by decide)⟩
  ·rename_i c2;obtain⟨i1,i2,i3,i4,i5⟩:=aaz x (f:=f) h hc.torJ (hc.free c1) (by omega) hx
   exact⟨i1,⟨i2,fun e=>by
    by_cases c3:(o8 x c f b er).1=0
    ·exact(i4 c3).1
    ·exact absurd e (i5 c3)⟩,i3,fun e=>(i4 e).2⟩
abbrev Wv:=Fl×ab×ab×HH×Cu
def nW(o:ab)(V:Wv):Int×Wv:=((k8 o V.2.2.2.2 V.1 V.2.1 V.2.2.1).1,(k8 o V.2.2.2.2 V.1 V.2.1 V.2.2.1).2.2.1,(k8 o V.2.2.2.2 V.1 V.2.1 V.2.2.1).2.2.2.1,(k8 o V.2.2.2.2 V.1 V.2.1 V.2.2.1).2.2.2.2,dk V.2.2.2.1 o,(k8 o V.2.2.2.2 V.1 V.2.1 V.2.2.1).2.1)
def jJ:Nat→ab→ZS→Wv→Bool×Int×Wv
 |0,_,_,V=>(false,11,V)
 |n+1,x,S,V=>if(nW (fG x 128 0 [] S).2.1 V).1≠0 then(true,nW (fG x 128 0 [] S).2.1 V)
  else if(fG x 128 0 [] S).2.2.1.st=3∧(fG x 128 0 [] S).1=x.length then(false,0,(nW (fG x 128 0 [] S).2.1 V).2)
  else if(fG x 128 0 [] S).2.2.1.st≠2 then(false,11,(nW (fG x 128 0 [] S).2.1 V).2)
  else jJ n (x.drop (fG x 128 0 [] S).1.toNat) (fG x 128 0 [] S).2.2 (nW (fG x 128 0 [] S).2.1 V).2
structure VH (V:Wv) (k:Int):Prop where
 fl:dE V.2.1 V.2.2.1
 cw:AK V.2.2.2.2 V.2.2.1
 hs:oA V.2.2.2.1
 hn:V.2.2.2.1.n+k<2305843009213693952
theorem axr{o:ab}{V:Wv}{k:Int}(h:VH V k)(ho:bL o):VH (nW o V).2 (k-o.length):=by
 obtain⟨k1,k2,_⟩:=aaA (f:=V.1) h.fl h.cw ho;refine⟨k1.fl h.fl,k2,jO o h.hs,?_⟩;have e:(dk V.2.2.2.1 o).n=V.2.2.2.1.n+o.length:=js o V.2.2.2.1;show(dk V.2.2.2.1 o).n+(k-o.length)<_;have:=h.hn;omega
abbrev aaB:cl bE Unit:=fe 110 (bR (cr 0 0) bG)
abbrev aI9:cl Hp (Ss×PP×Fl×ab×ab×HH×Cu×Unit):=bD (cb Mh) (bD (cb kY) (bD (cb qI) (bD (dd 0 u8) (bD (dd 0 (.int .i64)) (bD (cb oY) (bD (cb E7) (bR (cb aaB) bG)))))))
abbrev aZ4:cl bE Lz:=fe 302 (cLz 9 10 17)
abbrev aZ5:cl bE RH:=fe 318 (cRH 11 13 15)
abbrev aZ6:=jT 12
abbrev aZ7:=jT 14
abbrev aZ8:=jT 16
abbrev aZ9:cl (List LV) (ab×Unit):=bR (bO (cr 0 0)) (bD (bO (gx false false u8)) (bR (bO (aTx 154 7 0)) bG))
abbrev HJ:Type:=ab×Int×Ss×PP×Fl×ab×ab×HH×Cu×Lz×(Int×Int×Int)×RH×ab×ab×ab×(ab×Int)
abbrev aCm:cl St HJ:=(dy (jk 1 (bD (bO (gx false false ae)) (bR (bO (aTx (154) (7) (0))) (jk 4 (bR (bO (cr (8) (0))) (bD (bO (bX i64)) (jk 40 bG))))))) (bD (cb Mh) (bD (cb kY) (bD (cb qI) (bD (dd (0) ae) (bD (dd (0) ag) (bD (cb oY) (bD (cb E7) (bR (cb aaB) (bD (cb aZ4) (bD (cb Oe) (bD (cb aZ5) (bR (cb aZ6) (bD (dd (0) (Ty.int u16)) (bR (cb aZ7) (bD (dd (0) (Ty.int u16)) (bR (cb aZ8) (bD (dd (0) (Ty.int u16)) (bD (cb jWn) bG))))))))))))))))))).jr (fun y=>(y.1.1,y.1.2.1,y.2.1,y.2.2.1,y.2.2.2.1,y.2.2.2.2.1,y.2.2.2.2.2.1,y.2.2.2.2.2.2.1,y.2.2.2.2.2.2.2.1,y.2.2.2.2.2.2.2.2.1,y.2.2.2.2.2.2.2.2.2.1,y.2.2.2.2.2.2.2.2.2.2.1,y.2.2.2.2.2.2.2.2.2.2.2.1,y.2.2.2.2.2.2.2.2.2.2.2.2.1,y.2.2.2.2.2.2.2.2.2.2.2.2.2.1,y.2.2.2.2.2.2.2.2.2.2.2.2.2.2.1)) (fun x=>((x.1,(x.2.1,())),(x.2.2.1,(x.2.2.2.1,(x.2.2.2.2.1,(x.2.2.2.2.2.1,(x.2.2.2.2.2.2.1,(x.2.2.2.2.2.2.2.1,(x.2.2.2.2.2.2.2.2.1,(x.2.2.2.2.2.2.2.2.2.1,(x.2.2.2.2.2.2.2.2.2.2.1,(x.2.2.2.2.2.2.2.2.2.2.2.1,(x.2.2.2.2.2.2.2.2.2.2.2.2.1,(x.2.2.2.2.2.2.2.2.2.2.2.2.2.1,(x.2.2.2.2.2.2.2.2.2.2.2.2.2.2.1,(x.2.2.2.2.2.2.2.2.2.2.2.2.2.2.2,())))))))))))))))) (fun _=>rfl)
abbrev aTM:Exit→List Wk:=ua aCe 0 [.fr (eH 49 [(8,.bV)]),.cu,.bS,.ck] [.fr (eH 49 [(6,.bV)]),.cu,.bS,.ck]
def fh(x:ab)(z:Lz)(d:Int×Int×Int)(r:RH)(p1 p2 p3:ab)(w:ab×Int):Int×ab×Lz×(Int×Int×Int)×RH×ab×ab×ab×ab×Int:=fG x 128 0 [] (z,d,r,p1,p2,p3,w)
def ph(x:ab)(h:HH)(z:Lz)(d:Int×Int×Int)(r:RH)(p1 p2 p3:ab)(w:ab×Int):HH:=dk h (fh x z d r p1 p2 p3 w).2.1
def eN(x:ab)(f:Fl)(b er:ab)(u:Cu)(z:Lz)(d:Int×Int×Int)(r:RH)(p1 p2:ab) (p3:ab) (w:ab×Int):Int×Cu×Fl×ab×ab:=k8 (fh x z d r p1 p2 p3 w).2.1 u f b er
def Fh(x:ab)(z:Lz)(d:Int×Int×Int)(r:RH)(p1 p2 p3:ab)(w:ab×Int):ab:=List.take ((↑x.length:Int)-(fh x z d r p1 p2 p3 w).1).toNat (List.drop (fh x z d r p1 p2 p3 w).1.toNat x)
abbrev aJa(x:VE):Exit×St:=(Exit.exit 0,⟨(gE 8 (LV.one (VV.sc (SV.int i64 (SI.sym x.1)))::(gE 40 []))),[some (Mh.wr x.2.1),some (kY.wr x.2.2.1),some (qI.wr x.2.2.2.1),some (bE.own 0 ae x.2.2.2.2.1),some (bE.own 0 ag x.2.2.2.2.2.1),some (oY.wr x.2.2.2.2.2.2.1),some (E7.wr x.2.2.2.2.2.2.2),some (aaB.wr ())]⟩)
abbrev aJb(x:VE):Exit×St:=(Exit.ret,⟨(gE 6 (LV.one (VV.sc (SV.int i64 (SI.sym x.1)))::(gE 42 []))),[some (Mh.wr x.2.1),some (kY.wr x.2.2.1),some (qI.wr x.2.2.2.1),some (bE.own 0 ae x.2.2.2.2.1),some (bE.own 0 ag x.2.2.2.2.2.1),some (oY.wr x.2.2.2.2.2.2.1),some (E7.wr x.2.2.2.2.2.2.2),some (aaB.wr ())]⟩)
abbrev aJc:VG→Exit×St:=Sum.elim aJa aJb
def HK(x:ab)(e:Int)(s:Ss)(p:PP)(f:Fl)(b er:ab)(h:HH)(u:Cu)(z:Lz)(d:Int×Int×Int) (r:RH) (p1:ab) (p2:ab) (p3:ab) (w:ab×Int):Tr (HJ⊕(VE⊕VE)):=.ite (e==0) (.need (tU x 128 z d r p1 p2 p3 w) (.need (0≤(fh x z d r p1 p2 p3 w).1∧(fh x z d r p1 p2 p3 w).1≤(↑x.length:Int)∧(↑x.length:Int)≤ (↑x.length:Int)) (.need (B9 (fh x z d r p1 p2 p3 w).2.1 s p f b er h u) (.ite ((eN x f b er u z d r p1 p2 p3 w).1 !=0) (.ret (.inr (.inl ((eN x f b er u z d r p1 p2 p3 w).1,s,p,(eN x f b er u z d r p1 p2 p3 w).2.2.1,(eN x f b er u z d r p1 p2 p3 w).2.2.2.1,(eN x f b er u z d r p1 p2 p3 w).2.2.2.2,ph x h z d r p1 p2 p3 w,(eN x f b er u z d r p1 p2 p3 w).2.1)))) (.ite (((fh x z d r p1 p2 p3 w).2.2.1.st==3)==true) (.ite ((↑(Fh x z d r p1 p2 p3 w).length:Int)==0) (.ret (.inr (.inr (0,s,p,(eN x f b er u z d r p1 p2 p3 w).2.2.1,(eN x f b er u z d r p1 p2 p3 w).2.2.2.1,(eN x f b er u z d r p1 p2 p3 w).2.2.2.2,ph x h z d r p1 p2 p3 w,(eN x f b er u z d r p1 p2 p3 w).2.1)))) (.ite ((fh x z d r p1 p2 p3 w).2.2.1.st !=2) (.ret (.inr (.inr (11,s,p,(eN x f b er u z d r p1 p2 p3 w).2.2.1,(eN x f b er u z d r p1 p2 p3 w).2.2.2.1,(eN x f b er u z d r p1 p2 p3 w).2.2.2.2,ph x h z d r p1 p2 p3 w,(eN x f b er u z d r p1 p2 p3 w).2.1)))) (.ret (.inl (Fh x z d r p1 p2 p3 w,(eN x f b er u z d r p1 p2 p3 w).1,s,p,(eN x f b er u z d r p1 p2 p3 w).2.2.1,(eN x f b er u z d r p1 p2 p3 w).2.2.2.1,(eN x f b er u z d r p1 p2 p3 w).2.2.2.2,ph x h z d r p1 p2 p3 w,(eN x f b er u z d r p1 p2 p3 w).2.1,(fh x z d r p1 p2 p3 w).2.2.1,(fh x z d r p1 p2 p3 w).2.2.2.1,(fh x z d r p1 p2 p3 w).2.2.2.2.1,(fh x z d r p1 p2 p3 w).2.2.2.2.2.1,(fh x z d r p1 p2 p3 w).2.2.2.2.2.2.1,(fh x z d r p1 p2 p3 w).2.2.2.2.2.2.2.1,(fh x z d r p1 p2 p3 w).2.2.2.2.2.2.2.2))))) (.ite ((fh x z d r p1 p2 p3 w).2.2.1.st !=2) (.ret (.inr (.inr (11,s,p,(eN x f b er u z d r p1 p2 p3 w).2.2.1,(eN x f b er u z d r p1 p2 p3 w).2.2.2.1,(eN x f b er u z d r p1 p2 p3 w).2.2.2.2,ph x h z d r p1 p2 p3 w,(eN x f b er u z d r p1 p2 p3 w).2.1)))) (.ret (.inl (Fh x z d r p1 p2 p3 w,(eN x f b er u z d r p1 p2 p3 w).1,s,p,(eN x f b er u z d r p1 p2 p3 w).2.2.1,(eN x f b er u z d r p1 p2 p3 w).2.2.2.1,(eN x f b er u z d r p1 p2 p3 w).2.2.2.2,ph x h z d r p1 p2 p3 w,(eN x f b er u z d r p1 p2 p3 w).2.1,(fh x z d r p1 p2 p3 w).2.2.1,(fh x z d r p1 p2 p3 w).2.2.2.1,(fh x z d r p1 p2 p3 w).2.2.2.2.1,(fh x z d r p1 p2 p3 w).2.2.2.2.2.1,(fh x z d r p1 p2 p3 w).2.2.2.2.2.2.1,(fh x z d r p1 p2 p3 w).2.2.2.2.2.2.2.1,(fh x z d r p1 p2 p3 w).2.2.2.2.2.2.2.2))))))))) (.ret (.inr (.inl (e,s,p,f,b,er,h,u))))
abbrev Mm(x:ab)(e:Int)(s:Ss)(p:PP)(f:ai)(b er:ab)(h:HH)(u:Cu)(z:Lz)(d:Int×Int×Int)(r:RH)(p1 p2 p3:ab)(w:ab×Int):Prop:=e=0∧Rj (z,d,r,p1,p2,p3,w)∧bL x∧x.length<1099511627776∧VH (f,b,er,h,u) (z.plain-z.made)
abbrev anr(x:ab)(e:Int)(s:Ss)(p:PP)(f:ai)(b er:ab)(h:HH)(u:Cu)(z:Lz)(d:Int×Int×Int)(r:RH)(p1 p2 p3:ab)(w:ab×Int):Tr VG:=.ite (jJ (nZ (z,d,r,p1,p2,p3,w)) x (z,d,r,p1,p2,p3,w) (f,b,er,h,u)).1 (.ret (.inl ((jJ (nZ (z,d,r,p1,p2,p3,w)) x (z,d,r,p1,p2,p3,w) (f,b,er,h,u)).2.1,s,p,(jJ (nZ (z,d,r,p1,p2,p3,w)) x (z,d,r,p1,p2,p3,w) (f,b,er,h,u)).2.2.1,(jJ (nZ (z,d,r,p1,p2,p3,w)) x (z,d,r,p1,p2,p3,w) (f,b,er,h,u)).2.2.2.1,(jJ (nZ (z,d,r,p1,p2,p3,w)) x (z,d,r,p1,p2,p3,w) (f,b,er,h,u)).2.2.2.2.1,(jJ (nZ (z,d,r,p1,p2,p3,w)) x (z,d,r,p1,p2,p3,w) (f,b,er,h,u)).2.2.2.2.2.1,(jJ (nZ (z,d,r,p1,p2,p3,w)) x (z,d,r,p1,p2,p3,w) (f,b,er,h,u)).2.2.2.2.2.2))) (.ret (.inr ((jJ (nZ (z,d,r,p1,p2,p3,w)) x (z,d,r,p1,p2,p3,w) (f,b,er,h,u)).2.1,s,p,(jJ (nZ (z,d,r,p1,p2,p3,w)) x (z,d,r,p1,p2,p3,w) (f,b,er,h,u)).2.2.1,(jJ (nZ (z,d,r,p1,p2,p3,w)) x (z,d,r,p1,p2,p3,w) (f,b,er,h,u)).2.2.2.1,(jJ (nZ (z,d,r,p1,p2,p3,w)) x (z,d,r,p1,p2,p3,w) (f,b,er,h,u)).2.2.2.2.1,(jJ (nZ (z,d,r,p1,p2,p3,w)) x (z,d,r,p1,p2,p3,w) (f,b,er,h,u)).2.2.2.2.2.1,(jJ (nZ (z,d,r,p1,p2,p3,w)) x (z,d,r,p1,p2,p3,w) (f,b,er,h,u)).2.2.2.2.2.2)))
abbrev aCo:HJ→cT:=KN (aP Mm) (aP anr) aJc
theorem axs(x:ab)(e:Int)(s:Ss)(p:PP)(f:ai)(b er:ab)(h:HH)(u:Cu)(z:Lz)(d:Int×Int×Int)(r:RH)(p1 p2 p3:ab)(w:ab×Int)(h_:Mm x e s p f b er h u z d r p1 p2 p3 w)(z_:VG)(fS:(anr x e s p f b er h u z d r p1 p2 p3 w).Is z_):eG (fun x_:HJ=>HK x_.1 x_.2.1 x_.2.2.1 x_.2.2.2.1 x_.2.2.2.2.1 x_.2.2.2.2.2.1 x_.2.2.2.2.2.2.1 x_.2.2.2.2.2.2.2.1 x_.2.2.2.2.2.2.2.2.1 x_.2.2.2.2.2.2.2.2.2.1 x_.2.2.2.2.2.2.2.2.2.2.1 x_.2.2.2.2.2.2.2.2.2.2.2.1 x_.2.2.2.2.2.2.2.2.2.2.2.2.1 x_.2.2.2.2.2.2.2.2.2.2.2.2.2.1 x_.2.2.2.2.2.2.2.2.2.2.2.2.2.2.1 x_.2.2.2.2.2.2.2.2.2.2.2.2.2.2.2) (x,e,s,p,f,b,er,h,u,z,d,r,p1,p2,p3,w) z_:=by
 delta anr at fS;obtain⟨rfl,h1_,h2_,h3_,h4_⟩:=h_
 have key:∀ (n:Nat) (x:ab) (f:Fl) (b er:ab) (h:HH) (u:Cu) (z:Lz) (d:Dc) (r:RH) (p1 p2 p3:ab) (w:Wn),(z.plain-z.made).toNat<n→Rj (z,d,r,p1,p2,p3,w)→bL x→x.length<1099511627776→VH (f,b,er,h,u) (z.plain-z.made)→∀Z,Z=jJ n x (z,d,r,p1,p2,p3,w) (f,b,er,h,u)→
   eG (fun x_:HJ=>HK x_.1 x_.2.1 x_.2.2.1 x_.2.2.2.1 x_.2.2.2.2.1 x_.2.2.2.2.2.1 x_.2.2.2.2.2.2.1 x_.2.2.2.2.2.2.2.1 x_.2.2.2.2.2.2.2.2.1 x_.2.2.2.2.2.2.2.2.2.1 x_.2.2.2.2.2.2.2.2.2.2.1 x_.2.2.2.2.2.2.2.2.2.2.2.1 x_.2.2.2.2.2.2.2.2.2.2.2.2.1 x_.2.2.2.2.2.2.2.2.2.2.2.2.2.1 x_.2.2.2.2.2.2.2.2.2.2.2.2.2.2.1 x_.2.2.2.2.2.2.2.2.2.2.2.2.2.2.2) (x,0,s,p,f,b,er,h,u,z,d,r,p1,p2,p3,w) (if Z.1=true then .inl (Z.2.1,s,p,Z.2.2.1,Z.2.2.2.1,Z.2.2.2.2.1,Z.2.2.2.2.2.1,Z.2.2.2.2.2.2)else .inr (Z.2.1,s,p,Z.2.2.1,Z.2.2.2.1,Z.2.2.2.2.1,Z.2.2.2.2.2.1,Z.2.2.2.2.2.2)):=by
  intro n;induction n with
  |zero=>intro x f b er h u z d r p1 p2 p3 w h;exact absurd h (Nat.not_lt_zero _)
  |succ n ih=>
   intro x f b er h u z d r p1 p2 p3 w hn h1 h2 h3 h4 Z hZ;obtain⟨a1,a2,a3,a4,a5,a6,a7⟩:=Mj h1 h2;rw[jJ]at hZ;have hp:tU x 128 z d r p1 p2 p3 w:=⟨h1,h2,h3,by decide,by decide⟩
   have e1:∀y,Fh x z d r p1 p2 p3 w=y→y=x.drop (fG x 128 0 [] (z,d,r,p1,p2,p3,w)).1.toNat:=fun y hy=>by
    rw[← hy];unfold Fh fh;exact List.take_of_length_le (by rw[List.length_drop];omega)
   have e2:=e1 _ rfl;have hl:((x.drop (fG x 128 0 [] (z,d,r,p1,p2,p3,w)).1.toNat).length:Int)=0↔(fG x 128 0 [] (z,d,r,p1,p2,p3,w)).1=x.length:=(by rw[List.length_drop];omega);have a6:(fG x 128 0 [] (z,d,r,p1,p2,p3,w)).2.2.1.made=z.made+(fG x 128 0 [] (z,d,r,p1,p2,p3,w)).2.1.length:=a6;have a5:(fG x 128 0 [] (z,d,r,p1,p2,p3,w)).2.2.1.plain=z.plain:=a5;have q1:(fG x 128 0 [] (z,d,r,p1,p2,p3,w)).2.2.1.made≤(fG x 128 0 [] (z,d,r,p1,p2,p3,w)).2.2.1.plain:=a1.made.2.1;have q2:(fG x 128 0 [] (z,d,r,p1,p2,p3,w)).2.2.1.plain≤8192:=a1.made.2.2;have q3:0≤z.made:=h1.made.1;have hk:B9 (fG x 128 0 [] (z,d,r,p1,p2,p3,w)).2.1 s p f b er h u:=⟨h4.hs,by have:h.n+(z.plain-z.made)<2305843009213693952:=h4.hn;omega,h4.fl,h4.cw,a4,by omega⟩;have hw:=axr h4 a4;have ha:0≤(fG x 128 0 [] (z,d,r,p1,p2,p3,w)).1∧(fG x 128 0 [] (z,d,r,p1,p2,p3,w)).1≤(x.length:Int)∧(x.length:Int)≤x.length:=⟨a2,a3,Int.le_refl _⟩;by_cases c0:(nW (fG x 128 0 [] (z,d,r,p1,p2,p3,w)).2.1 (f,b,er,h,u)).1=0
   ·rw[if_neg (fun h=>h c0)]at hZ;have c0':(k8 (fG x 128 0 [] (z,d,r,p1,p2,p3,w)).2.1 u f b er).1=0:=c0;by_cases c1:(fG x 128 0 [] (z,d,r,p1,p2,p3,w)).2.2.1.st=3∧(fG x 128 0 [] (z,d,r,p1,p2,p3,w)).1=x.length
    ·rw[if_pos c1]at hZ;subst hZ;refine .stop ?_;rw[if_neg Bool.false_ne_true];simp only[HK,fh,ph,eN,e2,bF,cd,b9,cQ,bH,bY,beq_iff_eq,bne_iff_ne,ne_eq,hl,c1.1,c1.2,c0',nW]
     (clear ih;grind)
    ·rw[if_neg c1]at hZ;by_cases c2:(fG x 128 0 [] (z,d,r,p1,p2,p3,w)).2.2.1.st=2
     ·rw[if_neg (fun h=>h c2)]at hZ;refine .go ?_ (ih (x.drop (fG x 128 0 [] (z,d,r,p1,p2,p3,w)).1.toNat) (nW (fG x 128 0 [] (z,d,r,p1,p2,p3,w)).2.1 (f,b,er,h,u)).2.1 (nW (fG x 128 0 [] (z,d,r,p1,p2,p3,w)).2.1 (f,b,er,h,u)).2.2.1 (nW (fG x 128 0 [] (z,d,r,p1,p2,p3,w)).2.1 (f,b,er,h,u)).2.2.2.1 (nW (fG x 128 0 [] (z,d,r,p1,p2,p3,w)).2.1 (f,b,er,h,u)).2.2.2.2.1 (nW (fG x 128 0 [] (z,d,r,p1,p2,p3,w)).2.1 (f,b,er,h,u)).2.2.2.2.2 (fG x 128 0 [] (z,d,r,p1,p2,p3,w)).2.2.1 (fG x 128 0 [] (z,d,r,p1,p2,p3,w)).2.2.2.1 (fG x 128 0 [] (z,d,r,p1,p2,p3,w)).2.2.2.2.1 (fG x 128 0 [] (z,d,r,p1,p2,p3,w)).2.2.2.2.2.1 (fG x 128 0 [] (z,d,r,p1,p2,p3,w)).2.2.2.2.2.2.1 (fG x 128 0 [] (z,d,r,p1,p2,p3,w)).2.2.2.2.2.2.2.1 (fG x 128 0 [] (z,d,r,p1,p2,p3,w)).2.2.2.2.2.2.2.2 ?_ a1 ?_ ?_ ?_ Z hZ)
      ·simp only[HK,fh,ph,eN,e2,bF,cd,b9,cQ,bH,bY,beq_iff_eq,bne_iff_ne,ne_eq,hl,c2,c0',nW]
       (clear ih;grind)
      ·have q4:=a7 c2;clear ih hZ;omega
      ·exact fun y hy=>h2 y (List.mem_of_mem_drop hy)
      ·rw[List.length_drop];omega
      ·have e3:(fG x 128 0 [] (z,d,r,p1,p2,p3,w)).2.2.1.plain-(fG x 128 0 [] (z,d,r,p1,p2,p3,w)).2.2.1.made=z.plain-z.made-(fG x 128 0 [] (z,d,r,p1,p2,p3,w)).2.1.length:=(by omega);rw[e3];exact hw
     ·rw[if_pos c2]at hZ;subst hZ;refine .stop ?_;rw[if_neg Bool.false_ne_true];simp only[HK,fh,ph,eN,e2,bF,cd,b9,cQ,bH,bY,beq_iff_eq,bne_iff_ne,ne_eq,hl,c0',nW]
      (clear ih;grind)
   ·rw[if_pos c0]at hZ;subst hZ;have c0':¬ (k8 (fG x 128 0 [] (z,d,r,p1,p2,p3,w)).2.1 u f b er).1=0:=c0;refine .stop ?_;rw[if_pos rfl];simp only[HK,fh,ph,eN,e2,bF,cd,b9,cQ,bH,bY,beq_iff_eq,bne_iff_ne,ne_eq,hl,nW]
    (clear ih;grind)
 have hk:=key (nZ (z,d,r,p1,p2,p3,w)) x f b er h u z d r p1 p2 p3 w (Nat.lt_succ_self _) h1_ h2_ h3_ h4_ _ rfl;have hz:=bY.1 fS;by_cases c:(jJ (nZ (z,d,r,p1,p2,p3,w)) x (z,d,r,p1,p2,p3,w) (f,b,er,h,u)).1=true
 ·have:=bH.1 (hz.1 c);subst this;rw[if_pos c]at hk;exact hk
 ·have:=bH.1 (hz.2 (by simpa using c));subst this;rw[if_neg c]at hk;exact hk
theorem ans(y_):∀x:HJ,Ex aA (aI9.wr y_) (.loop (cG f152 0)) (aCm.wr x) (aCo x):=Eu bJ ((bI yj (bI BY (bI aax bU)))) (ws:=aTM) (cn.nil _) (fun _=>by kernel_rfl) (fun z=>by rcases z with _|_<;>(intro e;cases e)) (fun x_ h=>axs x_.1 x_.2.1 x_.2.2.1 x_.2.2.2.1 x_.2.2.2.2.1 x_.2.2.2.2.2.1 x_.2.2.2.2.2.2.1 x_.2.2.2.2.2.2.2.1 x_.2.2.2.2.2.2.2.2.1 x_.2.2.2.2.2.2.2.2.2.1 x_.2.2.2.2.2.2.2.2.2.2.1 x_.2.2.2.2.2.2.2.2.2.2.2.1 x_.2.2.2.2.2.2.2.2.2.2.2.2.1 x_.2.2.2.2.2.2.2.2.2.2.2.2.2.1 x_.2.2.2.2.2.2.2.2.2.2.2.2.2.2.1 x_.2.2.2.2.2.2.2.2.2.2.2.2.2.2.2 h)
def aCp:ab×Int:=(List.replicate 4096 (0:Int),0)
def aCq:Int×Int×Int:=(0,4294967295,4)
def aCr:Int×Int×Int:=(0,0,0)
def aCs(s:Ss):Lz:= {plain:=(oM s.plain).1.plain,made:=0,t:=aCr,left:=0,st:=1}
def aCt(s:Ss):RH:= {cs:=(oM s.plain).2.2.1.cs,bh:=0,part:=0,node:=1,t:=aCr}
def aCu(s:Ss):Lz×(Int×Int×Int)×RH×ab×ab×ab×ab×Int:=(aCs s,aCq,aCt s,ia 8,ia 8,ia 6,aCp)
def qa(x:ab)(s:Ss)(f:Fl)(b er:ab)(h:HH)(u:Cu):Bool×Int×Fl×ab×ab×HH×Cu:=jJ (nZ (aCu s)) x (aCu s) (f,b,er,h,u)
abbrev a0b(x:aaw):List ao:= [(2,qI.wr x.2.1),(3,bE.own 0 ae x.2.2.1),(4,bE.own 0 ag x.2.2.2.1),(5,oY.wr x.2.2.2.2.1),(6,E7.wr x.2.2.2.2.2)]
def aTN(x:ab)(s:Ss)(p:PP)(f:Fl)(b er:ab)(h:HH)(u:Cu):Tr aaw:=.need (Fb s.plain) (.need (Mm x 0 s p f b er h u (aCs s) aCq (aCt s) (ia 8) (ia 8) (ia 6) aCp) (.ite ((qa x s f b er h u).1) (.ret ((qa x s f b er h u).2.1,(qa x s f b er h u).2.2.1,(qa x s f b er h u).2.2.2.1,(qa x s f b er h u).2.2.2.2.1,(qa x s f b er h u).2.2.2.2.2.1,(qa x s f b er h u).2.2.2.2.2.2)) (.ret ((qa x s f b er h u).2.1,(qa x s f b er h u).2.2.1,(qa x s f b er h u).2.2.2.1,(qa x s f b er h u).2.2.2.2.1,(qa x s f b er h u).2.2.2.2.2.1,(qa x s f b er h u).2.2.2.2.2.2))))
abbrev Mn(x:ab)(s:Ss)(p:PP)(f:Fl)(b er:ab)(h:HH)(u:Cu):Prop:=(0≤s.plain∧s.plain≤8192)∧bL x∧x.length<1099511627776∧VH (f,b,er,h,u) s.plain
abbrev aJd(x:ab)(s:Ss)(p:PP)(f:Fl)(b er:ab)(h:HH)(u:Cu):aaw:=(jJ (nZ (oM s.plain)) x (oM s.plain) (f,b,er,h,u)).2
def aTO:bT:=cj [none,some u8,none] aZ9 aI9 (q7∘q1 Mn) (q7∘q1 aJd) aTF a0b
theorem aJe:aeo Mn aTN aJd:=by
 intro x s p f b er h u h_;delta aJd;obtain⟨h1,h2,h3,h4⟩:=h_;have h5:VH (f,b,er,h,u) (s.plain-0):=by rw[Int.sub_zero];exact h4
 simp only[aTN,bF,bH,bY];exact⟨h1,⟨rfl,Fg h1,h2,h3,h5⟩,fun _=>rfl,fun _=>rfl⟩
theorem aJf:aTO.Ok aA 152:=az (bI yj (bI BY (bI aax bU))) func152 call152 (ks:=eU) aCm aCe aCo ans (fun x_=>bB (@aJe x_.1))
end Go.Proofs.YtliehnnljilacaaGreat
