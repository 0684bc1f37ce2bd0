/- What the laws lean on, part 19: a reader of code, plain facts, and what each function gives; no conditions. -/
import Derived.Test.YtliehnnljilacaaGreatA18
noncomputable section
open Go.IntKind (i64 signed u16 u32 u64 wrap wrap_u32)
set_option linter.unusedVariables false
set_option linter.unusedSimpArgs false
namespace Go.Proofs.YtliehnnljilacaaGreat
open Go Go.Ev Go.Proofs.Tryz
set_option maxHeartbeats 0
set_option maxRecDepth 1000000
abbrev qg:Type:=ab×Int×Int×Cf×Fl×ab×ab×Sg×Jn×(List ah)×Ss×PP×HH×Cu
abbrev mq:cl St qg:=(dy (bR (bO (cr (0) (0))) (jk 16 (bD (bO (gx false false ae)) (bD (bO (bX i64)) (bD (bO (bX i64)) (jk 44 bG)))))) (bD (cb zN) (bD (cb dA) (bD (dd (0) ae) (bD (dd (0) ag) (bD (cb jc) (bD (cb fX) (bD (dd (1) (ag.pair (ag.pair ae.sl))) (bD (cb ui) (bD (cb kY) (bD (cb oY) (bD (cb p6) bG)))))))))))).jr (fun y=>(y.1.1,y.1.2.1,y.1.2.2.1,y.2.1,y.2.2.1,y.2.2.2.1,y.2.2.2.2.1,y.2.2.2.2.2.1,y.2.2.2.2.2.2.1,y.2.2.2.2.2.2.2.1,y.2.2.2.2.2.2.2.2.1,y.2.2.2.2.2.2.2.2.2.1,y.2.2.2.2.2.2.2.2.2.2.1,y.2.2.2.2.2.2.2.2.2.2.2.1)) (fun x=>((x.1,(x.2.1,(x.2.2.1,()))),(x.2.2.2.1,(x.2.2.2.2.1,(x.2.2.2.2.2.1,(x.2.2.2.2.2.2.1,(x.2.2.2.2.2.2.2.1,(x.2.2.2.2.2.2.2.2.1,(x.2.2.2.2.2.2.2.2.2.1,(x.2.2.2.2.2.2.2.2.2.2.1,(x.2.2.2.2.2.2.2.2.2.2.2.1,(x.2.2.2.2.2.2.2.2.2.2.2.2.1,(x.2.2.2.2.2.2.2.2.2.2.2.2.2,()))))))))))))) (fun _=>rfl)
abbrev aCI:List Wk:= [.one 6,.fr (eH 64 [(0,.bV),(17,.bV),(18,.bV),(19,.bV)]),.cu,.bS,.ck]
abbrev aaQ:Exit→List Wk:=ua aCI 1 [.one 6,.fr (eH 64 []),.cu,.bS,.ck] [.one 6,.fr (eH 64 [(4,.bV)]),.cu,.bS,.ck]
def fK(x:ab)(i:Int)(p:PP):PP×Int×ab×Bool×Int:=du p (x.getD i.toNat 0)
def vA(s:Ss):Int:=i64.wrap (s.off+1)
def MK(s:Ss):Ss:= {target:=s.target,bK:=s.bK,bytes:=s.bytes,cM:=s.cM,list:=s.list,ct:=s.ct,plain:=s.plain,block:=s.block,off:=vA s,done:=s.done}
def dJ(x:ab)(i:Int)(f:Fl)(b er:ab)(g:Sg)(j:Jn)(l:List ah)(s:Ss) (p:PP) (h:HH) (u:Cu):Int×Fl×ab×ab×Sg×Jn×List ah×Ss×HH×Cu:=aen (fK x i p).2.1 (fK x i p).2.2.1 f b er g j l (MK s) h u
abbrev anZ:Type:=Int×Cf×Fl×ab×ab×Sg×Jn×(List ah)×Ss×PP×HH×Cu
abbrev ML(x:anZ):Exit×St:=(Exit.ret,⟨(gE 4 (LV.one (VV.sc (SV.int i64 (SI.sym x.1)))::(gE 59 []))),[some (ug.wr x.2.1),some (dA.wr x.2.2.1),some (bE.own 0 ae x.2.2.2.1),some (bE.own 0 ag x.2.2.2.2.1),some (jc.wr x.2.2.2.2.2.1),some (fX.wr x.2.2.2.2.2.2.1),some (bE.own 1 (ag.pair (ag.pair ae.sl)) x.2.2.2.2.2.2.2.1),some (ui.wr x.2.2.2.2.2.2.2.2.1),some (kY.wr x.2.2.2.2.2.2.2.2.2.1),some (oY.wr x.2.2.2.2.2.2.2.2.2.2.1),some (p6.wr x.2.2.2.2.2.2.2.2.2.2.2)]⟩)
abbrev an0:Type:=Cf×Fl×ab×ab×Sg×Jn×(List ah)×Ss×PP×HH×Cu
abbrev Fu(x:an0):Exit×St:=(Exit.exit 1,⟨(gE 64 []),[some (zN.wr x.1),some (dA.wr x.2.1),some (bE.own 0 ae x.2.2.1),some (bE.own 0 ag x.2.2.2.1),some (jc.wr x.2.2.2.2.1),some (fX.wr x.2.2.2.2.2.1),some (bE.own 1 (ag.pair (ag.pair ae.sl)) x.2.2.2.2.2.2.1),some (ui.wr x.2.2.2.2.2.2.2.1),some (kY.wr x.2.2.2.2.2.2.2.2.1),some (oY.wr x.2.2.2.2.2.2.2.2.2.1),some (p6.wr x.2.2.2.2.2.2.2.2.2.2)]⟩)
def Fv(x:ab)(n i:Int)(c:Cf)(f:Fl)(b er:ab)(g:Sg)(j:Jn)(l:List ah) (s:Ss) (p:PP) (h:HH) (u:Cu):Tr (qg⊕(anZ⊕an0)):=.ite (decide (i<n)) (.need (0≤i∧i<(↑x.length:Int)) (.need (p.bad=false→¬p.part=0→0≤p.len∧p.len<4096∧p.buf.length=4096∧(p.part=4→p.cS=4)) (.ite (((fK x i p).2.2.2.2==0)==true) (.ite (!(fK x i p).2.2.2.1) (.ret (.inl (x,n,i64.wrap (i+1),c,f,b,er,g,j,l,{target:=s.target,bK:=s.bK,bytes:=s.bytes,cM:=s.cM,list:=s.list,ct:=s.ct,plain:=s.plain,block:=s.block,off:=vA s,done:=s.done},(fK x i p).1,h,u))) (.ite ((fK x i p).2.2.2.2==0) (.need (Ca ((fK x i p).2.1,(fK x i p).2.2.1,PUnit.unit) c f b er g j l (MK s) (fK x i p).1 h u) (.ite ((dJ x i f b er g j l s p h u).1 !=0) (.ret (.inr (.inl ((dJ x i f b er g j l s p h u).1,c,(dJ x i f b er g j l s p h u).2.1,(dJ x i f b er g j l s p h u).2.2.1,(dJ x i f b er g j l s p h u).2.2.2.1,(dJ x i f b er g j l s p h u).2.2.2.2.1,(dJ x i f b er g j l s p h u).2.2.2.2.2.1,(dJ x i f b er g j l s p h u).2.2.2.2.2.2.1,(dJ x i f b er g j l s p h u).2.2.2.2.2.2.2.1,(fK x i p).1,(dJ x i f b er g j l s p h u).2.2.2.2.2.2.2.2.1,(dJ x i f b er g j l s p h u).2.2.2.2.2.2.2.2.2)))) (.ret (.inl (x,n,i64.wrap (i+1),c,(dJ x i f b er g j l s p h u).2.1,(dJ x i f b er g j l s p h u).2.2.1,(dJ x i f b er g j l s p h u).2.2.2.1,(dJ x i f b er g j l s p h u).2.2.2.2.1,(dJ x i f b er g j l s p h u).2.2.2.2.2.1,(dJ x i f b er g j l s p h u).2.2.2.2.2.2.1,(dJ x i f b er g j l s p h u).2.2.2.2.2.2.2.1,(fK x i p).1,(dJ x i f b er g j l s p h u).2.2.2.2.2.2.2.2.1,(dJ x i f b er g j l s p h u).2.2.2.2.2.2.2.2.2))))) (.ite ((fK x i p).2.2.2.2 !=0) (.ret (.inr (.inl ((fK x i p).2.2.2.2,c,f,b,er,g,j,l,{target:=s.target,bK:=s.bK,bytes:=s.bytes,cM:=s.cM,list:=s.list,ct:=s.ct,plain:=s.plain,block:=s.block,off:=vA s,done:=s.done},(fK x i p).1,h,u)))) (.ret (.inl (x,n,i64.wrap (i+1),c,f,b,er,g,j,l,{target:=s.target,bK:=s.bK,bytes:=s.bytes,cM:=s.cM,list:=s.list,ct:=s.ct,plain:=s.plain,block:=s.block,off:=vA s,done:=s.done},(fK x i p).1,h,u)))))) (.ite ((fK x i p).2.2.2.2==0) (.need (Ca ((fK x i p).2.1,(fK x i p).2.2.1,PUnit.unit) c f b er g j l (MK s) (fK x i p).1 h u) (.ite ((dJ x i f b er g j l s p h u).1 !=0) (.ret (.inr (.inl ((dJ x i f b er g j l s p h u).1,c,(dJ x i f b er g j l s p h u).2.1,(dJ x i f b er g j l s p h u).2.2.1,(dJ x i f b er g j l s p h u).2.2.2.1,(dJ x i f b er g j l s p h u).2.2.2.2.1,(dJ x i f b er g j l s p h u).2.2.2.2.2.1,(dJ x i f b er g j l s p h u).2.2.2.2.2.2.1,(dJ x i f b er g j l s p h u).2.2.2.2.2.2.2.1,(fK x i p).1,(dJ x i f b er g j l s p h u).2.2.2.2.2.2.2.2.1,(dJ x i f b er g j l s p h u).2.2.2.2.2.2.2.2.2)))) (.ret (.inl (x,n,i64.wrap (i+1),c,(dJ x i f b er g j l s p h u).2.1,(dJ x i f b er g j l s p h u).2.2.1,(dJ x i f b er g j l s p h u).2.2.2.1,(dJ x i f b er g j l s p h u).2.2.2.2.1,(dJ x i f b er g j l s p h u).2.2.2.2.2.1,(dJ x i f b er g j l s p h u).2.2.2.2.2.2.1,(dJ x i f b er g j l s p h u).2.2.2.2.2.2.2.1,(fK x i p).1,(dJ x i f b er g j l s p h u).2.2.2.2.2.2.2.2.1,(dJ x i f b er g j l s p h u).2.2.2.2.2.2.2.2.2))))) (.ite ((fK x i p).2.2.2.2 !=0) (.ret (.inr (.inl ((fK x i p).2.2.2.2,c,f,b,er,g,j,l,{target:=s.target,bK:=s.bK,bytes:=s.bytes,cM:=s.cM,list:=s.list,ct:=s.ct,plain:=s.plain,block:=s.block,off:=vA s,done:=s.done},(fK x i p).1,h,u)))) (.ret (.inl (x,n,i64.wrap (i+1),c,f,b,er,g,j,l,{target:=s.target,bK:=s.bK,bytes:=s.bytes,cM:=s.cM,list:=s.list,ct:=s.ct,plain:=s.plain,block:=s.block,off:=vA s,done:=s.done},(fK x i p).1,h,u)))))))) (.ret (.inr (.inr (c,f,b,er,g,j,l,s,p,h,u))))
theorem aep(x':ab)(c':Cf)(f':Fl)(b' Bl:ab)(g':Sg)(j':Jn)(l':List Rc)(s':Ss)(p':PP)(h':HH)(u':Cu)(x:ab)(n i:Int)(c:aj)(f:ai)(b er:ab)(g:ak)(j:an)(l:List ah)(s:Ss)(p:PP)(h:HH)(u:Cu):ma aA [(68,VU),(71,aaa),(72,anw)] [] f45 1 (s5.wr (c',f',b',Bl,g',j',l',s',p',h',u',())) aaQ (mq.wr (x,n,i,c,f,b,er,g,j,l,s,p,h,u))=(Fv x n i c f b er g j l s p h u).res mq.wr (Sum.elim ML Fu):=by kernel_rfl
abbrev qh:Type:=ab×Int×Int×Cf×Fl×ab×ab×Sg×Jn×(List ah)×Ss×PP
abbrev uF:cl St qh:=(dy (bR (bO (cr (0) (0))) (jk 16 (bD (bO (gx false false ae)) (bD (bO (bX i64)) (bD (bO (bX i64)) (jk 44 bG)))))) (bD (cb zN) (bD (cb dA) (bD (dd (0) ae) (bD (dd (0) ag) (bD (cb jc) (bD (cb fX) (bD (dd (1) (ag.pair (ag.pair ae.sl))) (bD (cb vt) (bD (cb kY) bG)))))))))).jr (fun y=>(y.1.1,y.1.2.1,y.1.2.2.1,y.2.1,y.2.2.1,y.2.2.2.1,y.2.2.2.2.1,y.2.2.2.2.2.1,y.2.2.2.2.2.2.1,y.2.2.2.2.2.2.2.1,y.2.2.2.2.2.2.2.2.1,y.2.2.2.2.2.2.2.2.2.1)) (fun x=>((x.1,(x.2.1,(x.2.2.1,()))),(x.2.2.2.1,(x.2.2.2.2.1,(x.2.2.2.2.2.1,(x.2.2.2.2.2.2.1,(x.2.2.2.2.2.2.2.1,(x.2.2.2.2.2.2.2.2.1,(x.2.2.2.2.2.2.2.2.2.1,(x.2.2.2.2.2.2.2.2.2.2.1,(x.2.2.2.2.2.2.2.2.2.2.2,()))))))))))) (fun _=>rfl)
abbrev aCK:Exit→List Wk:=ua aCI 1 [.one 6,.fr (eH 64 []),.cu,.bS,.ck] [.one 6,.fr (eH 64 [(4,.bV)]),.cu,.bS,.ck]
def dK(x:ab)(i:Int)(p:PP):PP×Int×ab×Bool×Int:=du p (x.getD i.toNat 0)
def vB(s:Ss):Int:=i64.wrap (s.off+1)
def rb(s:Ss):Ss:= {target:=s.target,bK:=s.bK,bytes:=s.bytes,cM:=s.cM,list:=s.list,ct:=s.ct,plain:=s.plain,block:=s.block,off:=vB s,done:=s.done}
def db(x:ab)(i:Int)(f:Fl)(b er:ab)(g:Sg)(j:Jn)(l:List ah)(s:Ss) (p:PP):Int×Fl×ab×ab×Sg×Jn×List ah×Ss×HH×Cu:=anx (dK x i p).2.2.1 f b er g j l (rb s)
def eJ(x:ab)(i:Int)(c:Cf)(f:Fl)(b er:ab)(g:Sg)(j:Jn)(l:List ah) (s:Ss) (p:PP):Int×Fl×ab×ab×Sg×Jn×List ah×Ss:=Gt (dK x i p).2.1 (dK x i p).2.2.1 c f b er g j l (rb s)
abbrev an2:Type:=ab×Int×Int×Cf×Fl×ab×ab×Sg×Jn×(List ah)×Ss×PP×HH×Cu
abbrev an3(x:an2):Exit×St:=(Exit.normal,⟨(LV.one (VV.sc (SV.ptr 0 0))::(gE 16 (LV.one (VV.sc (SV.rd false false ae x.1))::(LV.one (VV.sc (SV.int i64 (SI.sym x.2.1)))::(LV.one (VV.sc (SV.int i64 (SI.sym x.2.2.1)))::(gE 44 [])))))),[some (zN.wr x.2.2.2.1),some (dA.wr x.2.2.2.2.1),some (bE.own 0 ae x.2.2.2.2.2.1),some (bE.own 0 ag x.2.2.2.2.2.2.1),some (jc.wr x.2.2.2.2.2.2.2.1),some (fX.wr x.2.2.2.2.2.2.2.2.1),some (bE.own 1 (ag.pair (ag.pair ae.sl)) x.2.2.2.2.2.2.2.2.2.1),some (ui.wr x.2.2.2.2.2.2.2.2.2.2.1),some (kY.wr x.2.2.2.2.2.2.2.2.2.2.2.1),some (oY.wr x.2.2.2.2.2.2.2.2.2.2.2.2.1),some (p6.wr x.2.2.2.2.2.2.2.2.2.2.2.2.2)]⟩)
abbrev V0(x:B3):Exit×St:=(Exit.ret,⟨(gE 4 (LV.one (VV.sc (SV.int i64 (SI.sym x.1)))::(gE 59 []))),[some (ug.wr x.2.1),some (dA.wr x.2.2.1),some (bE.own 0 ae x.2.2.2.1),some (bE.own 0 ag x.2.2.2.2.1),some (jc.wr x.2.2.2.2.2.1),some (fX.wr x.2.2.2.2.2.2.1),some (bE.own 1 (ag.pair (ag.pair ae.sl)) x.2.2.2.2.2.2.2.1),some (vt.wr x.2.2.2.2.2.2.2.2.1),some (kY.wr x.2.2.2.2.2.2.2.2.2)]⟩)
abbrev an5:Type:=Cf×Fl×ab×ab×Sg×Jn×(List ah)×Ss×PP
abbrev V1(x:an5):Exit×St:=(Exit.exit 1,⟨(gE 64 []),[some (zN.wr x.1),some (dA.wr x.2.1),some (bE.own 0 ae x.2.2.1),some (bE.own 0 ag x.2.2.2.1),some (jc.wr x.2.2.2.2.1),some (fX.wr x.2.2.2.2.2.1),some (bE.own 1 (ag.pair (ag.pair ae.sl)) x.2.2.2.2.2.2.1),some (vt.wr x.2.2.2.2.2.2.2.1),some (kY.wr x.2.2.2.2.2.2.2.2)]⟩)
def HL(x:ab)(n i:Int)(c:Cf)(f:Fl)(b er:ab)(g:Sg)(j:Jn)(l:List ah) (s:Ss) (p:PP):Tr (qh⊕(anZ⊕an2⊕B3⊕an5)):=.ite (decide (i<n)) (.need (0≤i∧i<(↑x.length:Int)) (.need (p.bad=false→¬p.part=0→0≤p.len∧p.len<4096∧p.buf.length=4096∧(p.part=4→p.cS=4)) (.ite (((dK x i p).2.2.2.2==0)==true) (.ite (!(dK x i p).2.2.2.1) (.ret (.inl (x,n,i64.wrap (i+1),c,f,b,er,g,j,l,{target:=s.target,bK:=s.bK,bytes:=s.bytes,cM:=s.cM,list:=s.list,ct:=s.ct,plain:=s.plain,block:=s.block,off:=vB s,done:=s.done},(dK x i p).1))) (.ite ((dK x i p).2.2.2.2==0) (.ite (Fp (dK x i p).2.1 (dK x i p).2.2.1 (rb s) f b er) (.need (qZ ((dK x i p).2.1,(dK x i p).2.2.1,PUnit.unit) c f b er g j l (rb s) (dK x i p).1) (.ite ((db x i f b er g j l s p).1 !=0) (.ret (.inr (.inl ((db x i f b er g j l s p).1,c,(db x i f b er g j l s p).2.1,(db x i f b er g j l s p).2.2.1,(db x i f b er g j l s p).2.2.2.1,(db x i f b er g j l s p).2.2.2.2.1,(db x i f b er g j l s p).2.2.2.2.2.1,(db x i f b er g j l s p).2.2.2.2.2.2.1,(db x i f b er g j l s p).2.2.2.2.2.2.2.1,(dK x i p).1,(db x i f b er g j l s p).2.2.2.2.2.2.2.2.1,{r:=(db x i f b er g j l s p).2.2.2.2.2.2.2.2.2.r,pos:=(db x i f b er g j l s p).2.2.2.2.2.2.2.2.2.pos,n:=(db x i f b er g j l s p).2.2.2.2.2.2.2.2.2.n,word:=(db x i f b er g j l s p).2.2.2.2.2.2.2.2.2.word,ready:=(db x i f b er g j l s p).2.2.2.2.2.2.2.2.2.ready,err:=0})))) (.ret (.inr (.inr (.inl (x,n,i64.wrap (i+1),c,(db x i f b er g j l s p).2.1,(db x i f b er g j l s p).2.2.1,(db x i f b er g j l s p).2.2.2.1,(db x i f b er g j l s p).2.2.2.2.1,(db x i f b er g j l s p).2.2.2.2.2.1,(db x i f b er g j l s p).2.2.2.2.2.2.1,(db x i f b er g j l s p).2.2.2.2.2.2.2.1,(dK x i p).1,(db x i f b er g j l s p).2.2.2.2.2.2.2.2.1,{r:=(db x i f b er g j l s p).2.2.2.2.2.2.2.2.2.r,pos:=(db x i f b er g j l s p).2.2.2.2.2.2.2.2.2.pos,n:=(db x i f b er g j l s p).2.2.2.2.2.2.2.2.2.n,word:=(db x i f b er g j l s p).2.2.2.2.2.2.2.2.2.word,ready:=(db x i f b er g j l s p).2.2.2.2.2.2.2.2.2.ready,err:=0}))))))) (.need (qZ ((dK x i p).2.1,(dK x i p).2.2.1,PUnit.unit) c f b er g j l (rb s) (dK x i p).1) (.ite ((eJ x i c f b er g j l s p).1 !=0) (.ret (.inr (.inr (.inr (.inl ((eJ x i c f b er g j l s p).1,c,(eJ x i c f b er g j l s p).2.1,(eJ x i c f b er g j l s p).2.2.1,(eJ x i c f b er g j l s p).2.2.2.1,(eJ x i c f b er g j l s p).2.2.2.2.1,(eJ x i c f b er g j l s p).2.2.2.2.2.1,(eJ x i c f b er g j l s p).2.2.2.2.2.2.1,(eJ x i c f b er g j l s p).2.2.2.2.2.2.2,(dK x i p).1)))))) (.ret (.inl (x,n,i64.wrap (i+1),c,(eJ x i c f b er g j l s p).2.1,(eJ x i c f b er g j l s p).2.2.1,(eJ x i c f b er g j l s p).2.2.2.1,(eJ x i c f b er g j l s p).2.2.2.2.1,(eJ x i c f b er g j l s p).2.2.2.2.2.1,(eJ x i c f b er g j l s p).2.2.2.2.2.2.1,(eJ x i c f b er g j l s p).2.2.2.2.2.2.2,(dK x i p).1)))))) (.ite ((dK x i p).2.2.2.2 !=0) (.ret (.inr (.inr (.inr (.inl ((dK x i p).2.2.2.2,c,f,b,er,g,j,l,{target:=s.target,bK:=s.bK,bytes:=s.bytes,cM:=s.cM,list:=s.list,ct:=s.ct,plain:=s.plain,block:=s.block,off:=vB s,done:=s.done},(dK x i p).1)))))) (.ret (.inl (x,n,i64.wrap (i+1),c,f,b,er,g,j,l,{target:=s.target,bK:=s.bK,bytes:=s.bytes,cM:=s.cM,list:=s.list,ct:=s.ct,plain:=s.plain,block:=s.block,off:=vB s,done:=s.done},(dK x i p).1)))))) (.ite ((dK x i p).2.2.2.2==0) (.ite (Fp (dK x i p).2.1 (dK x i p).2.2.1 (rb s) f b er) (.need (qZ ((dK x i p).2.1,(dK x i p).2.2.1,PUnit.unit) c f b er g j l (rb s) (dK x i p).1) (.ite ((db x i f b er g j l s p).1 !=0) (.ret (.inr (.inl ((db x i f b er g j l s p).1,c,(db x i f b er g j l s p).2.1,(db x i f b er g j l s p).2.2.1,(db x i f b er g j l s p).2.2.2.1,(db x i f b er g j l s p).2.2.2.2.1,(db x i f b er g j l s p).2.2.2.2.2.1,(db x i f b er g j l s p).2.2.2.2.2.2.1,(db x i f b er g j l s p).2.2.2.2.2.2.2.1,(dK x i p).1,(db x i f b er g j l s p).2.2.2.2.2.2.2.2.1,{r:=(db x i f b er g j l s p).2.2.2.2.2.2.2.2.2.r,pos:=(db x i f b er g j l s p).2.2.2.2.2.2.2.2.2.pos,n:=(db x i f b er g j l s p).2.2.2.2.2.2.2.2.2.n,word:=(db x i f b er g j l s p).2.2.2.2.2.2.2.2.2.word,ready:=(db x i f b er g j l s p).2.2.2.2.2.2.2.2.2.ready,err:=0})))) (.ret (.inr (.inr (.inl (x,n,i64.wrap (i+1),c,(db x i f b er g j l s p).2.1,(db x i f b er g j l s p).2.2.1,(db x i f b er g j l s p).2.2.2.1,(db x i f b er g j l s p).2.2.2.2.1,(db x i f b er g j l s p).2.2.2.2.2.1,(db x i f b er g j l s p).2.2.2.2.2.2.1,(db x i f b er g j l s p).2.2.2.2.2.2.2.1,(dK x i p).1,(db x i f b er g j l s p).2.2.2.2.2.2.2.2.1,{r:=(db x i f b er g j l s p).2.2.2.2.2.2.2.2.2.r,pos:=(db x i f b er g j l s p).2.2.2.2.2.2.2.2.2.pos,n:=(db x i f b er g j l s p).2.2.2.2.2.2.2.2.2.n,word:=(db x i f b er g j l s p).2.2.2.2.2.2.2.2.2.word,ready:=(db x i f b er g j l s p).2.2.2.2.2.2.2.2.2.ready,err:=0}))))))) (.need (qZ ((dK x i p).2.1,(dK x i p).2.2.1,PUnit.unit) c f b er g j l (rb s) (dK x i p).1) (.ite ((eJ x i c f b er g j l s p).1 !=0) (.ret (.inr (.inr (.inr (.inl ((eJ x i c f b er g j l s p).1,c,(eJ x i c f b er g j l s p).2.1,(eJ x i c f b er g j l s p).2.2.1,(eJ x i c f b er g j l s p).2.2.2.1,(eJ x i c f b er g j l s p).2.2.2.2.1,(eJ x i c f b er g j l s p).2.2.2.2.2.1,(eJ x i c f b er g j l s p).2.2.2.2.2.2.1,(eJ x i c f b er g j l s p).2.2.2.2.2.2.2,(dK x i p).1)))))) (.ret (.inl (x,n,i64.wrap (i+1),c,(eJ x i c f b er g j l s p).2.1,(eJ x i c f b er g j l s p).2.2.1,(eJ x i c f b er g j l s p).2.2.2.1,(eJ x i c f b er g j l s p).2.2.2.2.1,(eJ x i c f b er g j l s p).2.2.2.2.2.1,(eJ x i c f b er g j l s p).2.2.2.2.2.2.1,(eJ x i c f b er g j l s p).2.2.2.2.2.2.2,(dK x i p).1)))))) (.ite ((dK x i p).2.2.2.2 !=0) (.ret (.inr (.inr (.inr (.inl ((dK x i p).2.2.2.2,c,f,b,er,g,j,l,{target:=s.target,bK:=s.bK,bytes:=s.bytes,cM:=s.cM,list:=s.list,ct:=s.ct,plain:=s.plain,block:=s.block,off:=vB s,done:=s.done},(dK x i p).1)))))) (.ret (.inl (x,n,i64.wrap (i+1),c,f,b,er,g,j,l,{target:=s.target,bK:=s.bK,bytes:=s.bytes,cM:=s.cM,list:=s.list,ct:=s.ct,plain:=s.plain,block:=s.block,off:=vB s,done:=s.done},(dK x i p).1)))))))) (.ret (.inr (.inr (.inr (.inr (c,f,b,er,g,j,l,s,p))))))
theorem aeq(x':ab)(c':Cf)(f':Fl)(b' Bl:ab)(g':Sg)(j':Jn)(l':List Rc)(s':Ss)(p':PP)(x:ab)(n i:Int)(c:aj)(f:ai)(b er:ab)(g:ak)(j:an)(l:List ah)(s:Ss)(p:PP):ma aA [(68,anG),(71,aaa),(72,aCA)] [] f45 1 (nV.wr (c',f',b',Bl,g',j',l',s',p',())) aCK (uF.wr (x,n,i,c,f,b,er,g,j,l,s,p))=(HL x n i c f b er g j l s p).res uF.wr (Sum.elim ML (Sum.elim an3 (Sum.elim V0 V1))):=by kernel_rfl
noncomputable section
variable (c:Cf)
abbrev axU(y:Int)(V:VR):Bool:=rz y V.1 V.2.1 V.2.2.1 V.2.2.2.2.2.2.1 V.2.2.2.2.2.2.2
abbrev MN(y:Int)(V:VR):Int×VR:=VS y c V.1 V.2.1 V.2.2.1 V.2.2.2.1 V.2.2.2.2.1 V.2.2.2.2.2.1 V.2.2.2.2.2.2.1 V.2.2.2.2.2.2.2
abbrev aer(y:Int)(V:VR):Int×LtS:=Fq y V.1 V.2.1 V.2.2.1 V.2.2.2.1 V.2.2.2.2.1 V.2.2.2.2.2.1 V.2.2.2.2.2.2.1 V.2.2.2.2.2.2.2
def Gu:ab→VR→Bool
 | [],_=>false
 |y::ys,V=>if axU y V=true then true else if(MN c y V).1≠0 then false else Gu ys (MN c y V).2
def yr:ab→VR→Int×VR
 | [],V=>(0,V)
 |y::ys,V=>if(MN c y V).1≠0 then MN c y V else yr ys (MN c y V).2
def yT:ab→VR→Int×LtS
 | [],V=>(0,V.1,V.2.1,V.2.2.1,V.2.2.2.1,V.2.2.2.2.1,V.2.2.2.2.2.1,V.2.2.2.2.2.2.1,V.2.2.2.2.2.2.2,eX,⟨(0,0),0,0,[],0,0⟩)
 |y::ys,V=>if axU y V=true then(if(aer y V).1≠0 then aer y V else vE ys (aer y V).2)else yT ys (MN c y V).2
variable {c}
theorem aCL:∀ {x:ab} {V:VR},erV c V→bL x→(Gu c x V=true→ltD c (yT c x V).2∧((yT c x V).1=0→ltV c (yT c x V).2))∧(Gu c x V=false→erD c (yr c x V).2∧((yr c x V).1=0→erV c (yr c x V).2))
 | [],V,H,_=>⟨fun e=>(by cases e),fun _=>⟨H.ld,fun _=>H⟩⟩
 |y::ys,V,H,hx=>by
  obtain⟨k1,k2⟩:=anE H (hx y (by simp));have hs:bL ys:=fun z hz=>hx z (by simp[hz]);rw[Gu,yT,yr];by_cases d0:axU y V=true
  ·rw[if_pos d0,if_pos d0];obtain⟨m1,m2⟩:=k2 d0;refine⟨fun _=>?_,fun e=>by cases e⟩;by_cases d:(aer y V).1≠0
   ·rw[if_pos d];exact⟨m1,fun e=>absurd e d⟩
   ·rw[if_neg d];exact VQ (m2 (Decidable.not_not.1 d)) hs
  ·rw[if_neg d0,if_neg d0];obtain⟨m1,m2⟩:=k1 (by simpa using d0);by_cases d:(MN c y V).1≠0
   ·rw[if_pos d,if_pos d];exact⟨fun e=>(by cases e),fun _=>⟨m1,fun e=>absurd e d⟩⟩
   ·rw[if_neg d,if_neg d];exact aCL (m2 (Decidable.not_not.1 d)) hs
end
theorem an6{X:Type}{a b:Int}{t e:Tr X}{y:X}:(Tr.ite ((a==b)==true) t e).Is y↔(a=b→t.Is y)∧(a≠b→e.Is y):=by
 simp[bY]
theorem aJE{x:ab}{n i:Int}{c:Cf}{f:Fl}{b er:ab}{g:Sg}{j:Jn}{l:List Rc}{s:Ss}{p:PP}{h:HH}{u:Cu}(H:qc c f b er g j l s p h u)(hx:bL x)(hn:n=x.length)(hi:0≤i∧i<n)(hl:x.length<1099511627776):(Fv x n i c f b er g j l s p h u).Is (if(Of (x.getD i.toNat 0) f b er g j l s p h u).1≠0 then .inr (.inl ((Of (x.getD i.toNat 0) f b er g j l s p h u).1,c,(Of (x.getD i.toNat 0) f b er g j l s p h u).2))else .inl (x,n,i+1,c,(Of (x.getD i.toNat 0) f b er g j l s p h u).2)):=by
 have w:i64.wrap (i+1)=i+1:=bM (by omega) (by omega);have hw:=H.pr.cS;have hL:=H.pr.len;have h4:=H.pr.four;have hb:=yl H.pr (hx.getD i.toNat);have hpt:∀y:ab,bL y→(y.length:Int)=p.cS→p.part≠0→aJj p.part y (gk s) f b er h u:=fun y h1 h2 h3=>H.pt h1 h2 h3;have ea:MK s=gk s:=rfl;have eb:vA s=(gk s).off:=rfl;rcases hB:du p (x.getD i.toNat 0)with⟨P,k,y,wh,e⟩;have e1:e=0∧wh=true→Of (x.getD i.toNat 0) f b er g j l s p h u=ltP (aen k y f b er g j l (gk s) h u) P:=fun d=>by unfold Of;rw[hB];exact if_pos d
 have e2:¬ (e=0∧wh=true)→Of (x.getD i.toNat 0) f b er g j l s p h u=(e,f,b,er,g,j,l,gk s,P,h,u):=fun d=>by unfold Of;rw[hB];exact if_neg d
 have h0:fK x i p=(P,k,y,wh,e):=hB;rw[hB]at hb;simp only[Fv,dJ,h0,ea,w,bF,bW,an6,cm,cd,b9,bH];refine⟨fun _=>⟨⟨hi.1,by omega⟩,fun _ d=>⟨hL,by have:=hw d;omega,H.pr.buf,h4⟩,fun e0=>⟨fun w1=>⟨fun _=>?_,fun ne=>absurd e0 ne⟩,fun w0=>?_⟩,fun ne=>⟨fun e0=>absurd e0 ne,fun _=>⟨fun e0=>absurd e0 ne,fun _=>?_⟩⟩⟩,fun d=>absurd hi.2 d⟩
 ·subst e0 w1;rw[e1 ⟨rfl,rfl⟩];obtain a|⟨_,a,_⟩|⟨_,_,a3,a4,a5,a6,_⟩:=hb
  ·exact absurd rfl a
  ·cases a
  ·have a4:k=p.part:=a4;subst a4;refine⟨⟨H.ld,hpt y a6 a5 a3⟩,fun d=>?_,fun d=>?_⟩
   ·exact(if_neg (fun h=>h d)).symm
   ·exact(if_pos d).symm
 ·subst e0 w0;rw[e2 (fun h=>by cases h.2),if_neg (fun h=>h rfl)];rfl
 ·rw[e2 (fun h=>ne h.1),if_pos ne];rfl
theorem axV{x:ab}{n i:Int}{c:Cf}{V:LtS}(h:¬i<n):(Fv x n i c V.1 V.2.1 V.2.2.1 V.2.2.2.1 V.2.2.2.2.1 V.2.2.2.2.2.1 V.2.2.2.2.2.2.1 V.2.2.2.2.2.2.2.1 V.2.2.2.2.2.2.2.2.1 V.2.2.2.2.2.2.2.2.2).Is (.inr (.inr (c,V))):=by
 simp only[Fv,bW];exact⟨fun d=>absurd d h,fun _=>bH.2 rfl⟩
theorem aJF{x:ab}{n i:Int}{c:Cf}{f:Fl}{b er:ab}{g:Sg}{j:Jn}{l:List Rc}{s:Ss}{p:PP}(H:mH c f b er g j l s p)(hx:bL x)(hn:n=x.length)(hi:0≤i∧i<n)(hl:x.length<1099511627776):(HL x n i c f b er g j l s p).Is (if rz (x.getD i.toNat 0) f b er s p=true then(if(Fq (x.getD i.toNat 0) f b er g j l s p).1≠0 then .inr (.inl ((Fq (x.getD i.toNat 0) f b er g j l s p).1,c,(Fq (x.getD i.toNat 0) f b er g j l s p).2))else .inr (.inr (.inl (x,n,i+1,c,(Fq (x.getD i.toNat 0) f b er g j l s p).2)))) else if(VS (x.getD i.toNat 0) c f b er g j l s p).1≠0 then .inr (.inr (.inr (.inl ((VS (x.getD i.toNat 0) c f b er g j l s p).1,c,(VS (x.getD i.toNat 0) c f b er g j l s p).2))))else .inl (x,n,i+1,c,(VS (x.getD i.toNat 0) c f b er g j l s p).2)):=by
 have w:i64.wrap (i+1)=i+1:=bM (by omega) (by omega);have hw:=H.pr.cS;have hL:=H.pr.len;have h4:=H.pr.four;have hb:=yl H.pr (hx.getD i.toNat);have hpt:∀y:ab,bL y→(y.length:Int)=p.cS→aJq p.part y (gk s) er:=fun y h1 h2=>H.pt h1 h2;have ea:rb s=gk s:=rfl;have eb:vB s=(gk s).off:=rfl;rcases hB:du p (x.getD i.toNat 0)with⟨P,k,y,wh,e⟩;have e1:e=0∧wh=true→VS (x.getD i.toNat 0) c f b er g j l s p=erP (Gt k y c f b er g j l (gk s)) P:=fun d=>by unfold VS;rw[hB];exact if_pos d
 have e2:¬ (e=0∧wh=true)→VS (x.getD i.toNat 0) c f b er g j l s p=(e,f,b,er,g,j,l,gk s,P):=fun d=>by unfold VS;rw[hB];exact if_neg d
 have e3:e=0∧wh=true→rz (x.getD i.toNat 0) f b er s p=Fp k y (gk s) f b er:=fun d=>by unfold rz;rw[hB];show(decide (e=0∧wh=true)&&_)=_;rw[decide_eq_true d];rfl
 have e4:¬ (e=0∧wh=true)→rz (x.getD i.toNat 0) f b er s p=false:=fun d=>by unfold rz;rw[hB];show(decide (e=0∧wh=true)&&_)=_;rw[decide_eq_false d];rfl
 have e5:Fq (x.getD i.toNat 0) f b er g j l s p=ltP (anx y f b er g j l (gk s)) P:=by unfold Fq;rw[hB]
 have h0:dK x i p=(P,k,y,wh,e):=hB;rw[hB]at hb;simp only[HL,db,eJ,h0,ea,w,bF,bW,an6,cm,cd,b9,bH];refine⟨fun _=>⟨⟨hi.1,by omega⟩,fun _ d=>⟨hL,by have:=hw d;omega,H.pr.buf,h4⟩,fun e0=>⟨fun w1=>⟨fun _=>?_,fun ne=>absurd e0 ne⟩,fun w0=>?_⟩,fun ne=>⟨fun e0=>absurd e0 ne,fun _=>⟨fun e0=>absurd e0 ne,fun _=>?_⟩⟩⟩,fun d=>absurd hi.2 d⟩
 ·subst e0 w1;obtain a|⟨_,a,_⟩|⟨_,_,a3,a4,a5,a6,_⟩:=hb
  ·exact absurd rfl a
  ·cases a
  ·have a4:k=p.part:=a4;subst a4;have hq:qZ (p.part,y,PUnit.unit) c f b er g j l (gk s) P:=⟨H.ld,hpt y a6 a5⟩;rw[e1 ⟨rfl,rfl⟩,e3 ⟨rfl,rfl⟩,e5];cases hg:Fp p.part y (gk s) f b er with
   |true=>
    refine dH.2 ⟨hq,b9.2 ⟨fun d=>?_,fun d=>?_⟩⟩
    ·rw[if_pos rfl];exact(if_neg (fun h=>h d)).symm
    ·rw[if_pos rfl];exact(if_pos d).symm
   |false=>
    refine dV.2 ⟨hq,b9.2 ⟨fun d=>?_,fun d=>?_⟩⟩
    ·rw[if_neg (by decide)];exact(if_neg (fun h=>h d)).symm
    ·rw[if_neg (by decide)];exact(if_pos d).symm
 ·subst e0 w0;rw[e4 (fun h=>by cases h.2),e2 (fun h=>by cases h.2),if_neg (by decide),if_neg (fun h=>h rfl)];rfl
 ·rw[e4 (fun h=>ne h.1),e2 (fun h=>ne h.1),if_neg (by decide),if_pos ne];rfl
theorem axW{x:ab}{n i:Int}{c:Cf}{V:VR}(h:¬i<n):(HL x n i c V.1 V.2.1 V.2.2.1 V.2.2.2.1 V.2.2.2.2.1 V.2.2.2.2.2.1 V.2.2.2.2.2.2.1 V.2.2.2.2.2.2.2).Is (.inr (.inr (.inr (.inr (c,V))))):=by
 simp only[HL,bW];exact⟨fun d=>absurd d h,fun _=>bH.2 rfl⟩
theorem aes(x':ab)(c':Cf)(f':Fl)(b' Bl:ab)(g':Sg)(j':Jn)(l':List Rc)(s':Ss)(p':PP)(x:ab)(n i:Int)(c:Cf)(f:Fl)(b er:ab)(g:Sg)(j:Jn)(l:List Rc)(s:Ss)(p:PP)(h:HH)(u:Cu):ma aA [(68,VU),(71,aaa),(72,anw)] [] f45 1 (nV.wr (c',f',b',Bl,g',j',l',s',p',())) aaQ (mq.wr (x,n,i,c,f,b,er,g,j,l,s,p,h,u))=(Fv x n i c f b er g j l s p h u).res mq.wr (Sum.elim ML Fu):=by kernel_rfl
def V2(x:qg):Prop:=x.2.1=x.1.length∧0≤x.2.2.1∧x.2.2.1≤x.2.1∧x.1.length<1099511627776∧bL x.1∧ltV x.2.2.2.1 x.2.2.2.2
def an7(x:qh):Prop:=x.2.1=x.1.length∧0≤x.2.2.1∧x.2.2.1≤x.2.1∧x.1.length<1099511627776∧bL x.1∧erV x.2.2.2.1 x.2.2.2.2
abbrev aet(x:qg):Int×LtS:=vE (x.1.drop x.2.2.1.toNat) x.2.2.2.2
abbrev lfE(e:Exit×St):cT:=.bN e.1 e.2
abbrev V3(x:qg):cT:=.ite ((aet x).1!=0) (lfE (ML ((aet x).1,x.2.2.2.1,(aet x).2))) (lfE (Fu (x.2.2.2.1,(aet x).2)))
abbrev aJG(x:qh):Bool:=Gu x.2.2.2.1 (x.1.drop x.2.2.1.toNat) x.2.2.2.2
abbrev aeu(x:qh):Int×VR:=yr x.2.2.2.1 (x.1.drop x.2.2.1.toNat) x.2.2.2.2
abbrev an8(x:qh):Int×LtS:=yT x.2.2.2.1 (x.1.drop x.2.2.1.toNat) x.2.2.2.2
abbrev an9(x:qh):cT:=.ite (aJG x) (.ite ((an8 x).1!=0) (lfE (ML ((an8 x).1,x.2.2.2.1,(an8 x).2))) (lfE (Fu (x.2.2.2.1,(an8 x).2)))) (.ite ((aeu x).1!=0) (lfE (V0 ((aeu x).1,x.2.2.2.1,(aeu x).2))) (lfE (V1 (x.2.2.2.1,(aeu x).2))))
abbrev aJH(x:qg):cT:=(Fv x.1 x.2.1 x.2.2.1 x.2.2.2.1 x.2.2.2.2.1 x.2.2.2.2.2.1 x.2.2.2.2.2.2.1 x.2.2.2.2.2.2.2.1 x.2.2.2.2.2.2.2.2.1 x.2.2.2.2.2.2.2.2.2.1 x.2.2.2.2.2.2.2.2.2.2.1 x.2.2.2.2.2.2.2.2.2.2.2.1 x.2.2.2.2.2.2.2.2.2.2.2.2.1 x.2.2.2.2.2.2.2.2.2.2.2.2.2).res mq.wr (Sum.elim ML Fu)
abbrev aUv(x:qh):cT:=(HL x.1 x.2.1 x.2.2.1 x.2.2.2.1 x.2.2.2.2.1 x.2.2.2.2.2.1 x.2.2.2.2.2.2.1 x.2.2.2.2.2.2.2.1 x.2.2.2.2.2.2.2.2.1 x.2.2.2.2.2.2.2.2.2.1 x.2.2.2.2.2.2.2.2.2.2.1 x.2.2.2.2.2.2.2.2.2.2.2).res uF.wr (Sum.elim ML (Sum.elim an3 (Sum.elim V0 V1)))
theorem Rw{x:ab}{i:Int}(h0:0≤i)(h:i<x.length):x.drop i.toNat=x.getD i.toNat 0::x.drop (i+1).toNat:=by
 have e:(i+1).toNat=i.toNat+1:=by omega
 rw[e,List.drop_eq_getElem_cons (by omega:i.toNat<x.length),List.getD_eq_getElem?_getD,List.getElem?_eq_getElem (by omega:i.toNat<x.length)];rfl
theorem aaR(x:qg)(R:Exit→St→Prop)(hI:V2 x)(hs:(V3 x).sat R):(aJH x).sat fun e s=>(e= .normal∧∃y:qg,s=mq.wr y∧V2 y∧y.1.length-y.2.2.1.toNat<x.1.length-x.2.2.1.toNat∧(V3 y).sat R)∨(e≠ .normal∧R e s):=by
 obtain⟨x,n,i,c,V⟩:=x;obtain⟨h1,h2,h3,h4,h5,h6⟩:=hI;have h1:n=x.length:=h1;have h2:0≤i:=h2;have h3:i≤n:=h3;have h4:x.length<1099511627776:=h4;have h5:bL x:=h5;have h6:ltV c V:=h6;by_cases d:i<n
 ·have hd:=Rw h2 (by omega:i<x.length);have go:=aJE h6 h5 h1 ⟨h2,d⟩ h4;obtain⟨k1,k2⟩:=anA h6 (h5.getD i.toNat);have hr:aet (x,n,i,c,V)=vE (x.getD i.toNat 0::x.drop (i+1).toNat) V:=by show vE (x.drop i.toNat) V=_;rw[hd]
  rw[vE]at hr;by_cases d1:(Of (x.getD i.toNat 0) V.1 V.2.1 V.2.2.1 V.2.2.2.1 V.2.2.2.2.1 V.2.2.2.2.2.1 V.2.2.2.2.2.2.1 V.2.2.2.2.2.2.2.1 V.2.2.2.2.2.2.2.2.1 V.2.2.2.2.2.2.2.2.2).1≠0
  ·rw[if_pos d1]at go hr;have hs:=hs.1 (by rw[hr];simpa using d1);rw[hr]at hs;exact cT.gf (fun e s ⟨a1,a2⟩=>.inr ⟨by rw[a1];exact fun h=>(by cases h),by rw[a1,a2];exact hs⟩) (Tr.jC go)
  ·rw[if_neg d1]at go hr;refine cT.gf (fun e s ⟨a1,a2⟩=>.inl ⟨a1,(x,n,i+1,c,_),a2,⟨h1,by show 0≤i+1;omega,by show i+1≤n;omega,h4,h5,k2 (Decidable.not_not.1 d1)⟩,by show x.length-(i+1).toNat<x.length-i.toNat;omega,?_⟩) (Tr.zf go);unfold V3 at hs ⊢;rw[hr]at hs;exact hs
 ·have go:=axV (x:=x) (c:=c) (V:=V) d;have hr:aet (x,n,i,c,V)=(0,V):=by show vE (x.drop i.toNat) V=_;rw[List.drop_eq_nil_of_le (by omega)];rfl
  have hs:=hs.2 (by rw[hr];rfl);rw[hr]at hs;exact cT.gf (fun e s ⟨a1,a2⟩=>.inr ⟨by rw[a1];exact fun h=>(by cases h),by rw[a1,a2];exact hs⟩) (Tr.jC go)
theorem axX(x:qh)(R:Exit→St→Prop)(hI:an7 x)(hs:(an9 x).sat R):(aUv x).sat fun e s=>(e= .normal∧((∃y:qh,s=uF.wr y∧an7 y∧y.1.length-y.2.2.1.toNat<x.1.length-x.2.2.1.toNat∧(an9 y).sat R)∨(∃y:qg,s=mq.wr y∧V2 y∧y.1.length-y.2.2.1.toNat<x.1.length-x.2.2.1.toNat∧(V3 y).sat R)))∨(e≠ .normal∧R e s):=by
 obtain⟨x,n,i,c,V⟩:=x;obtain⟨h1,h2,h3,h4,h5,h6⟩:=hI;have h1:n=x.length:=h1;have h2:0≤i:=h2;have h3:i≤n:=h3;have h4:x.length<1099511627776:=h4;have h5:bL x:=h5;have h6:erV c V:=h6;by_cases d:i<n
 ·have hd:=Rw h2 (by omega:i<x.length);have go:=aJF h6 h5 h1 ⟨h2,d⟩ h4;obtain⟨k1,k2⟩:=anE h6 (h5.getD i.toNat);have hu:aJG (x,n,i,c,V)=Gu c (x.getD i.toNat 0::x.drop (i+1).toNat) V:=by show Gu c (x.drop i.toNat) V=_;rw[hd]
  have hr:aeu (x,n,i,c,V)=yr c (x.getD i.toNat 0::x.drop (i+1).toNat) V:=by show yr c (x.drop i.toNat) V=_;rw[hd]
  have hl:an8 (x,n,i,c,V)=yT c (x.getD i.toNat 0::x.drop (i+1).toNat) V:=by show yT c (x.drop i.toNat) V=_;rw[hd]
  rw[Gu]at hu;rw[yr]at hr;rw[yT]at hl;by_cases d0:axU (x.getD i.toNat 0) V=true
  ·rw[if_pos d0]at go hu hl;have hs:=hs.1 hu;by_cases d1:(aer (x.getD i.toNat 0) V).1≠0
   ·rw[if_pos d1]at go hl;have hs:=hs.1 (by rw[hl];simpa using d1);rw[hl]at hs;exact cT.gf (fun e s ⟨a1,a2⟩=>.inr ⟨by rw[a1];exact fun h=>(by cases h),by rw[a1,a2];exact hs⟩) (Tr.jC go)
   ·rw[if_neg d1]at go hl;refine cT.gf (fun e s ⟨a1,a2⟩=>.inl ⟨a1,.inr ⟨(x,n,i+1,c,(aer (x.getD i.toNat 0) V).2),a2,⟨h1,by show 0≤i+1;omega,by show i+1≤n;omega,h4,h5,(k2 d0).2 (Decidable.not_not.1 d1)⟩,by show x.length-(i+1).toNat<x.length-i.toNat;omega,?_⟩⟩) (Tr.jC go);rw[hl]at hs;exact hs
  ·rw[if_neg d0]at go hu;have d0':rz (x.getD i.toNat 0) V.1 V.2.1 V.2.2.1 V.2.2.2.2.2.2.1 V.2.2.2.2.2.2.2=false:=(by simpa using d0);by_cases d1:(MN c (x.getD i.toNat 0) V).1≠0
   ·rw[if_pos d1]at go hr hu;have hs:=(hs.2 hu).1 (by rw[hr];simpa using d1);rw[hr]at hs;exact cT.gf (fun e s ⟨a1,a2⟩=>.inr ⟨by rw[a1];exact fun h=>(by cases h),by rw[a1,a2];exact hs⟩) (Tr.jC go)
   ·rw[if_neg d1]at go hr hu;rw[if_neg d0]at hl;refine cT.gf (fun e s ⟨a1,a2⟩=>.inl ⟨a1,.inl ⟨(x,n,i+1,c,(MN c (x.getD i.toNat 0) V).2),a2,⟨h1,by show 0≤i+1;omega,by show i+1≤n;omega,h4,h5,(k1 d0').2 (Decidable.not_not.1 d1)⟩,by show x.length-(i+1).toNat<x.length-i.toNat;omega,?_⟩⟩) (Tr.zf go);unfold an9 at hs ⊢;rw[hu,hr,hl]at hs;exact hs
 ·have go:=axW (x:=x) (c:=c) (V:=V) d;have hn:x.drop i.toNat= []:=List.drop_eq_nil_of_le (by omega);have hu:aJG (x,n,i,c,V)=false:=by show Gu c (x.drop i.toNat) V=_;rw[hn];rfl
  have hr:aeu (x,n,i,c,V)=(0,V):=by show yr c (x.drop i.toNat) V=_;rw[hn];rfl
  have hs:=(hs.2 hu).2 (by rw[hr];rfl);rw[hr]at hs;exact cT.gf (fun e s ⟨a1,a2⟩=>.inr ⟨by rw[a1];exact fun h=>(by cases h),by rw[a1,a2];exact hs⟩) (Tr.jC go)
abbrev aCM:qg→cT:=fun x=>.need (V2 x) (V3 x)
abbrev aCN:qh→cT:=fun x=>.need (an7 x) (an9 x)
theorem aoa(y_):∀x:qg,Ex aA (s5.wr y_) (.loop (cG f45 1)) (mq.wr x) (aCM x):=fun x=>by
 refine Ex.need fun h=>Ex.iF (fun x:qg=>x.1.length-x.2.2.1.toNat) mq.wr V2 aJH V3 (fun x _=>?_) aaR h;have:=wj (P:=aA) bJ (bI qe (bI yf (bI Mt bU))) (LT:= []) (fn:=f45) (id:=1) (hp:=s5.wr y_) (ws:=aaQ) (st:=mq.wr x) (cn.nil _);rw[show mq.wr x=mq.wr (x.1,x.2.1,x.2.2.1,x.2.2.2.1,x.2.2.2.2.1,x.2.2.2.2.2.1,x.2.2.2.2.2.2.1,x.2.2.2.2.2.2.2.1,x.2.2.2.2.2.2.2.2.1,x.2.2.2.2.2.2.2.2.2.1,x.2.2.2.2.2.2.2.2.2.2.1,x.2.2.2.2.2.2.2.2.2.2.2.1,x.2.2.2.2.2.2.2.2.2.2.2.2.1,x.2.2.2.2.2.2.2.2.2.2.2.2.2)from rfl]at this;rw[aep [] y_.1 y_.2.1 y_.2.2.1 y_.2.2.2.1 y_.2.2.2.2.1 y_.2.2.2.2.2.1 y_.2.2.2.2.2.2.1 y_.2.2.2.2.2.2.2.1 y_.2.2.2.2.2.2.2.2.1 y_.2.2.2.2.2.2.2.2.2.1 y_.2.2.2.2.2.2.2.2.2.2.1]at this;exact this
theorem aob(y_):∀x:qh,Ex aA (nV.wr y_) (.loop (cG f45 1)) (uF.wr x) (aCN x):=fun x=>by
 refine Ex.need fun h=>Ex.iF (x:=Sum.inl x) (Sum.elim (fun x:qh=>x.1.length-x.2.2.1.toNat) fun x:qg=>x.1.length-x.2.2.1.toNat) (Sum.elim uF.wr mq.wr) (Sum.elim an7 V2) (Sum.elim aUv aJH) (Sum.elim an9 V3) (fun x _=>?_) (fun x R hI hs=>?_) h
 ·cases x with
  |inl x=>
   have:=wj (P:=aA) bJ (bI s8 (bI yf (bI aaG bU))) (LT:= []) (fn:=f45) (id:=1) (hp:=nV.wr y_) (ws:=aCK) (st:=uF.wr x) (cn.nil _);rw[show uF.wr x=uF.wr (x.1,x.2.1,x.2.2.1,x.2.2.2.1,x.2.2.2.2.1,x.2.2.2.2.2.1,x.2.2.2.2.2.2.1,x.2.2.2.2.2.2.2.1,x.2.2.2.2.2.2.2.2.1,x.2.2.2.2.2.2.2.2.2.1,x.2.2.2.2.2.2.2.2.2.2.1,x.2.2.2.2.2.2.2.2.2.2.2)from rfl]at this;rw[aeq [] y_.1 y_.2.1 y_.2.2.1 y_.2.2.2.1 y_.2.2.2.2.1 y_.2.2.2.2.2.1 y_.2.2.2.2.2.2.1 y_.2.2.2.2.2.2.2.1 y_.2.2.2.2.2.2.2.2.1]at this;exact this
  |inr x=>
   have:=wj (P:=aA) bJ (bI qe (bI yf (bI Mt bU))) (LT:= []) (fn:=f45) (id:=1) (hp:=nV.wr y_) (ws:=aaQ) (st:=mq.wr x) (cn.nil _);rw[show mq.wr x=mq.wr (x.1,x.2.1,x.2.2.1,x.2.2.2.1,x.2.2.2.2.1,x.2.2.2.2.2.1,x.2.2.2.2.2.2.1,x.2.2.2.2.2.2.2.1,x.2.2.2.2.2.2.2.2.1,x.2.2.2.2.2.2.2.2.2.1,x.2.2.2.2.2.2.2.2.2.2.1,x.2.2.2.2.2.2.2.2.2.2.2.1,x.2.2.2.2.2.2.2.2.2.2.2.2.1,x.2.2.2.2.2.2.2.2.2.2.2.2.2)from rfl]at this;rw[aes [] y_.1 y_.2.1 y_.2.2.1 y_.2.2.2.1 y_.2.2.2.2.1 y_.2.2.2.2.2.1 y_.2.2.2.2.2.2.1 y_.2.2.2.2.2.2.2.1 y_.2.2.2.2.2.2.2.2.1]at this;exact this
 ·cases x with
  |inl x=>
   refine cT.gf (fun e s h=>h.imp (fun⟨a1,a2⟩=>⟨a1,?_⟩) id) (axX x R hI hs);rcases a2 with⟨y,b⟩|⟨y,b⟩
   ·exact⟨.inl y,b⟩
   ·exact⟨.inr y,b⟩
  |inr x=>exact cT.gf (fun e s h=>h.imp (fun⟨a1,y,b⟩=>⟨a1,.inr y,b⟩) id) (aaR x R hI hs)
def aaS(f:Fl)(b er:ab)(g:Sg)(j:Jn)(l:List ah)(s:Ss)(p:PP)(h:HH)(u:Cu):Fl×ab×ab×Sg×Jn×List ah×Ss×PP×HH×Cu:=(f,b,er,g,j,l,s,p,h,u)
def fy(x:ab)(f:Fl)(b er:ab)(g:Sg)(j:Jn)(l:List ah)(s:Ss)(p:PP) (h:HH) (u:Cu):Int×Fl×ab×ab×Sg×Jn×List ah×Ss×PP×HH×Cu:=vE (List.drop 0 x) (aaS f b er g j l s p h u)
abbrev aaT(x:anZ):LV:=aw (ar x.1)
abbrev aaU(x:anZ):List ao:= [(0,ug.wr x.2.1),(1,dA.wr x.2.2.1),(2,bE.own 0 ae x.2.2.2.1),(3,bE.own 0 ag x.2.2.2.2.1),(4,jc.wr x.2.2.2.2.2.1),(5,fX.wr x.2.2.2.2.2.2.1),(6,bE.own 1 (ag.pair (ag.pair ae.sl)) x.2.2.2.2.2.2.2.1),(7,ui.wr x.2.2.2.2.2.2.2.2.1),(8,kY.wr x.2.2.2.2.2.2.2.2.2.1),(9,oY.wr x.2.2.2.2.2.2.2.2.2.2.1),(10,p6.wr x.2.2.2.2.2.2.2.2.2.2.2)]
abbrev aaW(x:anZ):List ao:= [(0,zN.wr x.2.1),(1,dA.wr x.2.2.1),(2,bE.own 0 ae x.2.2.2.1),(3,bE.own 0 ag x.2.2.2.2.1),(4,jc.wr x.2.2.2.2.2.1),(5,fX.wr x.2.2.2.2.2.2.1),(6,bE.own 1 (ag.pair (ag.pair ae.sl)) x.2.2.2.2.2.2.2.1),(7,ui.wr x.2.2.2.2.2.2.2.2.1),(8,kY.wr x.2.2.2.2.2.2.2.2.2.1),(9,oY.wr x.2.2.2.2.2.2.2.2.2.2.1),(10,p6.wr x.2.2.2.2.2.2.2.2.2.2.2)]
abbrev Cb:Type:=anZ⊕anZ
abbrev axY:Cb→LV:=Sum.elim aaT aaT
abbrev axZ:Cb→List ao:=Sum.elim aaU aaW
def aoc(x:ab)(c:Cf)(f:Fl)(b er:ab)(g:Sg)(j:Jn)(l:List ah)(s:Ss) (p:PP) (h:HH) (u:Cu):Tr (anZ⊕anZ):=.need (qd c f b er g j l s p h u) (.need (V2 (x,(↑x.length:Int),0,c,aaS f b er g j l s p h u)) (.ite ((fy x f b er g j l s p h u).1 !=0) (.ret (.inl ((fy x f b er g j l s p h u).1,c,(fy x f b er g j l s p h u).2.1,(fy x f b er g j l s p h u).2.2.1,(fy x f b er g j l s p h u).2.2.2.1,(fy x f b er g j l s p h u).2.2.2.2.1,(fy x f b er g j l s p h u).2.2.2.2.2.1,(fy x f b er g j l s p h u).2.2.2.2.2.2.1,(fy x f b er g j l s p h u).2.2.2.2.2.2.2.1,(fy x f b er g j l s p h u).2.2.2.2.2.2.2.2.1,(fy x f b er g j l s p h u).2.2.2.2.2.2.2.2.2.1,(fy x f b er g j l s p h u).2.2.2.2.2.2.2.2.2.2))) (.ret (.inr (0,c,(fy x f b er g j l s p h u).2.1,(fy x f b er g j l s p h u).2.2.1,(fy x f b er g j l s p h u).2.2.2.1,(fy x f b er g j l s p h u).2.2.2.2.1,(fy x f b er g j l s p h u).2.2.2.2.2.1,(fy x f b er g j l s p h u).2.2.2.2.2.2.1,(fy x f b er g j l s p h u).2.2.2.2.2.2.2.1,(fy x f b er g j l s p h u).2.2.2.2.2.2.2.2.1,(fy x f b er g j l s p h u).2.2.2.2.2.2.2.2.2.1,(fy x f b er g j l s p h u).2.2.2.2.2.2.2.2.2.2)))))
abbrev yx(x:ab)(c:Cf)(f:Fl)(b er:ab)(g:Sg)(j:Jn)(l:List Rc)(s:Ss)(p:PP)(h:HH)(u:Cu):Prop:=bL x∧x.length<1099511627776∧qc c f b er g j l s p h u
abbrev Fw(x:ab)(c:Cf)(f:Fl)(b er:ab)(g:Sg)(j:Jn)(l:List Rc)(s:Ss)(p:PP)(h:HH)(u:Cu):Tr Cb:=.ite ((vE x (f,b,er,g,j,l,s,p,h,u)).1!=0) (.ret (.inl ((vE x (f,b,er,g,j,l,s,p,h,u)).1,c,(vE x (f,b,er,g,j,l,s,p,h,u)).2))) (.ret (.inr (0,c,(vE x (f,b,er,g,j,l,s,p,h,u)).2)))
def aJI:bT:=sR [none,some u8] fdA s5 (zQ∘q1 yx) (zQ∘q1 Fw) axY axZ
theorem aod(x:ab)(c:Cf)(f:Fl)(b er:ab)(g:Sg)(j:Jn)(l:List Rc)(s:Ss)(p:PP)(h:HH)(u:Cu)(h_:yx x c f b er g j l s p h u)(z_:Cb)(fS:(Fw x c f b er g j l s p h u).Is z_):(aoc x c f b er g j l s p h u).Is z_:=by
 delta Fw at fS;obtain⟨h1,h2,h3⟩:=h_;simp only[aoc,bF];exact⟨trivial,⟨rfl,Int.le_refl _,Int.natCast_nonneg _,h2,h1,h3⟩,fS⟩
theorem Rx:aJI.Ok aA 45:=kO bJ ((bI qe (bI yf (bI Mt bU)))) func45 (by kernel_rfl) call45 (LT:=fun _ y_=> [(1,fN mq (s5.wr y_) aCI aCM)]) (ks:= [.one 6,.fr [.sym],.cu,.bS,.ck]) (fun _ y_=>cn.dO (mI (by kernel_rfl) (dq (aoa y_)) mT)) (fun _ _=>by kernel_rfl) fun x_ y_ h=>aod x_.1 y_.1 y_.2.1 y_.2.2.1 y_.2.2.2.1 y_.2.2.2.2.1 y_.2.2.2.2.2.1 y_.2.2.2.2.2.2.1 y_.2.2.2.2.2.2.2.1 y_.2.2.2.2.2.2.2.2.1 y_.2.2.2.2.2.2.2.2.2.1 y_.2.2.2.2.2.2.2.2.2.2.1 h
def Cc(f:Fl)(b er:ab)(g:Sg)(j:Jn)(l:List ah)(s:Ss)(p:PP):Fl×ab×ab×Sg×Jn×List ah×Ss×PP:=(f,b,er,g,j,l,s,p)
def fA(x:ab)(c:Cf)(f:Fl)(b er:ab)(g:Sg)(j:Jn)(l:List ah)(s:Ss) (p:PP):Int×Fl×ab×ab×Sg×Jn×List ah×Ss×PP×HH×Cu:=yT c (List.drop 0 x) (Cc f b er g j l s p)
def gl(x:ab)(c:Cf)(f:Fl)(b er:ab)(g:Sg)(j:Jn)(l:List ah)(s:Ss) (p:PP):Int×Fl×ab×ab×Sg×Jn×List ah×Ss×PP:=yr c (List.drop 0 x) (Cc f b er g j l s p)
abbrev aa2(x:B3):List ao:= [(0,ug.wr x.2.1),(1,dA.wr x.2.2.1),(2,bE.own 0 ae x.2.2.2.1),(3,bE.own 0 ag x.2.2.2.2.1),(4,jc.wr x.2.2.2.2.2.1),(5,fX.wr x.2.2.2.2.2.2.1),(6,bE.own 1 (ag.pair (ag.pair ae.sl)) x.2.2.2.2.2.2.2.1),(7,vt.wr x.2.2.2.2.2.2.2.2.1),(8,kY.wr x.2.2.2.2.2.2.2.2.2)]
abbrev Cd:Type:=anZ⊕anZ⊕B3⊕B3
abbrev ax0:Cd→LV:=Sum.elim aaT (Sum.elim aaT (Sum.elim awZ awZ))
abbrev ax1:Cd→List ao:=Sum.elim aaU (Sum.elim aaW (Sum.elim aa2 aw0))
def aoe(x:ab)(c:Cf)(f:Fl)(b er:ab)(g:Sg)(j:Jn)(l:List ah)(s:Ss) (p:PP):Tr (anZ⊕anZ⊕B3⊕B3):=.need (qf c f b er g j l s p) (.need (an7 (x,(↑x.length:Int),0,c,Cc f b er g j l s p)) (.ite (Gu c (List.drop 0 x) (Cc f b er g j l s p)) (.ite ((fA x c f b er g j l s p).1 !=0) (.ret (.inl ((fA x c f b er g j l s p).1,c,(fA x c f b er g j l s p).2.1,(fA x c f b er g j l s p).2.2.1,(fA x c f b er g j l s p).2.2.2.1,(fA x c f b er g j l s p).2.2.2.2.1,(fA x c f b er g j l s p).2.2.2.2.2.1,(fA x c f b er g j l s p).2.2.2.2.2.2.1,(fA x c f b er g j l s p).2.2.2.2.2.2.2.1,(fA x c f b er g j l s p).2.2.2.2.2.2.2.2.1,(fA x c f b er g j l s p).2.2.2.2.2.2.2.2.2.1,(fA x c f b er g j l s p).2.2.2.2.2.2.2.2.2.2))) (.ret (.inr (.inl (0,c,(fA x c f b er g j l s p).2.1,(fA x c f b er g j l s p).2.2.1,(fA x c f b er g j l s p).2.2.2.1,(fA x c f b er g j l s p).2.2.2.2.1,(fA x c f b er g j l s p).2.2.2.2.2.1,(fA x c f b er g j l s p).2.2.2.2.2.2.1,(fA x c f b er g j l s p).2.2.2.2.2.2.2.1,(fA x c f b er g j l s p).2.2.2.2.2.2.2.2.1,(fA x c f b er g j l s p).2.2.2.2.2.2.2.2.2.1,(fA x c f b er g j l s p).2.2.2.2.2.2.2.2.2.2))))) (.ite ((gl x c f b er g j l s p).1 !=0) (.ret (.inr (.inr (.inl ((gl x c f b er g j l s p).1,c,(gl x c f b er g j l s p).2.1,(gl x c f b er g j l s p).2.2.1,(gl x c f b er g j l s p).2.2.2.1,(gl x c f b er g j l s p).2.2.2.2.1,(gl x c f b er g j l s p).2.2.2.2.2.1,(gl x c f b er g j l s p).2.2.2.2.2.2.1,(gl x c f b er g j l s p).2.2.2.2.2.2.2.1,(gl x c f b er g j l s p).2.2.2.2.2.2.2.2))))) (.ret (.inr (.inr (.inr (0,c,(gl x c f b er g j l s p).2.1,(gl x c f b er g j l s p).2.2.1,(gl x c f b er g j l s p).2.2.2.1,(gl x c f b er g j l s p).2.2.2.2.1,(gl x c f b er g j l s p).2.2.2.2.2.1,(gl x c f b er g j l s p).2.2.2.2.2.2.1,(gl x c f b er g j l s p).2.2.2.2.2.2.2.1,(gl x c f b er g j l s p).2.2.2.2.2.2.2.2))))))))
abbrev qk(x:ab)(c:Cf)(f:Fl)(b er:ab)(g:Sg)(j:Jn)(l:List Rc)(s:Ss)(p:PP):Prop:=bL x∧x.length<1099511627776∧mH c f b er g j l s p
abbrev vC(x:ab)(c:Cf)(f:Fl)(b er:ab)(g:Sg)(j:Jn)(l:List Rc)(s:Ss)(p:PP):Tr Cd:=.ite (Gu c x (f,b,er,g,j,l,s,p)) (.ite ((yT c x (f,b,er,g,j,l,s,p)).1!=0) (.ret (.inl ((yT c x (f,b,er,g,j,l,s,p)).1,c,(yT c x (f,b,er,g,j,l,s,p)).2))) (.ret (.inr (.inl (0,c,(yT c x (f,b,er,g,j,l,s,p)).2))))) (.ite ((yr c x (f,b,er,g,j,l,s,p)).1!=0) (.ret (.inr (.inr (.inl ((yr c x (f,b,er,g,j,l,s,p)).1,c,(yr c x (f,b,er,g,j,l,s,p)).2))))) (.ret (.inr (.inr (.inr (0,c,(yr c x (f,b,er,g,j,l,s,p)).2))))))
def aJJ:bT:=sR [none,some u8] fdA nV (q9∘q1 qk) (q9∘q1 vC) ax0 ax1
theorem aof(x:ab)(c:Cf)(f:Fl)(b er:ab)(g:Sg)(j:Jn)(l:List Rc)(s:Ss)(p:PP)(h_:qk x c f b er g j l s p)(z_:Cd)(fS:(vC x c f b er g j l s p).Is z_):(aoe x c f b er g j l s p).Is z_:=by
 delta vC at fS;obtain⟨h1,h2,h3⟩:=h_;simp only[aoe,bF];exact⟨trivial,⟨rfl,Int.le_refl _,Int.natCast_nonneg _,h2,h1,h3⟩,fS⟩
theorem yC:aJJ.Ok aA 45:=kO bJ ((bI s8 (bI yf (bI aaG bU)))) func45 (by kernel_rfl) call45 (LT:=fun _ y_=> [(1,fN uF (nV.wr y_) aCI aCN)]) (ks:= [.one 6,.fr [.sym],.cu,.bS,.ck]) (fun _ y_=>cn.dO (mI (by kernel_rfl) (dq (aob y_)) mT)) (fun _ _=>by kernel_rfl) fun x_ y_ h=>aof x_.1 y_.1 y_.2.1 y_.2.2.1 y_.2.2.2.1 y_.2.2.2.2.1 y_.2.2.2.2.2.1 y_.2.2.2.2.2.2.1 y_.2.2.2.2.2.2.2.1 y_.2.2.2.2.2.2.2.2.1 h
abbrev MO(x:ab)(c:Cf)(f:Fl)(b er:ab)(g:Sg)(j:Jn)(l:List Rc)(s:Ss)(p:PP)(h:HH)(u:Cu):Prop:=bL x∧x.length<1099511627776∧qc c f b er g j l s p h u∧(vE x (f,b,er,g,j,l,s,p,h,u)).1≠0
abbrev aCO(x:ab)(c:Cf)(f:Fl)(b er:ab)(g:Sg)(j:Jn)(l:List Rc)(s:Ss)(p:PP)(h:HH)(u:Cu):anZ:=((vE x (f,b,er,g,j,l,s,p,h,u)).1,c,(vE x (f,b,er,g,j,l,s,p,h,u)).2)
def aUw:bT:=cj [none,some u8] fdA s5 (zQ∘q1 MO) (zQ∘q1 aCO) aaT aaU
theorem ax2(x:ab)(c:Cf)(f:Fl)(b er:ab)(g:Sg)(j:Jn)(l:List Rc)(s:Ss)(p:PP)(h:HH)(u:Cu)(h_:MO x c f b er g j l s p h u):yx x c f b er g j l s p h u∧(Fw x c f b er g j l s p h u).Is ((fun z_=>(Sum.inl z_)) (aCO x c f b er g j l s p h u)):=by
 exact⟨⟨h_.1,h_.2.1,h_.2.2.1⟩,b9.2 ⟨fun d=>absurd d h_.2.2.2,fun _=>rfl⟩⟩
theorem ax3:aUw.Ok aA 45:=lR Rx (fun z_=>(Sum.inl z_)) (fun _=>rfl) (fun _=>rfl) fun x_=>aa9 (@ax2 x_.1)
abbrev MP(x:ab)(c:Cf)(f:Fl)(b er:ab)(g:Sg)(j:Jn)(l:List Rc)(s:Ss)(p:PP)(h:HH)(u:Cu):Prop:=bL x∧x.length<1099511627776∧qc c f b er g j l s p h u∧(vE x (f,b,er,g,j,l,s,p,h,u)).1=0
abbrev aCP(x:ab)(c:Cf)(f:Fl)(b er:ab)(g:Sg)(j:Jn)(l:List Rc)(s:Ss)(p:PP)(h:HH)(u:Cu):anZ:=(0,c,(vE x (f,b,er,g,j,l,s,p,h,u)).2)
def aUx:bT:=cj [none,some u8] fdA s5 (zQ∘q1 MP) (zQ∘q1 aCP) aaT aaW
theorem ax4(x:ab)(c:Cf)(f:Fl)(b er:ab)(g:Sg)(j:Jn)(l:List Rc)(s:Ss)(p:PP)(h:HH)(u:Cu)(h_:MP x c f b er g j l s p h u):yx x c f b er g j l s p h u∧(Fw x c f b er g j l s p h u).Is ((fun z_=>(Sum.inr z_)) (aCP x c f b er g j l s p h u)):=by
 exact⟨⟨h_.1,h_.2.1,h_.2.2.1⟩,b9.2 ⟨fun _=>rfl,fun d=>absurd h_.2.2.2 d⟩⟩
theorem ax5:aUx.Ok aA 45:=lR Rx (fun z_=>(Sum.inr z_)) (fun _=>rfl) (fun _=>rfl) fun x_=>aa9 (@ax4 x_.1)
abbrev MQ(x:ab)(c:Cf)(f:Fl)(b er:ab)(g:Sg)(j:Jn)(l:List Rc)(s:Ss)(p:PP):Prop:=bL x∧x.length<1099511627776∧mH c f b er g j l s p∧Gu c x (f,b,er,g,j,l,s,p)=true∧(yT c x (f,b,er,g,j,l,s,p)).1≠0
abbrev aCQ(x:ab)(c:Cf)(f:Fl)(b er:ab)(g:Sg)(j:Jn)(l:List Rc)(s:Ss)(p:PP):anZ:=((yT c x (f,b,er,g,j,l,s,p)).1,c,(yT c x (f,b,er,g,j,l,s,p)).2)
def aUy:bT:=cj [none,some u8] fdA nV (q9∘q1 MQ) (q9∘q1 aCQ) aaT aaU
theorem ax6(x:ab)(c:Cf)(f:Fl)(b er:ab)(g:Sg)(j:Jn)(l:List Rc)(s:Ss)(p:PP)(h_:MQ x c f b er g j l s p):qk x c f b er g j l s p∧(vC x c f b er g j l s p).Is ((fun z_=>(Sum.inl z_)) (aCQ x c f b er g j l s p)):=by
 obtain⟨h1,h2,h3,h4,h5⟩:=h_;exact⟨⟨h1,h2,h3⟩,bY.2 ⟨fun _=>b9.2 ⟨fun d=>absurd d h5,fun _=>rfl⟩,fun d=>by rw[h4]at d;cases d⟩⟩
theorem ax7:aUy.Ok aA 45:=lR yC (fun z_=>(Sum.inl z_)) (fun _=>rfl) (fun _=>rfl) fun x_=>uo (@ax6 x_.1)
abbrev MR(x:ab)(c:Cf)(f:Fl)(b er:ab)(g:Sg)(j:Jn)(l:List Rc)(s:Ss)(p:PP):Prop:=bL x∧x.length<1099511627776∧mH c f b er g j l s p∧Gu c x (f,b,er,g,j,l,s,p)=true∧(yT c x (f,b,er,g,j,l,s,p)).1=0
abbrev aCR(x:ab)(c:Cf)(f:Fl)(b er:ab)(g:Sg)(j:Jn)(l:List Rc)(s:Ss)(p:PP):anZ:=(0,c,(yT c x (f,b,er,g,j,l,s,p)).2)
def aUz:bT:=cj [none,some u8] fdA nV (q9∘q1 MR) (q9∘q1 aCR) aaT aaW
theorem ax8(x:ab)(c:Cf)(f:Fl)(b er:ab)(g:Sg)(j:Jn)(l:List Rc)(s:Ss)(p:PP)(h_:MR x c f b er g j l s p):qk x c f b er g j l s p∧(vC x c f b er g j l s p).Is ((fun z_=>(Sum.inr (Sum.inl z_))) (aCR x c f b er g j l s p)):=by
 obtain⟨h1,h2,h3,h4,h5⟩:=h_;exact⟨⟨h1,h2,h3⟩,bY.2 ⟨fun _=>b9.2 ⟨fun _=>rfl,fun d=>absurd h5 d⟩,fun d=>by rw[h4]at d;cases d⟩⟩
theorem ax9:aUz.Ok aA 45:=lR yC (fun z_=>(Sum.inr (Sum.inl z_))) (fun _=>rfl) (fun _=>rfl) fun x_=>uo (@ax8 x_.1)
abbrev MS(x:ab)(c:Cf)(f:Fl)(b er:ab)(g:Sg)(j:Jn)(l:List Rc)(s:Ss)(p:PP):Prop:=bL x∧x.length<1099511627776∧mH c f b er g j l s p∧Gu c x (f,b,er,g,j,l,s,p)=false∧(yr c x (f,b,er,g,j,l,s,p)).1≠0
abbrev aCS(x:ab)(c:Cf)(f:Fl)(b er:ab)(g:Sg)(j:Jn)(l:List Rc)(s:Ss)(p:PP):B3:=((yr c x (f,b,er,g,j,l,s,p)).1,c,(yr c x (f,b,er,g,j,l,s,p)).2)
def aUA:bT:=cj [none,some u8] fdA nV (q9∘q1 MS) (q9∘q1 aCS) awZ aa2
theorem aya(x:ab)(c:Cf)(f:Fl)(b er:ab)(g:Sg)(j:Jn)(l:List Rc)(s:Ss)(p:PP)(h_:MS x c f b er g j l s p):qk x c f b er g j l s p∧(vC x c f b er g j l s p).Is ((fun z_=>(Sum.inr (Sum.inr (Sum.inl z_)))) (aCS x c f b er g j l s p)):=by
 obtain⟨h1,h2,h3,h4,h5⟩:=h_;exact⟨⟨h1,h2,h3⟩,bY.2 ⟨fun d=>(by rw[h4]at d;cases d),fun _=>b9.2 ⟨fun d=>absurd d h5,fun _=>rfl⟩⟩⟩
theorem ayb:aUA.Ok aA 45:=lR yC (fun z_=>(Sum.inr (Sum.inr (Sum.inl z_)))) (fun _=>rfl) (fun _=>rfl) fun x_=>uo (@aya x_.1)
abbrev MT(x:ab)(c:Cf)(f:Fl)(b er:ab)(g:Sg)(j:Jn)(l:List Rc)(s:Ss)(p:PP):Prop:=bL x∧x.length<1099511627776∧mH c f b er g j l s p∧Gu c x (f,b,er,g,j,l,s,p)=false∧(yr c x (f,b,er,g,j,l,s,p)).1=0
abbrev aCT(x:ab)(c:Cf)(f:Fl)(b er:ab)(g:Sg)(j:Jn)(l:List Rc)(s:Ss)(p:PP):B3:=(0,c,(yr c x (f,b,er,g,j,l,s,p)).2)
def aUB:bT:=cj [none,some u8] fdA nV (q9∘q1 MT) (q9∘q1 aCT) awZ aw0
theorem ayc(x:ab)(c:Cf)(f:Fl)(b er:ab)(g:Sg)(j:Jn)(l:List Rc)(s:Ss)(p:PP)(h_:MT x c f b er g j l s p):qk x c f b er g j l s p∧(vC x c f b er g j l s p).Is ((fun z_=>(Sum.inr (Sum.inr (Sum.inr z_)))) (aCT x c f b er g j l s p)):=by
 obtain⟨h1,h2,h3,h4,h5⟩:=h_;exact⟨⟨h1,h2,h3⟩,bY.2 ⟨fun d=>(by rw[h4]at d;cases d),fun _=>b9.2 ⟨fun _=>rfl,fun d=>absurd h5 d⟩⟩⟩
theorem ayd:aUB.Ok aA 45:=lR yC (fun z_=>(Sum.inr (Sum.inr (Sum.inr z_)))) (fun _=>rfl) (fun _=>rfl) fun x_=>uo (@ayc x_.1)
end Go.Proofs.YtliehnnljilacaaGreat
