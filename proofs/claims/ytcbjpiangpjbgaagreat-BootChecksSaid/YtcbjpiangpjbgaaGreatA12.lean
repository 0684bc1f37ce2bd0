/- What the laws lean on, part 12: a reader of code, plain facts, and what each function gives; no conditions. -/
import Derived.WalkKit
import Derived.Lib.Walk
import Derived.Lib.SliceRun
import Derived.Laws.Externs
import Derived.Test.YtcbjpiangpjbgaaGreatA11
set_option linter.unusedVariables false
set_option linter.unusedSimpArgs false
noncomputable section
namespace Go.Proofs.YtcbjpiangpjbgaaGreat
open Go Go.Ev Go.Proofs.Tryz
open Go.IntKind (i64 signed u32 u64 wrap wrap_u32)
set_option maxRecDepth 1000000
abbrev aoE:Type:=Int
abbrev aC5(x:aoE):LV:=LV.one (VV.sc (SV.int i64 (SI.sym x)))
abbrev aC6(x:aoE):List (Nat×Ev.Item):= []
def axE(b:List Int):Tr (aoE):=(.need (xT b) (.ite ((!(bP b).snd.snd)==false) (.ite (((bP b).fst.fst !=1)==false)
 (.ite (decide (0<(↑(bP b).fst.snd.snd.length:Int))) (.ret (0)) (.ret ((bP b).fst.snd.fst))) (.ret (0))) (.ret (0))))
theorem agJ(b:List Int):aN Tryz.prog [(174,SH)] [] f125 ((bA).wr (b,())) ((ae).wr (())) [.fr [.sym],.syms,.auto,.aE]=(axE b).end aC5 aC6 ((ae).wr (())):=by kernel_rfl
theorem aoF(b:List Int):aJ Tryz.prog ((ae).wr (())) [] (aD f125):=(aJ.nil _)
def o7(b:List Int):Int:=if(bP b).2.2=true∧(bP b).1.1=1∧(bP b).1.2.2= []then(bP b).1.2.1 else 0
abbrev rS(b:List Int):Prop:=ax b∧b.length<1099511627776
abbrev axF(b:List Int):aoE:=o7 b
def aC7:ao:=cd [some u8] (bA) (ae) (fun x_ y_=>rS x_.1) (fun x_ y_=>axF x_.1) aC5 aC6
theorem axG(b:List Int)(h_:rS b):(axE b).Is (axF b):=by
 delta axF;have h:ax b∧b.length<1099511627776:=h_;have e:(bP b).1.2.2= []↔(bP b).1.2.2.length=0:=List.length_eq_zero_iff.symm;simp only[axE,o7,ai,aH,aS,bb,aP,ay,aG,aT,aM,aQ,bl,bf,aK,aF,ak]
 try simp only[aA,ai,aH,aS,bb,aP,ay,aG,aT,aM,aQ,bl,bf,aK,aF,ak]
 refine⟨h,?_⟩;generalize bP b=x at*;grind
theorem axH:aC7.Ok Tryz.prog 125:=
 br mixed ((aj Eu aw)) func125 (by kernel_rfl) call125 (fun x_ y_=>aoF x_.1) (fun x_ y_=>agJ x_.1) (fun x_ y_ h=>axG x_.1 h)
theorem kE{b:List Int}(h:(bP b).2.2=true):16≤(bP b).2.1∧(bP b).2.1≤b.length∧(bP b).1=Et b∧(bP b).2.1=eB (gu b 2):=by
 unfold bP at h ⊢
 split at h
 ·rename_i c;rw[if_pos c];refine⟨?_,c.2.2.1,rfl,rfl⟩;have:=c.2.1;unfold eB at this ⊢
  split at this
  ·rename_i c2;simp only[if_pos c2];omega
  ·exact absurd rfl this
 ·cases h
def bZ:Nat→List Int→List (Int×Int×List Int)×Int
 |0,_=>([],0)
 |n+1,b=>if(bP b).2.2=true∧(bP b).1.1≠1 then((bP b).1::(bZ n (b.drop (bP b).2.1.toNat)).1,(bP b).2.1+(bZ n (b.drop (bP b).2.1.toNat)).2)else([],0)
theorem rT:∀ (n m:Nat) (b:List Int),b.length≤16*n→b.length≤16*m→bZ n b=bZ m b
 |0,0,_,_,_=>rfl
 |0,m+1,b,h,_=>by
  rw[bZ,bZ,if_neg]
  rintro⟨h1,_⟩
  have:=kE h1;omega
 |n+1,0,b,_,h=>by
  rw[bZ,bZ,if_neg]
  rintro⟨h1,_⟩
  have:=kE h1;omega
 |n+1,m+1,b,h1,h2=>by
  rw[bZ,bZ]
  by_cases c:(bP b).2.2=true∧(bP b).1.1≠1
  ·have:=kE c.1;have hl:(b.drop (bP b).2.1.toNat).length=b.length-(bP b).2.1.toNat:=List.length_drop;rw[if_pos c,if_pos c,rT n m _ (by omega) (by omega)]
  ·rw[if_neg c,if_neg c]
theorem qg:∀ (n:Nat) (b:List Int),0≤(bZ n b).2∧(bZ n b).2≤b.length∧16*((bZ n b).1.length:Int)≤(bZ n b).2
 |0,b=>⟨Int.le_refl _,by simp[bZ],by simp[bZ]⟩
 |n+1,b=>by
  rw[bZ]
  split
  ·rename_i c;have h1:=kE c.1;have h2:=qg n (b.drop (bP b).2.1.toNat);have hl:(b.drop (bP b).2.1.toNat).length=b.length-(bP b).2.1.toNat:=List.length_drop;rw[hl]at h2;refine⟨by simp only;omega,by simp only;omega,?_⟩;simp only[List.length_cons];omega
  ·exact⟨Int.le_refl _,by simp,by simp⟩
abbrev dK:Ty:=.pair (.int .i64) (.pair (.int .i64) (.sl u8))
abbrev aC8(k:Nat):aY (List SV) Fl:=(aq (u5 k 0) (aq (u5 (k+1) 0) (ag (aC .i64) (ag jX (ag jX (ag (aC .i64) (aq aaS ae))))))).kB (fun x=>(x.1,x.2.1,x.2.2.1,x.2.2.2.1)) (fun y=>(y.1,y.2.1,y.2.2.1,y.2.2.2,())) (fun _=>rfl)
abbrev aoG:aY Ev.Item Fl:=oT 55 (aC8 2)
abbrev aHQ:aY Ev.Item Fl:=oT 55 (aC8 3)
abbrev Jn:Type:=(Int×Int)×Int×Int×Int×Bool×Int
abbrev aC9(p:Nat)(l:aY SV Unit):aY (List SV) Jn:=(aq (aU p 0) (ag (aC .i64) (ag (aC .i64) (aq l (ag (aC .i64) (ag (aC .i64) (ag (aC .i64) (ag jX (ag (aC .i64) ae))))))))).kB (fun x=>((x.1,x.2.1),x.2.2.1,x.2.2.2.1,x.2.2.2.2.1,x.2.2.2.2.2.1,x.2.2.2.2.2.2.1)) (fun y=>(y.1.1,y.1.2,y.2.1,y.2.2.1,y.2.2.2.1,y.2.2.2.2.1,y.2.2.2.2.2,())) (fun _=>rfl)
abbrev aDa(l:aY SV Unit):aY (List SV) Jn:=aC9 1 l
abbrev aHR:aY Ev.Item Jn:=oT 193 (aDa aaS)
abbrev aoH:aY Ev.Item Jn:=oT 193 (aDa (u5 4 0))
abbrev EY:aY Hp (Jn×Fl×List Int×List Int×Unit):=ag (eV aHR) (ag (eV aoG) (ag (eX 0 u8) (ag (eX 0 (.int .i64)) ae)))
abbrev JD:Type:=(List Int)×((Int×Int)×Int×Int×Int×Bool×Int)×(Int×Bool×Bool×Int)×(List Int)×(List Int)×(List (Int×
 Int×List Int))
abbrev JE:aY St JD:=(bg (aq (ah (aU (0) (0))) (ag (ah (fR false false (Ty.int IntKind.u8))) (jk 55 ae)))
 (ag (eV aoH) (ag (eV aoG) (ag (eX (0) (Ty.int IntKind.u8)) (ag (eX (0) (Ty.int i64)) (ag (eX (0) ((Ty.int
 i64).pair ((Ty.int i64).pair (Ty.int IntKind.u8).sl))) ae)))))).kB (fun y=>(y.1.1,y.2.1,y.2.2.1,y.2.2.2.1,y.2.2.2.2.1,
 y.2.2.2.2.2.1)) (fun x=>((x.1,()),(x.2.1,(x.2.2.1,(x.2.2.2.1,(x.2.2.2.2.1,(x.2.2.2.2.2,()))))))) (fun _=>rfl)
abbrev agK:List Wk:= [.dw 0 3 dK,.fr (cC 57 [(0,.al),(1,.al)]),.syms,.auto,.aE]
abbrev at8:Exit→List Wk:=w6 agK 0 [.dw 0 3 dK,.fr (cC 57 [(0,.al),(1,.al)]),.syms,.auto,.aE] [.dw 0 3 dK,.fr (cC 57
 []),.syms,.auto,.aE]
def rU(s:List Int)(j:(Int×Int)×Int×Int×Int×Bool×Int):List Int:=List.take ((↑s.length:Int)-
 j.snd.snd.snd.fst).toNat (List.drop j.snd.snd.snd.fst.toNat s)
abbrev agL:Type:=(List Int)×((Int×Int)×Int×Int×Int×Bool×Int)×(Int×Bool×Bool×Int)×(List Int)×(List Int)×(List (Int×
 Int×List Int))
abbrev at9(x:agL):Exit×St:=(Exit.exit 0,⟨(LV.one (VV.sc (SV.ptr 0 0))::(LV.one (VV.sc (SV.rd false false (Ty.int
 IntKind.u8) x.1))::(ir 55 []))),[some (aoH.wr x.2.1),some (aoG.wr x.2.2.1),some (Item.own 0 (Ty.int IntKind.u8) x.2.2.2.1),some (Item.own 0
 (Ty.int i64) x.2.2.2.2.1),some (Item.own 0 ((Ty.int i64).pair ((Ty.int i64).pair (Ty.int IntKind.u8).sl)) x.2.2.2.2.2)]⟩)
def JF(s:List Int)(j:(Int×Int)×Int×Int×Int×Bool×Int)(f:Int×Bool×Bool×Int)(b:List Int)(er:List Int)(l
 :List (Int×Int×List Int)):Tr (JD⊕(agL)):=(.need (0≤j.snd.snd.snd.fst∧j.snd.snd.snd.fst≤(↑s.length:Int)∧(↑s.length:Int)≤
 (↑s.length:Int)) (.need (xT (rU s j)) (.ite ((!(bP (rU s j)).snd.snd)==false) (.ite ((bP (rU s j)).fst.fst==1) (.ret (.inr
 (s,j,f,b,er,l))) (.need ((l.length+1)*40≤70368744177664∧l.length+1≤70368744177664) (.ret (.inl (s,(j.fst,j.snd.fst,j.snd.snd.fst,
 i64.wrap (j.snd.snd.snd.fst+(bP (rU s j)).snd.fst),j.snd.snd.snd.snd),f,b,er,l++ [(bP (rU s j)).fst]))))) (.ret (.inr (s,
 j,f,b,er,l))))))
theorem Xg(s':List Int)(j':Jn)(f':Fl)(b' w7:List Int)(s:List Int)(j:(Int×Int)×Int×Int×Int×Bool×Int)(f:Int×Bool×Bool×Int)(b:List Int)(er:List Int)(l:List (Int×Int×List Int)):cY Tryz.prog [(174,SH),(175,awX)] [] f126 0 ((EY).wr (j',f',b',w7,())) at8 (JE.wr (s,j,f,b,er,l))=(JF s j f b er l).res JE.wr at9:=by kernel_rfl
abbrev EZ(s:List Int)(j:(Int×Int)×Int×Int×Int×Bool×Int)(f:Int×Bool×Bool×Int)(b:List Int)(er:List Int)(l:List (Int×Int×List Int)):Prop:=ax s∧s.length≤1024∧0≤j.2.2.2.1∧j.2.2.2.1≤s.length∧l.length≤j.2.2.2.1
abbrev agM(s:List Int)(j:(Int×Int)×Int×Int×Int×Bool×Int)(f:Int×Bool×Bool×Int)(b:List Int)(er:List Int)(l:List (Int×Int×List Int)):agL:=(s,(j.1,j.2.1,j.2.2.1,j.2.2.2.1+(bZ s.length (s.drop j.2.2.2.1.toNat)).2,j.2.2.2.2),f,b,er,l++(bZ s.length (s.drop j.2.2.2.1.toNat)).1)
abbrev agN:JD→aW:=eS (fun x_=>EZ x_.1 x_.2.1 x_.2.2.1 x_.2.2.2.1 x_.2.2.2.2.1 x_.2.2.2.2.2) (fun x_=>agM x_.1 x_.2.1 x_.2.2.1 x_.2.2.2.1 x_.2.2.2.2.1 x_.2.2.2.2.2) at9
theorem aoI(s:List Int)(j:(Int×Int)×Int×Int×Int×Bool×Int)(f:Int×Bool×Bool×Int)(b:List Int)(er:List Int)(l:List (Int×Int×List Int))(h_:EZ s j f b er l):dV (fun x_:JD=>JF x_.1 x_.2.1 x_.2.2.1 x_.2.2.2.1 x_.2.2.2.2.1 x_.2.2.2.2.2) (s,j,f,b,er,l) (agM s j f b er l):=by
 delta agM;obtain⟨h1,h2,h3,h4,h5⟩:=h_;obtain⟨r,ep,cur,u,z⟩:=j;simp only at h3 h4 h5 ⊢;obtain⟨n,hn⟩:∃n:Nat,(s.drop u.toNat).length≤16*n:=⟨(s.drop u.toNat).length,by omega⟩;have hd:∀x:Int,(s.drop x.toNat).length=s.length-x.toNat:=fun x=>List.length_drop;rw[rT s.length n _ (by rw[hd];omega) hn]
 have e0:∀x:Int,0≤x→rU s (r,ep,cur,x,z)=s.drop x.toNat:=fun x hx=>by
  unfold rU;exact List.take_of_length_le (by rw[List.length_drop];simp only;omega)
 induction n generalizing u l with
 |zero=>
  have hk:¬ (bP (s.drop u.toNat)).2.2=true:=fun h=>by have:=kE h;omega
  refine .stop ?_;simp only[JF,e0 u h3,ai,aA,ak];have h6:=hd u;simp[hk,bZ];exact⟨by omega,h1.drop _,by omega⟩
 |succ n ih=>
  have h6:=hd u
  by_cases c:(bP (s.drop u.toNat)).2.2=true∧(bP (s.drop u.toNat)).1.1≠1
  ·have hk:=kE c.1;have h7:=hd (u+(bP (s.drop u.toNat)).2.1);have w:=ih (l++ [(bP (s.drop u.toNat)).1]) (u+(bP (s.drop u.toNat)).2.1) (by omega) (by omega) (by rw[List.length_append,List.length_singleton];omega) (by omega);rw[bZ,if_pos c,List.drop_drop,show u.toNat+(bP (s.drop u.toNat)).2.1.toNat=(u+(bP (s.drop u.toNat)).2.1).toNat by omega];rw[List.append_assoc,List.singleton_append,Int.add_assoc]at w;refine .go ?_ w;simp only[JF,e0 u h3,ai,aA,ak];have hw:i64.wrap (u+(bP (s.drop u.toNat)).2.1)=u+(bP (s.drop u.toNat)).2.1:=ar (by omega) (by omega);simp[c.1,c.2,hw];exact⟨by omega,⟨h1.drop _,by omega⟩,by omega⟩
  ·refine .stop ?_;rw[bZ,if_neg c];simp only[JF,e0 u h3,ai,aA,ak];refine⟨by omega,⟨h1.drop _,by omega⟩,?_⟩;simp;grind
theorem agO(s':List Int)(j':Jn)(f':Fl)(b' w7:List Int):∀x:JD,Ex Tryz.prog ((EY).wr (j',f',b',w7,())) (.loop (a9 f126 0)) (JE.wr x) (agN x):=
 cQ mixed ((aj Eu (aj ad7 aw))) (ws:=at8) (aJ.nil _) (fun x_=>Xg s' j' f' b' w7 x_.1 x_.2.1 x_.2.2.1 x_.2.2.2.1 x_.2.2.2.2.1 x_.2.2.2.2.2) (fun z e=>by cases e) eY (fun x_ h=>aoI x_.1 x_.2.1 x_.2.2.1 x_.2.2.2.1 x_.2.2.2.2.1 x_.2.2.2.2.2 h)
def JG(s:List Int):List Int:=List.take ((↑s.length:Int)-(16+(bZ s.length (List.drop 16 s)).snd)).toNat (List.drop (16
 +(bZ s.length (List.drop 16 s)).snd).toNat s)
abbrev aoJ:Type:=((Int×Int)×Int×Int×Int×Bool×Int)×(List (Int×Int×List Int))
abbrev aDb(x:aoJ):LV:=LV.cG []
abbrev aDc(x:aoJ):List (Nat×Ev.Item):= [(0,aoH.wr x.1),(4,Item.own 0 ((Ty.int i64).pair ((Ty.int i64).pair
 (Ty.int IntKind.u8).sl)) x.2)]
def axI(s:List Int)(j:(Int×Int)×Int×Int×Int×Bool×Int)(f:Int×Bool×Bool×Int)(b:List Int)(er:List Int):
 Tr (aoJ):=(.need (EZ s (j.fst,j.snd.fst,j.snd.snd.fst,16,j.snd.snd.snd.snd) f b er []) (.need ((0:Int)≤16+(bZ s.length (List.drop
 16 s)).snd∧16+(bZ s.length (List.drop 16 s)).snd≤(↑s.length:Int)∧(↑s.length:Int)≤(↑s.length:Int)) (.need (NO (JG s)) (.ret
 ((j.fst,j.snd.fst,j.snd.snd.fst,16+(bZ s.length (List.drop 16 s)).snd,!c7 (JG s),j.snd.snd.snd.snd.snd),[]++(bZ s.length
 (List.drop 16 s)).fst)))))
theorem agP(s:List Int)(j:Jn)(f:Fl)(b er:List Int):aN Tryz.prog [(174,SH),(175,awX)] [(0,cg JE ((EY).wr (j,f,b,er,())) agK (agN))] f126 (((aq (ah (aU 0 0)) (ag (ah (fR false false u8)) ae))).wr (s,())) ((EY).wr (j,f,b,er,())) [.fr [.sym],.syms,.auto,.aE]=(axI s j f b er).end aDb aDc ((EY).wr (j,f,b,er,())):=by kernel_rfl
theorem aoK(s:List Int)(j:Jn)(f:Fl)(b er:List Int):aJ Tryz.prog ((EY).wr (j,f,b,er,())) [(0,cg JE ((EY).wr (j,f,b,er,())) agK (agN))] (aD f126):=(aJ.bW (jc (by kernel_rfl) (ck (hp:=(EY).wr (j,f,b,er,())) (agO s j f b er)) jh))
def axJ(s:List Int)(j:Jn):Jn:=(j.1,j.2.1,j.2.2.1,16+(bZ s.length (s.drop 16)).2,!c7 (s.drop (16+(bZ s.length (s.drop 16)).2).toNat),j.2.2.2.2.2)
abbrev rV(s:List Int)(j:Jn)(f:Fl)(b er:List Int):Prop:=ax s∧s.length=1024
abbrev axK(s:List Int)(j:Jn)(f:Fl)(b er:List Int):aoJ:=(axJ s j,(bZ s.length (s.drop 16)).1)
def aDd:ao:=cd [none,some u8] ((aq (ah (aU 0 0)) (ag (ah (fR false false u8)) ae))) (EY) (fun x_ y_=>rV x_.1 y_.1 y_.2.1 y_.2.2.1 y_.2.2.2.1) (fun x_ y_=>axK x_.1 y_.1 y_.2.1 y_.2.2.1 y_.2.2.2.1) aDb aDc
theorem axL(s:List Int)(j:Jn)(f:Fl)(b er:List Int)(h_:rV s j f b er):(axI s j f b er).Is (axK s j f b er):=by
 delta axK;obtain⟨h1,h2⟩:=h_;have hp:=qg s.length (s.drop 16);rw[List.length_drop]at hp
 have e0:JG s=s.drop (16+(bZ s.length (s.drop 16)).2).toNat:=by
  unfold JG;exact List.take_of_length_le (by rw[List.length_drop];omega)
 have hb:(JG s).length≤1024:=by rw[e0,List.length_drop];omega
 simp only[axI,ai,ak,List.nil_append,axJ,e0];rw[e0]at hb;refine⟨⟨h1,by omega,by simp only;omega,by simp only;omega,by simp only[List.length_nil];omega⟩,by omega,?_,trivial⟩;show(_:Nat)<_;omega
theorem axM:aDd.Ok Tryz.prog 126:=
 br mixed ((aj Eu (aj ad7 aw))) func126 (by kernel_rfl) call126 (fun x_ y_=>aoK x_.1 y_.1 y_.2.1 y_.2.2.1 y_.2.2.2.1) (fun x_ y_=>agP x_.1 y_.1 y_.2.1 y_.2.2.1 y_.2.2.2.1) (fun x_ y_ h=>axL x_.1 y_.1 y_.2.1 y_.2.2.1 y_.2.2.2.1 h)
def o8(f:Int×Bool×Bool×Int):Int×Bool×Bool×Int:=f
def iK(r:Int×Int)(f:Int×Bool×Bool×Int)(b:List Int)(er:List Int):List Int×Int:=if f.snd.fst=true then([],
 5)else if(0:Int)≤0∧(0:Int)≤1024∧(1024:Int)≤1024*r.snd then(b8 b (1024*r.fst+0) 1024,0)else([],2)
def eC(r:Int×Int)(f:Int×Bool×Bool×Int)(b:List Int)(er:List Int):List Int×Int:=if f.snd.fst=true then([],
 5)else if(0:Int)≤1024∧(0:Int)≤1024∧(2048:Int)≤1024*r.snd then(b8 b (1024*r.fst+1024) 1024,0)else([],2)
abbrev agQ:Type:=Unit
abbrev Tt(x:agQ):LV:=LV.cG [VV.sc (SV.fO (Value.pointer none)),VV.sc (SV.int i64 (SI.lit 1))]
abbrev Tu(x:agQ):List (Nat×Ev.Item):= []
abbrev agR:Type:=Int
abbrev Tv(x:agR):LV:=LV.cG [VV.sc (SV.fO (Value.pointer none)),VV.sc (SV.int i64 (SI.sym x))]
abbrev Tw(x:agR):List (Nat×Ev.Item):= []
abbrev agS:Type:=Int×Int×Int×Int×Int×Bool×Int×(List (Int×Int×List Int))
abbrev Tx(x:agS):LV:=LV.cG [VV.sc (SV.ptr 3 0),VV.sc (SV.int i64 (SI.lit 0))]
abbrev Tz(x:agS):List (Nat×Ev.Item):= [(3,Item.bH [SV.ptr 0 0,SV.int i64 (SI.sym x.1),SV.int i64 (SI.sym
 x.2.1),SV.sl 4 0,SV.int i64 (SI.sym x.2.2.1),SV.int i64 (SI.sym x.2.2.2.1),SV.int i64 (SI.sym x.2.2.2.2.1),SV.bool (SB.sym
 x.2.2.2.2.2.1),SV.int i64 (SI.sym x.2.2.2.2.2.2.1)] 193),(4,Item.own 0 ((Ty.int i64).pair ((Ty.int i64).pair (Ty.int
 IntKind.u8).sl)) x.2.2.2.2.2.2.2)]
def Xh(r:Int×Int)(f:Int×Bool×Bool×Int)(b:List Int)(er:List Int):Tr (agQ⊕agR⊕agS):=(.need (kQ r
 (o8 f) b er) (.ite (1024*r.snd !=2048) (.ret (.inl ())) (.need (ik r 0 1024 (o8 f) b er) (.ite ((iK r f b er).snd !=0) (.ret (.inr
 (.inl ((iK r f b er).snd)))) (.need (rS (iK r f b er).fst) (.ite (decide (0<o7 (iK r f b er).fst)) (.need (ik r 1024 1024 (o8
 f) b er) (.ite ((eC r f b er).snd !=0) (.ret (.inr (.inl ((eC r f b er).snd)))) (.need (rS (eC r f b er).fst) (.ite (decide (o7 (iK r
 f b er).fst<o7 (eC r f b er).fst)) (.need (rV (eC r f b er).fst (r,o7 (eC r f b er).fst,1,0,false,0) (o8 f) b er) (.ret (.inr
 (.inr (r.fst,r.snd,o7 (eC r f b er).fst,1,16+(bZ (eC r f b er).fst.length (List.drop 16 (eC r f b er).fst)).snd,!c7 (List.drop
 (16+(bZ (eC r f b er).fst.length (List.drop 16 (eC r f b er).fst)).snd).toNat (eC r f b er).fst),0,(bZ (eC r f b er).fst.length
 (List.drop 16 (eC r f b er).fst)).fst))))) (.need (rV (iK r f b er).fst (r,o7 (iK r f b er).fst,0,0,false,0) (o8 f) b er) (.ret
 (.inr (.inr (r.fst,r.snd,o7 (iK r f b er).fst,0,16+(bZ (iK r f b er).fst.length (List.drop 16 (iK r f b er).fst)).snd,!c7
 (List.drop (16+(bZ (iK r f b er).fst.length (List.drop 16 (iK r f b er).fst)).snd).toNat (iK r f b er).fst),0,(bZ (iK r f b
 er).fst.length (List.drop 16 (iK r f b er).fst)).fst))))))))) (.need (ik r 1024 1024 (o8 f) b er) (.ite ((eC r f b er).snd !=0) (.ret
 (.inr (.inl ((eC r f b er).snd)))) (.need (rS (eC r f b er).fst) (.ite (decide (0<o7 (eC r f b er).fst)) (.need (rV (eC r f b
 er).fst (r,o7 (eC r f b er).fst,1,0,false,0) (o8 f) b er) (.ret (.inr (.inr (r.fst,r.snd,o7 (eC r f b er).fst,1,16+(bZ (eC
 r f b er).fst.length (List.drop 16 (eC r f b er).fst)).snd,!c7 (List.drop (16+(bZ (eC r f b er).fst.length (List.drop 16 (eC r f b
 er).fst)).snd).toNat (eC r f b er).fst),0,(bZ (eC r f b er).fst.length (List.drop 16 (eC r f b er).fst)).fst))))) (.ret (.inr (.inr
 (r.fst,r.snd,0,(-1),0,false,0,[]))))))))))))))
theorem agT(r:Int×Int)(f:Fl)(b er:List Int):aN Tryz.prog [(68,DQ),(21,tk),(125,aC7),(126,aDd)] [] f88 ((G7).wr (r,())) ((eP).wr (f,b,er,())) [.auto,.aE,.bH 3 [.al,.sym,.sym,.al,.sym,.sym,.sym,.sym,.sym],.dw 3 3 dK]=(Xh r f b er).end (Sum.elim Tt (Sum.elim Tv Tx)) (Sum.elim Tu (Sum.elim Tw Tz)) ((eP).wr (f,b,er,())):=by kernel_rfl
theorem aoL(r:Int×Int)(f:Fl)(b er:List Int):aJ Tryz.prog ((eP).wr (f,b,er,())) [] (aD f88):=(aJ.nil _)
abbrev dD(b:List Int)(r:Int×Int)(s:Int):List Int:=b8 b (1024*r.1+1024*s) 1024
def xq(s0 s1:List Int):Int×Int:=if 0<o7 s0 then(if o7 s0<o7 s1 then(1,o7 s1)else(0,o7 s0))else if 0<o7 s1 then(1,o7 s1)else(-1,0)
def bn(b:List Int)(r:Int×Int):Jn×List dK.D:=
 if(xq (dD b r 0) (dD b r 1)).1= -1 then((r,0,-1,0,false,0),[])
 else(axJ (dD b r (xq (dD b r 0) (dD b r 1)).1) (r,(xq (dD b r 0) (dD b r 1)).2,(xq (dD b r 0) (dD b r 1)).1,0,false,0),(bZ (dD b r (xq (dD b r 0) (dD b r 1)).1).length ((dD b r (xq (dD b r 0) (dD b r 1)).1).drop 16)).1)
def vR(x:Jn×List dK.D):Int×Int×Int×Int×Int×Bool×Int×List dK.D:=(x.1.1.1,x.1.1.2,x.1.2.1,x.1.2.2.1,x.1.2.2.2.1,x.1.2.2.2.2.1,x.1.2.2.2.2.2,x.2)
abbrev ld(r:Int×Int)(f:Fl)(b er:List Int):Prop:=jZ b er∧ax b∧xl r er
def aDe:ao:=ao.cH [] (G7) (eP) fun x_ y_=>.ite ((fun(r:Int×Int) (f:Fl) (b er:List Int)=>decide (r.2≠2)) x_.1 y_.1 y_.2.1 y_.2.2.1) (.leaf (some ((fun(r:Int×Int) (f:Fl) (b er:List Int)=>ld r f b er) x_.1 y_.1 y_.2.1 y_.2.2.1)) (Tt ((fun(r:Int×Int) (f:Fl) (b er:List Int)=>()) x_.1 y_.1 y_.2.1 y_.2.2.1)) (Tu ((fun(r:Int×Int) (f:Fl) (b er:List Int)=>()) x_.1 y_.1 y_.2.1 y_.2.2.1))) (.ite ((fun(r:Int×Int) (f:Fl) (b er:List Int)=>f.2.1) x_.1 y_.1 y_.2.1 y_.2.2.1) (.leaf (some ((fun(r:Int×Int) (f:Fl) (b er:List Int)=>ld r f b er) x_.1 y_.1 y_.2.1 y_.2.2.1)) (Tv ((fun(r:Int×Int) (f:Fl) (b er:List Int)=>5) x_.1 y_.1 y_.2.1 y_.2.2.1)) (Tw ((fun(r:Int×Int) (f:Fl) (b er:List Int)=>5) x_.1 y_.1 y_.2.1 y_.2.2.1))) (.leaf (some ((fun(r:Int×Int) (f:Fl) (b er:List Int)=>ld r f b er) x_.1 y_.1 y_.2.1 y_.2.2.1)) (Tx ((fun(r:Int×Int) (f:Fl) (b er:List Int)=>vR (bn b r)) x_.1 y_.1 y_.2.1 y_.2.2.1)) (Tz ((fun(r:Int×Int) (f:Fl) (b er:List Int)=>vR (bn b r)) x_.1 y_.1 y_.2.1 y_.2.2.1))))
theorem OD(r:Int×Int)(f:Fl)(b er:List Int)(h_:ld r f b er):((decide (r.2≠2))=true→(Xh r f b er).Is (.inl (())))∧((decide (r.2≠2))=false→(f.2.1)=true→(Xh r f b er).Is (.inr (.inl (5))))∧((decide (r.2≠2))=false→(f.2.1)=false→(Xh r f b er).Is (.inr (.inr (vR (bn b r))))):=by
 obtain⟨h1,h2,h3⟩:=h_;have hs:kQ r (o8 f) b er:=⟨by omega,by omega⟩;have hr:∀x y,ik r x y (o8 f) b er:=fun _ _=>⟨h1,h3⟩;simp only[Xh,ai,aG,ay,ak]
 refine⟨fun c=>⟨hs,fun e=>absurd e (by have:r.2≠2:=by simpa using c
                                       omega),fun _=>trivial⟩,fun c c2=>?_,fun c c2=>?_⟩
 all_goals have c':r.2=2:=by simpa using c
 all_goals refine⟨hs,fun _=>?_,fun h=>absurd (by omega) h⟩
 ·have e8:iK r f b er=([],5):=by unfold iK;rw[if_pos c2]
  rw[e8];exact⟨hr _ _,fun h=>by simp at h,fun _=>rfl⟩
 ·have e8:iK r f b er=(dD b r 0,0):=by unfold iK;rw[if_neg (by rw[c2];decide),if_pos (by omega)];rfl
  have e9:eC r f b er=(dD b r 1,0):=by unfold eC;rw[if_neg (by rw[c2];decide),if_pos (by omega)];rfl
  have l0:(dD b r 0).length=1024:=by have:=iF (b:=b) (p:=1024*r.1+1024*0) (m:=1024) (by omega);show(b8 _ _ _).length=_;omega
  have l1:(dD b r 1).length=1024:=by have:=iF (b:=b) (p:=1024*r.1+1024*1) (m:=1024) (by omega);show(b8 _ _ _).length=_;omega
  have a0:=ny h2 (1024*r.1+1024*0) 1024;have a1:=ny h2 (1024*r.1+1024*1) 1024;have q0:rS (dD b r 0):=⟨a0,by show(_:Nat)<_;omega⟩;have q1:rS (dD b r 1):=⟨a1,by show(_:Nat)<_;omega⟩;have d0:∀j,rV (dD b r 0) j (o8 f) b er:=fun _=>⟨a0,l0⟩;have d1:∀j,rV (dD b r 1) j (o8 f) b er:=fun _=>⟨a1,l1⟩;rw[e8,e9];unfold bn xq;clear e8 e9 l0 l1 a0 a1 hs h1 h2 h3
  by_cases k0:0<o7 (dD b r 0)
  ·by_cases k1:o7 (dD b r 0)<o7 (dD b r 1)
   ·simp only[if_pos k0,if_pos k1];exact⟨hr _ _,fun _=>⟨q0,fun _=>⟨hr _ _,fun _=>⟨q1,fun _=>⟨d1 _,rfl⟩,fun h=>absurd k1 h⟩,fun h=>absurd rfl h⟩,fun h=>absurd k0 h⟩,fun h=>absurd rfl h⟩
   ·simp only[if_pos k0,if_neg k1];exact⟨hr _ _,fun _=>⟨q0,fun _=>⟨hr _ _,fun _=>⟨q1,fun h=>absurd h k1,fun _=>⟨d0 _,rfl⟩⟩,fun h=>absurd rfl h⟩,fun h=>absurd k0 h⟩,fun h=>absurd rfl h⟩
  ·by_cases k1:0<o7 (dD b r 1)
   ·simp only[if_neg k0,if_pos k1];exact⟨hr _ _,fun _=>⟨q0,fun h=>absurd h k0,fun _=>⟨hr _ _,fun _=>⟨q1,fun _=>⟨d1 _,rfl⟩,fun h=>absurd k1 h⟩,fun h=>absurd rfl h⟩⟩,fun h=>absurd rfl h⟩
   ·simp only[if_neg k0,if_neg k1];exact⟨hr _ _,fun _=>⟨q0,fun h=>absurd h k0,fun _=>⟨hr _ _,fun _=>⟨q1,fun h=>absurd h k1,fun _=>rfl⟩,fun h=>absurd rfl h⟩⟩,fun h=>absurd rfl h⟩
theorem axN:aDe.Ok Tryz.prog 88:=by
 refine zx (tys:= []) (A:=G7) (H:=eP) (LT:=fun x_ y_=>(fun(r:Int×Int) (f:Fl) (b er:List Int)=> []) x_.1 y_.1 y_.2.1 y_.2.2.1) (ks:= [.auto,.aE,.bH 3 [.al,.sym,.sym,.al,.sym,.sym,.sym,.sym,.sym],.dw 3 3 dK]) (V:=Sum.elim Tt (Sum.elim Tv Tx)) (D:=Sum.elim Tu (Sum.elim Tw Tz)) (T:=fun x_ y_=>Xh x_.1 y_.1 y_.2.1 y_.2.2.1) (out:=fun x_ y_=>.ite ((fun(r:Int×Int) (f:Fl) (b er:List Int)=>decide (r.2≠2)) x_.1 y_.1 y_.2.1 y_.2.2.1) (.leaf (some ((fun(r:Int×Int) (f:Fl) (b er:List Int)=>ld r f b er) x_.1 y_.1 y_.2.1 y_.2.2.1)) (Tt ((fun(r:Int×Int) (f:Fl) (b er:List Int)=>()) x_.1 y_.1 y_.2.1 y_.2.2.1)) (Tu ((fun(r:Int×Int) (f:Fl) (b er:List Int)=>()) x_.1 y_.1 y_.2.1 y_.2.2.1))) (.ite ((fun(r:Int×Int) (f:Fl) (b er:List Int)=>f.2.1) x_.1 y_.1 y_.2.1 y_.2.2.1) (.leaf (some ((fun(r:Int×Int) (f:Fl) (b er:List Int)=>ld r f b er) x_.1 y_.1 y_.2.1 y_.2.2.1)) (Tv ((fun(r:Int×Int) (f:Fl) (b er:List Int)=>5) x_.1 y_.1 y_.2.1 y_.2.2.1)) (Tw ((fun(r:Int×Int) (f:Fl) (b er:List Int)=>5) x_.1 y_.1 y_.2.1 y_.2.2.1))) (.leaf (some ((fun(r:Int×Int) (f:Fl) (b er:List Int)=>ld r f b er) x_.1 y_.1 y_.2.1 y_.2.2.1)) (Tx ((fun(r:Int×Int) (f:Fl) (b er:List Int)=>vR (bn b r)) x_.1 y_.1 y_.2.1 y_.2.2.1)) (Tz ((fun(r:Int×Int) (f:Fl) (b er:List Int)=>vR (bn b r)) x_.1 y_.1 y_.2.1 y_.2.2.1))))) mixed ((aj BY (aj p9 (aj axH (aj axM aw))))) func88 (by kernel_rfl) call88 (fun x_ y_=>aoL x_.1 y_.1 y_.2.1 y_.2.2.1) (fun x_ y_=>agT x_.1 y_.1 y_.2.1 y_.2.2.1) (fun x_ y_ Q_ h_=>?_)
 cases ou:(fun(r:Int×Int) (f:Fl) (b er:List Int)=>decide (r.2≠2)) x_.1 y_.1 y_.2.1 y_.2.2.1 with
 |true=>exact⟨_,(OD x_.1 y_.1 y_.2.1 y_.2.2.1 (h_.1 ou).1).1 ou,(h_.1 ou).2⟩
 |false=>
  have yd:=h_.2 ou
  cases qh:(fun(r:Int×Int) (f:Fl) (b er:List Int)=>f.2.1) x_.1 y_.1 y_.2.1 y_.2.2.1 with
  |true=>exact⟨_,(OD x_.1 y_.1 y_.2.1 y_.2.2.1 (yd.1 qh).1).2.1 ou qh,(yd.1 qh).2⟩
  |false=>exact⟨_,(OD x_.1 y_.1 y_.2.1 y_.2.2.1 (yd.2 qh).1).2.2 ou qh,(yd.2 qh).2⟩
end Go.Proofs.YtcbjpiangpjbgaaGreat
end
noncomputable section
namespace Go.Proofs.YtcbjpiangpjbgaaGreat
open Go Go.Ev Go.Lib Go.RowKit Go.Proofs.Tryz
open Go.IntKind (i64 signed u32 u64 wrap wrap_u32)
set_option maxHeartbeats 4000000
set_option maxRecDepth 1000000
theorem agU{β:Env}(w:World)(a:Addr)(n c:Nat)(l:List dK.D)(qP:da β w (.slice (some a) n c) dK l)(hb:l.length≤1000000):
  Calls Tryz.prog 178 #[.slice (some a) n c] w fun e w'=>∃v',e= .returned v'∧da β w' v' dK l∧w.heap.size≤w'.heap.size∧w'.os=w.os∧w'.output=w.output∧
   (∀b,b<w.heap.size→w'.heap[b]? =w.heap[b]?)∧(∀a n c,v'= .slice (some a) n c→0<c→w.heap.size≤a.block):=by
 have hold:∀b,b<w.heap.size→(w.alloc (.cells #[] 196)).heap[b]? =w.heap[b]? :=fun b hb=>heap_alloc_old w _ hb;have ZU:(w.alloc (.cells #[] 196)).heap.size=w.heap.size+1:=Array.size_push ..;have aDf:da β (w.alloc (.cells #[] 196)) (.slice (some a) n c) dK l:=qP.of (fun _ _ _ _ h=>h) fun a' n' c' e h0=>hold _ (qP.lt e h0);have sS:da β (w.alloc (.cells #[] 196)) (.slice (some ⟨w.heap.size,0,none⟩) 0 0) dK []:=⟨_,0,0,rfl,rfl,Nat.le_refl _,fun e=>(by cases e),fun h=>absurd h (by omega)⟩;obtain⟨e,hu⟩:∃e,Tryz.prog.underlying 148=some (.slice e):=⟨196,by kernel_rfl⟩;have hu':=hu;obtain⟨news,vn,jT⟩:=BD hu aDf.reads;obtain⟨z,hz,Vc⟩:∃z,mC Tryz.prog 196=some z∧wL z=dK.w:=⟨[.int .i64 (.lit 0),.int .i64 (.lit 0),.fO (.slice none 0 0)],by kernel_rfl,by kernel_rfl⟩
 have et:∀ty,∃v' w',(Builtin.append_ #[148,148] ty #[.slice (some ⟨w.heap.size,0,none⟩) 0 0,.slice (some a) n c]).run Tryz.prog (w.alloc (.cells #[] 196))= .ok v' w'∧_:=
  fun ty=>rC (ty_:=ty) (el:=196) (by kernel_rfl) (by kernel_rfl) (by decide) hz Vc (by_:=40) (by kernel_rfl) sS vn jT (by simp only[List.length_nil];omega) (by simp only[List.length_nil];omega)
 obtain⟨v',w',h1,h2,h3,h4,h5,h6,h7⟩:=et 148;rw[List.nil_append]at h2
 have fin:da β w' v' dK l∧w.heap.size≤w'.heap.size∧w'.os=w.os∧w'.output=w.output∧(∀b,b<w.heap.size→w'.heap[b]? =w.heap[b]?)∧(∀a n c,v'= .slice (some a) n c→0<c→w.heap.size≤a.block):=
  ⟨h2,by omega,h4,h5,fun b hb=>(h6 b (by omega) (by rintro⟨_,_,_,e,h,_⟩;cases e;omega)).trans (hold b hb),fun a n c e h0=>(h7 a n c e h0).elim (fun⟨_,_,e,h⟩=>by cases e;omega) fun h=>by omega⟩
 clear et h2 h3 h4 h5 h6 h7 aDf sS vn jT qP hold hz hu
 go_enter func178,ntmps178
 have hq:∀w,(binOp .eql 148 (.slice (some a) n c) (.slice none 0 0)).run Tryz.prog w= .ok (.bool false) w:=fun w=>by
  first|rfl|simp[binOp,Op.intArith,Op.intBits,Op.intCmp,hu']
 go_wp2_with (at_builtin;refine Lib.wpList_append_run _ rfl _ _ _ _ rfl _ _ rfl rfl _ _ h1 ?_)
 go_ret
 exact⟨v',rfl,fin⟩
abbrev vS:aY Hp (List dK.D×Unit):=ag (eX 0 dK) ae
abbrev axO:aY (List LV) Unit:=aq (ah (u5 0 0)) ae
def axP:ao:=ao.cH [] axO vS fun x y=>.leaf (some (y.1.length≤1000000)) (.one (.sc (.sl 1 0))) [(1,.own 0 dK y.1)]
theorem agV:aN Tryz.prog [] [] f178 [.one (.sc (.fO (.slice none 0 0)))] (vS.wr ([],())) [.mO 0 dK]=
 End.leaf (LV.one (VV.sc (SV.sl (1:Nat) (0:Nat)))) [some (Item.own (0:Nat) ((Ty.int i64).pair ((Ty.int i64).pair (Ty.int
 IntKind.u8).sl)) []),some (Item.own (0:Nat) ((Ty.int i64).pair ((Ty.int i64).pair (Ty.int IntKind.u8).sl)) [])]:=by kernel_rfl
theorem agW:axP.Ok Tryz.prog 178:=by
 refine(ao.ba call178 fun x y Q h=>?_).sym;obtain⟨l,_⟩:=y;obtain⟨hl,hq⟩:=h;have hl:l.length≤1000000:=hl;intro β w vals hh eA
 cases eA with
 |cons a1 t1=>
  cases t1
  rename_i v;obtain⟨_,c0,hk,_,hv⟩:=(a1:SV.den β _ (.sl 0 0) v)
  have hc:c0=0:=by
   have:kd (vS.wr (l,())) 0=some (.own 0):=rfl;rw[this]at hk;cases hk;rfl
  subst hc;have hv:=hv rfl;subst hv;have qP:da β w (β.h 0) dK l:=hh.items 0 (.own 0 dK l) rfl;obtain⟨a,n,c,e,hn,hc,hz,_⟩:=id qP;rw[e]at qP ⊢
  cases a with
  |none=>
   have Rh:=hz rfl;subst Rh;have xB:n=0:=(by omega);subst xB;have Ma:l= []:=List.eq_nil_of_length_eq_zero hn.symm;subst Ma;have key:gI Tryz.prog 178 [.one (.sc (.fO (.slice none 0 0)))] (vS.wr ([],())) _:=au mixed aw func178 rfl (LT:= []) (ks:= [.mO 0 dK]) (aJ.nil _);rw[agV]at key;exact(key.use (D:= [(1,.own 0 dK [])]) ⟨rfl,rfl⟩ hq) β w _ hh (.cons ⟨rfl,rfl⟩ .nil)
  |some a=>
   refine(agU w a n c l qP hl).mono ?_
   rintro e' w' ⟨v',rfl,h2,h3,h4,h5,h6,h7⟩
   obtain⟨β',k1,k2,k3⟩:=hh.oL (id:=1) rfl (v:=v') (ver:=0) (t:=dK) (l:=l) (w':=w') h3 h4 h5 h6 h2 h7;refine⟨v',β',_,_,rfl,⟨_,hq,rfl⟩,⟨?_,0,?_,Nat.le_refl _,fun _=>k3.symm⟩,k1⟩
   ·obtain⟨_,_,_,rfl,_⟩:=h2;rfl
   ·show kd (setAt _ 1 _) 1=_;rw[dt,if_pos rfl];rfl
abbrev JH:Type:=Int×Int×(List (Int×Int×List Int))×(List (Int×Int×List Int))
abbrev JI:aY St JH:=(bg (aq (ah (u5 (1) (0))) (jk 6 (ag (ah (aC i64)) (ag (ah (aC i64))
 (jk 14 ae))))) (ag (eX (0) ((Ty.int i64).pair ((Ty.int i64).pair (Ty.int IntKind.u8).sl))) (ag (eX (0) ((Ty.int
 i64).pair ((Ty.int i64).pair (Ty.int IntKind.u8).sl))) ae))).kB (fun y=>(y.1.1,y.1.2.1,y.2.1,y.2.2.1)) (fun x=>((x.1,(x.2.1,
 ())),(x.2.2.1,(x.2.2.2,())))) (fun _=>rfl)
abbrev agX:List Wk:= [.fr (cC 23 [(0,.al),(7,.al),(8,.al)]),.syms,.auto,.aE]
abbrev aua:Exit→List Wk:=w6 agX 0 [.fr (cC 23 [(0,.al)]),.syms,.auto,.aE] [.fr (cC 23 [(2,.al)]),.syms,.auto,.aE]
abbrev agY:Type:=(List (Int×Int×List Int))×(List (Int×Int×List Int))
abbrev aub(x:agY):Exit×St:=(Exit.exit 0,⟨(LV.one (VV.sc (SV.sl 1 0))::(ir 22 [])),[some (Item.own 0 ((Ty.int
 i64).pair ((Ty.int i64).pair (Ty.int IntKind.u8).sl)) x.1),some (Item.own 0 ((Ty.int i64).pair ((Ty.int i64).pair
 (Ty.int IntKind.u8).sl)) x.2)]⟩)
def TA(n:Int)(i:Int)(k:List (Int×Int×List Int))(l:List (Int×Int×List Int)):Tr (JH⊕(agY)):=(.ite (decide
 (i<n)) (.need (0≤i∧i<(↑l.length:Int)) (.need (List.length (l.getD i.toNat (0,0,[])).snd.snd≤70368744177664) (.need (0≤i∧i<
 (↑l.length:Int)) (.ret (.inl (n,i64.wrap (i+1),k,l.set i.toNat (l.getD i.toNat (0,0,[])))))))) (.ret (.inr (k,l))))
theorem Xi(l':List dK.D)(n:Int)(i:Int)(k:List (Int×Int×List Int))(l:List (Int×Int×List Int)):cY Tryz.prog [(178,axP),(92,rK)] [] f128 0 ((vS).wr (l',())) aua (JI.wr (n,i,k,l))=(TA n i k l).res JI.wr aub:=by kernel_rfl
theorem agZ{α:Type}(l:List α)(k:Nat)(z:α):l.set k (l.getD k z)=l:=by
 apply List.ext_getElem?
 intro i;rw[List.getElem?_set]
 split
 ·rename_i h;subst h
  split
  ·rename_i h;rw[List.getD_eq_getElem?_getD,List.getElem?_eq_getElem h];rfl
  ·rename_i h;rw[List.getElem?_eq_none (by omega)]
 ·rfl
abbrev E0(n:Int)(i:Int)(k:List (Int×Int×List Int))(l:List (Int×Int×List Int)):Prop:=0≤i∧i≤n∧n=l.length∧n<1099511627776∧nF l
abbrev ag0(n:Int)(i:Int)(k:List (Int×Int×List Int))(l:List (Int×Int×List Int)):agY:=(k,l)
abbrev ag1:JH→aW:=eS (fun x_=>E0 x_.1 x_.2.1 x_.2.2.1 x_.2.2.2) (fun x_=>ag0 x_.1 x_.2.1 x_.2.2.1 x_.2.2.2) aub
theorem aoM(n:Int)(i:Int)(k:List (Int×Int×List Int))(l:List (Int×Int×List Int))(h_:E0 n i k l):dV (fun x_:JH=>TA x_.1 x_.2.1 x_.2.2.1 x_.2.2.2) (n,i,k,l) (ag0 n i k l):=by
 delta ag0;obtain⟨h1,h2,rfl,h4,h5⟩:=h_;obtain⟨j,hj⟩:∃j:Nat,(l.length:Int)-i=j:=⟨((l.length:Int)-i).toNat,by omega⟩
 induction j generalizing i with
 |zero=>
  refine .stop ?_;have c:¬i<(l.length:Int):=by omega
  simp[TA,c,aA,ak]
 |succ j ih=>
  have c:i<(l.length:Int):=by omega
  have hx:=(h5 i.toNat (by omega)).2;refine .go ?_ (ih (i+1) (by omega) (by omega) (by omega));simp only[TA,ay,ai,ak,agZ];exact⟨fun _=>⟨by omega,by omega,by omega,by rw[ar (by omega) (by omega)]⟩,fun h=>absurd c h⟩
theorem ag2(l':List dK.D):∀x:JH,Ex Tryz.prog ((vS).wr (l',())) (.loop (a9 f128 0)) (JI.wr x) (ag1 x):=
 cQ mixed ((aj agW (aj mP aw))) (ws:=aua) (aJ.nil _) (fun x_=>Xi l' x_.1 x_.2.1 x_.2.2.1 x_.2.2.2) (fun z e=>by cases e) eY (fun x_ h=>aoM x_.1 x_.2.1 x_.2.2.1 x_.2.2.2 h)
abbrev aoN:Type:=List (Int×Int×List Int)
abbrev aDg(x:aoN):LV:=LV.one (VV.sc (SV.sl 1 0))
abbrev aDh(x:aoN):List (Nat×Ev.Item):= [(1,Item.own 0 ((Ty.int i64).pair ((Ty.int i64).pair (Ty.int
 IntKind.u8).sl)) x)]
def axQ(l:List (Int×Int×List Int)):Tr (aoN):=(.need (l.length≤1000000) (.need (E0 (↑l.length:Int) 0 l l) (.ret
 (l))))
theorem ag3(l:List dK.D):aN Tryz.prog [(178,axP),(92,rK)] [(0,cg JI ((vS).wr (l,())) agX (ag1))] f128 ((axO).wr (())) ((vS).wr (l,())) [.fr [.sym],.syms,.auto,.aE]=(axQ l).end aDg aDh ((vS).wr (l,())):=by kernel_rfl
theorem aoO(l:List dK.D):aJ Tryz.prog ((vS).wr (l,())) [(0,cg JI ((vS).wr (l,())) agX (ag1))] (aD f128):=(aJ.bW (jc (by kernel_rfl) (ck (hp:=(vS).wr (l,())) (ag2 l)) jh))
abbrev OE(l:List dK.D):Prop:=nF l∧l.length≤1000000
abbrev axR(l:List dK.D):aoN:=l
def aDi:ao:=cd [] (axO) (vS) (fun x_ y_=>OE y_.1) (fun x_ y_=>axR y_.1) aDg aDh
theorem axS(l:List dK.D)(h_:OE l):(axQ l).Is (axR l):=by
 delta axR;obtain⟨h1,h2⟩:=h_;simp only[axQ,ai,ak];exact⟨h2,⟨by omega,by omega,rfl,by omega,h1⟩,trivial⟩
theorem axT:aDi.Ok Tryz.prog 128:=
 br mixed ((aj agW (aj mP aw))) func128 (by kernel_rfl) call128 (fun x_ y_=>aoO y_.1) (fun x_ y_=>ag3 y_.1) (fun x_ y_ h=>axS y_.1 h)
abbrev aoP:aY Hp (Jn×Fl×List Int×List Int×List dK.D×Unit):=ag (eV aoH) (ag (eV aoG) (ag (eX 0 u8) (ag (eX 0 (.int .i64)) (ag (eX 0 dK) ae))))
abbrev E1:Type:=List (Int×Int×List Int)
abbrev ag4(x:E1):LV:=LV.one (VV.sc (SV.sl 5 0))
abbrev ag5(x:E1):List (Nat×Ev.Item):= [(5,Item.own 0 ((Ty.int i64).pair ((Ty.int i64).pair (Ty.int
 IntKind.u8).sl)) x)]
def OF(j:(Int×Int)×Int×Int×Int×Bool×Int)(f:Int×Bool×Bool×Int)(b:List Int)(er:List Int)(l:List (Int×
 Int×List Int)):Tr (E1):=(.need (OE l) (.ret (l)))
theorem OG(j:Jn)(f:Fl)(b er:List Int)(l:List dK.D):aN Tryz.prog [(128,aDi)] [] f90 (((aq (ah (aU 0 0)) ae)).wr (())) ((aoP).wr (j,f,b,er,l,())) [.fr [.sym],.syms,.auto,.aE]=(OF j f b er l).end ag4 ag5 ((aoP).wr (j,f,b,er,l,())):=by kernel_rfl
theorem Xj(j:Jn)(f:Fl)(b er:List Int)(l:List dK.D):aJ Tryz.prog ((aoP).wr (j,f,b,er,l,())) [] (aD f90):=(aJ.nil _)
abbrev tJ(j:Jn)(f:Fl)(b er:List Int)(l:List dK.D):Prop:=nF l∧l.length≤1000000
abbrev OH(j:Jn)(f:Fl)(b er:List Int)(l:List dK.D):E1:=l
def ag6:ao:=cd [] ((aq (ah (aU 0 0)) ae)) (aoP) (fun x_ y_=>tJ y_.1 y_.2.1 y_.2.2.1 y_.2.2.2.1 y_.2.2.2.2.1) (fun x_ y_=>OH y_.1 y_.2.1 y_.2.2.1 y_.2.2.2.1 y_.2.2.2.2.1) ag4 ag5
theorem ag7(j:Jn)(f:Fl)(b er:List Int)(l:List dK.D)(h_:tJ j f b er l):(OF j f b er l).Is (OH j f b er l):=by
 delta OH;simp only[OF,ai,ak];exact⟨h_,trivial⟩
theorem ag8:ag6.Ok Tryz.prog 90:=
 br mixed ((aj axT aw)) func90 (by kernel_rfl) call90 (fun x_ y_=>Xj y_.1 y_.2.1 y_.2.2.1 y_.2.2.2.1 y_.2.2.2.2.1) (fun x_ y_=>OG y_.1 y_.2.1 y_.2.2.1 y_.2.2.2.1 y_.2.2.2.2.1) (fun x_ y_ h=>ag7 y_.1 y_.2.1 y_.2.2.1 y_.2.2.2.1 y_.2.2.2.2.1 h)
abbrev jLg(j:Nat):aY Ev.Item Sg:=oT 151 ((aq (aU j 0) cSg))
def o9(f:Int×Bool×Bool×Int):Int×Bool×Bool×Int:=f
def cx(r:Int×Int)(b:List Int):(Int×Int×Int×Int×List Int)×Bool×Int×Int×Int×Int×List Int×List Int:=
 bE iZ (vR (bn b r)).snd.snd.snd.snd.snd.snd.snd
abbrev z5:Type:=Unit
abbrev tK(x:z5):LV:=LV.cG [VV.sc (SV.fO (Value.pointer none)),VV.sc (SV.int i64 (SI.lit 1))]
abbrev tL(x:z5):List (Nat×Ev.Item):= []
abbrev z6:Type:=Int
abbrev tM(x:z6):LV:=LV.cG [VV.sc (SV.fO (Value.pointer none)),VV.sc (SV.int i64 (SI.sym x))]
abbrev tN(x:z6):List (Nat×Ev.Item):= []
abbrev tO:Type:=Int×Int×Int×Int×(List Int)×Bool×Int×Int×Int×Int×(List Int)×(List Int)×Int×Int×Int×Int×Int×
 Bool×Int×(List (Int×Int×List Int))
abbrev tP(x:tO):LV:=LV.cG [VV.sc (SV.ptr 3 0),VV.sc (SV.int i64 (SI.lit 0))]
abbrev tQ(x:tO):List (Nat×Ev.Item):= [(3,Item.bH [SV.ptr 4 0,SV.int i64 (SI.sym x.1),SV.int u64
 (SI.sym x.2.1),SV.int u64 (SI.sym x.2.2.1),SV.int i64 (SI.sym x.2.2.2.1),SV.arr (Ty.int IntKind.u8) 64 x.2.2.2.2.1,SV.bool (SB.sym
 x.2.2.2.2.2.1),SV.int i64 (SI.sym x.2.2.2.2.2.2.1),SV.int i64 (SI.sym x.2.2.2.2.2.2.2.1),SV.int i64 (SI.sym
 x.2.2.2.2.2.2.2.2.1),SV.int i64 (SI.sym x.2.2.2.2.2.2.2.2.2.1),SV.arr (Ty.int IntKind.u8) 8 x.2.2.2.2.2.2.2.2.2.2.1,SV.rd true false (Ty.int
 IntKind.u8) x.2.2.2.2.2.2.2.2.2.2.2.1] 151),(4,Item.bH [SV.ptr 0 0,SV.int i64 (SI.sym x.2.2.2.2.2.2.2.2.2.2.2.2.1),SV.int i64
 (SI.sym x.2.2.2.2.2.2.2.2.2.2.2.2.2.1),SV.sl 5 0,SV.int i64 (SI.sym x.2.2.2.2.2.2.2.2.2.2.2.2.2.2.1),SV.int i64 (SI.sym
 x.2.2.2.2.2.2.2.2.2.2.2.2.2.2.2.1),SV.int i64 (SI.sym x.2.2.2.2.2.2.2.2.2.2.2.2.2.2.2.2.1),SV.bool (SB.sym
 x.2.2.2.2.2.2.2.2.2.2.2.2.2.2.2.2.2.1),SV.int i64 (SI.sym x.2.2.2.2.2.2.2.2.2.2.2.2.2.2.2.2.2.2.1)] 193),(5,Item.own 0 ((Ty.int
 i64).pair ((Ty.int i64).pair (Ty.int IntKind.u8).sl)) x.2.2.2.2.2.2.2.2.2.2.2.2.2.2.2.2.2.2.2)]
def lN(r:Int×Int)(f:Int×Bool×Bool×Int)(b:List Int)(er:List Int):Tr (z5⊕z6⊕tO):=(.ite
 (decide ¬r.snd=2) (.need (ld r (o9 f) b er) (.ret (.inl ()))) (.ite (f.snd.fst) (.need (ld r (o9 f) b er) (.ite ((5:Int)!=0)
 (.ret (.inr (.inl (5)))) .fail)) (.need (ld r (o9 f) b er) (.need (tJ (((vR (bn b r)).fst,(vR (bn b r)).snd.fst),(vR (bn b
 r)).snd.snd.fst,(vR (bn b r)).snd.snd.snd.fst,(vR (bn b r)).snd.snd.snd.snd.fst,(vR (bn b r)).snd.snd.snd.snd.snd.fst,(vR (bn b
 r)).snd.snd.snd.snd.snd.snd.fst) (o9 f) b er (vR (bn b r)).snd.snd.snd.snd.snd.snd.snd) (.need (yc (vR (bn b
 r)).snd.snd.snd.snd.snd.snd.snd) (.ret (.inr (.inr ((cx r b).fst.fst,(cx r b).fst.snd.fst,(cx r b).fst.snd.snd.fst,(cx r
 b).fst.snd.snd.snd.fst,(cx r b).fst.snd.snd.snd.snd,(cx r b).snd.fst,(cx r b).snd.snd.fst,(cx r b).snd.snd.snd.fst,
 (cx r b).snd.snd.snd.snd.fst,(cx r b).snd.snd.snd.snd.snd.fst,(cx r b).snd.snd.snd.snd.snd.snd.fst,(cx r
 b).snd.snd.snd.snd.snd.snd.snd,(vR (bn b r)).fst,(vR (bn b r)).snd.fst,(vR (bn b r)).snd.snd.fst,(vR (bn b r)).snd.snd.snd.fst,(vR
 (bn b r)).snd.snd.snd.snd.fst,(vR (bn b r)).snd.snd.snd.snd.snd.fst,(vR (bn b r)).snd.snd.snd.snd.snd.snd.fst,(vR (bn b
 r)).snd.snd.snd.snd.snd.snd.snd)))))))))
theorem JJ(r:Int×Int)(f:Fl)(b er:List Int):aN Tryz.prog [(88,aDe),(90,ag6),(89,at7)] [] f61 ((G7).wr (r,())) ((eP).wr (f,b,er,())) [.auto,.aE,.db 5 11 8 .u8,.bH 5 [.al,.sym,.sym,.sym,.sym,.al,.sym,.sym,.sym,.sym,.sym,.al,.rd true u8]]=(lN r f b er).end (Sum.elim tK (Sum.elim tM tP)) (Sum.elim tL (Sum.elim tN tQ)) ((eP).wr (f,b,er,())):=by kernel_rfl
theorem OI(r:Int×Int)(f:Fl)(b er:List Int):aJ Tryz.prog ((eP).wr (f,b,er,())) [] (aD f61):=(aJ.nil _)
theorem JK:∀ (n:Nat) (b:List Int),ax b→b.length<1099511627776→nF (bZ n b).1
 |0,_,_,_=>fun k h=>by simp[bZ]at h
 |n+1,b,hb,hl=>by
  rw[bZ]
  split
  ·rename_i c;have ih:=JK n (b.drop (bP b).2.1.toNat) (hb.drop _) (by rw[List.length_drop];omega);intro k hk
   cases k with
   |zero=>
    have e:=(kE c.1).2.2.1;simp only[List.getD_cons_zero,e,Et];exact⟨(hb.drop _).take _,by rw[List.length_take,List.length_drop];omega⟩
   |succ k=>
    simp only[List.getD_cons_succ];exact ih k (by simpa using hk)
  ·intro k h;simp at h
theorem TB{b er:List Int}{r:Int×Int}(h1:jZ b er)(h2:ax b)(h3:xl r er)(h4:r.2=2):nF (bn b r).2∧(bn b r).2.length≤1000000:=by
 unfold bn
 split
 ·exact⟨fun k h=>by simp at h,by simp⟩
 ·have hp:=qg (dD b r (xq (dD b r 0) (dD b r 1)).1).length ((dD b r (xq (dD b r 0) (dD b r 1)).1).drop 16);have hl:(dD b r (xq (dD b r 0) (dD b r 1)).1).length≤1024:=by show(b8 _ _ _).length≤_;unfold b8;rw[List.length_take];omega
  have hd:((dD b r (xq (dD b r 0) (dD b r 1)).1).drop 16).length≤1024:=by rw[List.length_drop];omega
  exact⟨JK _ _ ((ny h2 _ _).drop _) (by omega),by simp only;omega⟩
def rk(s:Sg)(x:Jn×List dK.D):tO:=(s.1.1,s.1.2.1,s.1.2.2.1,s.1.2.2.2.1,s.1.2.2.2.2,s.2.1,s.2.2.1,s.2.2.2.1,s.2.2.2.2.1,s.2.2.2.2.2.1,s.2.2.2.2.2.2.1,s.2.2.2.2.2.2.2,vR x)
abbrev fa(r:Int×Int)(f:Fl)(b er:List Int):Prop:=jZ b er∧ax b∧xl r er
def TC:ao:=ao.cH [] (G7) (eP) fun x_ y_=>.ite ((fun(r:Int×Int) (f:Fl) (b er:List Int)=>decide (r.2≠2)) x_.1 y_.1 y_.2.1 y_.2.2.1) (.leaf (some ((fun(r:Int×Int) (f:Fl) (b er:List Int)=>fa r f b er) x_.1 y_.1 y_.2.1 y_.2.2.1)) (tK ((fun(r:Int×Int) (f:Fl) (b er:List Int)=>()) x_.1 y_.1 y_.2.1 y_.2.2.1)) (tL ((fun(r:Int×Int) (f:Fl) (b er:List Int)=>()) x_.1 y_.1 y_.2.1 y_.2.2.1))) (.ite ((fun(r:Int×Int) (f:Fl) (b er:List Int)=>f.2.1) x_.1 y_.1 y_.2.1 y_.2.2.1) (.leaf (some ((fun(r:Int×Int) (f:Fl) (b er:List Int)=>fa r f b er) x_.1 y_.1 y_.2.1 y_.2.2.1)) (tM ((fun(r:Int×Int) (f:Fl) (b er:List Int)=>5) x_.1 y_.1 y_.2.1 y_.2.2.1)) (tN ((fun(r:Int×Int) (f:Fl) (b er:List Int)=>5) x_.1 y_.1 y_.2.1 y_.2.2.1))) (.leaf (some ((fun(r:Int×Int) (f:Fl) (b er:List Int)=>fa r f b er) x_.1 y_.1 y_.2.1 y_.2.2.1)) (tP ((fun(r:Int×Int) (f:Fl) (b er:List Int)=>rk (bE iZ (bn b r).2) (bn b r)) x_.1 y_.1 y_.2.1 y_.2.2.1)) (tQ ((fun(r:Int×Int) (f:Fl) (b er:List Int)=>rk (bE iZ (bn b r).2) (bn b r)) x_.1 y_.1 y_.2.1 y_.2.2.1))))
theorem vT(r:Int×Int)(f:Fl)(b er:List Int)(h_:fa r f b er):((decide (r.2≠2))=true→(lN r f b er).Is (.inl (())))∧((decide (r.2≠2))=false→(f.2.1)=true→(lN r f b er).Is (.inr (.inl (5))))∧((decide (r.2≠2))=false→(f.2.1)=false→(lN r f b er).Is (.inr (.inr (rk (bE iZ (bn b r).2) (bn b r))))):=by
 have hp:ld r (o9 f) b er:=h_;obtain⟨h1,h2,h3⟩:=h_
 by_cases c:r.2=2
 ·obtain⟨o1,o2⟩:=TB h1 h2 h3 c;have hl:yc (vR (bn b r)).2.2.2.2.2.2.2:=⟨o1,by show(bn b r).2.length<_;omega⟩;have ha:∀x y z w,tJ x y z w (vR (bn b r)).2.2.2.2.2.2.2:=fun _ _ _ _=>⟨o1,o2⟩;have e:rk (bE iZ (bn b r).2) (bn b r)=((cx r b).1.1,(cx r b).1.2.1,(cx r b).1.2.2.1,(cx r b).1.2.2.2.1,(cx r b).1.2.2.2.2,(cx r b).2.1,(cx r b).2.2.1,(cx r b).2.2.2.1,(cx r b).2.2.2.2.1,(cx r b).2.2.2.2.2.1,(cx r b).2.2.2.2.2.2.1,(cx r b).2.2.2.2.2.2.2,vR (bn b r)):=rfl;rw[e]
  cases c2:f.2.1 with
  |true=>simp[lN,c,c2,aA,ai,ak];exact hp
  |false=>simp[lN,c,c2,aA,ai,ak];exact⟨hp,ha _ _ _ _,hl⟩
 ·simp[lN,c,aA,ai,ak];exact hp
theorem Xk:TC.Ok Tryz.prog 61:=by
 refine zx (tys:= []) (A:=G7) (H:=eP) (LT:=fun x_ y_=>(fun(r:Int×Int) (f:Fl) (b er:List Int)=> []) x_.1 y_.1 y_.2.1 y_.2.2.1) (ks:= [.auto,.aE,.db 5 11 8 .u8,.bH 5 [.al,.sym,.sym,.sym,.sym,.al,.sym,.sym,.sym,.sym,.sym,.al,.rd true u8]]) (V:=Sum.elim tK (Sum.elim tM tP)) (D:=Sum.elim tL (Sum.elim tN tQ)) (T:=fun x_ y_=>lN x_.1 y_.1 y_.2.1 y_.2.2.1) (out:=fun x_ y_=>.ite ((fun(r:Int×Int) (f:Fl) (b er:List Int)=>decide (r.2≠2)) x_.1 y_.1 y_.2.1 y_.2.2.1) (.leaf (some ((fun(r:Int×Int) (f:Fl) (b er:List Int)=>fa r f b er) x_.1 y_.1 y_.2.1 y_.2.2.1)) (tK ((fun(r:Int×Int) (f:Fl) (b er:List Int)=>()) x_.1 y_.1 y_.2.1 y_.2.2.1)) (tL ((fun(r:Int×Int) (f:Fl) (b er:List Int)=>()) x_.1 y_.1 y_.2.1 y_.2.2.1))) (.ite ((fun(r:Int×Int) (f:Fl) (b er:List Int)=>f.2.1) x_.1 y_.1 y_.2.1 y_.2.2.1) (.leaf (some ((fun(r:Int×Int) (f:Fl) (b er:List Int)=>fa r f b er) x_.1 y_.1 y_.2.1 y_.2.2.1)) (tM ((fun(r:Int×Int) (f:Fl) (b er:List Int)=>5) x_.1 y_.1 y_.2.1 y_.2.2.1)) (tN ((fun(r:Int×Int) (f:Fl) (b er:List Int)=>5) x_.1 y_.1 y_.2.1 y_.2.2.1))) (.leaf (some ((fun(r:Int×Int) (f:Fl) (b er:List Int)=>fa r f b er) x_.1 y_.1 y_.2.1 y_.2.2.1)) (tP ((fun(r:Int×Int) (f:Fl) (b er:List Int)=>rk (bE iZ (bn b r).2) (bn b r)) x_.1 y_.1 y_.2.1 y_.2.2.1)) (tQ ((fun(r:Int×Int) (f:Fl) (b er:List Int)=>rk (bE iZ (bn b r).2) (bn b r)) x_.1 y_.1 y_.2.1 y_.2.2.1))))) mixed ((aj axN (aj ag8 (aj aoD aw)))) func61 (by kernel_rfl) call61 (fun x_ y_=>OI x_.1 y_.1 y_.2.1 y_.2.2.1) (fun x_ y_=>JJ x_.1 y_.1 y_.2.1 y_.2.2.1) (fun x_ y_ Q_ h_=>?_)
 cases ou:(fun(r:Int×Int) (f:Fl) (b er:List Int)=>decide (r.2≠2)) x_.1 y_.1 y_.2.1 y_.2.2.1 with
 |true=>exact⟨_,(vT x_.1 y_.1 y_.2.1 y_.2.2.1 (h_.1 ou).1).1 ou,(h_.1 ou).2⟩
 |false=>
  have yd:=h_.2 ou
  cases qh:(fun(r:Int×Int) (f:Fl) (b er:List Int)=>f.2.1) x_.1 y_.1 y_.2.1 y_.2.2.1 with
  |true=>exact⟨_,(vT x_.1 y_.1 y_.2.1 y_.2.2.1 (yd.1 qh).1).2.1 ou qh,(yd.1 qh).2⟩
  |false=>exact⟨_,(vT x_.1 y_.1 y_.2.1 y_.2.2.1 (yd.2 qh).1).2.2 ou qh,(yd.2 qh).2⟩
abbrev aHS:aY Ev.Item Jn:=oT 193 (aC9 2 (u5 5 0))
abbrev aoQ:aY Hp (Sg×Jn×Fl×List Int×List Int×List dK.D×Unit):=ag (eV (jLg 1)) (ag (eV aHS) (ag (eV aHQ) (ag (eX 0 u8) (ag (eX 0 (.int .i64)) (ag (eX 0 dK) ae)))))
abbrev TD:Type:=Int×Int×Int×Int×(List Int)×Bool×Int×Int×Int×Int×(List Int)×(List Int)
abbrev auc(x:TD):LV:=LV.one (VV.agg [SV.int i64 (SI.sym x.1),SV.int u64 (SI.sym x.2.1),SV.int u64
 (SI.sym x.2.2.1),SV.int i64 (SI.sym x.2.2.2.1),SV.arr (Ty.int IntKind.u8) 64 x.2.2.2.2.1,SV.bool (SB.sym x.2.2.2.2.2.1),SV.int i64
 (SI.sym x.2.2.2.2.2.2.1),SV.int i64 (SI.sym x.2.2.2.2.2.2.2.1),SV.int i64 (SI.sym x.2.2.2.2.2.2.2.2.1),SV.int i64 (SI.sym
 x.2.2.2.2.2.2.2.2.2.1),SV.arr (Ty.int IntKind.u8) 8 x.2.2.2.2.2.2.2.2.2.2.1,SV.rd true false (Ty.int IntKind.u8) x.2.2.2.2.2.2.2.2.2.2.2])
abbrev aud(x:TD):List (Nat×Ev.Item):= []
def ag9(s:(Int×Int×Int×Int×List Int)×Bool×Int×Int×Int×Int×List Int×List Int)(j:(Int×Int)×Int×Int×
 Int×Bool×Int) (f:Int×Bool×Bool×Int) (b:List Int) (er:List Int) (l:List (Int×Int×List Int)):Tr (TD):=(.need
 (s.snd.snd.snd.snd.snd.snd.snd.length≤70368744177664) (.ret (s.fst.fst,s.fst.snd.fst,s.fst.snd.snd.fst,s.fst.snd.snd.snd.fst,
 s.fst.snd.snd.snd.snd,s.snd.fst,s.snd.snd.fst,s.snd.snd.snd.fst,s.snd.snd.snd.snd.fst,s.snd.snd.snd.snd.snd.fst,s.snd.snd.snd.snd.snd.snd.fst,
 s.snd.snd.snd.snd.snd.snd.snd)))
theorem Xl(s:Sg)(j:Jn)(f:Fl)(b er:List Int)(l:List dK.D):aN Tryz.prog [(92,rK)] [] f62 (((aq (ah (aU 0 0)) ae)).wr (())) ((aoQ).wr (s,j,f,b,er,l,())) [.fQ 0 10 8 .u8,.fr [.sym],.syms,.auto,.aE]=(ag9 s j f b er l).end auc aud ((aoQ).wr (s,j,f,b,er,l,())):=by kernel_rfl
theorem aha(s:Sg)(j:Jn)(f:Fl)(b er:List Int)(l:List dK.D):aJ Tryz.prog ((aoQ).wr (s,j,f,b,er,l,())) [] (aD f62):=(aJ.nil _)
abbrev ye(s:Sg)(j:Jn)(f:Fl)(b er:List Int)(l:List dK.D):Prop:=s.2.2.2.2.2.2.2.length≤70368744177664
abbrev ahb(s:Sg)(j:Jn)(f:Fl)(b er:List Int)(l:List dK.D):TD:=sgT s
def aue:ao:=cd [] ((aq (ah (aU 0 0)) ae)) (aoQ) (fun x_ y_=>ye y_.1 y_.2.1 y_.2.2.1 y_.2.2.2.1 y_.2.2.2.2.1 y_.2.2.2.2.2.1) (fun x_ y_=>ahb y_.1 y_.2.1 y_.2.2.1 y_.2.2.2.1 y_.2.2.2.2.1 y_.2.2.2.2.2.1) auc aud
theorem aoR(s:Sg)(j:Jn)(f:Fl)(b er:List Int)(l:List dK.D)(h_:ye s j f b er l):(ag9 s j f b er l).Is (ahb s j f b er l):=by
 delta ahb;simp only[ag9,ai,ak];exact⟨h_,rfl⟩
theorem aoS:aue.Ok Tryz.prog 62:=
 br mixed ((aj mP aw)) func62 (by kernel_rfl) call62 (fun x_ y_=>aha y_.1 y_.2.1 y_.2.2.1 y_.2.2.2.1 y_.2.2.2.2.1 y_.2.2.2.2.2.1) (fun x_ y_=>Xl y_.1 y_.2.1 y_.2.2.1 y_.2.2.2.1 y_.2.2.2.2.1 y_.2.2.2.2.2.1) (fun x_ y_ h=>aoR y_.1 y_.2.1 y_.2.2.1 y_.2.2.2.1 y_.2.2.2.2.1 y_.2.2.2.2.2.1 h)
structure ahc (s:Sg):Prop where
 mid:s.2.2.2.2.2.2.2.length≤200
 slot: -1≤s.1.1∧s.1.1≤1
 ver:xn s.1.2.1
 lu:xn s.1.2.2.1
theorem aoT{b:List Int}(h:(iq b).2=true):Bm (iq b).1∧xn (iq b).1.2.1∧xn (iq b).1.2.2.1:=by
 unfold iq at h ⊢
 split at h
 ·rename_i c;rw[if_pos c];refine⟨?_,kD _,kD _⟩;have h2:=c.2;unfold vN at h2
  split at h2
  ·assumption
  ·have:=mS h2;simp at this;omega
 ·cases h
theorem ahd{s:Sg}(h:ahc s)(x:Int×Int×List Int):ahc (tI s x):=by
 unfold tI
 by_cases c1:x.1=2
 ·rw[if_pos c1]
  by_cases c:(iq x.2.2).2=true
  ·rw[if_pos c];have hc:=aoT c;refine⟨by simp[vQ],⟨by have:=hc.1.1;show-1≤(iq x.2.2).1.1;omega,hc.1.2.1⟩,hc.2.1,?_⟩;show xn (if _ then _ else _)
   split
   ·exact h.lu
   ·exact hc.2.2
  ·rw[if_neg c];exact h
 ·rw[if_neg c1]
  by_cases c2:x.1=3
  ·rw[if_pos c2]
   by_cases c:(mT x.2.2).2=true
   ·rw[if_pos c];refine⟨?_,h.slot,h.ver,h.lu⟩;unfold mT at c ⊢
    split at c
    ·rename_i c2;rw[if_pos c2];show(x.2.2.drop 32).length≤200;rw[List.length_drop];omega
    ·cases c
   ·rw[if_neg c];exact h
  ·rw[if_neg c2]
   by_cases c3:x.1=4
   ·rw[if_pos c3];exact⟨by simp[vQ],h.slot,h.ver,h.lu⟩
   ·rw[if_neg c3];exact h
theorem tR:∀ (l:List (Int×Int×List Int)) {s:Sg},ahc s→ahc (bE s l)
 | [],_,h=>h
 |x::l,s,h=>tR l (ahd h x)
theorem OJ:ahc iZ:=⟨by simp[iZ,vQ],⟨by decide,by decide⟩,⟨by decide,by decide⟩,⟨by decide,by decide⟩⟩
end Go.Proofs.YtcbjpiangpjbgaaGreat
end
noncomputable section
namespace Go.Proofs.YtcbjpiangpjbgaaGreat
open Go Go.Ev Go.Proofs.Tryz
open Go.IntKind (i64 signed u32 u64 wrap wrap_u32)
set_option maxRecDepth 1000000
def qk(c:Int×Int×Int×Int×List Int):Nat:=32+(List.take 64 (List.drop 0 c.snd.snd.snd.snd)).length
abbrev E2:Type:=List Int
abbrev ahe(x:E2):LV:=LV.one (VV.sc (SV.rd true false (Ty.int IntKind.u8) x))
abbrev ahf(x:E2):List (Nat×Ev.Item):= []
def E3(c:Int×Int×Int×Int×List Int):Tr (E2):=(.ite ((c.fst !=0)==true) (.ite ((c.fst !=1)==false) (.ite
 (decide (c.snd.snd.snd.fst<0)==false) (.ite (decide (2147483647<c.snd.snd.snd.fst)) (.ret ([])) (.need ((0:Int)≤7∧8≤70368744177664∧8≤
 70368744177664) (.need (0≤c.snd.fst∧c.snd.fst<18446744073709551616∧(0:Int)≤8∧(8:Int)≤70368744177664) (.need (16≤70368744177664∧16
 ≤70368744177664) (.need (0≤c.snd.snd.fst∧c.snd.snd.fst<18446744073709551616∧(0:Int)≤8∧(8:Int)≤70368744177664) (.need (24≤
 70368744177664∧24≤70368744177664) (.need (0≤u64.wrap c.snd.snd.snd.fst∧u64.wrap c.snd.snd.snd.fst<18446744073709551616∧(0:
 Int)≤8∧(8:Int)≤70368744177664) (.need (32≤70368744177664∧32≤70368744177664) (.need ((0:Int)≤0∧(0:Int)≤64∧(64:Int)≤64)
 (.need (qk c*1≤70368744177664∧qk c≤70368744177664) (.ret ([IntKind.u8.wrap c.fst]++List.replicate 7 (0:Int)++bT 8 c.snd.fst
 ++bT 8 c.snd.snd.fst++bT 8 (u64.wrap c.snd.snd.snd.fst)++List.take 64 (List.drop 0 c.snd.snd.snd.snd))))))))))))) (.ret ([]))) (.ret
 ([]))) (.ite (decide (c.snd.snd.snd.fst<0)==false) (.ite (decide (2147483647<c.snd.snd.snd.fst)) (.ret ([])) (.need ((0:Int)≤7∧8≤
 70368744177664∧8≤70368744177664) (.need (0≤c.snd.fst∧c.snd.fst<18446744073709551616∧(0:Int)≤8∧(8:Int)≤70368744177664) (.need (16
 ≤70368744177664∧16≤70368744177664) (.need (0≤c.snd.snd.fst∧c.snd.snd.fst<18446744073709551616∧(0:Int)≤8∧(8:Int)≤70368744177664)
 (.need (24≤70368744177664∧24≤70368744177664) (.need (0≤u64.wrap c.snd.snd.snd.fst∧u64.wrap c.snd.snd.snd.fst<
 18446744073709551616∧(0:Int)≤8∧(8:Int)≤70368744177664) (.need (32≤70368744177664∧32≤70368744177664) (.need ((0:Int)≤0∧(0:Int)
 ≤64∧(64:Int)≤64) (.need (qk c*1≤70368744177664∧qk c≤70368744177664) (.ret ([IntKind.u8.wrap c.fst]++List.replicate 7 (0:
 Int)++bT 8 c.snd.fst++bT 8 c.snd.snd.fst++bT 8 (u64.wrap c.snd.snd.snd.fst)++List.take 64 (List.drop 0
 c.snd.snd.snd.snd))))))))))))) (.ret ([]))))
theorem OK(c:Cm):aN Tryz.prog [(60,IW)] [] f181 ((cmA).wr (c,())) ((ae).wr (())) [.nt,.fr [.rd true u8],.fr [.sym],.syms,.auto,.aE]=(E3 c).end ahe ahf ((ae).wr (())):=by kernel_rfl
theorem Xm(c:Cm):aJ Tryz.prog ((ae).wr (())) [] (aD f181):=(aJ.nil _)
theorem OL{x:Int}(h:0≤x)(h2:x<256):bT 8 x= [x]++List.replicate 7 0:=by
 rw[k7]
 have e:∀i:Nat,i≠0→x/256 ^ i%256=0:=fun i hi=>by
  have:(256:Int) ^ 1≤256 ^ i:=by exact_mod_cast Nat.pow_le_pow_right (by decide) (by omega)
  rw[Int.ediv_eq_zero_of_lt h (by omega)];rfl
 show [x/256 ^ 0%256,x/256 ^ 1%256,x/256 ^ 2%256,x/256 ^ 3%256,x/256 ^ 4%256,x/256 ^ 5%256,x/256 ^ 6%256,x/256 ^ 7%256]=_;rw[e 1 (by decide),e 2 (by decide),e 3 (by decide),e 4 (by decide),e 5 (by decide),e 6 (by decide),e 7 (by decide),Int.pow_zero,Int.ediv_one,Int.emod_eq_of_lt h h2];rfl
abbrev tS(c:Cm):Prop:=xn c.2.1∧xn c.2.2.1
abbrev OM(c:Cm):E2:=vN c
def ON:ao:=cd [] (cmA) (ae) (fun x_ y_=>tS x_.1) (fun x_ y_=>OM x_.1) ahe ahf
theorem ahg(c:Cm)(h_:tS c):(E3 c).Is (OM c):=by
 delta OM;obtain⟨h1,h2⟩:=h_;have e2:Bm c→u64.wrap c.2.2.2.1=c.2.2.2.1:=fun h=>by rw[wrap_u64 (by omega) (by omega)]
 have hl:qk c≤96:=by unfold qk;rw[List.length_take];omega
 have e1:Bm c→ [IntKind.u8.wrap c.1]++List.replicate 7 0=bT 8 c.1:=fun h=>by
  rw[OL (by omega) (by omega),IntKind.wrap_u8,Int.emod_eq_of_lt (by omega) (by omega)]
 by_cases c0:Bm c
 ·have e3:=e1 c0;have e4:=e2 c0;simp only[E3,vN,if_pos c0,e3,e4,List.drop_zero,List.append_assoc,ai,aH,ay,aM,bf,ak];clear e1 e2 e3 e4;grind
 ·simp only[E3,vN,if_neg c0,ai,aH,ay,aM,bf,ak];have c1:(c.1=0∨c.1=1)→0≤c.2.2.2.1→c.2.2.2.1≤2147483647→False:=fun a b d=>c0 ⟨by omega,by omega,b,d⟩;clear e1 e2 hl c0;grind
theorem JL:ON.Ok Tryz.prog 181:=
 br mixed ((aj xW aw)) func181 (by kernel_rfl) call181 (fun x_ y_=>Xm x_.1) (fun x_ y_=>OK x_.1) (fun x_ y_ h=>ahg x_.1 h)
abbrev TE:Type:=Int
abbrev auf(x:TE):LV:=LV.one (VV.sc (SV.int u64 (SI.sym x)))
abbrev aug(x:TE):List (Nat×Ev.Item):= []
def ahh(b:List Int):Tr (TE):=(.need ((0:Int)≤64∧64<(↑b.length:Int)) (.need ((0:Int)≤65∧65<(↑b.length:
 Int)) (.need ((0:Int)≤66∧66<(↑b.length:Int)) (.need ((0:Int)≤67∧67<(↑b.length:Int)) (.need ((0:Int)≤68∧68<(↑b.length:
 Int)) (.need ((0:Int)≤69∧69<(↑b.length:Int)) (.need ((0:Int)≤70∧70<(↑b.length:Int)) (.need ((0:Int)≤71∧71<(↑b.length:
 Int)) (.ret (bq u64 (shl u64 (bq u64 (shl u64 (bq u64 (shl u64 (bq u64 (shl
 u64 (bq u64 (shl u64 (bq u64 (shl u64 (bq u64 (shl u64 (bq u64 0
 (u64.wrap (b.getD 64 0))) 8) (u64.wrap (b.getD 65 0))) 8) (u64.wrap (b.getD 66 0))) 8) (u64.wrap (b.getD 67 0))) 8)
 (u64.wrap (b.getD 68 0))) 8) (u64.wrap (b.getD 69 0))) 8) (u64.wrap (b.getD 70 0))) 8) (u64.wrap (b.getD 71
 0))))))))))))
theorem Xn(b:List Int):aN Tryz.prog [] [] f231 ((bA).wr (b,())) ((ae).wr (())) [.fr [.sym],.syms,.auto,.aE]=(ahh b).end auf aug ((ae).wr (())):=by kernel_rfl
theorem ahi(b:List Int):aJ Tryz.prog ((ae).wr (())) [] (aD f231):=(aJ.nil _)
abbrev tT(b:List Int):Prop:=b.length=200
abbrev ahj(b:List Int):TE:=gw b
def ahk:ao:=cd [some u8] (bA) (ae) (fun x_ y_=>tT x_.1) (fun x_ y_=>ahj x_.1) auf aug
theorem aoU(b:List Int)(h_:tT b):(ahh b).Is (ahj b):=by
 delta ahj;have h:b.length=200:=h_
 have e:(b.drop 64).take 8= [b.getD 64 0,b.getD 65 0,b.getD 66 0,b.getD 67 0,b.getD 68 0,b.getD 69 0,b.getD 70 0,b.getD 71 0]:=by
  rw[bY 0 (by omega),bY 0 (by omega),bY 0 (by omega),bY 0 (by omega),bY 0 (by omega),bY 0 (by omega),bY 0 (by omega),bY 0 (by omega)];rfl
 simp only[ahh,ai,ak,gw,e];exact⟨by omega,by omega,by omega,by omega,by omega,by omega,by omega,by omega,rfl⟩
theorem TF:ahk.Ok Tryz.prog 231:=
 br mixed aw func231 (by kernel_rfl) call231 (fun x_ y_=>ahi x_.1) (fun x_ y_=>Xn x_.1) (fun x_ y_ h=>aoU x_.1 h)
abbrev JM:Type:=(List Int)×Int
abbrev JN:aY St JM:=(bg (ag (ah (fR false false (Ty.int IntKind.u8))) (jk 2 (ag (ah (aC i64)) (jk 22
 ae)))) ae).kB (fun y=>(y.1.1,y.1.2.1)) (fun x=>((x.1,(x.2,())),())) (fun _=>rfl)
abbrev ahl:List Wk:= [.fr (cC 26 [(0,.al),(3,.al)]),.syms,.auto,.aE]
abbrev auh:Exit→List Wk:=w6 ahl 0 [.fr (cC 26 []),.syms,.auto,.aE] [.fr (cC 26 [(2,.al)]),.syms,.auto,.aE]
abbrev OO:Type:=Bool
abbrev ahm(x:OO):Exit×St:=(Exit.ret,⟨(ir 2 (LV.one (VV.sc (SV.bool (SB.sym x)))::(ir 23 []))),[]⟩)
abbrev OP:Type:=Unit
abbrev ahn(x:OP):Exit×St:=(Exit.exit 0,⟨(ir 26 []),[]⟩)
def JO(b:List Int)(i:Int):Tr (JM⊕(OO⊕OP)):=(.ite (decide (i<200)) (.need (0≤i∧i<(↑b.length:Int))
 (.ite (b.getD i.toNat (0:Int)!=0) (.ret (.inr (.inl (false)))) (.ret (.inl (b,i64.wrap (i+1)))))) (.ret (.inr (.inr ()))))
theorem Xo(b':List Int)(b:List Int)(i:Int):cY Tryz.prog [(231,ahk)] [] f212 0 ((ae).wr (())) auh (JN.wr (b,i))=(JO b i).res JN.wr (Sum.elim ahm ahn):=by kernel_rfl
abbrev yf(b:List Int)(i:Int):Prop:=0≤i∧i≤200∧b.length=200
abbrev aho(b:List Int)(i:Int):Bool:= !(b.drop i.toNat).all (· ==0)
abbrev ahp(b:List Int)(i:Int):OO:=false
abbrev ahq(b:List Int)(i:Int):OP:=()
abbrev ahr:JM→aW:=rL (fun x_=>yf x_.1 x_.2) (fun x_=>aho x_.1 x_.2) (fun x_=>ahp x_.1 x_.2) (fun x_=>ahq x_.1 x_.2) ahm ahn
theorem aoV(b:List Int)(i:Int)(h_:yf b i):dV (fun x_:JM=>JO x_.1 x_.2) (b,i) (bif aho b i then .inl (ahp b i)else .inr (ahq b i)):=by
 delta aho ahp ahq;obtain⟨h1,h2,h4⟩:=h_;obtain⟨k,rfl⟩:∃m:Nat,i=m:=⟨i.toNat,by omega⟩;obtain⟨j,hj⟩:∃j,b.length-k=j:=⟨_,rfl⟩;rw[Int.toNat_natCast]
 induction j generalizing k with
 |zero=>
  refine .stop ?_;have c:¬ (k:Int)<200:=by omega
  rw[List.drop_of_length_le (by omega)];simp[JO,c,aA,ak]
 |succ j ih=>
  have c:(k:Int)<200:=by omega
  rw[bY 0 (by omega)]
  by_cases c2:b.getD k 0=0
  ·have w:=ih (k+1) (by omega) (by omega) (by omega);have e1:((b.getD k 0::b.drop (k+1)).all (· ==0))=(b.drop (k+1)).all (· ==0):=(by rw[List.all_cons,c2];rfl);rw[e1];refine .go ?_ w;simp only[JO,c,Int.toNat_natCast,c2,ai,aH,aS,bb,aP,ay,aG,aT,aM,aQ,bl,bf,aK,aF,ak]
   try simp only[aA,ai,aH,aS,bb,aP,ay,aG,aT,aM,aQ,bl,bf,aK,aF,ak]
   grind [ar]
  ·refine .stop ?_;have e1:((b.getD k 0::b.drop (k+1)).all (· ==0))=false:=(by rw[List.all_cons,beq_eq_false_iff_ne.2 c2];rfl);rw[e1];simp only[JO,c,Int.toNat_natCast,c2,ai,aH,aS,bb,aP,ay,aG,aT,aM,aQ,bl,bf,aK,aF,ak]
   try simp only[aA,ai,aH,aS,bb,aP,ay,aG,aT,aM,aQ,bl,bf,aK,aF,ak]
   grind
theorem ahs(b':List Int):∀x:JM,Ex Tryz.prog ((ae).wr (())) (.loop (a9 f212 0)) (JN.wr x) (ahr x):=
 cQ mixed ((aj TF aw)) (ws:=auh) (aJ.nil _) (fun x_=>Xo b' x_.1 x_.2) (fun z=>by cases z<;>(intro e;cases e)) vF (fun x_ h=>aoV x_.1 x_.2 h)
abbrev TG:Type:=Bool
abbrev aui(x:TG):LV:=LV.one (VV.sc (SV.bool (SB.sym x)))
abbrev auj(x:TG):List (Nat×Ev.Item):= []
def JP(b:List Int):Tr (TG):=(.ite (((↑b.length:Int)!=200)==false) (.need (tT b) (.ite (decide
 (1152921504606846976<gH 0 (List.take 8 (List.drop 64 b)))) (.ret (false)) (.need (tT b) (.need (yf b (i64.wrap (72+
 i64.wrap ((gH 0 (List.take 8 (List.drop 64 b))).tmod 128)))) (.ite (!(List.drop (i64.wrap (72+i64.wrap ((gH 0 (List.take
 8 (List.drop 64 b))).tmod 128))).toNat b).all fun x=>x==0) (.ret (false)) (.ret (true))))))) (.ret (false)))
theorem Xp(b:List Int):aN Tryz.prog [(231,ahk)] [(0,cg JN ((ae).wr (())) ahl (ahr))] f212 ((bA).wr (b,())) ((ae).wr (())) [.fr [.sym],.syms,.auto,.aE]=(JP b).end aui auj ((ae).wr (())):=by kernel_rfl
theorem aht(b:List Int):aJ Tryz.prog ((ae).wr (())) [(0,cg JN ((ae).wr (())) ahl (ahr))] (aD f212):=(aJ.bW (jc (by kernel_rfl) (ck (hp:=(ae).wr (())) (ahs b)) jh))
abbrev tU(b:List Int):Prop:=b.length<1099511627776
abbrev ahu(b:List Int):TG:=gk b
def auk:ao:=cd [some u8] (bA) (ae) (fun x_ y_=>tU x_.1) (fun x_ y_=>ahu x_.1) aui auj
theorem aoW(b:List Int)(h_:tU b):(JP b).Is (ahu b):=by
 delta ahu;have hu:=z4 ((b.drop 64).take 8) 0 ⟨by decide,by decide⟩;have hn:gH 0 (List.take 8 (List.drop 64 b))=gw b:=rfl
 by_cases c1:b.length=200
 ·have c1':(b.length:Int)=200:=by omega
  rw[hn]at hu;have hc:tT b:=c1
  by_cases c2:1152921504606846976<gw b
  ·have e:gk b=false:=(by unfold gk;rw[decide_eq_false (by omega)];rfl);simp[JP,c1',hn,c2,e,aA,ai,ak];exact hc
  ·have w:i64.wrap ((gw b).tmod 128)=gw b%128:=(by rw[Int.tmod_eq_emod_of_nonneg hu.1,ar (by omega) (by omega)]);have w2:i64.wrap (72+gw b%128)=72+gw b%128:=ar (by omega) (by omega);have t2:(72+gw b%128).toNat=72+(gw b%128).toNat:=(by omega);have e:gk b=(b.drop (72+(gw b%128).toNat)).all (· ==0):=(by unfold gk;rw[decide_eq_true (by omega)];rfl);have hk:yf b (72+gw b%128):=⟨by omega,by omega,c1⟩;simp only[JP,hn,w,w2,t2,← e,ai,aM,bl,ay,aF,ak]
   cases c3:gk b<;>simp[c1',c2]<;>exact⟨hc,hk⟩
 ·have c1':¬ (b.length:Int)=200:=by omega
  have e:gk b=false:=by unfold gk;rw[decide_eq_false (by omega)];rfl
  simp[JP,c1',e,aA,ak]
theorem aoX:auk.Ok Tryz.prog 212:=
 br mixed ((aj TF aw)) func212 (by kernel_rfl) call212 (fun x_ y_=>aht x_.1) (fun x_ y_=>Xp x_.1) (fun x_ y_ h=>aoW x_.1 h)
abbrev aDj:aY (List LV) (Ck×Unit):=ag (iD ((ag (aC .i64) (ag (aC .i64) (ag (aC .i64) (ag (aC .i64) (awh .u8 8 (ag (fR false false u8) ae)))))).kB (fun x=>(x.1,x.2.1,x.2.2.1,x.2.2.2.1,x.2.2.2.2.1,x.2.2.2.2.2.1)) (fun y=>(y.1,y.2.1,y.2.2.1,y.2.2.2.1,y.2.2.2.2.1,y.2.2.2.2.2,())) (fun _=>rfl))) ae
def id8(l:List Int):List Int:= [l.getD 0 0,l.getD 1 0,l.getD 2 0,l.getD 3 0,l.getD 4 0,l.getD 5 0,l.getD 6 0,l.getD 7 0]
def tV(c:Int×Int×Int×Int×List Int×List Int):Nat:=32+c.snd.snd.snd.snd.snd.length
abbrev E5:Type:=List Int
abbrev ahw(x:E5):LV:=LV.one (VV.sc (SV.rd true false (Ty.int IntKind.u8) x))
abbrev ahx(x:E5):List (Nat×Ev.Item):= []
def E6(c:Int×Int×Int×Int×List Int×List Int):Tr (E5):=(.ite ((c.fst !=0)==true) (.ite ((c.fst !=1)==false)
 (.ite (decide (c.snd.fst<0)==false) (.ite (decide (16<c.snd.fst)==false) (.ite (decide (c.snd.snd.fst<0)==false) (.ite (decide (2147483647
 <c.snd.snd.fst)==false) (.ite (decide (c.snd.snd.snd.fst<0)==false) (.ite (decide (2147483647<c.snd.snd.snd.fst)==false) (.need (tU
 c.snd.snd.snd.snd.snd) (.ite (!gk c.snd.snd.snd.snd.snd) (.ret ([])) (.need ((0:Int)≤6∧8≤70368744177664∧8≤70368744177664) (.need (0≤
 u64.wrap c.snd.snd.fst∧u64.wrap c.snd.snd.fst<18446744073709551616∧(0:Int)≤8∧(8:Int)≤70368744177664) (.need (16≤
 70368744177664∧16≤70368744177664) (.need (0≤u64.wrap c.snd.snd.snd.fst∧u64.wrap c.snd.snd.snd.fst<18446744073709551616∧(0:
 Int)≤8∧(8:Int)≤70368744177664) (.need (24≤70368744177664∧24≤70368744177664) (.need (32≤70368744177664∧32≤70368744177664) (.need
 (tV c*1≤70368744177664∧tV c≤70368744177664) (.ret ([IntKind.u8.wrap c.fst,IntKind.u8.wrap c.snd.fst]++List.replicate 6 (0:Int)
 ++bT 8 (u64.wrap c.snd.snd.fst)++bT 8 (u64.wrap c.snd.snd.snd.fst)++ [c.snd.snd.snd.snd.fst.getD (nat_lit 0) 0,
 c.snd.snd.snd.snd.fst.getD (nat_lit 1) 0,c.snd.snd.snd.snd.fst.getD (nat_lit 2) 0,c.snd.snd.snd.snd.fst.getD (nat_lit 3) 0,
 c.snd.snd.snd.snd.fst.getD (nat_lit 4) 0,c.snd.snd.snd.snd.fst.getD (nat_lit 5) 0,c.snd.snd.snd.snd.fst.getD (nat_lit 6) 0,
 c.snd.snd.snd.snd.fst.getD (nat_lit 7) 0]++c.snd.snd.snd.snd.snd))))))))))) (.ret ([]))) (.ret ([]))) (.ret ([]))) (.ret ([]))) (.ret ([]))) (.ret
 ([]))) (.ret ([]))) (.ite (decide (c.snd.fst<0)==false) (.ite (decide (16<c.snd.fst)==false) (.ite (decide (c.snd.snd.fst<0)==false) (.ite
 (decide (2147483647<c.snd.snd.fst)==false) (.ite (decide (c.snd.snd.snd.fst<0)==false) (.ite (decide (2147483647<c.snd.snd.snd.fst)==false)
 (.need (tU c.snd.snd.snd.snd.snd) (.ite (!gk c.snd.snd.snd.snd.snd) (.ret ([])) (.need ((0:Int)≤6∧8≤70368744177664∧8≤
 70368744177664) (.need (0≤u64.wrap c.snd.snd.fst∧u64.wrap c.snd.snd.fst<18446744073709551616∧(0:Int)≤8∧(8:Int)≤
 70368744177664) (.need (16≤70368744177664∧16≤70368744177664) (.need (0≤u64.wrap c.snd.snd.snd.fst∧u64.wrap c.snd.snd.snd.fst
 <18446744073709551616∧(0:Int)≤8∧(8:Int)≤70368744177664) (.need (24≤70368744177664∧24≤70368744177664) (.need (32≤70368744177664∧
 32≤70368744177664) (.need (tV c*1≤70368744177664∧tV c≤70368744177664) (.ret ([IntKind.u8.wrap c.fst,IntKind.u8.wrap c.snd.fst]++
 List.replicate 6 (0:Int)++bT 8 (u64.wrap c.snd.snd.fst)++bT 8 (u64.wrap c.snd.snd.snd.fst)++ [c.snd.snd.snd.snd.fst.getD
 (nat_lit 0) 0,c.snd.snd.snd.snd.fst.getD (nat_lit 1) 0,c.snd.snd.snd.snd.fst.getD (nat_lit 2) 0,c.snd.snd.snd.snd.fst.getD (nat_lit 3) 0,
 c.snd.snd.snd.snd.fst.getD (nat_lit 4) 0,c.snd.snd.snd.snd.fst.getD (nat_lit 5) 0,c.snd.snd.snd.snd.fst.getD (nat_lit 6) 0,
 c.snd.snd.snd.snd.fst.getD (nat_lit 7) 0]++c.snd.snd.snd.snd.snd))))))))))) (.ret ([]))) (.ret ([]))) (.ret ([]))) (.ret ([]))) (.ret ([]))) (.ret
 ([]))))
theorem OQ(c:Ck):aN Tryz.prog [(60,IW),(212,auk)] [] f182 ((aDj).wr (c,())) ((ae).wr (())) [.nt,.fr [.rd true u8],.fr [.sym],.syms,.auto,.aE]=(E6 c).end ahw ahx ((ae).wr (())):=by kernel_rfl
theorem Xq(c:Ck):aJ Tryz.prog ((ae).wr (())) [] (aD f182):=(aJ.nil _)
theorem ahy{x y:Int}(h:0≤x)(h2:x<256)(h3:0≤y)(h4:y<256):bT 8 (x+256*y)= [x,y]++List.replicate 6 0:=by
 rw[k7]
 have e:∀i:Nat,2≤i→(x+256*y)/256 ^ i%256=0:=fun i hi=>by
  have:(256:Int) ^ 2≤256 ^ i:=by exact_mod_cast Nat.pow_le_pow_right (by decide) hi
  rw[Int.ediv_eq_zero_of_lt (by omega) (by omega)];rfl
 show [(x+256*y)/256 ^ 0%256,(x+256*y)/256 ^ 1%256,(x+256*y)/256 ^ 2%256,(x+256*y)/256 ^ 3%256,(x+256*y)/256 ^ 4%256,(x+256*y)/256 ^ 5%256,(x+256*y)/256 ^ 6%256,(x+256*y)/256 ^ 7%256]=_;rw[e 2 (by decide),e 3 (by decide),e 4 (by decide),e 5 (by decide),e 6 (by decide),e 7 (by decide),Int.pow_zero,Int.ediv_one,Int.pow_one,show(x+256*y)%256=x by omega,show(x+256*y)/256%256=y by omega];rfl
abbrev tW(c:Ck):Prop:=c.2.2.2.2.2.length<1099511627776
abbrev OR(c:Ck):E5:=tF (c.1,c.2.1,c.2.2.1,c.2.2.2.1,id8 c.2.2.2.2.1,c.2.2.2.2.2)
def ahz:ao:=cd [some u8] (aDj) (ae) (fun x_ y_=>tW x_.1) (fun x_ y_=>OR x_.1) ahw ahx
theorem ahA(c:Ck)(h_:tW c):(E6 c).Is (OR c):=by
 delta OR;obtain⟨x,y,o,d,i,m⟩:=c;have h1:m.length<1099511627776:=h_;have e1:vP (x,y,o,d,id8 i,m)→u64.wrap o=o:=fun h=>wrap_u64 h.2.2.2.2.1 (by have:=h.2.2.2.2.2.1;simp only at this;omega);have e2:vP (x,y,o,d,id8 i,m)→u64.wrap d=d:=fun h=>wrap_u64 h.2.2.2.2.2.2.1 (by have:=h.2.2.2.2.2.2.2.1;simp only at this;omega)
 have e3:vP (x,y,o,d,id8 i,m)→ [IntKind.u8.wrap x,IntKind.u8.wrap y]++List.replicate 6 0=bT 8 (x+256*y):=fun⟨a,b,c,d,_⟩=>by
  simp only at a b c d;rw[ahy a (by omega) c (by omega),IntKind.wrap_u8,IntKind.wrap_u8,Int.emod_eq_of_lt a (by omega),Int.emod_eq_of_lt c (by omega)]
 have hm:tU m:=h1;have l0:tV (x,y,o,d,i,m)=32+m.length:=rfl
 by_cases c0:vP (x,y,o,d,id8 i,m)
 ·have c9:gk m=true:=c0.2.2.2.2.2.2.2.2;obtain⟨a1,a2,a3,a4,a5,a6,a7,a8,_⟩:=id c0;simp only at a1 a2 a3 a4 a5 a6 a7 a8;have hp:tF (x,y,o,d,id8 i,m)=bT 8 (x+256*y)++(bT 8 o++(bT 8 d++(id8 i++m))):=if_pos c0
  have hq:tF (x,y,o,d,id8 i,m)= [IntKind.u8.wrap x,IntKind.u8.wrap y]++List.replicate 6 0++bT 8 (u64.wrap o)++bT 8 (u64.wrap d)++ [i.getD (nat_lit 0) 0,i.getD (nat_lit 1) 0,i.getD (nat_lit 2) 0,i.getD (nat_lit 3) 0,i.getD (nat_lit 4) 0,i.getD (nat_lit 5) 0,i.getD (nat_lit 6) 0,i.getD (nat_lit 7) 0]++m:=by
   rw[hp,e3 c0,e1 c0,e2 c0,List.append_assoc,List.append_assoc,List.append_assoc];rfl
  have w1:=e1 c0;have w2:=e2 c0;rw[hq];simp only[E6,l0,c9,ai,aH,ay,aM,bf,aF,ak];clear e1 e2 e3 hp hq c0;generalize u64.wrap o=o' at*;generalize u64.wrap d=d' at*;generalize [IntKind.u8.wrap x,IntKind.u8.wrap y]++List.replicate 6 0++bT 8 o'++bT 8 d'++ [i.getD (nat_lit 0) 0,i.getD (nat_lit 1) 0,i.getD (nat_lit 2) 0,i.getD (nat_lit 3) 0,i.getD (nat_lit 4) 0,i.getD (nat_lit 5) 0,i.getD (nat_lit 6) 0,i.getD (nat_lit 7) 0]++m=L;grind
 ·have hp:tF (x,y,o,d,id8 i,m)= []:=if_neg c0;simp only[E6,hp,ai,aH,ay,aM,bf,aF,ak];have c1:(x=0∨x=1)→0≤y→y≤16→0≤o→o≤2147483647→0≤d→d≤2147483647→gk m=true→False:=fun a a1 a2 a3 a4 a5 a6 a7=>c0 ⟨by simp only;omega,by simp only;omega,a1,a2,a3,a4,a5,a6,a7⟩;clear e1 e2 e3 c0 hp;grind
theorem ahB:ahz.Ok Tryz.prog 182:=
 br mixed ((aj xW (aj aoX aw))) func182 (by kernel_rfl) call182 (fun x_ y_=>Xq x_.1) (fun x_ y_=>OQ x_.1) (fun x_ y_ h=>ahA x_.1 h)
end Go.Proofs.YtcbjpiangpjbgaaGreat
end
noncomputable section
namespace Go.Ev
open Go
open Go.IntKind (i64 signed u32 u64 wrap wrap_u32)
def Vec(α:Type):Nat→Type
 |0=>Unit
 |n+1=>α×Vec α n
namespace Vec
variable {α β γ:Type}
def toList: {n:Nat}→Vec α n→List α
 |0,_=> []
 |_+1,v=>v.1::toList v.2
def map(f:α→β): {n:Nat}→Vec α n→Vec β n
 |0,_=>()
 |_+1,v=>(f v.1,map f v.2)
def zip(f:α→β→γ): {n:Nat}→Vec α n→Vec β n→Vec γ n
 |0,_,_=>()
 |_+1,v,u=>(f v.1 u.1,zip f v.2 u.2)
def ofFn:(n:Nat)→(Nat→α)→Vec α n
 |0,_=>()
 |n+1,f=>(f 0,ofFn n fun i=>f (i+1))
def get[Inhabited α]: {n:Nat}→Vec α n→Nat→α
 |0,_,_=>default
 |_+1,v,0=>v.1
 |_+1,v,i+1=>get v.2 i
theorem eT: {n:Nat}→(v:Vec α n)→v.toList.length=n
 |0,_=>rfl
 |_+1,v=>by simp[toList,eT v.2]
theorem toList_inj: {n:Nat}→ {v u:Vec α n}→v.toList=u.toList→v=u
 |0,_,_,_=>rfl
 |n+1,v,u,h=>by
  simp only[toList,List.cons.injEq]at h;exact Prod.ext h.1 (toList_inj h.2)
end Vec
def fG{α:Type}(f:Nat→α→α):Nat→α→α
 |0,a=>a
 |k+1,a=>f k (fG f k a)
theorem mU{α:Type}(f:Nat→α→α)(a:α):∀n,upto f 0 n a=fG f n a
 |0=>rfl
 |n+1=>by rw[BU,mU f a n,Nat.zero_add];rfl
def cl(x y c:Int):Int×Int:=((((x.toNat+y.toNat+c.toNat)%2 ^ 64:Nat):Int),(((x.toNat+y.toNat+c.toNat)/2 ^ 64:Nat):Int))
def mV(x y b:Int):Int×Int:=((((x.toNat+2 ^ 64-y.toNat-b.toNat)%2 ^ 64:Nat):Int),if x.toNat<y.toNat+b.toNat then 1 else 0)
def aHT(p:Prop):Option Prop→Option Prop
 |none=>some p
 |some q=>some (p∧q)
abbrev cU3:aY (List LV) (Int×Int×Int×Unit):=ag (ah (aC .u64)) (ag (ah (aC .u64)) (ag (ah (aC .u64)) ae))
def mW(g:Int→Int→Int→Int×Int):ao:=ao.of [] cU3 ae fun x _=>.leaf (some (0≤x.2.2.1∧x.2.2.1≤1)) (.cG [.sc (.int .u64 (.sym (g x.1 x.2.1 x.2.2.1).1)),.sc (.int .u64 (.sym (g x.1 x.2.1 x.2.2.1).2))]) []
theorem TH{P:Program}{f:FuncId}{g:Int→Int→Int→Int×Int}(h:∀ (a b c:Int) (w:World),0≤c→c≤1→(callFunc f #[.int .u64 a,.int .u64 b,.int .u64 c]).run P w= .ok (.value (.tuple #[.int .u64 (g a b c).1,.int .u64 (g a b c).2])) w):
  (mW g).Ok P f:=by
 refine⟨fun args hp Q hq=>?_⟩;simp only[mW,ao.of]at hq
 split at hq
 ·rename_i x y hx hy;rw[cU3.ok hx];obtain⟨a,b,c,_⟩:=x;obtain⟨⟨h0,h1⟩,hq⟩:=hq;intro β w vals hh eA
  cases eA with
  |cons e1 eA=>cases eA with
   |cons e2 eA=>cases eA with
    |cons e3 eA=>
     cases eA
     simp only[LV.den,VV.den,SV.den,ah,aC,SI.val]at e1 e2 e3;subst e1 e2 e3;exact .inl ⟨_,h a b c w h0 h1,_,β,_,hp,rfl,⟨[],hq,rfl⟩,⟨_,rfl,.cons rfl (.cons rfl .nil)⟩,hh⟩
 ·exact hq.elim
theorem B8{P:Program}(n:String)(a b c:Int)(w:World)(hc:¬c.toNat>1):
  (Extern.MathBitsCarry.three n #[.int .u64 a,.int .u64 b,.int .u64 c]).run P w= .ok (a.toNat,b.toNat,c.toNat) w:=by
 have e:Extern.MathBitsCarry.three n #[.int .u64 a,.int .u64 b,.int .u64 c]=(do
  let c:=(← asInt (.int .u64 c)).toNat
  if c>1 then unsupported (.noEntry ("extern/math/bits."++n++": a carry that is neither 0 nor 1"))
  pure ((← asInt (.int .u64 a)).toNat,(← asInt (.int .u64 b)).toNat,c)):=rfl
 rw[e];have rA:¬ 1<c.toNat:=hc;simp[asInt,asIntOf];omega
theorem OS{P:Program}{f:FuncId}{fn:Func}(hf:P.funcs[f]? =some fn)(ahC:(fn.name=="runtime.NumGoroutine")=false)(hb:fn.body.isNone=true)(hn:Extern.findNext fn=none)
  {e:Array Value→Sem Value} (he:Extern.find fn=some e) (hee:e=(Extern.MathBitsCarry.rows.getD 0 ("",fun _=>pure undef)).2):(mW cl).Ok P f:=by
 refine TH fun a b c w h0 h1=>?_;rw[run_callFunc_extern hf ahC hb hn he,hee];have hc:¬c.toNat>1:=by omega
 simp[Extern.MathBitsCarry.rows,B8 _ _ _ _ _ hc,Extern.MathBitsCarry.pair,Extern.MathBitsCarry.m64,cl]
theorem OT{P:Program}{f:FuncId}{fn:Func}(hf:P.funcs[f]? =some fn)(ahC:(fn.name=="runtime.NumGoroutine")=false)(hb:fn.body.isNone=true)(hn:Extern.findNext fn=none)
  {e:Array Value→Sem Value} (he:Extern.find fn=some e) (hee:e=(Extern.MathBitsCarry.rows.getD 1 ("",fun _=>pure undef)).2):(mW mV).Ok P f:=by
 refine TH fun a b c w h0 h1=>?_;rw[run_callFunc_extern hf ahC hb hn he,hee];have hc:¬c.toNat>1:=by omega
 simp[Extern.MathBitsCarry.rows,B8 _ _ _ _ _ hc,Extern.MathBitsCarry.pair,Extern.MathBitsCarry.m64,mV]
 split<;>rfl
def pc(k:IntKind){Y:Type}(r:aY (List SV) Y):(n:Nat)→aY (List SV) (Vec Int n×Y)
 |0=>r.kB (fun y=>((),y)) (fun p=>p.2) (fun _=>rfl)
 |n+1=>(ag (aC k) (pc k r n)).kB (fun p=>((p.1,p.2.1),p.2.2)) (fun p=>(p.1.1,(p.1.2,p.2))) (fun _=>rfl)
def jd(k:IntKind):(n:Nat)→aY (List SV) (Vec Int n)
 |0=>ae
 |n+1=>ag (aC k) (jd k n)
def kp(l:List Int):Vec Int 32:=Vec.ofFn 32 fun i=>l.getD i 0
end Go.Ev
end
noncomputable section
namespace BJ
def aI(n:Nat):Prop:=2≤n∧∀m,m∣n→m=1∨m=n
theorem vU:∀n:Nat,2≤n→∃q,aI q∧q∣n:=by
 intro n
 induction n using Nat.strongRecOn with
 |_ n ih=>
  intro h
  by_cases hp:∀m,m∣n→m=1∨m=n
  ·exact⟨n,⟨h,hp⟩,Nat.dvd_refl n⟩
  ·have⟨m,hm⟩:=Classical.not_forall.1 hp;have⟨hd,hn⟩:=Classical.not_imp.1 hm;have h1:m≠1:=fun e=>hn (.inl e);have h2:m≠n:=fun e=>hn (.inr e);have hle:m≤n:=Nat.le_of_dvd (by omega) hd
   have h0:m≠0:=by
    rintro rfl
    have:=Nat.eq_zero_of_zero_dvd hd;omega
   obtain⟨q,hq,hqm⟩:=ih m (by omega) (by omega);exact⟨q,hq,Nat.dvd_trans hqm hd⟩
theorem aI.coprime{q a:Nat}(hq:aI q)(h:¬q∣a):Nat.Coprime q a:=by
 rcases hq.2 (Nat.gcd q a) (Nat.gcd_dvd_left q a)with h1|h1
 ·exact h1
 ·exact absurd (h1▸Nat.gcd_dvd_right q a) h
theorem aI.dvd_mul{q a b:Nat}(hq:aI q)(h:q∣a*b):q∣a∨q∣b:=by
 by_cases ha:q∣a
 ·exact .inl ha
 ·exact .inr ((hq.coprime ha).dvd_of_dvd_mul_left h)
theorem aI.JQ{q:Nat}(hq:aI q):∀l:List Nat,(∀x∈l,aI x)→q∣l.foldr (· * ·) 1→q∈l
 | [],_,h=>by
  have:q=1:=Nat.eq_one_of_dvd_one h;have:=hq.1;omega
 |x::l,hl,h=>by
  rcases hq.dvd_mul h with h|h
  ·rcases(hl x (by simp)).2 q h with h1|h1
   ·have:=hq.1;omega
   ·simp[h1]
  ·exact List.mem_cons_of_mem _ (hq.JQ l (fun y hy=>hl y (by simp[hy])) h)
def pm(n:Nat):Nat→Nat→Nat→Nat
 |0,_,_=>1%n
 |f+1,a,e=>if e%2=1 then a*pm n f (a*a%n) (e/2)%n else pm n f (a*a%n) (e/2)
theorem TI(n:Nat):∀f a e,e<2 ^ f→pm n f a e=a ^ e%n:=by
 intro f
 induction f with
 |zero=>intro a e h;have:e=0:=by simpa using h
        subst this;simp[pm]
 |succ f ih=>
  intro a e h;have h2:e/2<2 ^ f:=by rw[Nat.pow_succ]at h;omega
  have hk:(a*a%n) ^ (e/2)%n=a ^ (2*(e/2))%n:=by
   rw[← Nat.pow_mod,Nat.pow_mul,Nat.pow_two]
  simp only[pm,ih _ _ h2,hk]
  split
  ·rename_i ho;rw[Nat.mul_mod,Nat.mod_mod,← Nat.mul_mod,Nat.mul_comm,← Nat.pow_succ]
   congr 2;omega
  ·rename_i ho
   congr 2;omega
theorem lO{n a k:Nat}(hn:2≤n)(h:a ^ k%n=1)(j:Nat):a ^ (k*j)%n=1:=by
 rw[Nat.pow_mul,Nat.pow_mod,h,Nat.one_pow,Nat.mod_eq_of_lt hn]
theorem E7{n a m:Nat}(hm:0<m)(h:a ^ m%n=1):
  ∃k,0<k∧a ^ k%n=1∧∀j,0<j→j<k→a ^ j%n≠1:=by
 induction m using Nat.strongRecOn with
 |_ m ih=>
  by_cases hs:∃j,0<j∧j<m∧a ^ j%n=1
  ·obtain⟨j,h0,h1,h2⟩:=hs;exact ih j h1 h0 h2
  ·exact⟨m,hm,h,fun j h0 h1 h2=>hs ⟨j,h0,h1,h2⟩⟩
theorem B9{n a k m:Nat}(hn:2≤n)(hk:0<k)(h1:a ^ k%n=1)(Vf:∀j,0<j→j<k→a ^ j%n≠1)
  (hm:a ^ m%n=1):k∣m:=by
 have e:a ^ m=a ^ (k*(m/k))*a ^ (m%k):=by
  rw[← Nat.pow_add,Nat.div_add_mod]
 rw[e,Nat.mul_mod,lO hn h1,Nat.one_mul,Nat.mod_mod]at hm
 by_cases hr:m%k=0
 ·exact Nat.dvd_of_mod_eq_zero hr
 ·exact absurd hm (Vf _ (by omega) (Nat.mod_lt _ hk))
theorem tX:∀ (m:Nat) (l:List Nat),l.Nodup→(∀x∈l,1≤x∧x≤m)→m≤l.length→∀x,1≤x→x≤m→x∈l
 |0,_,_,_,_,x,h1,h2=>by omega
 |m+1,l,hd,hl,hlen,x,h1,h2=>by
  have Vo:m+1∈l:=by
   refine Classical.byContradiction fun sO=>?_
   have Ro:∀y∈l,1≤y∧y≤m:=fun y hy=>by
    have:=hl y hy;have:y≠m+1:=fun e=>sO (e▸hy);omega
   have:=length_le m l hd Ro;omega
  have hd':(l.erase (m+1)).Nodup:=hd.erase _;have aJ2:(l.erase (m+1)).length=l.length-1:=List.length_erase_of_mem Vo
  have Ro:∀y∈l.erase (m+1),1≤y∧y≤m:=fun y hy=>by
   have Hd:=(List.Nodup.mem_erase_iff hd).1 hy;have:=hl y Hd.2;have:=Hd.1;omega
  by_cases hx:x=m+1
  ·exact hx▸Vo
  ·exact List.mem_of_mem_erase (tX m (l.erase (m+1)) hd' Ro (by omega) x h1 (by omega))
where
 length_le:∀ (m:Nat) (l:List Nat),l.Nodup→(∀x∈l,1≤x∧x≤m)→l.length≤m
  |0,l,_,hl=>by
   cases l with
   |nil=>simp
   |cons a l=>have:=hl a (by simp);omega
  |m+1,l,hd,hl=>by
   have hd':(l.erase (m+1)).Nodup:=hd.erase _
   have Ro:∀y∈l.erase (m+1),1≤y∧y≤m:=fun y hy=>by
    have Hd:=(List.Nodup.mem_erase_iff hd).1 hy;have:=hl y Hd.2;have:=Hd.1;omega
   have:=length_le m _ hd' Ro;have h3:= @List.length_erase Nat _ _ (m+1) l
   split at h3<;>omega
def gf(n a:Nat):Prop:=2≤n∧a ^ (n-1)%n=1∧∀x,x%n≠0→∃i,a ^ i%n=x%n
theorem aDk{n a:Nat}{l:List Nat}(hn:2≤n)(hl:∀q∈l,aI q)(hp:l.foldr (· * ·) 1=n-1)
  (h1:a ^ (n-1)%n=1) (hq:∀q∈l,a ^ ((n-1)/q)%n≠1):gf n a:=by
 refine⟨hn,h1,?_⟩
 by_cases hn2:n=2
 ·subst hn2;intro x hx;exact⟨0,by simp;omega⟩
 obtain⟨k,hk,hk1,Vf⟩:=E7 (m:=n-1) (by omega) h1;have aHU:=B9 hn hk hk1 Vf h1
 have hkn:k=n-1:=by
  refine Classical.byContradiction fun gD=>?_;obtain⟨c,hc⟩:=aHU
  have hc2:2≤c:=by
   rcases Nat.lt_or_ge c 2 with h|h
   ·have:c=0∨c=1:=(by omega);rcases this with rfl|rfl
    ·simp at hc;omega
    ·simp at hc;omega
   ·exact h
  obtain⟨q,hqp,c',rfl⟩:=vU c hc2;have Vo:q∈l:=hqp.JQ l hl (by rw[hp,hc];exact⟨k*c',by rw[Nat.mul_left_comm]⟩);refine hq q Vo ?_
  have:(n-1)/q=k*c':=by
   rw[hc,Nat.mul_left_comm];exact Nat.mul_div_cancel_left _ (by have:=hqp.1;omega)
  rw[this];exact lO hn hk1 c'
 subst hkn
 have hinv:∀i,a ^ i%n≠0:=by
  intro i h0;have:a ^ ((n-1)*(i+1))%n=1:=lO hn h1 _
  have e:(n-1)*(i+1)=i+((n-1)*(i+1)-i):=by
   have:i≤(n-1)*(i+1):=Nat.le_trans (by omega) (Nat.le_mul_of_pos_left (i+1) (by omega));omega
  rw[e,Nat.pow_add,Nat.mul_mod,h0,Nat.zero_mul,Nat.zero_mod]at this;omega
 have Vr:∀i j,i<j→j<n-1→a ^ i%n≠a ^ j%n:=by
  intro i j hij hj he
  have e1:a ^ (j+(n-1-i))%n=1:=by
   rw[Nat.pow_add,Nat.mul_mod,← he,← Nat.mul_mod,← Nat.pow_add];have:i+(n-1-i)=n-1:=(by omega);rw[this];exact h1
  have e2:j+(n-1-i)=(n-1)+(j-i):=by omega
  rw[e2,Nat.pow_add,Nat.mul_mod,h1,Nat.one_mul,Nat.mod_mod]at e1;exact Vf (j-i) (by omega) (by omega) e1
 intro x hx
 have hnd:((List.range (n-1)).map fun i=>a ^ i%n).Nodup:=by
  rw[List.nodup_iff_pairwise_ne,List.pairwise_map];refine List.Pairwise.imp_of_mem ?_ (List.pairwise_lt_range (n:=n-1));intro i j hi hj hij;exact Vr i j hij (by simpa using hj)
 have:=tX (n-1) _ hnd (fun y hy=>by
  obtain⟨i,_,rfl⟩:=List.mem_map.1 hy;have:=hinv i;have:=Nat.mod_lt (a ^ i) (show 0<n by omega);omega) (by simp) (x%n) (by omega) (by have:=Nat.mod_lt x (show 0<n by omega);omega)
 obtain⟨i,_,hi⟩:=List.mem_map.1 this;exact⟨i,hi⟩
theorem gf.vV{n a:Nat}(h:gf n a){x:Nat}(hx:x%n≠0):x ^ (n-1)%n=1:=by
 obtain⟨hn,h1,hs⟩:=h;obtain⟨i,hi⟩:=hs x hx;rw[Nat.pow_mod,← hi,← Nat.pow_mod,← Nat.pow_mul,Nat.mul_comm];exact lO hn h1 i
theorem gf.dW{n a:Nat}(h:gf n a):aI n:=by
 refine⟨h.1,fun m hm=>?_⟩;refine Classical.byContradiction fun gD=>?_;have hn:=h.1;have hle:m≤n:=Nat.le_of_dvd (by omega) hm;have h1:m≠1:=fun e=>gD (.inl e);have h2:m≠n:=fun e=>gD (.inr e)
 have h0:m≠0:=by
  rintro rfl
  have:=Nat.eq_zero_of_zero_dvd hm;omega
 have hf:=h.vV (x:=m) (by rw[Nat.mod_eq_of_lt (by omega)];exact h0)
 have hd:m∣m ^ (n-1):=by
  rw[show n-1=(n-2)+1 from by omega,Nat.pow_succ];exact Nat.dvd_mul_left m _
 have:m∣m ^ (n-1)%n:=(Nat.dvd_mod_iff hm).2 hd;rw[hf]at this;exact h1 (Nat.eq_one_of_dvd_one this)
def check(n a f:Nat)(l:List Nat):Bool:=
 decide (2≤n)&&decide (n-1<2 ^ f)&&l.foldr (· * ·) 1==n-1&&pm n f a (n-1)==1&&l.all fun q=>pm n f a ((n-1)/q)!=1
theorem aX{n a f:Nat}{l:List Nat}(hl:∀q∈l,aI q)(h:check n a f l=true):gf n a:=by
 simp only[check,Bool.and_eq_true,decide_eq_true_eq,beq_iff_eq,List.all_eq_true,bne_iff_ne]at h;obtain⟨⟨⟨⟨hn,hf⟩,hp⟩,h1⟩,hq⟩:=h;refine aDk hn hl hp ?_ ?_
 ·rw[← TI n f a _ hf];exact h1
 ·intro q hm;rw[← TI n f a _ (Nat.lt_of_le_of_lt (Nat.div_le_self _ _) hf)];exact hq q hm
def TJ(n:Nat):Nat→Nat→Bool
 |0,_=>true
 |k+1,d=>if d*d>n then true else n%d !=0&&TJ n k (d+1)
theorem OU(n:Nat):∀k d,TJ n k d=true→(d+k)*(d+k)>n→∀m,d≤m→m*m≤n→¬m∣n:=by
 intro k
 induction k with
 |zero=>intro d _ hgt m h1 h2;exfalso;have:=Nat.mul_le_mul h1 h1;simp at hgt;omega
 |succ k ih=>
  intro d h hgt m h1 h2 hd;unfold TJ at h
  split at h
  ·have:=Nat.mul_le_mul h1 h1;omega
  ·simp only[Bool.and_eq_true,bne_iff_ne]at h
   by_cases he:m=d
   ·subst he;exact h.1 (Nat.mod_eq_zero_of_dvd hd)
   ·exact ih (d+1) h.2 (by rw[show d+1+k=d+(k+1) by omega];exact hgt) m (by omega) h2 hd
theorem aO{n:Nat}(k:Nat)(hn:2≤n)(hk:(2+k)*(2+k)>n)(h:TJ n k 2=true):aI n:=by
 have hs:=OU n k 2 h hk;refine⟨hn,fun m hm=>?_⟩;refine Classical.byContradiction fun gD=>?_;have h1:m≠1:=fun e=>gD (.inl e);have h2:m≠n:=fun e=>gD (.inr e);obtain⟨c,hc⟩:=hm;have h0:m≠0:=by rintro rfl;simp at hc;omega
 have Rh:c≠0:=by rintro rfl;simp at hc;omega
 have hc1:c≠1:=by rintro rfl;simp at hc;omega
 by_cases hmc:m≤c
 ·exact hs m (by omega) (by rw[hc];exact Nat.mul_le_mul_left m hmc) ⟨c,hc⟩
 ·exact hs c (by omega) (by rw[hc];exact Nat.mul_le_mul_right c (by omega)) ⟨m,by rw[hc,Nat.mul_comm]⟩
end BJ
end
