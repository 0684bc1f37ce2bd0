/- What the laws lean on, part 16: a reader of code, plain facts, and what each function gives; no conditions. -/
import Derived.Test.YtnbkagglkajbkaaGreatB15
set_option linter.unusedVariables false
set_option linter.unusedSimpArgs false
noncomputable section
namespace Go.Proofs.YtnbkagglkajbkaaGreat
open Go Go.Ev Go.Proofs.Tryz
open Go.IntKind (i64 signed u16 u64 wrap)
set_option maxRecDepth 1000000
abbrev aoY:ar:=ya aJ
theorem aex:aoY.Ok Tryz.prog 22:=B4
abbrev Qq:ar:=eSi nv
theorem LM:Qq.Ok Tryz.prog 38:=ajw
abbrev TH:aW (List LV) (List Int×cH×List Int×Unit):=ae cB (ae (si vG) (ae (ah (e9 false false u8)) ag))
abbrev LN:Type:=(List Int)×(List Int)×(List Int)×Int×Int×(List Int)×Int×Int×Int×(List Int)×(List Int)×(List Int)
abbrev LO:aW St LN:=(bD (jk 2 (ae (ah (e9 false false (Ty.int IntKind.u8))) (ak (ah (aP (0) (0))) (ak (ah
 (aP (1) (0))) (jk 3 (ak (ah (tJ (2) (0))) (ak (ah (tJ (3) (0))) (ae (ah (e9 false false (Ty.int IntKind.u8))) (jk 14 (ae (ah
 (e9 false false (Ty.int i64))) (ae (ah (ay i64)) (ae (ah (ay i64)) (jk 66 ag))))))))))))) (ae (iF (22)
 ((ae (se (Ty.int IntKind.u8) (32)) ag))) (ae (iF (26) ((ae (ay i64) (ae (ay u64) (ae (ay u64) (ae
 (e9 false false (Ty.int i64)) ag)))))) (ae (eG (0) (Ty.int IntKind.u8)) (ae (eG (0) (Ty.int IntKind.u8)) ag))))).nH (fun y=>
 (y.1.1,y.1.2.1,y.1.2.2.1,y.1.2.2.2.1,y.1.2.2.2.2.1,y.2.1.1,y.2.2.1.1,y.2.2.1.2.1,y.2.2.1.2.2.1,y.2.2.1.2.2.2.1,y.2.2.2.1,y.2.2.2.2.1)) (fun
 x=>((x.1,(x.2.1,(x.2.2.1,(x.2.2.2.1,(x.2.2.2.2.1,()))))),((x.2.2.2.2.2.1,()),((x.2.2.2.2.2.2.1,(x.2.2.2.2.2.2.2.1,(x.2.2.2.2.2.2.2.2.1,
 (x.2.2.2.2.2.2.2.2.2.1,())))),(x.2.2.2.2.2.2.2.2.2.2.1,(x.2.2.2.2.2.2.2.2.2.2.2,())))))) (fun _=>rfl)
abbrev aey:List Wk:= [.eW 8 u8,.eW 9 u8,.fr (dK 94 [(2,.an),(3,.an),(4,.an),(8,.an),(9,.an),(10,.an),(25,.an),
 (26,.an),(27,.an)]),.syms,.auto,.aN]
abbrev alM:Exit→List Wk:=Di aey 0 [.eW 8 u8,.eW 9 u8,.fr (dK 94 [(2,.an),(3,.an),(4,.an),(8,.an),(9,.an)]),.syms,
 .auto,.aN] [.eW 8 u8,.eW 9 u8,.fr (dK 94 [(6,.an),(7,.an)]),.syms,.auto,.aN]
def Hq(rest:List Int)(sz:List Int)(i:Int):List Int:= [(aK (List.take (sz.getD i.toNat (0:Int)-0).toNat (List.drop
 0 rest))).snd].flatten
def Hr(rest:List Int)(sz:List Int)(i:Int)(F:List Int):Nat:=F.length+(aK (List.take (sz.getD i.toNat (0:Int)-
 0).toNat (List.drop 0 rest))).snd.length
abbrev Qr:Type:=Int
abbrev aez(x:Qr):Exit×St:=(Exit.ret,⟨(jK 6 (LV.one (VV.sc (SV.g9 (Value.slice none 0 0)))::(LV.one (VV.sc (SV.int
 i64 (SI.sym x)))::(jK 86 [])))),[]⟩)
abbrev Qs:Type:=(List Int)×(List Int)×Int×Int×Int×(List Int)×(List Int)×(List Int)
abbrev aeA(x:Qs):Exit×St:=(Exit.exit 0,⟨(jK 2 (LV.one (VV.sc (SV.rd false false (Ty.int IntKind.u8) x.1))::(LV.one
 (VV.sc (SV.ptr 0 0))::(LV.one (VV.sc (SV.ptr 1 0))::(jK 3 (LV.one (VV.sc (SV.sl 2 0))::(LV.one (VV.sc (SV.sl 3 0))::(jK 84 [])))))))),[some
 (Item.bm [SV.arr (Ty.int IntKind.u8) 32 x.2.1] 22),some (Item.bm [SV.int i64 (SI.sym x.2.2.1),SV.int u64 (SI.sym x.2.2.2.1),SV.int
 u64 (SI.sym x.2.2.2.2.1),SV.rd false false (Ty.int i64) x.2.2.2.2.2.1] 26),some (Item.own 0 (Ty.int IntKind.u8) x.2.2.2.2.2.2.1),
 some (Item.own 0 (Ty.int IntKind.u8) x.2.2.2.2.2.2.2)]⟩)
def LP(d':List Int)(rest:List Int)(sz:List Int)(m:Int)(i:Int)(s':List Int)(pk:Int)(pv:Int)(pf:Int)(ps:
 List Int) (L:List Int) (F:List Int):Tr (LN⊕(Qr⊕Qs)):=(.ite (decide (i<m)) (.need (0≤i∧i<(↑sz.length:Int)) (.need ((0:
 Int)≤0∧0≤sz.getD i.toNat 0∧sz.getD i.toNat 0≤(↑rest.length:Int)) (.ite (decide ¬(aK (List.take (sz.getD i.toNat (0:Int)-0).toNat
 (List.drop 0 rest))).fst=0) (.need (nc (List.take (sz.getD i.toNat (0:Int)-0).toNat (List.drop 0 rest))) (.ite ((aK (List.take
 (sz.getD i.toNat (0:Int)-0).toNat (List.drop 0 rest))).fst !=0) (.ret (.inr (.inl ((aK (List.take (sz.getD i.toNat (0:Int)-0).toNat
 (List.drop 0 rest))).fst)))) (.need (0≤sz.getD i.toNat 0∧sz.getD i.toNat 0≤(↑rest.length:Int)∧(↑rest.length:Int)≤(↑rest.length:Int))
 (.need (1<2305843009213693952∧0<1152921504606846976) (.need ((0:Int)≤0∧(0:Int)≤64∧(64:Int)≤64) (.need ((L.length+64)*1≤
 70368744177664∧L.length+64≤70368744177664) (.need ((F.length+0)*1≤70368744177664∧F.length+0≤70368744177664) (.ret (.inl (d',
 List.take ((↑rest.length:Int)-sz.getD i.toNat 0).toNat (List.drop (Int.toNat (sz.getD i.toNat 0)) rest),sz,m,i64.wrap (i+1),s',pk,
 pv,pf,ps,L++List.take 64 (List.drop 0 (aJ [[]].flatten)),F++ [])))))))))) (.need (nc (List.take (sz.getD i.toNat (0:Int)-0).toNat
 (List.drop 0 rest))) (.ite ((0:Int)!=0) (.ret (.inr (.inl (0)))) (.need (0≤sz.getD i.toNat 0∧sz.getD i.toNat 0≤(↑rest.length:Int)∧
 (↑rest.length:Int)≤(↑rest.length:Int)) (.need (1<2305843009213693952∧(Hq rest sz i).length<1152921504606846976) (.need ((0:Int)≤0∧
 (0:Int)≤64∧(64:Int)≤64) (.need ((L.length+64)*1≤70368744177664∧L.length+64≤70368744177664) (.need (Hr rest sz i F*1≤
 70368744177664∧Hr rest sz i F≤70368744177664) (.ret (.inl (d',List.take ((↑rest.length:Int)-sz.getD i.toNat 0).toNat (List.drop (Int.toNat
 (sz.getD i.toNat 0)) rest),sz,m,i64.wrap (i+1),s',pk,pv,pf,ps,L++List.take 64 (List.drop 0 (aJ (Hq rest sz i))),F++
 (aK (List.take (sz.getD i.toNat (0:Int)-0).toNat (List.drop 0 rest))).snd))))))))))))) (.ret (.inr (.inr (d',s',pk,pv,pf,ps,L,F)))))
theorem Xr(s:List Int)(p:cH)(d:List Int)(d':List Int)(rest:List Int)(sz:List Int)(m:Int)(i:Int)(s':List Int)(pk:Int)(pv:Int)(pf:Int)(ps:List Int)(L:List Int)(F:List Int):ee Tryz.prog [(36,aet),(37,Gr),(22,aoY),(38,Qq),(41,am5),(40,rh),(39,VI),(42,F4)] [] f12 0 ((ag).wr (())) alM (LO.wr (d',rest,sz,m,i,s',pk,pv,pf,ps,L,F))=(LP d' rest sz m i s' pk pv pf ps L F).res LO.wr (Sum.elim aez aeA):=by kernel_rfl
def je:List Int→List Int→List Int→List Int→Int×List Int×List Int
 | [],_,L,F=>(0,L,F)
 |n::l,rest,L,F=>if(aK (rest.take n.toNat)).1≠0 then((aK (rest.take n.toNat)).1,[],[])else je l (rest.drop n.toNat) (L++aJ (aK (rest.take n.toNat)).2) (F++(aK (rest.take n.toNat)).2)
theorem xq(b:List Int):(aK b).2.length≤4100:=by
 unfold aK
 split
 ·simp
 ·split
  ·simp
  ·rename_i h;have:=(abM (b:=b) (by simpa using h)).2;simp;omega
abbrev yW(d':List Int)(rest:List Int)(sz:List Int)(m:Int)(i:Int)(s':List Int)(pk:Int)(pv:Int)(pf:Int)(ps:List Int)(L:List Int)(F:List Int):Prop:=m=sz.length∧0≤i∧i≤m∧m≤16∧oh (sz.drop i.toNat) rest.length=true∧al rest∧rest.length<1099511627776∧L.length≤64*i∧F.length≤4100*i
abbrev aeB(d':List Int)(rest:List Int)(sz:List Int)(m:Int)(i:Int)(s':List Int)(pk:Int)(pv:Int)(pf:Int)(ps:List Int)(L:List Int)(F:List Int):Bool:=decide ((je (sz.drop i.toNat) rest L F).1≠0)
abbrev aeC(d':List Int)(rest:List Int)(sz:List Int)(m:Int)(i:Int)(s':List Int)(pk:Int)(pv:Int)(pf:Int)(ps:List Int)(L:List Int)(F:List Int):Qr:=(je (sz.drop i.toNat) rest L F).1
abbrev aeD(d':List Int)(rest:List Int)(sz:List Int)(m:Int)(i:Int)(s':List Int)(pk:Int)(pv:Int)(pf:Int)(ps:List Int)(L:List Int)(F:List Int):Qs:=(d',s',pk,pv,pf,ps,(je (sz.drop i.toNat) rest L F).2)
abbrev aeE:LN→aZ:=sj (fun x_=>yW x_.1 x_.2.1 x_.2.2.1 x_.2.2.2.1 x_.2.2.2.2.1 x_.2.2.2.2.2.1 x_.2.2.2.2.2.2.1 x_.2.2.2.2.2.2.2.1 x_.2.2.2.2.2.2.2.2.1 x_.2.2.2.2.2.2.2.2.2.1 x_.2.2.2.2.2.2.2.2.2.2.1 x_.2.2.2.2.2.2.2.2.2.2.2) (fun x_=>aeB x_.1 x_.2.1 x_.2.2.1 x_.2.2.2.1 x_.2.2.2.2.1 x_.2.2.2.2.2.1 x_.2.2.2.2.2.2.1 x_.2.2.2.2.2.2.2.1 x_.2.2.2.2.2.2.2.2.1 x_.2.2.2.2.2.2.2.2.2.1 x_.2.2.2.2.2.2.2.2.2.2.1 x_.2.2.2.2.2.2.2.2.2.2.2) (fun x_=>aeC x_.1 x_.2.1 x_.2.2.1 x_.2.2.2.1 x_.2.2.2.2.1 x_.2.2.2.2.2.1 x_.2.2.2.2.2.2.1 x_.2.2.2.2.2.2.2.1 x_.2.2.2.2.2.2.2.2.1 x_.2.2.2.2.2.2.2.2.2.1 x_.2.2.2.2.2.2.2.2.2.2.1 x_.2.2.2.2.2.2.2.2.2.2.2) (fun x_=>aeD x_.1 x_.2.1 x_.2.2.1 x_.2.2.2.1 x_.2.2.2.2.1 x_.2.2.2.2.2.1 x_.2.2.2.2.2.2.1 x_.2.2.2.2.2.2.2.1 x_.2.2.2.2.2.2.2.2.1 x_.2.2.2.2.2.2.2.2.2.1 x_.2.2.2.2.2.2.2.2.2.2.1 x_.2.2.2.2.2.2.2.2.2.2.2) aez aeA
theorem ajJ(d':List Int)(rest:List Int)(sz:List Int)(m:Int)(i:Int)(s':List Int)(pk:Int)(pv:Int)(pf:Int)(ps:List Int)(L:List Int)(F:List Int)(h_:yW d' rest sz m i s' pk pv pf ps L F):dO (fun x_:LN=>LP x_.1 x_.2.1 x_.2.2.1 x_.2.2.2.1 x_.2.2.2.2.1 x_.2.2.2.2.2.1 x_.2.2.2.2.2.2.1 x_.2.2.2.2.2.2.2.1 x_.2.2.2.2.2.2.2.2.1 x_.2.2.2.2.2.2.2.2.2.1 x_.2.2.2.2.2.2.2.2.2.2.1 x_.2.2.2.2.2.2.2.2.2.2.2) (d',rest,sz,m,i,s',pk,pv,pf,ps,L,F) (bif aeB d' rest sz m i s' pk pv pf ps L F then .inl (aeC d' rest sz m i s' pk pv pf ps L F)else .inr (aeD d' rest sz m i s' pk pv pf ps L F)):=by
 delta aeB aeC aeD;obtain⟨rfl,h1,h2,h3,h4,h5,h6,h7,h8⟩:=h_;obtain⟨k,rfl⟩:∃k:Nat,i=k:=⟨i.toNat,by omega⟩;obtain⟨j,hj⟩:∃j:Nat,sz.length-k=j:=⟨_,rfl⟩;rw[Int.toNat_natCast]at h4 ⊢
 induction j generalizing k rest L F with
 |zero=>
  rw[List.drop_eq_nil_of_le (by omega),je];refine .stop ?_;simp only[LP,bl,aq];exact⟨fun h=>by omega,fun _=>by simp⟩
 |succ j ih=>
  have hk:k<sz.length:=by omega
  rw[lN 0 hk]at h4 ⊢;rw[oh,Bool.and_eq_true]at h4;rw[je];have e1:decide ((k:Int)<sz.length)=true:=decide_eq_true (by omega);have ea0:Hq rest sz (k:Int)=(aK (List.take (sz.getD k 0-0).toNat (List.drop 0 rest))).2:=by unfold Hq;rw[Int.toNat_natCast];simp
  have Ma:Hr rest sz (k:Int) F=F.length+(aK (List.take (sz.getD k 0-0).toNat (List.drop 0 rest))).2.length:=by unfold Hr;rw[Int.toNat_natCast]
  rw[Int.sub_zero,List.drop_zero]at ea0 Ma;generalize hx:sz.getD k 0=x at*;have hs:=of_decide_eq_true h4.1;have hfl:=xq (rest.take x.toNat);have j3:=cR (aK (rest.take x.toNat)).2;have p0:nc (rest.take x.toNat):=⟨fun z hz=>h5 z (List.mem_of_mem_take hz),by rw[List.length_take];omega⟩
  have es:List.take 64 (List.drop 0 (aJ (aK (rest.take x.toNat)).2))=aJ (aK (rest.take x.toNat)).2:=by
   rw[List.drop_zero,List.take_of_length_le (by omega)]
  have er:List.take ((rest.length:Int)-x).toNat (List.drop x.toNat rest)=rest.drop x.toNat:=List.take_of_length_le (by rw[List.length_drop];omega)
  by_cases c:(aK (rest.take x.toNat)).1=0
  ·rw[if_neg (by simpa using c)];have d1:decide ¬(aK (rest.take x.toNat)).1=0=false:=(by simpa using c);have d2:((0:Int)!=0)=false:=rfl
   refine .go ?_ (ih (rest.drop x.toNat) (L++aJ (aK (rest.take x.toNat)).2) (F++(aK (rest.take x.toNat)).2) (fun z hz=>h5 z (List.mem_of_mem_drop hz)) (by rw[List.length_drop];omega) (k+1) (by omega) (by omega) (by
    rw[List.length_drop,show((rest.length-x.toNat:Nat):Int)=rest.length-x from by omega];exact h4.2) (by rw[List.length_append,j3];omega) (by rw[List.length_append];omega) (by omega))
   simp only[LP,e1,bx,ao,aq,Int.toNat_natCast,hx,Int.sub_zero,List.drop_zero,d1,d2,cf,ea0,Ma];rw[List.drop_zero]at es;rw[es,er,ax (by omega) (by omega)];exact⟨⟨by omega,by omega⟩,⟨by omega,by omega,by omega⟩,p0,⟨by omega,by omega,by omega⟩,⟨by decide,by omega⟩,⟨by omega,by omega,by omega⟩,⟨by omega,by omega⟩,⟨by omega,by omega⟩,rfl⟩
  ·rw[if_pos c];have d1:decide ¬(aK (rest.take x.toNat)).1=0=true:=(by simpa using c);have d2:((aK (rest.take x.toNat)).1!=0)=true:=(by simpa using c);refine .stop ?_;simp only[LP,e1,bx,ao,aq,Int.toNat_natCast,hx,Int.sub_zero,List.drop_zero,d1,d2];exact⟨⟨by omega,by omega⟩,⟨by omega,by omega,by omega⟩,p0,rfl⟩
theorem aeF(s:List Int)(p:cH)(d:List Int):∀x:LN,Ex Tryz.prog ((ag).wr (())) (.loop (aV f12 0)) (LO.wr x) (aeE x):=
 du mixed ((aj TD (aj DB (aj aex (aj LM (aj aaW (aj wY (aj Om (aj pG aE))))))))) (ws:=alM) (aO.nil _) (fun x_=>Xr s p d x_.1 x_.2.1 x_.2.2.1 x_.2.2.2.1 x_.2.2.2.2.1 x_.2.2.2.2.2.1 x_.2.2.2.2.2.2.1 x_.2.2.2.2.2.2.2.1 x_.2.2.2.2.2.2.2.2.1 x_.2.2.2.2.2.2.2.2.2.1 x_.2.2.2.2.2.2.2.2.2.2.1 x_.2.2.2.2.2.2.2.2.2.2.2) (fun z=>by cases z<;>(intro e;cases e)) wy (fun x_ h=>ajJ x_.1 x_.2.1 x_.2.2.1 x_.2.2.2.1 x_.2.2.2.2.1 x_.2.2.2.2.2.1 x_.2.2.2.2.2.2.1 x_.2.2.2.2.2.2.2.1 x_.2.2.2.2.2.2.2.2.1 x_.2.2.2.2.2.2.2.2.2.1 x_.2.2.2.2.2.2.2.2.2.2.1 x_.2.2.2.2.2.2.2.2.2.2.2 h)
def TI(p:Int×Int×Int×List Int)(d:List Int):List Int:= [(je (List.drop 0 p.snd.snd.snd) d [] []).snd.fst].flatten
def aeG(p:Int×Int×Int×List Int):Int×Int×Int×List Int:=p
def TJ(s:List Int)(p:Int×Int×Int×List Int)(d:List Int):List Int:=bN p.fst (↑p.snd.snd.snd.length:Int)
def LQ(s:List Int)(p:Int×Int×Int×List Int)(d:List Int):List Int:=cG p.snd.fst p.snd.snd.fst (↑d.length:Int)
 (aJ (TI p d)) (aJ [d].flatten)
def Ef(s:List Int)(p:Int×Int×Int×List Int)(d:List Int):List Int×Int:=nv s [98,111,111,116,106,97,99,
 107] (ct (lD (TJ s p d) (LQ s p d) (List.replicate 64 (0:Int))))
def Hs(s:List Int)(p:Int×Int×Int×List Int)(d:List Int):List Int:= [lD (TJ s p d) (LQ s p d) (Ef s p
 d).fst,(je (List.drop 0 p.snd.snd.snd) d [] []).snd.fst,(je (List.drop 0 p.snd.snd.snd) d [] []).snd.snd].flatten
abbrev ajK:Type:=(List Int)×Int
abbrev as0(x:ajK):LV:=LV.cT [VV.sc (SV.rd true false (Ty.int IntKind.u8) x.1),VV.sc (SV.int i64 (SI.sym x.2))]
abbrev as1(x:ajK):List (Nat×Ev.Item):= []
def aoZ(s:List Int)(p:Int×Int×Int×List Int)(d:List Int):Tr (ajK):=(.need (yU (aeG p) d) (.ite (!oM (aeG
 p) (↑d.length:Int)) (.ret ([],1)) (.need (yW d d p.snd.snd.snd (↑p.snd.snd.snd.length:Int) 0 s p.fst p.snd.fst p.snd.snd.fst p.snd.snd.snd []
 []) (.ite (decide ¬(je (List.drop 0 p.snd.snd.snd) d [] []).fst=0) (.ret ([],(je (List.drop 0 p.snd.snd.snd) d [] []).fst)) (.need (1<
 2305843009213693952∧(TI p d).length<1152921504606846976) (.need (1<2305843009213693952∧ [d].flatten.length<1152921504606846976) (.need (0≤
 p.snd.fst∧p.snd.fst<18446744073709551616∧0≤p.snd.snd.fst∧p.snd.snd.fst<18446744073709551616) (.need ((lD (TJ s p d) (LQ s p d)
 (List.replicate 64 (0:Int))).length<1152921504606846976) (.need (s.length=32∧64=64) (.ite ((Ef s p d).snd !=0) (.ret ([],(Ef s p
 d).snd)) (.need (0≤p.snd.fst∧p.snd.fst<18446744073709551616∧0≤p.snd.snd.fst∧p.snd.snd.fst<18446744073709551616) (.need ((Hs s p
 d).length≤70368744177664∧3≤140737488355328) (.ret (Hs s p d,0))))))))))))))
theorem aeH(s:List Int)(p:cH)(d:List Int):aT Tryz.prog [(36,aet),(37,Gr),(22,aoY),(38,Qq),(41,am5),(40,rh),(39,VI),(42,F4)] [(0,cV LO ((ag).wr (())) aey (aeE))] f12 ((TH).wr (s,p,d,())) ((ag).wr (())) [.eW 8 u8,.eW 9 u8,.MP,.fr [.rd true u8],.fr [.sym],.syms,.auto,.aN]=(aoZ s p d).end as0 as1 ((ag).wr (())):=by kernel_rfl
theorem ajL(s:List Int)(p:cH)(d:List Int):aO Tryz.prog ((ag).wr (())) [(0,cV LO ((ag).wr (())) aey (aeE))] (aG f12):=(aO.cU (nJ (by kernel_rfl) (cJ (hp:=(ag).wr (())) (aeF s p d)) oI))
def Ht:List Int:=List.replicate 64 0
def yc(s:List Int)(p:cH)(d L:List Int):List Int:=
 lD (bN p.1 p.2.2.2.length) (cG p.2.1 p.2.2.1 d.length (aJ L) (aJ d)) (nv s kA (ct (lD (bN p.1 p.2.2.2.length) (cG p.2.1 p.2.2.1 d.length (aJ L) (aJ d)) Ht))).1
def au(s:List Int)(p:cH)(d:List Int):Int×List Int:=
 if oM p d.length=false then(1,[])
 else if(je p.2.2.2 d [] []).1≠0 then((je p.2.2.2 d [] []).1,[])
 else(0,yc s p d (je p.2.2.2 d [] []).2.1++(je p.2.2.2 d [] []).2.1++(je p.2.2.2 d [] []).2.2)
theorem TK:∀ (l rest L F:List Int),(je l rest L F).2.1.length≤L.length+64*l.length∧(je l rest L F).2.2.length≤F.length+4100*l.length
 | [],_,L,F=>by simp[je]
 |n::l,rest,L,F=>by
  rw[je]
  split
  ·simp
  ·have h1:=xq (rest.take n.toNat);have h2:=cR (aK (rest.take n.toNat)).2;obtain⟨k1,k2⟩:=TK l (rest.drop n.toNat) (L++aJ (aK (rest.take n.toNat)).2) (F++(aK (rest.take n.toNat)).2);rw[List.length_append]at k1 k2;rw[List.length_cons];omega
theorem ajM(c v s:Int)(a b:List Int):(cG c v s a b).length≤152:=by
 unfold cG
 split
 ·simp only[List.length_append,List.length_take,eu];omega
 ·simp
theorem aeI(h m g:List Int):(lD h m g).length≤h.length+m.length+64:=by
 unfold lD
 split
 ·simp
 ·simp only[List.length_append,List.length_take];omega
theorem kB{p:cH}{n:Int}(h:oM p n=true):0≤p.1∧p.1<8∧1≤p.2.2.2.length∧p.2.2.2.length≤16∧p.2.2.1≤p.2.1∧oh p.2.2.2 n=true∧dT p.2.2.2=n:=by
 unfold oM at h;rw[Bool.and_eq_true,Bool.and_eq_true]at h;have h1:=of_decide_eq_true h.1;have h2:=of_decide_eq_true h.2.2;exact⟨h1.1,h1.2.1,h1.2.2.1,h1.2.2.2.1,h1.2.2.2.2,h.2.1,by omega⟩
theorem Xs(s m:List Int):(nv s kA m).2=0:=by
 rw[qg,if_pos (by decide)]
abbrev lq(s:List Int)(p:cH)(d:List Int):Prop:=s.length=32∧al d∧d.length<1099511627776∧p.2.2.2.length<1099511627776∧0≤p.2.1∧p.2.1<18446744073709551616∧0≤p.2.2.1∧p.2.2.1<18446744073709551616
abbrev ao0(s:List Int)(p:cH)(d:List Int):ajK:=((au s p d).2,(au s p d).1)
def Qt:ar:=dm [none,some (.int .i64),some u8] (TH) (ag) (fun x_ y_=>lq x_.1 x_.2.1 x_.2.2.1) (fun x_ y_=>ao0 x_.1 x_.2.1 x_.2.2.1) as0 as1
theorem ao1(s:List Int)(p:cH)(d:List Int)(h_:lq s p d):(aoZ s p d).Is (ao0 s p d):=by
 delta ao0;obtain⟨h1,h2,h3,h4,h5,h6,h7,h8⟩:=h_;have q2:aeG p=p:=rfl;have p0:yU p d:=⟨h3,h4⟩;simp only[aoZ,q2,ao];refine⟨p0,?_⟩
 cases hm:oM p d.length with
 |false=>
  have e:au s p d=(1,[]):=by unfold au;rw[if_pos hm]
  simp only[e,Bool.not_false,bx,aq]
 |true=>
  obtain⟨m1,m2,m3,m4,m5,m6,m7⟩:=kB hm;have p1:yW d d p.2.2.2 (p.2.2.2.length:Int) 0 s p.1 p.2.1 p.2.2.1 p.2.2.2 [] []:=⟨rfl,by omega,by omega,by omega,m6,h2,h3,by simp,by simp⟩;simp only[Bool.not_true,cf,ao,List.drop_zero];refine⟨p1,?_⟩;obtain⟨l1,l2⟩:=TK p.2.2.2 d [] [];have q0:TI p d=(je p.2.2.2 d [] []).2.1:=by unfold TI;simp
  have q7:TJ s p d=bN p.1 p.2.2.2.length:=rfl;have q8:LQ s p d=cG p.2.1 p.2.2.1 d.length (aJ (je p.2.2.2 d [] []).2.1) (aJ d):=by unfold LQ;rw[q0];simp
  have q9:Ef s p d=nv s kA (ct (lD (bN p.1 p.2.2.2.length) (cG p.2.1 p.2.2.1 d.length (aJ (je p.2.2.2 d [] []).2.1) (aJ d)) Ht)):=by unfold Ef;rw[q7,q8];rfl
  have q10:Hs s p d=yc s p d (je p.2.2.2 d [] []).2.1++(je p.2.2.2 d [] []).2.1++(je p.2.2.2 d [] []).2.2:=by
   unfold Hs yc;rw[q7,q8,q9];simp
  by_cases c:(je p.2.2.2 d [] []).1=0
  ·have e:au s p d=(0,yc s p d (je p.2.2.2 d [] []).2.1++(je p.2.2.2 d [] []).2.1++(je p.2.2.2 d [] []).2.2):=(by unfold au;rw[if_neg (by rw[hm];simp),if_neg (by simpa using c)]);have c1:decide ¬(je p.2.2.2 d [] []).1=0=false:=(by simpa using c);have c2:((Ef s p d).2!=0)=false:=(by rw[q9,Xs];rfl);have hh:=Dr p.1 p.2.2.2.length;have hmn:=ajM p.2.1 p.2.2.1 d.length (aJ (je p.2.2.2 d [] []).2.1) (aJ d);have hlb:=fun g=>aeI (bN p.1 p.2.2.2.length) (cG p.2.1 p.2.2.1 d.length (aJ (je p.2.2.2 d [] []).2.1) (aJ d)) g;have hll:(yc s p d (je p.2.2.2 d [] []).2.1).length≤224:=(by unfold yc;have:=hlb (nv s kA (ct (lD (bN p.1 p.2.2.2.length) (cG p.2.1 p.2.2.1 d.length (aJ (je p.2.2.2 d [] []).2.1) (aJ d)) Ht))).1;omega);have hl2:=hlb (List.replicate 64 0);simp only[e,c1,c2,cf,ao,aq];rw[q7,q8,q10,q0];refine⟨⟨by decide,?_⟩,⟨by decide,by simp;omega⟩,⟨h5,h6,h7,h8⟩,?_,⟨h1,trivial⟩,⟨h5,h6,h7,h8⟩,⟨?_,by decide⟩,rfl⟩
   ·simp only[List.length_nil]at l1;omega
   ·omega
   ·simp only[List.length_append,List.length_nil]at l1 l2 ⊢;omega
  ·have e:au s p d=((je p.2.2.2 d [] []).1,[]):=(by unfold au;rw[if_neg (by rw[hm];simp),if_pos c]);have c1:decide ¬(je p.2.2.2 d [] []).1=0=true:=(by simpa using c);simp only[e,c1,bx,aq]
theorem xr:Qt.Ok Tryz.prog 12:=
 bY mixed ((aj TD (aj DB (aj aex (aj LM (aj aaW (aj wY (aj Om (aj pG aE))))))))) func12 (by kernel_rfl) call12 (fun x_ y_=>ajL x_.1 x_.2.1 x_.2.2.1) (fun x_ y_=>aeH x_.1 x_.2.1 x_.2.2.1) (fun x_ y_ h=>ao1 x_.1 x_.2.1 x_.2.2.1 h)
def fO:List Int→List Int→List (List Int)
 | [],_=> []
 |n::l,rest=>(aK (rest.take n.toNat)).2::fO l (rest.drop n.toNat)
theorem TM:∀ (l rest L F:List Int),(je l rest L F).1=0→je l rest L F=(0,L++((fO l rest).map aJ).flatten,F++(fO l rest).flatten)∧
  ∀a n b,l=a++n::b→(aK ((rest.drop (dT a).toNat).take n.toNat)).1=0∨¬ (∀x∈a,0≤x)
 | [],rest,L,F,_=>by
  refine⟨by simp[je,fO],fun a n b h=>?_⟩;simp at h
 |n::l,rest,L,F,h=>by
  rw[je]at h ⊢
  split at h
  ·rename_i c;exact absurd h c
  ·rename_i c;rw[if_neg c];obtain⟨h1,h2⟩:=TM l _ _ _ h;refine⟨by rw[h1,fO];simp,fun a m b e=>?_⟩
   cases a with
   |nil=>
    simp at e;obtain⟨rfl,rfl⟩:=e;left;simp only[dT];simpa using c
   |cons x a=>
    simp at e;obtain⟨rfl,rfl⟩:=e;have:=h2 a m b rfl
    by_cases hx:∀y∈n::a,0≤y
    ·left;have h0:0≤n:=hx n (by simp)
     have h3:0≤dT a:=by
      have:∀a:List Int,(∀y∈a,0≤y)→0≤dT a:=fun a=>by
       induction a with
       |nil=>intro _;simp[dT]
       |cons y a ih=>intro h;have:=ih fun z hz=>h z (List.mem_cons_of_mem _ hz);have:=h y (by simp);rw[dT];omega
      exact this a fun y hy=>hx y (List.mem_cons_of_mem _ hy)
     rcases this with h|h
     ·rw[dT,show(n+dT a).toNat=n.toNat+(dT a).toNat from by omega,← List.drop_drop];exact h
     ·exact absurd (fun y hy=>hx y (List.mem_cons_of_mem _ hy)) h
    ·exact .inr hx
theorem LR{b:List Int}(hb:al b)(h0:b.length≠0)(h:b.length≤500):(aK b).1=0:=by
 unfold aK;rw[if_neg h0,if_neg (by rw[abI hb h];simp)]
theorem Eg:∀ (l rest L F:List Int),al rest→rest.length≤500→oh l rest.length=true→(je l rest L F).1=0
 | [],rest,L,F,_,_,_=>rfl
 |n::l,rest,L,F,h1,h2,h3=>by
  rw[oh,Bool.and_eq_true]at h3;have hn:=of_decide_eq_true h3.1;have hl:(rest.take n.toNat).length=n.toNat:=by rw[List.length_take];omega
  have hf:(aK (rest.take n.toNat)).1=0:=LR (fun z hz=>h1 z (List.mem_of_mem_take hz)) (by omega) (by omega);rw[je,if_neg (by rw[hf];simp)];refine Eg l _ _ _ (fun z hz=>h1 z (List.mem_of_mem_drop hz)) (by rw[List.length_drop];omega) ?_;rw[List.length_drop,show((rest.length-n.toNat:Nat):Int)=rest.length-n from by omega];exact h3.2
theorem LS:∀ (l:List Int) (n:Int),oh l n=true→(l.length:Int)≤dT l∧dT l≤8192*l.length∧(∀x∈l,1≤x∧x≤8192)
 | [],n,_=>by simp[dT]
 |s::l,n,h=>by
  rw[oh,Bool.and_eq_true]at h;have hs:=of_decide_eq_true h.1;obtain⟨h1,h2,h3⟩:=LS l _ h.2;refine⟨by rw[dT,List.length_cons];omega,by rw[dT,List.length_cons];omega,fun x hx=>?_⟩;rcases List.mem_cons.1 hx with rfl|hx
  ·omega
  ·exact h3 x hx
theorem aeJ(s m:List Int):(nv s kA m).1.length=64∧al (nv s kA m).1:=by
 rw[qg,if_pos (by decide)];exact⟨(vC s kA m).2.1,(vC s kA m).2.2⟩
theorem vI{s:List Int}{p:cH}{d L:List Int}(h:oM p d.length=true):bN p.1 p.2.2.2.length= [66,74,75,49,p.1,p.2.2.2.length,0,0]∧hZ p.2.1 p.2.2.1 d.length=true∧(cG p.2.1 p.2.2.1 d.length (aJ L) (aJ d)).length=152∧(yc s p d L).length=224:=by
 obtain⟨m1,m2,m3,m4,m5,m6,m7⟩:=kB h;obtain⟨k1,k2,k3⟩:=LS _ _ m6;have e1:bN p.1 p.2.2.2.length= [66,74,75,49,p.1,p.2.2.2.length,0,0]:=by unfold bN;rw[if_pos ⟨m1,m2,by omega,by omega⟩]
 have e2:hZ p.2.1 p.2.2.1 d.length=true:=by unfold hZ;exact decide_eq_true ⟨m5,by omega,by omega⟩
 have e3:(cG p.2.1 p.2.2.1 d.length (aJ L) (aJ d)).length=152:=by
  unfold cG;rw[if_pos e2];simp only[List.length_append,List.length_take,eu,cR];rfl
 refine⟨e1,e2,e3,?_⟩;unfold yc lD;rw[if_neg (by rw[e3,e1];simp)];simp only[List.length_append,List.length_take,e3,(aeJ _ _).1,e1];rfl
theorem g7{s:List Int}{p:cH}{d:List Int}(h:(au s p d).1=0):oM p d.length=true∧(je p.2.2.2 d [] []).1=0∧
  (au s p d).2=yc s p d (((fO p.2.2.2 d).map aJ).flatten)++(((fO p.2.2.2 d).map aJ).flatten++(fO p.2.2.2 d).flatten):=by
 unfold au at*
 split at h
 ·cases h
 ·rename_i c;rw[if_neg c]
  split at h
  ·rename_i c2;exact absurd h c2
  ·rename_i c2;rw[if_neg c2];have c2:(je p.2.2.2 d [] []).1=0:=(by simpa using c2);refine⟨by simpa using c,c2,?_⟩;rw[(TM _ _ _ _ c2).1];simp
theorem Cb{s:List Int}{p:cH}{d:List Int}(h:oM p d.length=true)(hd:al d)(hl:d.length≤500):(au s p d).1=0:=by
 have:=Eg p.2.2.2 d [] [] hd hl (kB h).2.2.2.2.2.1;unfold au;rw[if_neg (by rw[h];simp),if_neg (by rw[this];simp)]
theorem vJ:∀ (l rest:List Int),(fO l rest).length=l.length
 | [],_=>rfl
 |n::l,rest=>by rw[fO,List.length_cons,List.length_cons,vJ l]
theorem qk:∀ (l:List (List Int)),((l.map aJ).flatten).length=64*l.length
 | []=>rfl
 |x::l=>by rw[List.map_cons,List.flatten_cons,List.length_append,qk l,cR,List.length_cons];omega
theorem vK{s:List Int}{p:cH}{d:List Int}(h:(au s p d).1=0):(au s p d).2.length=224+64*p.2.2.2.length+(fO p.2.2.2 d).flatten.length:=by
 obtain⟨h1,h2,h3⟩:=g7 h;rw[h3,List.length_append,List.length_append,(vI h1).2.2.2,qk,vJ];omega
theorem jZ{b:List Int}(hb:al b)(h:(aK b).1=0):(gH b).1=0∧b.length≠0∧
  (aK b).2= [((gH b).2.length:Int)%256,((gH b).2.length:Int)/256,(b.length:Int)%256,(b.length:Int)/256]++(gH b).2:=by
 unfold aK at*
 split at h
 ·cases h
 ·rename_i c;rw[if_neg c]
  split at h
  ·rename_i c2;exact absurd h c2
  ·rename_i c2;rw[if_neg c2];exact⟨by simpa using c2,c,rfl⟩
theorem aeK{b:List Int}(hb:al b)(h:(aK b).1=0):al (aK b).2:=by
 obtain⟨h1,h2,h3⟩:=jZ hb h;obtain⟨u1,u2,u3,u4,u5,u6⟩:=wV hb h1;rw[h3];refine al.append (al.cons ⟨by omega,by omega⟩ (al.cons ⟨by omega,by omega⟩ (al.cons ⟨by omega,by omega⟩ (al.cons ⟨by omega,by omega⟩ al.nil)))) u6
theorem ql{x y p:Int}{i:Nat}{l:List Int}(h1:l.getD i 0=p%256)(h2:l.getD (i+1) 0=p/256)(h3:0≤p)(h4:p<65536):two l i=p:=by
 rw[anr (by rw[h1];exact⟨by omega,by omega⟩) (by rw[h2];exact⟨by omega,by omega⟩),h1,h2];omega
theorem Qu{p n:Int}{q more:List Int}(hp:(q.length:Int)=p)(h1:1≤p)(h2:p≤4096)(h3:1≤n)(h4:n≤8192):
  J4 ([p%256,p/256,n%256,n/256]++q++more)=(if(eR q n).1≠0 then((eR q n).1,[],0)else(0,(eR q n).2,4+p))∧eQ ([p%256,p/256,n%256,n/256]++q++more)=true∧two ([p%256,p/256,n%256,n/256]++q++more) 0=p:=by
 have t0:two ([p%256,p/256,n%256,n/256]++q++more) 0=p:=ql (x:=0) (y:=0) rfl rfl (by omega) (by omega);have t2:two ([p%256,p/256,n%256,n/256]++q++more) 2=n:=ql (x:=0) (y:=0) rfl rfl (by omega) (by omega)
 have hs:eQ ([p%256,p/256,n%256,n/256]++q++more)=true:=by
  unfold eQ;rw[t0,t2];exact decide_eq_true ⟨h1,h2,h3,h4⟩
 refine⟨?_,hs,t0⟩
 have hq:List.take p.toNat (List.drop 4 ([p%256,p/256,n%256,n/256]++q++more))=q:=by
  have e:List.drop 4 ([p%256,p/256,n%256,n/256]++q++more)=q++more:=rfl;rw[e,List.take_append_of_le_length (by omega),List.take_of_length_le (by omega)]
 unfold J4;rw[t0,t2,hq,if_neg (by simp),if_neg (by rw[hs];simp),if_neg (by simp;omega)]
theorem ajN{p n:Int}{q:List Int}{k:Nat}(h:4≤k):List.take k ([p%256,p/256,n%256,n/256]++q)= [p%256,p/256,n%256,n/256]++q.take (k-4):=by
 rw[List.take_append,List.take_of_length_le (by simpa using h)];rfl
theorem qm:∀ (l rest L F L' F':List Int),(je l rest L F).1=(je l rest L' F').1
 | [],_,_,_,_,_=>rfl
 |n::l,rest,L,F,L',F'=>by
  rw[je,je]
  split
  ·rfl
  ·exact qm l _ _ _ _ _
theorem aeL:∀ (l rest:List Int),al rest→(je l rest [] []).1=0→al (fO l rest).flatten∧(fO l rest).flatten.length≤4100*l.length
 | [],rest,_,_=>⟨al.nil,by simp[fO]⟩
 |n::l,rest,hr,h=>by
  rw[je]at h
  split at h
  ·rename_i c;exact absurd h c
  ·rename_i c;have c:(aK (rest.take n.toNat)).1=0:=(by simpa using c);obtain⟨h1,h2⟩:=aeL l (rest.drop n.toNat) (fun z hz=>hr z (List.mem_of_mem_drop hz)) (by rw[qm l _ [] [] _ _];exact h);have hf:=xq (rest.take n.toNat);rw[fO,List.flatten_cons];exact⟨(aeK (fun z hz=>hr z (List.mem_of_mem_take hz)) c).append h1,by rw[List.length_append,List.length_cons];omega⟩
end Go.Proofs.YtnbkagglkajbkaaGreat
end
noncomputable section
namespace Go.Proofs.YtnbkagglkajbkaaGreat
open Go Go.Ev BJ Go.Proofs.Tryz
open Go.IntKind (i64 signed u16 u64 wrap)
set_option maxRecDepth 1000000
def aC(k:List Int):List (List Int):=List.replicate 8 k
def yd(p:cH)(d:List Int):MM:=⟨p.2.1,p.2.2.1,d.length,aJ (((fO p.2.2.2 d).map aJ).flatten),aJ d⟩
def kC(s:List Int)(p:cH)(d:List Int):dh:=⟨p.1,p.2.2.2.length,yd p d,bkG s p.1 p.2.2.2.length (yd p d)⟩
def gE(s:List Int)(p:cH)(d:List Int):List Int:=yc s p d (((fO p.2.2.2 d).map aJ).flatten)
def xt(p:cH):Prop:=0≤p.2.1∧p.2.1<18446744073709551616∧0≤p.2.2.1∧p.2.2.1<18446744073709551616
theorem aeM{s:List Int}{p:cH}{d:List Int}(h:oM p d.length=true):gE s p d=(Mf s p.1 p.2.2.2.length (yd p d)).p:=by
 obtain⟨e1,e2,e3,e4⟩:=vI (s:=s) (L:=((fO p.2.2.2 d).map aJ).flatten) h;have hn:¬ ((bN p.1 p.2.2.2.length).length=0∨(cG p.2.1 p.2.2.1 d.length (aJ (((fO p.2.2.2 d).map aJ).flatten)) (aJ d)).length=0):=by rw[e1,e3];simp
 have hs:ct (lD (bN p.1 p.2.2.2.length) (cG p.2.1 p.2.2.1 d.length (aJ (((fO p.2.2.2 d).map aJ).flatten)) (aJ d)) Ht)=ct (bN p.1 p.2.2.2.length++cG p.2.1 p.2.2.1 d.length (aJ (((fO p.2.2.2 d).map aJ).flatten)) (aJ d)):=by
  have hl:(bN p.1 p.2.2.2.length++cG p.2.1 p.2.2.1 d.length (aJ (((fO p.2.2.2 d).map aJ).flatten)) (aJ d)).length=160:=by rw[List.length_append,e1,e3];rfl
  unfold ct lD;rw[if_neg hn,List.take_left' hl,List.take_of_length_le (by omega)]
 unfold gE yc;rw[hs];rfl
theorem head_take{s:List Int}{p:cH}{d:List Int}(h:oM p d.length=true):(gE s p d).length=224∧aU ((gE s p d).take 8)=((p.1,(p.2.2.2.length:Int)),true):=by
 obtain⟨e1,e2,e3,e4⟩:=vI (s:=s) (L:=((fO p.2.2.2 d).map aJ).flatten) h;refine⟨e4,?_⟩
 have ht:(gE s p d).take 8=bN p.1 p.2.2.2.length:=by
  unfold gE yc lD;rw[if_neg (by rw[e1,e3];simp),List.append_assoc,List.take_left' (by rw[e1];rfl)]
 rw[ht];exact vD (by rw[e1];simp)
theorem Xt{s:List Int}{p:cH}{d:List Int}(h:oM p d.length=true)(hs:s.length=32)(hp:xt p):Qn (aC (aH s)) (gE s p d)=(kC s p d,0):=by
 obtain⟨e1,e2,e3,e4⟩:=vI (s:=s) (L:=((fO p.2.2.2 d).map aJ).flatten) h
 have po:okB (aH s):=by
  rw[show aH s=yb (dR (sc (ln s)) bJ)from sT (jy (rv s))];exact yT _
 have H:=LI (s:=s) (o:=aH s) (a:=p.1) (b:=p.2.2.2.length) (m:=yd p d) hs po hp ⟨cR _,qf _⟩ ⟨cR _,qf _⟩ (by rw[e1];simp) (by show(cG p.2.1 p.2.2.1 d.length (aJ (((fO p.2.2.2 d).map aJ).flatten)) (aJ d)).length≠0;rw[e3];decide);rw[aeM h,← LJ];exact H.k1
theorem sU{s:List Int}{p:cH}{d more:List Int}{fl rm:Int}(h:oM p d.length=true)(hs:s.length=32)(hp:xt p):
  aS (aC (aH s)) fl rm (gE s p d++more)=if rm<d.length then(10,more,gd)else if p.2.1<fl then(9,more,gd)else(0,more,kC s p d):=by
 obtain⟨l1,l2⟩:=head_take (s:=s) h;have l3:=Xt (s:=s) (d:=d) h hs hp;obtain⟨m1,m2,m3,m4,m5,m6,m7⟩:=kB h;have t8:(gE s p d++more).take 8=(gE s p d).take 8:=List.take_append_of_le_length (by omega);have t224:(gE s p d++more).take 224=gE s p d:=List.take_left' l1;have d224:(gE s p d++more).drop 224=more:=List.drop_left' l1;have hl:(gE s p d++more).length=224+more.length:=by rw[List.length_append,l1]
 unfold aS;rw[if_neg (by omega),t8,l2,if_neg (by simp),if_neg (by simp only[aC,List.length_replicate];omega),if_neg (by omega),t224,d224,l3,if_neg (by simp)];rfl
theorem LU{b more:List Int}{left:Int}(hb:al b)(h:(aK b).1=0)(hl:(b.length:Int)≤left):jz ((aK b).2++more) left (aJ (aK b).2)=(0,more,b):=by
 obtain⟨h1,h2,h3⟩:=jZ hb h;obtain⟨u1,u2,u3,u4,u5,u6⟩:=wV hb h1;obtain⟨k1,k2,k3⟩:=Qu (p:=((gH b).2.length:Int)) (n:=b.length) (q:=(gH b).2) (more:=more) rfl (by omega) (by omega) (by omega) (by omega);rw[← h3]at k1 k2 k3;have k4:two ((aK b).2++more) 2=b.length:=by rw[h3];exact ql (x:=0) (y:=0) rfl rfl (by omega) (by omega)
 have hlen:(aK b).2.length=4+(gH b).2.length:=by rw[h3];simp;omega
 have et:((aK b).2++more).take (4+((gH b).2.length:Int)).toNat=(aK b).2:=List.take_left' (by omega);have ed:((aK b).2++more).drop (4+((gH b).2.length:Int)).toNat=more:=List.drop_left' (by omega)
 have eq:List.take ((gH b).2.length:Int).toNat (((aK b).2++more).drop 4)=(gH b).2:=by
  rw[h3];have e:List.drop 4 ([((gH b).2.length:Int)%256,((gH b).2.length:Int)/256,(b.length:Int)%256,(b.length:Int)/256]++(gH b).2++more)=(gH b).2++more:=rfl;rw[e,List.take_append_of_le_length (by omega),List.take_of_length_le (by omega)]
 have ep:eR (gH b).2 b.length=(0,b):=by unfold eR;rw[if_neg (by rw[u1];simp),u2]
 unfold jz;rw[if_neg (by rw[List.length_append];omega),if_neg (by rw[k2];simp),k4,if_neg (by omega),k3,if_neg (by rw[List.length_append];omega),et,if_neg (by simp),ed,eq,ep]
theorem ajO{b:List Int}{left:Int}{sum:List Int}{k:Nat}(hb:al b)(h:(aK b).1=0)(hl:(b.length:Int)≤left)(hk:k<(aK b).2.length):(jz ((aK b).2.take k) left sum).1=16:=by
 obtain⟨h1,h2,h3⟩:=jZ hb h;obtain⟨u1,u2,u3,u4,u5,u6⟩:=wV hb h1;have hlen:(aK b).2.length=4+(gH b).2.length:=by rw[h3];simp;omega
 by_cases c:k<4
 ·unfold jz;rw[if_pos (by rw[List.length_take];omega)]
 ·obtain⟨t0,t2,ts⟩:two ((aK b).2.take k) 0=(gH b).2.length∧two ((aK b).2.take k) 2=b.length∧eQ ((aK b).2.take k)=true:=by
   rw[h3,ajN (by omega)];have t0:two ([((gH b).2.length:Int)%256,((gH b).2.length:Int)/256,(b.length:Int)%256,(b.length:Int)/256]++(gH b).2.take (k-4)) 0=(gH b).2.length:=ql (x:=0) (y:=0) rfl rfl (by omega) (by omega);have t2:two ([((gH b).2.length:Int)%256,((gH b).2.length:Int)/256,(b.length:Int)%256,(b.length:Int)/256]++(gH b).2.take (k-4)) 2=b.length:=ql (x:=0) (y:=0) rfl rfl (by omega) (by omega);exact⟨t0,t2,by unfold eQ;rw[t0,t2];exact decide_eq_true ⟨by omega,by omega,by omega,by omega⟩⟩
  unfold jz;rw[if_neg (by rw[List.length_take];omega),if_neg (by rw[ts];simp),t2,if_neg (by omega),t0,if_pos (by rw[List.length_take];omega)]
theorem yX{x:Int}{l rest:List Int}(h:(je (x::l) rest [] []).1=0):(aK (rest.take x.toNat)).1=0∧(je l (rest.drop x.toNat) [] []).1=0:=by
 rw[je]at h
 split at h
 ·rename_i c;exact absurd h c
 ·rename_i c;exact⟨by simpa using c,by rw[qm _ _ [] [] _ _];exact h⟩
theorem LW:∀ (l:List Int) (k:Nat) (L rest d more:List Int) (n:Int),al rest→oh l rest.length=true→dT l=rest.length→(je l rest [] []).1=0→L.drop (64*k)=((fO l rest).map aJ).flatten→(d.length:Int)+rest.length≤n→
  lp l.length k L n ((fO l rest).flatten++more) d=(0,more,d++rest)
 | [],k,L,rest,d,more,n,_,_,h,_,_,_=>by
  rw[dT]at h;have:rest= []:=List.length_eq_zero_iff.1 (by omega);subst this;simp[fO,lp]
 |x::l,k,L,rest,d,more,n,hb,ho,hs,hm,hL,hn=>by
  rw[oh,Bool.and_eq_true]at ho;have hx:=of_decide_eq_true ho.1;rw[dT]at hs;obtain⟨m1,m2⟩:=yX hm;have hbt:al (rest.take x.toNat):=fun z hz=>hb z (List.mem_of_mem_take hz);have eV:(rest.take x.toNat).length=x.toNat:=by rw[List.length_take];omega
  have hld:(rest.drop x.toNat).length=rest.length-x.toNat:=List.length_drop;rw[fO,List.map_cons,List.flatten_cons]at hL;have j3:=cR (aK (rest.take x.toNat)).2;have Y3:=LU (b:=rest.take x.toNat) (more:=(fO l (rest.drop x.toNat)).flatten++more) (left:=n-d.length) hbt m1 (by omega);have aeN:(L.drop (64*k)).take 64=aJ (aK (rest.take x.toNat)).2:=by rw[hL,List.take_left' j3]
  have ih:=LW l (k+1) L (rest.drop x.toNat) (d++rest.take x.toNat) more n (fun z hz=>hb z (List.mem_of_mem_drop hz)) (by rw[hld,show((rest.length-x.toNat:Nat):Int)=rest.length-x by omega];exact ho.2) (by omega) m2 (by rw[show 64*(k+1)=64*k+64 by omega,← List.drop_drop,hL,List.drop_left' j3]) (by rw[List.length_append];omega);rw[List.length_cons,lp,fO,List.flatten_cons,List.append_assoc,aeN,Y3,if_neg (by simp),ih,List.append_assoc,List.take_append_drop]
theorem TN:∀ (l:List Int) (k j:Nat) (L rest d:List Int) (n:Int),al rest→oh l rest.length=true→dT l=rest.length→(je l rest [] []).1=0→L.drop (64*k)=((fO l rest).map aJ).flatten→(d.length:Int)+rest.length≤n→j<(fO l rest).flatten.length→
  (lp l.length k L n ((fO l rest).flatten.take j) d).1=16
 | [],k,j,L,rest,d,n,_,_,_,_,_,_,hj=>by simp[fO]at hj
 |x::l,k,j,L,rest,d,n,hb,ho,hs,hm,hL,hn,hj=>by
  rw[oh,Bool.and_eq_true]at ho;have hx:=of_decide_eq_true ho.1;rw[dT]at hs;obtain⟨m1,m2⟩:=yX hm;have hbt:al (rest.take x.toNat):=fun z hz=>hb z (List.mem_of_mem_take hz);have eV:(rest.take x.toNat).length=x.toNat:=by rw[List.length_take];omega
  have hld:(rest.drop x.toNat).length=rest.length-x.toNat:=List.length_drop;rw[fO,List.map_cons,List.flatten_cons]at hL;rw[fO,List.flatten_cons,List.length_append]at hj;have j3:=cR (aK (rest.take x.toNat)).2;have aeN:(L.drop (64*k)).take 64=aJ (aK (rest.take x.toNat)).2:=by rw[hL,List.take_left' j3]
  rw[List.length_cons,lp,fO,List.flatten_cons,aeN,List.take_append]
  by_cases c:j<(aK (rest.take x.toNat)).2.length
  ·have h0:=ajO (left:=n-d.length) (sum:=aJ (aK (rest.take x.toNat)).2) hbt m1 (by omega) c;rw[Nat.sub_eq_zero_of_le (Nat.le_of_lt c),List.take_zero,List.append_nil,h0,if_pos (by decide)]
  ·have Y3:=LU (b:=rest.take x.toNat) (more:=(fO l (rest.drop x.toNat)).flatten.take (j-(aK (rest.take x.toNat)).2.length)) (left:=n-d.length) hbt m1 (by omega);rw[List.take_of_length_le (Nat.le_of_not_lt c),Y3,if_neg (by simp)];exact TN l (k+1) _ L (rest.drop x.toNat) (d++rest.take x.toNat) n (fun z hz=>hb z (List.mem_of_mem_drop hz)) (by rw[hld,show((rest.length-x.toNat:Nat):Int)=rest.length-x by omega];exact ho.2) (by omega) m2 (by rw[show 64*(k+1)=64*k+64 by omega,← List.drop_drop,hL,List.drop_left' j3]) (by rw[List.length_append];omega) (by omega)
structure Made (s:List Int) (p:cH) (d:List Int):Prop where
 code:(au s p d).1=0
 hs:s.length=32
 hp:xt p
 hd:al d
theorem yY{s:List Int}{p:cH}{d:List Int}(h:Made s p d):al (au s p d).2∧(au s p d).2.length≤66848:=by
 obtain⟨k1,k2,k3⟩:=g7 h.code;obtain⟨m1,m2,m3,m4,m5,m6,m7⟩:=kB k1;obtain⟨e1,e2,e3,e4⟩:=vI (s:=s) (L:=((fO p.2.2.2 d).map aJ).flatten) k1
 have po:okB (aH s):=by
  rw[show aH s=yb (dR (sc (ln s)) bJ)from sT (jy (rv s))];exact yT _
 have H:=LI (s:=s) (o:=aH s) (a:=p.1) (b:=p.2.2.2.length) (m:=yd p d) h.hs po h.hp ⟨cR _,qf _⟩ ⟨cR _,qf _⟩ (by rw[e1];simp) (by show(cG p.2.1 p.2.2.1 d.length (aJ (((fO p.2.2.2 d).map aJ).flatten)) (aJ d)).length≠0;rw[e3];decide);obtain⟨f1,f2⟩:=aeL p.2.2.2 d h.hd k2
 have hs:∀l:List (List Int),al ((l.map aJ).flatten):=fun l=>by
  induction l with
  |nil=>exact al.nil
  |cons x l ih=>rw[List.map_cons,List.flatten_cons];exact(qf x).append ih
 have hl:=vK h.code;refine⟨?_,by omega⟩;rw[k3];exact(show al (gE s p d) by rw[aeM k1];exact H.pb).append ((hs _).append f1)
def vL(e:Int):Vd:=⟨e,gd,[],List.replicate 64 0⟩
theorem sV{ks:List (List Int)}{fl rm:Int}{b:List Int}{e:Int}(he:e≠0)(h:(dD ks fl rm b).1=e):bO ks fl rm b=vL e:=by
 unfold bO;simp only;rw[h,if_pos he];rfl
theorem qn{s:List Int}{p:cH}{d more:List Int}{fl rm:Int}(h:Made s p d):bO (aC (aH s)) fl rm ((au s p d).2++more)=
  if rm<d.length then vL 10 else if p.2.1<fl then vL 9 else if more.length≠0 then vL 6 else⟨0,kC s p d,d,aJ (cG p.2.1 p.2.2.1 d.length (yd p d).list (yd p d).plain++d)⟩:=by
 obtain⟨k1,k2,k3⟩:=g7 h.code;obtain⟨m1,m2,m3,m4,m5,m6,m7⟩:=kB k1;have hf:=sU (s:=s) (d:=d) (more:=((fO p.2.2.2 d).map aJ).flatten++(fO p.2.2.2 d).flatten++more) (fl:=fl) (rm:=rm) k1 h.hs h.hp;have e:(au s p d).2++more=gE s p d++(((fO p.2.2.2 d).map aJ).flatten++(fO p.2.2.2 d).flatten++more):=by rw[k3,List.append_assoc];rfl
 rw[e]
 by_cases c1:rm<d.length
 ·rw[if_pos c1]at hf ⊢;exact sV (by decide) (by unfold dD;rw[hf];rfl)
 by_cases c2:p.2.1<fl
 ·rw[if_neg c1,if_pos c2]at hf ⊢;exact sV (by decide) (by unfold dD;rw[hf];rfl)
 rw[if_neg c1,if_neg c2]at hf ⊢;have j3:(((fO p.2.2.2 d).map aJ).flatten).length=64*p.2.2.2.length:=by rw[qk,vJ]
 have LX:cK (((fO p.2.2.2 d).map aJ).flatten++(fO p.2.2.2 d).flatten++more) (kC s p d)=(0,(fO p.2.2.2 d).flatten++more,((fO p.2.2.2 d).map aJ).flatten):=by
  have hb:(kC s p d).blocks=(p.2.2.2.length:Int):=rfl;have e64:(64*(p.2.2.2.length:Int)).toNat=(((fO p.2.2.2 d).map aJ).flatten).length:=by rw[j3];omega
  have hlen:((((fO p.2.2.2 d).map aJ).flatten++(fO p.2.2.2 d).flatten++more).length:Int)=64*p.2.2.2.length+(fO p.2.2.2 d).flatten.length+more.length:=by simp only[List.length_append,j3];omega
  unfold cK;rw[hb,e64,hlen,if_neg (by omega),List.append_assoc,List.take_left' rfl,List.drop_left' rfl,if_neg (by show ¬aJ _≠aJ _;simp)]
 have dL:=LW p.2.2.2 0 (((fO p.2.2.2 d).map aJ).flatten) d [] more d.length h.hd m6 m7 (by rw[qm _ _ [] [] _ _];exact k2) (by simp) (by simp)
 have as2:Qo (kC s p d) more d=if more.length≠0 then 6 else 0:=by
  unfold Qo;rw[if_neg (by show ¬ (d.length:Int)<(d.length:Int);omega),if_neg (by show ¬aJ d≠aJ d;simp)]
 have hj:dD (aC (aH s)) fl rm (gE s p d++(((fO p.2.2.2 d).map aJ).flatten++(fO p.2.2.2 d).flatten++more))=(Qo (kC s p d) more d,more,kC s p d,((fO p.2.2.2 d).map aJ).flatten,d):=by
  unfold dD;rw[hf,if_neg (by simp)];simp only;rw[LX,if_neg (by simp)];simp only;rw[show(kC s p d).blocks.toNat=p.2.2.2.length from Int.toNat_natCast _,show(kC s p d).cC.len=(d.length:Int)from rfl,dL,if_neg (by simp)];simp
 by_cases c3:more.length=0
 ·rw[if_neg (by simpa using c3)];rw[as2,if_neg (by simpa using c3)]at hj;unfold bO;simp only;rw[hj,if_neg (by simp)];rfl
 ·rw[if_pos c3];rw[as2,if_pos c3]at hj;exact sV (by decide) (by rw[hj])
theorem ajP{s:List Int}{p:cH}{d:List Int}{rm:Int}{k:Nat}(h:Made s p d)(hr:(d.length:Int)≤rm)(hk:k<(au s p d).2.length):bO (aC (aH s)) 0 rm ((au s p d).2.take k)=vL 16:=by
 obtain⟨k1,k2,k3⟩:=g7 h.code;obtain⟨m1,m2,m3,m4,m5,m6,m7⟩:=kB k1;have hml:=vK h.code;obtain⟨l1,l2⟩:=head_take (s:=s) k1;have j3:(((fO p.2.2.2 d).map aJ).flatten).length=64*p.2.2.2.length:=by rw[qk,vJ]
 apply sV (by decide)
 rw[k3];rw[hml]at hk;have ht:∀j,j≤224→(gE s p d++(((fO p.2.2.2 d).map aJ).flatten++(fO p.2.2.2 d).flatten)).take j=(gE s p d).take j:=fun j hj=>List.take_append_of_le_length (by omega);show(dD _ _ _ ((gE s p d++(((fO p.2.2.2 d).map aJ).flatten++(fO p.2.2.2 d).flatten)).take k)).1=16
 by_cases c1:k<224
 ·have hf:(aS (aC (aH s)) 0 rm ((gE s p d).take k)).1=16:=by
   unfold aS
   by_cases c0:k<8
   ·rw[if_pos (by rw[List.length_take];omega)]
   ·rw[if_neg (by rw[List.length_take];omega),List.take_take,Nat.min_eq_left (by omega),l2,if_neg (by simp),if_neg (by simp only[aC,List.length_replicate];omega),if_pos (by rw[List.length_take];omega)]
  rw[ht k (by omega)];unfold dD;rw[hf,if_pos (by decide)]
 ·rw[List.take_append,l1,List.take_of_length_le (by omega)];have hf:=sU (s:=s) (d:=d) (more:=(((fO p.2.2.2 d).map aJ).flatten++(fO p.2.2.2 d).flatten).take (k-224)) (fl:=0) (rm:=rm) k1 h.hs h.hp;rw[if_neg (by omega),if_neg (by have:=h.hp.1;omega)]at hf;unfold dD;rw[hf,if_neg (by simp)];simp only;have hb:(kC s p d).blocks=(p.2.2.2.length:Int):=rfl
  by_cases c2:k-224<64*p.2.2.2.length
  ·have LX:(cK ((((fO p.2.2.2 d).map aJ).flatten++(fO p.2.2.2 d).flatten).take (k-224)) (kC s p d)).1=16:=by
    unfold cK;rw[hb,if_pos (by rw[List.length_take];omega)]
   rw[LX,if_pos (by decide)]
  ·rw[List.take_append,j3,List.take_of_length_le (by omega)];have e64:(64*(p.2.2.2.length:Int)).toNat=(((fO p.2.2.2 d).map aJ).flatten).length:=by rw[j3];omega
   have LX:cK (((fO p.2.2.2 d).map aJ).flatten++(fO p.2.2.2 d).flatten.take (k-224-64*p.2.2.2.length)) (kC s p d)=(0,(fO p.2.2.2 d).flatten.take (k-224-64*p.2.2.2.length),((fO p.2.2.2 d).map aJ).flatten):=by
    unfold cK;rw[hb,e64,if_neg (by rw[List.length_append];omega),List.take_left' rfl,List.drop_left' rfl,if_neg (by show ¬aJ _≠aJ _;simp)]
   have dL:=TN p.2.2.2 0 (k-224-64*p.2.2.2.length) (((fO p.2.2.2 d).map aJ).flatten) d [] d.length h.hd m6 m7 (by rw[qm _ _ [] [] _ _];exact k2) (by simp) (by simp) (by omega);rw[LX,if_neg (by simp)];simp only;rw[show(kC s p d).blocks.toNat=p.2.2.2.length from Int.toNat_natCast _,show(kC s p d).cC.len=(d.length:Int)from rfl,dL,if_pos (by decide)]
end Go.Proofs.YtnbkagglkajbkaaGreat
end
noncomputable section
namespace Go.Proofs.YtnbkagglkajbkaaGreat
open Go Go.Ev Go.Proofs.Tryz
open Go.IntKind (i64 signed u16 u64 wrap)
set_option maxRecDepth 1000000
abbrev ao2:ar:=eCk Qn
theorem ao3:ao2.Ok Tryz.prog 114:=by rw[ao2,← LJ];exact ael
abbrev CQ:ar:=ya aJ
theorem om:CQ.Ok Tryz.prog 22:=B4
abbrev TO{Y:Type}(r:aW (List SV) Y):=pH (uC (ae (se u8 64) r))
abbrev cJ0:aW (List SV) (List Int×dh):=(ae (e9 false false u8) (TO (ak amV (ak amV ag)))).nH (fun x=>(x.1,⟨x.2.1,x.2.2.1,⟨x.2.2.2.1,x.2.2.2.2.1,x.2.2.2.2.2.1,x.2.2.2.2.2.2.1,x.2.2.2.2.2.2.2.1⟩,x.2.2.2.2.2.2.2.2.1⟩)) (fun y=>(y.1,y.2.key,y.2.blocks,y.2.cC.ver,y.2.cC.gM,y.2.cC.len,y.2.cC.list,y.2.cC.plain,y.2.sign,())) (fun _=>rfl)
abbrev cJ1:aW (List SV) (List Int×dh×List Int):=(ae (e9 false false u8) (TO (ae (e9 false false u8) (ak amV ag)))).nH (fun x=>(x.1,⟨x.2.1,x.2.2.1,⟨x.2.2.2.1,x.2.2.2.2.1,x.2.2.2.2.2.1,x.2.2.2.2.2.2.1,x.2.2.2.2.2.2.2.1⟩,x.2.2.2.2.2.2.2.2.1⟩,x.2.2.2.2.2.2.2.2.2.1)) (fun y=>(y.1,y.2.1.key,y.2.1.blocks,y.2.1.cC.ver,y.2.1.cC.gM,y.2.1.cC.len,y.2.1.cC.list,y.2.1.cC.plain,y.2.1.sign,y.2.2,())) (fun _=>rfl)
abbrev cJ2:aW (List SV) (List Int×dh×List Int):=(ae (e9 false false u8) (TO (ae (e9 false false u8) (ak (tJ 1 0) ag)))).nH (fun x=>(x.1,⟨x.2.1,x.2.2.1,⟨x.2.2.2.1,x.2.2.2.2.1,x.2.2.2.2.2.1,x.2.2.2.2.2.2.1,x.2.2.2.2.2.2.2.1⟩,x.2.2.2.2.2.2.2.2.1⟩,x.2.2.2.2.2.2.2.2.2.1)) (fun y=>(y.1,y.2.1.key,y.2.1.blocks,y.2.1.cC.ver,y.2.1.cC.gM,y.2.1.cC.len,y.2.1.cC.list,y.2.1.cC.plain,y.2.1.sign,y.2.2,())) (fun _=>rfl)
abbrev cJ3:aW (List SV) (List Int×dh×List Int):=(ae (e9 false false u8) (TO (ae (e9 false false u8) (ak (tJ 1 1) ag)))).nH (fun x=>(x.1,⟨x.2.1,x.2.2.1,⟨x.2.2.2.1,x.2.2.2.2.1,x.2.2.2.2.2.1,x.2.2.2.2.2.2.1,x.2.2.2.2.2.2.2.1⟩,x.2.2.2.2.2.2.2.2.1⟩,x.2.2.2.2.2.2.2.2.2.1)) (fun y=>(y.1,y.2.1.key,y.2.1.blocks,y.2.1.cC.ver,y.2.1.cC.gM,y.2.1.cC.len,y.2.1.cC.list,y.2.1.cC.plain,y.2.1.sign,y.2.2,())) (fun _=>rfl)
abbrev jJ0:aW Ev.Item (List Int×dh):=wz 87 cJ0
abbrev jJ1:aW Ev.Item (List Int×dh×List Int):=wz 87 cJ1
abbrev jJ2:aW Ev.Item (List Int×dh×List Int):=wz 87 cJ2
abbrev jJ3:aW Ev.Item (List Int×dh×List Int):=wz 87 cJ3
abbrev CR:aW Hp ((List Int×dh)×Unit):=ae (dF jJ0) ag
abbrev X2:aW Hp ((List Int×dh×List Int)×List Int×Unit):=ae (dF jJ2) (ae (eG 0 u8) ag)
abbrev jfA:aW (List LV) (List (List Int)×Int×Int×Unit):=ak (ah (aP 0 0)) (ae (ah (e9 false false (.arr u8 32))) (ae (ah (ay .u64)) (ae (ah (ay .i64)) ag)))
theorem Hu{l:List Int}{n:Int}(h0:0≤n):List.take ((l.length:Int)-n).toNat (List.drop n.toNat l)=l.drop n.toNat:=List.take_of_length_le (by rw[List.length_drop];omega)
theorem aeO{b:List Int}(h:4≤b.length):two (b.take 4) 0=two b 0∧two (b.take 4) 2=two b 2∧eQ (b.take 4)=eQ b:=by
 have e:∀i:Nat,i<4→(b.take 4).getD i 0=b.getD i 0:=fun i hi=>by
  rw[List.getD_eq_getElem?_getD,List.getElem?_take,if_pos hi,List.getD_eq_getElem?_getD]
 have e0:two (b.take 4) 0=two b 0:=by unfold two;rw[e 0 (by decide),e 1 (by decide)]
 have e2:two (b.take 4) 2=two b 2:=by unfold two;rw[e 2 (by decide),e 3 (by decide)]
 exact⟨e0,e2,by unfold eQ;rw[e0,e2]⟩
abbrev Hv:Type:=List Int×dh
abbrev aeP(x:Hv):LV:=LV.cT [VV.sc (SV.g9 (Value.slice none 0 0)),VV.sc (SV.bool (SB.lit false))]
abbrev aeQ(x:Hv):List (Nat×Ev.Item):= [(0,jJ0.wr x)]
abbrev Hw:Type:=(List Int)×(List Int×dh)
abbrev aeR(x:Hw):LV:=LV.cT [VV.sc (SV.rd false false (Ty.int IntKind.u8) x.1),VV.sc (SV.bool (SB.lit true))]
abbrev aeS(x:Hw):List (Nat×Ev.Item):= [(0,jJ0.wr x.2)]
def TP(n:Int)(j:List Int×dh):Tr (Hv⊕Hw):=(.ite (decide ((↑j.fst.length:Int)<n)) (.ret (.inl (j))) (.need
 ((0:Int)≤0∧0≤n∧n≤(↑j.fst.length:Int)) (.need (0≤n∧n≤(↑j.fst.length:Int)∧(↑j.fst.length:Int)≤(↑j.fst.length:Int)) (.ret
 (.inr (List.take (n-0).toNat (List.drop 0 j.fst),(List.take ((↑j.fst.length:Int)-n).toNat (List.drop n.toNat j.fst),j.snd)))))))
theorem Xu(n:Int)(j:List Int×dh):aT Tryz.prog [] [] f154 ((oK).wr (n,())) ((CR).wr (j,())) [.auto,.aN]=(TP n j).end (Sum.elim aeP aeR) (Sum.elim aeQ aeS) ((CR).wr (j,())):=by kernel_rfl
theorem aeT(n:Int)(j:List Int×dh):aO Tryz.prog ((CR).wr (j,())) [] (aG f154):=(aO.nil _)
abbrev iQ(n:Int)(j:List Int×dh):Prop:=0≤n
abbrev TQ(n:Int)(j:List Int×dh):Bool:=decide ((j.1.length:Int)<n)
abbrev aeU(n:Int)(j:List Int×dh):Hv:=j
abbrev aeV(n:Int)(j:List Int×dh):Hw:=(j.1.take n.toNat,(j.1.drop n.toNat,j.2))
def aeW:ar:=Ab [] (oK) (CR) (fun x_ y_=>iQ x_.1 y_.1) (fun x_ y_=>TQ x_.1 y_.1) (fun x_ y_=>aeU x_.1 y_.1) (fun x_ y_=>aeV x_.1 y_.1) aeP aeQ aeR aeS
theorem ajQ(n:Int)(j:List Int×dh)(h_:iQ n j):(TQ n j=true→(TP n j).Is (.inl (aeU n j)))∧(TQ n j=false→(TP n j).Is (.inr (aeV n j))):=by
 delta TQ aeU aeV;have h_:0≤n:=h_;simp only[TP,bl,ao,aq,decide_eq_true_eq,decide_eq_false_iff_not,Hu h_];simp;omega
theorem TR:aeW.Ok Tryz.prog 154:=
 wx mixed aE func154 (by kernel_rfl) call154 (fun x_ y_=>aeT x_.1 y_.1) (fun x_ y_=>Xu x_.1 y_.1) (fun x_ y_ h=>ajQ x_.1 y_.1 h)
abbrev Hx:Type:=List Int×dh×List Int
abbrev aeX(x:Hx):LV:=LV.cT [VV.sc (SV.g9 (Value.slice none 0 0)),VV.sc (SV.bool (SB.lit false))]
abbrev aeY(x:Hx):List (Nat×Ev.Item):= [(0,jJ2.wr x)]
abbrev Hy:Type:=(List Int)×(List Int×dh×List Int)
abbrev aeZ(x:Hy):LV:=LV.cT [VV.sc (SV.rd false false (Ty.int IntKind.u8) x.1),VV.sc (SV.bool (SB.lit true))]
abbrev ae0(x:Hy):List (Nat×Ev.Item):= [(0,jJ2.wr x.2)]
def TS(n:Int)(j:List Int×dh×List Int)(d:List Int):Tr (Hx⊕Hy):=(.ite (decide ((↑j.fst.length:Int)<n))
 (.ret (.inl (j))) (.need ((0:Int)≤0∧0≤n∧n≤(↑j.fst.length:Int)) (.need (0≤n∧n≤(↑j.fst.length:Int)∧(↑j.fst.length:Int)≤
 (↑j.fst.length:Int)) (.ret (.inr (List.take (n-0).toNat (List.drop 0 j.fst),(List.take ((↑j.fst.length:Int)-n).toNat (List.drop n.toNat
 j.fst),j.snd)))))))
theorem Xv(n:Int)(j:List Int×dh×List Int)(d:List Int):aT Tryz.prog [] [] f154 ((oK).wr (n,())) ((X2).wr (j,d,())) [.auto,.aN]=(TS n j d).end (Sum.elim aeX aeZ) (Sum.elim aeY ae0) ((X2).wr (j,d,())):=by kernel_rfl
theorem ae1(n:Int)(j:List Int×dh×List Int)(d:List Int):aO Tryz.prog ((X2).wr (j,d,())) [] (aG f154):=(aO.nil _)
abbrev oo(n:Int)(j:List Int×dh×List Int)(d:List Int):Prop:=0≤n
abbrev TT(n:Int)(j:List Int×dh×List Int)(d:List Int):Bool:=decide ((j.1.length:Int)<n)
abbrev ae2(n:Int)(j:List Int×dh×List Int)(d:List Int):Hx:=j
abbrev ae3(n:Int)(j:List Int×dh×List Int)(d:List Int):Hy:=(j.1.take n.toNat,(j.1.drop n.toNat,j.2))
def alN:ar:=Ab [] (oK) (X2) (fun x_ y_=>oo x_.1 y_.1 y_.2.1) (fun x_ y_=>TT x_.1 y_.1 y_.2.1) (fun x_ y_=>ae2 x_.1 y_.1 y_.2.1) (fun x_ y_=>ae3 x_.1 y_.1 y_.2.1) aeX aeY aeZ ae0
theorem ajR(n:Int)(j:List Int×dh×List Int)(d:List Int)(h_:oo n j d):(TT n j d=true→(TS n j d).Is (.inl (ae2 n j d)))∧(TT n j d=false→(TS n j d).Is (.inr (ae3 n j d))):=by
 delta TT ae2 ae3;have h_:0≤n:=h_;simp only[TS,bl,ao,aq,decide_eq_true_eq,decide_eq_false_iff_not,Hu h_];simp;omega
theorem ajS:alN.Ok Tryz.prog 154:=
 wx mixed aE func154 (by kernel_rfl) call154 (fun x_ y_=>ae1 x_.1 y_.1 y_.2.1) (fun x_ y_=>Xv x_.1 y_.1 y_.2.1) (fun x_ y_ h=>ajR x_.1 y_.1 y_.2.1 h)
abbrev TU:Type:=(List Int)×Int
abbrev alO(x:TU):LV:=LV.cT [VV.sc (SV.rd true false (Ty.int IntKind.u8) x.1),VV.sc (SV.int i64 (SI.sym x.2))]
abbrev alP(x:TU):List (Nat×Ev.Item):= []
def TV(b:List Int)(plain:Int):Tr (TU):=(.ite (decide ¬(cn b plain).fst=0) (.need (m8 b plain) (.ite
 ((cn b plain).fst !=0) (.ret ([],(cn b plain).fst)) (.need (qS []) (.ret (nP [],0))))) (.need (m8 b plain) (.ite ((0:
 Int)!=0) (.ret ([],0)) (.need (qS (cn b plain).snd) (.ret (nP (cn b plain).snd,0))))))
theorem Xw(b:List Int)(plain:Int):aT Tryz.prog [(228,Sq),(229,RS)] [] f157 (((ae (ah (e9 false false u8)) (ae (ah (ay .i64)) ag))).wr (b,plain,())) ((ag).wr (())) [.MP,.fr [.rd true u8],.fr [.sym],.syms,.auto,.aN]=(TV b plain).end alO alP ((ag).wr (())):=by kernel_rfl
theorem ae4(b:List Int)(plain:Int):aO Tryz.prog ((ag).wr (())) [] (aG f157):=(aO.nil _)
abbrev yZ(b:List Int)(plain:Int):Prop:=al b∧b.length<1099511627776
abbrev ae5(b:List Int)(plain:Int):TU:=((eR b plain).2,(eR b plain).1)
def alQ:ar:=dm [some u8,none] ((ae (ah (e9 false false u8)) (ae (ah (ay .i64)) ag))) (ag) (fun x_ y_=>yZ x_.1 x_.2.1) (fun x_ y_=>ae5 x_.1 x_.2.1) alO alP
theorem ajT(b:List Int)(plain:Int)(h_:yZ b plain):(TV b plain).Is (ae5 b plain):=by
 delta ae5;have hl:=Gs (b:=b) (plain:=plain);have p0:m8 b plain:=h_;unfold eR
 by_cases c:(cn b plain).1=0
 ·simp[c,TV,cO,ao,aq];exact⟨p0,hl⟩
 ·simp[c,TV,cO,ao,aq];exact p0
theorem ajU:alQ.Ok Tryz.prog 157:=
 bY mixed ((aj VO (aj U8 aE))) func157 (by kernel_rfl) call157 (fun x_ y_=>ae4 x_.1 x_.2.1) (fun x_ y_=>Xw x_.1 x_.2.1) (fun x_ y_ h=>ajT x_.1 x_.2.1 h)
def Hz(j:List Int×dh):dh:=j.snd
abbrev TW:Type:=Int×(List Int×dh)
abbrev alR(x:TW):LV:=LV.one (VV.sc (SV.int i64 (SI.sym x.1)))
abbrev alS(x:TW):List (Nat×Ev.Item):= [(0,jJ0.wr x.2)]
def ae6(ks:List (List Int))(fl:Int)(rm:Int)(j:List Int×dh):Tr (TW):=(.ite (decide ((↑j.fst.length:Int)<8))
 (.need (iQ 8 (j.fst,Hz j)) (.ret (16,j))) (.need (iQ 8 (j.fst,Hz j)) (.ite (!(aU (List.take 8 j.fst)).snd) (.ret (6,
 (List.drop 8 j.fst,j.snd))) (.ite (decide ((↑ks.length:Int)≤(aU (List.take 8 j.fst)).fst.fst)) (.ret (15,(List.drop 8 j.fst,j.snd))) (.ite
 (decide ((↑(List.drop 8 j.fst).length:Int)<216)) (.need (iQ 216 (List.drop 8 j.fst,Hz j)) (.ret (16,(List.drop 8 j.fst,j.snd)))) (.need
 (iQ 216 (List.drop 8 j.fst,Hz j)) (.need ((0:Int)≤0∧(0:Int)≤224∧224≤(↑j.fst.length:Int)) (.need (al (List.take 224
 (List.drop 0 j.fst))∧(List.take 224 (List.drop 0 j.fst)).length<1152921504606846976∧Qf ks) (.ite ((Qn ks (List.take 224 (List.drop 0
 j.fst))).snd !=0) (.ret ((Qn ks (List.take 224 (List.drop 0 j.fst))).snd,(List.drop 216 (List.drop 8 j.fst),j.snd))) (.ite (decide (rm<(Qn ks
 (List.take 224 (List.drop 0 j.fst))).fst.cC.len)) (.ret (10,(List.drop 216 (List.drop 8 j.fst),j.snd))) (.ite (decide ((Qn ks (List.take 224
 (List.drop 0 j.fst))).fst.cC.ver<fl)) (.ret (9,(List.drop 216 (List.drop 8 j.fst),j.snd))) (.ret (0,(List.drop 216 (List.drop 8 j.fst),(Qn ks
 (List.take 224 (List.drop 0 j.fst))).fst))))))))))))))
theorem Xx(ks:List (List Int))(fl rm:Int)(j:List Int×dh):aT Tryz.prog [(154,aeW),(155,pI),(114,ao2)] [] f96 ((jfA).wr (ks,fl,rm,())) ((CR).wr (j,())) [.fr [.sym],.syms,.auto,.aN]=(ae6 ks fl rm j).end alR alS ((CR).wr (j,())):=by kernel_rfl
theorem ae7(ks:List (List Int))(fl rm:Int)(j:List Int×dh):aO Tryz.prog ((CR).wr (j,())) [] (aG f96):=(aO.nil _)
abbrev y6(ks:List (List Int))(fl rm:Int)(j:List Int×dh):Prop:=al j.1∧j.1.length<1099511627776∧Qf ks∧j.2=gd
abbrev ae8(ks:List (List Int))(fl rm:Int)(j:List Int×dh):TW:=aS ks fl rm j.1
def ae9:ar:=dm [] (jfA) (CR) (fun x_ y_=>y6 x_.1 x_.2.1 x_.2.2.1 y_.1) (fun x_ y_=>ae8 x_.1 x_.2.1 x_.2.2.1 y_.1) alR alS
theorem ajV(ks:List (List Int))(fl rm:Int)(j:List Int×dh)(h_:y6 ks fl rm j):(ae6 ks fl rm j).Is (ae8 ks fl rm j):=by
 delta ae8;obtain⟨b,l⟩:=j;obtain⟨h1,h2,h3,rfl⟩:=h_;simp only[ae6,bl,ao,aq,fU,mg,aS,List.drop_zero,List.drop_drop,List.length_drop]at*;have q:=h1.take 224;have p8:iQ 8 (b,gd):=show(0:Int)≤8 by decide
 have az6:∀x,iQ 216 (x,gd):=fun _=>show(0:Int)≤216 by decide
 grind
theorem TX:ae9.Ok Tryz.prog 96:=
 bY mixed ((aj TR (aj AY (aj ao3 aE)))) func96 (by kernel_rfl) call96 (fun x_ y_=>ae7 x_.1 x_.2.1 x_.2.2.1 y_.1) (fun x_ y_=>Xx x_.1 x_.2.1 x_.2.2.1 y_.1) (fun x_ y_ h=>ajV x_.1 x_.2.1 x_.2.2.1 y_.1 h)
abbrev TY:Type:=Int×(List Int×dh×List Int)
abbrev alT(x:TY):LV:=LV.one (VV.sc (SV.int i64 (SI.sym x.1)))
abbrev alU(x:TY):List (Nat×Ev.Item):= [(0,jJ1.wr x.2)]
def afa(j:List Int×dh):Tr (TY):=(.ite (decide ((↑j.fst.length:Int)<i64.wrap (64*j.snd.blocks))) (.need
 (iQ (i64.wrap (64*j.snd.blocks)) j) (.ret (16,(j.fst,j.snd,[])))) (.need (iQ (i64.wrap (64*j.snd.blocks)) j) (.need (1
 <2305843009213693952∧ [List.take (i64.wrap (64*j.snd.blocks)).toNat j.fst].flatten.length<1152921504606846976) (.ite (!decide (aJ
 [List.take (i64.wrap (64*j.snd.blocks)).toNat j.fst].flatten=j.snd.cC.list)) (.ret (7,(List.drop (i64.wrap (64*
 j.snd.blocks)).toNat j.fst,j.snd,[]))) (.ret (0,(List.drop (i64.wrap (64*j.snd.blocks)).toNat j.fst,j.snd,List.take (i64.wrap
 (64*j.snd.blocks)).toNat j.fst)))))))
theorem Xy(j:List Int×dh):aT Tryz.prog [(154,aeW),(22,CQ)] [] f97 (((ak (ah (aP 0 0)) ag)).wr (())) ((CR).wr (j,())) [.bm 0 [.an,.sym,.sym,.sym,.sym,.sym,.an,.an,.an,.rd false u8],.fr [.sym],.syms,.auto,.aN]=(afa j).end alT alU ((CR).wr (j,())):=by kernel_rfl
theorem afb(j:List Int×dh):aO Tryz.prog ((CR).wr (j,())) [] (aG f97):=(aO.nil _)
abbrev y7(j:List Int×dh):Prop:=j.1.length<1099511627776∧0≤j.2.blocks∧j.2.blocks≤16
abbrev afc(j:List Int×dh):TY:=((cK j.1 j.2).1,((cK j.1 j.2).2.1,j.2,(cK j.1 j.2).2.2))
def afd:ar:=dm [] ((ak (ah (aP 0 0)) ag)) (CR) (fun x_ y_=>y7 y_.1) (fun x_ y_=>afc y_.1) alT alU
theorem ajW(j:List Int×dh)(h_:y7 j):(afa j).Is (afc j):=by
 delta afc;obtain⟨b,l⟩:=j;obtain⟨h1,h2,h3⟩:=h_;simp only at h1 h2 h3;have w:i64.wrap (64*l.blocks)=64*l.blocks:=ax (by omega) (by omega);have p0:iQ (64*l.blocks) (b,l):=by show 0≤_;omega
 simp only[afa,bl,ao,aq,fU,cK,w,List.flatten_cons,List.flatten_nil,List.append_nil,decide_eq_true_eq,decide_eq_false_iff_not,List.length_take];grind
theorem TZ:afd.Ok Tryz.prog 97:=
 bY mixed ((aj TR (aj om aE))) func97 (by kernel_rfl) call97 (fun x_ y_=>afb y_.1) (fun x_ y_=>Xy y_.1) (fun x_ y_ h=>ajW y_.1 h)
def xu(j:List Int×dh×List Int):Int×List Int:=eR (List.take (two (List.take 4 j.fst) 0).toNat (List.drop 4 j.fst))
 (two (List.take 4 j.fst) 2)
def HA(j:List Int×dh×List Int):List Int:= [List.take 4 j.fst,List.take (two (List.take 4 j.fst) 0).toNat (List.drop 4
 j.fst)].flatten
def Cc(n:Int)(j:List Int×dh×List Int):List Int:=List.take ((↑j.snd.snd.length:Int)-i64.wrap (64*
 n)).toNat (List.drop (i64.wrap (64*n)).toNat j.snd.snd)
def HB(j:List Int×dh×List Int):dh×List Int:=j.snd
abbrev T0:Type:=Int×(List Int×dh×List Int)×(List Int)
abbrev alV(x:T0):LV:=LV.one (VV.sc (SV.int i64 (SI.sym x.1)))
abbrev alW(x:T0):List (Nat×Ev.Item):= [(0,jJ3.wr x.2.1),(1,Item.own 1 (Ty.int IntKind.u8) x.2.2)]
def afe(n:Int)(j:List Int×dh×List Int)(d:List Int):Tr (T0):=(.ite (decide ((↑j.fst.length:Int)<4)) (.need
 (oo 4 (j.fst,HB j) d) (.ret (16,j,d))) (.need (oo 4 (j.fst,HB j) d) (.need (4≤(List.take 4 j.fst).length) (.ite (!eQ
 (List.take 4 j.fst)) (.ret (6,(List.drop 4 j.fst,j.snd),d)) (.ite (decide (i64.wrap (j.snd.fst.cC.len-(↑d.length:Int))<two (List.take
 4 j.fst) 2)) (.ret (10,(List.drop 4 j.fst,j.snd),d)) (.ite (decide ((↑(List.drop 4 j.fst).length:Int)<two (List.take 4 j.fst) 0)) (.need
 (oo (two (List.take 4 j.fst) 0) (List.drop 4 j.fst,HB j) d) (.ret (16,(List.drop 4 j.fst,j.snd),d))) (.need (oo (two (List.take 4
 j.fst) 0) (List.drop 4 j.fst,HB j) d) (.need (2<2305843009213693952∧(HA j).length<1152921504606846976) (.need (0≤i64.wrap (64
 *n)∧i64.wrap (64*n)≤(↑j.snd.snd.length:Int)∧(↑j.snd.snd.length:Int)≤(↑j.snd.snd.length:Int)) (.need (64≤(Cc n j).length)
 (.need (64≤(Cc n j).length) (.ite (!decide (aJ (HA j)=List.take 64 (List.drop 0 (Cc n j)))) (.ret (7,(List.drop (two (List.take 4
 j.fst) 0).toNat (List.drop 4 j.fst),j.snd),d)) (.need (yZ (List.take (two (List.take 4 j.fst) 0).toNat (List.drop 4 j.fst)) (two (List.take 4
 j.fst) 2)) (.need ((d.length+(xu j).snd.length)*1≤70368744177664∧d.length+(xu j).snd.length≤70368744177664) (.ret ((xu j).fst,
 (List.drop (two (List.take 4 j.fst) 0).toNat (List.drop 4 j.fst),j.snd),d++(xu j).snd))))))))))))))))
theorem Xz(n:Int)(j:List Int×dh×List Int)(d:List Int):aT Tryz.prog [(154,alN),(22,CQ),(156,SH),(157,alQ)] [] f98 ((oK).wr (n,())) ((X2).wr (j,d,())) [.one 1,.fr [.sym],.syms,.auto,.aN]=(afe n j d).end alV alW ((X2).wr (j,d,())):=by kernel_rfl
theorem aff(n:Int)(j:List Int×dh×List Int)(d:List Int):aO Tryz.prog ((X2).wr (j,d,())) [] (aG f98):=(aO.nil _)
abbrev y8(n:Int)(j:List Int×dh×List Int)(d:List Int):Prop:=al j.1∧j.1.length<1099511627776∧0≤n∧n<16∧64*n+64≤j.2.2.length∧j.2.2.length<1099511627776∧d.length≤131072∧0≤j.2.1.cC.len∧j.2.1.cC.len≤131072
abbrev afg(n:Int)(j:List Int×dh×List Int)(d:List Int):T0:=((jz j.1 (j.2.1.cC.len-d.length) ((j.2.2.drop (64*n).toNat).take 64)).1,((jz j.1 (j.2.1.cC.len-d.length) ((j.2.2.drop (64*n).toNat).take 64)).2.1,j.2),d++(jz j.1 (j.2.1.cC.len-d.length) ((j.2.2.drop (64*n).toNat).take 64)).2.2)
def afh:ar:=dm [] (oK) (X2) (fun x_ y_=>y8 x_.1 y_.1 y_.2.1) (fun x_ y_=>afg x_.1 y_.1 y_.2.1) alV alW
theorem ajX(n:Int)(j:List Int×dh×List Int)(d:List Int)(h_:y8 n j d):(afe n j d).Is (afg n j d):=by
 delta afg;obtain⟨b,l,L⟩:=j;obtain⟨h1,h2,h3,h4,h5,h6,h7,h8,h9⟩:=h_;simp only at h1 h2 h5 h6 h8 h9;have w1:i64.wrap (l.cC.len-(d.length:Int))=l.cC.len-d.length:=ax (by omega) (by omega);have w2:i64.wrap (64*n)=64*n:=ax (by omega) (by omega);have p0:∀x y:Int,0≤x→∀z,oo x z d:=fun x y h z=>h;have e3:Cc n (b,l,L)=L.drop (64*n).toNat:=by unfold Cc;rw[w2];exact Hu (by omega)
 have l3:(L.drop (64*n).toNat).length=L.length-(64*n).toNat:=List.length_drop;simp only[afe,bl,ao,aq,fU,jz,w1,w2,e3,List.drop_zero,decide_eq_true_eq,decide_eq_false_iff_not,List.length_drop]
 by_cases c1:b.length<4
 ·grind
 ·obtain⟨t0,t2,ts⟩:=aeO (b:=b) (by omega);have q4:(b.take 4).length=4:=by rw[List.length_take];omega
  cases c2:eQ b with
  |false=>grind
  |true=>
   obtain⟨s1,s2⟩:=abN c2;have e1:xu (b,l,L)=eR ((b.drop 4).take (two b 0).toNat) (two b 2):=by unfold xu;rw[t0,t2]
   have e2:(two b 0≤(b.length:Int)-4)→HA (b,l,L)=b.take (4+two b 0).toNat:=fun h=>by
    unfold HA;simp only[t0,List.flatten_cons,List.flatten_nil,List.append_nil];rw[show(4+two b 0).toNat=4+(two b 0).toNat by omega,List.take_add]
   have l2:(b.take (4+two b 0).toNat).length≤b.length:=(by rw[List.length_take];omega);have ed:(b.drop 4).drop (two b 0).toNat=b.drop (4+two b 0).toNat:=(by rw[List.drop_drop];congr 1;omega);have p1:yZ ((b.drop 4).take (two b 0).toNat) (two b 2):=⟨ahs h1 _ _,by rw[List.length_take,List.length_drop];omega⟩;have hl:=Ec ((b.drop 4).take (two b 0).toNat) (two b 2);grind
theorem T1:afh.Ok Tryz.prog 98:=
 bY mixed ((aj ajS (aj om (aj V1 (aj ajU aE))))) func98 (by kernel_rfl) call98 (fun x_ y_=>aff x_.1 y_.1 y_.2.1) (fun x_ y_=>Xz x_.1 y_.1 y_.2.1) (fun x_ y_ h=>ajX x_.1 y_.1 y_.2.1 h)
abbrev T2:Type:=Int
abbrev alX(x:T2):LV:=LV.one (VV.sc (SV.int i64 (SI.sym x)))
abbrev alY(x:T2):List (Nat×Ev.Item):= []
def afi(j:List Int×dh×List Int)(d:List Int):Tr (T2):=(.ite (decide ((↑d.length:Int)<j.snd.fst.cC.len)) (.ret
 (6)) (.need (1<2305843009213693952∧ [d].flatten.length<1152921504606846976) (.ite (!decide (aJ [d].flatten=j.snd.fst.cC.plain)) (.ret (7))
 (.ite (decide (0<(↑j.fst.length:Int))) (.ret (6)) (.ret (0))))))
theorem XA(j:List Int×dh×List Int)(d:List Int):aT Tryz.prog [(22,CQ)] [] f99 (((ak (ah (aP 0 0)) ag)).wr (())) ((X2).wr (j,d,())) [.fr [.sym],.syms,.auto,.aN]=(afi j d).end alX alY ((X2).wr (j,d,())):=by kernel_rfl
theorem afj(j:List Int×dh×List Int)(d:List Int):aO Tryz.prog ((X2).wr (j,d,())) [] (aG f99):=(aO.nil _)
abbrev y9(j:List Int×dh×List Int)(d:List Int):Prop:=d.length<1099511627776
abbrev afk(j:List Int×dh×List Int)(d:List Int):T2:=Qo j.2.1 j.1 d
def afl:ar:=dm [] ((ak (ah (aP 0 0)) ag)) (X2) (fun x_ y_=>y9 y_.1 y_.2.1) (fun x_ y_=>afk y_.1 y_.2.1) alX alY
theorem ajY(j:List Int×dh×List Int)(d:List Int)(h_:y9 j d):(afi j d).Is (afk j d):=by
 delta afk;simp only[afi,bl,ao,aq,fU,Qo,List.flatten_cons,List.flatten_nil,List.append_nil,decide_eq_true_eq,decide_eq_false_iff_not];grind
theorem T3:afl.Ok Tryz.prog 99:=
 bY mixed ((aj om aE)) func99 (by kernel_rfl) call99 (fun x_ y_=>afj y_.1 y_.2.1) (fun x_ y_=>XA y_.1 y_.2.1) (fun x_ y_ h=>ajY y_.1 y_.2.1 h)
abbrev Cd:Type:=Int×Int×(List Int×dh×List Int)×(List Int)
abbrev Ce:aW St Cd:=(bD (ak (ah (aP (0) (0))) (jk 30 (ae (ah (ay i64)) (ae (ah (ay
 i64)) (jk 11 ag))))) (ae (dF jJ2) (ae (eG (0) (Ty.int IntKind.u8)) ag))).nH (fun y=>(y.1.1,y.1.2.1,y.2.1,y.2.2.1)) (fun x
 =>((x.1,(x.2.1,())),(x.2.2.1,(x.2.2.2,())))) (fun _=>rfl)
abbrev Qv:List Wk:= [.eF 0 10 u8,.fr (dK 44 [(0,.an),(31,.an),(32,.an)]),.syms,.auto,.aN]
abbrev afm:Exit→List Wk:=Di Qv 0 [.eF 0 10 u8,.fr (dK 44 [(0,.an)]),.syms,.auto,.aN] [.eF 0 10 u8,.fr (dK 44 [(8,
 .an)]),.syms,.auto,.aN]
def l6(k:Int)(j:List Int×dh×List Int)(d:List Int):Int×List Int×List Int:=jz j.fst (j.snd.fst.cC.len-
 (↑d.length:Int)) (List.take 64 (List.drop (64*k).toNat j.snd.snd))
abbrev HC:Type:=Int×(List Int×dh×List Int)×(List Int)
abbrev T4(x:HC):Exit×St:=(Exit.ret,⟨(jK 8 (LV.one (VV.sc (SV.int i64 (SI.sym x.1)))::(jK 35 []))),[some
 (jJ2.wr x.2.1),some (Item.own 0 (Ty.int IntKind.u8) x.2.2)]⟩)
abbrev HD:Type:=(List Int×dh×List Int)×(List Int)
abbrev T5(x:HD):Exit×St:=(Exit.exit 0,⟨(LV.one (VV.sc (SV.ptr 0 0))::(jK 43 [])),[some (jJ2.wr x.1),some
 (Item.own 0 (Ty.int IntKind.u8) x.2)]⟩)
def Cf(n:Int)(k:Int)(j:List Int×dh×List Int)(d:List Int):Tr (Cd⊕(HC⊕HD)):=(.ite (decide (k<
 n)) (.need (y8 k j d) (.ite ((l6 k j d).fst !=0) (.ret (.inr (.inl ((l6 k j d).fst,((l6 k j d).snd.fst,j.snd),d++(l6 k j
 d).snd.snd)))) (.ret (.inl (n,i64.wrap (k+1),((l6 k j d).snd.fst,j.snd),d++(l6 k j d).snd.snd))))) (.ret (.inr (.inr (j,
 d)))))
theorem Qw(ks:List (List Int))(fl rm:Int)(j':List Int×dh)(n:Int)(k:Int)(j:List Int×dh×List Int)(d:List Int):ee Tryz.prog [(96,ae9),(97,afd),(98,afh),(99,afl)] [] f47 0 ((CR).wr (j',())) afm (Ce.wr (n,k,j,d))=(Cf n k j d).res Ce.wr (Sum.elim T4 T5):=by kernel_rfl
abbrev vM(n:Int)(k:Int)(j:List Int×dh×List Int)(d:List Int):Prop:=0≤k∧k≤n∧n≤16∧al j.1∧j.1.length<1099511627776∧64*n≤j.2.2.length∧j.2.2.length<1099511627776∧d.length≤j.2.1.cC.len∧j.2.1.cC.len≤131072
abbrev Qx(n:Int)(k:Int)(j:List Int×dh×List Int)(d:List Int):Bool:=decide ((lp (n-k).toNat k.toNat j.2.2 j.2.1.cC.len j.1 d).1≠0)
abbrev Qy(n:Int)(k:Int)(j:List Int×dh×List Int)(d:List Int):HC:=((lp (n-k).toNat k.toNat j.2.2 j.2.1.cC.len j.1 d).1,((lp (n-k).toNat k.toNat j.2.2 j.2.1.cC.len j.1 d).2.1,j.2),(lp (n-k).toNat k.toNat j.2.2 j.2.1.cC.len j.1 d).2.2)
abbrev Qz(n:Int)(k:Int)(j:List Int×dh×List Int)(d:List Int):HD:=(((lp (n-k).toNat k.toNat j.2.2 j.2.1.cC.len j.1 d).2.1,j.2),(lp (n-k).toNat k.toNat j.2.2 j.2.1.cC.len j.1 d).2.2)
abbrev QA:Cd→aZ:=sj (fun x_=>vM x_.1 x_.2.1 x_.2.2.1 x_.2.2.2) (fun x_=>Qx x_.1 x_.2.1 x_.2.2.1 x_.2.2.2) (fun x_=>Qy x_.1 x_.2.1 x_.2.2.1 x_.2.2.2) (fun x_=>Qz x_.1 x_.2.1 x_.2.2.1 x_.2.2.2) T4 T5
theorem afn(n:Int)(k:Int)(j:List Int×dh×List Int)(d:List Int)(h_:vM n k j d):dO (fun x_:Cd=>Cf x_.1 x_.2.1 x_.2.2.1 x_.2.2.2) (n,k,j,d) (bif Qx n k j d then .inl (Qy n k j d)else .inr (Qz n k j d)):=by
 delta Qx Qy Qz;obtain⟨b,l,L⟩:=j;obtain⟨h1,h2,h3,h4,h5,h6,h7,h8,h9⟩:=h_;simp only at h4 h5 h6 h7 h8 h9 ⊢;obtain⟨k,rfl⟩:∃m:Nat,k=m:=⟨k.toNat,by omega⟩;obtain⟨m,hm⟩:∃m:Nat,n-k=m:=⟨(n-k).toNat,by omega⟩;rw[hm,Int.toNat_natCast,Int.toNat_natCast]
 induction m generalizing k b d with
 |zero=>
  refine .stop ?_;have e1:decide ((k:Int)<n)=false:=decide_eq_false (by omega);simp only[Cf,e1,cf,aq,lp];simp
 |succ m ih=>
  have e1:decide ((k:Int)<n)=true:=decide_eq_true (by omega);have e2:(64*(k:Int)).toNat=64*k:=by omega
  have ea:l6 k (b,l,L) d=jz b (l.cC.len-d.length) ((L.drop (64*k)).take 64):=by unfold l6;rw[e2]
  have hp:y8 k (b,l,L) d:=⟨h4,h5,by omega,by omega,by simp only;omega,h7,by omega,by simp only;omega,h9⟩;obtain⟨o1,o2,o3,o4⟩:=TG (b:=b) (left:=l.cC.len-d.length) (sum:=(L.drop (64*k)).take 64) h4 (by omega);rw[lp];generalize hx:jz b (l.cC.len-d.length) ((L.drop (64*k)).take 64)=x at*
  by_cases c:x.1=0
  ·rw[if_neg (by simpa using c)];refine .go (y:=(n,((k+1:Nat):Int),(x.2.1,l,L),d++x.2.2)) ?_ ?_
   ·simp only[Cf,e1,ea,bx,mg,ao,aq,c];exact⟨hp,fun _=>by rw[ax (by omega) (by omega)];rfl,fun h=>absurd rfl h⟩
   ·apply ih<;>first|assumption|omega|(rw[List.length_append];omega)
  ·rw[if_pos c];refine .stop ?_;simp only[Cf,e1,ea,bx,mg,ao,aq];simp[c];exact hp
theorem XB(ks:List (List Int))(fl rm:Int)(j':List Int×dh):∀x:Cd,Ex Tryz.prog ((CR).wr (j',())) (.loop (aV f47 0)) (Ce.wr x) (QA x):=
 du mixed ((aj TX (aj TZ (aj T1 (aj T3 aE))))) (ws:=afm) (aO.nil _) (fun x_=>Qw ks fl rm j' x_.1 x_.2.1 x_.2.2.1 x_.2.2.2) (fun z=>by cases z<;>(intro e;cases e)) wy (fun x_ h=>afn x_.1 x_.2.1 x_.2.2.1 x_.2.2.2 h)
def gR(ks:List (List Int))(fl:Int)(rm:Int)(j:List Int×dh):dh:=(aS ks fl rm j.fst).snd.snd
def ke(ks:List (List Int))(fl:Int)(rm:Int)(j:List Int×dh):Int×List Int×List Int:=lp (Int.toNat ((aS ks
 fl rm j.fst).snd.snd.blocks-0)) 0 (cK (aS ks fl rm j.fst).snd.fst (gR ks fl rm j)).snd.snd (aS ks fl rm j.fst).snd.snd.cC.len (cK
 (aS ks fl rm j.fst).snd.fst (gR ks fl rm j)).snd.fst []
abbrev T6:Type:=Int×(List Int×dh×List Int)×(List Int)
abbrev alZ(x:T6):LV:=LV.one (VV.sc (SV.int i64 (SI.sym x.1)))
abbrev al0(x:T6):List (Nat×Ev.Item):= [(0,jJ2.wr x.2.1),(1,Item.own 0 (Ty.int IntKind.u8) x.2.2)]
def afo(ks:List (List Int))(fl:Int)(rm:Int)(j:List Int×dh):Tr (T6):=(.need (y6 ks fl rm j) (.ite ((aS ks
 fl rm j.fst).fst !=0) (.ret ((aS ks fl rm j.fst).fst,((aS ks fl rm j.fst).snd.fst,(aS ks fl rm j.fst).snd.snd,[]),[])) (.need (y7
 ((aS ks fl rm j.fst).snd.fst,gR ks fl rm j)) (.ite ((cK (aS ks fl rm j.fst).snd.fst (gR ks fl rm j)).fst !=0) (.ret ((cK
 (aS ks fl rm j.fst).snd.fst (gR ks fl rm j)).fst,((cK (aS ks fl rm j.fst).snd.fst (gR ks fl rm j)).snd.fst,(aS ks fl rm
 j.fst).snd.snd,(cK (aS ks fl rm j.fst).snd.fst (gR ks fl rm j)).snd.snd),[])) (.need (vM (aS ks fl rm j.fst).snd.snd.blocks 0
 ((cK (aS ks fl rm j.fst).snd.fst (gR ks fl rm j)).snd.fst,gR ks fl rm j,(cK (aS ks fl rm j.fst).snd.fst (gR ks fl rm
 j)).snd.snd) []) (.ite (decide ¬(ke ks fl rm j).fst=0) (.ret ((ke ks fl rm j).fst,((ke ks fl rm j).snd.fst,(aS ks fl rm
 j.fst).snd.snd,(cK (aS ks fl rm j.fst).snd.fst (gR ks fl rm j)).snd.snd),(ke ks fl rm j).snd.snd)) (.need (y9 ((ke ks fl rm
 j).snd.fst,gR ks fl rm j,(cK (aS ks fl rm j.fst).snd.fst (gR ks fl rm j)).snd.snd) (ke ks fl rm j).snd.snd) (.ret (Qo (gR ks
 fl rm j) (ke ks fl rm j).snd.fst (ke ks fl rm j).snd.snd,((ke ks fl rm j).snd.fst,(aS ks fl rm j.fst).snd.snd,(cK (aS ks fl
 rm j.fst).snd.fst (gR ks fl rm j)).snd.snd),(ke ks fl rm j).snd.snd)))))))))
theorem XC(ks:List (List Int))(fl rm:Int)(j:List Int×dh):aT Tryz.prog [(96,ae9),(97,afd),(98,afh),(99,afl)] [(0,cV Ce ((CR).wr (j,())) Qv (QA))] f47 ((jfA).wr (ks,fl,rm,())) ((CR).wr (j,())) [.eF 0 10 u8,.bm 0 [.an,.sym,.sym,.sym,.sym,.sym,.an,.an,.an,.rd false u8],.fr [.sym],.syms,.auto,.aN]=(afo ks fl rm j).end alZ al0 ((CR).wr (j,())):=by kernel_rfl
theorem afp(ks:List (List Int))(fl rm:Int)(j:List Int×dh):aO Tryz.prog ((CR).wr (j,())) [(0,cV Ce ((CR).wr (j,())) Qv (QA))] (aG f47):=(aO.cU (nJ (by kernel_rfl) (cJ (hp:=(CR).wr (j,())) (XB ks fl rm j)) oI))
abbrev za(ks:List (List Int))(fl rm:Int)(j:List Int×dh):Prop:=al j.1∧j.1.length<1099511627776∧Qf ks∧j.2=gd
abbrev afq(ks:List (List Int))(fl rm:Int)(j:List Int×dh):T6:=((dD ks fl rm j.1).1,((dD ks fl rm j.1).2.1,(dD ks fl rm j.1).2.2.1,(dD ks fl rm j.1).2.2.2.1),(dD ks fl rm j.1).2.2.2.2)
def al1:ar:=dm [] (jfA) (CR) (fun x_ y_=>za x_.1 x_.2.1 x_.2.2.1 y_.1) (fun x_ y_=>afq x_.1 x_.2.1 x_.2.2.1 y_.1) alZ al0
theorem ajZ(ks:List (List Int))(fl rm:Int)(j:List Int×dh)(h_:za ks fl rm j):(afo ks fl rm j).Is (afq ks fl rm j):=by
 delta afq;obtain⟨b,l⟩:=j;have p0:y6 ks fl rm (b,l):=h_;obtain⟨h1,h2,h3,rfl⟩:=h_;obtain⟨f1,f2,f3⟩:=Ee (ks:=ks) (fl:=fl) (rm:=rm) h1;have e0:gR ks fl rm (b,gd)=(aS ks fl rm b).2.2:=rfl;simp only[afo,mg,ao,aq,e0,dD];refine⟨p0,?_⟩;generalize hf:aS ks fl rm b=f at*;have p1:y7 (f.2.1,f.2.2):=⟨by simp only at*;omega,f3.1,f3.2.1⟩;obtain⟨s1,s2,s3⟩:=LL (b:=f.2.1) (l:=f.2.2) f1 f3.1;have e1:ke ks fl rm (b,gd)=lp f.2.2.blocks.toNat 0 (cK f.2.1 f.2.2).2.2 f.2.2.cC.len (cK f.2.1 f.2.2).2.1 []:=by unfold ke;rw[e0,hf,Int.sub_zero]
 rw[e1];generalize cK f.2.1 f.2.2=x at*;obtain⟨r1,r2,r3⟩:=Ho f.2.2.blocks.toNat 0 x.2.2 f.2.2.cC.len x.2.1 [] s1 (by simp only[List.length_nil];omega)
 by_cases c1:f.1=0
 ·by_cases c2:x.1=0
  ·have s4:=s3 c2;simp only at h2 f2;have p2:vM f.2.2.blocks 0 (x.2.1,f.2.2,x.2.2) []:=⟨by omega,by omega,by omega,s1,by simp only;omega,by simp only;omega,by simp only;omega,by simp only[List.length_nil];omega,by simp only;omega⟩;generalize lp f.2.2.blocks.toNat 0 x.2.2 f.2.2.cC.len x.2.1 []=y at*;have p3:y9 (y.2.1,f.2.2,x.2.2) y.2.2:=by show _<_;omega
   by_cases c3:y.1=0
   ·simp[c1,c2,c3,cO,aq,ao];exact⟨p1,p2,p3⟩
   ·simp[c1,c2,c3,cO,aq,ao];exact⟨p1,p2⟩
  ·simp[c1,c2];exact p1
 ·simp[c1]
theorem aj0:al1.Ok Tryz.prog 47:=
 bY mixed ((aj TX (aj TZ (aj T1 (aj T3 aE))))) func47 (by kernel_rfl) call47 (fun x_ y_=>afp x_.1 x_.2.1 x_.2.2.1 y_.1) (fun x_ y_=>XC x_.1 x_.2.1 x_.2.2.1 y_.1) (fun x_ y_ h=>ajZ x_.1 x_.2.1 x_.2.2.1 y_.1 h)
abbrev as3:aW (List LV) (List (List Int)×Int×Int×List Int×Unit):=ae (ah (e9 false false (.arr u8 32))) (ae (ah (ay .u64)) (ae (ah (ay .i64)) (ae (ah (e9 false false u8)) ag)))
def HE(ks:List (List Int))(fl:Int)(rm:Int)(b:List Int):List Int:= [cG (dD ks fl rm b).snd.snd.fst.cC.ver (dD ks
 fl rm b).snd.snd.fst.cC.gM (dD ks fl rm b).snd.snd.fst.cC.len (dD ks fl rm b).snd.snd.fst.cC.list (dD ks fl rm b).snd.snd.fst.cC.plain,
 (dD ks fl rm b).snd.snd.snd.snd].flatten
abbrev T9:Type:=Int×Int×Int×Int×Int×Int×(List Int)×(List Int)×(List Int)×(List Int)×(List Int)
abbrev al2(x:T9):LV:=LV.one (VV.agg [SV.int i64 (SI.sym x.1),SV.int i64 (SI.sym x.2.1),SV.int i64
 (SI.sym x.2.2.1),SV.int u64 (SI.sym x.2.2.2.1),SV.int u64 (SI.sym x.2.2.2.2.1),SV.int i64 (SI.sym x.2.2.2.2.2.1),SV.arr
 (Ty.int IntKind.u8) 64 x.2.2.2.2.2.2.1,SV.arr (Ty.int IntKind.u8) 64 x.2.2.2.2.2.2.2.1,SV.arr (Ty.int IntKind.u8) 64 x.2.2.2.2.2.2.2.2.1,SV.rd true
 false (Ty.int IntKind.u8) x.2.2.2.2.2.2.2.2.2.1,SV.arr (Ty.int IntKind.u8) 64 x.2.2.2.2.2.2.2.2.2.2])
abbrev al3(x:T9):List (Nat×Ev.Item):= []
def afr(ks:List (List Int))(fl:Int)(rm:Int)(b:List Int):Tr (T9):=(.need (za ks fl rm (b,{key:=0,blocks:=0,cC:= {ver:=0,gM:=0,len:=0,list:=List.replicate 64 (0:Int),plain:=List.replicate 64 (0:Int)},sign:=List.replicate 64 (0:Int)}))
 (.ite ((dD ks fl rm b).fst !=0) (.ret ((dD ks fl rm b).fst,0,0,0,0,0,List.replicate 64 (0:Int),List.replicate 64 (0:Int),
 List.replicate 64 (0:Int),[],List.replicate 64 (0:Int))) (.need (0≤(dD ks fl rm b).snd.snd.fst.cC.ver∧(dD ks fl rm
 b).snd.snd.fst.cC.ver<18446744073709551616∧0≤(dD ks fl rm b).snd.snd.fst.cC.gM∧(dD ks fl rm b).snd.snd.fst.cC.gM<
 18446744073709551616) (.need (2<2305843009213693952∧(HE ks fl rm b).length<1152921504606846976) (.ret (0,(dD ks fl rm b).snd.snd.fst.key,
 (dD ks fl rm b).snd.snd.fst.blocks,(dD ks fl rm b).snd.snd.fst.cC.ver,(dD ks fl rm b).snd.snd.fst.cC.gM,(dD ks fl rm
 b).snd.snd.fst.cC.len,(dD ks fl rm b).snd.snd.fst.cC.list,(dD ks fl rm b).snd.snd.fst.cC.plain,(dD ks fl rm b).snd.snd.fst.sign,(dD ks
 fl rm b).snd.snd.snd.snd,aJ (HE ks fl rm b)))))))
theorem XD(ks:List (List Int))(fl rm:Int)(b:List Int):aT Tryz.prog [(47,al1),(23,VH),(22,CQ)] [] f17 ((as3).wr (ks,fl,rm,b,())) ((ag).wr (())) [.MP,.fr [.rd true u8],.fr [.sym],.syms,.auto,.aN]=(afr ks fl rm b).end al2 al3 ((ag).wr (())):=by kernel_rfl
theorem afs(ks:List (List Int))(fl rm:Int)(b:List Int):aO Tryz.prog ((ag).wr (())) [] (aG f17):=(aO.nil _)
theorem Cg(c v s:Int)(a b:List Int):(cG c v s a b).length≤152:=by
 unfold cG
 split
 ·simp only[List.length_append,List.length_take,eu];omega
 ·simp
abbrev bS(ks:List (List Int))(fl rm:Int)(b:List Int):Prop:=al b∧b.length<1099511627776∧Qf ks
abbrev aft(ks:List (List Int))(fl rm:Int)(b:List Int):T9:=vdT (bO ks fl rm b)
def Ch:ar:=dm [some (.arr u8 32),none,none,some u8] (as3) (ag) (fun x_ y_=>bS x_.1 x_.2.1 x_.2.2.1 x_.2.2.2.1) (fun x_ y_=>aft x_.1 x_.2.1 x_.2.2.1 x_.2.2.2.1) al2 al3
theorem aj1(ks:List (List Int))(fl rm:Int)(b:List Int)(h_:bS ks fl rm b):(afr ks fl rm b).Is (aft ks fl rm b):=by
 delta aft;obtain⟨h1,h2,h3⟩:=h_;have p0:za ks fl rm (b,gd):=⟨h1,h2,h3,rfl⟩;obtain⟨k1,k2⟩:=ajI (ks:=ks) (fl:=fl) (rm:=rm) h1
 have e0:HE ks fl rm b=cG (dD ks fl rm b).2.2.1.cC.ver (dD ks fl rm b).2.2.1.cC.gM (dD ks fl rm b).2.2.1.cC.len (dD ks fl rm b).2.2.1.cC.list (dD ks fl rm b).2.2.1.cC.plain++(dD ks fl rm b).2.2.2.2:=by
  unfold HE;rw[List.flatten_cons,List.flatten_cons,List.flatten_nil,List.append_nil]
 simp only[afr,mg,ao,aq,bO,e0];generalize dD ks fl rm b=x at*;have hm:=Cg x.2.2.1.cC.ver x.2.2.1.cC.gM x.2.2.1.cC.len x.2.2.1.cC.list x.2.2.1.cC.plain;refine⟨p0,fun c=>⟨k1,⟨by decide,by rw[List.length_append];omega⟩,?_⟩,fun c=>?_⟩
 ·rw[if_neg (by simpa using c)];rfl
 ·rw[if_pos c];rfl
theorem ry:Ch.Ok Tryz.prog 17:=
 bY mixed ((aj aj0 (aj AW (aj om aE)))) func17 (by kernel_rfl) call17 (fun x_ y_=>afs x_.1 x_.2.1 x_.2.2.1 x_.2.2.2.1) (fun x_ y_=>XD x_.1 x_.2.1 x_.2.2.1 x_.2.2.2.1) (fun x_ y_ h=>aj1 x_.1 x_.2.1 x_.2.2.1 x_.2.2.2.1 h)
abbrev HF:Type:=Int
abbrev afu(x:HF):LV:=LV.one (VV.sc (SV.int i64 (SI.sym x)))
abbrev afv(x:HF):List (Nat×Ev.Item):= []
def afw(e:Int):Tr (HF):=(.ret (e))
theorem QB(e:Int):aT Tryz.prog [] [] f20 ((inA).wr (e,())) ((ag).wr (())) [.fr [.sym],.syms,.auto,.aN]=(afw e).end afu afv ((ag).wr (())):=by kernel_rfl
theorem XE(e:Int):aO Tryz.prog ((ag).wr (())) [] (aG f20):=(aO.nil _)
abbrev a7(e:Int):Prop:=True
abbrev QC(e:Int):HF:=e
def sW:ar:=dm [] (inA) (ag) (fun x_ y_=>a7 x_.1) (fun x_ y_=>QC x_.1) afu afv
theorem afx(e:Int)(h_:a7 e):(afw e).Is (QC e):=by
 delta QC;exact rfl
theorem nw:sW.Ok Tryz.prog 20:=
 bY mixed aE func20 (by kernel_rfl) call20 (fun x_ y_=>XE x_.1) (fun x_ y_=>QB x_.1) (fun x_ y_ h=>afx x_.1 h)
abbrev vN:Type:=Bool
abbrev LY(x:vN):LV:=LV.one (VV.sc (SV.bool (SB.sym x)))
abbrev LZ(x:vN):List (Nat×Ev.Item):= []
def L0:Tr (vN):=(.need (bS [] 0 0 []) (.need (a7 16) (.ite (((16:Int)==16)==true) (.ret ((0:Int)==
 0)) (.ret (false)))))
theorem HG:aT Tryz.prog [(17,Ch),(20,sW)] [] f15 ((ag).wr (())) ((ag).wr (())) [.fr [.sym],.syms,.auto,.aN]=(L0).end LY LZ ((ag).wr (())):=by kernel_rfl
theorem L1:aO Tryz.prog ((ag).wr (())) [] (aG f15):=(aO.nil _)
abbrev jA:Prop:=True
abbrev Ci:vN:=true
def nx:ar:=dm [] (ag) (ag) (fun _ _=>jA) (fun _ _=>Ci) LY LZ
theorem QD(h_:jA):(L0).Is (Ci):=by
 delta Ci;have p0:bS [] 0 0 []:=⟨al.nil,by decide,fun k h=>by simp at h⟩;exact⟨p0,trivial,fun _=>rfl,fun h=>by cases h⟩
theorem lr:nx.Ok Tryz.prog 15:=
 bY mixed ((aj ry (aj nw aE))) func15 (by kernel_rfl) call15 (fun x_ y_=>L1) (fun x_ y_=>HG) (fun x_ y_ h=>QD h)
end Go.Proofs.YtnbkagglkajbkaaGreat
end
