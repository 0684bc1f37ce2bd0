/- What the laws lean on, part 16: a reader of code, plain facts, and what each function gives; no conditions. -/
import Derived.Test.YtjalaohajcpllaaGreatA15
section
set_option linter.unusedVariables false
set_option linter.unusedSimpArgs false
namespace Go.Proofs.YtjalaohajcpllaaGreat
open Go Go.Ev
set_option maxRecDepth 1000000
noncomputable abbrev Z7:ao:=AK bE
theorem F2:Z7.Ok Tryz.prog 22:=FO
noncomputable abbrev NK:ao:=eSi np
theorem JG:NK.Ok Tryz.prog 26:=aea
abbrev oP:ba (List LV) (List Int×b9×List Int×Unit):=ae cB (ae (Du ZX) (ae (ai (eS false false u8)) ag))
abbrev JH:Type:=(List Int)×(List Int)×(List Int)×Int×Int×(List Int)×Int×Int×Int×(List Int)×(List Int)×(List Int)
noncomputable abbrev CL:ba St JH:=(bG (jk 2 (ae (ai (eS false false (Ty.int IntKind.u8))) (aj (ai (aP (0) (0))) (aj (ai
 (aP (1) (0))) (jk 3 (aj (ai (wX (2) (0))) (aj (ai (wX (3) (0))) (ae (ai (eS false false (Ty.int IntKind.u8))) (jk 14 (ae (ai
 (eS false false (Ty.int IntKind.i64))) (ae (ai (ax IntKind.i64)) (ae (ai (ax IntKind.i64)) (jk 66 ag))))))))))))) (ae (gX (22)
 ((ae (wY (Ty.int IntKind.u8) (32)) ag))) (ae (gX (26) ((ae (ax IntKind.i64) (ae (ax IntKind.u64) (ae (ax IntKind.u64) (ae
 (eS false false (Ty.int IntKind.i64)) ag)))))) (ae (eE (0) (Ty.int IntKind.u8)) (ae (eE (0) (Ty.int IntKind.u8)) ag))))).qk (fun y=>
 (y.1.1,y.1.2.1,y.1.2.2.1,y.1.2.2.2.1,y.1.2.2.2.2.1,y.2.1.1,y.2.2.1.1,y.2.2.1.2.1,y.2.2.1.2.2.1,y.2.2.1.2.2.2.1,y.2.2.2.1,y.2.2.2.2.1)) (fun
 x=>((x.1,(x.2.1,(x.2.2.1,(x.2.2.2.1,(x.2.2.2.2.1,()))))),((x.2.2.2.2.2.1,()),((x.2.2.2.2.2.2.1,(x.2.2.2.2.2.2.2.1,(x.2.2.2.2.2.2.2.2.1,
 (x.2.2.2.2.2.2.2.2.2.1,())))),(x.2.2.2.2.2.2.2.2.2.2.1,(x.2.2.2.2.2.2.2.2.2.2.2,())))))) (fun _=>rfl)
abbrev Qf:List Wk:= [.cC 8 u8,.cC 9 u8,.fr (dA 94 [(2,.aq),(3,.aq),(4,.aq),(8,.aq),(9,.aq),(10,.aq),(25,.aq),
 (26,.aq),(27,.aq)]),.syms,.auto,.aD]
abbrev afB:Exit→List Wk:=Dy Qf 0 [.cC 8 u8,.cC 9 u8,.fr (dA 94 [(2,.aq),(3,.aq),(4,.aq),(8,.aq),(9,.aq)]),.syms,
 .auto,.aD] [.cC 8 u8,.cC 9 u8,.fr (dA 94 [(6,.aq),(7,.aq)]),.syms,.auto,.aD]
noncomputable def F3 (rest:List Int) (sz:List Int) (i:Int):List Int:= [(au (List.take (sz.getD i.toNat (0:Int)-0).toNat (List.drop
 0 rest))).snd].flatten
noncomputable def F4 (rest:List Int) (sz:List Int) (i:Int) (F:List Int):Nat:=F.length+(au (List.take (sz.getD i.toNat (0:Int)-
 0).toNat (List.drop 0 rest))).snd.length
abbrev Z8:Type:=Int
noncomputable abbrev F5 (x:Z8):Exit×St:=(Exit.ret,⟨(ir 6 (LV.one (VV.sc (SV.gH (Value.slice none 0 0)))::(LV.one (VV.sc (SV.int
 IntKind.i64 (SI.sym x)))::(ir 86 [])))),[]⟩)
abbrev Z9:Type:=(List Int)×(List Int)×Int×Int×Int×(List Int)×(List Int)×(List Int)
noncomputable abbrev F6 (x:Z9):Exit×St:=(Exit.exit 0,⟨(ir 2 (LV.one (VV.sc (SV.rd false false (Ty.int IntKind.u8) x.1))::(LV.one
 (VV.sc (SV.ptr 0 0))::(LV.one (VV.sc (SV.ptr 1 0))::(ir 3 (LV.one (VV.sc (SV.sl 2 0))::(LV.one (VV.sc (SV.sl 3 0))::(ir 84 [])))))))),[some
 (Item.aZ [SV.arr (Ty.int IntKind.u8) 32 x.2.1] 22),some (Item.aZ [SV.int IntKind.i64 (SI.sym x.2.2.1),SV.int IntKind.u64 (SI.sym x.2.2.2.1),SV.int
 IntKind.u64 (SI.sym x.2.2.2.2.1),SV.rd false false (Ty.int IntKind.i64) x.2.2.2.2.2.1] 26),some (Item.own 0 (Ty.int IntKind.u8) x.2.2.2.2.2.2.1),
 some (Item.own 0 (Ty.int IntKind.u8) x.2.2.2.2.2.2.2)]⟩)
noncomputable def CM (d':List Int) (rest:List Int) (sz:List Int) (m:Int) (i:Int) (s':List Int) (pk:Int) (pv:Int) (pf:Int) (ps:
 List Int) (L:List Int) (F:List Int):Tr (JH⊕(Z8⊕Z9)):=(.ite (decide (i<m)) (.need (0≤i∧i<(↑sz.length:Int)) (.need ((0:
 Int)≤0∧0≤sz.getD i.toNat 0∧sz.getD i.toNat 0≤(↑rest.length:Int)) (.ite (decide ¬(au (List.take (sz.getD i.toNat (0:Int)-0).toNat
 (List.drop 0 rest))).fst=0) (.need (iA (List.take (sz.getD i.toNat (0:Int)-0).toNat (List.drop 0 rest))) (.ite ((au (List.take
 (sz.getD i.toNat (0:Int)-0).toNat (List.drop 0 rest))).fst !=0) (.ret (.inr (.inl ((au (List.take (sz.getD i.toNat (0:Int)-0).toNat
 (List.drop 0 rest))).fst)))) (.need (0≤sz.getD i.toNat 0∧sz.getD i.toNat 0≤(↑rest.length:Int)∧(↑rest.length:Int)≤(↑rest.length:Int))
 (.need (1<2305843009213693952∧0<1152921504606846976) (.need ((0:Int)≤0∧(0:Int)≤64∧(64:Int)≤64) (.need ((L.length+64)*1≤
 70368744177664∧L.length+64≤70368744177664) (.need ((F.length+0)*1≤70368744177664∧F.length+0≤70368744177664) (.ret (.inl (d',
 List.take ((↑rest.length:Int)-sz.getD i.toNat 0).toNat (List.drop (Int.toNat (sz.getD i.toNat 0)) rest),sz,m,IntKind.i64.wrap (i+1),s',pk,
 pv,pf,ps,L++List.take 64 (List.drop 0 (bE [[]].flatten)),F++ [])))))))))) (.need (iA (List.take (sz.getD i.toNat (0:Int)-0).toNat
 (List.drop 0 rest))) (.ite ((0:Int)!=0) (.ret (.inr (.inl (0)))) (.need (0≤sz.getD i.toNat 0∧sz.getD i.toNat 0≤(↑rest.length:Int)∧
 (↑rest.length:Int)≤(↑rest.length:Int)) (.need (1<2305843009213693952∧(F3 rest sz i).length<1152921504606846976) (.need ((0:Int)≤0∧
 (0:Int)≤64∧(64:Int)≤64) (.need ((L.length+64)*1≤70368744177664∧L.length+64≤70368744177664) (.need (F4 rest sz i F*1≤
 70368744177664∧F4 rest sz i F≤70368744177664) (.ret (.inl (d',List.take ((↑rest.length:Int)-sz.getD i.toNat 0).toNat (List.drop (Int.toNat
 (sz.getD i.toNat 0)) rest),sz,m,IntKind.i64.wrap (i+1),s',pk,pv,pf,ps,L++List.take 64 (List.drop 0 (bE (F3 rest sz i))),F++
 (au (List.take (sz.getD i.toNat (0:Int)-0).toNat (List.drop 0 rest))).snd))))))))))))) (.ret (.inr (.inr (d',s',pk,pv,pf,ps,L,F)))))
theorem Tx (s:List Int) (p:b9) (d:List Int) (d':List Int) (rest:List Int) (sz:List Int) (m:Int) (i:Int) (s':List Int) (pk:Int) (pv:Int) (pf:Int) (ps:List Int) (L:List Int) (F:List Int):dR Tryz.prog [(25,Z6),(16,EZ),(22,Z7),(26,NK),(29,agy),(28,Fc),(27,agz),(30,Bu)] [] Tryz.f9 0 ((ag).wr (())) afB (CL.wr (d',rest,sz,m,i,s',pk,pv,pf,ps,L,F))=(CM d' rest sz m i s' pk pv pf ps L F).res CL.wr (Sum.elim F5 F6):=by kernel_rfl
noncomputable def gf:List Int→List Int→List Int→List Int→Int×List Int×List Int
 | [],_,L,F=>(0,L,F)
 |n::l,rest,L,F=>if (au (rest.take n.toNat)).1≠0 then ((au (rest.take n.toNat)).1,[],[]) else gf l (rest.drop n.toNat) (L++bE (au (rest.take n.toNat)).2) (F++(au (rest.take n.toNat)).2)
theorem pW (b:List Int):(au b).2.length≤4100:=by
 unfold au
 split
 ·simp
 ·split
  ·simp
  ·rename_i h
   have:=(Mq (b:=b) (by simpa using h)).2
   simp;omega
abbrev ug (d':List Int) (rest:List Int) (sz:List Int) (m:Int) (i:Int) (s':List Int) (pk:Int) (pv:Int) (pf:Int) (ps:List Int) (L:List Int) (F:List Int):Prop:=m=sz.length∧0≤i∧i≤m∧m≤16∧oN (sz.drop i.toNat) rest.length=true∧aB rest∧rest.length<1099511627776∧L.length≤64*i∧F.length≤4100*i
noncomputable abbrev Qg (x_:JH):aU:= .need ((fun (d':List Int) (rest:List Int) (sz:List Int) (m:Int) (i:Int) (s':List Int) (pk:Int) (pv:Int) (pf:Int) (ps:List Int) (L:List Int) (F:List Int)=>ug d' rest sz m i s' pk pv pf ps L F) x_.1 x_.2.1 x_.2.2.1 x_.2.2.2.1 x_.2.2.2.2.1 x_.2.2.2.2.2.1 x_.2.2.2.2.2.2.1 x_.2.2.2.2.2.2.2.1 x_.2.2.2.2.2.2.2.2.1 x_.2.2.2.2.2.2.2.2.2.1 x_.2.2.2.2.2.2.2.2.2.2.1 x_.2.2.2.2.2.2.2.2.2.2.2) (.ite ((fun (d':List Int) (rest:List Int) (sz:List Int) (m:Int) (i:Int) (s':List Int) (pk:Int) (pv:Int) (pf:Int) (ps:List Int) (L:List Int) (F:List Int)=>decide ((gf (sz.drop i.toNat) rest L F).1≠0)) x_.1 x_.2.1 x_.2.2.1 x_.2.2.2.1 x_.2.2.2.2.1 x_.2.2.2.2.2.1 x_.2.2.2.2.2.2.1 x_.2.2.2.2.2.2.2.1 x_.2.2.2.2.2.2.2.2.1 x_.2.2.2.2.2.2.2.2.2.1 x_.2.2.2.2.2.2.2.2.2.2.1 x_.2.2.2.2.2.2.2.2.2.2.2) (.leaf (F5 ((fun (d':List Int) (rest:List Int) (sz:List Int) (m:Int) (i:Int) (s':List Int) (pk:Int) (pv:Int) (pf:Int) (ps:List Int) (L:List Int) (F:List Int)=>(gf (sz.drop i.toNat) rest L F).1) x_.1 x_.2.1 x_.2.2.1 x_.2.2.2.1 x_.2.2.2.2.1 x_.2.2.2.2.2.1 x_.2.2.2.2.2.2.1 x_.2.2.2.2.2.2.2.1 x_.2.2.2.2.2.2.2.2.1 x_.2.2.2.2.2.2.2.2.2.1 x_.2.2.2.2.2.2.2.2.2.2.1 x_.2.2.2.2.2.2.2.2.2.2.2)).1 (F5 ((fun (d':List Int) (rest:List Int) (sz:List Int) (m:Int) (i:Int) (s':List Int) (pk:Int) (pv:Int) (pf:Int) (ps:List Int) (L:List Int) (F:List Int)=>(gf (sz.drop i.toNat) rest L F).1) x_.1 x_.2.1 x_.2.2.1 x_.2.2.2.1 x_.2.2.2.2.1 x_.2.2.2.2.2.1 x_.2.2.2.2.2.2.1 x_.2.2.2.2.2.2.2.1 x_.2.2.2.2.2.2.2.2.1 x_.2.2.2.2.2.2.2.2.2.1 x_.2.2.2.2.2.2.2.2.2.2.1 x_.2.2.2.2.2.2.2.2.2.2.2)).2) (.leaf (F6 ((fun (d':List Int) (rest:List Int) (sz:List Int) (m:Int) (i:Int) (s':List Int) (pk:Int) (pv:Int) (pf:Int) (ps:List Int) (L:List Int) (F:List Int)=>(d',s',pk,pv,pf,ps,(gf (sz.drop i.toNat) rest L F).2)) x_.1 x_.2.1 x_.2.2.1 x_.2.2.2.1 x_.2.2.2.2.1 x_.2.2.2.2.2.1 x_.2.2.2.2.2.2.1 x_.2.2.2.2.2.2.2.1 x_.2.2.2.2.2.2.2.2.1 x_.2.2.2.2.2.2.2.2.2.1 x_.2.2.2.2.2.2.2.2.2.2.1 x_.2.2.2.2.2.2.2.2.2.2.2)).1 (F6 ((fun (d':List Int) (rest:List Int) (sz:List Int) (m:Int) (i:Int) (s':List Int) (pk:Int) (pv:Int) (pf:Int) (ps:List Int) (L:List Int) (F:List Int)=>(d',s',pk,pv,pf,ps,(gf (sz.drop i.toNat) rest L F).2)) x_.1 x_.2.1 x_.2.2.1 x_.2.2.2.1 x_.2.2.2.2.1 x_.2.2.2.2.2.1 x_.2.2.2.2.2.2.1 x_.2.2.2.2.2.2.2.1 x_.2.2.2.2.2.2.2.2.1 x_.2.2.2.2.2.2.2.2.2.1 x_.2.2.2.2.2.2.2.2.2.2.1 x_.2.2.2.2.2.2.2.2.2.2.2)).2))
theorem aeg (d':List Int) (rest:List Int) (sz:List Int) (m:Int) (i:Int) (s':List Int) (pk:Int) (pv:Int) (pf:Int) (ps:List Int) (L:List Int) (F:List Int) (h_:ug d' rest sz m i s' pk pv pf ps L F):dq (fun x_:JH=>CM x_.1 x_.2.1 x_.2.2.1 x_.2.2.2.1 x_.2.2.2.2.1 x_.2.2.2.2.2.1 x_.2.2.2.2.2.2.1 x_.2.2.2.2.2.2.2.1 x_.2.2.2.2.2.2.2.2.1 x_.2.2.2.2.2.2.2.2.2.1 x_.2.2.2.2.2.2.2.2.2.2.1 x_.2.2.2.2.2.2.2.2.2.2.2) (d',rest,sz,m,i,s',pk,pv,pf,ps,L,F) (bif decide ((gf (sz.drop i.toNat) rest L F).1≠0) then .inl ((gf (sz.drop i.toNat) rest L F).1) else .inr ((d',s',pk,pv,pf,ps,(gf (sz.drop i.toNat) rest L F).2))):=by
 obtain ⟨rfl,h1,h2,h3,h4,h5,h6,h7,h8⟩:=h_
 obtain ⟨k,rfl⟩: ∃ k:Nat,i=k:=⟨i.toNat,by omega⟩
 obtain ⟨j,hj⟩: ∃ j:Nat,sz.length-k=j:=⟨_,rfl⟩
 rw[Int.toNat_natCast] at h4 ⊢
 induction j generalizing k rest L F with
 |zero=>
  rw[List.drop_eq_nil_of_le (by omega),gf]
  refine .stop ?_
  simp only[CM,bs,al]
  exact ⟨fun h=>by omega,fun _=>by simp⟩
 |succ j ih=>
  have hk:k<sz.length:=by omega
  rw[gN 0 hk] at h4 ⊢
  rw[oN,Bool.and_eq_true] at h4
  rw[gf]
  have e1:decide ((k:Int)<sz.length)=true:=decide_eq_true (by omega)
  have TS:F3 rest sz (k:Int)=(au (List.take (sz.getD k 0-0).toNat (List.drop 0 rest))).2:=by unfold F3;rw[Int.toNat_natCast];simp
  have Br:F4 rest sz (k:Int) F=F.length+(au (List.take (sz.getD k 0-0).toNat (List.drop 0 rest))).2.length:=by unfold F4;rw[Int.toNat_natCast]
  rw[Int.sub_zero,List.drop_zero] at TS Br
  generalize hx:sz.getD k 0=x at*
  have hs:=of_decide_eq_true h4.1
  have hfl:=pW (rest.take x.toNat)
  have jF:=eI (au (rest.take x.toNat)).2
  have p0:iA (rest.take x.toNat):=⟨fun z hz=>h5 z (List.mem_of_mem_take hz),by rw[List.length_take];omega⟩
  have es:List.take 64 (List.drop 0 (bE (au (rest.take x.toNat)).2))=bE (au (rest.take x.toNat)).2:=by
   rw[List.drop_zero,List.take_of_length_le (by omega)]
  have er:List.take ((rest.length:Int)-x).toNat (List.drop x.toNat rest)=rest.drop x.toNat:=List.take_of_length_le (by rw[List.length_drop];omega)
  by_cases c:(au (rest.take x.toNat)).1=0
  ·rw[if_neg (by simpa using c)]
   have d1:decide ¬(au (rest.take x.toNat)).1=0=false:=by simpa using c
   have d2:((0:Int)!=0)=false:=rfl
   refine .go ?_ (ih (rest.drop x.toNat) (L++bE (au (rest.take x.toNat)).2) (F++(au (rest.take x.toNat)).2) (fun z hz=>h5 z (List.mem_of_mem_drop hz)) (by rw[List.length_drop];omega) (k+1) (by omega) (by omega) (by
    rw[List.length_drop,show ((rest.length-x.toNat:Nat):Int)=rest.length-x from by omega];exact h4.2) (by rw[List.length_append,jF];omega) (by rw[List.length_append];omega) (by omega))
   simp only[CM,e1,aK,an,al,Int.toNat_natCast,hx,Int.sub_zero,List.drop_zero,d1,d2,aN,TS,Br]
   rw[List.drop_zero] at es
   rw[es,er,ar (by omega) (by omega)]
   exact ⟨⟨by omega,by omega⟩,⟨by omega,by omega,by omega⟩,p0,⟨by omega,by omega,by omega⟩,⟨by decide,by omega⟩,⟨by omega,by omega,by omega⟩,⟨by omega,by omega⟩,⟨by omega,by omega⟩,rfl⟩
  ·rw[if_pos c]
   have d1:decide ¬(au (rest.take x.toNat)).1=0=true:=by simpa using c
   have d2:((au (rest.take x.toNat)).1!=0)=true:=by simpa using c
   refine .stop ?_
   simp only[CM,e1,aK,an,al,Int.toNat_natCast,hx,Int.sub_zero,List.drop_zero,d1,d2]
   exact ⟨⟨by omega,by omega⟩,⟨by omega,by omega,by omega⟩,p0,rfl⟩
theorem aaa (s:List Int) (p:b9) (d:List Int): ∀ x:JH,Ex Tryz.prog ((ag).wr (())) (.loop (aW Tryz.f9 0)) (CL.wr x) (Qg x):=
 db mixed ((ak Qe (ak Cj (ak F2 (ak JG (ak WI (ak Cn (ak WJ (ak mD aF))))))))) (ws:=afB) (aQ.nil _) (E:=Sum.elim F5 F6) (L:=fun x_=>CM x_.1 x_.2.1 x_.2.2.1 x_.2.2.2.1 x_.2.2.2.2.1 x_.2.2.2.2.2.1 x_.2.2.2.2.2.2.1 x_.2.2.2.2.2.2.2.1 x_.2.2.2.2.2.2.2.2.1 x_.2.2.2.2.2.2.2.2.2.1 x_.2.2.2.2.2.2.2.2.2.2.1 x_.2.2.2.2.2.2.2.2.2.2.2) (pre:=fun x_=>(fun (d':List Int) (rest:List Int) (sz:List Int) (m:Int) (i:Int) (s':List Int) (pk:Int) (pv:Int) (pf:Int) (ps:List Int) (L:List Int) (F:List Int)=>ug d' rest sz m i s' pk pv pf ps L F) x_.1 x_.2.1 x_.2.2.1 x_.2.2.2.1 x_.2.2.2.2.1 x_.2.2.2.2.2.1 x_.2.2.2.2.2.2.1 x_.2.2.2.2.2.2.2.1 x_.2.2.2.2.2.2.2.2.1 x_.2.2.2.2.2.2.2.2.2.1 x_.2.2.2.2.2.2.2.2.2.2.1 x_.2.2.2.2.2.2.2.2.2.2.2) (sp:=fun x_=>bif (fun (d':List Int) (rest:List Int) (sz:List Int) (m:Int) (i:Int) (s':List Int) (pk:Int) (pv:Int) (pf:Int) (ps:List Int) (L:List Int) (F:List Int)=>decide ((gf (sz.drop i.toNat) rest L F).1≠0)) x_.1 x_.2.1 x_.2.2.1 x_.2.2.2.1 x_.2.2.2.2.1 x_.2.2.2.2.2.1 x_.2.2.2.2.2.2.1 x_.2.2.2.2.2.2.2.1 x_.2.2.2.2.2.2.2.2.1 x_.2.2.2.2.2.2.2.2.2.1 x_.2.2.2.2.2.2.2.2.2.2.1 x_.2.2.2.2.2.2.2.2.2.2.2 then .inl ((fun (d':List Int) (rest:List Int) (sz:List Int) (m:Int) (i:Int) (s':List Int) (pk:Int) (pv:Int) (pf:Int) (ps:List Int) (L:List Int) (F:List Int)=>(gf (sz.drop i.toNat) rest L F).1) x_.1 x_.2.1 x_.2.2.1 x_.2.2.2.1 x_.2.2.2.2.1 x_.2.2.2.2.2.1 x_.2.2.2.2.2.2.1 x_.2.2.2.2.2.2.2.1 x_.2.2.2.2.2.2.2.2.1 x_.2.2.2.2.2.2.2.2.2.1 x_.2.2.2.2.2.2.2.2.2.2.1 x_.2.2.2.2.2.2.2.2.2.2.2) else .inr ((fun (d':List Int) (rest:List Int) (sz:List Int) (m:Int) (i:Int) (s':List Int) (pk:Int) (pv:Int) (pf:Int) (ps:List Int) (L:List Int) (F:List Int)=>(d',s',pk,pv,pf,ps,(gf (sz.drop i.toNat) rest L F).2)) x_.1 x_.2.1 x_.2.2.1 x_.2.2.2.1 x_.2.2.2.2.1 x_.2.2.2.2.2.1 x_.2.2.2.2.2.2.1 x_.2.2.2.2.2.2.2.1 x_.2.2.2.2.2.2.2.2.1 x_.2.2.2.2.2.2.2.2.2.1 x_.2.2.2.2.2.2.2.2.2.2.1 x_.2.2.2.2.2.2.2.2.2.2.2)) (fun x_=>Tx s p d x_.1 x_.2.1 x_.2.2.1 x_.2.2.2.1 x_.2.2.2.2.1 x_.2.2.2.2.2.1 x_.2.2.2.2.2.2.1 x_.2.2.2.2.2.2.2.1 x_.2.2.2.2.2.2.2.2.1 x_.2.2.2.2.2.2.2.2.2.1 x_.2.2.2.2.2.2.2.2.2.2.1 x_.2.2.2.2.2.2.2.2.2.2.2) (fun z=>by cases z<;>(intro e;cases e)) qO (fun x_ h=>aeg x_.1 x_.2.1 x_.2.2.1 x_.2.2.2.1 x_.2.2.2.2.1 x_.2.2.2.2.2.1 x_.2.2.2.2.2.2.1 x_.2.2.2.2.2.2.2.1 x_.2.2.2.2.2.2.2.2.1 x_.2.2.2.2.2.2.2.2.2.1 x_.2.2.2.2.2.2.2.2.2.2.1 x_.2.2.2.2.2.2.2.2.2.2.2 h)
noncomputable def Qh (p:Int×Int×Int×List Int) (d:List Int):List Int:= [(gf (List.drop 0 p.snd.snd.snd) d [] []).snd.fst].flatten
noncomputable def aab (p:Int×Int×Int×List Int):Int×Int×Int×List Int:=p
noncomputable def Qi (s:List Int) (p:Int×Int×Int×List Int) (d:List Int):List Int:=dO p.fst (↑p.snd.snd.snd.length:Int)
noncomputable def JI (s:List Int) (p:Int×Int×Int×List Int) (d:List Int):List Int:=iT p.snd.fst p.snd.snd.fst (↑d.length:Int)
 (bE (Qh p d)) (bE [d].flatten)
noncomputable def CN (s:List Int) (p:Int×Int×Int×List Int) (d:List Int):List Int×Int:=np s [98,111,111,116,106,97,99,
 107] (pS (og (Qi s p d) (JI s p d) (List.replicate 64 (0:Int))))
noncomputable def F7 (s:List Int) (p:Int×Int×Int×List Int) (d:List Int):List Int:= [og (Qi s p d) (JI s p d) (CN s p
 d).fst,(gf (List.drop 0 p.snd.snd.snd) d [] []).snd.fst,(gf (List.drop 0 p.snd.snd.snd) d [] []).snd.snd].flatten
abbrev aia:Type:=(List Int)×Int
noncomputable abbrev aib (x:aia):LV:=LV.cD [VV.sc (SV.rd true false (Ty.int IntKind.u8) x.1),VV.sc (SV.int IntKind.i64 (SI.sym x.2))]
noncomputable abbrev aic (x:aia):List (Nat×Ev.Item):= []
noncomputable def aeh (s:List Int) (p:Int×Int×Int×List Int) (d:List Int):Tr (aia):=(.need (uf (aab p) d) (.ite (!v8 (aab
 p) (↑d.length:Int)) (.ret ([],1)) (.need (ug d d p.snd.snd.snd (↑p.snd.snd.snd.length:Int) 0 s p.fst p.snd.fst p.snd.snd.fst p.snd.snd.snd []
 []) (.ite (decide ¬(gf (List.drop 0 p.snd.snd.snd) d [] []).fst=0) (.ret ([],(gf (List.drop 0 p.snd.snd.snd) d [] []).fst)) (.need (1<
 2305843009213693952∧(Qh p d).length<1152921504606846976) (.need (1<2305843009213693952∧ [d].flatten.length<1152921504606846976) (.need (0≤
 p.snd.fst∧p.snd.fst<18446744073709551616∧0≤p.snd.snd.fst∧p.snd.snd.fst<18446744073709551616) (.need ((og (Qi s p d) (JI s p d)
 (List.replicate 64 (0:Int))).length<1152921504606846976) (.need (s.length=32∧64=64) (.ite ((CN s p d).snd !=0) (.ret ([],(CN s p
 d).snd)) (.need (0≤p.snd.fst∧p.snd.fst<18446744073709551616∧0≤p.snd.snd.fst∧p.snd.snd.fst<18446744073709551616) (.need ((F7 s p
 d).length≤70368744177664∧3≤140737488355328) (.ret (F7 s p d,0))))))))))))))
theorem aac (s:List Int) (p:b9) (d:List Int):aS Tryz.prog [(25,Z6),(16,EZ),(22,Z7),(26,NK),(29,agy),(28,Fc),(27,agz),(30,Bu)] [(0,bM CL ((ag).wr (())) Qf (Qg))] Tryz.f9 ((oP).wr (s,p,d,())) ((ag).wr (())) [.cC 8 u8,.cC 9 u8,.yI,.fr [.rd true u8],.fr [.sym],.syms,.auto,.aD]=(aeh s p d).end aib aic ((ag).wr (())):=by kernel_rfl
theorem aei (s:List Int) (p:b9) (d:List Int):aQ Tryz.prog ((ag).wr (())) [(0,bM CL ((ag).wr (())) Qf (Qg))] (aJ Tryz.f9):=(aQ.cO (nx (by kernel_rfl) (cz (hp:=(ag).wr (())) (aaa s p d)) pc))
def F8:List Int:=List.replicate 64 0
noncomputable def AO (s:List Int) (p:b9) (d L:List Int):List Int:=
 og (dO p.1 p.2.2.2.length) (iT p.2.1 p.2.2.1 d.length (bE L) (bE d)) (np s FV (pS (og (dO p.1 p.2.2.2.length) (iT p.2.1 p.2.2.1 d.length (bE L) (bE d)) F8))).1
noncomputable def bw (s:List Int) (p:b9) (d:List Int):Int×List Int:=
 if v8 p d.length=false then (1,[])
 else if (gf p.2.2.2 d [] []).1≠0 then ((gf p.2.2.2 d [] []).1,[])
 else (0,AO s p d (gf p.2.2.2 d [] []).2.1++(gf p.2.2.2 d [] []).2.1++(gf p.2.2.2 d [] []).2.2)
theorem Qj: ∀ (l rest L F:List Int),(gf l rest L F).2.1.length≤L.length+64*l.length∧(gf l rest L F).2.2.length≤F.length+4100*l.length
 | [],_,L,F=>by simp[gf]
 |n::l,rest,L,F=>by
  rw[gf]
  split
  ·simp
  ·have h1:=pW (rest.take n.toNat)
   have h2:=eI (au (rest.take n.toNat)).2
   obtain ⟨k1,k2⟩:=Qj l (rest.drop n.toNat) (L++bE (au (rest.take n.toNat)).2) (F++(au (rest.take n.toNat)).2)
   rw[List.length_append] at k1 k2
   rw[List.length_cons];omega
theorem aej (c v s:Int) (a b:List Int):(iT c v s a b).length≤152:=by
 unfold iT
 split
 ·simp only[List.length_append,List.length_take,iS];omega
 ·simp
theorem aad (h m g:List Int):(og h m g).length≤h.length+m.length+64:=by
 unfold og
 split
 ·simp
 ·simp only[List.length_append,List.length_take];omega
theorem uh {p:b9} {n:Int} (h:v8 p n=true):0≤p.1∧p.1<8∧1≤p.2.2.2.length∧p.2.2.2.length≤16∧p.2.2.1≤p.2.1∧oN p.2.2.2 n=true∧dG p.2.2.2=n:=by
 unfold v8 at h
 rw[Bool.and_eq_true,Bool.and_eq_true] at h
 have h1:=of_decide_eq_true h.1
 have h2:=of_decide_eq_true h.2.2
 exact ⟨h1.1,h1.2.1,h1.2.2.1,h1.2.2.2.1,h1.2.2.2.2,h.2.1,by omega⟩
theorem Tz (s m:List Int):(np s FV m).2=0:=by
 rw[AL,if_pos (by decide)]
abbrev mY (s:List Int) (p:b9) (d:List Int):Prop:=s.length=32∧aB d∧d.length<1099511627776∧p.2.2.2.length<1099511627776∧0≤p.2.1∧p.2.1<18446744073709551616∧0≤p.2.2.1∧p.2.2.1<18446744073709551616
noncomputable def TA:ao:=ao.bS [none,some (.int .i64),some u8] (oP) (ag) fun x_ y_=> .leaf (some ((fun (s:List Int) (p:b9) (d:List Int)=>mY s p d) x_.1 x_.2.1 x_.2.2.1)) (aib ((fun (s:List Int) (p:b9) (d:List Int)=>((bw s p d).2,(bw s p d).1)) x_.1 x_.2.1 x_.2.2.1)) (aic ((fun (s:List Int) (p:b9) (d:List Int)=>((bw s p d).2,(bw s p d).1)) x_.1 x_.2.1 x_.2.2.1))
theorem aid (s:List Int) (p:b9) (d:List Int) (h_:mY s p d):(aeh s p d).Is (((bw s p d).2,(bw s p d).1)):=by
 obtain ⟨h1,h2,h3,h4,h5,h6,h7,h8⟩:=h_
 have q2:aab p=p:=rfl
 have p0:uf p d:=⟨h3,h4⟩
 simp only[aeh,q2,an]
 refine ⟨p0,?_⟩
 cases hm:v8 p d.length with
 |false=>
  have e:bw s p d=(1,[]):=by unfold bw;rw[if_pos hm]
  simp only[e,Bool.not_false,aK,al]
 |true=>
  obtain ⟨m1,m2,m3,m4,m5,m6,m7⟩:=uh hm
  have p1:ug d d p.2.2.2 (p.2.2.2.length:Int) 0 s p.1 p.2.1 p.2.2.1 p.2.2.2 [] []:=⟨rfl,by omega,by omega,by omega,m6,h2,h3,by simp,by simp⟩
  simp only[Bool.not_true,aN,an,List.drop_zero]
  refine ⟨p1,?_⟩
  obtain ⟨l1,l2⟩:=Qj p.2.2.2 d [] []
  have q0:Qh p d=(gf p.2.2.2 d [] []).2.1:=by unfold Qh;simp
  have q7:Qi s p d=dO p.1 p.2.2.2.length:=rfl
  have q8:JI s p d=iT p.2.1 p.2.2.1 d.length (bE (gf p.2.2.2 d [] []).2.1) (bE d):=by unfold JI;rw[q0];simp
  have q9:CN s p d=np s FV (pS (og (dO p.1 p.2.2.2.length) (iT p.2.1 p.2.2.1 d.length (bE (gf p.2.2.2 d [] []).2.1) (bE d)) F8)):=by unfold CN;rw[q7,q8];rfl
  have q10:F7 s p d=AO s p d (gf p.2.2.2 d [] []).2.1++(gf p.2.2.2 d [] []).2.1++(gf p.2.2.2 d [] []).2.2:=by
   unfold F7 AO;rw[q7,q8,q9];simp
  by_cases c:(gf p.2.2.2 d [] []).1=0
  ·have e:bw s p d=(0,AO s p d (gf p.2.2.2 d [] []).2.1++(gf p.2.2.2 d [] []).2.1++(gf p.2.2.2 d [] []).2.2):=by unfold bw;rw[if_neg (by rw[hm];simp),if_neg (by simpa using c)]
   have c1:decide ¬(gf p.2.2.2 d [] []).1=0=false:=by simpa using c
   have c2:((CN s p d).2!=0)=false:=by rw[q9,Tz];rfl
   have hh:=B9 p.1 p.2.2.2.length
   have hmn:=aej p.2.1 p.2.2.1 d.length (bE (gf p.2.2.2 d [] []).2.1) (bE d)
   have hlb:=fun g=>aad (dO p.1 p.2.2.2.length) (iT p.2.1 p.2.2.1 d.length (bE (gf p.2.2.2 d [] []).2.1) (bE d)) g
   have hll:(AO s p d (gf p.2.2.2 d [] []).2.1).length≤224:=by unfold AO;have:=hlb (np s FV (pS (og (dO p.1 p.2.2.2.length) (iT p.2.1 p.2.2.1 d.length (bE (gf p.2.2.2 d [] []).2.1) (bE d)) F8))).1;omega
   have hl2:=hlb (List.replicate 64 0)
   simp only[e,c1,c2,aN,an,al]
   rw[q7,q8,q10,q0]
   refine ⟨⟨by decide,?_⟩,⟨by decide,by simp;omega⟩,⟨h5,h6,h7,h8⟩,?_,⟨h1,trivial⟩,⟨h5,h6,h7,h8⟩,⟨?_,by decide⟩,rfl⟩
   ·simp only[List.length_nil] at l1;omega
   ·omega
   ·simp only[List.length_append,List.length_nil] at l1 l2 ⊢;omega
  ·have e:bw s p d=((gf p.2.2.2 d [] []).1,[]):=by unfold bw;rw[if_neg (by rw[hm];simp),if_pos c]
   have c1:decide ¬(gf p.2.2.2 d [] []).1=0=true:=by simpa using c
   simp only[e,c1,aK,al]
theorem AP:TA.Ok Tryz.prog 9:=
 cg (tys:= [none,some (.int .i64),some u8]) (A:=oP) (H:=ag) (LT:=fun x_ y_=>(fun (s:List Int) (p:b9) (d:List Int)=> [(0,bM CL ((ag).wr (())) Qf (Qg))]) x_.1 x_.2.1 x_.2.2.1) (ks:= [.cC 8 u8,.cC 9 u8,.yI,.fr [.rd true u8],.fr [.sym],.syms,.auto,.aD]) (V:=aib) (D:=aic) (T:=fun x_ y_=>aeh x_.1 x_.2.1 x_.2.2.1) (pre:=fun x_ y_=>(fun (s:List Int) (p:b9) (d:List Int)=>mY s p d) x_.1 x_.2.1 x_.2.2.1) (sp:=fun x_ y_=>(fun (s:List Int) (p:b9) (d:List Int)=>((bw s p d).2,(bw s p d).1)) x_.1 x_.2.1 x_.2.2.1) mixed ((ak Qe (ak Cj (ak F2 (ak JG (ak WI (ak Cn (ak WJ (ak mD aF))))))))) Tryz.func9 (by kernel_rfl) Tryz.call9 (fun x_ y_=>aei x_.1 x_.2.1 x_.2.2.1) (fun x_ y_=>aac x_.1 x_.2.1 x_.2.2.1) (fun x_ y_ h=>aid x_.1 x_.2.1 x_.2.2.1 h)
end Go.Proofs.YtjalaohajcpllaaGreat
end
section
set_option linter.unusedVariables false
set_option linter.unusedSimpArgs false
namespace Go.Proofs.YtjalaohajcpllaaGreat
open Go Go.Ev
set_option maxRecDepth 1000000
def j6:List Int→List Int→List (List Int)
 | [],_=> []
 |n::l,rest=>(au (rest.take n.toNat)).2::j6 l (rest.drop n.toNat)
theorem Qk: ∀ (l rest L F:List Int),(gf l rest L F).1=0→gf l rest L F=(0,L++((j6 l rest).map bE).flatten,F++(j6 l rest).flatten)∧
  ∀ a n b,l=a++n::b→(au ((rest.drop (dG a).toNat).take n.toNat)).1=0∨ ¬ (∀ x∈a,0≤x)
 | [],rest,L,F,_=>by
  refine ⟨by simp[gf,j6],fun a n b h=>?_⟩
  simp at h
 |n::l,rest,L,F,h=>by
  rw[gf] at h ⊢
  split at h
  ·rename_i c;exact absurd h c
  ·rename_i c
   rw[if_neg c]
   obtain ⟨h1,h2⟩:=Qk l _ _ _ h
   refine ⟨by rw[h1,j6];simp,fun a m b e=>?_⟩
   cases a with
   |nil=>
    simp at e
    obtain ⟨rfl,rfl⟩:=e
    left
    simp only[dG]
    simpa using c
   |cons x a=>
    simp at e
    obtain ⟨rfl,rfl⟩:=e
    have:=h2 a m b rfl
    by_cases hx: ∀ y∈n::a,0≤y
    ·left
     have h0:0≤n:=hx n (by simp)
     have h3:0≤dG a:=by
      have: ∀ a:List Int,(∀ y∈a,0≤y)→0≤dG a:=fun a=>by
       induction a with
       |nil=>intro _;simp[dG]
       |cons y a ih=>intro h;have:=ih fun z hz=>h z (List.mem_cons_of_mem _ hz);have:=h y (by simp);rw[dG];omega
      exact this a fun y hy=>hx y (List.mem_cons_of_mem _ hy)
     rcases this with h|h
     ·rw[dG,show (n+dG a).toNat=n.toNat+(dG a).toNat from by omega,← List.drop_drop];exact h
     ·exact absurd (fun y hy=>hx y (List.mem_cons_of_mem _ hy)) h
    ·exact .inr hx
theorem wT {b:List Int} (hb:aB b) (h0:b.length≠0) (h:b.length≤500):(au b).1=0:=by
 unfold au
 rw[if_neg h0,if_neg (by rw[Ij hb h];simp)]
theorem CO: ∀ (l rest L F:List Int),aB rest→rest.length≤500→oN l rest.length=true→(gf l rest L F).1=0
 | [],rest,L,F,_,_,_=>rfl
 |n::l,rest,L,F,h1,h2,h3=>by
  rw[oN,Bool.and_eq_true] at h3
  have hn:=of_decide_eq_true h3.1
  have hl:(rest.take n.toNat).length=n.toNat:=by rw[List.length_take];omega
  have hf:(au (rest.take n.toNat)).1=0:=wT (fun z hz=>h1 z (List.mem_of_mem_take hz)) (by omega) (by omega)
  rw[gf,if_neg (by rw[hf];simp)]
  refine CO l _ _ _ (fun z hz=>h1 z (List.mem_of_mem_drop hz)) (by rw[List.length_drop];omega) ?_
  rw[List.length_drop,show ((rest.length-n.toNat:Nat):Int)=rest.length-n from by omega];exact h3.2
theorem JJ: ∀ (l:List Int) (n:Int),oN l n=true→(l.length:Int)≤dG l∧dG l≤8192*l.length∧(∀ x∈l,1≤x∧x≤8192)
 | [],n,_=>by simp[dG]
 |s::l,n,h=>by
  rw[oN,Bool.and_eq_true] at h
  have hs:=of_decide_eq_true h.1
  obtain ⟨h1,h2,h3⟩:=JJ l _ h.2
  refine ⟨by rw[dG,List.length_cons];omega,by rw[dG,List.length_cons];omega,fun x hx=>?_⟩
  rcases List.mem_cons.1 hx with rfl|hx
  ·omega
  ·exact h3 x hx
theorem JK (s m:List Int):(np s FV m).1.length=64∧aB (np s FV m).1:=by
 rw[AL,if_pos (by decide)]
 exact ⟨(JF s FV m).2.1,(JF s FV m).2.2⟩
theorem F9 {s:List Int} {p:b9} {d L:List Int} (h:v8 p d.length=true):dO p.1 p.2.2.2.length= [66,74,75,49,p.1,p.2.2.2.length,0,0]∧mE p.2.1 p.2.2.1 d.length=true∧(iT p.2.1 p.2.2.1 d.length (bE L) (bE d)).length=152∧(AO s p d L).length=224:=by
 obtain ⟨m1,m2,m3,m4,m5,m6,m7⟩:=uh h
 obtain ⟨k1,k2,k3⟩:=JJ _ _ m6
 have e1:dO p.1 p.2.2.2.length= [66,74,75,49,p.1,p.2.2.2.length,0,0]:=by unfold dO;rw[if_pos ⟨m1,m2,by omega,by omega⟩]
 have e2:mE p.2.1 p.2.2.1 d.length=true:=by unfold mE;exact decide_eq_true ⟨m5,by omega,by omega⟩
 have e3:(iT p.2.1 p.2.2.1 d.length (bE L) (bE d)).length=152:=by
  unfold iT;rw[if_pos e2];simp only[List.length_append,List.length_take,iS,eI];rfl
 refine ⟨e1,e2,e3,?_⟩
 unfold AO og
 rw[if_neg (by rw[e3,e1];simp)]
 simp only[List.length_append,List.length_take,e3,(JK _ _).1,e1]
 rfl
theorem xQ {s:List Int} {p:b9} {d:List Int} (h:(bw s p d).1=0):v8 p d.length=true∧(gf p.2.2.2 d [] []).1=0∧
  (bw s p d).2=AO s p d (((j6 p.2.2.2 d).map bE).flatten)++(((j6 p.2.2.2 d).map bE).flatten++(j6 p.2.2.2 d).flatten):=by
 unfold bw at*
 split at h
 ·cases h
 ·rename_i c
  rw[if_neg c]
  split at h
  ·rename_i c2;exact absurd h c2
  ·rename_i c2
   rw[if_neg c2]
   have c2:(gf p.2.2.2 d [] []).1=0:=by simpa using c2
   refine ⟨by simpa using c,c2,?_⟩
   rw[(Qk _ _ _ _ c2).1];simp
theorem NL {s:List Int} {p:b9} {d:List Int} (h:v8 p d.length=true) (hd:aB d) (hl:d.length≤500):(bw s p d).1=0:=by
 have:=CO p.2.2.2 d [] [] hd hl (uh h).2.2.2.2.2.1
 unfold bw
 rw[if_neg (by rw[h];simp),if_neg (by rw[this];simp)]
theorem xR: ∀ (l rest:List Int),(j6 l rest).length=l.length
 | [],_=>rfl
 |n::l,rest=>by rw[j6,List.length_cons,List.length_cons,xR l]
theorem ui: ∀ (l:List (List Int)),((l.map bE).flatten).length=64*l.length
 | []=>rfl
 |x::l=>by rw[List.map_cons,List.flatten_cons,List.length_append,ui l,eI,List.length_cons];omega
theorem AQ {s:List Int} {p:b9} {d:List Int} (h:(bw s p d).1=0):(bw s p d).2.length=224+64*p.2.2.2.length+(j6 p.2.2.2 d).flatten.length:=by
 obtain ⟨h1,h2,h3⟩:=xQ h
 rw[h3,List.length_append,List.length_append,(F9 h1).2.2.2,ui,xR];omega
def Ql:List Int:= [1,0,0,0,0,0,0,0,0,0,0,0,0,0,0,0,0,0,0,0,0,0,0,0,0,0,0,0,0,0,0,0]
theorem by7:aB [7]:=fun z hz=>by simp at hz;subst hz;exact ⟨by decide,by decide⟩
theorem alZ:(bw Ql (0,0,0,[1]) [7]).1=0∧(bw Ql (0,0,0,[1]) [7]).2.length=297:=by
 have h0:(bw Ql (0,0,0,[1]) [7]).1=0:=NL (by decide) by7 (by decide)
 refine ⟨h0,?_⟩
 rw[AQ h0]
 have:(j6 [1] [7]).flatten.length=9:=by decide+kernel
 rw[this];rfl
abbrev NM:Type:=Int
noncomputable abbrev NN (x:NM):LV:=LV.one (VV.sc (SV.int IntKind.i64 (SI.sym x)))
noncomputable abbrev NO (x:NM):List (Nat×Ev.Item):= []
noncomputable def NP (e:Int):Tr (NM):=(.ret (e))
theorem NQ (e:Int):aS Tryz.prog [] [] Tryz.f18 ((TQ).wr (e,())) ((ag).wr (())) [.fr [.sym],.syms,.auto,.aD]=(NP e).end NN NO ((ag).wr (())):=by kernel_rfl
theorem TB (e:Int):aQ Tryz.prog ((ag).wr (())) [] (aJ Tryz.f18):=(aQ.nil _)
abbrev dH (e:Int):Prop:=True
noncomputable def AR:ao:=ao.bS [] (TQ) (ag) fun x_ y_=> .leaf (some ((fun (e:Int)=>dH e) x_.1)) (NN ((fun (e:Int)=>e) x_.1)) (NO ((fun (e:Int)=>e) x_.1))
theorem aae (e:Int) (h_:dH e):(NP e).Is (e):=by
 exact rfl
theorem uj:AR.Ok Tryz.prog 18:=
 cg (tys:= []) (A:=TQ) (H:=ag) (LT:=fun x_ y_=>(fun (e:Int)=> []) x_.1) (ks:= [.fr [.sym],.syms,.auto,.aD]) (V:=NN) (D:=NO) (T:=fun x_ y_=>NP x_.1) (pre:=fun x_ y_=>(fun (e:Int)=>dH e) x_.1) (sp:=fun x_ y_=>(fun (e:Int)=>e) x_.1) mixed aF Tryz.func18 (by kernel_rfl) Tryz.call18 (fun x_ y_=>TB x_.1) (fun x_ y_=>NQ x_.1) (fun x_ y_ h=>aae x_.1 h)
noncomputable def v9:List Int:= [1,0,0,0,0,0,0,0,0,0,0,0,0,0,0,0,0,0,0,0,0,0,0,0,0,0,0,0,0,0,0,0]
noncomputable def pX:Int:=(↑(bw v9 (0,0,0,[1]) [7]).snd.length:Int)
abbrev AS:Type:=Bool
noncomputable abbrev AT (x:AS):LV:=LV.one (VV.sc (SV.bool (SB.sym x)))
noncomputable abbrev AU (x:AS):List (Nat×Ev.Item):= []
noncomputable def uk:Tr (AS):=(.need (mY v9 (0,0,0,[1]) [7]) (.ite (decide ¬(cJ [7]).fst=0) (.need (dU [7])
 (.need (dH 0) (.ite (((0:Int)==0)==true) (.need (dH 0) (.ite (((0:Int)==0)==true) (.ret (pX==292)) (.ret (false))))
 (.ret (false))))) (.need (dU [7]) (.need (dH 0) (.ite (((0:Int)==0)==true) (.need (dH 0) (.ite (((0:Int)==0)==true) (.ret
 (pX==297)) (.ret (false)))) (.ret (false)))))))
theorem Ga:aS Tryz.prog [(9,TA),(33,EY),(18,AR)] [] Tryz.f15 ((ag).wr (())) ((ag).wr (())) [.fr [.sym],.syms,.auto,.aD]=(uk).end AT AU ((ag).wr (())):=by kernel_rfl
theorem JL:aQ Tryz.prog ((ag).wr (())) [] (aJ Tryz.f15):=(aQ.nil _)
abbrev j3:Prop:=True
noncomputable def um:ao:=ao.bS [] (ag) (ag) fun x_ y_=> .leaf (some (j3)) (AT (true)) (AU (true))
theorem NR (h_:j3):(uk).Is (true):=by
 obtain ⟨m1,m2⟩:=alZ
 have e2:pX=297:=by
  have e:pX=((bw Ql (0,0,0,[1]) [7]).2.length:Int):=rfl
  rw[e,m2];rfl
 have p1:mY v9 (0,0,0,[1]) [7]:=⟨rfl,by7,by decide,by decide,by decide,by decide,by decide,by decide⟩
 have p2:dU [7]:=⟨by7,by decide⟩
 have d1:decide ¬(cJ [7]).1=0=false:=by rw[Ij by7 (by decide)];rfl
 have d2:(((0:Int)==0)==true)=true:=rfl
 simp only[uk,d1,d2,aN,aK,an,al,e2]
 exact ⟨p1,p2,trivial,trivial,by decide⟩
theorem rm:um.Ok Tryz.prog 15:=
 cg (tys:= []) (A:=ag) (H:=ag) (LT:=fun x_ y_=> []) (ks:= [.fr [.sym],.syms,.auto,.aD]) (V:=AT) (D:=AU) (T:=fun x_ y_=>uk) (pre:=fun x_ y_=>j3) (sp:=fun x_ y_=>true) mixed ((ak AP (ak zH (ak uj aF)))) Tryz.func15 (by kernel_rfl) Tryz.call15 (fun x_ y_=>JL) (fun x_ y_=>Ga) (fun x_ y_ h=>NR h)
end Go.Proofs.YtjalaohajcpllaaGreat
end
section
set_option linter.unusedVariables false
set_option linter.unusedSimpArgs false
namespace Go.Proofs.YtjalaohajcpllaaGreat
open Go Go.Ev
set_option maxRecDepth 1000000
theorem gF {b:List Int} (hb:aB b) (h:(au b).1=0):(cJ b).1=0∧b.length≠0∧
  (au b).2= [((cJ b).2.length:Int)%256,((cJ b).2.length:Int)/256,(b.length:Int)%256,(b.length:Int)/256]++(cJ b).2:=by
 unfold au at*
 split at h
 ·cases h
 ·rename_i c
  rw[if_neg c]
  split at h
  ·rename_i c2;exact absurd h c2
  ·rename_i c2
   rw[if_neg c2]
   exact ⟨by simpa using c2,c,rfl⟩
theorem AV {b:List Int} (hb:aB b) (h:(au b).1=0):aB (au b).2:=by
 obtain ⟨h1,h2,h3⟩:=gF hb h
 obtain ⟨u1,u2,u3,u4,u5,u6⟩:=pO hb h1
 rw[h3]
 refine aB.append (aB.cons ⟨by omega,by omega⟩ (aB.cons ⟨by omega,by omega⟩ (aB.cons ⟨by omega,by omega⟩ (aB.cons ⟨by omega,by omega⟩ aB.nil)))) u6
theorem lW {x y p:Int} {i:Nat} {l:List Int} (h1:l.getD i 0=p%256) (h2:l.getD (i+1) 0=p/256) (h3:0≤p) (h4:p<65536):two l i=p:=by
 rw[agL (by rw[h1];exact ⟨by omega,by omega⟩) (by rw[h2];exact ⟨by omega,by omega⟩),h1,h2];omega
theorem rn {p n:Int} {q more:List Int} (hp:(q.length:Int)=p) (h1:1≤p) (h2:p≤4096) (h3:1≤n) (h4:n≤8192):
  aI ([p%256,p/256,n%256,n/256]++q++more)=(if (ck q n).1≠0 then ((ck q n).1,[],0) else (0,(ck q n).2,4+p))∧dx ([p%256,p/256,n%256,n/256]++q++more)=true∧two ([p%256,p/256,n%256,n/256]++q++more) 0=p:=by
 have t0:two ([p%256,p/256,n%256,n/256]++q++more) 0=p:=lW (x:=0) (y:=0) rfl rfl (by omega) (by omega)
 have t2:two ([p%256,p/256,n%256,n/256]++q++more) 2=n:=lW (x:=0) (y:=0) rfl rfl (by omega) (by omega)
 have hs:dx ([p%256,p/256,n%256,n/256]++q++more)=true:=by
  unfold dx;rw[t0,t2];exact decide_eq_true ⟨h1,h2,h3,h4⟩
 refine ⟨?_,hs,t0⟩
 have hq:List.take p.toNat (List.drop 4 ([p%256,p/256,n%256,n/256]++q++more))=q:=by
  have e:List.drop 4 ([p%256,p/256,n%256,n/256]++q++more)=q++more:=rfl
  rw[e,List.take_append_of_le_length (by omega),List.take_of_length_le (by omega)]
 unfold aI
 rw[t0,t2,hq,if_neg (by simp),if_neg (by rw[hs];simp),if_neg (by simp;omega)]
theorem BC {b more:List Int} (hb:aB b) (h:(au b).1=0):aI ((au b).2++more)=(0,b,((au b).2.length:Int)):=by
 obtain ⟨h1,h2,h3⟩:=gF hb h
 obtain ⟨u1,u2,u3,u4,u5,u6⟩:=pO hb h1
 rw[h3,(rn rfl (by omega) (by omega) (by omega) (by omega)).1]
 have e:ck (cJ b).2 b.length=(0,b):=by unfold ck;rw[if_neg (by rw[u1];simp),u2]
 rw[e,if_neg (by simp)]
 simp;omega
end Go.Proofs.YtjalaohajcpllaaGreat
end
section
set_option linter.unusedVariables false
set_option linter.unusedSimpArgs false
namespace Go.Proofs.YtjalaohajcpllaaGreat
open Go Go.Ev
set_option maxRecDepth 1000000
noncomputable def wc (b:List Int):Int×List Int:=ck (List.take (IntKind.i64.wrap (4+two b 0)-4).toNat (List.drop 4 b)) (two b 2)
noncomputable def NS (b:List Int):Int:=(↑b.length:Int)
abbrev aaf:Type:=(List Int)×Int×Int
noncomputable abbrev aag (x:aaf):LV:=LV.cD [VV.sc (SV.rd true false (Ty.int IntKind.u8) x.1),VV.sc (SV.int IntKind.i64 (SI.sym x.2.1)),
 VV.sc (SV.int IntKind.i64 (SI.sym x.2.2))]
noncomputable abbrev aah (x:aaf):List (Nat×Ev.Item):= []
noncomputable def AW (b:List Int):Tr (aaf):=(.ite (decide (NS b<4)) (.ret ([],0,16)) (.need (4≤b.length) (.ite (!dx b) (.ret
 ([],0,6)) (.ite (decide (IntKind.i64.wrap (NS b-4)<two b 0)) (.ret ([],0,16)) (.need ((0:Int)≤4∧4≤IntKind.i64.wrap (4+two b 0)∧
 IntKind.i64.wrap (4+two b 0)≤(↑b.length:Int)) (.ite (decide ¬(wc b).fst=0) (.need (iC (List.take (IntKind.i64.wrap (4+two b 0)-
 4).toNat (List.drop 4 b)) (two b 2)) (.ite ((wc b).fst !=0) (.ret ([],0,(wc b).fst)) (.ret ([],IntKind.i64.wrap (4+two b 0),0)))) (.need
 (iC (List.take (IntKind.i64.wrap (4+two b 0)-4).toNat (List.drop 4 b)) (two b 2)) (.ite ((0:Int)!=0) (.ret ([],0,0)) (.ret ((wc
 b).snd,IntKind.i64.wrap (4+two b 0),0))))))))))
theorem TC (b:List Int):aS Tryz.prog [(37,E1),(38,Pw)] [] Tryz.f19 (((ae (ai (eS false false u8)) ag)).wr (b,())) ((ag).wr (())) [.yI,.fr [.rd true u8],.fr [.sym],.syms,.auto,.aD]=(AW b).end aag aah ((ag).wr (())):=by kernel_rfl
theorem aai (b:List Int):aQ Tryz.prog ((ag).wr (())) [] (aJ Tryz.f19):=(aQ.nil _)
theorem qw {b:List Int} (h:b.length<4):aI b=(16,[],0):=by unfold aI;rw[if_pos h]
abbrev jv (b:List Int):Prop:=aB b∧b.length<1099511627776
noncomputable def Qm:ao:=ao.bS [some u8] ((ae (ai (eS false false u8)) ag)) (ag) fun x_ y_=> .leaf (some ((fun (b:List Int)=>jv b) x_.1)) (aag ((fun (b:List Int)=>((aI b).2.1,(aI b).2.2,(aI b).1)) x_.1)) (aah ((fun (b:List Int)=>((aI b).2.1,(aI b).2.2,(aI b).1)) x_.1))
theorem aek (b:List Int) (h_:jv b):(AW b).Is (((aI b).2.1,(aI b).2.2,(aI b).1)):=by
 obtain ⟨h1,h2⟩:=h_
 have Br:NS b=(b.length:Int):=rfl
 by_cases c1:b.length<4
 ·have e:aI b=(16,[],0):=qw c1
  have e1:decide ((b.length:Int)<4)=true:=decide_eq_true (by omega)
  simp only[e,AW,Br,e1,aK,al]
 ·have e1:decide ((b.length:Int)<4)=false:=decide_eq_false (by omega)
  cases c2:dx b with
  |false=>
   have e:aI b=(6,[],0):=by unfold aI;rw[if_neg c1,if_pos c2]
   simp only[e,AW,Br,e1,c2,aK,aN,an,al,Bool.not_false]
   simp;omega
  |true=>
   obtain ⟨s1,s2⟩:=Xv c2
   have w1:IntKind.i64.wrap ((b.length:Int)-4)=b.length-4:=ar (by omega) (by omega)
   have w2:IntKind.i64.wrap (4+two b 0)=4+two b 0:=ar (by omega) (by omega)
   have w3:(4+two b 0-4).toNat=(two b 0).toNat:=by omega
   by_cases c3:(b.length:Int)<4+two b 0
   ·have e:aI b=(16,[],0):=by unfold aI;rw[if_neg c1,if_neg (by rw[c2];simp),if_pos c3]
    have e3:decide ((b.length:Int)-4<two b 0)=true:=decide_eq_true (by omega)
    simp only[e,AW,Br,e1,c2,w1,e3,aK,aN,an,al,Bool.not_true]
    simp;omega
   ·have e3:decide ((b.length:Int)-4<two b 0)=false:=decide_eq_false (by omega)
    have TS:wc b=ck ((b.drop 4).take (two b 0).toNat) (two b 2):=by unfold wc;rw[w2,w3]
    have p0:iC ((b.drop 4).take (two b 0).toNat) (two b 2):=⟨Px h1 _ _,by rw[List.length_take];omega⟩
    simp only[AW,Br,e1,c2,w1,w2,w3,e3,TS,aK,aN,an,al,Bool.not_true]
    by_cases c4:(ck ((b.drop 4).take (two b 0).toNat) (two b 2)).1=0
    ·have e:aI b=(0,(ck ((b.drop 4).take (two b 0).toNat) (two b 2)).2,4+two b 0):=by
      unfold aI;rw[if_neg c1,if_neg (by rw[c2];simp),if_neg c3,if_neg (by simpa using c4)]
     have e4:decide ¬(ck ((b.drop 4).take (two b 0).toNat) (two b 2)).1=0=false:=by simpa using c4
     have e5:((0:Int)!=0)=false:=rfl
     simp only[e,e4,e5,aN,an,al]
     simp
     exact ⟨by omega,⟨by omega,by omega⟩,p0⟩
    ·have e:aI b=((ck ((b.drop 4).take (two b 0).toNat) (two b 2)).1,[],0):=by
      unfold aI;rw[if_neg c1,if_neg (by rw[c2];simp),if_neg c3,if_pos c4]
     have e4:decide ¬(ck ((b.drop 4).take (two b 0).toNat) (two b 2)).1=0=true:=by simpa using c4
     have e5:((ck ((b.drop 4).take (two b 0).toNat) (two b 2)).1!=0)=true:=by simpa using c4
     simp only[e,e4,e5,aK,an,al]
     simp
     exact ⟨by omega,⟨by omega,by omega⟩,p0⟩
theorem Gb:Qm.Ok Tryz.prog 19:=
 cg (tys:= [some u8]) (A:=(ae (ai (eS false false u8)) ag)) (H:=ag) (LT:=fun x_ y_=>(fun (b:List Int)=> []) x_.1) (ks:= [.yI,.fr [.rd true u8],.fr [.sym],.syms,.auto,.aD]) (V:=aag) (D:=aah) (T:=fun x_ y_=>AW x_.1) (pre:=fun x_ y_=>(fun (b:List Int)=>jv b) x_.1) (sp:=fun x_ y_=>(fun (b:List Int)=>((aI b).2.1,(aI b).2.2,(aI b).1)) x_.1) mixed ((ak Ck (ak Sa aF))) Tryz.func19 (by kernel_rfl) Tryz.call19 (fun x_ y_=>aai x_.1) (fun x_ y_=>TC x_.1) (fun x_ y_ h=>aek x_.1 h)
abbrev aaj:Type:=(List (Int×Int×Int))×Int
noncomputable abbrev aak (x:aaj):LV:=LV.cD [VV.sc (SV.rd true false ((Ty.int IntKind.i64).pair ((Ty.int IntKind.i64).pair (Ty.int
 IntKind.u8))) x.1),VV.sc (SV.int IntKind.i64 (SI.sym x.2))]
noncomputable abbrev aal (x:aaj):List (Nat×Ev.Item):= []
noncomputable def AX (b:List Int) (plain:Int):Tr (aaj):=(.ite (decide (plain<0)==false) (.ite (decide (8192<plain)) (.ret ([],1))
 (.need (mG b plain) (.ite ((!(cY b plain).snd)==false) (.need (gl (cY b plain).fst) (.ite (!cX (cR (cY b plain).fst) b)
 (.ret ([],11)) (.ret ((cY b plain).fst,0)))) (.ret ([],11))))) (.ret ([],1)))
theorem TD (b:List Int) (plain:Int):aS Tryz.prog [(45,WZ),(47,D7),(46,Ew)] [] Tryz.f23 (((ae (ai (eS false false u8)) (ae (ai (ax .i64)) ag))).wr (b,plain,())) ((ag).wr (())) [.cC 4 fV,.cC 6 fV,.yI,.fr [.rd true fV],.fr [.sym],.syms,.auto,.aD]=(AX b plain).end aak aal ((ag).wr (())):=by kernel_rfl
theorem aam (b:List Int) (plain:Int):aQ Tryz.prog ((ag).wr (())) [] (aJ Tryz.f23):=(aQ.nil _)
abbrev uo (b:List Int) (plain:Int):Prop:=aB b∧b.length<1099511627776
noncomputable def afC:ao:=ao.bS [some u8,none] ((ae (ai (eS false false u8)) (ae (ai (ax .i64)) ag))) (ag) fun x_ y_=> .leaf (some ((fun (b:List Int) (plain:Int)=>uo b plain) x_.1 x_.2.1)) (aak ((fun (b:List Int) (plain:Int)=>((aG b plain).2,(aG b plain).1)) x_.1 x_.2.1)) (aal ((fun (b:List Int) (plain:Int)=>((aG b plain).2,(aG b plain).1)) x_.1 x_.2.1))
theorem ael (b:List Int) (plain:Int) (h_:uo b plain):(AX b plain).Is (((aG b plain).2,(aG b plain).1)):=by
 obtain ⟨h1,h2⟩:=h_
 by_cases hp:plain<0∨8192<plain
 ·have e:aG b plain=(1,[]):=by unfold aG;rw[if_pos hp]
  simp only[e,AX,cQ,bs,al]
  grind
 ·obtain ⟨k1,k2⟩:=fE 200000 plain 0 b (0,4294967295,4) r0H (bo 8) (bo 8) (bo 6) [] abP (fun x h=>by simp at h) (by omega) (by simp)
  have k3:gl (cY b plain).1:=⟨by show (cV _ _ _ _ _ _ _ _ _ _).1.length<_;omega,k1⟩
  have k4:mG b plain:=⟨h1,h2,by omega,by omega⟩
  have d1:(decide (plain<0)==false)=true:=by simp;omega
  have d2:decide (8192<plain)=false:=by simp;omega
  cases hr:(cY b plain).2 with
  |false=>
   have e:aG b plain=(11,[]):=by unfold aG;rw[if_neg hp,hr];simp
   have d3:((!false)==false)=false:=rfl
   simp only[e,AX,hr,d1,d2,d3,aK,aN,an,al]
   exact ⟨k4,trivial⟩
  |true=>
   have d3:((!true)==false)=true:=rfl
   by_cases hb:cX (cR (cY b plain).1) b=true
   ·have e:aG b plain=(0,(cY b plain).1):=by unfold aG;rw[if_neg hp,hr,if_pos ⟨rfl,hb⟩]
    have e1:(!cX (cR (cY b plain).1) b)=false:=by rw[hb];rfl
    simp only[e,AX,hr,d1,d2,d3,e1,aK,aN,an,al]
    exact ⟨k4,k3,trivial⟩
   ·have e:aG b plain=(11,[]):=by unfold aG;rw[if_neg hp,if_neg (fun h=>hb h.2)]
    have e1:(!cX (cR (cY b plain).1) b)=true:=by simpa using hb
    simp only[e,AX,hr,d1,d2,d3,e1,aK,aN,an,al]
    exact ⟨k4,k3,trivial⟩
theorem aem:afC.Ok Tryz.prog 23:=
 cg (tys:= [some u8,none]) (A:=(ae (ai (eS false false u8)) (ae (ai (ax .i64)) ag))) (H:=ag) (LT:=fun x_ y_=>(fun (b:List Int) (plain:Int)=> []) x_.1 x_.2.1) (ks:= [.cC 4 fV,.cC 6 fV,.yI,.fr [.rd true fV],.fr [.sym],.syms,.auto,.aD]) (V:=aak) (D:=aal) (T:=fun x_ y_=>AX x_.1 x_.2.1) (pre:=fun x_ y_=>(fun (b:List Int) (plain:Int)=>uo b plain) x_.1 x_.2.1) (sp:=fun x_ y_=>(fun (b:List Int) (plain:Int)=>((aG b plain).2,(aG b plain).1)) x_.1 x_.2.1) mixed ((ak fx (ak y9 (ak zl aF)))) Tryz.func23 (by kernel_rfl) Tryz.call23 (fun x_ y_=>aam x_.1 x_.2.1) (fun x_ y_=>TD x_.1 x_.2.1) (fun x_ y_ h=>ael x_.1 x_.2.1 h)
noncomputable def mZ (b:List Int):Int:=(↑b.length:Int)
noncomputable def Gc (b:List Int):Int:=(↑(cJ b).snd.length:Int)
noncomputable def NT (b:List Int):List Int:= [[Gc b%256,Gc b/256],[mZ b%256,mZ b/256],(cJ b).snd].flatten
abbrev aan:Type:=(List Int)×Int
noncomputable abbrev aao (x:aan):LV:=LV.cD [VV.sc (SV.rd true false (Ty.int IntKind.u8) x.1),VV.sc (SV.int IntKind.i64 (SI.sym x.2))]
noncomputable abbrev aap (x:aan):List (Nat×Ev.Item):= []
noncomputable def JM (b:List Int):Tr (aan):=(.ite (mZ b==0) (.ret ([],1)) (.ite (decide ¬(cJ b).fst=0) (.need (dU b) (.ite
 ((cJ b).fst !=0) (.ret ([],(cJ b).fst)) (.need (eH 0) (.need (eH (mZ b)) (.need (4≤70368744177664∧3≤140737488355328) (.ret
 ([[0,0],[mZ b%256,mZ b/256],[]].flatten,0))))))) (.need (dU b) (.ite ((0:Int)!=0) (.ret ([],0)) (.need (eH (Gc b))
 (.need (eH (mZ b)) (.need ((NT b).length≤70368744177664∧3≤140737488355328) (.ret (NT b,0)))))))))
theorem TE (b:List Int):aS Tryz.prog [(33,EY),(34,Xp),(30,Bu)] [] Tryz.f16 (((ae (ai (eS false false u8)) ag)).wr (b,())) ((ag).wr (())) [.yI,.fr [.rd true u8],.fr [.sym],.syms,.auto,.aD]=(JM b).end aao aap ((ag).wr (())):=by kernel_rfl
theorem aaq (b:List Int):aQ Tryz.prog ((ag).wr (())) [] (aJ Tryz.f16):=(aQ.nil _)
abbrev uq (b:List Int):Prop:=aB b∧b.length<1099511627776
noncomputable def afD:ao:=ao.bS [some u8] ((ae (ai (eS false false u8)) ag)) (ag) fun x_ y_=> .leaf (some ((fun (b:List Int)=>uq b) x_.1)) (aao ((fun (b:List Int)=>((au b).2,(au b).1)) x_.1)) (aap ((fun (b:List Int)=>((au b).2,(au b).1)) x_.1))
theorem aen (b:List Int) (h_:uq b):(JM b).Is (((au b).2,(au b).1)):=by
 obtain ⟨h1,h2⟩:=h_
 have p0:dU b:=⟨h1,h2⟩
 by_cases c:b.length=0
 ·have e:au b=(1,[]):=by unfold au;rw[if_pos c]
  have e1:((b.length:Int)==0)=true:=by rw[c];rfl
  simp only[e,JM,e1,aK,al,mZ]
 ·have e1:((b.length:Int)==0)=false:=by rw[beq_eq_false_iff_ne];omega
  have e3:((0:Int)!=0)=false:=rfl
  simp only[JM,e1,e3,aN,an,al,mZ,Gc,NT]
  by_cases c2:(cJ b).1=0
  ·obtain ⟨k1,k2⟩:=Mq c2
   have e:au b=(0,[((cJ b).2.length:Int)%256,((cJ b).2.length:Int)/256,(b.length:Int)%256,(b.length:Int)/256]++(cJ b).2):=by
    unfold au;rw[if_neg c,if_neg (by simpa using c2)]
   have e2:decide ¬(cJ b).1=0=false:=by simpa using c2
   have q1:eH ((cJ b).2.length:Int):=⟨by omega,by omega⟩
   have q2:eH (b.length:Int):=⟨by omega,by omega⟩
   simp only[e,e2,aN,an,al]
   simp
   exact ⟨p0,q1,q2,by omega⟩
  ·have e:au b=((cJ b).1,[]):=by unfold au;rw[if_neg c,if_pos c2]
   have e2:decide ¬(cJ b).1=0=true:=by simpa using c2
   have e4:((cJ b).1!=0)=true:=by simpa using c2
   simp only[e,e2,e4,aK,an,al]
   simp
   exact p0
theorem aeo:afD.Ok Tryz.prog 16:=
 cg (tys:= [some u8]) (A:=(ae (ai (eS false false u8)) ag)) (H:=ag) (LT:=fun x_ y_=>(fun (b:List Int)=> []) x_.1) (ks:= [.yI,.fr [.rd true u8],.fr [.sym],.syms,.auto,.aD]) (V:=aao) (D:=aap) (T:=fun x_ y_=>JM x_.1) (pre:=fun x_ y_=>(fun (b:List Int)=>uq b) x_.1) (sp:=fun x_ y_=>(fun (b:List Int)=>((au b).2,(au b).1)) x_.1) mixed ((ak zH (ak Pq (ak mD aF)))) Tryz.func16 (by kernel_rfl) Tryz.call16 (fun x_ y_=>aaq x_.1) (fun x_ y_=>TE x_.1) (fun x_ y_ h=>aen x_.1 h)
theorem aie (x y:Int):By (c9 .u8 x y):=by
 unfold c9
 rw[wrap_u8]
 exact ⟨by omega,by omega⟩
theorem aep {p n:Int} {q:List Int} {k:Nat} (h:4≤k):List.take k ([p%256,p/256,n%256,n/256]++q)= [p%256,p/256,n%256,n/256]++q.take (k-4):=by
 rw[List.take_append,List.take_of_length_le (by simpa using h)];rfl
theorem JN {p n:Int} {q:List Int} {k:Nat} (hp:(q.length:Int)=p) (h1:1≤p) (h2:p≤4096) (h3:1≤n) (h4:n≤8192) (hk:k<4+q.length):
  aI (List.take k ([p%256,p/256,n%256,n/256]++q))=(16,[],0):=by
 by_cases c:k<4
 ·exact qw (by rw[List.length_take];omega)
 ·rw[aep (by omega)]
  have hs: ∀ r:List Int,two ([p%256,p/256,n%256,n/256]++r) 0=p∧dx ([p%256,p/256,n%256,n/256]++r)=true:=fun r=>by
   have t0:two ([p%256,p/256,n%256,n/256]++r) 0=p:=lW (x:=0) (y:=0) rfl rfl (by omega) (by omega)
   have t2:two ([p%256,p/256,n%256,n/256]++r) 2=n:=lW (x:=0) (y:=0) rfl rfl (by omega) (by omega)
   exact ⟨t0,by unfold dx;rw[t0,t2];exact decide_eq_true ⟨h1,h2,h3,h4⟩⟩
  obtain ⟨t0,ts⟩:=hs (q.take (k-4))
  unfold aI
  rw[if_neg (by simp),if_neg (by rw[ts];simp),t0,if_pos (by simp only[List.length_append,List.length_cons,List.length_nil,List.length_take];omega)]
theorem NU:iu []= []:=by decide
theorem NV {b:List Int} {n:Int} (h:(aG b n).1≠0):(aG b n).2= []:=by
 unfold aG at*
 split
 ·rfl
 ·rename_i c
  rw[if_neg c] at h
  split
  ·rename_i c2;rw[if_pos c2] at h;exact absurd rfl h
  ·rfl
noncomputable def kE (b:List Int) (cut:Int) (at_:Int) (bW:Int):Int:=(↑b.length:Int)
noncomputable def dI (b:List Int) (cut:Int) (at_:Int) (bW:Int):Int:=(↑(au b).snd.length:Int)
noncomputable def cn (b:List Int) (cut:Int) (at_:Int) (bW:Int):List Int:=(au b).snd.set (IntKind.i64.wrap (4+at_.tmod
 (IntKind.i64.wrap (dI b cut at_ bW-4)))).toNat (c9 IntKind.u8 ((au b).snd.getD (IntKind.i64.wrap (4+at_.tmod (IntKind.i64.wrap
 (dI b cut at_ bW-4)))).toNat 0) bW)
abbrev NW:Type:=Bool
noncomputable abbrev NX (x:NW):LV:=LV.one (VV.sc (SV.bool (SB.sym x)))
noncomputable abbrev NY (x:NW):List (Nat×Ev.Item):= []
noncomputable def Gd (b:List Int) (cut:Int) (at_:Int) (bW:Int):Tr (NW):=(.need (j3) (.ite ((!true)==false) (.ite
 (decide (kE b cut at_ bW<1)==false) (.ite (decide (500<kE b cut at_ bW)==false) (.ite (decide (cut<0)==false) (.ite (decide
 (at_<0)) (.ret (true)) (.need (uq b) (.need (dH (au b).fst) (.ite (((au b).fst !=0)==false) (.ite (decide (dI b cut at_
 bW<8)) (.ret (false)) (.need (¬dI b cut at_ bW=0) (.need ((0:Int)≤0∧0≤cut.tmod (dI b cut at_ bW)∧cut.tmod (dI b cut
 at_ bW)≤(↑(au b).snd.length:Int)) (.need (jv (List.take (cut.tmod (dI b cut at_ bW)-0).toNat (List.drop 0 (au b).snd)))
 (.need ((au b).snd.length*1≤70368744177664∧(au b).snd.length≤70368744177664) (.need (¬IntKind.i64.wrap (dI b cut at_ bW-4)=
 0) (.need (0≤IntKind.i64.wrap (4+at_.tmod (IntKind.i64.wrap (dI b cut at_ bW-4)))∧IntKind.i64.wrap (4+at_.tmod (IntKind.i64.wrap
 (dI b cut at_ bW-4)))<(↑(au b).snd.length:Int)) (.need (0≤IntKind.i64.wrap (4+at_.tmod (IntKind.i64.wrap (dI b cut at_ bW-
 4)))∧IntKind.i64.wrap (4+at_.tmod (IntKind.i64.wrap (dI b cut at_ bW-4)))<(↑(au b).snd.length:Int)) (.need (jv (cn b cut
 at_ bW)) (.need ((0:Int)≤4∧4≤(↑(cn b cut at_ bW).length:Int)∧(↑(cn b cut at_ bW).length:Int)≤(↑(cn b cut at_
 bW).length:Int)) (.need (uo (List.take ((↑(cn b cut at_ bW).length:Int)-4).toNat (List.drop 4 (cn b cut at_ bW))) (kE b
 cut at_ bW)) (.need (dH (aI (List.take (cut.tmod (dI b cut at_ bW)-0).toNat (List.drop 0 (au b).snd))).fst) (.ite
 (((aI (List.take (cut.tmod (dI b cut at_ bW)-0).toNat (List.drop 0 (au b).snd))).fst==16)==true) (.ite (((aI (List.take
 (cut.tmod (dI b cut at_ bW)-0).toNat (List.drop 0 (au b).snd))).snd.snd==0)==true) (.need (dH (aI (cn b cut at_
 bW)).fst) (.need (dH (aG (List.take ((↑(cn b cut at_ bW).length:Int)-4).toNat (List.drop 4 (cn b cut at_ bW))) (kE
 b cut at_ bW)).fst) (.ite (((aI (cn b cut at_ bW)).fst==(aG (List.take ((↑(cn b cut at_ bW).length:Int)-4).toNat
 (List.drop 4 (cn b cut at_ bW))) (kE b cut at_ bW)).fst)==true) (.need (iv (aG (List.take ((↑(cn b cut at_
 bW).length:Int)-4).toNat (List.drop 4 (cn b cut at_ bW))) (kE b cut at_ bW)).snd) (.ite (cX (aI (cn b cut at_
 bW)).snd.fst (iu (aG (List.take ((↑(cn b cut at_ bW).length:Int)-4).toNat (List.drop 4 (cn b cut at_ bW))) (kE b cut
 at_ bW)).snd)==true) (.ite (((aI (cn b cut at_ bW)).snd.snd==dI b cut at_ bW)==false) (.need (dH (aI (cn b
 cut at_ bW)).fst) (.ite (((aI (cn b cut at_ bW)).fst !=0)==true) (.ret ((aI (cn b cut at_ bW)).snd.snd==0)) (.ret
 (false)))) (.ret (true))) (.ret (false)))) (.ret (false))))) (.ret (false))) (.ret (false))))))))))))))) (.ret (false)))))) (.ret (true))) (.ret
 (true))) (.ret (true))) (.ret (true))))
theorem NZ (b:List Int) (cut at_ bW:Int):aS Tryz.prog [(15,um),(19,Qm),(16,afD),(23,afC),(24,DT),(18,AR)] [] Tryz.f7 (((ae (ai (eS false false u8)) (ae (ai (ax .i64)) (ae (ai (ax .i64)) (ae (ai (ax .u8)) ag))))).wr (b,cut,at_,bW,())) ((ag).wr (())) [.fr [.sym],.syms,.auto,.aD]=(Gd b cut at_ bW).end NX NY ((ag).wr (())):=by kernel_rfl
theorem TF (b:List Int) (cut at_ bW:Int):aQ Tryz.prog ((ag).wr (())) [] (aJ Tryz.f7):=(aQ.nil _)
abbrev AY (b:List Int) (cut at_ bW:Int):Prop:=aB b
noncomputable def aif:ao:=ao.bS [] ((ae (ai (eS false false u8)) (ae (ai (ax .i64)) (ae (ai (ax .i64)) (ae (ai (ax .u8)) ag))))) (ag) fun x_ y_=> .leaf (some ((fun (b:List Int) (cut at_ bW:Int)=>AY b cut at_ bW) x_.1 x_.2.1 x_.2.2.1 x_.2.2.2.1)) (NX ((fun (b:List Int) (cut at_ bW:Int)=>true) x_.1 x_.2.1 x_.2.2.1 x_.2.2.2.1)) (NY ((fun (b:List Int) (cut at_ bW:Int)=>true) x_.1 x_.2.1 x_.2.2.1 x_.2.2.2.1))
theorem aar (b:List Int) (cut at_ bW:Int) (h_:AY b cut at_ bW):(Gd b cut at_ bW).Is (true):=by
 have hb:aB b:=h_
 have e1:((!true)==false)=true:=rfl
 have q1:kE b cut at_ bW=b.length:=rfl
 have q3:dI b cut at_ bW=(au b).2.length:=rfl
 simp only[Gd,an,e1,aK,q1,q3]
 refine ⟨trivial,?_⟩
 by_cases h1:(b.length:Int)<1
 ·have d:(decide ((b.length:Int)<1)==false)=false:=by simpa using h1
  simp only[d,aN,al]
 ·have d1:(decide ((b.length:Int)<1)==false)=true:=by simpa using h1
  simp only[d1,aK]
  by_cases h2:500<(b.length:Int)
  ·have d:(decide (500<(b.length:Int))==false)=false:=by simpa using h2
   simp only[d,aN,al]
  ·have d2:(decide (500<(b.length:Int))==false)=true:=by simpa using h2
   simp only[d2,aK]
   by_cases h3:cut<0
   ·have d:(decide (cut<0)==false)=false:=by simpa using h3
    simp only[d,aN,al]
   ·have d3:(decide (cut<0)==false)=true:=by simpa using h3
    simp only[d3,aK]
    by_cases h4:at_<0
    ·have d:decide (at_<0)=true:=by simpa using h4
     simp only[d,aK,al]
    ·have d4:decide (at_<0)=false:=by simpa using h4
     simp only[d4,aN,an]
     have hf:=wT hb (by omega) (by omega)
     obtain ⟨k1,k2,k3⟩:=gF hb hf
     obtain ⟨u1,u2,u3,u4,u5,u6⟩:=pO hb k1
     have C6:=AV hb hf
     have q4:cn b cut at_ bW=(au b).2.set (IntKind.i64.wrap (4+at_.tmod (IntKind.i64.wrap (((au b).2.length:Int)-4)))).toNat (c9 IntKind.u8 ((au b).2.getD (IntKind.i64.wrap (4+at_.tmod (IntKind.i64.wrap (((au b).2.length:Int)-4)))).toNat 0) bW):=rfl
     have p1:uq b:=⟨hb,by omega⟩
     refine ⟨p1,trivial,?_⟩
     have d5:(((au b).1!=0)==false)=true:=by rw[hf];rfl
     simp only[d5,aK]
     have hl:(au b).2.length=4+(cJ b).2.length:=by rw[k3];simp;omega
     have d6:decide (((au b).2.length:Int)<8)=false:=by simp;omega
     have w1:IntKind.i64.wrap (((au b).2.length:Int)-4)=(cJ b).2.length:=by rw[ar (by omega) (by omega)];omega
     have m1:cut.tmod ((au b).2.length:Int)=cut%((au b).2.length:Int):=Int.tmod_eq_emod_of_nonneg (by omega)
     have m2:at_.tmod ((cJ b).2.length:Int)=at_%((cJ b).2.length:Int):=Int.tmod_eq_emod_of_nonneg (by omega)
     have m3:=Int.emod_nonneg cut (show ((au b).2.length:Int)≠0 by omega)
     have m4:=Int.emod_lt_of_pos cut (show 0<((au b).2.length:Int) by omega)
     have m5:=Int.emod_nonneg at_ (show ((cJ b).2.length:Int)≠0 by omega)
     have m6:=Int.emod_lt_of_pos at_ (show 0<((cJ b).2.length:Int) by omega)
     have w2:IntKind.i64.wrap (4+at_%((cJ b).2.length:Int))=4+at_%((cJ b).2.length:Int):=ar (by omega) (by omega)
     rw[w1,m2,w2] at q4
     simp only[d6,aN,an,w1,m1,m2,w2,Int.sub_zero,List.drop_zero]
     have apg:aI (List.take (cut%((au b).2.length:Int)).toNat (au b).2)=(16,[],0):=by
      rw[k3]
      refine JN rfl (by omega) (by omega) (by omega) (by omega) ?_
      rw[← k3];omega
     have hx:=aie ((au b).2.getD (4+at_%((cJ b).2.length:Int)).toNat 0) bW
     generalize c9 IntKind.u8 ((au b).2.getD (4+at_%((cJ b).2.length:Int)).toNat 0) bW=x at*
     generalize hj:(4+at_%((cJ b).2.length:Int)).toNat=j at*
     obtain ⟨i,rfl⟩: ∃ i,j=i+4:=⟨j-4,by omega⟩
     have ns:(au b).2.set (i+4) x= [((cJ b).2.length:Int)%256,((cJ b).2.length:Int)/256,(b.length:Int)%256,(b.length:Int)/256]++(cJ b).2.set i x:=by rw[k3];rfl
     have hlen:((cJ b).2.set i x).length=(cJ b).2.length:=List.length_set
     rw[ns] at q4
     have hu:=rn (p:=((cJ b).2.length:Int)) (n:=b.length) (q:=(cJ b).2.set i x) (more:= []) (by rw[hlen]) (by omega) (by omega) (by omega) (by omega)
     rw[List.append_nil] at hu
     have hu:=hu.1
     have hl4:(cn b cut at_ bW).length=4+(cJ b).2.length:=by rw[q4,List.length_append,hlen];rfl
     have hd4:List.take (((cn b cut at_ bW).length:Int)-4).toNat (List.drop 4 (cn b cut at_ bW))=(cJ b).2.set i x:=by
      rw[List.take_of_length_le (by rw[List.length_drop];omega),q4];rfl
     have hb4:aB (cn b cut at_ bW):=by
      rw[q4,← ns];exact C6.set _ hx
     have al0:((([((cJ b).2.length:Int)%256,((cJ b).2.length:Int)/256,(b.length:Int)%256,(b.length:Int)/256]++(cJ b).2.set i x).length:Nat):Int)=4+(cJ b).2.length:=by rw[← q4,hl4];omega
     rw[q4,al0] at hd4
     simp only[apg,q4,hd4,hu,al0]
     have p2:jv (List.take (cut%((au b).2.length:Int)).toNat (au b).2):=⟨fun z hz=>C6 z (List.mem_of_mem_take hz),by rw[List.length_take];omega⟩
     have p3:jv ([((cJ b).2.length:Int)%256,((cJ b).2.length:Int)/256,(b.length:Int)%256,(b.length:Int)/256]++(cJ b).2.set i x):=by
      rw[← q4];exact ⟨hb4,by omega⟩
     have p4:uo ((cJ b).2.set i x) b.length:=⟨u6.set _ hx,by rw[hlen];omega⟩
     have p5:iv (aG ((cJ b).2.set i x) b.length).2:=tB
     have d7:(((16:Int)==16)==true)=true:=rfl
     have d8:(((0:Int)==0)==true)=true:=rfl
     simp only[d7,d8,aK,an]
     refine ⟨by omega,⟨by omega,by omega,by omega⟩,p2,⟨by omega,by omega⟩,by omega,⟨by omega,by omega⟩,⟨by omega,by omega⟩,p3,⟨by omega,by omega,by omega⟩,p4,trivial,trivial,trivial,?_⟩
     have es: ∀ l,cX l l=true:=fun l=>by simp[cX]
     have eb: ∀ z:Int,((z==z)==true)=true:=fun z=>by simp
     unfold ck
     by_cases c:(aG ((cJ b).2.set i x) b.length).1=0
     ·have c': ¬ (aG ((cJ b).2.set i x) b.length).1≠0:=by simpa using c
      simp only[if_neg c',ne_eq,not_true_eq_false,if_false]
      have d9:((4+((cJ b).2.length:Int)==((au b).2.length:Int))==false)=false:=by simp;omega
      simp only[c,d8,es,d9,beq_self_eq_true,aK,aN,an,al]
      exact ⟨p5,trivial⟩
     ·have h0:=NV c
      have c':(aG ((cJ b).2.set i x) b.length).1≠0:=c
      simp only[if_pos c']
      have d9:(((0:Int)==((au b).2.length:Int))==false)=true:=by simp;omega
      have d10:(((aG ((cJ b).2.set i x) b.length).1!=0)==true)=true:=by simpa using c
      simp only[h0,NU,es,eb,d9,d10,beq_self_eq_true,aK,aN,an,al]
      rw[h0] at p5
      exact ⟨p5,trivial,trivial⟩
theorem aas:aif.Ok Tryz.prog 7:=
 cg (tys:= []) (A:=(ae (ai (eS false false u8)) (ae (ai (ax .i64)) (ae (ai (ax .i64)) (ae (ai (ax .u8)) ag))))) (H:=ag) (LT:=fun x_ y_=>(fun (b:List Int) (cut at_ bW:Int)=> []) x_.1 x_.2.1 x_.2.2.1 x_.2.2.2.1) (ks:= [.fr [.sym],.syms,.auto,.aD]) (V:=NX) (D:=NY) (T:=fun x_ y_=>Gd x_.1 x_.2.1 x_.2.2.1 x_.2.2.2.1) (pre:=fun x_ y_=>(fun (b:List Int) (cut at_ bW:Int)=>AY b cut at_ bW) x_.1 x_.2.1 x_.2.2.1 x_.2.2.2.1) (sp:=fun x_ y_=>(fun (b:List Int) (cut at_ bW:Int)=>true) x_.1 x_.2.1 x_.2.2.1 x_.2.2.2.1) mixed ((ak rm (ak Gb (ak aeo (ak aem (ak B4 (ak uj aF))))))) Tryz.func7 (by kernel_rfl) Tryz.call7 (fun x_ y_=>TF x_.1 x_.2.1 x_.2.2.1 x_.2.2.2.1) (fun x_ y_=>NZ x_.1 x_.2.1 x_.2.2.1 x_.2.2.2.1) (fun x_ y_ h=>aar x_.1 x_.2.1 x_.2.2.1 x_.2.2.2.1 h)
end Go.Proofs.YtjalaohajcpllaaGreat
end
section
set_option linter.unusedVariables false
set_option linter.unusedSimpArgs false
namespace Go.Proofs.YtjalaohajcpllaaGreat
open Go Go.Ev Go.ChangeShapes Go.WideShapes Go.ChangeAt Go.RowKit
set_option maxRecDepth 100000
theorem aat {H:Type} {enc:TypeId×Value→H} {W:World} {base:Nat} {v:Value} {d:DataW H} {p:List MemPlace} {t e:TypeId} (n:Nat) (hu:Tryz.prog.underlying t=some (.array n e)) (hf:rZ Tryz.prog 10 t=some (List.replicate n (.int .u8)))
  (dY:Value.okWide Tryz.prog W .any base t v) (h:DataW.Trod enc Tryz.prog W 0 (fun _=>true) true t v d p):
  ∃ l:List Int,(l.length=n∧aB l)∧(iq .u8 n l).den (u9 W) (kd []) v:=by
 unfold Value.okWide at dY
 rw[hu] at dY
 obtain ⟨cs,rfl,_,_⟩:=dY
 obtain ⟨fuel,h⟩:=h
 have wV:=pd 10 hf h
 rw[← List.append_nil (List.replicate n (Bt.int .u8))] at wV
 obtain ⟨l,us,rest,e,hl,_,hd,hw,hr⟩:=Hg (β:=u9 W) (pm:=true) n wV
 cases hr
 rw[List.append_nil] at e
 refine ⟨l,⟨hl,fun z hz=>wf_u8 (hw z hz)⟩,us,?_,?_⟩
 ·simp only[Value.cells] at e
  rw[← e]
 ·have:=aO.cons (R:=SV.gW (u9 W) (kd [])) (x:= .arr (.int .u8) n l) (vs:=us) (show (SV.arr (.int .u8) n l).gW (u9 W) (kd []) us from ⟨hl,hd⟩) .nil
  rwa [List.append_nil] at this
theorem AZ {H:Type} {enc:TypeId×Value→H} {W:World} {base:Nat} {v:Value} {d:DataW H} {p:List MemPlace}
  (dY:Value.okWide Tryz.prog W .any base 22 v) (h:DataW.Trod enc Tryz.prog W 0 (fun _=>true) true 22 v d p): ∃ l:List Int,(l.length=32∧aB l)∧(iq .u8 32 l).den (u9 W) (kd []) v:=aat 32 Tryz.underlying22 (by kernel_rfl) dY h
end Go.Proofs.YtjalaohajcpllaaGreat
end
section
set_option linter.unusedVariables false
set_option linter.unusedSimpArgs false
namespace Go.Proofs.YtjalaohajcpllaaGreat
open Go Go.Ev Go.ChangeShapes Go.WideShapes Go.ChangeAt Go.RowKit
set_option maxRecDepth 100000
theorem CP:Tryz.prog.cellsOf 3=1:=by kernel_rfl
theorem rU {H:Type} {enc:TypeId×Value→H} {W:World} {fuel:Nat} {cs:List Value} {y:DataW H×List MemPlace}
  (h:DataW.trod enc Tryz.prog W 0 (fun _=>true) true fuel 24 cs=some y):
  ∃ (l:List Int) (v:Value),cs= [v]∧(SV.rd false false (.int .i64) l).den (u9 W) (kd []) v:=by
 rcases open_ints Tryz.underlying24 Tryz.underlying3 CP h with ⟨e,_⟩|⟨a,len,cap,zs,e,_,hlc,_,hzl,_,Hh,hwf⟩
 ·exact ⟨[],_,e,rfl,(fun e=>by cases e),.inr (.inr ⟨rfl,rfl⟩)⟩
 ·simp only[if_true] at hzl
  refine ⟨zs.take len,_,e,rfl,(fun e=>by cases e),.inr (.inl ⟨rfl,rfl,by decide,?_⟩)⟩
  refine ⟨some a,len,cap,rfl,by simp;omega,hlc,(fun e=>by cases e),fun h0=>?_⟩
  have Kh:=Hh 0 (by omega)
  have hsp:a.spot=none:=by
   have:a.add 0=a:=by cases a;simp[Addr.add]
   rw[this] at Kh
   exact World.cell?_spot Kh
  refine ⟨a,(zs.take len).map (.int .i64),rfl,hsp,?_,fun i u hu=>?_⟩
  ·generalize zs.take len=l
   induction l with
   |nil=>exact .nil
   |cons x l ih=>exact aO.cons (vs:= [.int .i64 x]) rfl ih
  ·rw[List.getElem?_map] at hu
   obtain ⟨z,hz,rfl⟩:=map_some hu
   have hil:i<len∧i<zs.length:=by
    have:=(List.getElem?_eq_some_iff.1 hz).1
    simp at this;omega
   rw[Hh i hil.2]
   rw[List.getElem?_take,if_pos hil.1] at hz
   rw[List.getD_eq_getElem?_getD,hz];rfl
theorem Qn {z:Int} (h:(Lit.int .u64 z).wf=true):0≤z∧z<18446744073709551616:=by
 have:=bounds_u64 h
 omega
theorem CQ {H:Type} {enc:TypeId×Value→H} {W:World} {base:Nat} {v:Value} {d:DataW H} {p:List MemPlace}
  (dY:Value.okWide Tryz.prog W .any base 26 v) (h:DataW.Trod enc Tryz.prog W 0 (fun _=>true) true 26 v d p):
  ∃ m:b9,(0≤m.2.1∧m.2.1<18446744073709551616∧0≤m.2.2.1∧m.2.2.1<18446744073709551616)∧(LV.one (.agg (ZX.wr m))).den (u9 W) (kd []) v:=by
 unfold Value.okWide at dY
 rw[Tryz.underlying26] at dY
 obtain ⟨cs,rfl,_,_⟩:=dY
 obtain ⟨fuel,h⟩:=h
 simp only[Value.cells] at h
 obtain ⟨xs,m,_,_,hl,hlen,hf⟩:=DataW.trod_struct Tryz.underlying26 h
 obtain ⟨cs⟩:=cs
 have c4:Tryz.prog.cellsOf 26=4:=by kernel_rfl
 have c1:Tryz.prog.cellsOf 3=1:=CP
 have c2:Tryz.prog.cellsOf 23=1:=by kernel_rfl
 have c3:Tryz.prog.cellsOf 24=1:=by kernel_rfl
 have f1:rZ Tryz.prog 10 3=some [.int .i64]:=by kernel_rfl
 have f2:rZ Tryz.prog 10 23=some [.int .u64]:=by kernel_rfl
 simp only at hl hlen hf
 have hn:cs.length=4:=by rw[← c4];first|exact hl|exact hlen|omega
 have hx:xs.length=4:=by first|exact hl|exact hlen|omega
 match cs,hn with
 | [a,b,c,e],_=>
  have g0:=hf 0 _ rfl
  have g1:=hf 1 _ rfl
  have g2:=hf 2 _ rfl
  have g3:=hf 3 _ rfl
  rw[List.getElem?_eq_getElem (by omega)] at g0 g1 g2 g3
  have k0:=pd 10 f1 g0
  have k1:=pd 10 f2 g1
  have k2:=pd 10 f2 g2
  obtain ⟨l,w,k3,k4⟩:=rU g3
  cases k0 with
  |cons q0 _=>cases k1 with
  |cons q1 _=>cases k2 with
  |cons q2 _=>
   obtain ⟨z0,rfl,_⟩:=q0
   obtain ⟨z1,rfl,w1⟩:=q1
   obtain ⟨z2,rfl,w2⟩:=q2
   have k3: [e].take (Tryz.prog.cellsOf 24)= [w]:=k3
   rw[c3] at k3
   have k3:e=w:=by simpa using k3
   subst k3
   have b1:=Qn w1
   have b2:=Qn w2
   exact ⟨(z0,z1,z2,l),⟨b1.1,b1.2,b2.1,b2.2⟩,_,rfl,aX.iI rfl (aX.iI rfl (aX.iI rfl (aX.iI k4 .nil)))⟩
end Go.Proofs.YtjalaohajcpllaaGreat
end
section
set_option linter.unusedVariables false
set_option linter.unusedSimpArgs false
namespace Go.Proofs.YtjalaohajcpllaaGreat
open Go Go.Ev
set_option maxRecDepth 1000000
abbrev A0:Type:=Bool
noncomputable abbrev A1 (x:A0):LV:=LV.one (VV.sc (SV.bool (SB.sym x)))
noncomputable abbrev A2 (x:A0):List (Nat×Ev.Item):= []
noncomputable def ur (p:Int×Int×Int×List Int) (d:List Int):Tr (A0):=(.ite (decide ((↑p.snd.snd.snd.length:Int)≤20)==
 true) (.ret (decide ((↑d.length:Int)≤700))) (.ret (false)))
theorem Ge (p:b9) (d:List Int):aS Tryz.prog [] [] Tryz.f21 ((Tu).wr (p,d,())) ((ag).wr (())) [.fr [.sym],.syms,.auto,.aD]=(ur p d).end A1 A2 ((ag).wr (())):=by kernel_rfl
theorem JO (p:b9) (d:List Int):aQ Tryz.prog ((ag).wr (())) [] (aJ Tryz.f21):=(aQ.nil _)
abbrev m8 (p:b9) (d:List Int):Prop:=True
noncomputable def A3:ao:=ao.bS [some (.int .i64),some u8] (Tu) (ag) fun x_ y_=> .leaf (some ((fun (p:b9) (d:List Int)=>m8 p d) x_.1 x_.2.1)) (A1 ((fun (p:b9) (d:List Int)=>decide (p.2.2.2.length≤20∧d.length≤700)) x_.1 x_.2.1)) (A2 ((fun (p:b9) (d:List Int)=>decide (p.2.2.2.length≤20∧d.length≤700)) x_.1 x_.2.1))
theorem N0 (p:b9) (d:List Int) (h_:m8 p d):(ur p d).Is (decide (p.2.2.2.length≤20∧d.length≤700)):=by
 simp only[ur,cQ,al]
 simp
 grind
theorem A4:A3.Ok Tryz.prog 21:=
 cg (tys:= [some (.int .i64),some u8]) (A:=Tu) (H:=ag) (LT:=fun x_ y_=>(fun (p:b9) (d:List Int)=> []) x_.1 x_.2.1) (ks:= [.fr [.sym],.syms,.auto,.aD]) (V:=A1) (D:=A2) (T:=fun x_ y_=>ur x_.1 x_.2.1) (pre:=fun x_ y_=>(fun (p:b9) (d:List Int)=>m8 p d) x_.1 x_.2.1) (sp:=fun x_ y_=>(fun (p:b9) (d:List Int)=>decide (p.2.2.2.length≤20∧d.length≤700)) x_.1 x_.2.1) mixed aF Tryz.func21 (by kernel_rfl) Tryz.call21 (fun x_ y_=>JO x_.1 x_.2.1) (fun x_ y_=>Ge x_.1 x_.2.1) (fun x_ y_ h=>N0 x_.1 x_.2.1 h)
theorem oQ: ∀ (l rest L F L' F':List Int),(gf l rest L F).1=(gf l rest L' F').1
 | [],_,_,_,_,_=>rfl
 |n::l,rest,L,F,L',F'=>by
  rw[gf,gf]
  split
  ·rfl
  ·exact oQ l _ _ _ _ _
theorem Gf: ∀ (l rest:List Int),aB rest→(gf l rest [] []).1=0→aB (j6 l rest).flatten∧(j6 l rest).flatten.length≤4100*l.length
 | [],rest,_,_=>⟨aB.nil,by simp[j6]⟩
 |n::l,rest,hr,h=>by
  rw[gf] at h
  split at h
  ·rename_i c;exact absurd h c
  ·rename_i c
   have c:(au (rest.take n.toNat)).1=0:=by simpa using c
   obtain ⟨h1,h2⟩:=Gf l (rest.drop n.toNat) (fun z hz=>hr z (List.mem_of_mem_drop hz)) (by rw[oQ l _ [] [] _ _];exact h)
   have hf:=pW (rest.take n.toNat)
   rw[j6,List.flatten_cons]
   exact ⟨(AV (fun z hz=>hr z (List.mem_of_mem_take hz)) c).append h1,by rw[List.length_append,List.length_cons];omega⟩
abbrev uu:Type:=(List Int)×Int×(List Int)×(List Int)×Int×Int×Int×Int×Int×(List Int)
noncomputable abbrev pY:ba St uu:=(bG (jk 2 (ae (ai (eS false false (Ty.int IntKind.u8))) (jk 1 (aj (ai (aP (0) (0))) (jk
 5 (ae (ai (ax IntKind.i64)) (ae (ai (eS true false (Ty.int IntKind.u8))) (ae (ai (eS true false (Ty.int IntKind.u8))) (ae (ai
 (ax IntKind.i64)) (ae (ai (ax IntKind.i64)) (jk 117 ag))))))))))) (ae (gX (26) ((ae (ax IntKind.i64) (ae (ax IntKind.u64)
 (ae (ax IntKind.u64) (ae (eS false false (Ty.int IntKind.i64)) ag)))))) ag)).qk (fun y=>(y.1.1,y.1.2.1,y.1.2.2.1,y.1.2.2.2.1,
 y.1.2.2.2.2.1,y.1.2.2.2.2.2.1,y.2.1.1,y.2.1.2.1,y.2.1.2.2.1,y.2.1.2.2.2.1)) (fun x=>((x.1,(x.2.1,(x.2.2.1,(x.2.2.2.1,(x.2.2.2.2.1,
 (x.2.2.2.2.2.1,())))))),((x.2.2.2.2.2.2.1,(x.2.2.2.2.2.2.2.1,(x.2.2.2.2.2.2.2.2.1,(x.2.2.2.2.2.2.2.2.2,())))),()))) (fun _=>rfl)
abbrev xS:List Wk:= [.fr (dA 132 [(2,.aq),(4,.aq),(10,.aq),(11,.aq),(12,.aq),(13,.aq),(14,.aq)]),.syms,.auto,
 .aD]
abbrev Qo:Exit→List Wk:=Dy xS 0 [.fr (dA 132 [(2,.aq),(12,.aq),(13,.aq)]),.syms,.auto,.aD] [.fr (dA 132 [(6,
 .aq)]),.syms,.auto,.aD]
noncomputable def uv (r:List Int):List Int:= [List.take ((aI r).snd.snd-0).toNat (List.drop 0 r)].flatten
abbrev JP:Type:=Bool
noncomputable abbrev uw (x:JP):Exit×St:=(Exit.ret,⟨(ir 6 (LV.one (VV.sc (SV.bool (SB.sym x)))::(ir 125 []))),[]⟩)
abbrev JQ:Type:=(List Int)×(List Int)×Int
noncomputable abbrev ux (x:JQ):Exit×St:=(Exit.exit 0,⟨(ir 2 (LV.one (VV.sc (SV.rd false false (Ty.int IntKind.u8) x.1))::(ir 9
 (LV.one (VV.sc (SV.rd true false (Ty.int IntKind.u8) x.2.1))::(LV.one (VV.sc (SV.int IntKind.i64 (SI.sym x.2.2)))::(ir 118 [])))))),[]⟩)
noncomputable def uy (a:List Int) (n:Int) (c:List Int) (r:List Int) (at_:Int) (i:Int) (pk:Int) (pv:Int) (pf:Int) (z:List Int)
 :Tr (uu⊕(JP⊕JQ)):=(.ite (decide (i<n)) (.need (jv r) (.need (dH (aI r).fst) (.ite (((aI r).fst !=0)
 ==false) (.ite (decide ((↑r.length:Int)<(aI r).snd.snd)==false) (.need (0≤i∧i<(↑z.length:Int)) (.need (0≤at_∧at_≤
 IntKind.i64.wrap (at_+z.getD i.toNat 0)∧IntKind.i64.wrap (at_+z.getD i.toNat 0)≤(↑a.length:Int)) (.ite (!cX (aI r).snd.fst
 (List.take (IntKind.i64.wrap (at_+z.getD i.toNat 0)-at_).toNat (List.drop at_.toNat a))) (.ret (.inr (.inl (false)))) (.need ((0:Int)≤0∧0≤
 (aI r).snd.snd∧(aI r).snd.snd≤(↑r.length:Int)) (.need (1<2305843009213693952∧(uv r).length<1152921504606846976) (.need
 ((0:Int)≤0∧(0:Int)≤64∧(64:Int)≤64) (.need (0≤IntKind.i64.wrap (64*i)∧IntKind.i64.wrap (64*i)≤IntKind.i64.wrap
 (IntKind.i64.wrap (64*i)+64)∧IntKind.i64.wrap (IntKind.i64.wrap (64*i)+64)≤(↑c.length:Int)) (.ite (!cX (List.take 64 (List.drop 0
 (bE (uv r)))) (List.take (IntKind.i64.wrap (IntKind.i64.wrap (64*i)+64)-IntKind.i64.wrap (64*i)).toNat (List.drop (IntKind.i64.wrap (64
 *i)).toNat c))) (.ret (.inr (.inl (false)))) (.need (0≤i∧i<(↑z.length:Int)) (.need (0≤(aI r).snd.snd∧(aI r).snd.snd≤
 (↑r.length:Int)∧(↑r.length:Int)≤(↑r.length:Int)) (.ret (.inl (a,n,c,List.take ((↑r.length:Int)-(aI r).snd.snd).toNat (List.drop
 (aI r).snd.snd.toNat r),IntKind.i64.wrap (at_+z.getD i.toNat 0),IntKind.i64.wrap (i+1),pk,pv,pf,z))))))))))))) (.ret (.inr (.inl
 (false))))) (.ret (.inr (.inl (false))))))) (.ret (.inr (.inr (a,r,at_)))))
theorem JR (s:List Int) (p:b9) (d:List Int) (a:List Int) (n:Int) (c:List Int) (r:List Int) (at_:Int) (i:Int) (pk:Int) (pv:Int) (pf:Int) (z:List Int):dR Tryz.prog [(15,um),(21,A3),(9,TA),(19,Qm),(22,Z7),(18,AR)] [] Tryz.f6 0 ((ag).wr (())) Qo (pY.wr (a,n,c,r,at_,i,pk,pv,pf,z))=(uy a n c r at_ i pk pv pf z).res pY.wr (Sum.elim uw ux):=by kernel_rfl
abbrev lX (a:List Int) (n:Int) (c:List Int) (r:List Int) (at_:Int) (i:Int) (pk:Int) (pv:Int) (pf:Int) (z:List Int):Prop:=n=z.length∧0≤i∧i≤n∧n≤20∧0≤at_∧at_≤a.length∧aB a∧a.length≤700∧oN (z.drop i.toNat) (a.length-at_)=true∧dG (z.drop i.toNat)=a.length-at_∧(gf (z.drop i.toNat) (a.drop at_.toNat) [] []).1=0∧r=(j6 (z.drop i.toNat) (a.drop at_.toNat)).flatten∧c.length=64*z.length∧c.drop (64*i.toNat)=((j6 (z.drop i.toNat) (a.drop at_.toNat)).map bE).flatten
noncomputable abbrev xT (x_:uu):aU:= .need ((fun (a:List Int) (n:Int) (c:List Int) (r:List Int) (at_:Int) (i:Int) (pk:Int) (pv:Int) (pf:Int) (z:List Int)=>lX a n c r at_ i pk pv pf z) x_.1 x_.2.1 x_.2.2.1 x_.2.2.2.1 x_.2.2.2.2.1 x_.2.2.2.2.2.1 x_.2.2.2.2.2.2.1 x_.2.2.2.2.2.2.2.1 x_.2.2.2.2.2.2.2.2.1 x_.2.2.2.2.2.2.2.2.2) (.ite ((fun (a:List Int) (n:Int) (c:List Int) (r:List Int) (at_:Int) (i:Int) (pk:Int) (pv:Int) (pf:Int) (z:List Int)=>false) x_.1 x_.2.1 x_.2.2.1 x_.2.2.2.1 x_.2.2.2.2.1 x_.2.2.2.2.2.1 x_.2.2.2.2.2.2.1 x_.2.2.2.2.2.2.2.1 x_.2.2.2.2.2.2.2.2.1 x_.2.2.2.2.2.2.2.2.2) (.leaf (uw ((fun (a:List Int) (n:Int) (c:List Int) (r:List Int) (at_:Int) (i:Int) (pk:Int) (pv:Int) (pf:Int) (z:List Int)=>false) x_.1 x_.2.1 x_.2.2.1 x_.2.2.2.1 x_.2.2.2.2.1 x_.2.2.2.2.2.1 x_.2.2.2.2.2.2.1 x_.2.2.2.2.2.2.2.1 x_.2.2.2.2.2.2.2.2.1 x_.2.2.2.2.2.2.2.2.2)).1 (uw ((fun (a:List Int) (n:Int) (c:List Int) (r:List Int) (at_:Int) (i:Int) (pk:Int) (pv:Int) (pf:Int) (z:List Int)=>false) x_.1 x_.2.1 x_.2.2.1 x_.2.2.2.1 x_.2.2.2.2.1 x_.2.2.2.2.2.1 x_.2.2.2.2.2.2.1 x_.2.2.2.2.2.2.2.1 x_.2.2.2.2.2.2.2.2.1 x_.2.2.2.2.2.2.2.2.2)).2) (.leaf (ux ((fun (a:List Int) (n:Int) (c:List Int) (r:List Int) (at_:Int) (i:Int) (pk:Int) (pv:Int) (pf:Int) (z:List Int)=>(a,[],(a.length:Int))) x_.1 x_.2.1 x_.2.2.1 x_.2.2.2.1 x_.2.2.2.2.1 x_.2.2.2.2.2.1 x_.2.2.2.2.2.2.1 x_.2.2.2.2.2.2.2.1 x_.2.2.2.2.2.2.2.2.1 x_.2.2.2.2.2.2.2.2.2)).1 (ux ((fun (a:List Int) (n:Int) (c:List Int) (r:List Int) (at_:Int) (i:Int) (pk:Int) (pv:Int) (pf:Int) (z:List Int)=>(a,[],(a.length:Int))) x_.1 x_.2.1 x_.2.2.1 x_.2.2.2.1 x_.2.2.2.2.1 x_.2.2.2.2.2.1 x_.2.2.2.2.2.2.1 x_.2.2.2.2.2.2.2.1 x_.2.2.2.2.2.2.2.2.1 x_.2.2.2.2.2.2.2.2.2)).2))
theorem TG (a:List Int) (n:Int) (c:List Int) (r:List Int) (at_:Int) (i:Int) (pk:Int) (pv:Int) (pf:Int) (z:List Int) (h_:lX a n c r at_ i pk pv pf z):dq (fun x_:uu=>uy x_.1 x_.2.1 x_.2.2.1 x_.2.2.2.1 x_.2.2.2.2.1 x_.2.2.2.2.2.1 x_.2.2.2.2.2.2.1 x_.2.2.2.2.2.2.2.1 x_.2.2.2.2.2.2.2.2.1 x_.2.2.2.2.2.2.2.2.2) (a,n,c,r,at_,i,pk,pv,pf,z) (bif false then .inl (false) else .inr ((a,[],(a.length:Int)))):=by
 obtain ⟨rfl,h1,h2,h3,h4,h5,h6,h7,h8,h9,Gp,rfl,h11,h12⟩:=h_
 obtain ⟨k,rfl⟩: ∃ k:Nat,i=k:=⟨i.toNat,by omega⟩
 obtain ⟨j,hj⟩: ∃ j:Nat,z.length-k=j:=⟨_,rfl⟩
 rw[Int.toNat_natCast] at h8 h9 Gp h12 ⊢
 induction j generalizing k at_ with
 |zero=>
  rw[List.drop_eq_nil_of_le (by omega)] at h9 ⊢
  rw[dG] at h9
  refine .stop ?_
  simp only[uy,bs,al,j6,List.flatten_nil,cond_false]
  exact ⟨fun h=>by omega,fun _=>by rw[show at_=(a.length:Int) by omega]⟩
 |succ j ih=>
  have hk:k<z.length:=by omega
  rw[gN 0 hk] at h8 h9 Gp h12 ⊢
  rw[oN,Bool.and_eq_true] at h8
  rw[dG] at h9
  rw[gf] at Gp
  have hx:z.getD (k:Int).toNat 0=z.getD k 0:=by rw[Int.toNat_natCast]
  generalize z.getD k 0=x at*
  have hs:=of_decide_eq_true h8.1
  split at Gp
  ·rename_i c;exact absurd Gp c
  rename_i c0
  have c0:(au ((a.drop at_.toNat).take x.toNat)).1=0:=by simpa using c0
  have jE:aB ((a.drop at_.toNat).take x.toNat):=Px h6 _ _
  have aau:(a.drop at_.toNat).drop x.toNat=a.drop (at_+x).toNat:=by rw[List.drop_drop];congr 1;omega
  have al2:(gf (z.drop (k+1)) (a.drop (at_+x).toNat) [] []).1=0:=by rw[← aau,oQ _ _ [] [] _ _];exact Gp
  rw[j6,List.map_cons,List.flatten_cons,aau] at h12
  rw[j6,List.flatten_cons,aau]
  have hfb:=AV jE c0
  have hfl:=pW ((a.drop at_.toNat).take x.toNat)
  obtain ⟨b1,b2⟩:=Gf (z.drop (k+1)) (a.drop (at_+x).toNat) (fun y hy=>h6 y (List.mem_of_mem_drop hy)) al2
  have hu:=BC (more:=(j6 (z.drop (k+1)) (a.drop (at_+x).toNat)).flatten) jE c0
  have jF:=eI (au ((a.drop at_.toNat).take x.toNat)).2
  have A9:=ih (at_+x) (by omega) (by omega) (k+1) (by omega) (by omega) (by rw[show (a.length:Int)-(at_+x)=a.length-at_-x by omega];exact h8.2) (by omega) al2 (by
   have e:64*(k+1)=64*k+64:=by omega
   rw[e,← List.drop_drop,h12,List.drop_append,jF,List.drop_of_length_le (by omega)];simp) (by omega)
  refine .go ?_ A9
  generalize hR:(j6 (z.drop (k+1)) (a.drop (at_+x).toNat)).flatten=R at*
  generalize hB:(a.drop at_.toNat).take x.toNat=B at*
  generalize hF:(au B).2=F at*
  have w1:IntKind.i64.wrap (at_+x)=at_+x:=ar (by omega) (by omega)
  have w2:IntKind.i64.wrap (64*(k:Int))=64*k:=ar (by omega) (by omega)
  have w3:IntKind.i64.wrap (64*(k:Int)+64)=64*k+64:=ar (by omega) (by omega)
  have w4:IntKind.i64.wrap ((k:Int)+1)=k+1:=ar (by omega) (by omega)
  have d1:decide ((k:Int)<z.length)=true:=decide_eq_true (by omega)
  have d2:(((0:Int)!=0)==false)=true:=rfl
  have hlen:((F++R).length:Int)=F.length+R.length:=by rw[List.length_append];omega
  have d3:(decide (((F++R).length:Int)<(F.length:Int))==false)=true:=by simp;omega
  have hat:List.take (at_+x-at_).toNat (List.drop at_.toNat a)=B:=by rw[← hB];congr 1;omega
  have es: ∀ l,(!cX l l)=false:=fun l=>by simp[cX]
  have hz:List.getD z (k:Int).toNat 0=x:=hx
  have ht:List.take (F.length:Int).toNat (F++R)=F:=by rw[Int.toNat_natCast,List.take_append_of_le_length (Nat.le_refl _),List.take_of_length_le (Nat.le_refl _)]
  have ea:uv (F++R)=F:=by unfold uv;rw[hu];simp
  have aph:List.take (64*(k:Int)+64-64*k).toNat (List.drop (64*(k:Int)).toNat c)=bE F:=by
   rw[show (64*(k:Int)+64-64*k).toNat=64 by omega,show (64*(k:Int)).toNat=64*k by omega,h12,List.take_append_of_le_length (by omega),List.take_of_length_le (by omega)]
  have api:List.take 64 (List.drop 0 (bE F))=bE F:=by rw[List.drop_zero,List.take_of_length_le (by omega)]
  have dp:List.take (((F++R).length:Int)-(F.length:Int)).toNat (List.drop (F.length:Int).toNat (F++R))=R:=by
   rw[Int.toNat_natCast,List.drop_append,List.drop_of_length_le (Nat.le_refl _),Nat.sub_self,List.drop_zero,List.nil_append,List.take_of_length_le (by omega)]
  have hdl:(z.drop (k+1)).length≤20:=by rw[List.length_drop];omega
  have p1:jv (F++R):=⟨hfb.append b1,by rw[List.length_append];omega⟩
  simp only[uy,d1,aK,an,hu,d2,d3,hz,w1,w2,w3,w4,hat,es,aN,ea,aph,api,dp,al]
  refine ⟨p1,trivial,⟨by omega,by omega⟩,⟨by omega,by omega,by omega⟩,⟨by omega,by omega,by omega⟩,⟨by omega,by omega⟩,⟨by omega,by omega,by omega⟩,⟨by omega,by omega,by omega⟩,⟨by omega,by omega⟩,⟨by omega,by omega,by omega⟩,rfl⟩
theorem N1 (s:List Int) (p:b9) (d:List Int): ∀ x:uu,Ex Tryz.prog ((ag).wr (())) (.loop (aW Tryz.f6 0)) (pY.wr x) (xT x):=
 db mixed ((ak rm (ak A4 (ak AP (ak Gb (ak F2 (ak uj aF))))))) (ws:=Qo) (aQ.nil _) (E:=Sum.elim uw ux) (L:=fun x_=>uy x_.1 x_.2.1 x_.2.2.1 x_.2.2.2.1 x_.2.2.2.2.1 x_.2.2.2.2.2.1 x_.2.2.2.2.2.2.1 x_.2.2.2.2.2.2.2.1 x_.2.2.2.2.2.2.2.2.1 x_.2.2.2.2.2.2.2.2.2) (pre:=fun x_=>(fun (a:List Int) (n:Int) (c:List Int) (r:List Int) (at_:Int) (i:Int) (pk:Int) (pv:Int) (pf:Int) (z:List Int)=>lX a n c r at_ i pk pv pf z) x_.1 x_.2.1 x_.2.2.1 x_.2.2.2.1 x_.2.2.2.2.1 x_.2.2.2.2.2.1 x_.2.2.2.2.2.2.1 x_.2.2.2.2.2.2.2.1 x_.2.2.2.2.2.2.2.2.1 x_.2.2.2.2.2.2.2.2.2) (sp:=fun x_=>bif (fun (a:List Int) (n:Int) (c:List Int) (r:List Int) (at_:Int) (i:Int) (pk:Int) (pv:Int) (pf:Int) (z:List Int)=>false) x_.1 x_.2.1 x_.2.2.1 x_.2.2.2.1 x_.2.2.2.2.1 x_.2.2.2.2.2.1 x_.2.2.2.2.2.2.1 x_.2.2.2.2.2.2.2.1 x_.2.2.2.2.2.2.2.2.1 x_.2.2.2.2.2.2.2.2.2 then .inl ((fun (a:List Int) (n:Int) (c:List Int) (r:List Int) (at_:Int) (i:Int) (pk:Int) (pv:Int) (pf:Int) (z:List Int)=>false) x_.1 x_.2.1 x_.2.2.1 x_.2.2.2.1 x_.2.2.2.2.1 x_.2.2.2.2.2.1 x_.2.2.2.2.2.2.1 x_.2.2.2.2.2.2.2.1 x_.2.2.2.2.2.2.2.2.1 x_.2.2.2.2.2.2.2.2.2) else .inr ((fun (a:List Int) (n:Int) (c:List Int) (r:List Int) (at_:Int) (i:Int) (pk:Int) (pv:Int) (pf:Int) (z:List Int)=>(a,[],(a.length:Int))) x_.1 x_.2.1 x_.2.2.1 x_.2.2.2.1 x_.2.2.2.2.1 x_.2.2.2.2.2.1 x_.2.2.2.2.2.2.1 x_.2.2.2.2.2.2.2.1 x_.2.2.2.2.2.2.2.2.1 x_.2.2.2.2.2.2.2.2.2)) (fun x_=>JR s p d x_.1 x_.2.1 x_.2.2.1 x_.2.2.2.1 x_.2.2.2.2.1 x_.2.2.2.2.2.1 x_.2.2.2.2.2.2.1 x_.2.2.2.2.2.2.2.1 x_.2.2.2.2.2.2.2.2.1 x_.2.2.2.2.2.2.2.2.2) (fun z=>by cases z<;>(intro e;cases e)) qO (fun x_ h=>TG x_.1 x_.2.1 x_.2.2.1 x_.2.2.2.1 x_.2.2.2.2.1 x_.2.2.2.2.2.1 x_.2.2.2.2.2.2.1 x_.2.2.2.2.2.2.2.1 x_.2.2.2.2.2.2.2.2.1 x_.2.2.2.2.2.2.2.2.2 h)
noncomputable def dW (p:Int×Int×Int×List Int):Int×Int×Int×List Int:=p
noncomputable def gp (s:List Int) (p:Int×Int×Int×List Int) (d:List Int):Int:=(↑p.snd.snd.snd.length:Int)
noncomputable def we (s:List Int) (p:Int×Int×Int×List Int) (d:List Int):Int:=(↑(bw s (dW p) d).snd.length:Int)
abbrev Gg:Type:=Bool
noncomputable abbrev Gh (x:Gg):LV:=LV.one (VV.sc (SV.bool (SB.sym x)))
noncomputable abbrev Gi (x:Gg):List (Nat×Ev.Item):= []
noncomputable def xU (s:List Int) (p:Int×Int×Int×List Int) (d:List Int):Tr (Gg):=(.need (j3) (.ite ((!true)==false)
 (.need (m8 (dW p) d) (.ite (!decide (p.snd.snd.snd.length≤20∧d.length≤700)) (.ret (true)) (.need (mY s (dW p) d) (.need
 (dH (bw s (dW p) d).fst) (.ite ((bw s (dW p) d).fst !=0) (.ret (we s p d==0)) (.ite (decide (we s p d<
 IntKind.i64.wrap (224+IntKind.i64.wrap (64*gp s p d)))) (.ret (false)) (.need ((0:Int)≤224∧224≤IntKind.i64.wrap (224+
 IntKind.i64.wrap (64*gp s p d))∧IntKind.i64.wrap (224+IntKind.i64.wrap (64*gp s p d))≤(↑(bw s (dW p) d).snd.length:
 Int)) (.need (0≤IntKind.i64.wrap (224+IntKind.i64.wrap (64*gp s p d))∧IntKind.i64.wrap (224+IntKind.i64.wrap (64*gp s p d))≤
 (↑(bw s (dW p) d).snd.length:Int)∧(↑(bw s (dW p) d).snd.length:Int)≤(↑(bw s (dW p) d).snd.length:Int)) (.need
 (lX d (gp s p d) (List.take (IntKind.i64.wrap (224+IntKind.i64.wrap (64*gp s p d))-224).toNat (List.drop 224 (bw s
 (dW p) d).snd)) (List.take ((↑(bw s (dW p) d).snd.length:Int)-IntKind.i64.wrap (224+IntKind.i64.wrap (64*gp s p d))).toNat
 (List.drop (IntKind.i64.wrap (224+IntKind.i64.wrap (64*gp s p d))).toNat (bw s (dW p) d).snd)) 0 0 p.fst p.snd.fst p.snd.snd.fst
 p.snd.snd.snd) (.ite (false) (.ret (false)) (.ite (((0:Int)==0)==true) (.ret ((↑d.length:Int)==(↑d.length:Int))) (.ret (false)))))))))))))
 (.ret (true))))
theorem JS (s:List Int) (p:b9) (d:List Int):aS Tryz.prog [(15,um),(21,A3),(9,TA),(19,Qm),(22,Z7),(18,AR)] [(0,bM pY ((ag).wr (())) xS (xT))] Tryz.f6 ((oP).wr (s,p,d,())) ((ag).wr (())) [.fr [.sym],.syms,.auto,.aD]=(xU s p d).end Gh Gi ((ag).wr (())):=by kernel_rfl
theorem N2 (s:List Int) (p:b9) (d:List Int):aQ Tryz.prog ((ag).wr (())) [(0,bM pY ((ag).wr (())) xS (xT))] (aJ Tryz.f6):=(aQ.cO (nx (by kernel_rfl) (cz (hp:=(ag).wr (())) (N1 s p d)) pc))
abbrev wg (s:List Int) (p:b9) (d:List Int):Prop:=s.length=32∧aB d∧0≤p.2.1∧p.2.1<18446744073709551616∧0≤p.2.2.1∧p.2.2.1<18446744073709551616
noncomputable def aeq:ao:=ao.bS [none,some (.int .i64),some u8] (oP) (ag) fun x_ y_=> .leaf (some ((fun (s:List Int) (p:b9) (d:List Int)=>wg s p d) x_.1 x_.2.1 x_.2.2.1)) (Gh ((fun (s:List Int) (p:b9) (d:List Int)=>true) x_.1 x_.2.1 x_.2.2.1)) (Gi ((fun (s:List Int) (p:b9) (d:List Int)=>true) x_.1 x_.2.1 x_.2.2.1))
theorem TH (s:List Int) (p:b9) (d:List Int) (h_:wg s p d):(xU s p d).Is (true):=by
 obtain ⟨h1,h2,h5,h6,h7,h8⟩:=h_
 have e0:dW p=p:=rfl
 have e5:gp s p d=p.2.2.2.length:=rfl
 have e10:we s p d=(bw s p d).2.length:=rfl
 have d1:((!true)==false)=true:=rfl
 simp only[xU,an,d1,aK,e0,e5,e10]
 refine ⟨trivial,trivial,?_⟩
 by_cases hsm:p.2.2.2.length≤20∧d.length≤700
 ·rw[decide_eq_true hsm]
  simp only[Bool.not_true,aN,an]
  have p1:mY s p d:=⟨h1,h2,by omega,by omega,h5,h6,h7,h8⟩
  refine ⟨p1,trivial,?_⟩
  by_cases hm:(bw s p d).1=0
  ·have d2:((bw s p d).1!=0)=false:=by rw[hm];rfl
   obtain ⟨k1,k2,k3⟩:=xQ hm
   have hl:=AQ hm
   obtain ⟨m1,m2,m3,m4,m5,m6,m7⟩:=uh k1
   obtain ⟨f1,f2⟩:=Gf p.2.2.2 d h2 k2
   have w1:IntKind.i64.wrap (64*(p.2.2.2.length:Int))=64*p.2.2.2.length:=ar (by omega) (by omega)
   have w2:IntKind.i64.wrap (224+64*(p.2.2.2.length:Int))=224+64*p.2.2.2.length:=ar (by omega) (by omega)
   have hlb:=(F9 (s:=s) (L:=((j6 p.2.2.2 d).map bE).flatten) k1).2.2.2
   have jF:(((j6 p.2.2.2 d).map bE).flatten).length=64*p.2.2.2.length:=by rw[ui,xR]
   have d3:decide (((bw s p d).2.length:Int)<224+64*p.2.2.2.length)=false:=decide_eq_false (by omega)
   have hd:List.drop 224 (bw s p d).2=((j6 p.2.2.2 d).map bE).flatten++(j6 p.2.2.2 d).flatten:=by
    rw[k3,List.drop_append,hlb,List.drop_of_length_le (by omega)];rfl
   have hc:List.take (224+64*(p.2.2.2.length:Int)-224).toNat (List.drop 224 (bw s p d).2)=((j6 p.2.2.2 d).map bE).flatten:=by
    rw[hd,List.take_append_of_le_length (by omega),List.take_of_length_le (by omega)]
   have hr:List.take (((bw s p d).2.length:Int)-(224+64*p.2.2.2.length)).toNat (List.drop (224+64*(p.2.2.2.length:Int)).toNat (bw s p d).2)=(j6 p.2.2.2 d).flatten:=by
    rw[show (224+64*(p.2.2.2.length:Int)).toNat=224+64*p.2.2.2.length from by omega,← List.drop_drop,hd,List.drop_append,List.drop_of_length_le (by omega),jF,Nat.sub_self,List.drop_zero,List.nil_append,List.take_of_length_le (by omega)]
   have p2:lX d p.2.2.2.length (((j6 p.2.2.2 d).map bE).flatten) ((j6 p.2.2.2 d).flatten) 0 0 p.1 p.2.1 p.2.2.1 p.2.2.2:=
    ⟨rfl,by omega,by omega,by omega,by omega,by omega,h2,by omega,by simpa using m6,by simp;omega,by simpa using k2,rfl,jF,by simp⟩
   simp only[d2,aN,w1,w2,d3,hc,hr,an]
   refine ⟨⟨by omega,by omega,by omega⟩,⟨by omega,by omega,by omega⟩,p2,?_⟩
   have d4:(((0:Int)==0)==true)=true:=rfl
   simp only[d4,aK,al,beq_self_eq_true]
  ·have d2:((bw s p d).1!=0)=true:=by simpa using hm
   have hn:(bw s p d).2= []:=by
    unfold bw at hm ⊢
    split
    ·rfl
    ·rename_i c
     rw[if_neg c] at hm
     split
     ·rfl
     ·rename_i c2;rw[if_neg c2] at hm;exact absurd rfl hm
   simp only[d2,aK,al,hn]
   rfl
 ·rw[decide_eq_false hsm]
  simp only[Bool.not_false,aK,al]
theorem TI:aeq.Ok Tryz.prog 6:=
 cg (tys:= [none,some (.int .i64),some u8]) (A:=oP) (H:=ag) (LT:=fun x_ y_=>(fun (s:List Int) (p:b9) (d:List Int)=> [(0,bM pY ((ag).wr (())) xS (xT))]) x_.1 x_.2.1 x_.2.2.1) (ks:= [.fr [.sym],.syms,.auto,.aD]) (V:=Gh) (D:=Gi) (T:=fun x_ y_=>xU x_.1 x_.2.1 x_.2.2.1) (pre:=fun x_ y_=>(fun (s:List Int) (p:b9) (d:List Int)=>wg s p d) x_.1 x_.2.1 x_.2.2.1) (sp:=fun x_ y_=>(fun (s:List Int) (p:b9) (d:List Int)=>true) x_.1 x_.2.1 x_.2.2.1) mixed ((ak rm (ak A4 (ak AP (ak Gb (ak F2 (ak uj aF))))))) Tryz.func6 (by kernel_rfl) Tryz.call6 (fun x_ y_=>N2 x_.1 x_.2.1 x_.2.2.1) (fun x_ y_=>JS x_.1 x_.2.1 x_.2.2.1) (fun x_ y_ h=>TH x_.1 x_.2.1 x_.2.2.1 h)
end Go.Proofs.YtjalaohajcpllaaGreat
end
section
set_option linter.unusedVariables false
set_option linter.unusedSimpArgs false
namespace Go.Proofs.YtjalaohajcpllaaGreat
open Go Go.Ev
set_option maxRecDepth 100000
end Go.Proofs.YtjalaohajcpllaaGreat
end
section
set_option linter.unusedVariables false
set_option linter.unusedSimpArgs false
namespace Go.Proofs.YtjalaohajcpllaaGreat
open Go Go.Ev
set_option maxRecDepth 100000
end Go.Proofs.YtjalaohajcpllaaGreat
end
section
set_option linter.unusedVariables false
set_option linter.unusedSimpArgs false
namespace Go.Proofs.YtjalaohajcpllaaGreat
open Go Go.Ev
set_option maxRecDepth 100000
theorem Gj:aS Tryz.prog [(11,ab8),(12,Pu),(14,Pr),(10,agJ),(13,E0)] [] Tryz.f8 [] [] [.auto]=
 End.need (false=false→ ¬(1:Int)=(0:Int)→(0:Int)≤(0:Int)∧(0:Int)<(4096:Int)∧(4096:Nat)=(4096:Nat)∧((1:Int)=(4:
 Int)→(8:Int)=(4:Int))) (End.ite (((7:Int)==(7:Int))==true) (End.ite ((!(br {blocks:=(0:Int),block:=(0:Int),part:=(1:Int),len:=(0:Int),want:=(8:Int),buf:=List.replicate (4096:Nat) (0:Int),bad:=false}
 (66:Int)).snd.snd.snd.fst)==true) (End.ite (((0:Int)==(0:Int))==true) (End.leaf (LV.one (VV.sc (SV.bool (SB.sym !(1:Int)==(0:Int)))))
 []) (End.leaf (LV.one (VV.sc (SV.bool (SB.lit false)))) [])) (End.leaf (LV.one (VV.sc (SV.bool (SB.lit false)))) [])) (End.leaf (LV.one (VV.sc (SV.bool
 (SB.lit false)))) [])):=by kernel_rfl
noncomputable def A5:ao:=ao.of [] ag ag fun _ _=> .leaf none (.one (.sc (.bool (.lit true)))) []
theorem A6:A5.Ok Tryz.prog 8:=by
 refine ao.bf Tryz.call8 fun x y Q h=>?_
 refine (ay mixed (ak Mu (ak E3 (ak E2 (ak Pv (ak zO aF))))) Tryz.func8 rfl (LT:= []) (ks:= [.auto]) (aQ.nil _)).anK (D:= []) ?_ h.2
 show (aS _ _ _ _ [] [] _).sat _
 rw[Gj]
 exact ⟨fun _ _=>⟨by omega,by omega,rfl,fun h=>by omega⟩,fun _=>⟨fun _=>⟨fun _=>⟨fun β L val h=>h,rfl⟩,fun h=>by cases h⟩,fun h=>by cases h⟩,fun h=>by cases h⟩
end Go.Proofs.YtjalaohajcpllaaGreat
end
section
set_option linter.unusedVariables false
set_option linter.unusedSimpArgs false
namespace Go.Proofs.YtjalaohajcpllaaGreat
open Go Go.Ev
set_option maxRecDepth 100000
end Go.Proofs.YtjalaohajcpllaaGreat
end
section
set_option linter.unusedVariables false
set_option linter.unusedSimpArgs false
namespace Go.Proofs.YtjalaohajcpllaaGreat
open Go Go.Ev
set_option maxRecDepth 100000
end Go.Proofs.YtjalaohajcpllaaGreat
end
section
set_option linter.unusedVariables false
set_option linter.unusedSimpArgs false
namespace Go.Proofs.YtjalaohajcpllaaGreat
open Go Go.Ev
set_option maxRecDepth 100000
end Go.Proofs.YtjalaohajcpllaaGreat
end
