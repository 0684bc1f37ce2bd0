/- What the laws lean on, part 18: a reader of code, plain facts, and what each function gives; no conditions. -/
import Derived.Test.YtnbkagglkajbkaaGreatC17
set_option linter.unusedVariables false
set_option linter.unusedSimpArgs false
noncomputable section
namespace Go.Proofs.YtnbkagglkajbkaaGreat
open Go Go.Ev Go.ChangeShapes Go.WideShapes Go.ChangeAt Go.RowKit Go.Proofs.Tryz
open Go.IntKind (i64 signed u16 u64 wrap)
set_option maxRecDepth 100000
theorem DN:Tryz.prog.cellsOf 3=1:=by kernel_rfl
theorem sD{H:Type}{enc:TypeId×Value→H}{W:World}{fuel:Nat}{cs:List Value}{y:DataW H×List MemPlace}
  (h:DataW.trod enc Tryz.prog W 0 (fun _=>true) true fuel 24 cs=some y):
  ∃ (l:List Int) (v:Value),cs= [v]∧(SV.rd false false (.int .i64) l).den (vm W) (kd []) v:=by
 rcases open_ints underlying24 underlying3 DN h with⟨e,_⟩|⟨a,len,cap,zs,e,_,hlc,_,hzl,_,I0,hwf⟩
 ·exact⟨[],_,e,rfl,(fun e=>by cases e),.inr (.inr ⟨rfl,rfl⟩)⟩
 ·simp only[if_true]at hzl;refine⟨zs.take len,_,e,rfl,(fun e=>by cases e),.inr (.inl ⟨rfl,rfl,by decide,?_⟩)⟩;refine⟨some a,len,cap,rfl,by simp;omega,hlc,(fun e=>by cases e),fun h0=>?_⟩;have M4:=I0 0 (by omega)
  have hsp:a.spot=none:=by
   have:a.add 0=a:=(by cases a;simp[Addr.add]);rw[this]at M4;exact World.cell?_spot M4
  refine⟨a,(zs.take len).map (.int .i64),rfl,hsp,?_,fun i u hu=>?_⟩
  ·generalize zs.take len=l
   induction l with
   |nil=>exact .nil
   |cons x l ih=>exact aV.cons (vs:= [.int .i64 x]) rfl ih
  ·rw[List.getElem?_map]at hu;obtain⟨z,hz,rfl⟩:=map_some hu
   have hil:i<len∧i<zs.length:=by
    have:=(List.getElem?_eq_some_iff.1 hz).1;simp at this;omega
   rw[I0 i hil.2];rw[List.getElem?_take,if_pos hil.1]at hz;rw[List.getD_eq_getElem?_getD,hz];rfl
theorem Vh{z:Int}(h:(Lit.int .u64 z).wf=true):0≤z∧z<18446744073709551616:=by
 have:=bounds_u64 h;omega
theorem Zz{H:Type}{enc:TypeId×Value→H}{W:World}{base:Nat}{v:Value}{d:DataW H}{p:List MemPlace}
  (jJ:Value.okWide Tryz.prog W .any base 26 v) (h:DataW.Trod enc Tryz.prog W 0 (fun _=>true) true 26 v d p):
  ∃m:de,(0≤m.2.1∧m.2.1<18446744073709551616∧0≤m.2.2.1∧m.2.2.1<18446744073709551616)∧(LV.one (.agg (Vc.wr m))).den (vm W) (kd []) v:=by
 unfold Value.okWide at jJ;rw[underlying26]at jJ;obtain⟨cs,rfl,_,_⟩:=jJ;obtain⟨fuel,h⟩:=h;simp only[Value.cells]at h;obtain⟨xs,m,_,_,hl,hlen,hf⟩:=DataW.trod_struct underlying26 h;obtain⟨cs⟩:=cs;have c4:Tryz.prog.cellsOf 26=4:=by kernel_rfl
 have c1:Tryz.prog.cellsOf 3=1:=DN;have c2:Tryz.prog.cellsOf 23=1:=by kernel_rfl
 have c3:Tryz.prog.cellsOf 24=1:=by kernel_rfl
 have f1:sI Tryz.prog 10 3=some [.int .i64]:=by kernel_rfl
 have f2:sI Tryz.prog 10 23=some [.int .u64]:=by kernel_rfl
 simp only at hl hlen hf;have hn:cs.length=4:=by rw[← c4];first|exact hl|exact hlen|omega
 have hx:xs.length=4:=by first|exact hl|exact hlen|omega
 match cs,hn with
 | [a,b,c,e],_=>
  have g0:=hf 0 _ rfl;have g1:=hf 1 _ rfl;have g2:=hf 2 _ rfl;have g3:=hf 3 _ rfl;rw[List.getElem?_eq_getElem (by omega)]at g0 g1 g2 g3;have k0:=pO 10 f1 g0;have k1:=pO 10 f2 g1;have k2:=pO 10 f2 g2;obtain⟨l,w,k3,k4⟩:=sD g3
  cases k0 with
  |cons q0 _=>cases k1 with
  |cons q1 _=>cases k2 with
  |cons q2 _=>
   obtain⟨z0,rfl,_⟩:=q0;obtain⟨z1,rfl,w1⟩:=q1;obtain⟨z2,rfl,w2⟩:=q2;have k3: [e].take (Tryz.prog.cellsOf 24)= [w]:=k3;rw[c3]at k3;have k3:e=w:=(by simpa using k3);subst k3;have b1:=Vh w1;have b2:=Vh w2;exact⟨(z0,z1,z2,l),⟨b1.1,b1.2,b2.1,b2.2⟩,_,rfl,a8.je rfl (a8.je rfl (a8.je rfl (a8.je k4 .nil)))⟩
end Go.Proofs.YtnbkagglkajbkaaGreat
end
noncomputable section
namespace Go.Proofs.YtnbkagglkajbkaaGreat
open Go Go.Ev Go.Proofs.Tryz
open Go.IntKind (i64 signed u16 u64 wrap)
set_option maxRecDepth 1000000
abbrev at4:an:=Bg bB
theorem aiq:at4.Ok Tryz.prog 22:=Hn
abbrev RQ:an:=eSi jU
theorem Mk:RQ.Ok Tryz.prog 38:=am8
abbrev BB:aQ (List LV) (List Int×de×List Int×Unit):=ae cB (ae (qC Vc) (ae (ah (gg false false u8)) ag))
abbrev Ml:Type:=(List Int)×(List Int)×(List Int)×Int×Int×(List Int)×Int×Int×Int×(List Int)×(List Int)×(List Int)
abbrev Mm:aQ St Ml:=(aT (jk 2 (ae (ah (gg false false (Ty.int IntKind.u8))) (ai (ah (aD (0) (0))) (ai (ah
 (aD (1) (0))) (jk 3 (ai (ah (j0 (2) (0))) (ai (ah (j0 (3) (0))) (ae (ah (gg false false (Ty.int IntKind.u8))) (jk 14 (ae (ah
 (gg false false (Ty.int i64))) (ae (ah (aA i64)) (ae (ah (aA i64)) (jk 66 ag))))))))))))) (ae (fG (22)
 ((ae (sF (Ty.int IntKind.u8) (32)) ag))) (ae (fG (26) ((ae (aA i64) (ae (aA u64) (ae (aA u64) (ae
 (gg false false (Ty.int i64)) ag)))))) (ae (cE (0) (Ty.int IntKind.u8)) (ae (cE (0) (Ty.int IntKind.u8)) ag))))).lV (fun y=>
 (y.1.1,y.1.2.1,y.1.2.2.1,y.1.2.2.2.1,y.1.2.2.2.2.1,y.2.1.1,y.2.2.1.1,y.2.2.1.2.1,y.2.2.1.2.2.1,y.2.2.1.2.2.2.1,y.2.2.2.1,y.2.2.2.2.1)) (fun
 x=>((x.1,(x.2.1,(x.2.2.1,(x.2.2.2.1,(x.2.2.2.2.1,()))))),((x.2.2.2.2.2.1,()),((x.2.2.2.2.2.2.1,(x.2.2.2.2.2.2.2.1,(x.2.2.2.2.2.2.2.2.1,
 (x.2.2.2.2.2.2.2.2.2.1,())))),(x.2.2.2.2.2.2.2.2.2.2.1,(x.2.2.2.2.2.2.2.2.2.2.2,())))))) (fun _=>rfl)
abbrev air:List Wk:= [.cP 8 u8,.cP 9 u8,.fr (cb 94 [(2,.ak),(3,.ak),(4,.ak),(8,.ak),(9,.ak),(10,.ak),(25,.ak),
 (26,.ak),(27,.ak)]),.syms,.auto,.aF]
abbrev aqm:Exit→List Wk:=wT air 0 [.cP 8 u8,.cP 9 u8,.fr (cb 94 [(2,.ak),(3,.ak),(4,.ak),(8,.ak),(9,.ak)]),.syms,
 .auto,.aF] [.cP 8 u8,.cP 9 u8,.fr (cb 94 [(6,.ak),(7,.ak)]),.syms,.auto,.aF]
def HQ(rest:List Int)(sz:List Int)(i:Int):List Int:= [(aY (List.take (sz.getD i.toNat (0:Int)-0).toNat (List.drop
 0 rest))).snd].flatten
def HR(rest:List Int)(sz:List Int)(i:Int)(F:List Int):Nat:=F.length+(aY (List.take (sz.getD i.toNat (0:Int)-
 0).toNat (List.drop 0 rest))).snd.length
abbrev RR:Type:=Int
abbrev ais(x:RR):Exit×St:=(Exit.ret,⟨(gA 6 (LV.one (VV.sc (SV.gY (Value.slice none 0 0)))::(LV.one (VV.sc (SV.int
 i64 (SI.sym x)))::(gA 86 [])))),[]⟩)
abbrev RS:Type:=(List Int)×(List Int)×Int×Int×Int×(List Int)×(List Int)×(List Int)
abbrev ait(x:RS):Exit×St:=(Exit.exit 0,⟨(gA 2 (LV.one (VV.sc (SV.rd false false (Ty.int IntKind.u8) x.1))::(LV.one
 (VV.sc (SV.ptr 0 0))::(LV.one (VV.sc (SV.ptr 1 0))::(gA 3 (LV.one (VV.sc (SV.sl 2 0))::(LV.one (VV.sc (SV.sl 3 0))::(gA 84 [])))))))),[some
 (Item.ba [SV.arr (Ty.int IntKind.u8) 32 x.2.1] 22),some (Item.ba [SV.int i64 (SI.sym x.2.2.1),SV.int u64 (SI.sym x.2.2.2.1),SV.int
 u64 (SI.sym x.2.2.2.2.1),SV.rd false false (Ty.int i64) x.2.2.2.2.2.1] 26),some (Item.own 0 (Ty.int IntKind.u8) x.2.2.2.2.2.2.1),
 some (Item.own 0 (Ty.int IntKind.u8) x.2.2.2.2.2.2.2)]⟩)
def Mn(d':List Int)(rest:List Int)(sz:List Int)(m:Int)(i:Int)(s':List Int)(pk:Int)(pv:Int)(pf:Int)(ps:
 List Int) (L:List Int) (F:List Int):Tr (Ml⊕(RR⊕RS)):=(.ite (decide (i<m)) (.need (0≤i∧i<(↑sz.length:Int)) (.need ((0:
 Int)≤0∧0≤sz.getD i.toNat 0∧sz.getD i.toNat 0≤(↑rest.length:Int)) (.ite (decide ¬(aY (List.take (sz.getD i.toNat (0:Int)-0).toNat
 (List.drop 0 rest))).fst=0) (.need (mC (List.take (sz.getD i.toNat (0:Int)-0).toNat (List.drop 0 rest))) (.ite ((aY (List.take
 (sz.getD i.toNat (0:Int)-0).toNat (List.drop 0 rest))).fst !=0) (.ret (.inr (.inl ((aY (List.take (sz.getD i.toNat (0:Int)-0).toNat
 (List.drop 0 rest))).fst)))) (.need (0≤sz.getD i.toNat 0∧sz.getD i.toNat 0≤(↑rest.length:Int)∧(↑rest.length:Int)≤(↑rest.length:Int))
 (.need (1<2305843009213693952∧0<1152921504606846976) (.need ((0:Int)≤0∧(0:Int)≤64∧(64:Int)≤64) (.need ((L.length+64)*1≤
 70368744177664∧L.length+64≤70368744177664) (.need ((F.length+0)*1≤70368744177664∧F.length+0≤70368744177664) (.ret (.inl (d',
 List.take ((↑rest.length:Int)-sz.getD i.toNat 0).toNat (List.drop (Int.toNat (sz.getD i.toNat 0)) rest),sz,m,i64.wrap (i+1),s',pk,
 pv,pf,ps,L++List.take 64 (List.drop 0 (bB [[]].flatten)),F++ [])))))))))) (.need (mC (List.take (sz.getD i.toNat (0:Int)-0).toNat
 (List.drop 0 rest))) (.ite ((0:Int)!=0) (.ret (.inr (.inl (0)))) (.need (0≤sz.getD i.toNat 0∧sz.getD i.toNat 0≤(↑rest.length:Int)∧
 (↑rest.length:Int)≤(↑rest.length:Int)) (.need (1<2305843009213693952∧(HQ rest sz i).length<1152921504606846976) (.need ((0:Int)≤0∧
 (0:Int)≤64∧(64:Int)≤64) (.need ((L.length+64)*1≤70368744177664∧L.length+64≤70368744177664) (.need (HR rest sz i F*1≤
 70368744177664∧HR rest sz i F≤70368744177664) (.ret (.inl (d',List.take ((↑rest.length:Int)-sz.getD i.toNat 0).toNat (List.drop (Int.toNat
 (sz.getD i.toNat 0)) rest),sz,m,i64.wrap (i+1),s',pk,pv,pf,ps,L++List.take 64 (List.drop 0 (bB (HQ rest sz i))),F++
 (aY (List.take (sz.getD i.toNat (0:Int)-0).toNat (List.drop 0 rest))).snd))))))))))))) (.ret (.inr (.inr (d',s',pk,pv,pf,ps,L,F)))))
theorem ZA(s:List Int)(p:de)(d:List Int)(d':List Int)(rest:List Int)(sz:List Int)(m:Int)(i:Int)(s':List Int)(pk:Int)(pv:Int)(pf:Int)(ps:List Int)(L:List Int)(F:List Int):ct Tryz.prog [(36,aip),(37,Gz),(22,at4),(38,RQ),(41,aro),(40,GJ),(39,adM),(42,F8)] [] f12 0 ((ag).wr (())) aqm (Mm.wr (d',rest,sz,m,i,s',pk,pv,pf,ps,L,F))=(Mn d' rest sz m i s' pk pv pf ps L F).res Mm.wr (Sum.elim ais ait):=by kernel_rfl
def gn:List Int→List Int→List Int→List Int→Int×List Int×List Int
 | [],_,L,F=>(0,L,F)
 |n::l,rest,L,F=>if(aY (rest.take n.toNat)).1≠0 then((aY (rest.take n.toNat)).1,[],[])else gn l (rest.drop n.toNat) (L++bB (aY (rest.take n.toNat)).2) (F++(aY (rest.take n.toNat)).2)
theorem wu(b:List Int):(aY b).2.length≤4100:=by
 unfold aY
 split
 ·simp
 ·split
  ·simp
  ·rename_i h;have:=(PT (b:=b) (by simpa using h)).2;simp;omega
abbrev yb(d':List Int)(rest:List Int)(sz:List Int)(m:Int)(i:Int)(s':List Int)(pk:Int)(pv:Int)(pf:Int)(ps:List Int)(L:List Int)(F:List Int):Prop:=m=sz.length∧0≤i∧i≤m∧m≤16∧nT (sz.drop i.toNat) rest.length=true∧aN rest∧rest.length<1099511627776∧L.length≤64*i∧F.length≤4100*i
abbrev aiu(d':List Int)(rest:List Int)(sz:List Int)(m:Int)(i:Int)(s':List Int)(pk:Int)(pv:Int)(pf:Int)(ps:List Int)(L:List Int)(F:List Int):Bool:=decide ((gn (sz.drop i.toNat) rest L F).1≠0)
abbrev aiv(d':List Int)(rest:List Int)(sz:List Int)(m:Int)(i:Int)(s':List Int)(pk:Int)(pv:Int)(pf:Int)(ps:List Int)(L:List Int)(F:List Int):RR:=(gn (sz.drop i.toNat) rest L F).1
abbrev aiw(d':List Int)(rest:List Int)(sz:List Int)(m:Int)(i:Int)(s':List Int)(pk:Int)(pv:Int)(pf:Int)(ps:List Int)(L:List Int)(F:List Int):RS:=(d',s',pk,pv,pf,ps,(gn (sz.drop i.toNat) rest L F).2)
abbrev aix:Ml→aG:=mW (fun x_=>yb x_.1 x_.2.1 x_.2.2.1 x_.2.2.2.1 x_.2.2.2.2.1 x_.2.2.2.2.2.1 x_.2.2.2.2.2.2.1 x_.2.2.2.2.2.2.2.1 x_.2.2.2.2.2.2.2.2.1 x_.2.2.2.2.2.2.2.2.2.1 x_.2.2.2.2.2.2.2.2.2.2.1 x_.2.2.2.2.2.2.2.2.2.2.2) (fun x_=>aiu x_.1 x_.2.1 x_.2.2.1 x_.2.2.2.1 x_.2.2.2.2.1 x_.2.2.2.2.2.1 x_.2.2.2.2.2.2.1 x_.2.2.2.2.2.2.2.1 x_.2.2.2.2.2.2.2.2.1 x_.2.2.2.2.2.2.2.2.2.1 x_.2.2.2.2.2.2.2.2.2.2.1 x_.2.2.2.2.2.2.2.2.2.2.2) (fun x_=>aiv x_.1 x_.2.1 x_.2.2.1 x_.2.2.2.1 x_.2.2.2.2.1 x_.2.2.2.2.2.1 x_.2.2.2.2.2.2.1 x_.2.2.2.2.2.2.2.1 x_.2.2.2.2.2.2.2.2.1 x_.2.2.2.2.2.2.2.2.2.1 x_.2.2.2.2.2.2.2.2.2.2.1 x_.2.2.2.2.2.2.2.2.2.2.2) (fun x_=>aiw x_.1 x_.2.1 x_.2.2.1 x_.2.2.2.1 x_.2.2.2.2.1 x_.2.2.2.2.2.1 x_.2.2.2.2.2.2.1 x_.2.2.2.2.2.2.2.1 x_.2.2.2.2.2.2.2.2.1 x_.2.2.2.2.2.2.2.2.2.1 x_.2.2.2.2.2.2.2.2.2.2.1 x_.2.2.2.2.2.2.2.2.2.2.2) ais ait
theorem aob(d':List Int)(rest:List Int)(sz:List Int)(m:Int)(i:Int)(s':List Int)(pk:Int)(pv:Int)(pf:Int)(ps:List Int)(L:List Int)(F:List Int)(h_:yb d' rest sz m i s' pk pv pf ps L F):cK (fun x_:Ml=>Mn x_.1 x_.2.1 x_.2.2.1 x_.2.2.2.1 x_.2.2.2.2.1 x_.2.2.2.2.2.1 x_.2.2.2.2.2.2.1 x_.2.2.2.2.2.2.2.1 x_.2.2.2.2.2.2.2.2.1 x_.2.2.2.2.2.2.2.2.2.1 x_.2.2.2.2.2.2.2.2.2.2.1 x_.2.2.2.2.2.2.2.2.2.2.2) (d',rest,sz,m,i,s',pk,pv,pf,ps,L,F) (bif aiu d' rest sz m i s' pk pv pf ps L F then .inl (aiv d' rest sz m i s' pk pv pf ps L F)else .inr (aiw d' rest sz m i s' pk pv pf ps L F)):=by
 delta aiu aiv aiw;obtain⟨rfl,h1,h2,h3,h4,h5,h6,h7,h8⟩:=h_;obtain⟨k,rfl⟩:∃k:Nat,i=k:=⟨i.toNat,by omega⟩;obtain⟨j,hj⟩:∃j:Nat,sz.length-k=j:=⟨_,rfl⟩;rw[Int.toNat_natCast]at h4 ⊢
 induction j generalizing k rest L F with
 |zero=>
  rw[List.drop_eq_nil_of_le (by omega),gn];refine .stop ?_;simp only[Mn,a5,ao];exact⟨fun h=>by omega,fun _=>by simp⟩
 |succ j ih=>
  have hk:k<sz.length:=by omega
  rw[ja 0 hk]at h4 ⊢;rw[nT,Bool.and_eq_true]at h4;rw[gn];have e1:decide ((k:Int)<sz.length)=true:=decide_eq_true (by omega);have ZV:HQ rest sz (k:Int)=(aY (List.take (sz.getD k 0-0).toNat (List.drop 0 rest))).2:=by unfold HQ;rw[Int.toNat_natCast];simp
  have B0:HR rest sz (k:Int) F=F.length+(aY (List.take (sz.getD k 0-0).toNat (List.drop 0 rest))).2.length:=by unfold HR;rw[Int.toNat_natCast]
  rw[Int.sub_zero,List.drop_zero]at ZV B0;generalize hx:sz.getD k 0=x at*;have hs:=of_decide_eq_true h4.1;have hfl:=wu (rest.take x.toNat);have me:=cI (aY (rest.take x.toNat)).2;have p0:mC (rest.take x.toNat):=⟨fun z hz=>h5 z (List.mem_of_mem_take hz),by rw[List.length_take];omega⟩
  have es:List.take 64 (List.drop 0 (bB (aY (rest.take x.toNat)).2))=bB (aY (rest.take x.toNat)).2:=by
   rw[List.drop_zero,List.take_of_length_le (by omega)]
  have er:List.take ((rest.length:Int)-x).toNat (List.drop x.toNat rest)=rest.drop x.toNat:=List.take_of_length_le (by rw[List.length_drop];omega)
  by_cases c:(aY (rest.take x.toNat)).1=0
  ·rw[if_neg (by simpa using c)];have d1:decide ¬(aY (rest.take x.toNat)).1=0=false:=(by simpa using c);have d2:((0:Int)!=0)=false:=rfl
   refine .go ?_ (ih (rest.drop x.toNat) (L++bB (aY (rest.take x.toNat)).2) (F++(aY (rest.take x.toNat)).2) (fun z hz=>h5 z (List.mem_of_mem_drop hz)) (by rw[List.length_drop];omega) (k+1) (by omega) (by omega) (by
    rw[List.length_drop,show((rest.length-x.toNat:Nat):Int)=rest.length-x from by omega];exact h4.2) (by rw[List.length_append,me];omega) (by rw[List.length_append];omega) (by omega))
   simp only[Mn,e1,a6,aq,ao,Int.toNat_natCast,hx,Int.sub_zero,List.drop_zero,d1,d2,bw,ZV,B0];rw[List.drop_zero]at es;rw[es,er,au (by omega) (by omega)];exact⟨⟨by omega,by omega⟩,⟨by omega,by omega,by omega⟩,p0,⟨by omega,by omega,by omega⟩,⟨by decide,by omega⟩,⟨by omega,by omega,by omega⟩,⟨by omega,by omega⟩,⟨by omega,by omega⟩,rfl⟩
  ·rw[if_pos c];have d1:decide ¬(aY (rest.take x.toNat)).1=0=true:=(by simpa using c);have d2:((aY (rest.take x.toNat)).1!=0)=true:=(by simpa using c);refine .stop ?_;simp only[Mn,e1,a6,aq,ao,Int.toNat_natCast,hx,Int.sub_zero,List.drop_zero,d1,d2];exact⟨⟨by omega,by omega⟩,⟨by omega,by omega,by omega⟩,p0,rfl⟩
theorem aiy(s:List Int)(p:de)(d:List Int):∀x:Ml,Ex Tryz.prog ((ag).wr (())) (.loop (aP f12 0)) (Mm.wr x) (aix x):=
 cn mixed ((al Vg (al CW (al aiq (al Mk (al adL (al CZ (al adN (al oL aw))))))))) (ws:=aqm) (aK.nil _) (fun x_=>ZA s p d x_.1 x_.2.1 x_.2.2.1 x_.2.2.2.1 x_.2.2.2.2.1 x_.2.2.2.2.2.1 x_.2.2.2.2.2.2.1 x_.2.2.2.2.2.2.2.1 x_.2.2.2.2.2.2.2.2.1 x_.2.2.2.2.2.2.2.2.2.1 x_.2.2.2.2.2.2.2.2.2.2.1 x_.2.2.2.2.2.2.2.2.2.2.2) (fun z=>by cases z<;>(intro e;cases e)) oA (fun x_ h=>aob x_.1 x_.2.1 x_.2.2.1 x_.2.2.2.1 x_.2.2.2.2.1 x_.2.2.2.2.2.1 x_.2.2.2.2.2.2.1 x_.2.2.2.2.2.2.2.1 x_.2.2.2.2.2.2.2.2.1 x_.2.2.2.2.2.2.2.2.2.1 x_.2.2.2.2.2.2.2.2.2.2.1 x_.2.2.2.2.2.2.2.2.2.2.2 h)
def Vi(p:Int×Int×Int×List Int)(d:List Int):List Int:= [(gn (List.drop 0 p.snd.snd.snd) d [] []).snd.fst].flatten
def aiz(p:Int×Int×Int×List Int):Int×Int×Int×List Int:=p
def Vj(s:List Int)(p:Int×Int×Int×List Int)(d:List Int):List Int:=cA p.fst (↑p.snd.snd.snd.length:Int)
def Mo(s:List Int)(p:Int×Int×Int×List Int)(d:List Int):List Int:=dR p.snd.fst p.snd.snd.fst (↑d.length:Int)
 (bB (Vi p d)) (bB [d].flatten)
def DO(s:List Int)(p:Int×Int×Int×List Int)(d:List Int):List Int×Int:=jU s [98,111,111,116,106,97,99,
 107] (eG (nQ (Vj s p d) (Mo s p d) (List.replicate 64 (0:Int))))
def HS(s:List Int)(p:Int×Int×Int×List Int)(d:List Int):List Int:= [nQ (Vj s p d) (Mo s p d) (DO s p
 d).fst,(gn (List.drop 0 p.snd.snd.snd) d [] []).snd.fst,(gn (List.drop 0 p.snd.snd.snd) d [] []).snd.snd].flatten
abbrev aoc:Type:=(List Int)×Int
abbrev azr(x:aoc):LV:=LV.c6 [VV.sc (SV.rd true false (Ty.int IntKind.u8) x.1),VV.sc (SV.int i64 (SI.sym x.2))]
abbrev azs(x:aoc):List (Nat×Ev.Item):= []
def at5(s:List Int)(p:Int×Int×Int×List Int)(d:List Int):Tr (aoc):=(.need (ya (aiz p) d) (.ite (!pq (aiz
 p) (↑d.length:Int)) (.ret ([],1)) (.need (yb d d p.snd.snd.snd (↑p.snd.snd.snd.length:Int) 0 s p.fst p.snd.fst p.snd.snd.fst p.snd.snd.snd []
 []) (.ite (decide ¬(gn (List.drop 0 p.snd.snd.snd) d [] []).fst=0) (.ret ([],(gn (List.drop 0 p.snd.snd.snd) d [] []).fst)) (.need (1<
 2305843009213693952∧(Vi p d).length<1152921504606846976) (.need (1<2305843009213693952∧ [d].flatten.length<1152921504606846976) (.need (0≤
 p.snd.fst∧p.snd.fst<18446744073709551616∧0≤p.snd.snd.fst∧p.snd.snd.fst<18446744073709551616) (.need ((nQ (Vj s p d) (Mo s p d)
 (List.replicate 64 (0:Int))).length<1152921504606846976) (.need (s.length=32∧64=64) (.ite ((DO s p d).snd !=0) (.ret ([],(DO s p
 d).snd)) (.need (0≤p.snd.fst∧p.snd.fst<18446744073709551616∧0≤p.snd.snd.fst∧p.snd.snd.fst<18446744073709551616) (.need ((HS s p
 d).length≤70368744177664∧3≤140737488355328) (.ret (HS s p d,0))))))))))))))
theorem aiA(s:List Int)(p:de)(d:List Int):aH Tryz.prog [(36,aip),(37,Gz),(22,at4),(38,RQ),(41,aro),(40,GJ),(39,adM),(42,F8)] [(0,bU Mm ((ag).wr (())) air (aix))] f12 ((BB).wr (s,p,d,())) ((ag).wr (())) [.cP 8 u8,.cP 9 u8,.Nm,.fr [.rd true u8],.fr [.sym],.syms,.auto,.aF]=(at5 s p d).end azr azs ((ag).wr (())):=by kernel_rfl
theorem aod(s:List Int)(p:de)(d:List Int):aK Tryz.prog ((ag).wr (())) [(0,bU Mm ((ag).wr (())) air (aix))] (aJ f12):=(aK.bI (iu (by kernel_rfl) (bM (hp:=(ag).wr (())) (aiy s p d)) iE))
def HT:List Int:=List.replicate 64 0
def BC(s:List Int)(p:de)(d L:List Int):List Int:=
 nQ (cA p.1 p.2.2.2.length) (dR p.2.1 p.2.2.1 d.length (bB L) (bB d)) (jU s xj (eG (nQ (cA p.1 p.2.2.2.length) (dR p.2.1 p.2.2.1 d.length (bB L) (bB d)) HT))).1
def dS(s:List Int)(p:de)(d:List Int):Int×List Int:=
 if pq p d.length=false then(1,[])
 else if(gn p.2.2.2 d [] []).1≠0 then((gn p.2.2.2 d [] []).1,[])
 else(0,BC s p d (gn p.2.2.2 d [] []).2.1++(gn p.2.2.2 d [] []).2.1++(gn p.2.2.2 d [] []).2.2)
theorem HU:∀ (l rest L F:List Int),(gn l rest L F).2.1.length≤L.length+64*l.length∧(gn l rest L F).2.2.length≤F.length+4100*l.length
 | [],_,L,F=>by simp[gn]
 |n::l,rest,L,F=>by
  rw[gn]
  split
  ·simp
  ·have h1:=wu (rest.take n.toNat);have h2:=cI (aY (rest.take n.toNat)).2;obtain⟨k1,k2⟩:=HU l (rest.drop n.toNat) (L++bB (aY (rest.take n.toNat)).2) (F++(aY (rest.take n.toNat)).2);rw[List.length_append]at k1 k2;rw[List.length_cons];omega
theorem aoe(c v s:Int)(a b:List Int):(dR c v s a b).length≤152:=by
 unfold dR
 split
 ·simp only[List.length_append,List.length_take,db];omega
 ·simp
theorem aiB(h m g:List Int):(nQ h m g).length≤h.length+m.length+64:=by
 unfold nQ
 split
 ·simp
 ·simp only[List.length_append,List.length_take];omega
theorem yc{p:de}{n:Int}(h:pq p n=true):0≤p.1∧p.1<8∧1≤p.2.2.2.length∧p.2.2.2.length≤16∧p.2.2.1≤p.2.1∧nT p.2.2.2 n=true∧du p.2.2.2=n:=by
 unfold pq at h;rw[Bool.and_eq_true,Bool.and_eq_true]at h;have h1:=of_decide_eq_true h.1;have h2:=of_decide_eq_true h.2.2;exact⟨h1.1,h1.2.1,h1.2.2.1,h1.2.2.2.1,h1.2.2.2.2,h.2.1,by omega⟩
theorem ZB(s m:List Int):(jU s xj m).2=0:=by
 rw[uH,if_pos (by decide)]
abbrev BD(s:List Int)(p:de)(d:List Int):Prop:=s.length=32∧aN d∧d.length<1099511627776∧p.2.2.2.length<1099511627776∧0≤p.2.1∧p.2.1<18446744073709551616∧0≤p.2.2.1∧p.2.2.1<18446744073709551616
abbrev at6(s:List Int)(p:de)(d:List Int):aoc:=((dS s p d).2,(dS s p d).1)
def at7:an:=cQ [none,some (.int .i64),some u8] (BB) (ag) (fun x_ y_=>BD x_.1 x_.2.1 x_.2.2.1) (fun x_ y_=>at6 x_.1 x_.2.1 x_.2.2.1) azr azs
theorem at8(s:List Int)(p:de)(d:List Int)(h_:BD s p d):(at5 s p d).Is (at6 s p d):=by
 delta at6;obtain⟨h1,h2,h3,h4,h5,h6,h7,h8⟩:=h_;have q2:aiz p=p:=rfl;have p0:ya p d:=⟨h3,h4⟩;simp only[at5,q2,aq];refine⟨p0,?_⟩
 cases hm:pq p d.length with
 |false=>
  have e:dS s p d=(1,[]):=by unfold dS;rw[if_pos hm]
  simp only[e,Bool.not_false,a6,ao]
 |true=>
  obtain⟨m1,m2,m3,m4,m5,m6,m7⟩:=yc hm;have p1:yb d d p.2.2.2 (p.2.2.2.length:Int) 0 s p.1 p.2.1 p.2.2.1 p.2.2.2 [] []:=⟨rfl,by omega,by omega,by omega,m6,h2,h3,by simp,by simp⟩;simp only[Bool.not_true,bw,aq,List.drop_zero];refine⟨p1,?_⟩;obtain⟨l1,l2⟩:=HU p.2.2.2 d [] [];have q0:Vi p d=(gn p.2.2.2 d [] []).2.1:=by unfold Vi;simp
  have q7:Vj s p d=cA p.1 p.2.2.2.length:=rfl;have q8:Mo s p d=dR p.2.1 p.2.2.1 d.length (bB (gn p.2.2.2 d [] []).2.1) (bB d):=by unfold Mo;rw[q0];simp
  have q9:DO s p d=jU s xj (eG (nQ (cA p.1 p.2.2.2.length) (dR p.2.1 p.2.2.1 d.length (bB (gn p.2.2.2 d [] []).2.1) (bB d)) HT)):=by unfold DO;rw[q7,q8];rfl
  have q10:HS s p d=BC s p d (gn p.2.2.2 d [] []).2.1++(gn p.2.2.2 d [] []).2.1++(gn p.2.2.2 d [] []).2.2:=by
   unfold HS BC;rw[q7,q8,q9];simp
  by_cases c:(gn p.2.2.2 d [] []).1=0
  ·have e:dS s p d=(0,BC s p d (gn p.2.2.2 d [] []).2.1++(gn p.2.2.2 d [] []).2.1++(gn p.2.2.2 d [] []).2.2):=(by unfold dS;rw[if_neg (by rw[hm];simp),if_neg (by simpa using c)]);have c1:decide ¬(gn p.2.2.2 d [] []).1=0=false:=(by simpa using c);have c2:((DO s p d).2!=0)=false:=(by rw[q9,ZB];rfl);have hh:=vS p.1 p.2.2.2.length;have hmn:=aoe p.2.1 p.2.2.1 d.length (bB (gn p.2.2.2 d [] []).2.1) (bB d);have hlb:=fun g=>aiB (cA p.1 p.2.2.2.length) (dR p.2.1 p.2.2.1 d.length (bB (gn p.2.2.2 d [] []).2.1) (bB d)) g;have hll:(BC s p d (gn p.2.2.2 d [] []).2.1).length≤224:=(by unfold BC;have:=hlb (jU s xj (eG (nQ (cA p.1 p.2.2.2.length) (dR p.2.1 p.2.2.1 d.length (bB (gn p.2.2.2 d [] []).2.1) (bB d)) HT))).1;omega);have hl2:=hlb (List.replicate 64 0);simp only[e,c1,c2,bw,aq,ao];rw[q7,q8,q10,q0];refine⟨⟨by decide,?_⟩,⟨by decide,by simp;omega⟩,⟨h5,h6,h7,h8⟩,?_,⟨h1,trivial⟩,⟨h5,h6,h7,h8⟩,⟨?_,by decide⟩,rfl⟩
   ·simp only[List.length_nil]at l1;omega
   ·omega
   ·simp only[List.length_append,List.length_nil]at l1 l2 ⊢;omega
  ·have e:dS s p d=((gn p.2.2.2 d [] []).1,[]):=(by unfold dS;rw[if_neg (by rw[hm];simp),if_pos c]);have c1:decide ¬(gn p.2.2.2 d [] []).1=0=true:=(by simpa using c);simp only[e,c1,a6,ao]
theorem aiC:at7.Ok Tryz.prog 12:=
 bJ mixed ((al Vg (al CW (al aiq (al Mk (al adL (al CZ (al adN (al oL aw))))))))) func12 (by kernel_rfl) call12 (fun x_ y_=>aod x_.1 x_.2.1 x_.2.2.1) (fun x_ y_=>aiA x_.1 x_.2.1 x_.2.2.1) (fun x_ y_ h=>at8 x_.1 x_.2.1 x_.2.2.1 h)
def ZX:List Int→List Int→List (List Int)
 | [],_=> []
 |n::l,rest=>(aY (rest.take n.toNat)).2::ZX l (rest.drop n.toNat)
theorem Vk:∀ (l rest L F:List Int),(gn l rest L F).1=0→gn l rest L F=(0,L++((ZX l rest).map bB).flatten,F++(ZX l rest).flatten)∧
  ∀a n b,l=a++n::b→(aY ((rest.drop (du a).toNat).take n.toNat)).1=0∨¬ (∀x∈a,0≤x)
 | [],rest,L,F,_=>by
  refine⟨by simp[gn,ZX],fun a n b h=>?_⟩;simp at h
 |n::l,rest,L,F,h=>by
  rw[gn]at h ⊢
  split at h
  ·rename_i c;exact absurd h c
  ·rename_i c;rw[if_neg c];obtain⟨h1,h2⟩:=Vk l _ _ _ h;refine⟨by rw[h1,ZX];simp,fun a m b e=>?_⟩
   cases a with
   |nil=>
    simp at e;obtain⟨rfl,rfl⟩:=e;left;simp only[du];simpa using c
   |cons x a=>
    simp at e;obtain⟨rfl,rfl⟩:=e;have:=h2 a m b rfl
    by_cases hx:∀y∈n::a,0≤y
    ·left;have h0:0≤n:=hx n (by simp)
     have h3:0≤du a:=by
      have:∀a:List Int,(∀y∈a,0≤y)→0≤du a:=fun a=>by
       induction a with
       |nil=>intro _;simp[du]
       |cons y a ih=>intro h;have:=ih fun z hz=>h z (List.mem_cons_of_mem _ hz);have:=h y (by simp);rw[du];omega
      exact this a fun y hy=>hx y (List.mem_cons_of_mem _ hy)
     rcases this with h|h
     ·rw[du,show(n+du a).toNat=n.toNat+(du a).toNat from by omega,← List.drop_drop];exact h
     ·exact absurd (fun y hy=>hx y (List.mem_cons_of_mem _ hy)) h
    ·exact .inr hx
theorem Mp{b:List Int}(hb:aN b)(h0:b.length≠0)(h:b.length≤500):(aY b).1=0:=by
 unfold aY;rw[if_neg h0,if_neg (by rw[JZ hb h];simp)]
theorem DP:∀ (l rest L F:List Int),aN rest→rest.length≤500→nT l rest.length=true→(gn l rest L F).1=0
 | [],rest,L,F,_,_,_=>rfl
 |n::l,rest,L,F,h1,h2,h3=>by
  rw[nT,Bool.and_eq_true]at h3;have hn:=of_decide_eq_true h3.1;have hl:(rest.take n.toNat).length=n.toNat:=by rw[List.length_take];omega
  have hf:(aY (rest.take n.toNat)).1=0:=Mp (fun z hz=>h1 z (List.mem_of_mem_take hz)) (by omega) (by omega);rw[gn,if_neg (by rw[hf];simp)];refine DP l _ _ _ (fun z hz=>h1 z (List.mem_of_mem_drop hz)) (by rw[List.length_drop];omega) ?_;rw[List.length_drop,show((rest.length-n.toNat:Nat):Int)=rest.length-n from by omega];exact h3.2
theorem Mq:∀ (l:List Int) (n:Int),nT l n=true→(l.length:Int)≤du l∧du l≤8192*l.length∧(∀x∈l,1≤x∧x≤8192)
 | [],n,_=>by simp[du]
 |s::l,n,h=>by
  rw[nT,Bool.and_eq_true]at h;have hs:=of_decide_eq_true h.1;obtain⟨h1,h2,h3⟩:=Mq l _ h.2;refine⟨by rw[du,List.length_cons];omega,by rw[du,List.length_cons];omega,fun x hx=>?_⟩;rcases List.mem_cons.1 hx with rfl|hx
  ·omega
  ·exact h3 x hx
theorem BE(s m:List Int):(jU s xj m).1.length=64∧aN (jU s xj m).1:=by
 rw[uH,if_pos (by decide)];exact⟨(LH s xj m).2.1,(LH s xj m).2.2⟩
theorem Vl{s:List Int}{p:de}{d L:List Int}(h:pq p d.length=true):cA p.1 p.2.2.2.length= [66,74,75,49,p.1,p.2.2.2.length,0,0]∧ku p.2.1 p.2.2.1 d.length=true∧(dR p.2.1 p.2.2.1 d.length (bB L) (bB d)).length=152∧(BC s p d L).length=224:=by
 obtain⟨m1,m2,m3,m4,m5,m6,m7⟩:=yc h;obtain⟨k1,k2,k3⟩:=Mq _ _ m6;have e1:cA p.1 p.2.2.2.length= [66,74,75,49,p.1,p.2.2.2.length,0,0]:=by unfold cA;rw[if_pos ⟨m1,m2,by omega,by omega⟩]
 have e2:ku p.2.1 p.2.2.1 d.length=true:=by unfold ku;exact decide_eq_true ⟨m5,by omega,by omega⟩
 have e3:(dR p.2.1 p.2.2.1 d.length (bB L) (bB d)).length=152:=by
  unfold dR;rw[if_pos e2];simp only[List.length_append,List.length_take,db,cI];rfl
 refine⟨e1,e2,e3,?_⟩;unfold BC nQ;rw[if_neg (by rw[e3,e1];simp)];simp only[List.length_append,List.length_take,e3,(BE _ _).1,e1];rfl
theorem aof{s:List Int}{p:de}{d:List Int}(h:(dS s p d).1=0):pq p d.length=true∧(gn p.2.2.2 d [] []).1=0∧
  (dS s p d).2=BC s p d (((ZX p.2.2.2 d).map bB).flatten)++(((ZX p.2.2.2 d).map bB).flatten++(ZX p.2.2.2 d).flatten):=by
 unfold dS at*
 split at h
 ·cases h
 ·rename_i c;rw[if_neg c]
  split at h
  ·rename_i c2;exact absurd h c2
  ·rename_i c2;rw[if_neg c2];have c2:(gn p.2.2.2 d [] []).1=0:=(by simpa using c2);refine⟨by simpa using c,c2,?_⟩;rw[(Vk _ _ _ _ c2).1];simp
theorem RT{s:List Int}{p:de}{d:List Int}(h:pq p d.length=true)(hd:aN d)(hl:d.length≤500):(dS s p d).1=0:=by
 have:=DP p.2.2.2 d [] [] hd hl (yc h).2.2.2.2.2.1;unfold dS;rw[if_neg (by rw[h];simp),if_neg (by rw[this];simp)]
theorem Vm:∀ (l rest:List Int),(ZX l rest).length=l.length
 | [],_=>rfl
 |n::l,rest=>by rw[ZX,List.length_cons,List.length_cons,Vm l]
theorem Mr:∀ (l:List (List Int)),((l.map bB).flatten).length=64*l.length
 | []=>rfl
 |x::l=>by rw[List.map_cons,List.flatten_cons,List.length_append,Mr l,cI,List.length_cons];omega
theorem aiD{s:List Int}{p:de}{d:List Int}(h:(dS s p d).1=0):(dS s p d).2.length=224+64*p.2.2.2.length+(ZX p.2.2.2 d).flatten.length:=by
 obtain⟨h1,h2,h3⟩:=aof h;rw[h3,List.length_append,List.length_append,(Vl h1).2.2.2,Mr,Vm];omega
def Vn:List Int:= [1,0,0,0,0,0,0,0,0,0,0,0,0,0,0,0,0,0,0,0,0,0,0,0,0,0,0,0,0,0,0,0]
theorem by7:aN [7]:=fun z hz=>by simp at hz;subst hz;exact⟨by decide,by decide⟩
theorem azt:(dS Vn (0,0,0,[1]) [7]).1=0∧(dS Vn (0,0,0,[1]) [7]).2.length=297:=by
 have h0:(dS Vn (0,0,0,[1]) [7]).1=0:=RT (by decide) by7 (by decide);refine⟨h0,?_⟩;rw[aiD h0];have:(ZX [1] [7]).flatten.length=9:=by decide+kernel
 rw[this];rfl
abbrev HV:Type:=Int
abbrev aiE(x:HV):LV:=LV.one (VV.sc (SV.int i64 (SI.sym x)))
abbrev aiF(x:HV):List (Nat×Ev.Item):= []
def aiG(e:Int):Tr (HV):=(.ret (e))
theorem RU(e:Int):aH Tryz.prog [] [] f14 ((VZ).wr (e,())) ((ag).wr (())) [.fr [.sym],.syms,.auto,.aF]=(aiG e).end aiE aiF ((ag).wr (())):=by kernel_rfl
theorem ZC(e:Int):aK Tryz.prog ((ag).wr (())) [] (aJ f14):=(aK.nil _)
abbrev kJ(e:Int):Prop:=True
abbrev RV(e:Int):HV:=e
def RW:an:=cQ [] (VZ) (ag) (fun x_ y_=>kJ x_.1) (fun x_ y_=>RV x_.1) aiE aiF
theorem aiH(e:Int)(h_:kJ e):(aiG e).Is (RV e):=by
 delta RV;exact rfl
theorem Ms:RW.Ok Tryz.prog 14:=
 bJ mixed aw func14 (by kernel_rfl) call14 (fun x_ y_=>ZC x_.1) (fun x_ y_=>RU x_.1) (fun x_ y_ h=>aiH x_.1 h)
def wv:List Int:= [1,0,0,0,0,0,0,0,0,0,0,0,0,0,0,0,0,0,0,0,0,0,0,0,0,0,0,0,0,0,0,0]
def qu:Int:=(↑(dS wv (0,0,0,[1]) [7]).snd.length:Int)
abbrev uM:Type:=Bool
abbrev Mt(x:uM):LV:=LV.one (VV.sc (SV.bool (SB.sym x)))
abbrev Mu(x:uM):List (Nat×Ev.Item):= []
def BF:Tr (uM):=(.need (BD wv (0,0,0,[1]) [7]) (.ite (decide ¬(gB [7]).fst=0) (.need (jz [7])
 (.need (kJ 0) (.ite (((0:Int)==0)==true) (.need (kJ 0) (.ite (((0:Int)==0)==true) (.ret (qu==292)) (.ret (false))))
 (.ret (false))))) (.need (jz [7]) (.need (kJ 0) (.ite (((0:Int)==0)==true) (.need (kJ 0) (.ite (((0:Int)==0)==true) (.ret
 (qu==297)) (.ret (false)))) (.ret (false)))))))
theorem HW:aH Tryz.prog [(12,at7),(35,PR),(14,RW)] [] f10 ((ag).wr (())) ((ag).wr (())) [.fr [.sym],.syms,.auto,.aF]=(BF).end Mt Mu ((ag).wr (())):=by kernel_rfl
theorem Mv:aK Tryz.prog ((ag).wr (())) [] (aJ f10):=(aK.nil _)
abbrev rO:Prop:=True
abbrev BG:uM:=true
def Mw:an:=cQ [] (ag) (ag) (fun _ _=>rO) (fun _ _=>BG) Mt Mu
theorem RX(h_:rO):(BF).Is (BG):=by
 delta BG;obtain⟨m1,m2⟩:=azt
 have e2:qu=297:=by
  have e:qu=((dS Vn (0,0,0,[1]) [7]).2.length:Int):=rfl;rw[e,m2];rfl
 have p1:BD wv (0,0,0,[1]) [7]:=⟨rfl,by7,by decide,by decide,by decide,by decide,by decide,by decide⟩;have p2:jz [7]:=⟨by7,by decide⟩;have d1:decide ¬(gB [7]).1=0=false:=by rw[JZ by7 (by decide)];rfl
 have d2:(((0:Int)==0)==true)=true:=rfl;simp only[BF,d1,d2,bw,a6,aq,ao,e2];exact⟨p1,p2,trivial,trivial,by decide⟩
theorem RY:Mw.Ok Tryz.prog 10:=
 bJ mixed ((al aiC (al JY (al Ms aw)))) func10 (by kernel_rfl) call10 (fun x_ y_=>Mv) (fun x_ y_=>HW) (fun x_ y_ h=>RX h)
theorem RZ(c v s:Int)(a b:List Int):(dR c v s a b).length≤152:=by
 unfold dR
 split
 ·simp only[List.length_append,List.length_take,db];omega
 ·simp
theorem aiI{P:Program}{f:FuncId}{X Y:Type}{tys:List (Option Ty)}{A:aQ (List LV) X}{H:aQ Hp Y}{out azu:X→Y→Out}(h:(an.cm tys A H out).Ok P f)(hw:∀x y Q,(azu x y).holds Q→(out x y).holds Q):(an.cm tys A H azu).Ok P f:=by
 refine⟨fun args hp Q hq=>h.calls args hp Q ?_⟩;simp only[an.cm,an.sym,an.of]at hq ⊢
 split at hq
 ·exact hw _ _ _ hq
 ·exact hq.elim
def eRs(g:List Int→List Int):an:=an.cm [some u8] bA ag fun x _=>.leaf (some (x.1.length≤1099511627776)) (cY .u8 64 (g x.1)) []
abbrev aiJ:an:=eRs bB
theorem Vo:aiJ.Ok Tryz.prog 45:=aiI (X:=List Int×Unit) (Y:=Unit) HK fun x y Q h=>by
 have h1:x.1.length≤1099511627776:=h.1;refine⟨by show x.1.length≤_;omega,?_⟩;rw[aif (by omega)];exact h.2
abbrev azv:an:=akD
theorem at9:azv.Ok Tryz.prog 50:=akE
abbrev azw:an:=azq Bw
theorem aua:azw.Ok Tryz.prog 93:=aij
abbrev azx:an:=Kr
theorem aub:azx.Ok Tryz.prog 95:=Qf
abbrev azy:an:=TR
theorem auc:azy.Ok Tryz.prog 92:=adI
abbrev azz:an:=adM
theorem aud:azz.Ok Tryz.prog 94:=an8
theorem Mx:∀ (l:List Int) (n:Int),(nT l n=true∧n-du l=0)↔(∀x∈l,1≤x∧x≤8192)∧du l=n
 | [],n=>by simp[nT,du];omega
 |s::l,n=>by
  have ih:=Mx l (n-s)
  have hs:∀l:List Int,(∀x∈l,1≤x∧x≤8192)→0≤du l:=fun l=>by
   induction l with
   |nil=>intro _;simp[du]
   |cons y l ih=>intro h;have:=ih fun z hz=>h z (List.mem_cons_of_mem _ hz);have:=h y (by simp);rw[du];omega
  rw[nT,du,Bool.and_eq_true,decide_eq_true_eq];constructor
  ·rintro⟨⟨h1,h2⟩,h3⟩
   obtain⟨k1,k2⟩:=ih.1 ⟨h2,by omega⟩;refine⟨fun x hx=>?_,by omega⟩;rcases List.mem_cons.1 hx with rfl|hx
   ·omega
   ·exact k1 x hx
  ·rintro⟨h1,h2⟩
   have h0:=h1 s (by simp);have h3:∀x∈l,1≤x∧x≤8192:=fun x hx=>h1 x (List.mem_cons_of_mem _ hx);have h4:=hs l h3;obtain⟨k1,k2⟩:=ih.2 ⟨h3,by omega⟩;exact⟨⟨by omega,k1⟩,by omega⟩
abbrev azA:aQ (List LV) (de×Int×Unit):=ae (qC Vc) (ae (ah (aA .i64)) ag)
def pr:Nat→List Int→Bool×Int
 |0,_=>(true,0)
 |_+1,[]=>(true,0)
 |m+1,s::l=>if 1≤s∧s≤8192 then((pr m l).1,s+(pr m l).2)else(false,0)
abbrev My:Type:=Int×Int×Int×Int×Int×Int×(List Int)
abbrev Mz:aQ St My:=(aT (jk 1 (ae (ah (aA i64)) (ai (ah (aD (0) (0))) (jk 2 (ae (ah (aA
 i64)) (ae (ah (aA i64)) (jk 64 ag))))))) (ae (fG (26) ((ae (aA i64) (ae (aA u64) (ae (aA
 u64) (ae (gg false false (Ty.int i64)) ag)))))) ag)).lV (fun y=>(y.1.1,y.1.2.1,y.1.2.2.1,y.2.1.1,y.2.1.2.1,y.2.1.2.2.1,
 y.2.1.2.2.2.1)) (fun x=>((x.1,(x.2.1,(x.2.2.1,()))),((x.2.2.2.1,(x.2.2.2.2.1,(x.2.2.2.2.2.1,(x.2.2.2.2.2.2,())))),()))) (fun _=>rfl)
abbrev aiK:List Wk:= [.fr (cb 71 [(1,.ak),(2,.ak),(5,.ak),(6,.ak)]),.syms,.auto,.aF]
abbrev aqn:Exit→List Wk:=wT aiK 0 [.fr (cb 71 [(1,.ak),(2,.ak),(5,.ak)]),.syms,.auto,.aF] [.fr (cb 71 [(4,.ak)]),
 .syms,.auto,.aF]
abbrev R5:Type:=Bool
abbrev aiL(x:R5):Exit×St:=(Exit.ret,⟨(gA 4 (LV.one (VV.sc (SV.bool (SB.sym x)))::(gA 66 []))),[]⟩)
abbrev R6:Type:=Int×Int×Int×Int×Int×(List Int)
abbrev aiM(x:R6):Exit×St:=(Exit.exit 0,⟨(gA 1 (LV.one (VV.sc (SV.int i64 (SI.sym x.1)))::(LV.one (VV.sc
 (SV.ptr 0 0))::(gA 2 (LV.one (VV.sc (SV.int i64 (SI.sym x.2.1)))::(gA 65 [])))))),[some (Item.ba [SV.int i64 (SI.sym x.2.2.1),
 SV.int u64 (SI.sym x.2.2.2.1),SV.int u64 (SI.sym x.2.2.2.2.1),SV.rd false false (Ty.int i64) x.2.2.2.2.2] 26)]⟩)
def DQ(n:Int)(sum:Int)(i:Int)(k:Int)(v:Int)(f:Int)(sz:List Int):Tr (My⊕(R5⊕R6)):=(.ite (decide
 (i<(↑sz.length:Int))==true) (.ite (decide (i≤16)) (.need (0≤i∧i<(↑sz.length:Int)) (.ite (decide (sz.getD i.toNat (0:Int)<1)==
 false) (.need (0≤i∧i<(↑sz.length:Int)) (.ite (decide (8192<sz.getD i.toNat 0)) (.ret (.inr (.inl (false)))) (.need (0≤i∧i<(↑sz.length:
 Int)) (.ret (.inl (n,i64.wrap (sum+sz.getD i.toNat 0),i64.wrap (i+1),k,v,f,sz)))))) (.ret (.inr (.inl (false)))))) (.ret
 (.inr (.inr (n,sum,k,v,f,sz))))) (.ret (.inr (.inr (n,sum,k,v,f,sz)))))
theorem ZD(p:de)(n':Int)(n:Int)(sum:Int)(i:Int)(k:Int)(v:Int)(f:Int)(sz:List Int):ct Tryz.prog [] [] f43 0 ((ag).wr (())) aqn (Mz.wr (n,sum,i,k,v,f,sz))=(DQ n sum i k v f sz).res Mz.wr (Sum.elim aiL aiM):=by kernel_rfl
abbrev HX(n:Int)(sum:Int)(i:Int)(k:Int)(v:Int)(f:Int)(sz:List Int):Prop:=0≤i∧i≤17∧i≤sz.length∧0≤sum∧sum≤8192*i
abbrev aiN(n:Int)(sum:Int)(i:Int)(k:Int)(v:Int)(f:Int)(sz:List Int):Bool:= !(pr (17-i).toNat (sz.drop i.toNat)).1
abbrev aiO(n:Int)(sum:Int)(i:Int)(k:Int)(v:Int)(f:Int)(sz:List Int):R5:=false
abbrev aiP(n:Int)(sum:Int)(i:Int)(k:Int)(v:Int)(f:Int)(sz:List Int):R6:=(n,sum+(pr (17-i).toNat (sz.drop i.toNat)).2,k,v,f,sz)
abbrev aiQ:My→aG:=mW (fun x_=>HX x_.1 x_.2.1 x_.2.2.1 x_.2.2.2.1 x_.2.2.2.2.1 x_.2.2.2.2.2.1 x_.2.2.2.2.2.2) (fun x_=>aiN x_.1 x_.2.1 x_.2.2.1 x_.2.2.2.1 x_.2.2.2.2.1 x_.2.2.2.2.2.1 x_.2.2.2.2.2.2) (fun x_=>aiO x_.1 x_.2.1 x_.2.2.1 x_.2.2.2.1 x_.2.2.2.2.1 x_.2.2.2.2.2.1 x_.2.2.2.2.2.2) (fun x_=>aiP x_.1 x_.2.1 x_.2.2.1 x_.2.2.2.1 x_.2.2.2.2.1 x_.2.2.2.2.2.1 x_.2.2.2.2.2.2) aiL aiM
theorem aog(n:Int)(sum:Int)(i:Int)(k:Int)(v:Int)(f:Int)(sz:List Int)(h_:HX n sum i k v f sz):cK (fun x_:My=>DQ x_.1 x_.2.1 x_.2.2.1 x_.2.2.2.1 x_.2.2.2.2.1 x_.2.2.2.2.2.1 x_.2.2.2.2.2.2) (n,sum,i,k,v,f,sz) (bif aiN n sum i k v f sz then .inl (aiO n sum i k v f sz)else .inr (aiP n sum i k v f sz)):=by
 delta aiN aiO aiP;obtain⟨h1,h2,h3,h4,h5⟩:=h_;obtain⟨j,rfl⟩:∃m:Nat,i=m:=⟨i.toNat,by omega⟩;obtain⟨m,hm⟩:∃m:Nat,17-(j:Int)=m:=⟨(17-(j:Int)).toNat,by omega⟩;rw[hm,Int.toNat_natCast,Int.toNat_natCast]
 induction m generalizing j sum with
 |zero=>
  refine .stop ?_;have e1:decide ((j:Int)≤16)=false:=decide_eq_false (by omega);simp only[DQ,e1,bw,ao,pr]
  cases(decide ((j:Int)<sz.length)==true)<;>simp[cu,ao]
 |succ m ih=>
  have e1:decide ((j:Int)≤16)=true:=decide_eq_true (by omega)
  by_cases hk:j<sz.length
  ·have e2:(decide ((j:Int)<sz.length)==true)=true:=(by simpa using hk);rw[ja 0 hk,pr];generalize hx:sz.getD j 0=x at*
   by_cases c:1≤x∧x≤8192
   ·rw[if_pos c];have w1:i64.wrap (sum+x)=sum+x:=au (by omega) (by omega);have w2:i64.wrap ((j:Int)+1)=((j+1:Nat):Int):=(by rw[au (by omega) (by omega)];omega);have d1:(decide (x<1)==false)=true:=(by simp;omega);have d2:decide (8192<x)=false:=decide_eq_false (by omega);have sP:=ih (sum+x) (by omega) (j+1) (by omega) (by omega) (by omega) (by omega) (by omega);simp only;rw[← Int.add_assoc];refine .go ?_ sP;simp only[DQ,e1,e2,a6,aq,Int.toNat_natCast,hx,d1,d2,bw,ao,w1,w2];exact⟨by omega,by omega,by omega,trivial⟩
   ·rw[if_neg c];refine .stop ?_;simp only[DQ,e1,e2,a6,aq,Int.toNat_natCast,hx];simp[cu,ao,aq];omega
  ·refine .stop ?_;have e2:(decide ((j:Int)<sz.length)==true)=false:=(by simpa using hk);rw[List.drop_eq_nil_of_le (by omega),pr];simp only[DQ,e2,bw,ao];simp
theorem aiR(p:de)(n':Int):∀x:My,Ex Tryz.prog ((ag).wr (())) (.loop (aP f43 0)) (Mz.wr x) (aiQ x):=
 cn mixed aw (ws:=aqn) (aK.nil _) (fun x_=>ZD p n' x_.1 x_.2.1 x_.2.2.1 x_.2.2.2.1 x_.2.2.2.2.1 x_.2.2.2.2.2.1 x_.2.2.2.2.2.2) (fun z=>by cases z<;>(intro e;cases e)) oA (fun x_ h=>aog x_.1 x_.2.1 x_.2.2.1 x_.2.2.2.1 x_.2.2.2.2.1 x_.2.2.2.2.2.1 x_.2.2.2.2.2.2 h)
theorem aiS:∀ (m:Nat) (l:List Int),l.length≤m→((pr m l).1=true↔∀x∈l,1≤x∧x≤8192)∧((pr m l).1=true→(pr m l).2=du l)
 |0,[],_=>by simp[pr,du]
 |0,x::l,h=>by simp at h
 |m+1,[],_=>by simp[pr,du]
 |m+1,x::l,h=>by
  obtain⟨h1,h2⟩:=aiS m l (by simpa using h);rw[pr]
  by_cases c:1≤x∧x≤8192
  ·rw[if_pos c];simp only[List.mem_cons,forall_eq_or_imp,du];exact⟨⟨fun k=>⟨c,h1.1 k⟩,fun k=>h1.2 k.2⟩,fun k=>by rw[h2 k]⟩
  ·rw[if_neg c];exact⟨⟨fun k=>by simp at k,fun k=>absurd (k x (by simp)) c⟩,fun k=>by simp at k⟩
theorem aue(p:de)(n:Int):pq p n=true↔(pr 17 p.2.2.2).1=true∧0≤p.1∧p.1<8∧1≤p.2.2.2.length∧p.2.2.2.length≤16∧(pr 17 p.2.2.2).2=n∧p.2.2.1≤p.2.1:=by
 unfold pq;rw[Bool.and_eq_true,Bool.and_eq_true,decide_eq_true_eq,decide_eq_true_eq,Mx]
 by_cases c:p.2.2.2.length≤16
 ·obtain⟨h1,h2⟩:=aiS 17 p.2.2.2 (by omega);constructor
  ·rintro⟨⟨a,b,d,e,f⟩,g,h⟩
   have g':=h1.2 g;exact⟨g',a,b,d,e,by rw[h2 g'];exact h,f⟩
  ·rintro⟨g,a,b,d,e,h,f⟩
   exact⟨⟨a,b,d,e,f⟩,h1.1 g,by rw[← h2 g];exact h⟩
 ·constructor
  ·rintro⟨⟨a,b,d,e,f⟩,_⟩;exact absurd e c
  ·rintro⟨_,_,_,_,e,_⟩;exact absurd e c
def aiT(p:Int×Int×Int×List Int)(n:Int):Int:=(↑p.snd.snd.snd.length:Int)
abbrev aoh:Type:=Bool
abbrev azB(x:aoh):LV:=LV.one (VV.sc (SV.bool (SB.sym x)))
abbrev azC(x:aoh):List (Nat×Ev.Item):= []
def auf(p:Int×Int×Int×List Int)(n:Int):Tr (aoh):=(.need (HX n 0 0 p.fst p.snd.fst p.snd.snd.fst p.snd.snd.snd)
 (.ite (!(pr 17 (List.drop 0 p.snd.snd.snd)).fst) (.ret (false)) (.ite (decide (0≤p.fst)==true) (.ite (decide (p.fst<8)==true) (.ite (decide
 (1≤aiT p n)==true) (.ite (decide (aiT p n≤16)==true) (.ite ((0+(pr 17 (List.drop 0 p.snd.snd.snd)).snd==n)==true) (.ret (decide
 (p.snd.snd.fst≤p.snd.fst))) (.ret (false))) (.ret (false))) (.ret (false))) (.ret (false))) (.ret (false)))))
theorem aiU(p:de)(n:Int):aH Tryz.prog [] [(0,bU Mz ((ag).wr (())) aiK (aiQ))] f43 ((azA).wr (p,n,())) ((ag).wr (())) [.fr [.sym],.syms,.auto,.aF]=(auf p n).end azB azC ((ag).wr (())):=by kernel_rfl
theorem aoi(p:de)(n:Int):aK Tryz.prog ((ag).wr (())) [(0,bU Mz ((ag).wr (())) aiK (aiQ))] (aJ f43):=(aK.bI (iu (by kernel_rfl) (bM (hp:=(ag).wr (())) (aiR p n)) iE))
abbrev R7(p:de)(n:Int):Prop:=True
abbrev aug(p:de)(n:Int):aoh:=pq p n
def auh:an:=cQ [] (azA) (ag) (fun x_ y_=>R7 x_.1 x_.2.1) (fun x_ y_=>aug x_.1 x_.2.1) azB azC
theorem aui(p:de)(n:Int)(h_:R7 p n):(auf p n).Is (aug p n):=by
 delta aug;have e1:aiT p n=p.2.2.2.length:=rfl;have hm:=aue p n;simp only[auf,aq,e1,Int.zero_add];refine⟨⟨by omega,by omega,by omega,by omega,by omega⟩,?_⟩
 cases h:pq p n with
 |true=>
  obtain⟨a,b,c,d,e,f,g⟩:=hm.1 h;simp[cu,ao,a,b,c,d,e,f,g];omega
 |false=>
  have hn:¬_:=fun k=>by rw[hm.2 k]at h;cases h
  simp[cu,ao];grind
theorem aiV:auh.Ok Tryz.prog 43:=
 bJ mixed aw func43 (by kernel_rfl) call43 (fun x_ y_=>aoi x_.1 x_.2.1) (fun x_ y_=>aiU x_.1 x_.2.1) (fun x_ y_ h=>aui x_.1 x_.2.1 h)
def lU(b:List Int):Int:=(↑b.length:Int)
def HY(b:List Int):Int:=u64.wrap (↑(gB b).snd.length:Int)
abbrev Vp:Type:=(List Int)×Int
abbrev aqo(x:Vp):LV:=LV.c6 [VV.sc (SV.rd true false (Ty.int IntKind.u8) x.1),VV.sc (SV.int i64 (SI.sym x.2))]
abbrev aqp(x:Vp):List (Nat×Ev.Item):= []
def MA(b:List Int):Tr (Vp):=(.ite (lU b==0) (.ret ([],1)) (.ite (decide ¬(gB b).fst=0) (.need (tO b) (.ite
 ((gB b).fst !=0) (.ret ([],(gB b).fst)) (.need ((0:Int)≤0∧(0:Int)<18446744073709551616∧(0:Int)≤2∧(2:Int)≤70368744177664)
 (.need (0≤u64.wrap (lU b)∧u64.wrap (lU b)<18446744073709551616∧(0:Int)≤2∧(2:Int)≤70368744177664) (.need (4≤
 70368744177664∧4≤70368744177664) (.need (4≤70368744177664∧4≤70368744177664) (.ret (dN 2 0++dN 2 (u64.wrap (lU b))++ [],
 0)))))))) (.need (tO b) (.ite ((0:Int)!=0) (.ret ([],0)) (.need (0≤HY b∧HY b<18446744073709551616∧(0:Int)≤2∧(2:Int)≤
 70368744177664) (.need (0≤u64.wrap (lU b)∧u64.wrap (lU b)<18446744073709551616∧(0:Int)≤2∧(2:Int)≤
 70368744177664) (.need (4≤70368744177664∧4≤70368744177664) (.need ((4+(gB b).snd.length)*1≤70368744177664∧4+(gB b).snd.length≤
 70368744177664) (.ret (dN 2 (HY b)++dN 2 (u64.wrap (lU b))++(gB b).snd,0))))))))))
theorem ZE(b:List Int):aH Tryz.prog [(86,apt),(87,apu)] [] f44 (((ae (ah (gg false false u8)) ag)).wr (b,())) ((ag).wr (())) [.Nm,.fr [.rd true u8],.fr [.sym],.syms,.auto,.aF]=(MA b).end aqo aqp ((ag).wr (())):=by kernel_rfl
theorem aiW(b:List Int):aK Tryz.prog ((ag).wr (())) [] (aJ f44):=(aK.nil _)
abbrev yd(b:List Int):Prop:=aN b∧b.length<1099511627776
abbrev aiX(b:List Int):Vp:=((aY b).2,(aY b).1)
def aiY:an:=cQ [some u8] ((ae (ah (gg false false u8)) ag)) (ag) (fun x_ y_=>yd x_.1) (fun x_ y_=>aiX x_.1) aqo aqp
theorem aoj(b:List Int)(h_:yd b):(MA b).Is (aiX b):=by
 delta aiX;obtain⟨h1,h2⟩:=h_;have p0:tO b:=⟨h1,h2⟩;have ea:lU b=(b.length:Int):=rfl;have B0:HY b=u64.wrap ((gB b).2.length:Int):=rfl
 by_cases c:b.length=0
 ·have e:aY b=(1,[]):=by unfold aY;rw[if_pos c]
  have e1:(lU b==0)=true:=by rw[ea,c];rfl
  simp only[e,MA,e1,a6,ao]
 ·have e1:(lU b==0)=false:=by rw[ea,beq_eq_false_iff_ne];omega
  by_cases c2:(gB b).1=0
  ·obtain⟨k1,k2⟩:=PT c2
   have e:aY b=(0,[((gB b).2.length:Int)%256,((gB b).2.length:Int)/256,(b.length:Int)%256,(b.length:Int)/256]++(gB b).2):=by
    unfold aY;rw[if_neg c,if_neg (by simpa using c2)]
   have e2:decide ¬(gB b).1=0=false:=(by simpa using c2);have w1:u64.wrap (b.length:Int)=b.length:=wrap_u64 (by omega) (by omega);have w2:u64.wrap ((gB b).2.length:Int)=(gB b).2.length:=wrap_u64 (by omega) (by omega)
   have el:∀x:Int,0≤x→x<65536→dN 2 x= [x%256,x/256]:=fun x hx hy=>by
    rw[dN,dN,dN,Int.emod_eq_of_lt (a:=x/256) (by omega) (by omega)]
   have e3:((0:Int)!=0)=false:=rfl;simp only[e,MA,e1,e2,e3,bw,a6,aq,ao];simp only[ea,B0,w1,w2,el _ (Int.natCast_nonneg _) (show((gB b).2.length:Int)<65536 by omega),el _ (Int.natCast_nonneg _) (show(b.length:Int)<65536 by omega)];simp;exact⟨p0,by omega,by omega,by omega⟩
  ·have e:aY b=((gB b).1,[]):=(by unfold aY;rw[if_neg c,if_pos c2]);have e2:decide ¬(gB b).1=0=true:=(by simpa using c2);have e3:((gB b).1!=0)=true:=(by simpa using c2);simp only[e,MA,e1,e2,e3,bw,a6,aq,ao];simp[c2];exact p0
theorem Vq:aiY.Ok Tryz.prog 44:=
 bJ mixed ((al akS (al akT aw))) func44 (by kernel_rfl) call44 (fun x_ y_=>aiW x_.1) (fun x_ y_=>ZE x_.1) (fun x_ y_ h=>aoj x_.1 h)
def HZ(s:List Int)(h:Int×Int×PUnit)(m:MM):List Int:=List.take 64 (List.drop 0 (Bw s [98,111,111,116,106,
 97,99,107] (eG (cA h.fst h.snd.fst++dR m.ver m.C1 m.len m.list m.plain))).fst)
def ye(s:List Int)(h:Int×Int×PUnit)(m:MM):Nat:=(cA h.fst h.snd.fst++dR m.ver m.C1 m.len m.list
 m.plain).length+(HZ s h m).length
def qv(s:List Int)(h:Int×Int×PUnit)(m:MM):List Int:=cA h.fst h.snd.fst++dR m.ver m.C1 m.len m.list m.plain
 ++HZ s h m
abbrev H0:Type:=List Int
abbrev aiZ(x:H0):LV:=LV.one (VV.sc (SV.rd true false (Ty.int IntKind.u8) x))
abbrev ai0(x:H0):List (Nat×Ev.Item):= []
def R8(s:List Int)(h:Int×Int×PUnit)(m:MM)(r:List Int):Tr (H0):=(.need (0≤m.ver∧m.ver<
 18446744073709551616∧0≤m.C1∧m.C1<18446744073709551616) (.need (((cA h.fst h.snd.fst).length+(dR m.ver m.C1 m.len m.list
 m.plain).length)*1≤70368744177664∧(cA h.fst h.snd.fst).length+(dR m.ver m.C1 m.len m.list m.plain).length≤70368744177664) (.need
 ((cA h.fst h.snd.fst++dR m.ver m.C1 m.len m.list m.plain).length<4294967296) (.need (s.length=32∧64=64) (.need ((0:Int)≤0∧(0:
 Int)≤64∧(64:Int)≤64) (.need (ye s h m*1≤70368744177664∧ye s h m≤70368744177664) (.need (((qv s h m).length+r.length)*
 1≤70368744177664∧(qv s h m).length+r.length≤70368744177664) (.ret (qv s h m++r)))))))))
theorem R9(s:List Int)(h:Int×Int×Unit)(m:MM)(r:List Int):aH Tryz.prog [(92,azy),(50,azv),(93,azw),(94,azz),(95,azx)] [] f46 (((ae cB (ae (qC (oM ag)) (ae (qC cMM) (ae (ah (gg false false u8)) ag))))).wr (s,h,m,r,())) ((ag).wr (())) [.Nm,.fr [.rd true u8],.fr [.sym],.syms,.auto,.aF]=(R8 s h m r).end aiZ ai0 ((ag).wr (())):=by kernel_rfl
theorem ZF(s:List Int)(h:Int×Int×Unit)(m:MM)(r:List Int):aK Tryz.prog ((ag).wr (())) [] (aJ f46):=(aK.nil _)
def Vr(s:List Int)(a b:Int)(m:MM)(r:List Int):List Int:=cA a b++dR m.ver m.C1 m.len m.list m.plain++(jU s xj (eG (cA a b++dR m.ver m.C1 m.len m.list m.plain))).1++r
abbrev uN(s:List Int)(h:Int×Int×Unit)(m:MM)(r:List Int):Prop:=s.length=32∧0≤m.ver∧m.ver<18446744073709551616∧0≤m.C1∧m.C1<18446744073709551616∧r.length<1099511627776
abbrev Sa(s:List Int)(h:Int×Int×Unit)(m:MM)(r:List Int):H0:=Vr s h.1 h.2.1 m r
def ai1:an:=cQ [none,none,none,some u8] ((ae cB (ae (qC (oM ag)) (ae (qC cMM) (ae (ah (gg false false u8)) ag))))) (ag) (fun x_ y_=>uN x_.1 x_.2.1 x_.2.2.1 x_.2.2.2.1) (fun x_ y_=>Sa x_.1 x_.2.1 x_.2.2.1 x_.2.2.2.1) aiZ ai0
theorem ai2(s:List Int)(h:Int×Int×Unit)(m:MM)(r:List Int)(h_:uN s h m r):(R8 s h m r).Is (Sa s h m r):=by
 delta Sa;obtain⟨h1,h2,h3,h4,h5,h6⟩:=h_;have hh:=vS h.1 h.2.1;have hm:=RZ m.ver m.C1 m.len m.list m.plain;have hl:=(BE s (eG (cA h.1 h.2.1++dR m.ver m.C1 m.len m.list m.plain))).1
 have e0:HZ s h m=(jU s xj (eG (cA h.1 h.2.1++dR m.ver m.C1 m.len m.list m.plain))).1:=by
  show List.take 64 (List.drop 0 (jU s xj _).1)=_;rw[List.drop_zero,List.take_of_length_le (by omega)]
 have e1:ye s h m=(cA h.1 h.2.1++dR m.ver m.C1 m.len m.list m.plain).length+64:=by unfold ye;rw[e0,hl]
 have e2:qv s h m=cA h.1 h.2.1++dR m.ver m.C1 m.len m.list m.plain++(jU s xj (eG (cA h.1 h.2.1++dR m.ver m.C1 m.len m.list m.plain))).1:=by unfold qv;rw[e0]
 have hl2:(qv s h m).length≤224:=by rw[e2];simp only[List.length_append,hl];omega
 simp only[R8,aq,ao,e1];refine⟨⟨h2,h3,h4,h5⟩,⟨by omega,by omega⟩,by rw[List.length_append];omega,⟨h1,trivial⟩,by decide,⟨by rw[List.length_append];omega,by rw[List.length_append];omega⟩,⟨by omega,by omega⟩,?_⟩;rw[e2];rfl
theorem ai3:ai1.Ok Tryz.prog 46:=
 bJ mixed ((al auc (al at9 (al aua (al aud (al aub aw)))))) func46 (by kernel_rfl) call46 (fun x_ y_=>ZF x_.1 x_.2.1 x_.2.2.1 x_.2.2.2.1) (fun x_ y_=>R9 x_.1 x_.2.1 x_.2.2.1 x_.2.2.2.1) (fun x_ y_ h=>ai2 x_.1 x_.2.1 x_.2.2.1 x_.2.2.2.1 h)
theorem ZG{s:List Int}{p:de}{d L F:List Int}(h:pq p d.length=true):BC s p d L++L++F=Vr s p.1 p.2.2.2.length ⟨p.2.1,p.2.2.1,d.length,bB L,bB d⟩ (L++F):=by
 obtain⟨e1,e2,e3,e4⟩:=Vl (s:=s) (L:=L) h;have hn:¬ ((cA p.1 p.2.2.2.length).length=0∨(dR p.2.1 p.2.2.1 d.length (bB L) (bB d)).length=0):=by rw[e1,e3];simp
 have hs:eG (nQ (cA p.1 p.2.2.2.length) (dR p.2.1 p.2.2.1 d.length (bB L) (bB d)) HT)=eG (cA p.1 p.2.2.2.length++dR p.2.1 p.2.2.1 d.length (bB L) (bB d)):=by
  have hl:(cA p.1 p.2.2.2.length++dR p.2.1 p.2.2.1 d.length (bB L) (bB d)).length=160:=by rw[List.length_append,e1,e3];rfl
  unfold eG nQ;rw[if_neg hn,List.take_left' hl,List.take_of_length_le (by omega)]
 unfold BC Vr;rw[hs];unfold nQ;rw[if_neg hn,List.take_of_length_le (Nat.le_of_eq (BE _ _).1),List.append_assoc _ L F]
abbrev MB:Type:=(List Int)×Int×Int×(List Int)×Int×Int×Int×(List Int)×(List Int)×(List Int)
abbrev MC:aQ St MB:=(aT (jk 2 (ae (ah (gg false false (Ty.int IntKind.u8))) (ai (ah (aD (0) (0))) (ai (ah
 (aD (1) (0))) (jk 3 (ai (ah (j0 (2) (0))) (ai (ah (j0 (3) (0))) (ae (ah (aA i64)) (ae (ah (aA i64)) (jk 71
 ag)))))))))) (ae (fG (22) ((ae (sF (Ty.int IntKind.u8) (32)) ag))) (ae (fG (26) ((ae (aA i64) (ae (aA u64)
 (ae (aA u64) (ae (gg false false (Ty.int i64)) ag)))))) (ae (cE (0) (Ty.int IntKind.u8)) (ae (cE (0) (Ty.int
 IntKind.u8)) ag))))).lV (fun y=>(y.1.1,y.1.2.1,y.1.2.2.1,y.2.1.1,y.2.2.1.1,y.2.2.1.2.1,y.2.2.1.2.2.1,y.2.2.1.2.2.2.1,y.2.2.2.1,
 y.2.2.2.2.1)) (fun x=>((x.1,(x.2.1,(x.2.2.1,()))),((x.2.2.2.1,()),((x.2.2.2.2.1,(x.2.2.2.2.2.1,(x.2.2.2.2.2.2.1,(x.2.2.2.2.2.2.2.1,())))),
 (x.2.2.2.2.2.2.2.2.1,(x.2.2.2.2.2.2.2.2.2,())))))) (fun _=>rfl)
abbrev ai4:List Wk:= [.cP 8 u8,.cP 9 u8,.fr (cb 83 [(2,.ak),(3,.ak),(4,.ak),(8,.ak),(9,.ak),(10,.ak),(11,.ak)]),
 .syms,.auto,.aF]
abbrev aqq:Exit→List Wk:=wT ai4 0 [.cP 8 u8,.cP 9 u8,.fr (cb 83 [(2,.ak),(3,.ak),(4,.ak),(8,.ak),(9,.ak)]),.syms,
 .auto,.aF] [.cP 8 u8,.cP 9 u8,.fr (cb 83 [(6,.ak),(7,.ak)]),.syms,.auto,.aF]
def H2(d:List Int)(at_:Int)(i:Int)(sz:List Int)(F:List Int):Nat:=F.length+(aY (List.take (i64.wrap
 (at_+sz.getD i.toNat 0)-at_).toNat (List.drop at_.toNat d))).snd.length
abbrev Sb:Type:=Int
abbrev ai5(x:Sb):Exit×St:=(Exit.ret,⟨(gA 6 (LV.one (VV.sc (SV.gY (Value.slice none 0 0)))::(LV.one (VV.sc (SV.int
 i64 (SI.sym x)))::(gA 75 [])))),[]⟩)
abbrev Sc:Type:=(List Int)×(List Int)×Int×Int×Int×(List Int)×(List Int)×(List Int)
abbrev ai6(x:Sc):Exit×St:=(Exit.exit 0,⟨(gA 2 (LV.one (VV.sc (SV.rd false false (Ty.int IntKind.u8) x.1))::(LV.one
 (VV.sc (SV.ptr 0 0))::(LV.one (VV.sc (SV.ptr 1 0))::(gA 3 (LV.one (VV.sc (SV.sl 2 0))::(LV.one (VV.sc (SV.sl 3 0))::(gA 73 [])))))))),[some
 (Item.ba [SV.arr (Ty.int IntKind.u8) 32 x.2.1] 22),some (Item.ba [SV.int i64 (SI.sym x.2.2.1),SV.int u64 (SI.sym x.2.2.2.1),SV.int
 u64 (SI.sym x.2.2.2.2.1),SV.rd false false (Ty.int i64) x.2.2.2.2.2.1] 26),some (Item.own 0 (Ty.int IntKind.u8) x.2.2.2.2.2.2.1),
 some (Item.own 0 (Ty.int IntKind.u8) x.2.2.2.2.2.2.2)]⟩)
def MD(d:List Int)(at_:Int)(i:Int)(s:List Int)(k:Int)(v:Int)(f:Int)(sz:List Int)(L:List Int)(F:List Int)
 :Tr (MB⊕(Sb⊕Sc)):=(.ite (decide (i<(↑sz.length:Int))) (.need (0≤i∧i<(↑sz.length:Int)) (.need (0≤at_∧at_≤
 i64.wrap (at_+sz.getD i.toNat 0)∧i64.wrap (at_+sz.getD i.toNat 0)≤(↑d.length:Int)) (.need (yd (List.take
 (i64.wrap (at_+sz.getD i.toNat 0)-at_).toNat (List.drop at_.toNat d))) (.ite ((aY (List.take (i64.wrap (at_+sz.getD i.toNat
 0)-at_).toNat (List.drop at_.toNat d))).fst !=0) (.ret (.inr (.inl ((aY (List.take (i64.wrap (at_+sz.getD i.toNat 0)-at_).toNat
 (List.drop at_.toNat d))).fst)))) (.need (0≤i∧i<(↑sz.length:Int)) (.need ((aY (List.take (i64.wrap (at_+sz.getD i.toNat 0)-
 at_).toNat (List.drop at_.toNat d))).snd.length≤1099511627776) (.need ((0:Int)≤0∧(0:Int)≤64∧(64:Int)≤64) (.need ((L.length+64)*1
 ≤70368744177664∧L.length+64≤70368744177664) (.need (H2 d at_ i sz F*1≤70368744177664∧H2 d at_ i sz F≤70368744177664) (.ret (.inl
 (d,i64.wrap (at_+sz.getD i.toNat 0),i64.wrap (i+1),s,k,v,f,sz,L++List.take 64 (List.drop 0 (bB (aY (List.take
 (i64.wrap (at_+sz.getD i.toNat 0)-at_).toNat (List.drop at_.toNat d))).snd)),F++(aY (List.take (i64.wrap (at_+sz.getD
 i.toNat 0)-at_).toNat (List.drop at_.toNat d))).snd)))))))))))) (.ret (.inr (.inr (d,s,k,v,f,sz,L,F)))))
theorem ZH(s':List Int)(p:de)(d':List Int)(d:List Int)(at_:Int)(i:Int)(s:List Int)(k:Int)(v:Int)(f:Int)(sz:List Int)(L:List Int)(F:List Int):ct Tryz.prog [(43,auh),(44,aiY),(45,aiJ)] [] f13 0 ((ag).wr (())) aqq (MC.wr (d,at_,i,s,k,v,f,sz,L,F))=(MD d at_ i s k v f sz L F).res MC.wr (Sum.elim ai5 ai6):=by kernel_rfl
abbrev yf(d:List Int)(at_:Int)(i:Int)(s:List Int)(k:Int)(v:Int)(f:Int)(sz:List Int)(L:List Int)(F:List Int):Prop:=0≤i∧i≤sz.length∧sz.length≤16∧0≤at_∧at_≤d.length∧nT (sz.drop i.toNat) (d.length-at_)=true∧aN d∧d.length<1099511627776∧L.length≤64*i∧F.length≤4100*i
abbrev ai7(d:List Int)(at_:Int)(i:Int)(s:List Int)(k:Int)(v:Int)(f:Int)(sz:List Int)(L:List Int)(F:List Int):Bool:=decide ((gn (sz.drop i.toNat) (d.drop at_.toNat) L F).1≠0)
abbrev ai8(d:List Int)(at_:Int)(i:Int)(s:List Int)(k:Int)(v:Int)(f:Int)(sz:List Int)(L:List Int)(F:List Int):Sb:=(gn (sz.drop i.toNat) (d.drop at_.toNat) L F).1
abbrev ai9(d:List Int)(at_:Int)(i:Int)(s:List Int)(k:Int)(v:Int)(f:Int)(sz:List Int)(L:List Int)(F:List Int):Sc:=(d,s,k,v,f,sz,(gn (sz.drop i.toNat) (d.drop at_.toNat) L F).2)
abbrev aja:MB→aG:=mW (fun x_=>yf x_.1 x_.2.1 x_.2.2.1 x_.2.2.2.1 x_.2.2.2.2.1 x_.2.2.2.2.2.1 x_.2.2.2.2.2.2.1 x_.2.2.2.2.2.2.2.1 x_.2.2.2.2.2.2.2.2.1 x_.2.2.2.2.2.2.2.2.2) (fun x_=>ai7 x_.1 x_.2.1 x_.2.2.1 x_.2.2.2.1 x_.2.2.2.2.1 x_.2.2.2.2.2.1 x_.2.2.2.2.2.2.1 x_.2.2.2.2.2.2.2.1 x_.2.2.2.2.2.2.2.2.1 x_.2.2.2.2.2.2.2.2.2) (fun x_=>ai8 x_.1 x_.2.1 x_.2.2.1 x_.2.2.2.1 x_.2.2.2.2.1 x_.2.2.2.2.2.1 x_.2.2.2.2.2.2.1 x_.2.2.2.2.2.2.2.1 x_.2.2.2.2.2.2.2.2.1 x_.2.2.2.2.2.2.2.2.2) (fun x_=>ai9 x_.1 x_.2.1 x_.2.2.1 x_.2.2.2.1 x_.2.2.2.2.1 x_.2.2.2.2.2.1 x_.2.2.2.2.2.2.1 x_.2.2.2.2.2.2.2.1 x_.2.2.2.2.2.2.2.2.1 x_.2.2.2.2.2.2.2.2.2) ai5 ai6
theorem aok(d:List Int)(at_:Int)(i:Int)(s:List Int)(k:Int)(v:Int)(f:Int)(sz:List Int)(L:List Int)(F:List Int)(h_:yf d at_ i s k v f sz L F):cK (fun x_:MB=>MD x_.1 x_.2.1 x_.2.2.1 x_.2.2.2.1 x_.2.2.2.2.1 x_.2.2.2.2.2.1 x_.2.2.2.2.2.2.1 x_.2.2.2.2.2.2.2.1 x_.2.2.2.2.2.2.2.2.1 x_.2.2.2.2.2.2.2.2.2) (d,at_,i,s,k,v,f,sz,L,F) (bif ai7 d at_ i s k v f sz L F then .inl (ai8 d at_ i s k v f sz L F)else .inr (ai9 d at_ i s k v f sz L F)):=by
 delta ai7 ai8 ai9;obtain⟨h1,h2,h3,h4,h5,h6,h7,h8,h9,Z0⟩:=h_;obtain⟨j,rfl⟩:∃m:Nat,i=m:=⟨i.toNat,by omega⟩;obtain⟨m,hm⟩:∃m,sz.length-j=m:=⟨_,rfl⟩;rw[Int.toNat_natCast]at h6 ⊢
 induction m generalizing j at_ L F with
 |zero=>
  rw[List.drop_eq_nil_of_le (by omega),gn];refine .stop ?_;simp only[MD,a5,ao];exact⟨fun h=>by omega,fun _=>by simp⟩
 |succ m ih=>
  have hk:j<sz.length:=by omega
  rw[ja 0 hk]at h6 ⊢;rw[nT,Bool.and_eq_true]at h6;rw[gn];have e1:decide ((j:Int)<sz.length)=true:=decide_eq_true (by omega);have hz:sz.getD (j:Int).toNat 0=sz.getD j 0:=by rw[Int.toNat_natCast]
  have ea:H2 d at_ (j:Int) sz F=F.length+(aY (List.take (i64.wrap (at_+sz.getD j 0)-at_).toNat (List.drop at_.toNat d))).2.length:=by unfold H2;rw[hz]
  generalize hx:sz.getD j 0=x at*;have hs:=of_decide_eq_true h6.1;have w1:i64.wrap (at_+x)=at_+x:=au (by omega) (by omega);have w3:(at_+x-at_).toNat=x.toNat:=by omega
  rw[w1,w3]at ea;have hd:(d.drop at_.toNat).drop x.toNat=d.drop (at_+x).toNat:=by rw[List.drop_drop];congr 1;omega
  have hfl:=wu ((d.drop at_.toNat).take x.toNat);have me:=cI (aY ((d.drop at_.toNat).take x.toNat)).2;have p0:yd ((d.drop at_.toNat).take x.toNat):=⟨akW h7 _ _,by rw[List.length_take,List.length_drop];omega⟩
  have es:List.take 64 (List.drop 0 (bB (aY ((d.drop at_.toNat).take x.toNat)).2))=bB (aY ((d.drop at_.toNat).take x.toNat)).2:=by
   rw[List.drop_zero,List.take_of_length_le (by omega)]
  by_cases c:(aY ((d.drop at_.toNat).take x.toNat)).1=0
  ·rw[if_neg (by simpa using c),hd];have d2:((aY ((d.drop at_.toNat).take x.toNat)).1!=0)=false:=(by simpa using c);refine .go (y:=(d,at_+x,((j+1:Nat):Int),s,k,v,f,sz,L++bB (aY ((d.drop at_.toNat).take x.toNat)).2,F++(aY ((d.drop at_.toNat).take x.toNat)).2)) ?_ ?_
   ·simp only[MD,e1,a6,aq,hz,hx,w1,w3,d2,bw,ao,ea,es];rw[au (by omega) (by omega)];exact⟨by omega,by omega,p0,by omega,by omega,by omega,by omega,by omega,rfl⟩
   ·have q:=h6.2;rw[show(d.length:Int)-at_-x=d.length-(at_+x) by omega]at q
    apply ih<;>first|assumption|omega|(rw[List.length_append];omega)
  ·rw[if_pos c];have d2:((aY ((d.drop at_.toNat).take x.toNat)).1!=0)=true:=(by simpa using c);refine .stop ?_;simp only[MD,e1,a6,aq,hz,hx,w1,w3,d2,ao];rw[decide_eq_true (by simpa using c)];exact⟨by omega,by omega,p0,rfl⟩
theorem ajb(s':List Int)(p:de)(d':List Int):∀x:MB,Ex Tryz.prog ((ag).wr (())) (.loop (aP f13 0)) (MC.wr x) (aja x):=
 cn mixed ((al aiV (al Vq (al Vo aw)))) (ws:=aqq) (aK.nil _) (fun x_=>ZH s' p d' x_.1 x_.2.1 x_.2.2.1 x_.2.2.2.1 x_.2.2.2.2.1 x_.2.2.2.2.2.1 x_.2.2.2.2.2.2.1 x_.2.2.2.2.2.2.2.1 x_.2.2.2.2.2.2.2.2.1 x_.2.2.2.2.2.2.2.2.2) (fun z=>by cases z<;>(intro e;cases e)) oA (fun x_ h=>aok x_.1 x_.2.1 x_.2.2.1 x_.2.2.2.1 x_.2.2.2.2.1 x_.2.2.2.2.2.1 x_.2.2.2.2.2.2.1 x_.2.2.2.2.2.2.2.1 x_.2.2.2.2.2.2.2.2.1 x_.2.2.2.2.2.2.2.2.2 h)
def ajc(p:Int×Int×Int×List Int):Int×Int×Int×List Int:=p
def ajd(s:List Int)(p:Int×Int×Int×List Int)(d:List Int):Int:=(↑d.length:Int)
def aje(p:Int×Int×Int×List Int)(d:List Int):Nat:=(gn (List.drop 0 p.snd.snd.snd) (List.drop 0 d) [] []).snd.fst.length
 +(gn (List.drop 0 p.snd.snd.snd) (List.drop 0 d) [] []).snd.snd.length
def ajf(p:Int×Int×Int×List Int)(d:List Int):List Int:=(gn (List.drop 0 p.snd.snd.snd) (List.drop 0 d) [] []).snd.fst
 ++(gn (List.drop 0 p.snd.snd.snd) (List.drop 0 d) [] []).snd.snd
def ajg(s:List Int)(p:Int×Int×Int×List Int)(d:List Int):Int:=(↑p.snd.snd.snd.length:Int)
def ajh(s:List Int)(p:Int×Int×Int×List Int)(d:List Int):MM:= {ver:=p.snd.fst,C1:=p.snd.snd.fst,len:=(↑d.length:Int),list:=bB (gn (List.drop 0 p.snd.snd.snd) (List.drop 0 d) [] []).snd.fst,plain:=bB d}
abbrev aol:Type:=(List Int)×Int
abbrev azD(x:aol):LV:=LV.c6 [VV.sc (SV.rd true false (Ty.int IntKind.u8) x.1),VV.sc (SV.int i64 (SI.sym x.2))]
abbrev azE(x:aol):List (Nat×Ev.Item):= []
def auj(s:List Int)(p:Int×Int×Int×List Int)(d:List Int):Tr (aol):=(.need (R7 (ajc p) (ajd s p d)) (.ite
 (!pq (ajc p) (ajd s p d)) (.ret ([],1)) (.need (yf d 0 0 s p.fst p.snd.fst p.snd.snd.fst p.snd.snd.snd [] []) (.ite (decide ¬(gn
 (List.drop 0 p.snd.snd.snd) (List.drop 0 d) [] []).fst=0) (.ret ([],(gn (List.drop 0 p.snd.snd.snd) (List.drop 0 d) [] []).fst)) (.need ((gn
 (List.drop 0 p.snd.snd.snd) (List.drop 0 d) [] []).snd.fst.length≤1099511627776) (.need (d.length≤1099511627776) (.need (aje p d*1≤
 70368744177664∧aje p d≤70368744177664) (.need (uN s (p.fst,ajg s p d,PUnit.unit) (ajh s p d) (ajf p d)) (.ret (Vr s p.fst (ajg
 s p d) (ajh s p d) (ajf p d),0))))))))))
theorem aji(s:List Int)(p:de)(d:List Int):aH Tryz.prog [(43,auh),(44,aiY),(45,aiJ),(46,ai1)] [(0,bU MC ((ag).wr (())) ai4 (aja))] f13 ((BB).wr (s,p,d,())) ((ag).wr (())) [.cP 8 u8,.cP 9 u8,.Nm,.fr [.rd true u8],.fr [.sym],.syms,.auto,.aF]=(auj s p d).end azD azE ((ag).wr (())):=by kernel_rfl
theorem aom(s:List Int)(p:de)(d:List Int):aK Tryz.prog ((ag).wr (())) [(0,bU MC ((ag).wr (())) ai4 (aja))] (aJ f13):=(aK.bI (iu (by kernel_rfl) (bM (hp:=(ag).wr (())) (ajb s p d)) iE))
abbrev Sd(s:List Int)(p:de)(d:List Int):Prop:=s.length=32∧aN d∧d.length<1099511627776∧0≤p.2.1∧p.2.1<18446744073709551616∧0≤p.2.2.1∧p.2.2.1<18446744073709551616
abbrev auk(s:List Int)(p:de)(d:List Int):aol:=((dS s p d).2,(dS s p d).1)
def azF:an:=cQ [none,some (.int .i64),some u8] (BB) (ag) (fun x_ y_=>Sd x_.1 x_.2.1 x_.2.2.1) (fun x_ y_=>auk x_.1 x_.2.1 x_.2.2.1) azD azE
theorem aul(s:List Int)(p:de)(d:List Int)(h_:Sd s p d):(auj s p d).Is (auk s p d):=by
 delta auk;obtain⟨h1,h2,h3,h5⟩:=h_;have e0:ajc p=p:=rfl;have e1:ajd s p d=d.length:=rfl;have e6:ajg s p d=p.2.2.2.length:=rfl;have e7:ajh s p d=⟨p.2.1,p.2.2.1,d.length,bB (gn p.2.2.2 d [] []).2.1,bB d⟩:=rfl;have e2:aje p d=(gn p.2.2.2 d [] []).2.1.length+(gn p.2.2.2 d [] []).2.2.length:=rfl;have e3:ajf p d=(gn p.2.2.2 d [] []).2.1++(gn p.2.2.2 d [] []).2.2:=rfl;simp only[auj,aq,e0,e1,List.drop_zero];refine⟨trivial,?_⟩;unfold dS
 cases hm:pq p d.length with
 |false=>simp[a6,ao]
 |true=>
  obtain⟨m1,m2,m3,m4,m5,m6,m7⟩:=yc hm;obtain⟨l1,l2⟩:=HU p.2.2.2 d [] [];simp only[List.length_nil]at l1 l2;have p1:yf d 0 0 s p.1 p.2.1 p.2.2.1 p.2.2.2 [] []:=⟨by omega,by omega,by omega,by omega,by omega,by simpa using m6,h2,h3,by simp,by simp⟩;have p2:uN s (p.1,(p.2.2.2.length:Int),()) ⟨p.2.1,p.2.2.1,d.length,bB (gn p.2.2.2 d [] []).2.1,bB d⟩ ((gn p.2.2.2 d [] []).2.1++(gn p.2.2.2 d [] []).2.2):=⟨h1,h5.1,h5.2.1,h5.2.2.1,h5.2.2.2,by rw[List.length_append];omega⟩;simp only[Bool.not_true,bw,aq,e6,e7,e2,e3];refine⟨p1,?_⟩
  by_cases c:(gn p.2.2.2 d [] []).1=0
  ·have d2:decide ¬(gn p.2.2.2 d [] []).1=0=false:=(by simpa using c);simp only[d2,bw,aq,ao];refine⟨by omega,by omega,⟨by omega,by omega⟩,p2,?_⟩;rw[if_neg (by simp),if_neg (by simpa using c),ZG hm]
  ·have d2:decide ¬(gn p.2.2.2 d [] []).1=0=true:=(by simpa using c);simp only[d2,a6,ao];rw[if_neg (by simp),if_pos c]
theorem aum:azF.Ok Tryz.prog 13:=
 bJ mixed ((al aiV (al Vq (al Vo (al ai3 aw))))) func13 (by kernel_rfl) call13 (fun x_ y_=>aom x_.1 x_.2.1 x_.2.2.1) (fun x_ y_=>aji x_.1 x_.2.1 x_.2.2.1) (fun x_ y_ h=>aul x_.1 x_.2.1 x_.2.2.1 h)
abbrev yg:Type:=Bool
abbrev Vs(x:yg):LV:=LV.one (VV.sc (SV.bool (SB.sym x)))
abbrev Vt(x:yg):List (Nat×Ev.Item):= []
def H3(p:Int×Int×Int×List Int)(d:List Int):Tr (yg):=(.ite (decide ((↑p.snd.snd.snd.length:Int)≤20)==true)
 (.ret (decide ((↑d.length:Int)≤700))) (.ret (false)))
theorem ME(p:de)(d:List Int):aH Tryz.prog [] [] f11 ((an9).wr (p,d,())) ((ag).wr (())) [.fr [.sym],.syms,.auto,.aF]=(H3 p d).end Vs Vt ((ag).wr (())):=by kernel_rfl
theorem Se(p:de)(d:List Int):aK Tryz.prog ((ag).wr (())) [] (aJ f11):=(aK.nil _)
abbrev wx(p:de)(d:List Int):Prop:=True
abbrev H4(p:de)(d:List Int):yg:=decide (p.2.2.2.length≤20∧d.length≤700)
def Vu:an:=cQ [some (.int .i64),some u8] (an9) (ag) (fun x_ y_=>wx x_.1 x_.2.1) (fun x_ y_=>H4 x_.1 x_.2.1) Vs Vt
theorem ZJ(p:de)(d:List Int)(h_:wx p d):(H3 p d).Is (H4 p d):=by
 delta H4;simp only[H3,cu,ao];simp;grind
theorem ZK:Vu.Ok Tryz.prog 11:=
 bJ mixed aw func11 (by kernel_rfl) call11 (fun x_ y_=>Se x_.1 x_.2.1) (fun x_ y_=>ME x_.1 x_.2.1) (fun x_ y_ h=>ZJ x_.1 x_.2.1 h)
def ir(p:Int×Int×Int×List Int):Int×Int×Int×List Int:=p
abbrev yh:Type:=Bool
abbrev Vv(x:yh):LV:=LV.one (VV.sc (SV.bool (SB.sym x)))
abbrev Vw(x:yh):List (Nat×Ev.Item):= []
def H5(s:List Int)(p:Int×Int×Int×List Int)(d:List Int):Tr (yh):=(.need (rO) (.ite ((!true)==false)
 (.need (wx (ir p) d) (.ite (!decide (p.snd.snd.snd.length≤20∧d.length≤700)) (.ret (true)) (.need (p.snd.snd.snd.length*8≤
 70368744177664∧p.snd.snd.snd.length≤70368744177664) (.need (d.length*1≤70368744177664∧d.length≤70368744177664) (.need (BD s (ir
 p) d) (.need (Sd s (ir p) d) (.ite (qJ (dS s (ir p) d).snd (dS s (ir p) d).snd==true) (.need (kJ (dS s
 (ir p) d).fst) (.ret ((dS s (ir p) d).fst==(dS s (ir p) d).fst))) (.ret (false))))))))) (.ret (true))))
theorem MF(s:List Int)(p:de)(d:List Int):aH Tryz.prog [(10,Mw),(11,Vu),(12,at7),(13,azF),(14,RW)] [] Tryz.f3 ((BB).wr (s,p,d,())) ((ag).wr (())) [.fr [.sym],.syms,.auto,.aF]=(H5 s p d).end Vv Vw ((ag).wr (())):=by kernel_rfl
theorem Sf(s:List Int)(p:de)(d:List Int):aK Tryz.prog ((ag).wr (())) [] (aJ Tryz.f3):=(aK.nil _)
abbrev DR(s:List Int)(p:de)(d:List Int):Prop:=s.length=32∧aN d∧0≤p.2.1∧p.2.1<18446744073709551616∧0≤p.2.2.1∧p.2.2.1<18446744073709551616
abbrev H6(s:List Int)(p:de)(d:List Int):yh:=true
def aon:an:=cQ [none,some (.int .i64),some u8] (BB) (ag) (fun x_ y_=>DR x_.1 x_.2.1 x_.2.2.1) (fun x_ y_=>H6 x_.1 x_.2.1 x_.2.2.1) Vv Vw
theorem ZL(s:List Int)(p:de)(d:List Int)(h_:DR s p d):(H5 s p d).Is (H6 s p d):=by
 delta H6;obtain⟨h1,h2,h5⟩:=h_;have e0:ir p=p:=rfl;have e1:((!true)==false)=true:=rfl;simp only[H5,aq,e1,a6,e0];refine⟨trivial,trivial,?_⟩
 by_cases hsm:p.2.2.2.length≤20∧d.length≤700
 ·rw[decide_eq_true hsm];have d1:(qJ (dS s p d).2 (dS s p d).2==true)=true:=by rw[Pg];rfl
  simp only[Bool.not_true,bw,aq,d1,a6,ao];exact⟨⟨by omega,by omega⟩,⟨by omega,by omega⟩,⟨h1,h2,by omega,by omega,h5⟩,⟨h1,h2,by omega,h5⟩,trivial,by simp⟩
 ·rw[decide_eq_false hsm];simp only[Bool.not_false,a6,ao]
theorem ZM:aon.Ok Tryz.prog 3:=
 bJ mixed ((al RY (al ZK (al aiC (al aum (al Ms aw)))))) func3 (by kernel_rfl) call3 (fun x_ y_=>Sf x_.1 x_.2.1 x_.2.2.1) (fun x_ y_=>MF x_.1 x_.2.1 x_.2.2.1) (fun x_ y_ h=>ZL x_.1 x_.2.1 x_.2.2.1 h)
end Go.Proofs.YtnbkagglkajbkaaGreat
end
