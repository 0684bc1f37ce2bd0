/- What the laws lean on, part 18: a reader of code, plain facts, and what each function gives; no conditions. -/
import Derived.Test.YtnbkagglkajbkaaGreatA17
set_option linter.unusedVariables false
set_option linter.unusedSimpArgs false
noncomputable section
namespace Go.Proofs.YtnbkagglkajbkaaGreat
open Go Go.Ev Go.Proofs.Tryz
open Go.IntKind (i64 signed u16 u64 wrap)
set_option maxRecDepth 1000000
theorem q5{pl:Int}(hpl:pl≤8192):∀ (n:Nat) (made:Int) (b:List Int) (d:Dc) (r:RH) (p1 p2 p3:List Int) (out:List cY),bq 0 out=true→fR out=made→(dT n pl made b d r p1 p2 p3 out).2=true→bq 0 (dT n pl made b d r p1 p2 p3 out).1=true∧fR (dT n pl made b d r p1 p2 p3 out).1=pl
 |0,_,_,_,_,_,_,_,_,_,_,h=>by simp[dT]at h
 |n+1,made,b,d,r,p1,p2,p3,out,h1,h2,h=>by
  rw[dT]at h ⊢;simp only at h ⊢;generalize fQ r p1 p2 p3 (cT b d).2.2=x at*
  by_cases c1:(cT b d).1=true
  ·by_cases c2:made=pl
   ·simp only[if_pos c1,if_pos c2];exact⟨h1,by omega⟩
   ·by_cases c3:x.1.2=true
    ·by_cases c4:k8 x.1.1 made=true∧b9 x.1.1≤pl-made
     ·simp only[if_pos c1,if_neg c2,if_pos c3,if_pos c4]at h ⊢;refine q5 hpl n _ _ _ _ _ _ _ _ ?_ ?_ h
      ·rw[ld,h1,h2,bq,bq,Int.zero_add,c4.1];simp;omega
      ·rw[lb,fR,fR];omega
     ·simp only[if_pos c1,if_neg c2,if_pos c3,if_neg c4]at h;cases h
    ·simp only[if_pos c1,if_neg c2,if_neg c3]at h ⊢;exact q5 hpl n _ _ _ _ _ _ _ _ h1 h2 h
  ·simp only[if_neg c1]at h;cases h
theorem yz(b:List Int)(n:Int):(fG b n).1=0∧((fG b n).2.length:Int)=n∧0≤n∧n≤8192∨(fG b n).1≠0∧(fG b n).2= []:=by
 unfold fG
 by_cases c:(bC b n).1=0
 ·rw[if_neg (by simpa using c)];refine .inl ⟨rfl,?_⟩;unfold bC at c ⊢
  by_cases hp:n<0∨8192<n
  ·rw[if_pos hp]at c;cases c
  ·rw[if_neg hp]at c ⊢
   by_cases h:(iJ b n).2=true∧cV (pj (iJ b n).1) b=true
   ·rw[if_pos h];obtain⟨k1,k2⟩:=q5 (pl:=n) (by omega) 200000 0 b (0,4294967295,4) r0H (cI 8) (cI 8) (cI 6) [] rfl rfl h.1;exact⟨(C9 k1).trans k2,by omega,by omega⟩
   ·rw[if_neg h]at c;cases c
 ·rw[if_pos c];exact .inr ⟨c,rfl⟩
theorem alq:∃f:List (List Int)→List Int→cK×Int,∀ (ks:List (List Int)) (b:List Int),f ks b=(cS pH ks b):=⟨fun ks b=>cS pH ks b,fun _ _=>rfl⟩
def sA:List (List Int)→List Int→cK×Int:=Classical.choose alq
theorem axF(ks:List (List Int))(b:List Int):sA ks b=(cS pH ks b):=Classical.choose_spec alq ks b
theorem OO:cS pH=sA:=by funext ks b;exact(axF ks b).symm
def aw(ks:List (List Int))(fl rm:Int)(b:List Int):Int×List Int×cK:=
 if b.length<8 then(16,b,dW)
 else if(aD (b.take 8)).2=false then(6,b.drop 8,dW)
 else if(ks.length:Int)≤(aD (b.take 8)).1.1 then(15,b.drop 8,dW)
 else if b.length<224 then(16,b.drop 8,dW)
 else if(sA ks (b.take 224)).2≠0 then((sA ks (b.take 224)).2,b.drop 224,dW)
 else if rm<(sA ks (b.take 224)).1.bz.len then(10,b.drop 224,dW)
 else if(sA ks (b.take 224)).1.bz.ver<fl then(9,b.drop 224,dW)
 else(0,b.drop 224,(sA ks (b.take 224)).1)
def cr(b:List Int)(l:cK):Int×List Int×List Int:=
 if(b.length:Int)<64*l.blocks then(16,b,[])
 else if gp (b.take (64*l.blocks).toNat)≠l.bz.list then(7,b.drop (64*l.blocks).toNat,[])
 else(0,b.drop (64*l.blocks).toNat,b.take (64*l.blocks).toNat)
def gq(b:List Int)(left:Int)(sum:List Int):Int×List Int×List Int:=
 if b.length<4 then(16,b,[])
 else if gO b=false then(6,b.drop 4,[])
 else if left<two b 2 then(10,b.drop 4,[])
 else if(b.length:Int)<4+two b 0 then(16,b.drop 4,[])
 else if gp (b.take (4+two b 0).toNat)≠sum then(7,b.drop (4+two b 0).toNat,[])
 else((fG ((b.drop 4).take (two b 0).toNat) (two b 2)).1,b.drop (4+two b 0).toNat,(fG ((b.drop 4).take (two b 0).toNat) (two b 2)).2)
theorem J7{b:List Int}{left:Int}{sum:List Int}(hb:ay b)(hl:0≤left):ay (gq b left sum).2.1∧(gq b left sum).2.1.length≤b.length∧((gq b left sum).2.2.length:Int)≤left∧((gq b left sum).1≠0→(gq b left sum).2.2= []):=by
 have hd:∀n,ay (b.drop n)∧(b.drop n).length≤b.length:=fun n=>⟨hb.drop n,by rw[List.length_drop];omega⟩;have hp:=yz ((b.drop 4).take (two b 0).toNat) (two b 2);unfold gq;grind
def jW:Nat→Nat→List Int→Int→List Int→List Int→Int×List Int×List Int
 |0,_,_,_,r,d=>(0,r,d)
 |m+1,k,L,n,r,d=>
  if(gq r (n-d.length) ((L.drop (64*k)).take 64)).1≠0 then((gq r (n-d.length) ((L.drop (64*k)).take 64)).1,(gq r (n-d.length) ((L.drop (64*k)).take 64)).2.1,d++(gq r (n-d.length) ((L.drop (64*k)).take 64)).2.2)
  else jW m (k+1) L n (gq r (n-d.length) ((L.drop (64*k)).take 64)).2.1 (d++(gq r (n-d.length) ((L.drop (64*k)).take 64)).2.2)
theorem alr:dW.bz.len=0∧dW.blocks=0:=⟨rfl,rfl⟩
theorem als{l:List Int}(h:(gP l).2=true):0≤(gP l).1.len∧(gP l).1.len≤131072:=by
 unfold gP at*
 split at h
 ·rename_i c;rw[if_pos c];have:=la c.2;exact⟨show 0≤(df l).len by omega,show(df l).len≤_ by omega⟩
 ·cases h
theorem OP(l:List Int):0≤bJ l∧bJ l<18446744073709551616:=by
 cases l with
 |nil=>exact⟨by decide,by decide⟩
 |cons x l=>rw[bJ,ly];omega
def Gb(m:MM):Prop:=0≤m.ver∧m.ver<18446744073709551616∧0≤m.lh∧m.lh<18446744073709551616
theorem acF(ver:List Int→List Int→List Int→List Int→Bool)(ks:List (List Int))(b:List Int):Gb (cS ver ks b).1.bz:=by
 have h0:Gb dW.bz:=⟨by decide,by decide,by decide,by decide⟩
 have h1:∀l,Gb (gP l).1:=fun l=>by
  unfold gP
  split
  ·have a:=OP (l.take 8);have b:=OP ((l.drop 8).take 8);exact⟨a.1,a.2,b.1,b.2⟩
  ·exact⟨by decide,by decide,by decide,by decide⟩
 unfold cS
 repeat' split
 all_goals first|exact h0|exact h1 _
theorem Gc{ver:List Int→List Int→List Int→List Int→Bool}{ks:List (List Int)}{b:List Int}(h:(cS ver ks b).2=0):1≤(cS ver ks b).1.blocks∧(cS ver ks b).1.blocks≤16∧0≤(cS ver ks b).1.bz.len∧(cS ver ks b).1.bz.len≤131072∧(cS ver ks b).1.key=(aD (b.take 8)).1.1∧(cS ver ks b).1.blocks=(aD (b.take 8)).1.2:=by
 unfold cS at*
 split at h
 ·rename_i c1
  split at h
  ·cases h
  ·rename_i c2
   split at h
   ·rename_i c3
    split at h
    ·rename_i c4;rw[if_pos c1,if_neg c2,if_pos c3,if_pos c4];obtain⟨g1,g2⟩:=als c4;obtain⟨k1,k2⟩:=head_range c1.2;exact⟨k1,k2,g1,g2,rfl,rfl⟩
    ·cases h
   ·cases h
 ·cases h
theorem si{ks:List (List Int)}{fl rm:Int}{b:List Int}(hb:ay b):ay (aw ks fl rm b).2.1∧(aw ks fl rm b).2.1.length≤b.length∧0≤(aw ks fl rm b).2.2.blocks∧(aw ks fl rm b).2.2.blocks≤16∧0≤(aw ks fl rm b).2.2.bz.len∧(aw ks fl rm b).2.2.bz.len≤131072:=by
 have hd:∀n,ay (b.drop n)∧(b.drop n).length≤b.length:=fun n=>⟨hb.drop n,by rw[List.length_drop];omega⟩;have hc:=Gc (ver:=pH) (ks:=ks) (b:=b.take 224);rw[OO]at hc;have h0:=alr;unfold aw;grind
theorem OQ{b:List Int}{l:cK}(hb:ay b)(h0:0≤l.blocks):ay (cr b l).2.1∧(cr b l).2.1.length≤b.length∧((cr b l).1=0→64*l.blocks=(cr b l).2.2.length):=by
 have hd:∀n,ay (b.drop n)∧(b.drop n).length≤b.length:=fun n=>⟨hb.drop n,by rw[List.length_drop];omega⟩;have ht:(b.take (64*l.blocks).toNat).length=min (64*l.blocks).toNat b.length:=List.length_take;unfold cr;grind
theorem As:∀ (m k:Nat) (L:List Int) (n:Int) (r d:List Int),ay r→(d.length:Int)≤n→ay (jW m k L n r d).2.1∧(jW m k L n r d).2.1.length≤r.length∧((jW m k L n r d).2.2.length:Int)≤n
 |0,_,_,_,_,_,h,hd=>⟨h,Nat.le_refl _,hd⟩
 |m+1,k,L,n,r,d,h,hd=>by
  obtain⟨o1,o2,o3,o4⟩:=J7 (b:=r) (left:=n-d.length) (sum:=(L.drop (64*k)).take 64) h (by omega);rw[jW];generalize gq r (n-d.length) ((L.drop (64*k)).take 64)=x at*
  split
  ·exact⟨o1,o2,by simp only[List.length_append];omega⟩
  ·obtain⟨a,b,c⟩:=As m (k+1) L n x.2.1 (d++x.2.2) o1 (by rw[List.length_append];omega);exact⟨a,by omega,c⟩
def wT(l:cK)(r d:List Int):Int:=
 if(d.length:Int)<l.bz.len then 6 else if gp d≠l.bz.plain then 7 else if r.length≠0 then 6 else 0
def fk(ks:List (List Int))(fl rm:Int)(b:List Int):Int×List Int×cK×List Int×List Int:=
 if(aw ks fl rm b).1≠0 then((aw ks fl rm b).1,(aw ks fl rm b).2.1,(aw ks fl rm b).2.2,[],[])
 else if(cr (aw ks fl rm b).2.1 (aw ks fl rm b).2.2).1≠0 then((cr (aw ks fl rm b).2.1 (aw ks fl rm b).2.2).1,(cr (aw ks fl rm b).2.1 (aw ks fl rm b).2.2).2.1,(aw ks fl rm b).2.2,(cr (aw ks fl rm b).2.1 (aw ks fl rm b).2.2).2.2,[])
 else
  (fun(l:cK) (L:List Int) (x:Int×List Int×List Int)=>(if x.1≠0 then x.1 else wT l x.2.1 x.2.2,x.2.1,l,L,x.2.2))
   (aw ks fl rm b).2.2 (cr (aw ks fl rm b).2.1 (aw ks fl rm b).2.2).2.2
   (jW (aw ks fl rm b).2.2.blocks.toNat 0 (cr (aw ks fl rm b).2.1 (aw ks fl rm b).2.2).2.2 (aw ks fl rm b).2.2.bz.len (cr (aw ks fl rm b).2.1 (aw ks fl rm b).2.2).2.1 [])
structure Vd where
 err:Int
 lD:cK
 data:List Int
 mea:List Int
def OR(ks:List (List Int))(fl rm:Int)(b:List Int):Vd:=
 (fun(x:Int×List Int×cK×List Int×List Int)=>if x.1≠0 then(⟨x.1,dW,[],List.replicate 64 0⟩:Vd)else⟨0,x.2.2.1,x.2.2.2.2,gp (lZ x.2.2.1.bz.ver x.2.2.1.bz.lh x.2.2.1.bz.len x.2.2.1.bz.list x.2.2.1.bz.plain++x.2.2.2.2)⟩) (fk ks fl rm b)
theorem DU(ks:List (List Int))(fl rm:Int)(b:List Int):Gb (aw ks fl rm b).2.2.bz:=by
 have h0:Gb dW.bz:=⟨by decide,by decide,by decide,by decide⟩;have h1:=acF pH ks (b.take 224);rw[OO]at h1;unfold aw
 repeat' split
 all_goals first|exact h0|exact h1
theorem Yo{ks:List (List Int)}{fl rm:Int}{b:List Int}(hb:ay b):Gb (fk ks fl rm b).2.2.1.bz∧(fk ks fl rm b).2.2.2.2.length≤131072:=by
 obtain⟨f1,f2,f3⟩:=si (ks:=ks) (fl:=fl) (rm:=rm) hb;have hv:=DU ks fl rm b;unfold fk;generalize aw ks fl rm b=f at*;obtain⟨s1,s2,s3⟩:=OQ (b:=f.2.1) (l:=f.2.2) f1 f3.1;generalize cr f.2.1 f.2.2=x at*;obtain⟨r1,r2,r3⟩:=As f.2.2.blocks.toNat 0 x.2.2 f.2.2.bz.len x.2.1 [] s1 (by simp only[List.length_nil];omega)
 split
 ·exact⟨hv,Nat.zero_le _⟩
 ·split
  ·exact⟨hv,Nat.zero_le _⟩
  ·exact⟨hv,by simp only;omega⟩
def vdT(v:Vd):Int×Int×Int×Int×Int×Int×List Int×List Int×List Int×List Int×List Int:=(v.err,v.lD.key,v.lD.blocks,v.lD.bz.ver,v.lD.bz.lh,v.lD.bz.len,v.lD.bz.list,v.lD.bz.plain,v.lD.sign,v.data,v.mea)
abbrev axG:an:=eCk sA
theorem axH:axG.Ok Tryz.prog 114:=by rw[axG,← OO];exact alp
abbrev alu:an:=acy gp
theorem J8:alu.Ok Tryz.prog 22:=ali
abbrev Gd{Y:Type}(r:aM (List SV) Y):=vN (z5 (ae (so u8 64) r))
abbrev cJ0:aM (List SV) (List Int×cK):=(ae (fh false false u8) (Gd (ai aom (ai aom ag)))).kE (fun x=>(x.1,⟨x.2.1,x.2.2.1,⟨x.2.2.2.1,x.2.2.2.2.1,x.2.2.2.2.2.1,x.2.2.2.2.2.2.1,x.2.2.2.2.2.2.2.1⟩,x.2.2.2.2.2.2.2.2.1⟩)) (fun y=>(y.1,y.2.key,y.2.blocks,y.2.bz.ver,y.2.bz.lh,y.2.bz.len,y.2.bz.list,y.2.bz.plain,y.2.sign,())) (fun _=>rfl)
abbrev cJ1:aM (List SV) (List Int×cK×List Int):=(ae (fh false false u8) (Gd (ae (fh false false u8) (ai aom ag)))).kE (fun x=>(x.1,⟨x.2.1,x.2.2.1,⟨x.2.2.2.1,x.2.2.2.2.1,x.2.2.2.2.2.1,x.2.2.2.2.2.2.1,x.2.2.2.2.2.2.2.1⟩,x.2.2.2.2.2.2.2.2.1⟩,x.2.2.2.2.2.2.2.2.2.1)) (fun y=>(y.1,y.2.1.key,y.2.1.blocks,y.2.1.bz.ver,y.2.1.bz.lh,y.2.1.bz.len,y.2.1.bz.list,y.2.1.bz.plain,y.2.1.sign,y.2.2,())) (fun _=>rfl)
abbrev cJ2:aM (List SV) (List Int×cK×List Int):=(ae (fh false false u8) (Gd (ae (fh false false u8) (ai (ke 1 0) ag)))).kE (fun x=>(x.1,⟨x.2.1,x.2.2.1,⟨x.2.2.2.1,x.2.2.2.2.1,x.2.2.2.2.2.1,x.2.2.2.2.2.2.1,x.2.2.2.2.2.2.2.1⟩,x.2.2.2.2.2.2.2.2.1⟩,x.2.2.2.2.2.2.2.2.2.1)) (fun y=>(y.1,y.2.1.key,y.2.1.blocks,y.2.1.bz.ver,y.2.1.bz.lh,y.2.1.bz.len,y.2.1.bz.list,y.2.1.bz.plain,y.2.1.sign,y.2.2,())) (fun _=>rfl)
abbrev cJ3:aM (List SV) (List Int×cK×List Int):=(ae (fh false false u8) (Gd (ae (fh false false u8) (ai (ke 1 1) ag)))).kE (fun x=>(x.1,⟨x.2.1,x.2.2.1,⟨x.2.2.2.1,x.2.2.2.2.1,x.2.2.2.2.2.1,x.2.2.2.2.2.2.1,x.2.2.2.2.2.2.2.1⟩,x.2.2.2.2.2.2.2.2.1⟩,x.2.2.2.2.2.2.2.2.2.1)) (fun y=>(y.1,y.2.1.key,y.2.1.blocks,y.2.1.bz.ver,y.2.1.bz.lh,y.2.1.bz.len,y.2.1.bz.list,y.2.1.bz.plain,y.2.1.sign,y.2.2,())) (fun _=>rfl)
abbrev jJ0:aM Ev.Item (List Int×cK):=mN 87 cJ0
abbrev jJ1:aM Ev.Item (List Int×cK×List Int):=mN 87 cJ1
abbrev jJ2:aM Ev.Item (List Int×cK×List Int):=mN 87 cJ2
abbrev jJ3:aM Ev.Item (List Int×cK×List Int):=mN 87 cJ3
abbrev EJ:aM Hp ((List Int×cK)×Unit):=ae (bp jJ0) ag
abbrev hJ2:aM Hp ((List Int×cK×List Int)×List Int×Unit):=ae (bp jJ2) (ae (bS 0 u8) ag)
abbrev jfA:aM (List LV) (List (List Int)×Int×Int×Unit):=ai (ah (aC 0 0)) (ae (ah (fh false false (.arr u8 32))) (ae (ah (aA .u64)) (ae (ah (aA .i64)) ag)))
theorem aYjz{l:List Int}{n:Int}(h0:0≤n):List.take ((l.length:Int)-n).toNat (List.drop n.toNat l)=l.drop n.toNat:=List.take_of_length_le (by rw[List.length_drop];omega)
theorem alv{b:List Int}(h:4≤b.length):two (b.take 4) 0=two b 0∧two (b.take 4) 2=two b 2∧gO (b.take 4)=gO b:=by
 have e:∀i:Nat,i<4→(b.take 4).getD i 0=b.getD i 0:=fun i hi=>by
  rw[List.getD_eq_getElem?_getD,List.getElem?_take,if_pos hi,List.getD_eq_getElem?_getD]
 have e0:two (b.take 4) 0=two b 0:=by unfold two;rw[e 0 (by decide),e 1 (by decide)]
 have e2:two (b.take 4) 2=two b 2:=by unfold two;rw[e 2 (by decide),e 3 (by decide)]
 exact⟨e0,e2,by unfold gO;rw[e0,e2]⟩
abbrev J9:Type:=List Int×cK
abbrev alw(x:J9):LV:=LV.cj [VV.sc (SV.iM (Value.slice none 0 0)),VV.sc (SV.bool (SB.lit false))]
abbrev alx(x:J9):List (Nat×Ev.Item):= [(0,jJ0.wr x)]
abbrev Ka:Type:=(List Int)×(List Int×cK)
abbrev aly(x:Ka):LV:=LV.cj [VV.sc (SV.rd false false (Ty.int IntKind.u8) x.1),VV.sc (SV.bool (SB.lit true))]
abbrev alz(x:Ka):List (Nat×Ev.Item):= [(0,jJ0.wr x.2)]
def Yp(n:Int)(j:List Int×cK):Tr (J9⊕Ka):=(.ite (decide ((↑j.fst.length:Int)<n)) (.ret (.inl (j))) (.need
 ((0:Int)≤0∧0≤n∧n≤(↑j.fst.length:Int)) (.need (0≤n∧n≤(↑j.fst.length:Int)∧(↑j.fst.length:Int)≤(↑j.fst.length:Int)) (.ret
 (.inr (List.take (n-0).toNat (List.drop 0 j.fst),(List.take ((↑j.fst.length:Int)-n).toNat (List.drop n.toNat j.fst),j.snd)))))))
theorem acH(n:Int)(j:List Int×cK):aG Tryz.prog [] [] f154 ((lY).wr (n,())) ((EJ).wr (j,())) [.auto,.aE]=(Yp n j).end (Sum.elim alw aly) (Sum.elim alx alz) ((EJ).wr (j,())):=by kernel_rfl
theorem alA(n:Int)(j:List Int×cK):aH Tryz.prog ((EJ).wr (j,())) [] (aF f154):=(aH.nil _)
abbrev jn(n:Int)(j:List Int×cK):Prop:=0≤n
abbrev Yq(n:Int)(j:List Int×cK):Bool:=decide ((j.1.length:Int)<n)
abbrev alB(n:Int)(j:List Int×cK):J9:=j
abbrev alC(n:Int)(j:List Int×cK):Ka:=(j.1.take n.toNat,(j.1.drop n.toNat,j.2))
def alD:an:=Lx [] (lY) (EJ) (fun x_ y_=>jn x_.1 y_.1) (fun x_ y_=>Yq x_.1 y_.1) (fun x_ y_=>alB x_.1 y_.1) (fun x_ y_=>alC x_.1 y_.1) alw alx aly alz
theorem ard(n:Int)(j:List Int×cK)(h_:jn n j):(Yq n j=true→(Yp n j).Is (.inl (alB n j)))∧(Yq n j=false→(Yp n j).Is (.inr (alC n j))):=by
 delta Yq alB alC;have h_:0≤n:=h_;simp only[Yp,aP,aq,au,decide_eq_true_eq,decide_eq_false_iff_not,aYjz h_];simp;omega
theorem Yr:alD.Ok Tryz.prog 154:=
 G9 mixed ax func154 (by kernel_rfl) call154 (fun x_ y_=>alA x_.1 y_.1) (fun x_ y_=>acH x_.1 y_.1) (fun x_ y_ h=>ard x_.1 y_.1 h)
abbrev Kb:Type:=List Int×cK×List Int
abbrev alE(x:Kb):LV:=LV.cj [VV.sc (SV.iM (Value.slice none 0 0)),VV.sc (SV.bool (SB.lit false))]
abbrev alF(x:Kb):List (Nat×Ev.Item):= [(0,jJ2.wr x)]
abbrev Kc:Type:=(List Int)×(List Int×cK×List Int)
abbrev alG(x:Kc):LV:=LV.cj [VV.sc (SV.rd false false (Ty.int IntKind.u8) x.1),VV.sc (SV.bool (SB.lit true))]
abbrev alH(x:Kc):List (Nat×Ev.Item):= [(0,jJ2.wr x.2)]
def Ys(n:Int)(j:List Int×cK×List Int)(d:List Int):Tr (Kb⊕Kc):=(.ite (decide ((↑j.fst.length:Int)<n))
 (.ret (.inl (j))) (.need ((0:Int)≤0∧0≤n∧n≤(↑j.fst.length:Int)) (.need (0≤n∧n≤(↑j.fst.length:Int)∧(↑j.fst.length:Int)≤
 (↑j.fst.length:Int)) (.ret (.inr (List.take (n-0).toNat (List.drop 0 j.fst),(List.take ((↑j.fst.length:Int)-n).toNat (List.drop n.toNat
 j.fst),j.snd)))))))
theorem acI(n:Int)(j:List Int×cK×List Int)(d:List Int):aG Tryz.prog [] [] f154 ((lY).wr (n,())) ((hJ2).wr (j,d,())) [.auto,.aE]=(Ys n j d).end (Sum.elim alE alG) (Sum.elim alF alH) ((hJ2).wr (j,d,())):=by kernel_rfl
theorem alI(n:Int)(j:List Int×cK×List Int)(d:List Int):aH Tryz.prog ((hJ2).wr (j,d,())) [] (aF f154):=(aH.nil _)
abbrev oX(n:Int)(j:List Int×cK×List Int)(d:List Int):Prop:=0≤n
abbrev Yt(n:Int)(j:List Int×cK×List Int)(d:List Int):Bool:=decide ((j.1.length:Int)<n)
abbrev alJ(n:Int)(j:List Int×cK×List Int)(d:List Int):Kb:=j
abbrev alK(n:Int)(j:List Int×cK×List Int)(d:List Int):Kc:=(j.1.take n.toNat,(j.1.drop n.toNat,j.2))
def auq:an:=Lx [] (lY) (hJ2) (fun x_ y_=>oX x_.1 y_.1 y_.2.1) (fun x_ y_=>Yt x_.1 y_.1 y_.2.1) (fun x_ y_=>alJ x_.1 y_.1 y_.2.1) (fun x_ y_=>alK x_.1 y_.1 y_.2.1) alE alF alG alH
theorem are(n:Int)(j:List Int×cK×List Int)(d:List Int)(h_:oX n j d):(Yt n j d=true→(Ys n j d).Is (.inl (alJ n j d)))∧(Yt n j d=false→(Ys n j d).Is (.inr (alK n j d))):=by
 delta Yt alJ alK;have h_:0≤n:=h_;simp only[Ys,aP,aq,au,decide_eq_true_eq,decide_eq_false_iff_not,aYjz h_];simp;omega
theorem arf:auq.Ok Tryz.prog 154:=
 G9 mixed ax func154 (by kernel_rfl) call154 (fun x_ y_=>alI x_.1 y_.1 y_.2.1) (fun x_ y_=>acI x_.1 y_.1 y_.2.1) (fun x_ y_ h=>are x_.1 y_.1 y_.2.1 h)
abbrev Yu:Type:=(List Int)×Int
abbrev aur(x:Yu):LV:=LV.cj [VV.sc (SV.rd true false (Ty.int IntKind.u8) x.1),VV.sc (SV.int i64 (SI.sym x.2))]
abbrev aus(x:Yu):List (Nat×Ev.Item):= []
def Yv(b:List Int)(plain:Int):Tr (Yu):=(.ite (decide ¬(bC b plain).fst=0) (.need (nL b plain) (.ite
 ((bC b plain).fst !=0) (.ret ([],(bC b plain).fst)) (.need (rG []) (.ret (kG [],0))))) (.need (nL b plain) (.ite ((0:
 Int)!=0) (.ret ([],0)) (.need (rG (bC b plain).snd) (.ret (kG (bC b plain).snd,0))))))
theorem acJ(b:List Int)(plain:Int):aG Tryz.prog [(228,Xg),(229,Wv)] [] f157 (((ae (ah (fh false false u8)) (ae (ah (aA .i64)) ag))).wr (b,plain,())) ((ag).wr (())) [.Ll,.fr [.rd true u8],.fr [.sym],.syms,.auto,.aE]=(Yv b plain).end aur aus ((ag).wr (())):=by kernel_rfl
theorem alL(b:List Int)(plain:Int):aH Tryz.prog ((ag).wr (())) [] (aF f157):=(aH.nil _)
abbrev At(b:List Int)(plain:Int):Prop:=ay b∧b.length<1099511627776
abbrev alM(b:List Int)(plain:Int):Yu:=((fG b plain).2,(fG b plain).1)
def aut:an:=cv [some u8,none] ((ae (ah (fh false false u8)) (ae (ah (aA .i64)) ag))) (ag) (fun x_ y_=>At x_.1 x_.2.1) (fun x_ y_=>alM x_.1 x_.2.1) aur aus
theorem arh(b:List Int)(plain:Int)(h_:At b plain):(Yv b plain).Is (alM b plain):=by
 delta alM;have hl:=v5 (b:=b) (plain:=plain);have p0:nL b plain:=h_;unfold fG
 by_cases c:(bC b plain).1=0
 ·simp[c,Yv,bE,aq,au];exact⟨p0,hl⟩
 ·simp[c,Yv,bE,aq,au];exact p0
theorem ari:aut.Ok Tryz.prog 157:=
 br mixed ((aj aaU (aj Z5 ax))) func157 (by kernel_rfl) call157 (fun x_ y_=>alL x_.1 x_.2.1) (fun x_ y_=>acJ x_.1 x_.2.1) (fun x_ y_ h=>arh x_.1 x_.2.1 h)
def Ke(j:List Int×cK):cK:=j.snd
abbrev Yw:Type:=Int×(List Int×cK)
abbrev auu(x:Yw):LV:=LV.one (VV.sc (SV.int i64 (SI.sym x.1)))
abbrev auv(x:Yw):List (Nat×Ev.Item):= [(0,jJ0.wr x.2)]
def alN(ks:List (List Int))(fl:Int)(rm:Int)(j:List Int×cK):Tr (Yw):=(.ite (decide ((↑j.fst.length:Int)<8))
 (.need (jn 8 (j.fst,Ke j)) (.ret (16,j))) (.need (jn 8 (j.fst,Ke j)) (.ite (!(aD (List.take 8 j.fst)).snd) (.ret (6,
 (List.drop 8 j.fst,j.snd))) (.ite (decide ((↑ks.length:Int)≤(aD (List.take 8 j.fst)).fst.fst)) (.ret (15,(List.drop 8 j.fst,j.snd))) (.ite
 (decide ((↑(List.drop 8 j.fst).length:Int)<216)) (.need (jn 216 (List.drop 8 j.fst,Ke j)) (.ret (16,(List.drop 8 j.fst,j.snd)))) (.need
 (jn 216 (List.drop 8 j.fst,Ke j)) (.need ((0:Int)≤0∧(0:Int)≤224∧224≤(↑j.fst.length:Int)) (.need (ay (List.take 224
 (List.drop 0 j.fst))∧(List.take 224 (List.drop 0 j.fst)).length<1152921504606846976∧Ux ks) (.ite ((sA ks (List.take 224 (List.drop 0
 j.fst))).snd !=0) (.ret ((sA ks (List.take 224 (List.drop 0 j.fst))).snd,(List.drop 216 (List.drop 8 j.fst),j.snd))) (.ite (decide (rm<(sA ks
 (List.take 224 (List.drop 0 j.fst))).fst.bz.len)) (.ret (10,(List.drop 216 (List.drop 8 j.fst),j.snd))) (.ite (decide ((sA ks (List.take 224
 (List.drop 0 j.fst))).fst.bz.ver<fl)) (.ret (9,(List.drop 216 (List.drop 8 j.fst),j.snd))) (.ret (0,(List.drop 216 (List.drop 8 j.fst),(sA ks
 (List.take 224 (List.drop 0 j.fst))).fst))))))))))))))
theorem acK(ks:List (List Int))(fl rm:Int)(j:List Int×cK):aG Tryz.prog [(154,alD),(155,km),(114,axG)] [] f96 ((jfA).wr (ks,fl,rm,())) ((EJ).wr (j,())) [.fr [.sym],.syms,.auto,.aE]=(alN ks fl rm j).end auu auv ((EJ).wr (j,())):=by kernel_rfl
theorem alO(ks:List (List Int))(fl rm:Int)(j:List Int×cK):aH Tryz.prog ((EJ).wr (j,())) [] (aF f96):=(aH.nil _)
abbrev Au(ks:List (List Int))(fl rm:Int)(j:List Int×cK):Prop:=ay j.1∧j.1.length<1099511627776∧Ux ks∧j.2=dW
abbrev alP(ks:List (List Int))(fl rm:Int)(j:List Int×cK):Yw:=aw ks fl rm j.1
def alQ:an:=cv [] (jfA) (EJ) (fun x_ y_=>Au x_.1 x_.2.1 x_.2.2.1 y_.1) (fun x_ y_=>alP x_.1 x_.2.1 x_.2.2.1 y_.1) auu auv
theorem arj(ks:List (List Int))(fl rm:Int)(j:List Int×cK)(h_:Au ks fl rm j):(alN ks fl rm j).Is (alP ks fl rm j):=by
 delta alP;obtain⟨b,l⟩:=j;obtain⟨h1,h2,h3,rfl⟩:=h_;simp only[alN,aP,aq,au,fC,ir,aw,List.drop_zero,List.drop_drop,List.length_drop]at*;have q:=h1.take 224;have p8:jn 8 (b,dW):=show(0:Int)≤8 by decide
 have aKJ:∀x,jn 216 (x,dW):=fun _=>show(0:Int)≤216 by decide
 grind
theorem Yx:alQ.Ok Tryz.prog 96:=
 br mixed ((aj Yr (aj CM (aj axH ax)))) func96 (by kernel_rfl) call96 (fun x_ y_=>alO x_.1 x_.2.1 x_.2.2.1 y_.1) (fun x_ y_=>acK x_.1 x_.2.1 x_.2.2.1 y_.1) (fun x_ y_ h=>arj x_.1 x_.2.1 x_.2.2.1 y_.1 h)
abbrev Yy:Type:=Int×(List Int×cK×List Int)
abbrev auw(x:Yy):LV:=LV.one (VV.sc (SV.int i64 (SI.sym x.1)))
abbrev auy(x:Yy):List (Nat×Ev.Item):= [(0,jJ1.wr x.2)]
def alR(j:List Int×cK):Tr (Yy):=(.ite (decide ((↑j.fst.length:Int)<i64.wrap (64*j.snd.blocks))) (.need
 (jn (i64.wrap (64*j.snd.blocks)) j) (.ret (16,(j.fst,j.snd,[])))) (.need (jn (i64.wrap (64*j.snd.blocks)) j) (.need (1
 <2305843009213693952∧ [List.take (i64.wrap (64*j.snd.blocks)).toNat j.fst].flatten.length<1152921504606846976) (.ite (!decide (gp
 [List.take (i64.wrap (64*j.snd.blocks)).toNat j.fst].flatten=j.snd.bz.list)) (.ret (7,(List.drop (i64.wrap (64*
 j.snd.blocks)).toNat j.fst,j.snd,[]))) (.ret (0,(List.drop (i64.wrap (64*j.snd.blocks)).toNat j.fst,j.snd,List.take (i64.wrap
 (64*j.snd.blocks)).toNat j.fst)))))))
theorem acL(j:List Int×cK):aG Tryz.prog [(154,alD),(22,alu)] [] f97 (((ai (ah (aC 0 0)) ag)).wr (())) ((EJ).wr (j,())) [.aW 0 [.al,.sym,.sym,.sym,.sym,.sym,.al,.al,.al,.rd false u8],.fr [.sym],.syms,.auto,.aE]=(alR j).end auw auy ((EJ).wr (j,())):=by kernel_rfl
theorem alS(j:List Int×cK):aH Tryz.prog ((EJ).wr (j,())) [] (aF f97):=(aH.nil _)
abbrev Av(j:List Int×cK):Prop:=j.1.length<1099511627776∧0≤j.2.blocks∧j.2.blocks≤16
abbrev alT(j:List Int×cK):Yy:=((cr j.1 j.2).1,((cr j.1 j.2).2.1,j.2,(cr j.1 j.2).2.2))
def alU:an:=cv [] ((ai (ah (aC 0 0)) ag)) (EJ) (fun x_ y_=>Av y_.1) (fun x_ y_=>alT y_.1) auw auy
theorem ark(j:List Int×cK)(h_:Av j):(alR j).Is (alT j):=by
 delta alT;obtain⟨b,l⟩:=j;obtain⟨h1,h2,h3⟩:=h_;simp only at h1 h2 h3;have w:i64.wrap (64*l.blocks)=64*l.blocks:=ao (by omega) (by omega);have p0:jn (64*l.blocks) (b,l):=by show 0≤_;omega
 simp only[alR,aP,aq,au,fC,cr,w,List.flatten_cons,List.flatten_nil,List.append_nil,decide_eq_true_eq,decide_eq_false_iff_not,List.length_take];grind
theorem Yz:alU.Ok Tryz.prog 97:=
 br mixed ((aj Yr (aj J8 ax))) func97 (by kernel_rfl) call97 (fun x_ y_=>alS y_.1) (fun x_ y_=>acL y_.1) (fun x_ y_ h=>ark y_.1 h)
def yA(j:List Int×cK×List Int):Int×List Int:=fG (List.take (two (List.take 4 j.fst) 0).toNat (List.drop 4 j.fst))
 (two (List.take 4 j.fst) 2)
def Kf(j:List Int×cK×List Int):List Int:= [List.take 4 j.fst,List.take (two (List.take 4 j.fst) 0).toNat (List.drop 4
 j.fst)].flatten
def DV(n:Int)(j:List Int×cK×List Int):List Int:=List.take ((↑j.snd.snd.length:Int)-i64.wrap (64*
 n)).toNat (List.drop (i64.wrap (64*n)).toNat j.snd.snd)
def Kg(j:List Int×cK×List Int):cK×List Int:=j.snd
abbrev YA:Type:=Int×(List Int×cK×List Int)×(List Int)
abbrev auz(x:YA):LV:=LV.one (VV.sc (SV.int i64 (SI.sym x.1)))
abbrev auA(x:YA):List (Nat×Ev.Item):= [(0,jJ3.wr x.2.1),(1,Item.own 1 (Ty.int IntKind.u8) x.2.2)]
def alV(n:Int)(j:List Int×cK×List Int)(d:List Int):Tr (YA):=(.ite (decide ((↑j.fst.length:Int)<4)) (.need
 (oX 4 (j.fst,Kg j) d) (.ret (16,j,d))) (.need (oX 4 (j.fst,Kg j) d) (.need (4≤(List.take 4 j.fst).length) (.ite (!gO
 (List.take 4 j.fst)) (.ret (6,(List.drop 4 j.fst,j.snd),d)) (.ite (decide (i64.wrap (j.snd.fst.bz.len-(↑d.length:Int))<two (List.take
 4 j.fst) 2)) (.ret (10,(List.drop 4 j.fst,j.snd),d)) (.ite (decide ((↑(List.drop 4 j.fst).length:Int)<two (List.take 4 j.fst) 0)) (.need
 (oX (two (List.take 4 j.fst) 0) (List.drop 4 j.fst,Kg j) d) (.ret (16,(List.drop 4 j.fst,j.snd),d))) (.need (oX (two (List.take 4
 j.fst) 0) (List.drop 4 j.fst,Kg j) d) (.need (2<2305843009213693952∧(Kf j).length<1152921504606846976) (.need (0≤i64.wrap (64
 *n)∧i64.wrap (64*n)≤(↑j.snd.snd.length:Int)∧(↑j.snd.snd.length:Int)≤(↑j.snd.snd.length:Int)) (.need (64≤(DV n j).length)
 (.need (64≤(DV n j).length) (.ite (!decide (gp (Kf j)=List.take 64 (List.drop 0 (DV n j)))) (.ret (7,(List.drop (two (List.take 4
 j.fst) 0).toNat (List.drop 4 j.fst),j.snd),d)) (.need (At (List.take (two (List.take 4 j.fst) 0).toNat (List.drop 4 j.fst)) (two (List.take 4
 j.fst) 2)) (.need ((d.length+(yA j).snd.length)*1≤70368744177664∧d.length+(yA j).snd.length≤70368744177664) (.ret ((yA j).fst,
 (List.drop (two (List.take 4 j.fst) 0).toNat (List.drop 4 j.fst),j.snd),d++(yA j).snd))))))))))))))))
theorem acM(n:Int)(j:List Int×cK×List Int)(d:List Int):aG Tryz.prog [(154,auq),(22,alu),(156,Xt),(157,aut)] [] f98 ((lY).wr (n,())) ((hJ2).wr (j,d,())) [.one 1,.fr [.sym],.syms,.auto,.aE]=(alV n j d).end auz auA ((hJ2).wr (j,d,())):=by kernel_rfl
theorem alW(n:Int)(j:List Int×cK×List Int)(d:List Int):aH Tryz.prog ((hJ2).wr (j,d,())) [] (aF f98):=(aH.nil _)
abbrev Aw(n:Int)(j:List Int×cK×List Int)(d:List Int):Prop:=ay j.1∧j.1.length<1099511627776∧0≤n∧n<16∧64*n+64≤j.2.2.length∧j.2.2.length<1099511627776∧d.length≤131072∧0≤j.2.1.bz.len∧j.2.1.bz.len≤131072
abbrev alX(n:Int)(j:List Int×cK×List Int)(d:List Int):YA:=((gq j.1 (j.2.1.bz.len-d.length) ((j.2.2.drop (64*n).toNat).take 64)).1,((gq j.1 (j.2.1.bz.len-d.length) ((j.2.2.drop (64*n).toNat).take 64)).2.1,j.2),d++(gq j.1 (j.2.1.bz.len-d.length) ((j.2.2.drop (64*n).toNat).take 64)).2.2)
def alY:an:=cv [] (lY) (hJ2) (fun x_ y_=>Aw x_.1 y_.1 y_.2.1) (fun x_ y_=>alX x_.1 y_.1 y_.2.1) auz auA
theorem arl(n:Int)(j:List Int×cK×List Int)(d:List Int)(h_:Aw n j d):(alV n j d).Is (alX n j d):=by
 delta alX;obtain⟨b,l,L⟩:=j;obtain⟨h1,h2,h3,h4,h5,h6,h7,h8,h9⟩:=h_;simp only at h1 h2 h5 h6 h8 h9;have w1:i64.wrap (l.bz.len-(d.length:Int))=l.bz.len-d.length:=ao (by omega) (by omega);have w2:i64.wrap (64*n)=64*n:=ao (by omega) (by omega);have p0:∀x y:Int,0≤x→∀z,oX x z d:=fun x y h z=>h;have e3:DV n (b,l,L)=L.drop (64*n).toNat:=by unfold DV;rw[w2];exact aYjz (by omega)
 have l3:(L.drop (64*n).toNat).length=L.length-(64*n).toNat:=List.length_drop;simp only[alV,aP,aq,au,fC,gq,w1,w2,e3,List.drop_zero,decide_eq_true_eq,decide_eq_false_iff_not,List.length_drop]
 by_cases c1:b.length<4
 ·grind
 ·obtain⟨t0,t2,ts⟩:=alv (b:=b) (by omega);have q4:(b.take 4).length=4:=by rw[List.length_take];omega
  cases c2:gO b with
  |false=>grind
  |true=>
   obtain⟨s1,s2⟩:=v7 c2;have e1:yA (b,l,L)=fG ((b.drop 4).take (two b 0).toNat) (two b 2):=by unfold yA;rw[t0,t2]
   have e2:(two b 0≤(b.length:Int)-4)→Kf (b,l,L)=b.take (4+two b 0).toNat:=fun h=>by
    unfold Kf;simp only[t0,List.flatten_cons,List.flatten_nil,List.append_nil];rw[show(4+two b 0).toNat=4+(two b 0).toNat by omega,List.take_add]
   have l2:(b.take (4+two b 0).toNat).length≤b.length:=(by rw[List.length_take];omega);have ed:(b.drop 4).drop (two b 0).toNat=b.drop (4+two b 0).toNat:=(by rw[List.drop_drop];congr 1;omega);have p1:At ((b.drop 4).take (two b 0).toNat) (two b 2):=⟨Ai h1 _ _,by rw[List.length_take,List.length_drop];omega⟩;have hl:=yz ((b.drop 4).take (two b 0).toNat) (two b 2);grind
theorem YB:alY.Ok Tryz.prog 98:=
 br mixed ((aj arf (aj J8 (aj aa6 (aj ari ax))))) func98 (by kernel_rfl) call98 (fun x_ y_=>alW x_.1 y_.1 y_.2.1) (fun x_ y_=>acM x_.1 y_.1 y_.2.1) (fun x_ y_ h=>arl x_.1 y_.1 y_.2.1 h)
abbrev YC:Type:=Int
abbrev auB(x:YC):LV:=LV.one (VV.sc (SV.int i64 (SI.sym x)))
abbrev auC(x:YC):List (Nat×Ev.Item):= []
def alZ(j:List Int×cK×List Int)(d:List Int):Tr (YC):=(.ite (decide ((↑d.length:Int)<j.snd.fst.bz.len)) (.ret
 (6)) (.need (1<2305843009213693952∧ [d].flatten.length<1152921504606846976) (.ite (!decide (gp [d].flatten=j.snd.fst.bz.plain)) (.ret (7))
 (.ite (decide (0<(↑j.fst.length:Int))) (.ret (6)) (.ret (0))))))
theorem acN(j:List Int×cK×List Int)(d:List Int):aG Tryz.prog [(22,alu)] [] f99 (((ai (ah (aC 0 0)) ag)).wr (())) ((hJ2).wr (j,d,())) [.fr [.sym],.syms,.auto,.aE]=(alZ j d).end auB auC ((hJ2).wr (j,d,())):=by kernel_rfl
theorem al0(j:List Int×cK×List Int)(d:List Int):aH Tryz.prog ((hJ2).wr (j,d,())) [] (aF f99):=(aH.nil _)
abbrev Ax(j:List Int×cK×List Int)(d:List Int):Prop:=d.length<1099511627776
abbrev al1(j:List Int×cK×List Int)(d:List Int):YC:=wT j.2.1 j.1 d
def al2:an:=cv [] ((ai (ah (aC 0 0)) ag)) (hJ2) (fun x_ y_=>Ax y_.1 y_.2.1) (fun x_ y_=>al1 y_.1 y_.2.1) auB auC
theorem arn(j:List Int×cK×List Int)(d:List Int)(h_:Ax j d):(alZ j d).Is (al1 j d):=by
 delta al1;simp only[alZ,aP,aq,au,fC,wT,List.flatten_cons,List.flatten_nil,List.append_nil,decide_eq_true_eq,decide_eq_false_iff_not];grind
theorem YD:al2.Ok Tryz.prog 99:=
 br mixed ((aj J8 ax)) func99 (by kernel_rfl) call99 (fun x_ y_=>al0 y_.1 y_.2.1) (fun x_ y_=>acN y_.1 y_.2.1) (fun x_ y_ h=>arn y_.1 y_.2.1 h)
abbrev DW:Type:=Int×Int×(List Int×cK×List Int)×(List Int)
abbrev DX:aM St DW:=(aS (ai (ah (aC (0) (0))) (jk 30 (ae (ah (aA i64)) (ae (ah (aA
 i64)) (jk 11 ag))))) (ae (bp jJ2) (ae (bS (0) (Ty.int IntKind.u8)) ag))).kE (fun y=>(y.1.1,y.1.2.1,y.2.1,y.2.2.1)) (fun x
 =>((x.1,(x.2.1,())),(x.2.2.1,(x.2.2.2,())))) (fun _=>rfl)
abbrev Uy:List Wk:= [.eT 0 10 u8,.fr (cu 44 [(0,.al),(31,.al),(32,.al)]),.syms,.auto,.aE]
abbrev al3:Exit→List Wk:=xz Uy 0 [.eT 0 10 u8,.fr (cu 44 [(0,.al)]),.syms,.auto,.aE] [.eT 0 10 u8,.fr (cu 44 [(8,
 .al)]),.syms,.auto,.aE]
def mH(k:Int)(j:List Int×cK×List Int)(d:List Int):Int×List Int×List Int:=gq j.fst (j.snd.fst.bz.len-
 (↑d.length:Int)) (List.take 64 (List.drop (64*k).toNat j.snd.snd))
abbrev Kh:Type:=Int×(List Int×cK×List Int)×(List Int)
abbrev YE(x:Kh):Exit×St:=(Exit.ret,⟨(iE 8 (LV.one (VV.sc (SV.int i64 (SI.sym x.1)))::(iE 35 []))),[some
 (jJ2.wr x.2.1),some (Item.own 0 (Ty.int IntKind.u8) x.2.2)]⟩)
abbrev Ki:Type:=(List Int×cK×List Int)×(List Int)
abbrev YF(x:Ki):Exit×St:=(Exit.exit 0,⟨(LV.one (VV.sc (SV.ptr 0 0))::(iE 43 [])),[some (jJ2.wr x.1),some
 (Item.own 0 (Ty.int IntKind.u8) x.2)]⟩)
def DY(n:Int)(k:Int)(j:List Int×cK×List Int)(d:List Int):Tr (DW⊕(Kh⊕Ki)):=(.ite (decide (k<
 n)) (.need (Aw k j d) (.ite ((mH k j d).fst !=0) (.ret (.inr (.inl ((mH k j d).fst,((mH k j d).snd.fst,j.snd),d++(mH k j
 d).snd.snd)))) (.ret (.inl (n,i64.wrap (k+1),((mH k j d).snd.fst,j.snd),d++(mH k j d).snd.snd))))) (.ret (.inr (.inr (j,
 d)))))
theorem Uz(ks:List (List Int))(fl rm:Int)(j':List Int×cK)(n:Int)(k:Int)(j:List Int×cK×List Int)(d:List Int):cO Tryz.prog [(96,alQ),(97,alU),(98,alY),(99,al2)] [] f47 0 ((EJ).wr (j',())) al3 (DX.wr (n,k,j,d))=(DY n k j d).res DX.wr (Sum.elim YE YF):=by kernel_rfl
abbrev wU(n:Int)(k:Int)(j:List Int×cK×List Int)(d:List Int):Prop:=0≤k∧k≤n∧n≤16∧ay j.1∧j.1.length<1099511627776∧64*n≤j.2.2.length∧j.2.2.length<1099511627776∧d.length≤j.2.1.bz.len∧j.2.1.bz.len≤131072
abbrev UA(n:Int)(k:Int)(j:List Int×cK×List Int)(d:List Int):Bool:=decide ((jW (n-k).toNat k.toNat j.2.2 j.2.1.bz.len j.1 d).1≠0)
abbrev UB(n:Int)(k:Int)(j:List Int×cK×List Int)(d:List Int):Kh:=((jW (n-k).toNat k.toNat j.2.2 j.2.1.bz.len j.1 d).1,((jW (n-k).toNat k.toNat j.2.2 j.2.1.bz.len j.1 d).2.1,j.2),(jW (n-k).toNat k.toNat j.2.2 j.2.1.bz.len j.1 d).2.2)
abbrev UC(n:Int)(k:Int)(j:List Int×cK×List Int)(d:List Int):Ki:=(((jW (n-k).toNat k.toNat j.2.2 j.2.1.bz.len j.1 d).2.1,j.2),(jW (n-k).toNat k.toNat j.2.2 j.2.1.bz.len j.1 d).2.2)
abbrev UD:DW→aK:=sZ (fun x_=>wU x_.1 x_.2.1 x_.2.2.1 x_.2.2.2) (fun x_=>UA x_.1 x_.2.1 x_.2.2.1 x_.2.2.2) (fun x_=>UB x_.1 x_.2.1 x_.2.2.1 x_.2.2.2) (fun x_=>UC x_.1 x_.2.1 x_.2.2.1 x_.2.2.2) YE YF
theorem al4(n:Int)(k:Int)(j:List Int×cK×List Int)(d:List Int)(h_:wU n k j d):cX (fun x_:DW=>DY x_.1 x_.2.1 x_.2.2.1 x_.2.2.2) (n,k,j,d) (bif UA n k j d then .inl (UB n k j d)else .inr (UC n k j d)):=by
 delta UA UB UC;obtain⟨b,l,L⟩:=j;obtain⟨h1,h2,h3,h4,h5,h6,h7,h8,h9⟩:=h_;simp only at h4 h5 h6 h7 h8 h9 ⊢;obtain⟨k,rfl⟩:∃m:Nat,k=m:=⟨k.toNat,by omega⟩;obtain⟨m,hm⟩:∃m:Nat,n-k=m:=⟨(n-k).toNat,by omega⟩;rw[hm,Int.toNat_natCast,Int.toNat_natCast]
 induction m generalizing k b d with
 |zero=>
  refine .stop ?_;have e1:decide ((k:Int)<n)=false:=decide_eq_false (by omega);simp only[DY,e1,e9,au,jW];simp
 |succ m ih=>
  have e1:decide ((k:Int)<n)=true:=decide_eq_true (by omega);have e2:(64*(k:Int)).toNat=64*k:=by omega
  have ea:mH k (b,l,L) d=gq b (l.bz.len-d.length) ((L.drop (64*k)).take 64):=by unfold mH;rw[e2]
  have hp:Aw k (b,l,L) d:=⟨h4,h5,by omega,by omega,by simp only;omega,h7,by omega,by simp only;omega,h9⟩;obtain⟨o1,o2,o3,o4⟩:=J7 (b:=b) (left:=l.bz.len-d.length) (sum:=(L.drop (64*k)).take 64) h4 (by omega);rw[jW];generalize hx:gq b (l.bz.len-d.length) ((L.drop (64*k)).take 64)=x at*
  by_cases c:x.1=0
  ·rw[if_neg (by simpa using c)];refine .go (y:=(n,((k+1:Nat):Int),(x.2.1,l,L),d++x.2.2)) ?_ ?_
   ·simp only[DY,e1,ea,dP,ir,aq,au,c];exact⟨hp,fun _=>by rw[ao (by omega) (by omega)];rfl,fun h=>absurd rfl h⟩
   ·apply ih<;>first|assumption|omega|(rw[List.length_append];omega)
  ·rw[if_pos c];refine .stop ?_;simp only[DY,e1,ea,dP,ir,aq,au];simp[c];exact hp
theorem acO(ks:List (List Int))(fl rm:Int)(j':List Int×cK):∀x:DW,Ex Tryz.prog ((EJ).wr (j',())) (.loop (aO f47 0)) (DX.wr x) (UD x):=
 cy mixed ((aj Yx (aj Yz (aj YB (aj YD ax))))) (ws:=al3) (aH.nil _) (fun x_=>Uz ks fl rm j' x_.1 x_.2.1 x_.2.2.1 x_.2.2.2) (fun z=>by cases z<;>(intro e;cases e)) xy (fun x_ h=>al4 x_.1 x_.2.1 x_.2.2.1 x_.2.2.2 h)
def gT(ks:List (List Int))(fl:Int)(rm:Int)(j:List Int×cK):cK:=(aw ks fl rm j.fst).snd.snd
def kN(ks:List (List Int))(fl:Int)(rm:Int)(j:List Int×cK):Int×List Int×List Int:=jW (Int.toNat ((aw ks
 fl rm j.fst).snd.snd.blocks-0)) 0 (cr (aw ks fl rm j.fst).snd.fst (gT ks fl rm j)).snd.snd (aw ks fl rm j.fst).snd.snd.bz.len (cr
 (aw ks fl rm j.fst).snd.fst (gT ks fl rm j)).snd.fst []
abbrev YG:Type:=Int×(List Int×cK×List Int)×(List Int)
abbrev auD(x:YG):LV:=LV.one (VV.sc (SV.int i64 (SI.sym x.1)))
abbrev auE(x:YG):List (Nat×Ev.Item):= [(0,jJ2.wr x.2.1),(1,Item.own 0 (Ty.int IntKind.u8) x.2.2)]
def al5(ks:List (List Int))(fl:Int)(rm:Int)(j:List Int×cK):Tr (YG):=(.need (Au ks fl rm j) (.ite ((aw ks
 fl rm j.fst).fst !=0) (.ret ((aw ks fl rm j.fst).fst,((aw ks fl rm j.fst).snd.fst,(aw ks fl rm j.fst).snd.snd,[]),[])) (.need (Av
 ((aw ks fl rm j.fst).snd.fst,gT ks fl rm j)) (.ite ((cr (aw ks fl rm j.fst).snd.fst (gT ks fl rm j)).fst !=0) (.ret ((cr
 (aw ks fl rm j.fst).snd.fst (gT ks fl rm j)).fst,((cr (aw ks fl rm j.fst).snd.fst (gT ks fl rm j)).snd.fst,(aw ks fl rm
 j.fst).snd.snd,(cr (aw ks fl rm j.fst).snd.fst (gT ks fl rm j)).snd.snd),[])) (.need (wU (aw ks fl rm j.fst).snd.snd.blocks 0
 ((cr (aw ks fl rm j.fst).snd.fst (gT ks fl rm j)).snd.fst,gT ks fl rm j,(cr (aw ks fl rm j.fst).snd.fst (gT ks fl rm
 j)).snd.snd) []) (.ite (decide ¬(kN ks fl rm j).fst=0) (.ret ((kN ks fl rm j).fst,((kN ks fl rm j).snd.fst,(aw ks fl rm
 j.fst).snd.snd,(cr (aw ks fl rm j.fst).snd.fst (gT ks fl rm j)).snd.snd),(kN ks fl rm j).snd.snd)) (.need (Ax ((kN ks fl rm
 j).snd.fst,gT ks fl rm j,(cr (aw ks fl rm j.fst).snd.fst (gT ks fl rm j)).snd.snd) (kN ks fl rm j).snd.snd) (.ret (wT (gT ks
 fl rm j) (kN ks fl rm j).snd.fst (kN ks fl rm j).snd.snd,((kN ks fl rm j).snd.fst,(aw ks fl rm j.fst).snd.snd,(cr (aw ks fl
 rm j.fst).snd.fst (gT ks fl rm j)).snd.snd),(kN ks fl rm j).snd.snd)))))))))
theorem acP(ks:List (List Int))(fl rm:Int)(j:List Int×cK):aG Tryz.prog [(96,alQ),(97,alU),(98,alY),(99,al2)] [(0,bZ DX ((EJ).wr (j,())) Uy (UD))] f47 ((jfA).wr (ks,fl,rm,())) ((EJ).wr (j,())) [.eT 0 10 u8,.aW 0 [.al,.sym,.sym,.sym,.sym,.sym,.al,.al,.al,.rd false u8],.fr [.sym],.syms,.auto,.aE]=(al5 ks fl rm j).end auD auE ((EJ).wr (j,())):=by kernel_rfl
theorem al6(ks:List (List Int))(fl rm:Int)(j:List Int×cK):aH Tryz.prog ((EJ).wr (j,())) [(0,bZ DX ((EJ).wr (j,())) Uy (UD))] (aF f47):=(aH.bK (js (by kernel_rfl) (bP (hp:=(EJ).wr (j,())) (acO ks fl rm j)) jt))
abbrev Ay(ks:List (List Int))(fl rm:Int)(j:List Int×cK):Prop:=ay j.1∧j.1.length<1099511627776∧Ux ks∧j.2=dW
abbrev al7(ks:List (List Int))(fl rm:Int)(j:List Int×cK):YG:=((fk ks fl rm j.1).1,((fk ks fl rm j.1).2.1,(fk ks fl rm j.1).2.2.1,(fk ks fl rm j.1).2.2.2.1),(fk ks fl rm j.1).2.2.2.2)
def auF:an:=cv [] (jfA) (EJ) (fun x_ y_=>Ay x_.1 x_.2.1 x_.2.2.1 y_.1) (fun x_ y_=>al7 x_.1 x_.2.1 x_.2.2.1 y_.1) auD auE
theorem aro(ks:List (List Int))(fl rm:Int)(j:List Int×cK)(h_:Ay ks fl rm j):(al5 ks fl rm j).Is (al7 ks fl rm j):=by
 delta al7;obtain⟨b,l⟩:=j;have p0:Au ks fl rm (b,l):=h_;obtain⟨h1,h2,h3,rfl⟩:=h_;obtain⟨f1,f2,f3⟩:=si (ks:=ks) (fl:=fl) (rm:=rm) h1;have e0:gT ks fl rm (b,dW)=(aw ks fl rm b).2.2:=rfl;simp only[al5,ir,aq,au,e0,fk];refine⟨p0,?_⟩;generalize hf:aw ks fl rm b=f at*;have p1:Av (f.2.1,f.2.2):=⟨by simp only at*;omega,f3.1,f3.2.1⟩;obtain⟨s1,s2,s3⟩:=OQ (b:=f.2.1) (l:=f.2.2) f1 f3.1;have e1:kN ks fl rm (b,dW)=jW f.2.2.blocks.toNat 0 (cr f.2.1 f.2.2).2.2 f.2.2.bz.len (cr f.2.1 f.2.2).2.1 []:=by unfold kN;rw[e0,hf,Int.sub_zero]
 rw[e1];generalize cr f.2.1 f.2.2=x at*;obtain⟨r1,r2,r3⟩:=As f.2.2.blocks.toNat 0 x.2.2 f.2.2.bz.len x.2.1 [] s1 (by simp only[List.length_nil];omega)
 by_cases c1:f.1=0
 ·by_cases c2:x.1=0
  ·have s4:=s3 c2;simp only at h2 f2;have p2:wU f.2.2.blocks 0 (x.2.1,f.2.2,x.2.2) []:=⟨by omega,by omega,by omega,s1,by simp only;omega,by simp only;omega,by simp only;omega,by simp only[List.length_nil];omega,by simp only;omega⟩;generalize jW f.2.2.blocks.toNat 0 x.2.2 f.2.2.bz.len x.2.1 []=y at*;have p3:Ax (y.2.1,f.2.2,x.2.2) y.2.2:=by show _<_;omega
   by_cases c3:y.1=0
   ·simp[c1,c2,c3,bE,au,aq];exact⟨p1,p2,p3⟩
   ·simp[c1,c2,c3,bE,au,aq];exact⟨p1,p2⟩
  ·simp[c1,c2];exact p1
 ·simp[c1]
theorem arp:auF.Ok Tryz.prog 47:=
 br mixed ((aj Yx (aj Yz (aj YB (aj YD ax))))) func47 (by kernel_rfl) call47 (fun x_ y_=>al6 x_.1 x_.2.1 x_.2.2.1 y_.1) (fun x_ y_=>acP x_.1 x_.2.1 x_.2.2.1 y_.1) (fun x_ y_ h=>aro x_.1 x_.2.1 x_.2.2.1 y_.1 h)
abbrev cVd:aM (List SV) Vd:=(ae (aA .i64) (Gd (ae (fh true false u8) (ae (so u8 64) ag)))).kE (fun x=>⟨x.1,⟨x.2.1,x.2.2.1,⟨x.2.2.2.1,x.2.2.2.2.1,x.2.2.2.2.2.1,x.2.2.2.2.2.2.1,x.2.2.2.2.2.2.2.1⟩,x.2.2.2.2.2.2.2.2.1⟩,x.2.2.2.2.2.2.2.2.2.1,x.2.2.2.2.2.2.2.2.2.2.1⟩) (fun y=>(y.err,y.lD.key,y.lD.blocks,y.lD.bz.ver,y.lD.bz.lh,y.lD.bz.len,y.lD.bz.list,y.lD.bz.plain,y.lD.sign,y.data,y.mea,())) (fun _=>rfl)
abbrev DZ:aM (List LV) (List (List Int)×Int×Int×List Int×Unit):=ae (ah (fh false false (.arr u8 32))) (ae (ah (aA .u64)) (ae (ah (aA .i64)) (ae (ah (fh false false u8)) ag)))
def Kj(ks:List (List Int))(fl:Int)(rm:Int)(b:List Int):List Int:= [lZ (fk ks fl rm b).snd.snd.fst.bz.ver (fk ks
 fl rm b).snd.snd.fst.bz.lh (fk ks fl rm b).snd.snd.fst.bz.len (fk ks fl rm b).snd.snd.fst.bz.list (fk ks fl rm b).snd.snd.fst.bz.plain,
 (fk ks fl rm b).snd.snd.snd.snd].flatten
abbrev YH:Type:=Int×Int×Int×Int×Int×Int×(List Int)×(List Int)×(List Int)×(List Int)×(List Int)
abbrev auG(x:YH):LV:=LV.one (VV.agg [SV.int i64 (SI.sym x.1),SV.int i64 (SI.sym x.2.1),SV.int i64
 (SI.sym x.2.2.1),SV.int u64 (SI.sym x.2.2.2.1),SV.int u64 (SI.sym x.2.2.2.2.1),SV.int i64 (SI.sym x.2.2.2.2.2.1),SV.arr
 (Ty.int IntKind.u8) 64 x.2.2.2.2.2.2.1,SV.arr (Ty.int IntKind.u8) 64 x.2.2.2.2.2.2.2.1,SV.arr (Ty.int IntKind.u8) 64 x.2.2.2.2.2.2.2.2.1,SV.rd true
 false (Ty.int IntKind.u8) x.2.2.2.2.2.2.2.2.2.1,SV.arr (Ty.int IntKind.u8) 64 x.2.2.2.2.2.2.2.2.2.2])
abbrev auH(x:YH):List (Nat×Ev.Item):= []
def al8(ks:List (List Int))(fl:Int)(rm:Int)(b:List Int):Tr (YH):=(.need (Ay ks fl rm (b,{key:=0,blocks:=0,bz:= {ver:=0,lh:=0,len:=0,list:=List.replicate 64 (0:Int),plain:=List.replicate 64 (0:Int)},sign:=List.replicate 64 (0:Int)}))
 (.ite ((fk ks fl rm b).fst !=0) (.ret ((fk ks fl rm b).fst,0,0,0,0,0,List.replicate 64 (0:Int),List.replicate 64 (0:Int),
 List.replicate 64 (0:Int),[],List.replicate 64 (0:Int))) (.need (0≤(fk ks fl rm b).snd.snd.fst.bz.ver∧(fk ks fl rm
 b).snd.snd.fst.bz.ver<18446744073709551616∧0≤(fk ks fl rm b).snd.snd.fst.bz.lh∧(fk ks fl rm b).snd.snd.fst.bz.lh<
 18446744073709551616) (.need (2<2305843009213693952∧(Kj ks fl rm b).length<1152921504606846976) (.ret (0,(fk ks fl rm b).snd.snd.fst.key,
 (fk ks fl rm b).snd.snd.fst.blocks,(fk ks fl rm b).snd.snd.fst.bz.ver,(fk ks fl rm b).snd.snd.fst.bz.lh,(fk ks fl rm
 b).snd.snd.fst.bz.len,(fk ks fl rm b).snd.snd.fst.bz.list,(fk ks fl rm b).snd.snd.fst.bz.plain,(fk ks fl rm b).snd.snd.fst.sign,(fk ks
 fl rm b).snd.snd.snd.snd,gp (Kj ks fl rm b)))))))
theorem acQ(ks:List (List Int))(fl rm:Int)(b:List Int):aG Tryz.prog [(47,auF),(23,ahP),(22,alu)] [] f17 ((DZ).wr (ks,fl,rm,b,())) ((ag).wr (())) [.Ll,.fr [.rd true u8],.fr [.sym],.syms,.auto,.aE]=(al8 ks fl rm b).end auG auH ((ag).wr (())):=by kernel_rfl
theorem al9(ks:List (List Int))(fl rm:Int)(b:List Int):aH Tryz.prog ((ag).wr (())) [] (aF f17):=(aH.nil _)
theorem D0(c v s:Int)(a b:List Int):(lZ c v s a b).length≤152:=by
 unfold lZ
 split
 ·simp only[List.length_append,List.length_take,ft];omega
 ·simp
abbrev wV(ks:List (List Int))(fl rm:Int)(b:List Int):Prop:=ay b∧b.length<1099511627776∧Ux ks
abbrev ama(ks:List (List Int))(fl rm:Int)(b:List Int):YH:=vdT (OR ks fl rm b)
def amb:an:=cv [some (.arr u8 32),none,none,some u8] (DZ) (ag) (fun x_ y_=>wV x_.1 x_.2.1 x_.2.2.1 x_.2.2.2.1) (fun x_ y_=>ama x_.1 x_.2.1 x_.2.2.1 x_.2.2.2.1) auG auH
theorem arq(ks:List (List Int))(fl rm:Int)(b:List Int)(h_:wV ks fl rm b):(al8 ks fl rm b).Is (ama ks fl rm b):=by
 delta ama;obtain⟨h1,h2,h3⟩:=h_;have p0:Ay ks fl rm (b,dW):=⟨h1,h2,h3,rfl⟩;obtain⟨k1,k2⟩:=Yo (ks:=ks) (fl:=fl) (rm:=rm) h1
 have e0:Kj ks fl rm b=lZ (fk ks fl rm b).2.2.1.bz.ver (fk ks fl rm b).2.2.1.bz.lh (fk ks fl rm b).2.2.1.bz.len (fk ks fl rm b).2.2.1.bz.list (fk ks fl rm b).2.2.1.bz.plain++(fk ks fl rm b).2.2.2.2:=by
  unfold Kj;rw[List.flatten_cons,List.flatten_cons,List.flatten_nil,List.append_nil]
 simp only[al8,ir,aq,au,OR,e0];generalize fk ks fl rm b=x at*;have hm:=D0 x.2.2.1.bz.ver x.2.2.1.bz.lh x.2.2.1.bz.len x.2.2.1.bz.list x.2.2.1.bz.plain;refine⟨p0,fun c=>⟨k1,⟨by decide,by rw[List.length_append];omega⟩,?_⟩,fun c=>?_⟩
 ·rw[if_neg (by simpa using c)];rfl
 ·rw[if_pos c];rfl
theorem YI:amb.Ok Tryz.prog 17:=
 br mixed ((aj arp (aj avU (aj J8 ax)))) func17 (by kernel_rfl) call17 (fun x_ y_=>al9 x_.1 x_.2.1 x_.2.2.1 x_.2.2.2.1) (fun x_ y_=>acQ x_.1 x_.2.1 x_.2.2.1 x_.2.2.2.1) (fun x_ y_ h=>arq x_.1 x_.2.1 x_.2.2.1 x_.2.2.2.1 h)
abbrev Kk:Type:=Int
abbrev amc(x:Kk):LV:=LV.one (VV.sc (SV.int i64 (SI.sym x)))
abbrev amd(x:Kk):List (Nat×Ev.Item):= []
def ame(e:Int):Tr (Kk):=(.ret (e))
theorem UE(e:Int):aG Tryz.prog [] [] f20 ((inA).wr (e,())) ((ag).wr (())) [.fr [.sym],.syms,.auto,.aE]=(ame e).end amc amd ((ag).wr (())):=by kernel_rfl
theorem acR(e:Int):aH Tryz.prog ((ag).wr (())) [] (aF f20):=(aH.nil _)
abbrev D1(e:Int):Prop:=True
abbrev UF(e:Int):Kk:=e
def amf:an:=cv [] (inA) (ag) (fun x_ y_=>D1 x_.1) (fun x_ y_=>UF x_.1) amc amd
theorem amg(e:Int)(h_:D1 e):(ame e).Is (UF e):=by
 delta UF;exact rfl
theorem amh:amf.Ok Tryz.prog 20:=
 br mixed ax func20 (by kernel_rfl) call20 (fun x_ y_=>acR x_.1) (fun x_ y_=>UE x_.1) (fun x_ y_ h=>amg x_.1 h)
abbrev wW:Type:=Bool
abbrev OS(x:wW):LV:=LV.one (VV.sc (SV.bool (SB.sym x)))
abbrev OT(x:wW):List (Nat×Ev.Item):= []
def OU:Tr (wW):=(.need (wV [] 0 0 []) (.need (D1 16) (.ite (((16:Int)==16)==true) (.ret ((0:Int)==
 0)) (.ret (false)))))
theorem Kl:aG Tryz.prog [(17,amb),(20,amf)] [] f15 ((ag).wr (())) ((ag).wr (())) [.fr [.sym],.syms,.auto,.aE]=(OU).end OS OT ((ag).wr (())):=by kernel_rfl
theorem OV:aH Tryz.prog ((ag).wr (())) [] (aF f15):=(aH.nil _)
abbrev tK:Prop:=True
abbrev D2:wW:=true
def OW:an:=cv [] (ag) (ag) (fun _ _=>tK) (fun _ _=>D2) OS OT
theorem UG(h_:tK):(OU).Is (D2):=by
 delta D2;have p0:wV [] 0 0 []:=⟨ay.nil,by decide,fun k h=>by simp at h⟩;exact⟨p0,trivial,fun _=>rfl,fun h=>by cases h⟩
theorem UH:OW.Ok Tryz.prog 15:=
 br mixed ((aj YI (aj amh ax))) func15 (by kernel_rfl) call15 (fun x_ y_=>OV) (fun x_ y_=>Kl) (fun x_ y_ h=>UG h)
end Go.Proofs.YtnbkagglkajbkaaGreat
end
noncomputable section
namespace Go.Proofs.YtnbkagglkajbkaaGreat
open Go Go.Ev BJ Go.Proofs.Tryz
open Go.IntKind (i64 signed u16 u64 wrap)
set_option maxRecDepth 1000000
theorem UI{x y:Int}{l m:List Int}(hx:By x)(hy:By y)(h:cV (x::l) (y::m)=true):x=y:=by
 unfold cV at h;have h:=beq_iff_eq.1 h
 have e:∀ (z:Int) (r:List Int),(strOf (z::r)).toList.head?=some (UInt8.ofNat z.toNat):=fun z r=>by
  rw[show(strOf (z::r)).toList=(z::r).map fun n=>UInt8.ofNat n.toNat from by simp[strOf,ByteArray.toList_eq]];rfl
 have h1:=congrArg List.head? h;rw[e,e]at h1;have h2:=congrArg UInt8.toNat (Option.some.inj h1);unfold By at hx hy;rw[UInt8.toNat_ofNat',UInt8.toNat_ofNat']at h2;omega
abbrev tP:aM LV Fn:=zh (ju .i64 16)
abbrev KG:aM (List LV) (Fn×Unit):=ae tP ag
abbrev sB:aM (List LV) (Fn×Fn×Unit):=ae tP (ae tP ag)
abbrev D3(r:Fn×Bool):LV:=.cj [.agg ((ju .i64 16).wr r.1),.sc (.bool (.sym r.2))]
def UJ(c:Fn):an:=an.cl [] ag ag fun _ _=>.leaf none (tP.wr c) []
def oY(g:Fn→Fn):an:=an.cl [] KG ag fun x _=>.leaf none (tP.wr (g x.1)) []
def lq(g:Fn→Fn→Fn):an:=an.cl [] sB ag fun x _=>.leaf none (tP.wr (g x.1 x.2.1)) []
def UK(g:Fn→Bool):an:=an.cl [] KG ag fun x _=>.leaf none (nB (g x.1)) []
def ars(g:Fn→Fn→Bool):an:=an.cl [] sB ag fun x _=>.leaf none (nB (g x.1 x.2.1)) []
def D4(g:Fn→Fn×Bool):an:=an.cl [] KG ag fun x _=>.leaf none (D3 (g x.1)) []
def art(g:Fn→Fn→Fn×Bool):an:=an.cl [] sB ag fun x _=>.leaf none (D3 (g x.1 x.2.1)) []
def eNF(g:List Int→Fn):an:=an.cl [] kL ag fun x _=>.leaf none (tP.wr (g x.1)) []
def Ge(g:Int→Fn):an:=an.cl [] TZ ag fun x _=>.leaf none (tP.wr (g x.1)) []
def eNY(g:Fn→List Int):an:=an.cl [] KG ag fun x _=>.leaf none (dO .u8 32 (g x.1)) []
def eNC(g:List Int→Bool):an:=an.cl [] kL ag fun x _=>.leaf (some (x.1.length=32)) (nB (g x.1)) []
abbrev aru:an:=UJ dQ
theorem OX:aG Tryz.prog [] [] f313 ((ag).wr ()) [] kK= .leaf (tP.wr dQ) []:=by kernel_rfl
theorem OY:∀p_∈([]:List (FuncId×an)),p_.2.Ok Tryz.prog p_.1:=ax
theorem Gf:aru.Ok Tryz.prog 313:=by
 refine(an.aN call313 fun x_ y_ Q H_=>?_).sym;have hq:=H_.2;refine(ar (tab:= []) mixed OY func313 rfl (LT:= []) (ks:=kK) (aH.nil _)).use (D:= []) ?_ hq;show(aG _ _ _ _ ((ag).wr ()) [] _).sat _;rw[OX];exact⟨rfl,rfl⟩
def yB(a b:Fn):Nat→Ev.End
 |0=>.leaf (nB false) []
 |k+1=>.ite (a.get k !=b.get k) (.leaf (nB (decide (a.get k<b.get k))) []) (yB a b k)
theorem Gg(a b:Fn):∀k,(yB a b k).sat fun v dB=>v=nB (jh a b k)∧dB= []
 |0=>⟨rfl,rfl⟩
 |k+1=>by
  refine⟨fun h=>⟨?_,rfl⟩,fun h=>?_⟩
  ·rw[jh,h];rfl
  ·rw[jh,h];exact Gg a b k
abbrev arv:an:=ars wM
theorem OZ(a b:Fn):aG Tryz.prog [] [] f312 ((sB).wr (a,b,())) [] kK=yB a b 16:=by kernel_rfl
theorem O0:∀p_∈([]:List (FuncId×an)),p_.2.Ok Tryz.prog p_.1:=ax
theorem acS:arv.Ok Tryz.prog 312:=by
 refine(an.aN call312 fun x_ y_ Q H_=>?_).sym;obtain⟨a,b,_⟩:=x_;have hq:=H_.2;refine(ar (tab:= []) mixed O0 func312 rfl (LT:= []) (ks:=kK) (aH.nil _)).use (D:= []) ?_ hq;show(aG _ _ _ _ ((sB).wr (a,b,())) [] _).sat _;rw[OZ];exact Gg a b 16
def Gh(t:Fn):Fn:=cF (eK (cF (eK (cF (eK (cF (eK (cF t))))))))
theorem ami{b:Bool}{u v x:Fn}(h:x=cZ b u v):(Ev.End.ite b (.leaf (tP.wr u) []) (.leaf (tP.wr v) [])).sat fun v dB=>v=tP.wr x∧dB= []:=by
 subst h;rw[bG]
 cases b
 ·exact⟨fun h=>(by cases h),fun _=>⟨rfl,rfl⟩⟩
 ·exact⟨fun _=>⟨rfl,rfl⟩,fun h=>(by cases h)⟩
theorem D5{u x:Fn}(h:x=u):(Ev.End.leaf (tP.wr u) []).sat fun v dB=>v=tP.wr x∧dB= []:=by subst h;exact⟨rfl,rfl⟩
theorem norm_eq(t:Fn):dK t=cZ (!(wM (Gh t) dQ)) (cF (Vec.zip (fun a b=>w (a-b)) (Gh t) dQ)) (Gh t):=by unfold dK at5;rfl
abbrev axL:an:=oY dK
theorem UL(p:Fn)(bel:Fn→Fn→Bool)(t:Fn):aG Tryz.prog [(313,UJ p),(312,ars bel)] [] f283 ((KG).wr (t,())) [] kK= .ite (!(bel (Gh t) p)) (.leaf (tP.wr (cF (Vec.zip (fun a b=>w (a-b)) (Gh t) p))) []) (.leaf (tP.wr (Gh t)) []):=by kernel_rfl
theorem UM:∀p_∈([(313,UJ dQ),(312,ars wM)]:List (FuncId×an)),p_.2.Ok Tryz.prog p_.1:=(aj Gf (aj acS ax))
theorem wX:axL.Ok Tryz.prog 283:=by
 refine(an.aN call283 fun x_ y_ Q H_=>?_).sym;obtain⟨t,_⟩:=x_;have hq:=H_.2;refine(ar (tab:= [(313,UJ dQ),(312,ars wM)]) mixed UM func283 rfl (LT:= []) (ks:=kK) (aH.nil _)).use (D:= []) ?_ hq;show(aG _ _ _ _ ((KG).wr (t,())) [] _).sat _;rw[UL dQ wM];exact ami (norm_eq t)
def gU(b:List Int):Fn:=yp (kP b)
theorem acT(b:List Int):gU b=ajK dK (kP b):=by unfold gU yp;rfl
abbrev axM:an:=eNF gU
theorem UN(norm:Fn→Fn)(b:List Int):aG Tryz.prog [(283,oY norm)] [] f300 ((kL).wr (b,())) [] kK= .leaf (tP.wr (ajK norm (kP b))) []:=by kernel_rfl
theorem UO:∀p_∈([(283,oY dK)]:List (FuncId×an)),p_.2.Ok Tryz.prog p_.1:=(aj wX ax)
theorem O1:axM.Ok Tryz.prog 300:=by
 refine(an.aN call300 fun x_ y_ Q H_=>?_).sym;obtain⟨b,_⟩:=x_;have hq:=H_.2;refine(ar (tab:= [(283,oY dK)]) mixed UO func300 rfl (LT:= []) (ks:=kK) (aH.nil _)).use (D:= []) ?_ hq;show(aG _ _ _ _ ((kL).wr (b,())) [] _).sat _;rw[UN dK];exact D5 (acT b)
abbrev arw:an:=Ge bt
theorem O2(n:Int):aG Tryz.prog [] [] f223 ((TZ).wr (n,())) [] kK= .leaf (tP.wr (bt n)) []:=by kernel_rfl
theorem O3:∀p_∈([]:List (FuncId×an)),p_.2.Ok Tryz.prog p_.1:=ax
theorem jX:arw.Ok Tryz.prog 223:=by
 refine(an.aN call223 fun x_ y_ Q H_=>?_).sym;obtain⟨n,_⟩:=x_;have hq:=H_.2;refine(ar (tab:= []) mixed O3 func223 rfl (LT:= []) (ks:=kK) (aH.nil _)).use (D:= []) ?_ hq;show(aG _ _ _ _ ((TZ).wr (n,())) [] _).sat _;rw[O2];exact⟨rfl,rfl⟩
def im(x:Fn):List Int:=(oK x).toList
abbrev arx:an:=eNY im
theorem O4(x:Fn):aG Tryz.prog [] [] f215 ((KG).wr (x,())) [] kR= .leaf (dO .u8 32 (oK x).toList) []:=by kernel_rfl
theorem O5:∀p_∈([]:List (FuncId×an)),p_.2.Ok Tryz.prog p_.1:=ax
theorem Gi:arx.Ok Tryz.prog 215:=by
 refine(an.aN call215 fun x_ y_ Q H_=>?_).sym;obtain⟨x,_⟩:=x_;have hq:=H_.2;refine(ar (tab:= []) mixed O5 func215 rfl (LT:= []) (ks:=kR) (aH.nil _)).use (D:= []) ?_ hq;show(aG _ _ _ _ ((KG).wr (x,())) [] _).sat _;rw[O4];exact⟨rfl,rfl⟩
def iL(b:List Int):Bool:=iK (kP b)
abbrev ary:an:=eNC iL
theorem O6(ku:List Int→Fn)(bytes:Fn→List Int)(b:List Int):aG Tryz.prog [(300,eNF ku),(215,eNY bytes)] [] f299 ((kL).wr (b,())) [] kK= .leaf (nB (decide (bytes (ku (b.set 31 (aI .u8 (b.getD 31 0) 127)))=b.set 31 (aI .u8 (b.getD 31 0) 127)))) []:=by kernel_rfl
theorem O7:∀p_∈([(300,eNF gU),(215,eNY im)]:List (FuncId×an)),p_.2.Ok Tryz.prog p_.1:=(aj O1 (aj Gi ax))
theorem acU:ary.Ok Tryz.prog 299:=by
 refine(an.aN call299 fun x_ y_ Q H_=>?_).sym;obtain⟨b,_⟩:=x_;obtain⟨hn,hq⟩:=H_;have hn:b.length=32:=hn;refine(ar (tab:= [(300,eNF gU),(215,eNY im)]) mixed O7 func299 rfl (LT:= []) (ks:=kK) (aH.nil _)).use (D:= []) ?_ hq;show(aG _ _ _ _ ((kL).wr (b,())) [] _).sat _;rw[O6 gU im];have e:=JJ hn (k:=31) (by omega) (fun x=>aI .u8 x 127);unfold gU im iL;rw[e];rw[show b.set 31 (aI .u8 (b.getD 31 0) 127)=(kP (b.set 31 (aI .u8 (b.getD 31 0) 127))).toList from(iv (by simpa using hn)).symm,JI,e];exact⟨rfl,rfl⟩
theorem arz(x y:Fn):fW x y=awJ dK x y:=by unfold fW;rfl
abbrev aCB:an:=lq fW
theorem acV(norm:Fn→Fn)(x y:Fn):aG Tryz.prog [(283,oY norm)] [] f218 ((sB).wr (x,y,())) [] kK= .leaf (tP.wr (awJ norm x y)) []:=by kernel_rfl
theorem acW:∀p_∈([(283,oY dK)]:List (FuncId×an)),p_.2.Ok Tryz.prog p_.1:=(aj wX ax)
theorem Az:aCB.Ok Tryz.prog 218:=by
 refine(an.aN call218 fun x_ y_ Q H_=>?_).sym;obtain⟨x,y,_⟩:=x_;have hq:=H_.2;refine(ar (tab:= [(283,oY dK)]) mixed acW func218 rfl (LT:= []) (ks:=kK) (aH.nil _)).use (D:= []) ?_ hq;show(aG _ _ _ _ ((sB).wr (x,y,())) [] _).sat _;rw[acV dK];exact D5 (arz x y)
theorem arA(x y:Fn):ji x y=awK dQ dK x y:=by unfold ji;rfl
abbrev aCC:an:=lq ji
theorem acX(p:Fn)(norm:Fn→Fn)(x y:Fn):aG Tryz.prog [(313,UJ p),(283,oY norm)] [] f285 ((sB).wr (x,y,())) [] kK= .leaf (tP.wr (awK p norm x y)) []:=by kernel_rfl
theorem acY:∀p_∈([(313,UJ dQ),(283,oY dK)]:List (FuncId×an)),p_.2.Ok Tryz.prog p_.1:=(aj Gf (aj wX ax))
theorem Km:aCC.Ok Tryz.prog 285:=by
 refine(an.aN call285 fun x_ y_ Q H_=>?_).sym;obtain⟨x,y,_⟩:=x_;have hq:=H_.2;refine(ar (tab:= [(313,UJ dQ),(283,oY dK)]) mixed acY func285 rfl (LT:= []) (ks:=kK) (aH.nil _)).use (D:= []) ?_ hq;show(aG _ _ _ _ ((sB).wr (x,y,())) [] _).sat _;rw[acX dQ dK];exact D5 (arA x y)
theorem arB(x y:Fn):a8 x y=awL dK x y:=by unfold a8;rfl
abbrev aCD:an:=lq a8
theorem acZ(norm:Fn→Fn)(x y:Fn):aG Tryz.prog [(283,oY norm)] [] f216 ((sB).wr (x,y,())) [] kK= .leaf (tP.wr (awL norm x y)) []:=by kernel_rfl
theorem ac0:∀p_∈([(283,oY dK)]:List (FuncId×an)),p_.2.Ok Tryz.prog p_.1:=(aj wX ax)
theorem j5:aCD.Ok Tryz.prog 216:=by
 refine(an.aN call216 fun x_ y_ Q H_=>?_).sym;obtain⟨x,y,_⟩:=x_;have hq:=H_.2;refine(ar (tab:= [(283,oY dK)]) mixed ac0 func216 rfl (LT:= []) (ks:=kK) (aH.nil _)).use (D:= []) ?_ hq;show(aG _ _ _ _ ((sB).wr (x,y,())) [] _).sat _;rw[acZ dK];exact D5 (arB x y)
theorem arC(x:Fn):fc x=ji cw x:=by unfold fc;rfl
abbrev aCE:an:=oY fc
theorem ac1(sub:Fn→Fn→Fn)(x:Fn):aG Tryz.prog [(285,lq sub)] [] f284 ((KG).wr (x,())) [] kK= .leaf (tP.wr (sub cw x)) []:=by kernel_rfl
theorem ac2:∀p_∈([(285,lq ji)]:List (FuncId×an)),p_.2.Ok Tryz.prog p_.1:=(aj Km ax)
theorem AA:aCE.Ok Tryz.prog 284:=by
 refine(an.aN call284 fun x_ y_ Q H_=>?_).sym;obtain⟨x,_⟩:=x_;have hq:=H_.2;refine(ar (tab:= [(285,lq ji)]) mixed ac2 func284 rfl (LT:= []) (ks:=kK) (aH.nil _)).use (D:= []) ?_ hq;show(aG _ _ _ _ ((KG).wr (x,())) [] _).sat _;rw[ac1 ji];exact D5 (arC x)
abbrev aCF:an:=UK sx
theorem ac3(x:Fn):aG Tryz.prog [] [] f217 ((KG).wr (x,())) [] kK= .leaf (nB (sx x)) []:=by kernel_rfl
theorem ac4:∀p_∈([]:List (FuncId×an)),p_.2.Ok Tryz.prog p_.1:=ax
theorem YJ:aCF.Ok Tryz.prog 217:=by
 refine(an.aN call217 fun x_ y_ Q H_=>?_).sym;obtain⟨x,_⟩:=x_;have hq:=H_.2;refine(ar (tab:= []) mixed ac4 func217 rfl (LT:= []) (ks:=kK) (aH.nil _)).use (D:= []) ?_ hq;show(aG _ _ _ _ ((KG).wr (x,())) [] _).sat _;rw[ac3];exact⟨rfl,rfl⟩
def fg(a:List Int)(i:Int):Int:=mU (kP a) i.toNat
def auI:an:=an.cl [] (biA) (ag) fun x_ y_=>(fun(a:List Int) (i:Int)=>.leaf (some (a.length=32∧0≤i∧i<256)) (nI (fg a i)) []) x_.1 x_.2.1
theorem ac5(a:List Int)(i:Int):aG Tryz.prog [] [] f222 ((biA).wr (a,i,())) ((ag).wr ()) [.fr [.sym],.auto]=
 End.ite (decide (i<(0:Int))==false) (End.ite (decide ((255:Int)<i)) (End.leaf (LV.one (VV.sc (SV.int i64 (SI.sym (0:Int))))) [])
 (End.need ((0:Int)≤i64.wrap (i.tdiv (8:Int))∧i64.wrap (i.tdiv (8:Int))<(32:Int)) (End.need ((0:Int)≤u64.wrap
 (i.tmod (8:Int))) (End.leaf (LV.one (VV.sc (SV.int i64 (SI.sym (aI i64 (i64.wrap (shr IntKind.u8 ((List.take (32:Nat)
 (List.drop (0:Nat) a)).getD (i64.wrap (i.tdiv (8:Int))).toNat (0:Int)) (u64.wrap (i.tmod (8:Int))))) (1:Int)))))) []))))
 (End.leaf (LV.one (VV.sc (SV.int i64 (SI.sym (0:Int))))) []):=by kernel_rfl
theorem arD:auI.Ok Tryz.prog 222:=by
 refine(an.aN call222 fun x_ y_ Q H_=>?_).sym;obtain⟨a,i,_⟩:=x_;obtain⟨hn,hq⟩:=H_;have hn:a.length=32∧0≤i∧i<256:=hn;refine(ar mixed ax func222 rfl (LT:= []) (ks:= [.fr [.sym],.auto]) (aH.nil _)).use (D:= []) ?_ hq;show(aG _ _ _ _ ((biA).wr (a,i,())) ((ag).wr ()) _).sat _;rw[ac5];obtain⟨ha,h0,h1⟩:=hn;obtain⟨k,rfl⟩:=Int.eq_ofNat_of_zero_le h0;have hk:k<256:=by omega
 have e1:i64.wrap ((k:Int).tdiv 8)=((k/8:Nat):Int):=fP k 8 (by omega);have e2:u64.wrap ((k:Int).tmod 8)=((k%8:Nat):Int):=by rw[show(k:Int).tmod 8=((k%8:Nat):Int)from wR k 8,wrap_u64 (by omega) (by omega)]
 have e:fg a (k:Int)=aI .i64 (i64.wrap (shr .u8 (a.getD (k/8) 0) ((k%8:Nat):Int))) 1:=by
  unfold fg mU;rw[Int.toNat_natCast,Ap a (show k/8<32 by omega)]
 rw[e1,e2,aY ha,Int.toNat_natCast,e];refine⟨fun _=>⟨fun h=>?_,fun _=>⟨by omega,by omega,rfl,rfl⟩⟩,fun h=>?_⟩
 ·have:=of_decide_eq_true h;omega
 ·exfalso;revert h;simp
theorem arE:auI=eBi fg:=by kernel_rfl
theorem wY:(eBi fg).Ok Tryz.prog 222:=arE▸arD
abbrev ac6:Func:=f281
abbrev pwC:aM (List LV) (Int×Unit):=(jk 2 (ai (ah (aC 0 0)) (ai (ah (aC 1 0)) (ai (ah (aC 2 0)) (ai (ah (aC 3 0)) (ae (ah (aA .i64)) (jk 16 ag)))))))
abbrev aCG:Wk:=.fr (cu 23 [(2,.al),(3,.al),(4,.al),(5,.al),(6,.sym)])
abbrev pwX:aM (List LV) (Unit):=(jk 4 (ai (ah (aC 0 0)) (ai (ah (aC 1 0)) (jk 17 ag))))
abbrev iFn:aM (Option Ev.Item) Fn:=dH 220 (ju .i64 16)
abbrev pwH:aM Hp (Fn×List Int×Fn×Fn×Unit):=ae iFn (ae (gL 22 .u8 32) (ae iFn (ae iFn ag)))
abbrev axN:aM Hp (Fn×Fn×Unit):=ae iFn (ae iFn ag)
abbrev ac7(i:Nat):Wk:=.aW i (List.replicate 16 .sym)
def pwW:Exit→List Wk
 | .normal=> [aCG,ac7 2,ac7 3,.auto]
 | .exit 0=> [.fr (cu 23 [(4,.al),(5,.al)]),.auto]
 |_=> []
theorem axO(bit:List Int→Int→Int)(mul:Fn→Fn→Fn)(x r o:Fn)(e:List Int)(i:Int):cO Tryz.prog [(222,eBi bit),(216,lq mul)] [] ac6 0 [] pwW ((aS pwC pwH).wr ((i,()),(x,e,r,o,())))=
 aK.ite (decide ((0:Int)≤i)) (aK.need (e.length=(32:Nat)∧(0:Int)≤i∧i<(256:Int)) (aK.ite (bit e i==(1:Int)) (aK.leaf
 Exit.normal ((aS pwC pwH).wr ((i64.wrap (i-(1:Int)),PUnit.unit),x,e,r,mul (mul o o) x,PUnit.unit))) (aK.leaf Exit.normal ((aS pwC
 pwH).wr ((i64.wrap (i-(1:Int)),PUnit.unit),x,e,r,mul o o,PUnit.unit))))) (aK.leaf (Exit.exit (0:Nat)) ((aS pwX axN).wr
 (PUnit.unit,r,o,PUnit.unit))):=by kernel_rfl
def Kn(bit:List Int→Int→Int)(mul:Fn→Fn→Fn)(x:Fn)(e:List Int)(k:Nat)(r:Fn):Fn:=bif bit e (255-(k:Int))==1 then mul (mul r r) x else mul r r
theorem amj:∀p∈([(222,eBi fg),(216,lq a8)]:List (FuncId×an)),p.2.Ok Tryz.prog p.1:=aj wY (aj j5 ax)
abbrev pwT:Type:=(Int×Unit)×Fn×List Int×Fn×Fn×Unit
def aCH(w:Fn→List Int→Fn→Fn)(x:pwT):aK:=.need (x.1.1=255∧x.2.2.1.length=32) (.leaf (.exit 0) ((aS pwX axN).wr ((),(x.2.2.2.1,w x.2.1 x.2.2.1 x.2.2.2.2.1,()))))
theorem O8:∃f:Fn→List Int→Fn→Fn,∀ (x:Fn) (e:List Int) (o:Fn),f x e o=(gw (Kn fg a8 x e) 256 o):=⟨fun x e o=>gw (Kn fg a8 x e) 256 o,fun _ _ _=>rfl⟩
def Gj:Fn→List Int→Fn→Fn:=Classical.choose O8
theorem O9(x:Fn)(e:List Int)(o:Fn):Gj x e o=(gw (Kn fg a8 x e) 256 o):=Classical.choose_spec O8 x e o
theorem arF(x:pwT):Ex Tryz.prog [] (.loop (aO ac6 0)) ((aS pwC pwH).wr x) (aCH Gj x):=by
 obtain⟨⟨i,_⟩,x,e,r,o,_⟩:=x;refine Ex.need fun⟨h1,h2⟩=>?_;simp only at h1 h2;subst h1
 have key:=dN (fn:=ac6) (id:=0) (j:=0) (ws:=pwW) (hp:= []) mixed amj (aH.nil _) 256 (fun k o=>(aS pwC pwH).wr ((255-(k:Int),()),(x,e,r,o,()))) (fun o=>(aS pwX axN).wr ((),(r,o,()))) (Kn fg a8 x e) (fun _ _=>True)
  (fun k o R hk _ hn hx=>?_) (fun _ _ _ _=>trivial) 0 o (by omega) trivial
 ·rw[Nat.sub_zero,nP,← O9]at key;exact key
 rw[axO fg a8];refine⟨fun hb=>?_,fun hb=>?_⟩
 ·have jz:k<256:=by have:=of_decide_eq_true hb;omega
  have ob:=hn jz;have e3:i64.wrap ((255-(k:Int))-1)=255-((k+1:Nat):Int):=by rw[ao (by omega) (by omega)];omega
  rw[e3];refine⟨⟨h2,by omega,by omega⟩,fun hc=>?_,fun hc=>?_⟩
  ·have:Kn fg a8 x e k o=a8 (a8 o o) x:=(by unfold Kn;rw[hc];rfl);rw[this]at ob;exact ob
  ·have:Kn fg a8 x e k o=a8 o o:=(by unfold Kn;rw[hc];rfl);rw[this]at ob;exact ob
 ·have:k=256:=by have:=of_decide_eq_false hb;omega
  exact hx this
abbrev pwA:aM (List LV) (Fn×List Int×Unit):=ae tP (ae cB ag)
def eNW(g:Fn→List Int→Fn):an:=an.cl [] pwA ag fun x _=>.leaf (some (x.2.1.length=32)) (tP.wr (g x.1 x.2.1)) []
abbrev axQ(w:Fn→List Int→Fn→Fn):dG:= [(0,dc (aS pwC pwH) 0 [aCG,.auto,ac7 2,ac7 3] (aCH w))]
abbrev auJ(bit:List Int→Int→Int)(mul:Fn→Fn→Fn)(sm:Int→Fn):List (FuncId×an):= [(222,eBi bit),(216,lq mul),(223,Ge sm)]
theorem ac8(w:Fn→List Int→Fn→Fn)(bit:List Int→Int→Int)(mul:Fn→Fn→Fn)(sm:Int→Fn)(x:Fn)(e:List Int):aG Tryz.prog (auJ bit mul sm) (axQ w) ac6 (pwA.wr (x,e,())) [] kK=
  .need ((255:Int)=255∧e.length=32) (.leaf (tP.wr (w x e (sm 1))) []):=by kernel_rfl
theorem Pa:∃f:Fn→List Int→Fn,∀ (x:Fn) (e:List Int),f x e=(mC x (kP e)):=⟨fun x e=>mC x (kP e),fun _ _=>rfl⟩
def q6:Fn→List Int→Fn:=Classical.choose Pa
theorem Pb(x:Fn)(e:List Int):q6 x e=(mC x (kP e)):=Classical.choose_spec Pa x e
abbrev aCI:an:=eNW q6
theorem ac9(x:Fn)(e:List Int):Gj x e (bt 1)=q6 x e:=by
 rw[O9,Pb];unfold mC ajL;refine oU (fun k hk r=>?_) _ 256 (Nat.le_refl _);unfold Kn nT fg;rw[bG,show(255-(k:Int)).toNat=255-k from by omega]
theorem axR:aH Tryz.prog [] (axQ Gj) (aF ac6):=aH.bK (js rfl (bD (hp:= []) arF) jt)
theorem YK:aCI.Ok Tryz.prog 281:=by
 refine(an.aN call281 fun x_ y_ Q H_=>?_).sym;obtain⟨x,e,_⟩:=x_;obtain⟨hn,hq⟩:=H_;have hn:e.length=32:=hn;have hc:iq Tryz.prog 281 (pwA.wr (x,e,())) [] (aG Tryz.prog (auJ fg a8 bt) (axQ Gj) ac6 (pwA.wr (x,e,())) [] kK):=ar mixed (aj wY (aj j5 (aj jX ax))) func281 rfl axR;rw[ac8 Gj fg a8 bt]at hc;exact hc.use (D:= []) (show(Ev.End.need _ _).sat _ from⟨⟨rfl,hn⟩,by rw[ac9],rfl⟩) hq
def aCJ(k:IntKind)(n:Int):aM SV Unit where
 rd s:=match s with
  | .int k' (.lit m)=>if k'=k∧m=n then some ()else none
  |_=>none
 wr _:=.int k (.lit n)
 ok:=by
  intro s x h
  split at h
  ·split at h
   ·rename_i hh;rw[hh.1,hh.2]
   ·cases h
  ·cases h
abbrev onA(a h:Int):aM (List LV) Unit:=ai (ah (aCJ .i64 a)) (ai (ah (aCJ .i64 h)) ag)
def eOn(a h:Int)(c:List Int):an:=an.of [] (onA a h) ag fun _ _=>.leaf none (dO .u8 32 c) []
def UP(f:Int→Int→List Int):an:=(eOn 2 0 (f 2 0)).or ((eOn 1 3 (f 1 3)).or (eOn 1 2 (f 1 2)))
def kC(a h:Int):List Int:=if h=0 then(cf 235 127).toList else if h=3 then(cf 253 15).toList else(cf 251 31).toList
theorem amk:aG Tryz.prog [] [] f282 ((onA 2 0).wr ()) [] [.gK 0 0 32 .u8,.auto]= .leaf (dO .u8 32 (kC 2 0)) []:=by kernel_rfl
theorem aml:aG Tryz.prog [] [] f282 ((onA 1 3).wr ()) [] [.gK 0 0 32 .u8,.auto]= .leaf (dO .u8 32 (kC 1 3)) []:=by kernel_rfl
theorem amm:aG Tryz.prog [] [] f282 ((onA 1 2).wr ()) [] [.gK 0 0 32 .u8,.auto]= .leaf (dO .u8 32 (kC 1 2)) []:=by kernel_rfl
theorem amn{a h:Int}{c:List Int}(ht:aG Tryz.prog [] [] f282 ((onA a h).wr ()) [] [.gK 0 0 32 .u8,.auto]= .leaf (dO .u8 32 c) []):(eOn a h c).Ok Tryz.prog 282:=by
 refine an.aN call282 fun x y Q H=>?_;have hc:iq Tryz.prog 282 ((onA a h).wr ()) [] (aG Tryz.prog [] [] f282 ((onA a h).wr ()) [] [.gK 0 0 32 .u8,.auto]):=ar mixed ax func282 rfl (aH.nil _);rw[ht]at hc;exact hc.use (D:= []) ⟨rfl,rfl⟩ H.2
theorem Pc:(UP kC).Ok Tryz.prog 282:=(amn amk).or ((amn aml).or (amn amm))
theorem D6(a h:Int):(kC a h).length=32:=by unfold kC;split;exact Vec.eW _;split<;>exact Vec.eW _
theorem Ko(x:Fn)(e:cR):q6 x e.toList=mC x e:=by rw[Pb,DO]
theorem arG(x:Fn):q6 x (kC 2 0)=c6 x:=by
 rw[show kC 2 0=(cf 235 127).toList from rfl,Ko];unfold c6;rfl
abbrev aCK:an:=oY c6
theorem ada(pow:Fn→List Int→Fn)(on:Int→Int→List Int)(x:Fn):aG Tryz.prog [(281,eNW pow),(282,UP on)] [] f214 ((KG).wr (x,())) [] kK= .need ((on 2 0).length=32) (.leaf (tP.wr (pow x (on 2 0))) []):=by kernel_rfl
theorem adb:∀p_∈([(281,eNW q6),(282,UP kC)]:List (FuncId×an)),p_.2.Ok Tryz.prog p_.1:=(aj YK (aj Pc ax))
theorem AB:aCK.Ok Tryz.prog 214:=by
 refine(an.aN call214 fun x_ y_ Q H_=>?_).sym;obtain⟨x,_⟩:=x_;have hq:=H_.2;refine(ar (tab:= [(281,eNW q6),(282,UP kC)]) mixed adb func214 rfl (LT:= []) (ks:=kK) (aH.nil _)).use (D:= []) ?_ hq;show(aG _ _ _ _ ((KG).wr (x,())) [] _).sat _;rw[ada q6 kC];exact⟨D6 _ _,D5 (arG x).symm⟩
def eM(l:List Int):List Int:=l.set 0 (IntKind.u8.wrap (l.getD 0 0+1))
theorem Pd(l:List Int):(eM l).length=l.length:=by unfold eM;rw[List.length_set]
theorem aGu:eM (kC 1 3)=(cf 254 15).toList:=by kernel_rfl
theorem ade{t1 t2 o1 o2:Bool}{r r2 n1 n2:Fn}{p1 p2:Prop}(h1:p1)(h2:p2){q:Fn×Bool}(hq:q=bif t1 then(bif o1 then n1 else r,true)else bif t2 then(bif o2 then n2 else r2,true)else(cw,false)):
  (Ev.End.need p1 (.ite (!t1) (.need p2 (.ite (!t2) (.leaf (D3 (cw,false)) []) (.ite o2 (.leaf (D3 (n2,true)) []) (.leaf (D3 (r2,true)) [])))) (.ite (!t1) (.leaf (D3 (cw,false)) []) (.ite o1 (.leaf (D3 (n1,true)) []) (.leaf (D3 (r,true)) []))))).sat fun v dB=>v=D3 q∧dB= []:=by
 subst hq;refine⟨h1,?_⟩
 cases t1
 ·refine⟨fun _=>⟨h2,?_⟩,fun h=>(by cases h)⟩
  cases t2
  ·exact⟨fun _=>⟨rfl,rfl⟩,fun h=>(by cases h)⟩
  ·refine⟨fun h=>(by cases h),fun _=>?_⟩
   cases o2
   ·exact⟨fun h=>(by cases h),fun _=>⟨rfl,rfl⟩⟩
   ·exact⟨fun _=>⟨rfl,rfl⟩,fun h=>(by cases h)⟩
 ·refine⟨fun h=>(by cases h),fun _=>⟨fun h=>(by cases h),fun _=>?_⟩⟩
  cases o1
  ·exact⟨fun h=>(by cases h),fun _=>⟨rfl,rfl⟩⟩
  ·exact⟨fun _=>⟨rfl,rfl⟩,fun h=>(by cases h)⟩
theorem amo(pw:Fn→cR→Fn)(ml:Fn→Fn→Fn)(ng:Fn→Fn)(sm:Int→Fn)(od:Fn→Bool)(x:Fn):
  wo sm ml ng od pw x=bif m7 (ml (pw x (cf 254 15)) (pw x (cf 254 15))) x then(bif od (pw x (cf 254 15))then ng (pw x (cf 254 15))else pw x (cf 254 15),true)
   else bif m7 (ml (ml (pw x (cf 254 15)) (pw (sm 2) (cf 251 31))) (ml (pw x (cf 254 15)) (pw (sm 2) (cf 251 31)))) x then(bif od (ml (pw x (cf 254 15)) (pw (sm 2) (cf 251 31)))then ng (ml (pw x (cf 254 15)) (pw (sm 2) (cf 251 31)))else ml (pw x (cf 254 15)) (pw (sm 2) (cf 251 31)),true)else(cw,false):=by
 have aw4:∀ (b:Bool) (u v:Fn),cZ b u v=bif b then u else v:=fun b u v=>bG b u v;unfold wo;simp only[aw4];generalize pw x (cf 254 15)=r;generalize pw (sm 2) (cf 251 31)=c
 cases h:m7 (ml r r) x
 ·simp only[Bool.not_false,cond_true,cond_false]
  cases m7 (ml (ml r c) (ml r c)) x<;>rfl
 ·simp only[Bool.not_true,cond_true,cond_false,h]
theorem amp(x:Fn):jj x=wo bt a8 fc sx mC x:=by unfold jj;rfl
abbrev axT:an:=D4 jj
theorem UQ(pow:Fn→List Int→Fn)(on:Int→Int→List Int)(mul:Fn→Fn→Fn)(neg:Fn→Fn)(su:Fn→Bool)(sm:Int→Fn)(x:Fn):aG Tryz.prog [(281,eNW pow),(282,UP on),(216,lq mul),(284,oY neg),(217,UK su),(223,Ge sm)] [] f314 ((KG).wr (x,())) [] kK= .need ((eM (on 1 3)).length=32) (.ite (!(m7 (mul (pow x (eM (on 1 3))) (pow x (eM (on 1 3)))) x)) (.need ((on 1 2).length=32) (.ite (!(m7 (mul (mul (pow x (eM (on 1 3))) (pow (sm 2) (on 1 2))) (mul (pow x (eM (on 1 3))) (pow (sm 2) (on 1 2)))) x)) (.leaf (D3 (cw,false)) []) (.ite (su (mul (pow x (eM (on 1 3))) (pow (sm 2) (on 1 2)))) (.leaf (D3 (neg (mul (pow x (eM (on 1 3))) (pow (sm 2) (on 1 2))),true)) []) (.leaf (D3 (mul (pow x (eM (on 1 3))) (pow (sm 2) (on 1 2)),true)) [])))) (.ite (!(m7 (mul (pow x (eM (on 1 3))) (pow x (eM (on 1 3)))) x)) (.leaf (D3 (cw,false)) []) (.ite (su (pow x (eM (on 1 3)))) (.leaf (D3 (neg (pow x (eM (on 1 3))),true)) []) (.leaf (D3 (pow x (eM (on 1 3)),true)) [])))):=by kernel_rfl
theorem UR:∀p_∈([(281,eNW q6),(282,UP kC),(216,lq a8),(284,oY fc),(217,UK sx),(223,Ge bt)]:List (FuncId×an)),p_.2.Ok Tryz.prog p_.1:=(aj YK (aj Pc (aj j5 (aj AA (aj YJ (aj jX ax))))))
theorem amq:axT.Ok Tryz.prog 314:=by
 refine(an.aN call314 fun x_ y_ Q H_=>?_).sym;obtain⟨x,_⟩:=x_;have hq:=H_.2;refine(ar (tab:= [(281,eNW q6),(282,UP kC),(216,lq a8),(284,oY fc),(217,UK sx),(223,Ge bt)]) mixed UR func314 rfl (LT:= []) (ks:=kK) (aH.nil _)).use (D:= []) ?_ hq;show(aG _ _ _ _ ((KG).wr (x,())) [] _).sat _;rw[UQ q6 kC a8 fc sx bt];have hl:(eM (kC 1 3)).length=32:=by rw[Pd,D6]
 refine ade hl (D6 _ _) ?_;rw[amp,amo,aGu,show kC 1 2=(cf 251 31).toList from rfl,Ko,Ko]
theorem adf(u v:Fn):j4 u v=(cZ (m7 v cw) cw (jj (a8 u (c6 v))).1,bif m7 v cw then m7 u cw else(jj (a8 u (c6 v))).2):=by unfold j4 Nw;rfl
theorem US{z zu:Bool}{s r:Fn×Bool}(hr:r=(cZ z cw s.1,bif z then zu else s.2)):(Ev.End.ite z (.leaf (D3 (cw,zu)) []) (.leaf (D3 s) [])).sat fun v dB=>v=D3 r∧dB= []:=by
 subst hr;rw[bG]
 cases z
 ·exact⟨fun h=>(by cases h),fun _=>⟨rfl,rfl⟩⟩
 ·exact⟨fun _=>⟨rfl,rfl⟩,fun h=>(by cases h)⟩
abbrev arH:an:=art j4
theorem Pe(mul:Fn→Fn→Fn)(inv:Fn→Fn)(sqrt:Fn→Fn×Bool)(u v:Fn):aG Tryz.prog [(216,lq mul),(214,oY inv),(314,D4 sqrt)] [] f286 ((sB).wr (u,v,())) [] kK= .ite (m7 v cw) (.leaf (D3 (cw,m7 u cw)) []) (.leaf (D3 (sqrt (mul u (inv v)))) []):=by kernel_rfl
theorem Pf:∀p_∈([(216,lq a8),(214,oY c6),(314,D4 jj)]:List (FuncId×an)),p_.2.Ok Tryz.prog p_.1:=(aj j5 (aj AB (aj amq ax)))
theorem adg:arH.Ok Tryz.prog 286:=by
 refine(an.aN call286 fun x_ y_ Q H_=>?_).sym;obtain⟨u,v,_⟩:=x_;have hq:=H_.2;refine(ar (tab:= [(216,lq a8),(214,oY c6),(314,D4 jj)]) mixed Pf func286 rfl (LT:= []) (ks:=kK) (aH.nil _)).use (D:= []) ?_ hq;show(aG _ _ _ _ ((sB).wr (u,v,())) [] _).sat _;rw[Pe a8 c6 jj];exact US (adf u v)
end Go.Proofs.YtnbkagglkajbkaaGreat
end
