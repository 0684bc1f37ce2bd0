/- What the laws lean on, part 11: a reader of code, plain facts, and what each function gives; no conditions. -/
import Derived.Test.YtjalaohajcpllaaGreatA10
section
set_option linter.unusedVariables false
set_option linter.unusedSimpArgs false
namespace Go.Proofs.YtjalaohajcpllaaGreat
open Go Go.Ev
set_option maxRecDepth 1000000
def alike (b:List Int) (a d n:Int):Prop:= ∀ j,0≤j→j<n→b.getD (a+j).toNat 0=b.getD (a+j-d).toNat 0
theorem Cd: ∀ (k:Nat) (b:List Int) (a d n:Int),alike b a d n→alike b a d (fW k b a d n)
 |0,_,_,_,_,h=>h
 |k+1,b,a,d,n,h=>by
  rw[fW]
  split
  ·rename_i e
   refine Cd k b a d (n+1) fun j h1 h2=>?_
   by_cases hj:j=n
   ·rw[hj];exact e
   ·exact h j h1 (by omega)
  ·exact h
theorem qU: ∀ (k:Nat) (b:List Int) (a:Int) (mo:Nat) (d n di:Int),alike b a di n→alike b a (fN k b a mo d n di).2 (fN k b a mo d n di).1
 |0,_,_,_,_,_,_,h=>h
 |k+1,b,a,mo,d,n,di,h=>by
  rw[fN]
  split
  ·exact qU k b a mo (d+1) _ d (Cd mo b a d 0 fun j h1 h2=>by omega)
  ·exact qU k b a mo (d+1) n di h
theorem Mo (b:List Int) (a:Int):alike b a (bX b a).2 (bX b a).1:=by
 have h0:alike b a 0 0:=fun j h1 h2=>by omega
 have key: ∀ s:Int×Int,alike b a s.2 s.1→alike b a (if s.1<3 then ((0,0):Int×Int) else s).2 (if s.1<3 then ((0,0):Int×Int) else s).1:=fun s h=>by
  split
  ·exact h0
  ·exact h
 unfold bX
 by_cases c:a≤0∨b.length≤a
 ·rw[if_pos c];exact h0
 ·rw[if_neg c];exact key _ (qU _ _ _ _ _ _ _ h0)
theorem kT: ∀ (l m:List cj) (o:List Int),dT o (l++m)=dT (dT o l) m
 | [],_,_=>rfl
 |t::l,m,o=>by rw[List.cons_append,dT,dT,kT l m]
theorem Ce {b:List Int} {m:Nat} (h:m<b.length):b.take m++ [b.getD m 0]=b.take (m+1):=by
 rw[List.take_add_one,List.getD_eq_getElem?_getD,List.getElem?_eq_getElem h];simp
theorem Cf (b:List Int) (d:Int): ∀ (k m:Nat),1≤d→d≤m→m+k≤b.length→(∀ j,j<k→b.getD (m+j) 0=b.getD ((m+j:Nat)-d).toNat 0)→lH k d (b.take m)=b.take (m+k)
 |0,m,_,_,_,_=>rfl
 |k+1,m,h1,h2,h3,h4=>by
  have hl:(b.take m).length=m:=by rw[List.length_take];omega
  have e:(b.take m).getD (((b.take m).length:Int)-d).toNat 0=b.getD m 0:=by
   have h40:=h4 0 (by omega)
   rw[Nat.add_zero] at h40
   rw[hl,h40,List.getD_eq_getElem?_getD,List.getD_eq_getElem?_getD,List.getElem?_take,if_pos (by omega)]
  rw[lH,e,Ce (by omega),Cf b d k (m+1) h1 (by omega) (by omega) (fun j hj=>by
   have:=h4 (j+1) (by omega)
   rw[show m+1+j=m+(j+1) from by omega];exact this),show m+1+k=m+(k+1) from by omega]
theorem ou {b:List Int}: ∀ (k:Nat) (a:Int) (out:List cj),0≤a→a≤b.length→((b.length:Int)-a).toNat<k→dT [] out=b.take a.toNat→dT [] (c7 k b a out)=b
 |0,a,out,h1,h2,h3,_=>by omega
 |k+1,a,out,h1,h2,h3,h4=>by
  rw[c7]
  split
  ·rename_i hc
   split
   ·rename_i hn
    have hr:=(mJ b a).resolve_left (fun h=>by rw[h] at hn;simp at hn)
    have ha:=Mo b a
    generalize bX b a=s at*
    refine ou k _ _ (by omega) (by omega) (by omega) ?_
    rw[kT,h4,dT,dT,Hx,if_neg (by simp only;omega)]
    simp only
    rw[Cf b s.2 s.1.toNat a.toNat (by omega) (by omega) (by omega) (fun j hj=>by
     have:=ha j (by omega) (by omega)
     rw[show (a+(j:Int)).toNat=a.toNat+j from by omega] at this
     rw[this];congr 1;omega)]
    congr 1;omega
   ·refine ou k _ _ (by omega) (by omega) (by omega) ?_
    rw[kT,h4,dT,dT,Hx,if_pos rfl]
    simp only
    rw[Ce (by omega)]
    congr 1;omega
  ·rename_i hc
   rw[h4]
   exact List.take_of_length_le (by omega)
theorem pO {b:List Int} (hb:aB b) (h:(cJ b).1=0):(aG (cJ b).2 b.length).1=0∧iu (aG (cJ b).2 b.length).2=b∧4≤(cJ b).2.length∧(cJ b).2.length≤4096∧b.length≤8192∧aB (cJ b).2:=by
 unfold cJ at*
 split at h
 ·cases h
 ·rename_i c
  rw[if_neg c]
  split at h
  ·cases h
  ·rename_i c2
   rw[if_neg c2]
   obtain ⟨k1,k2,k3,k4⟩:=ot hb (by omega) 9000 0 [] (by omega) (by omega) (by omega) rfl rfl (fun t h=>by simp at h) (by simp)
   have kp:=ou (b:=b) 9000 0 [] (by omega) (by omega) (by omega) rfl
   simp only
   generalize c7 9000 b 0 []=l at*
   have hu:=Ih k1 k3
   rw[k2] at hu
   rw[hu]
   have ok:=sR l D6 Lq (by simp;omega)
   have ep:cR l=(dN l ([1024,1024],0) (bo 8) (bo 8) (bo 6) 4294967295 [0,0,0,0]).2:=by unfold cR;rw[if_pos k1]
   have wV:=tw l D6 W5 (by simp;omega) (cR l)
   rw[← ep] at ok wV
   have hw:=ok.1.1
   have abW:=wV ⟨Nat.le_refl _,by rw[Nat.sub_self];simp,by rw[Nat.sub_self];simp;omega⟩
   refine ⟨rfl,?_,abW.1,by omega,by omega,ok.1.2.2.1⟩
   unfold iu
   rw[if_pos k1];exact kp
def mK (k:Nat) (w:Int) (o:List Int):Prop:=4294967295*256 ^ o.length≤w*67 ^ k*4294967296
theorem pP {k:Nat} {w w1:Int} {o o1:List Int} (h:mK k w o) (hw:w≤w1*67) (hl:o1.length=o.length):mK (k+1) (cx w1 o1).1 (cx w1 o1).2:=by
 have hp:(0:Int)<67 ^ k:=Int.pow_pos (by decide)
 have h1:4294967295*256 ^ o1.length≤w1*67 ^ (k+1)*4294967296:=by
  unfold mK at h
  rw[hl]
  refine Int.le_trans h (Int.mul_le_mul_of_nonneg_right ?_ (by decide))
  rw[Int.pow_succ,Int.mul_comm (67 ^ k),← Int.mul_assoc]
  exact Int.mul_le_mul_of_nonneg_right hw (Int.le_of_lt hp)
 unfold mK cx
 split
 ·simp only[List.length_append,List.length_cons,List.length_nil]
  rw[show o1.length+(0+1)=o1.length+1 from rfl,Int.pow_succ,← Int.mul_assoc,Int.mul_right_comm w1,Int.mul_right_comm _ 256]
  exact Int.mul_le_mul_of_nonneg_right h1 (by decide)
 ·exact h1
theorem Cg {k m:Nat} {w:Int} {o:List Int} (h:mK k w o) (hw:0≤w) (hk:k≤m):mK m w o:=by
 refine Int.le_trans h (Int.mul_le_mul_of_nonneg_right (Int.mul_le_mul_of_nonneg_left ?_ hw) (by decide))
 have:=Nat.pow_le_pow_right (n:=67) (by omega) hk
 exact_mod_cast this
theorem Ch {k:Nat} {p b w:Int} {o:List Int} (h:sj w o) (hw:mK k w o):mK (k+1) (bx p b w o).1 (bx p b w o).2:=by
 obtain ⟨h1,h2,h3,h4⟩:=h
 have hh:=gu p
 have hz:w≤(w/2048*a9 p)*67∧w≤(w-w/2048*a9 p)*67:=by
  generalize a9 p=q at*
  have e2:8192≤w/2048:=by omega
  have e3:w/2048*2048≤w∧w<w/2048*2048+2048:=by omega
  generalize w/2048=u at*
  obtain ⟨q1,q2⟩:=hh
  have a1:u*31≤u*q:=Int.mul_le_mul_of_nonneg_left q1 (by omega)
  have a2:u*q≤u*2017:=Int.mul_le_mul_of_nonneg_left q2 (by omega)
  generalize u*q=z at*
  omega
 unfold bx
 split
 ·exact pP hw hz.1 rfl
 ·exact pP hw hz.2 (bO _ _ _)
theorem Mp {k:Nat} {b w:Int} {o:List Int} (h:sj w o) (hw:mK k w o):mK (k+1) (cq b w o).1 (cq b w o).2:=by
 obtain ⟨h1,h2,h3,h4⟩:=h
 unfold cq
 split
 ·exact pP hw (by omega) rfl
 ·exact pP hw (by omega) (bO _ _ _)
theorem mL: ∀ (k n:Nat) (v node w:Int) (o p:List Int),sj w o→o.length+k<1099511627775→mK n w o→mK (n+k) (bb k v node w o p).1 (bb k v node w o p).2.1
 |0,_,_,_,_,_,_,_,_,h=>h
 |k+1,n,v,node,w,o,p,h,hl,hw=>by
  have c1:=lB (p:=jm p node) (b:=v/2 ^ k%2) h (by omega)
  have cl:=gk (jm p node) (v/2 ^ k%2) w o
  have cw:=Ch (p:=jm p node) (b:=v/2 ^ k%2) h hw
  have:=mL k (n+1) v (2*node+v/2 ^ k%2) _ _ (c6 p node (v/2 ^ k%2)) c1 (by omega) cw
  rw[bb,show n+(k+1)=n+1+k from by omega]
  exact this
theorem wN: ∀ (k n:Nat) (v w:Int) (o:List Int),sj w o→o.length+k<1099511627775→mK n w o→mK (n+k) (bK k v w o).1 (bK k v w o).2
 |0,_,_,_,_,_,_,h=>h
 |k+1,n,v,w,o,h,hl,hw=>by
  have c1:=vk (b:=v/2 ^ k%2) h (by omega)
  have cl:=lC (v/2 ^ k%2) w o
  have:=wN k (n+1) v _ _ c1 (by omega) (Mp (b:=v/2 ^ k%2) h hw)
  rw[bK,show n+(k+1)=n+1+k from by omega]
  exact this
theorem Xk (t:cj) {n:Nat} {s:List Int×Int} {p1 p2 p3:List Int} {w:Int} {o:List Int} (hs:TR s p1 p2 p3) (h:sj w o) (hl:o.length+30<1099511627775) (hw:mK n w o):
  mK (n+(if t.1=0 then 9 else 21)) (jf t s p1 p2 p3 w o).2.2.2.2.1 (jf t s p1 p2 p3 w o).2.2.2.2.2:=by
 have c1:=lB (p:=s.1.getD s.2.toNat 0) (b:=if t.1=0 then 0 else 1) h (by omega)
 have cl:=gk (s.1.getD s.2.toNat 0) (if t.1=0 then 0 else 1) w o
 have cw:=Ch (p:=s.1.getD s.2.toNat 0) (b:=if t.1=0 then 0 else 1) h hw
 unfold jf
 simp only
 generalize bx (s.1.getD s.2.toNat 0) (if t.1=0 then 0 else 1) w o=c at*
 split
 ·rw[hs.l1]
  exact mL 8 (n+1) t.2.2 1 c.1 c.2 p1 c1 (by omega) cw
 ·rw[hs.l2,hs.l3]
  have t1:=mL 8 (n+1) (t.1-2) 1 c.1 c.2 p2 c1 (by omega) cw
  have tl:=eT 8 (t.1-2) 1 c.1 c.2 p2 c1 (by omega)
  generalize bb 8 (t.1-2) 1 c.1 c.2 p2=x at*
  have u1:=mL 6 (n+1+8) ((t.2.1-1)/64) 1 x.1 x.2.1 p3 tl.1 (by omega) t1
  have ul:=eT 6 ((t.2.1-1)/64) 1 x.1 x.2.1 p3 tl.1 (by omega)
  generalize bb 6 ((t.2.1-1)/64) 1 x.1 x.2.1 p3=y at*
  exact wN 6 (n+1+8+6) (t.2.1-1) y.1 y.2.1 ul.1 (by omega) u1
theorem Ci: ∀ (l:List cj) {n:Nat} {made:Int} {s:List Int×Int} {p1 p2 p3:List Int} {w:Int} {o:List Int},TR s p1 p2 p3→sj w o→o.length+21*l.length<1099500000000→mK n w o→(∀ t∈l,t.1=0∨3≤t.1)→
  mK (n+9*(cv l).toNat) (dN l s p1 p2 p3 w o).1 (dN l s p1 p2 p3 w o).2
 | [],n,made,s,p1,p2,p3,w,o,hs,h,hl,hw,ht=>hw
 |t::l,n,made,s,p1,p2,p3,w,o,hs,h,hl,hw,ht=>by
  rw[List.length_cons] at hl
  obtain ⟨g1,g2,g3⟩:=y8 (t:=t) hs h (by omega)
  have f1:=Xk t hs h (by omega) hw
  have Me: ∀ l:List cj,(∀ t∈l,t.1=0∨3≤t.1)→0≤cv l:=fun l=>by
   induction l with
   |nil=>intro _;simp[cv]
   |cons t l ih=>
    intro h
    have:=ih fun t ht=>h t (List.mem_cons_of_mem _ ht)
    rw[cv]
    have:0≤bt t:=by
     unfold bt
     rcases h t List.mem_cons_self with h'|h'
     ·rw[if_pos h'];omega
     ·rw[if_neg (by omega)];omega
    omega
  have TX:=Me l fun t h=>ht t (List.mem_cons_of_mem _ h)
  have hk:(if t.1=0 then 9 else 21:Nat)≤9*(bt t).toNat∧0≤bt t:=by
   unfold bt
   rcases ht t List.mem_cons_self with h'|h'
   ·rw[if_pos h',if_pos h'];omega
   ·rw[if_neg (by omega),if_neg (by omega)];omega
  have f2:=Cg (m:=n+9*(bt t).toNat) f1 (by have:=g2.1;omega) (by omega)
  have:=Ci l (made:=made) g1 g2 (by omega) f2 fun t h=>ht t (List.mem_cons_of_mem _ h)
  rw[dN,cv,show n+9*(bt t+cv l).toNat=n+9*(bt t).toNat+9*(cv l).toNat from by omega]
  exact this
theorem qV {b:List Int}: ∀ (k:Nat) (a:Int) (out:List cj),(∀ t∈out,t.1=0∨3≤t.1)→ ∀ t∈c7 k b a out,t.1=0∨3≤t.1
 |0,a,out,h=>h
 |k+1,a,out,h=>by
  rw[c7]
  split
  ·split
   ·rename_i hn
    have hr:=(mJ b a).resolve_left (fun h=>by rw[h] at hn;simp at hn)
    refine qV k _ _ fun t ht=>?_
    rw[List.mem_append] at ht
    rcases ht with ht|ht
    ·exact h t ht
    ·have:t=((bX b a).1,(bX b a).2,0):=by simpa using ht
     rw[this];exact .inr hr.1
   ·refine qV k _ _ fun t ht=>?_
    rw[List.mem_append] at ht
    rcases ht with ht|ht
    ·exact h t ht
    ·have:t=(0,0,b.getD a.toNat 0):=by simpa using ht
     rw[this];exact .inl rfl
  ·exact h
def RW:Nat:=4500
def RX:Nat:=4097
theorem agI:(67:Int) ^ RW*4294967296<256 ^ RX:=by
 have h:(67:Nat) ^ RW*4294967296<256 ^ RX:=by decide+kernel
 have:=Int.ofNat_lt.2 h
 rw[Int.natCast_mul,Int.natCast_pow,Int.natCast_pow] at this
 exact this
theorem Ij {b:List Int} (hb:aB b) (h:b.length≤500):(cJ b).1=0:=by
 unfold cJ
 rw[if_neg (by omega)]
 obtain ⟨k1,k2,k3,k4⟩:=ot hb (by omega) 9000 0 [] (by omega) (by omega) (by omega) rfl rfl (fun t h=>by simp at h) (by simp)
 have kl:=qV (b:=b) 9000 0 [] (fun t h=>by simp at h)
 generalize c7 9000 b 0 []=l at*
 have ok:=sR l D6 Lq (by simp;omega)
 have ep:cR l=(dN l ([1024,1024],0) (bo 8) (bo 8) (bo 6) 4294967295 [0,0,0,0]).2:=by unfold cR;rw[if_pos k1]
 have hw:=Ci l (n:=0) (made:=0) D6 Lq (by simp;omega) (by unfold mK;decide) kl
 rw[← ep] at ok hw
 have hw2:=ok.1.2.1
 have hw1:=ok.1.1
 have hm:=Cg (m:=RW) hw (by omega) (by show _≤4500;omega)
 rw[if_neg]
 intro hc
 have h1:(4294967295:Int)*256 ^ (cR l).length≤4294967295*67 ^ RW*4294967296:=
  Int.le_trans hm (Int.mul_le_mul_of_nonneg_right (Int.mul_le_mul_of_nonneg_right (by omega) (Int.le_of_lt (Int.pow_pos (by decide)))) (by decide))
 have h2:(256:Int) ^ RX≤256 ^ (cR l).length:=by
  have h:=Int.ofNat_le.2 (Nat.pow_le_pow_right (n:=256) (by omega) (show RX≤(cR l).length by show 4097≤_;omega))
  rw[Int.natCast_pow,Int.natCast_pow] at h
  exact h
 have h3:(4294967295:Int)*256 ^ RX≤4294967295*67 ^ RW*4294967296:=Int.le_trans (Int.mul_le_mul_of_nonneg_left h2 (by decide)) h1
 have h4:=agI
 generalize (256:Int) ^ RX=A at*
 generalize (67:Int) ^ RW=B at*
 omega
end Go.Proofs.YtjalaohajcpllaaGreat
end
section
set_option linter.unusedVariables false
set_option linter.unusedSimpArgs false
namespace Go.Proofs.YtjalaohajcpllaaGreat
open Go Go.Ev
set_option maxRecDepth 1000000
abbrev Xl:Type:=List Int
noncomputable abbrev Xm (x:Xl):LV:=LV.one (VV.sc (SV.sl 0 0))
noncomputable abbrev Xn (x:Xl):List (Nat×Ev.Item):= [(0,Item.own 0 (Ty.int IntKind.u8) x)]
noncomputable def Pp (n:Int):Tr (Xl):=(.ret ([IntKind.u8.wrap n,IntKind.u8.wrap (shr IntKind.i64 n 8)]))
theorem RY (n:Int):aS Tryz.prog [] [] Tryz.f34 ((TQ).wr (n,())) ((ag).wr (())) [.fr [.sym],.syms,.auto,.aD]=(Pp n).end Xm Xn ((ag).wr (())):=by kernel_rfl
theorem Xo (n:Int):aQ Tryz.prog ((ag).wr (())) [] (aJ Tryz.f34):=(aQ.nil _)
abbrev eH (n:Int):Prop:=0≤n∧n<65536
noncomputable def Xp:ao:=ao.bS [] (TQ) (ag) fun x_ y_=> .leaf (some ((fun (n:Int)=>eH n) x_.1)) (Xm ((fun (n:Int)=> [n%256,n/256]) x_.1)) (Xn ((fun (n:Int)=> [n%256,n/256]) x_.1))
theorem ab6 (n:Int) (h_:eH n):(Pp n).Is ([n%256,n/256]):=by
 obtain ⟨h1,h2⟩:=h_
 have e:shr .i64 n 8=n/256:=by
  have:=eG .i64 n 8 (by decide)
  simpa using this
 simp only[Pp,al,wrap_u8,e]
 rw[Int.emod_eq_of_lt (a:=n/256) (by omega) (by omega)]
theorem Pq:Xp.Ok Tryz.prog 34:=
 cg (tys:= []) (A:=TQ) (H:=ag) (LT:=fun x_ y_=>(fun (n:Int)=> []) x_.1) (ks:= [.fr [.sym],.syms,.auto,.aD]) (V:=Xm) (D:=Xn) (T:=fun x_ y_=>Pp x_.1) (pre:=fun x_ y_=>(fun (n:Int)=>eH n) x_.1) (sp:=fun x_ y_=>(fun (n:Int)=> [n%256,n/256]) x_.1) mixed aF Tryz.func34 (by kernel_rfl) Tryz.call34 (fun x_ y_=>Xo x_.1) (fun x_ y_=>RY x_.1) (fun x_ y_ h=>ab6 x_.1 h)
def au (b:List Int):Int×List Int:=
 if b.length=0 then (1,[]) else if (cJ b).1≠0 then ((cJ b).1,[])
 else (0,[((cJ b).2.length:Int)%256,((cJ b).2.length:Int)/256,(b.length:Int)%256,(b.length:Int)/256]++(cJ b).2)
theorem Mq {b:List Int} (h:(cJ b).1=0):b.length≤8192∧(cJ b).2.length≤4096:=by
 unfold cJ at*
 split at h
 ·cases h
 ·rename_i c
  rw[if_neg c]
  split at h
  ·cases h
  ·rename_i c2;rw[if_neg c2];exact ⟨by omega,by simp only;omega⟩
noncomputable def fO (b:List Int):Int:=(↑b.length:Int)
noncomputable def ov (b:List Int):Int:=(↑(cJ b).snd.length:Int)
noncomputable def tz (b:List Int):List Int:= [[ov b%256,ov b/256],[fO b%256,fO b/256],(cJ
 b).snd].flatten
abbrev zI:Type:=Int
noncomputable abbrev zJ (x:zI):LV:=LV.cD [VV.sc (SV.gH (Value.slice none 0 0)),VV.sc (SV.int IntKind.i64 (SI.sym x))]
noncomputable abbrev zK (x:zI):List (Nat×Ev.Item):= []
abbrev zL:Type:=Int×(List Int)
noncomputable abbrev zM (x:zL):LV:=LV.cD [VV.sc (SV.sl 0 0),VV.sc (SV.int IntKind.i64 (SI.sym x.1))]
noncomputable abbrev zN (x:zL):List (Nat×Ev.Item):= [(0,Item.own 0 (Ty.int IntKind.u8) x.2)]
noncomputable def mM (b:List Int):Tr (zI⊕zL):=(.ite (fO b==0) (.ret (.inl (1))) (.ite (decide ¬(cJ b).fst=0) (.need
 (dU b) (.ite ((cJ b).fst !=0) (.ret (.inl ((cJ b).fst))) (.need (eH 0) (.need (eH (fO b)) (.need (4≤70368744177664∧3≤
 140737488355328) (.ret (.inr (0,[[0,0],[fO b%256,fO b/256],[]].flatten)))))))) (.need (dU b) (.ite ((0:Int)!=0) (.ret
 (.inl (0))) (.need (eH (ov b)) (.need (eH (fO b)) (.need ((tz b).length≤70368744177664∧3≤140737488355328) (.ret (.inr
 (0,tz b))))))))))
theorem Ik (b:List Int):aS Tryz.prog [(33,EY),(34,Xp),(30,Bu)] [] Tryz.f16 (((ae (ai (eS false false u8)) ag)).wr (b,())) ((ag).wr (())) [.fr [.sym],.syms,.auto,.aD]=(mM b).end (Sum.elim zJ zM) (Sum.elim zK zN) ((ag).wr (())):=by kernel_rfl
theorem Mr (b:List Int):aQ Tryz.prog ((ag).wr (())) [] (aJ Tryz.f16):=(aQ.nil _)
abbrev iA (b:List Int):Prop:=aB b∧b.length<1099511627776
noncomputable def EZ:ao:=ao.bS [some u8] ((ae (ai (eS false false u8)) ag)) (ag) fun x_ y_=> .ite ((fun (b:List Int)=>decide ((au b).1≠0)) x_.1) (.leaf (some ((fun (b:List Int)=>iA b) x_.1)) (zJ ((fun (b:List Int)=>(au b).1) x_.1)) (zK ((fun (b:List Int)=>(au b).1) x_.1))) (.leaf (some ((fun (b:List Int)=>iA b) x_.1)) (zM ((fun (b:List Int)=>(0,(au b).2)) x_.1)) (zN ((fun (b:List Int)=>(0,(au b).2)) x_.1)))
theorem RZ (b:List Int) (h_:iA b):(decide ((au b).1≠0)=true→(mM b).Is (.inl ((au b).1)))∧(decide ((au b).1≠0)=false→(mM b).Is (.inr ((0,(au b).2)))):=by
 obtain ⟨h1,h2⟩:=h_
 have p0:dU b:=⟨h1,h2⟩
 have ea:fO b=(b.length:Int):=rfl
 have Br:ov b=((cJ b).2.length:Int):=rfl
 by_cases c:b.length=0
 ·have e:au b=(1,[]):=by unfold au;rw[if_pos c]
  have e1:(fO b==0)=true:=by rw[ea,c];rfl
  simp only[e,mM,e1,aK,al]
  simp
 ·have e1:(fO b==0)=false:=by rw[ea,beq_eq_false_iff_ne];omega
  by_cases c2:(cJ b).1=0
  ·obtain ⟨k1,k2⟩:=Mq c2
   have e:au b=(0,[((cJ b).2.length:Int)%256,((cJ b).2.length:Int)/256,(b.length:Int)%256,(b.length:Int)/256]++(cJ b).2):=by
    unfold au;rw[if_neg c,if_neg (by simpa using c2)]
   have e2:decide ¬(cJ b).1=0=false:=by simpa using c2
   have e3:((0:Int)!=0)=false:=rfl
   have ea2:tz b= [((cJ b).2.length:Int)%256,((cJ b).2.length:Int)/256,(b.length:Int)%256,(b.length:Int)/256]++(cJ b).2:=by
    unfold tz;rw[ea,Br];simp
   have q1:eH (ov b):=by rw[Br];exact ⟨by omega,by omega⟩
   have q2:eH (fO b):=by rw[ea];exact ⟨by omega,by omega⟩
   simp only[e,mM,e1,e2,e3,aN,aK,an,al]
   simp only[ea2]
   simp
   exact ⟨p0,q1,q2,by omega⟩
  ·have e:au b=((cJ b).1,[]):=by unfold au;rw[if_neg c,if_pos c2]
   have e2:decide ¬(cJ b).1=0=true:=by simpa using c2
   have e3:((cJ b).1!=0)=true:=by simpa using c2
   simp only[e,mM,e1,e2,e3,aN,aK,an,al]
   simp[c2]
   exact p0
theorem Cj:EZ.Ok Tryz.prog 16:=
 yS (tys:= [some u8]) (A:=(ae (ai (eS false false u8)) ag)) (H:=ag) (LT:=fun x_ y_=>(fun (b:List Int)=> []) x_.1) (ks:= [.fr [.sym],.syms,.auto,.aD]) (V:=zJ) (D:=zK) (V':=zM) (D':=zN) (T:=fun x_ y_=>mM x_.1) (pre:=fun x_ y_=>(fun (b:List Int)=>iA b) x_.1) (c:=fun x_ y_=>(fun (b:List Int)=>decide ((au b).1≠0)) x_.1) (sp:=fun x_ y_=>(fun (b:List Int)=>(au b).1) x_.1) (sp':=fun x_ y_=>(fun (b:List Int)=>(0,(au b).2)) x_.1) mixed ((ak zH (ak Pq (ak mD aF)))) Tryz.func16 (by kernel_rfl) Tryz.call16 (fun x_ y_=>Mr x_.1) (fun x_ y_=>Ik x_.1) (fun x_ y_ h=>RZ x_.1 h)
end Go.Proofs.YtjalaohajcpllaaGreat
end
section
set_option linter.unusedVariables false
set_option linter.unusedSimpArgs false
namespace Go.Proofs.YtjalaohajcpllaaGreat
open Go Go.Ev
set_option maxRecDepth 100000
structure PP where
 blocks:Int
 block:Int
 part:Int
 len:Int
 want:Int
 buf:List Int
 bad:Bool
abbrev cPP:ba (List SV) PP:=(ae (ax .i64) (ae (ax .i64) (ae (ax .i64) (ae (ax .i64) (ae (ax .i64) (ae (wY u8 4096) (ae OG ag))))))).qk
 (fun x=>⟨x.1,x.2.1,x.2.2.1,x.2.2.2.1,x.2.2.2.2.1,x.2.2.2.2.2.1,x.2.2.2.2.2.2.1⟩) (fun p=>(p.blocks,p.block,p.part,p.len,p.want,p.buf,p.bad,())) (fun _=>rfl)
abbrev pI (p:PP):Ev.Item:= .aZ (cPP.wr p) 72
abbrev Gt:ba Hp (PP×Unit):=ae (gX 72 cPP) ag
abbrev tA:Wk:= .aZ 0 (List.replicate 7 .sym)
noncomputable def Pr:ao:=ao.bS [] (aj p0 ag) Gt fun _ h=> .leaf none (nI (if h.1.bad then 0 else IntKind.i64.wrap (h.1.want-h.1.len))) []
noncomputable def E0:ao:=ao.bS [] (aj p0 ag) Gt fun _ h=> .leaf none (nB (h.1.part==0)) []
noncomputable def Xq:ao:=ao.bS [] (aj p0 (ae (ai (ax .i64)) (ae (ai (ax .i64)) ag))) Gt fun x h=> .leaf none (.cD []) [(0,pI {h.1 with part:=x.1,len:=0,want:=x.2.1})]
def cG (p:PP):PP:=if p.block<p.blocks then {p with part:=4,len:=0,want:=4} else {p with part:=0,len:=0,want:=0}
noncomputable def Xr:ao:=ao.bS [] (aj p0 ag) Gt fun _ h=> .leaf none (.cD []) [(0,pI (cG h.1))]
def two (l:List Int) (i:Nat):Int:=bm .i64 (IntKind.i64.wrap (l.getD i 0)) (shl .i64 (IntKind.i64.wrap (l.getD (i+1) 0)) 8)
def dx (l:List Int):Bool:=decide (1≤two l 0∧two l 0≤4096∧1≤two l 2∧two l 2≤8192)
noncomputable def E1:ao:=ao.bS [some u8] bA ag fun x _=> .leaf (some (4≤x.1.length)) (.cD [.sc (.int .i64 (.sym (two x.1 0))),.sc (.int .i64 (.sym (two x.1 2))),.sc (.bool (.sym (dx x.1)))]) []
theorem R5 (p:PP):aS Tryz.prog [] [] Tryz.f14 ((aj p0 ag).wr ()) (Gt.wr (p,())) [.fr [.sym],tA,.auto]=
 End.ite p.bad (End.leaf (LV.one (VV.sc (SV.int IntKind.i64 (SI.sym (0:Int))))) [some (Item.aZ [SV.int IntKind.i64 (SI.sym p.blocks),SV.int
 IntKind.i64 (SI.sym p.block),SV.int IntKind.i64 (SI.sym p.part),SV.int IntKind.i64 (SI.sym p.len),SV.int IntKind.i64 (SI.sym p.want),SV.arr (Ty.int
 IntKind.u8) (4096:Nat) p.buf,SV.bool (SB.sym p.bad)] (72:Nat))]) (End.leaf (LV.one (VV.sc (SV.int IntKind.i64 (SI.sym (IntKind.i64.wrap (p.want-
 p.len)))))) [some (Item.aZ [SV.int IntKind.i64 (SI.sym p.blocks),SV.int IntKind.i64 (SI.sym p.block),SV.int IntKind.i64 (SI.sym p.part),SV.int
 IntKind.i64 (SI.sym p.len),SV.int IntKind.i64 (SI.sym p.want),SV.arr (Ty.int IntKind.u8) (4096:Nat) p.buf,SV.bool (SB.sym p.bad)] (72:Nat))]):=by kernel_rfl
theorem Ms (p:PP):aS Tryz.prog [] [] Tryz.f13 ((aj p0 ag).wr ()) (Gt.wr (p,())) [.fr [.sym],tA,.auto]=
 End.leaf (LV.one (VV.sc (SV.bool (SB.sym (p.part==(0:Int)))))) [some (Item.aZ [SV.int IntKind.i64 (SI.sym p.blocks),SV.int IntKind.i64 (SI.sym
 p.block),SV.int IntKind.i64 (SI.sym p.part),SV.int IntKind.i64 (SI.sym p.len),SV.int IntKind.i64 (SI.sym p.want),SV.arr (Ty.int IntKind.u8) (4096:
 Nat) p.buf,SV.bool (SB.sym p.bad)] (72:Nat))]:=by kernel_rfl
theorem R6 (p:PP) (x y:Int):aS Tryz.prog [] [] Tryz.f61 ((aj p0 (ae (ai (ax .i64)) (ae (ai (ax .i64)) ag))).wr (x,y,())) (Gt.wr (p,())) [tA,.auto]=
 End.leaf (LV.cD []) [some (Item.aZ [SV.int IntKind.i64 (SI.sym p.blocks),SV.int IntKind.i64 (SI.sym p.block),SV.int IntKind.i64 (SI.sym x),SV.int
 IntKind.i64 (SI.sym (0:Int)),SV.int IntKind.i64 (SI.sym y),SV.arr (Ty.int IntKind.u8) (4096:Nat) p.buf,SV.bool (SB.sym p.bad)] (72:Nat))]:=by kernel_rfl
theorem Mt (p:PP):aS Tryz.prog [(61,Xq)] [] Tryz.f62 ((aj p0 ag).wr ()) (Gt.wr (p,())) [tA,.auto]=
 End.ite (decide (p.block<p.blocks)) (End.leaf (LV.cD []) [some (Item.aZ [SV.int IntKind.i64 (SI.sym p.blocks),SV.int IntKind.i64 (SI.sym p.block),
 SV.int IntKind.i64 (SI.sym (4:Int)),SV.int IntKind.i64 (SI.sym (0:Int)),SV.int IntKind.i64 (SI.sym (4:Int)),SV.arr (Ty.int IntKind.u8) (4096:
 Nat) p.buf,SV.bool (SB.sym p.bad)] (72:Nat))]) (End.leaf (LV.cD []) [some (Item.aZ [SV.int IntKind.i64 (SI.sym p.blocks),SV.int IntKind.i64
 (SI.sym p.block),SV.int IntKind.i64 (SI.sym (0:Int)),SV.int IntKind.i64 (SI.sym (0:Int)),SV.int IntKind.i64 (SI.sym (0:Int)),SV.arr (Ty.int
 IntKind.u8) (4096:Nat) p.buf,SV.bool (SB.sym p.bad)] (72:Nat))]):=by kernel_rfl
theorem Il (l:List Int):aS Tryz.prog [] [] Tryz.f37 (bA.wr (l,())) [] [.fr [.sym],.auto]=
 End.need ((0:Int)≤(0:Int)∧(0:Int)<(↑l.length:Int)) (End.need ((0:Int)≤(1:Int)∧(1:Int)<(↑l.length:Int)) (End.need ((0:Int)
 ≤(2:Int)∧(2:Int)<(↑l.length:Int)) (End.need ((0:Int)≤(3:Int)∧(3:Int)<(↑l.length:Int)) (End.ite (decide ((1:Int)≤bm
 IntKind.i64 (IntKind.i64.wrap (l.getD (0:Nat) (0:Int))) (shl IntKind.i64 (IntKind.i64.wrap (l.getD (1:Nat) (0:Int))) (8:Int)))==true)
 (End.ite (decide (bm IntKind.i64 (IntKind.i64.wrap (l.getD (0:Nat) (0:Int))) (shl IntKind.i64 (IntKind.i64.wrap (l.getD (1:Nat) (0:Int))) (8
 :Int))≤(4096:Int))==true) (End.ite (decide ((1:Int)≤bm IntKind.i64 (IntKind.i64.wrap (l.getD (2:Nat) (0:Int))) (shl IntKind.i64
 (IntKind.i64.wrap (l.getD (3:Nat) (0:Int))) (8:Int)))==true) (End.leaf (LV.cD [VV.sc (SV.int IntKind.i64 (SI.sym (bm IntKind.i64
 (IntKind.i64.wrap (l.getD (0:Nat) (0:Int))) (shl IntKind.i64 (IntKind.i64.wrap (l.getD (1:Nat) (0:Int))) (8:Int))))),VV.sc (SV.int
 IntKind.i64 (SI.sym (bm IntKind.i64 (IntKind.i64.wrap (l.getD (2:Nat) (0:Int))) (shl IntKind.i64 (IntKind.i64.wrap (l.getD (3:Nat) (0:Int)))
 (8:Int))))),VV.sc (SV.bool (SB.sym (decide (bm IntKind.i64 (IntKind.i64.wrap (l.getD (2:Nat) (0:Int))) (shl IntKind.i64 (IntKind.i64.wrap
 (l.getD (3:Nat) (0:Int))) (8:Int))≤(8192:Int)))))]) []) (End.leaf (LV.cD [VV.sc (SV.int IntKind.i64 (SI.sym (bm IntKind.i64
 (IntKind.i64.wrap (l.getD (0:Nat) (0:Int))) (shl IntKind.i64 (IntKind.i64.wrap (l.getD (1:Nat) (0:Int))) (8:Int))))),VV.sc (SV.int
 IntKind.i64 (SI.sym (bm IntKind.i64 (IntKind.i64.wrap (l.getD (2:Nat) (0:Int))) (shl IntKind.i64 (IntKind.i64.wrap (l.getD (3:Nat) (0:Int)))
 (8:Int))))),VV.sc (SV.bool (SB.sym false))]) [])) (End.leaf (LV.cD [VV.sc (SV.int IntKind.i64 (SI.sym (bm IntKind.i64 (IntKind.i64.wrap (l.getD
 (0:Nat) (0:Int))) (shl IntKind.i64 (IntKind.i64.wrap (l.getD (1:Nat) (0:Int))) (8:Int))))),VV.sc (SV.int IntKind.i64 (SI.sym (bm
 IntKind.i64 (IntKind.i64.wrap (l.getD (2:Nat) (0:Int))) (shl IntKind.i64 (IntKind.i64.wrap (l.getD (3:Nat) (0:Int))) (8:Int))))),VV.sc
 (SV.bool (SB.sym false))]) [])) (End.leaf (LV.cD [VV.sc (SV.int IntKind.i64 (SI.sym (bm IntKind.i64 (IntKind.i64.wrap (l.getD (0:Nat) (0:Int)))
 (shl IntKind.i64 (IntKind.i64.wrap (l.getD (1:Nat) (0:Int))) (8:Int))))),VV.sc (SV.int IntKind.i64 (SI.sym (bm IntKind.i64 (IntKind.i64.wrap
 (l.getD (2:Nat) (0:Int))) (shl IntKind.i64 (IntKind.i64.wrap (l.getD (3:Nat) (0:Int))) (8:Int))))),VV.sc (SV.bool (SB.sym false))]) []))))):=by kernel_rfl
theorem E2:Pr.Ok Tryz.prog 14:=by
 refine (ao.bf Tryz.call14 fun x y Q h=>?_).sym
 obtain ⟨p,_⟩:=y
 refine (ay mixed aF Tryz.func14 rfl (LT:= []) (ks:= [.fr [.sym],tA,.auto]) (aQ.nil _)).use (D:= []) ?_ h.2
 show (aS _ _ _ _ ((aj p0 ag).wr ()) (Gt.wr (p,())) _).sat _
 rw[R5]
 exact ⟨fun h=>⟨by simp[h],rfl⟩,fun h=>⟨by simp[h],rfl⟩⟩
theorem zO:E0.Ok Tryz.prog 13:=by
 refine (ao.bf Tryz.call13 fun x y Q h=>?_).sym
 obtain ⟨p,_⟩:=y
 refine (ay mixed aF Tryz.func13 rfl (LT:= []) (ks:= [.fr [.sym],tA,.auto]) (aQ.nil _)).use (D:= []) ?_ h.2
 show (aS _ _ _ _ ((aj p0 ag).wr ()) (Gt.wr (p,())) _).sat _
 rw[Ms]
 exact ⟨rfl,rfl⟩
theorem Ps:Xq.Ok Tryz.prog 61:=by
 refine (ao.bf Tryz.call61 fun x y Q h=>?_).sym
 obtain ⟨p,_⟩:=y
 obtain ⟨a,b,_⟩:=x
 refine (ay mixed aF Tryz.func61 rfl (LT:= []) (ks:= [tA,.auto]) (aQ.nil _)).use (D:= [(0,pI {p with part:=a,len:=0,want:=b})]) ?_ h.2
 show (aS _ _ _ _ ((aj p0 (ae (ai (ax .i64)) (ae (ai (ax .i64)) ag))).wr (a,b,())) (Gt.wr (p,())) _).sat _
 rw[R6]
 exact ⟨rfl,rfl⟩
theorem Xs:Xr.Ok Tryz.prog 62:=by
 refine (ao.bf Tryz.call62 fun x y Q h=>?_).sym
 obtain ⟨p,_⟩:=y
 refine (ay mixed (ak Ps aF) Tryz.func62 rfl (LT:= []) (ks:= [tA,.auto]) (aQ.nil _)).use (D:= [(0,pI (cG p))]) ?_ h.2
 show (aS _ _ _ _ ((aj p0 ag).wr ()) (Gt.wr (p,())) _).sat _
 rw[Mt]
 refine ⟨fun hb=>⟨rfl,?_⟩,fun hb=>⟨rfl,?_⟩⟩
 ·simp at hb;unfold cG;rw[if_pos hb];rfl
 ·simp at hb;unfold cG;rw[if_neg (by omega)];rfl
theorem Ck:E1.Ok Tryz.prog 37:=by
 refine (ao.bf Tryz.call37 fun x y Q h=>?_).sym
 obtain ⟨l,_⟩:=x
 obtain ⟨hl,hq⟩:=h
 have hl:4≤l.length:=hl
 refine (ay mixed aF Tryz.func37 rfl (LT:= []) (ks:= [.fr [.sym],.auto]) (aQ.nil _)).use (D:= []) ?_ hq
 show (aS _ _ _ _ (bA.wr (l,())) [] _).sat _
 rw[Il]
 have key: ∀ {b:Bool},b=dx l→LV.cD [.sc (.int .i64 (.sym (two l 0))),.sc (.int .i64 (.sym (two l 2))),.sc (.bool (.sym b))]=LV.cD [.sc (.int .i64 (.sym (two l 0))),.sc (.int .i64 (.sym (two l 2))),.sc (.bool (.sym (dx l)))]:=fun h=>by rw[h]
 have e0:two l 0=bm .i64 (IntKind.i64.wrap (l.getD 0 0)) (shl .i64 (IntKind.i64.wrap (l.getD 1 0)) 8):=rfl
 have e2:two l 2=bm .i64 (IntKind.i64.wrap (l.getD 2 0)) (shl .i64 (IntKind.i64.wrap (l.getD 3 0)) 8):=rfl
 rw[← e0,← e2]
 refine ⟨by omega,by omega,by omega,by omega,fun h1=>⟨fun h2=>⟨fun h3=>⟨key ?_,rfl⟩,fun h3=>⟨key ?_,rfl⟩⟩,fun h2=>⟨key ?_,rfl⟩⟩,fun h1=>⟨key ?_,rfl⟩⟩<;>simp_all[dx]<;>omega
def bI (p:PP) (b:List Int):PP×Bool:=
 if p.part=1 then ({p with blocks:=(dC b).1.2,part:=2,len:=0,want:=216},(dC b).2)
 else if p.part=2 then ({p with part:=3,len:=0,want:=IntKind.i64.wrap (64*p.blocks)},true)
 else if p.part=4 then (if dx b then {p with part:=5,len:=0,want:=two b 0} else p,dx b)
 else if p.part=5 then (cG {p with block:=IntKind.i64.wrap (p.block+1)},true)
 else (cG p,true)
abbrev pbA:ba (List LV) (List Int×Unit):=aj p0 (ae (ai (eS false false u8)) ag)
noncomputable def aeX:ao:=ao.bS [none,some u8] pbA Gt fun x h=> .leaf (some (h.1.part=4→4≤x.1.length)) (nB (bI h.1 x.1).2) [(0,pI (bI h.1 x.1).1)]
theorem R7 (p:PP) (b:List Int):aS Tryz.prog [(60,H8),(37,E1),(61,Xq),(62,Xr)] [] Tryz.f32 (pbA.wr (b,())) (Gt.wr (p,())) [.fr [.sym],tA,.auto]=
 End.ite (p.part==(1:Int)) (End.leaf (LV.one (VV.sc (SV.bool (SB.sym (dC b).snd)))) [some (Item.aZ [SV.int IntKind.i64 (SI.sym (dC
 b).fst.snd),SV.int IntKind.i64 (SI.sym p.block),SV.int IntKind.i64 (SI.sym (2:Int)),SV.int IntKind.i64 (SI.sym (0:Int)),SV.int IntKind.i64
 (SI.sym (216:Int)),SV.arr (Ty.int IntKind.u8) (4096:Nat) p.buf,SV.bool (SB.sym p.bad)] (72:Nat))]) (End.ite (p.part==(2:Int)) (End.leaf
 (LV.one (VV.sc (SV.bool (SB.sym true)))) [some (Item.aZ [SV.int IntKind.i64 (SI.sym p.blocks),SV.int IntKind.i64 (SI.sym p.block),SV.int IntKind.i64
 (SI.sym (3:Int)),SV.int IntKind.i64 (SI.sym (0:Int)),SV.int IntKind.i64 (SI.sym (IntKind.i64.wrap ((64:Int)*p.blocks))),SV.arr (Ty.int
 IntKind.u8) (4096:Nat) p.buf,SV.bool (SB.sym p.bad)] (72:Nat))]) (End.ite (p.part==(4:Int)) (End.need ((4:Nat)≤b.length) (End.ite (dx
 b) (End.leaf (LV.one (VV.sc (SV.bool (SB.sym (dx b))))) [some (Item.aZ [SV.int IntKind.i64 (SI.sym p.blocks),SV.int IntKind.i64 (SI.sym p.block),
 SV.int IntKind.i64 (SI.sym (5:Int)),SV.int IntKind.i64 (SI.sym (0:Int)),SV.int IntKind.i64 (SI.sym (two b (0:Nat))),SV.arr (Ty.int IntKind.u8)
 (4096:Nat) p.buf,SV.bool (SB.sym p.bad)] (72:Nat))]) (End.leaf (LV.one (VV.sc (SV.bool (SB.sym (dx b))))) [some (Item.aZ [SV.int IntKind.i64
 (SI.sym p.blocks),SV.int IntKind.i64 (SI.sym p.block),SV.int IntKind.i64 (SI.sym p.part),SV.int IntKind.i64 (SI.sym p.len),SV.int IntKind.i64
 (SI.sym p.want),SV.arr (Ty.int IntKind.u8) (4096:Nat) p.buf,SV.bool (SB.sym p.bad)] (72:Nat))]))) (End.ite (p.part==(5:Int)) (End.leaf
 (LV.one (VV.sc (SV.bool (SB.sym true)))) [some (Item.aZ [SV.int IntKind.i64 (SI.sym (cG {blocks:=p.blocks,block:=IntKind.i64.wrap (p.block+(1:Int)),part:=p.part,len:=p.len,want:=p.want,buf:=p.buf,bad:=p.bad}).blocks),
 SV.int IntKind.i64 (SI.sym (cG {blocks:=p.blocks,block:=IntKind.i64.wrap (p.block+(1:Int)),part:=p.part,len:=p.len,want:=p.want,buf:=p.buf,bad:=p.bad}).block),
 SV.int IntKind.i64 (SI.sym (cG {blocks:=p.blocks,block:=IntKind.i64.wrap (p.block+(1:Int)),part:=p.part,len:=p.len,want:=p.want,buf:=p.buf,bad:=p.bad}).part),
 SV.int IntKind.i64 (SI.sym (cG {blocks:=p.blocks,block:=IntKind.i64.wrap (p.block+(1:Int)),part:=p.part,len:=p.len,want:=p.want,buf:=p.buf,bad:=p.bad}).len),
 SV.int IntKind.i64 (SI.sym (cG {blocks:=p.blocks,block:=IntKind.i64.wrap (p.block+(1:Int)),part:=p.part,len:=p.len,want:=p.want,buf:=p.buf,bad:=p.bad}).want),
 SV.arr (Ty.int IntKind.u8) (4096:Nat) (cG {blocks:=p.blocks,block:=IntKind.i64.wrap (p.block+(1:Int)),part:=p.part,len:=p.len,want:=p.want,buf:=p.buf,bad:=p.bad}).buf,
 SV.bool (SB.sym (cG {blocks:=p.blocks,block:=IntKind.i64.wrap (p.block+(1:Int)),part:=p.part,len:=p.len,want:=p.want,buf:=p.buf,bad:=p.bad}).bad)]
 (72:Nat))]) (End.leaf (LV.one (VV.sc (SV.bool (SB.sym true)))) [some (Item.aZ [SV.int IntKind.i64 (SI.sym (cG p).blocks),SV.int IntKind.i64
 (SI.sym (cG p).block),SV.int IntKind.i64 (SI.sym (cG p).part),SV.int IntKind.i64 (SI.sym (cG p).len),SV.int IntKind.i64 (SI.sym (cG
 p).want),SV.arr (Ty.int IntKind.u8) (4096:Nat) (cG p).buf,SV.bool (SB.sym (cG p).bad)] (72:Nat))])))):=by kernel_rfl
theorem ab7:aeX.Ok Tryz.prog 32:=by
 refine (ao.bf Tryz.call32 fun x y Q h=>?_).sym
 obtain ⟨p,_⟩:=y
 obtain ⟨b,_⟩:=x
 obtain ⟨hl,hq⟩:=h
 have hl:p.part=4→4≤b.length:=hl
 refine (ay mixed (ak L4 (ak Ck (ak Ps (ak Xs aF)))) Tryz.func32 rfl (LT:= []) (ks:= [.fr [.sym],tA,.auto]) (aQ.nil _)).use (D:= [(0,pI (bI p b).1)]) ?_ hq
 show (aS _ _ _ _ (pbA.wr (b,())) (Gt.wr (p,())) _).sat _
 rw[R7]
 refine ⟨fun h1=>?_,fun h1=>⟨fun h2=>?_,fun h2=>⟨fun h3=>⟨hl (beq_iff_eq.1 h3),fun h4=>?_,fun h4=>?_⟩,fun h3=>⟨fun h4=>?_,fun h4=>?_⟩⟩⟩⟩
 ·have e:bI p b=({p with blocks:=(dC b).1.2,part:=2,len:=0,want:=216},(dC b).2):=by simp at h1;simp[bI,h1]
  rw[e];exact ⟨rfl,rfl⟩
 ·have e:bI p b=({p with part:=3,len:=0,want:=IntKind.i64.wrap (64*p.blocks)},true):=by simp at h1 h2;simp[bI,h2]
  rw[e];exact ⟨rfl,rfl⟩
 ·have e:bI p b=({p with part:=5,len:=0,want:=two b 0},dx b):=by simp at h1 h2 h3;simp[bI,h3,h4]
  rw[e];exact ⟨rfl,rfl⟩
 ·have e:bI p b=(p,dx b):=by simp at h1 h2 h3;simp[bI,h3,h4]
  rw[e];exact ⟨rfl,rfl⟩
 ·have e:bI p b=(cG {p with block:=IntKind.i64.wrap (p.block+1)},true):=by simp at h1 h2 h3 h4;simp[bI,h4]
  rw[e];exact ⟨rfl,rfl⟩
 ·have e:bI p b=(cG p,true):=by simp at h1 h2 h3 h4;simp[bI,h1,h2,h3,h4]
  rw[e];exact ⟨rfl,rfl⟩
def br (p:PP) (b:Int):PP×(Int×List Int×Bool×Int):=
 if p.bad=true∨p.part=0 then ({p with bad:=true},0,[],false,6)
 else
  let q:PP:= {p with buf:=p.buf.set p.len.toNat b,len:=IntKind.i64.wrap (p.len+1)}
  if q.len<q.want then (q,0,[],false,0)
  else
   let l:=q.buf.take q.len.toNat
   let r:=bI q l
   if r.2=true then (r.1,q.part,l,true,0) else ({r.1 with bad:=true},0,[],false,6)
abbrev pcA:ba (List LV) (Int×Unit):=aj p0 (ae (ai (ax .u8)) ag)
theorem R8 (p:PP) (b:Int):aS Tryz.prog [(31,Lb),(32,aeX)] [] Tryz.f12 (pcA.wr (b,())) (Gt.wr (p,())) [.fr [.sym],.fr [.rd true u8],tA,.auto]=
 End.ite (p.bad==false) (End.ite (p.part==(0:Int)) (End.leaf (LV.cD [VV.agg [SV.int IntKind.i64 (SI.sym (0:Int)),SV.rd true false (Ty.int
 IntKind.u8) []],VV.sc (SV.bool (SB.sym false)),VV.sc (SV.int IntKind.i64 (SI.sym (6:Int)))]) [some (Item.aZ [SV.int IntKind.i64 (SI.sym p.blocks),
 SV.int IntKind.i64 (SI.sym p.block),SV.int IntKind.i64 (SI.sym p.part),SV.int IntKind.i64 (SI.sym p.len),SV.int IntKind.i64 (SI.sym p.want),SV.arr
 (Ty.int IntKind.u8) (4096:Nat) p.buf,SV.bool (SB.sym true)] (72:Nat))]) (End.need ((0:Int)≤p.len∧p.len<(4096:Int)) (End.ite (decide
 (IntKind.i64.wrap (p.len+(1:Int))<p.want)) (End.leaf (LV.cD [VV.agg [SV.int IntKind.i64 (SI.sym (0:Int)),SV.rd true false (Ty.int IntKind.u8)
 []],VV.sc (SV.bool (SB.sym false)),VV.sc (SV.int IntKind.i64 (SI.sym (0:Int)))]) [some (Item.aZ [SV.int IntKind.i64 (SI.sym p.blocks),SV.int
 IntKind.i64 (SI.sym p.block),SV.int IntKind.i64 (SI.sym p.part),SV.int IntKind.i64 (SI.sym (IntKind.i64.wrap (p.len+(1:Int)))),SV.int
 IntKind.i64 (SI.sym p.want),SV.arr (Ty.int IntKind.u8) (4096:Nat) (p.buf.set ((0:Nat)+p.len.toNat) b),SV.bool (SB.sym p.bad)] (72:Nat))])
 (End.need ((0:Int)≤(0:Int)∧(0:Int)≤IntKind.i64.wrap (p.len+(1:Int))∧IntKind.i64.wrap (p.len+(1:Int))≤(4096:Int)) (End.need
 ((List.take (IntKind.i64.wrap (p.len+(1:Int))-(0:Int)).toNat (List.drop (0:Nat) (p.buf.set ((0:Nat)+p.len.toNat) b))).length≤
 (70368744177664:Nat)) (End.need (p.part=(4:Int)→(4:Nat)≤(List.take (IntKind.i64.wrap (p.len+(1:Int))-(0:Int)).toNat (List.drop (0:
 Nat) (p.buf.set ((0:Nat)+p.len.toNat) b))).length) (End.ite (!(bI {blocks:=p.blocks,block:=p.block,part:=p.part,len:=IntKind.i64.wrap (p.len+(1:Int)),want:=p.want,buf:=p.buf.set ((0:Nat)+p.len.toNat) b,bad:=p.bad}
 (List.take (IntKind.i64.wrap (p.len+(1:Int))-(0:Int)).toNat (List.drop (0:Nat) (p.buf.set ((0:Nat)+p.len.toNat) b)))).snd) (End.leaf
 (LV.cD [VV.agg [SV.int IntKind.i64 (SI.sym (0:Int)),SV.rd true false (Ty.int IntKind.u8) []],VV.sc (SV.bool (SB.sym false)),VV.sc (SV.int
 IntKind.i64 (SI.sym (6:Int)))]) [some (Item.aZ [SV.int IntKind.i64 (SI.sym (bI {blocks:=p.blocks,block:=p.block,part:=p.part,len:=IntKind.i64.wrap (p.len+(1:Int)),want:=p.want,buf:=p.buf.set ((0:Nat)+p.len.toNat) b,bad:=p.bad}
 (List.take (IntKind.i64.wrap (p.len+(1:Int))-(0:Int)).toNat (List.drop (0:Nat) (p.buf.set ((0:Nat)+p.len.toNat) b)))).fst.blocks),SV.int
 IntKind.i64 (SI.sym (bI {blocks:=p.blocks,block:=p.block,part:=p.part,len:=IntKind.i64.wrap (p.len+(1:Int)),want:=p.want,buf:=p.buf.set ((0:Nat)+p.len.toNat) b,bad:=p.bad}
 (List.take (IntKind.i64.wrap (p.len+(1:Int))-(0:Int)).toNat (List.drop (0:Nat) (p.buf.set ((0:Nat)+p.len.toNat) b)))).fst.block),SV.int
 IntKind.i64 (SI.sym (bI {blocks:=p.blocks,block:=p.block,part:=p.part,len:=IntKind.i64.wrap (p.len+(1:Int)),want:=p.want,buf:=p.buf.set ((0:Nat)+p.len.toNat) b,bad:=p.bad}
 (List.take (IntKind.i64.wrap (p.len+(1:Int))-(0:Int)).toNat (List.drop (0:Nat) (p.buf.set ((0:Nat)+p.len.toNat) b)))).fst.part),SV.int
 IntKind.i64 (SI.sym (bI {blocks:=p.blocks,block:=p.block,part:=p.part,len:=IntKind.i64.wrap (p.len+(1:Int)),want:=p.want,buf:=p.buf.set ((0:Nat)+p.len.toNat) b,bad:=p.bad}
 (List.take (IntKind.i64.wrap (p.len+(1:Int))-(0:Int)).toNat (List.drop (0:Nat) (p.buf.set ((0:Nat)+p.len.toNat) b)))).fst.len),SV.int
 IntKind.i64 (SI.sym (bI {blocks:=p.blocks,block:=p.block,part:=p.part,len:=IntKind.i64.wrap (p.len+(1:Int)),want:=p.want,buf:=p.buf.set ((0:Nat)+p.len.toNat) b,bad:=p.bad}
 (List.take (IntKind.i64.wrap (p.len+(1:Int))-(0:Int)).toNat (List.drop (0:Nat) (p.buf.set ((0:Nat)+p.len.toNat) b)))).fst.want),SV.arr
 (Ty.int IntKind.u8) (4096:Nat) (bI {blocks:=p.blocks,block:=p.block,part:=p.part,len:=IntKind.i64.wrap (p.len+(1:Int)),want:=p.want,buf:=p.buf.set ((0:Nat)+p.len.toNat) b,bad:=p.bad}
 (List.take (IntKind.i64.wrap (p.len+(1:Int))-(0:Int)).toNat (List.drop (0:Nat) (p.buf.set ((0:Nat)+p.len.toNat) b)))).fst.buf,SV.bool
 (SB.sym true)] (72:Nat))]) (End.leaf (LV.cD [VV.agg [SV.int IntKind.i64 (SI.sym p.part),SV.rd true false (Ty.int IntKind.u8) (List.take
 (IntKind.i64.wrap (p.len+(1:Int))-(0:Int)).toNat (List.drop (0:Nat) (p.buf.set ((0:Nat)+p.len.toNat) b)))],VV.sc (SV.bool (SB.sym
 true)),VV.sc (SV.int IntKind.i64 (SI.sym (0:Int)))]) [some (Item.aZ [SV.int IntKind.i64 (SI.sym (bI {blocks:=p.blocks,block:=p.block,part:=p.part,len:=IntKind.i64.wrap (p.len+(1:Int)),want:=p.want,buf:=p.buf.set ((0:Nat)+p.len.toNat) b,bad:=p.bad}
 (List.take (IntKind.i64.wrap (p.len+(1:Int))-(0:Int)).toNat (List.drop (0:Nat) (p.buf.set ((0:Nat)+p.len.toNat) b)))).fst.blocks),SV.int
 IntKind.i64 (SI.sym (bI {blocks:=p.blocks,block:=p.block,part:=p.part,len:=IntKind.i64.wrap (p.len+(1:Int)),want:=p.want,buf:=p.buf.set ((0:Nat)+p.len.toNat) b,bad:=p.bad}
 (List.take (IntKind.i64.wrap (p.len+(1:Int))-(0:Int)).toNat (List.drop (0:Nat) (p.buf.set ((0:Nat)+p.len.toNat) b)))).fst.block),SV.int
 IntKind.i64 (SI.sym (bI {blocks:=p.blocks,block:=p.block,part:=p.part,len:=IntKind.i64.wrap (p.len+(1:Int)),want:=p.want,buf:=p.buf.set ((0:Nat)+p.len.toNat) b,bad:=p.bad}
 (List.take (IntKind.i64.wrap (p.len+(1:Int))-(0:Int)).toNat (List.drop (0:Nat) (p.buf.set ((0:Nat)+p.len.toNat) b)))).fst.part),SV.int
 IntKind.i64 (SI.sym (bI {blocks:=p.blocks,block:=p.block,part:=p.part,len:=IntKind.i64.wrap (p.len+(1:Int)),want:=p.want,buf:=p.buf.set ((0:Nat)+p.len.toNat) b,bad:=p.bad}
 (List.take (IntKind.i64.wrap (p.len+(1:Int))-(0:Int)).toNat (List.drop (0:Nat) (p.buf.set ((0:Nat)+p.len.toNat) b)))).fst.len),SV.int
 IntKind.i64 (SI.sym (bI {blocks:=p.blocks,block:=p.block,part:=p.part,len:=IntKind.i64.wrap (p.len+(1:Int)),want:=p.want,buf:=p.buf.set ((0:Nat)+p.len.toNat) b,bad:=p.bad}
 (List.take (IntKind.i64.wrap (p.len+(1:Int))-(0:Int)).toNat (List.drop (0:Nat) (p.buf.set ((0:Nat)+p.len.toNat) b)))).fst.want),SV.arr
 (Ty.int IntKind.u8) (4096:Nat) (bI {blocks:=p.blocks,block:=p.block,part:=p.part,len:=IntKind.i64.wrap (p.len+(1:Int)),want:=p.want,buf:=p.buf.set ((0:Nat)+p.len.toNat) b,bad:=p.bad}
 (List.take (IntKind.i64.wrap (p.len+(1:Int))-(0:Int)).toNat (List.drop (0:Nat) (p.buf.set ((0:Nat)+p.len.toNat) b)))).fst.buf,SV.bool
 (SB.sym (bI {blocks:=p.blocks,block:=p.block,part:=p.part,len:=IntKind.i64.wrap (p.len+(1:Int)),want:=p.want,buf:=p.buf.set ((0:Nat)+p.len.toNat) b,bad:=p.bad}
 (List.take (IntKind.i64.wrap (p.len+(1:Int))-(0:Int)).toNat (List.drop (0:Nat) (p.buf.set ((0:Nat)+p.len.toNat) b)))).fst.bad)] (72:
 Nat))])))))))) (End.leaf (LV.cD [VV.agg [SV.int IntKind.i64 (SI.sym (0:Int)),SV.rd true false (Ty.int IntKind.u8) []],VV.sc (SV.bool (SB.sym
 false)),VV.sc (SV.int IntKind.i64 (SI.sym (6:Int)))]) [some (Item.aZ [SV.int IntKind.i64 (SI.sym p.blocks),SV.int IntKind.i64 (SI.sym p.block),
 SV.int IntKind.i64 (SI.sym p.part),SV.int IntKind.i64 (SI.sym p.len),SV.int IntKind.i64 (SI.sym p.want),SV.arr (Ty.int IntKind.u8) (4096:Nat)
 p.buf,SV.bool (SB.sym true)] (72:Nat))]):=by kernel_rfl
def ajY (r:Int×List Int×Bool×Int):LV:= .cD [.agg [.int .i64 (.sym r.1),.rd true false u8 r.2.1],.sc (.bool (.sym r.2.2.1)),.sc (.int .i64 (.sym r.2.2.2))]
noncomputable def Pu:ao:=ao.bS [] pcA Gt fun x h=> .leaf (some (h.1.bad=false→h.1.part≠0→0≤h.1.len∧h.1.len<4096∧h.1.buf.length=4096∧(h.1.part=4→h.1.want=4))) (ajY (br h.1 x.1).2) [(0,pI (br h.1 x.1).1)]
theorem E3:Pu.Ok Tryz.prog 12:=by
 refine (ao.bf Tryz.call12 fun x y Q h=>?_).sym
 obtain ⟨p,_⟩:=y
 obtain ⟨b,_⟩:=x
 obtain ⟨hl,hq⟩:=h
 have hl:p.bad=false→p.part≠0→0≤p.len∧p.len<4096∧p.buf.length=4096∧(p.part=4→p.want=4):=hl
 refine (ay mixed (ak HK (ak ab7 aF)) Tryz.func12 rfl (LT:= []) (ks:= [.fr [.sym],.fr [.rd true u8],tA,.auto]) (aQ.nil _)).use (D:= [(0,pI (br p b).1)]) ?_ hq
 show (aS _ _ _ _ (pcA.wr (b,())) (Gt.wr (p,())) _).sat _
 rw[R8]
 simp only[Nat.zero_add,Int.sub_zero,List.drop_zero]
 have e0:p.bad=true∨p.part=0→br p b=({p with bad:=true},0,[],false,6):=fun h=>if_pos h
 generalize hqq:({p with buf:=p.buf.set p.len.toNat b,len:=IntKind.i64.wrap (p.len+1)}:PP)=q
 generalize hll:List.take (IntKind.i64.wrap (p.len+1)).toNat (p.buf.set p.len.toNat b)=l
 have e1: ¬ (p.bad=true∨p.part=0)→IntKind.i64.wrap (p.len+1)<p.want→br p b=(q,0,[],false,0):=fun h h'=>by
  subst hqq;unfold br;rw[if_neg h];exact if_pos h'
 have e2: ¬ (p.bad=true∨p.part=0)→ ¬ IntKind.i64.wrap (p.len+1)<p.want→(bI q l).2=true→br p b=((bI q l).1,p.part,l,true,0):=fun h h' h2=>by
  subst hqq hll;unfold br;rw[if_neg h];refine (if_neg h').trans ?_;exact if_pos h2
 have e3: ¬ (p.bad=true∨p.part=0)→ ¬ IntKind.i64.wrap (p.len+1)<p.want→(bI q l).2=false→br p b=({(bI q l).1 with bad:=true},0,[],false,6):=fun h h' h2=>by
  subst hqq hll;unfold br;rw[if_neg h];refine (if_neg h').trans ?_;exact if_neg (by rw[h2];simp)
 refine ⟨fun h1=>⟨fun h2=>?_,fun h2=>?_⟩,fun h1=>?_⟩
 ·rw[e0 (.inr (beq_iff_eq.1 h2))];exact ⟨rfl,rfl⟩
 ·have h1':p.bad=false:=beq_iff_eq.1 h1
  have h2':p.part≠0:=by simpa using h2
  have hn: ¬ (p.bad=true∨p.part=0):=by rw[h1'];simp[h2']
  obtain ⟨g1,g2,g3,g4⟩:=hl h1' h2'
  have hw:IntKind.i64.wrap (p.len+1)=p.len+1:=ar (by omega) (by omega)
  have hlen:l.length=(p.len+1).toNat:=by rw[← hll,List.length_take,List.length_set,g3,hw];omega
  refine ⟨⟨g1,g2⟩,fun h3=>?_,fun h3=>⟨⟨by omega,by omega,by omega⟩,by omega,fun h4=>?_,fun h4=>?_,fun h4=>?_⟩⟩
  ·rw[e1 hn (by simpa using h3),← hqq];exact ⟨rfl,rfl⟩
  ·have:=g4 h4
   have h3': ¬ IntKind.i64.wrap (p.len+1)<p.want:=by simpa using h3
   omega
  ·have h3': ¬ IntKind.i64.wrap (p.len+1)<p.want:=by simpa using h3
   rw[e3 hn h3' (by simpa using h4)];exact ⟨rfl,rfl⟩
  ·have h3': ¬ IntKind.i64.wrap (p.len+1)<p.want:=by simpa using h3
   rw[e2 hn h3' (by simpa using h4)];exact ⟨rfl,rfl⟩
 ·rw[e0 (.inl (by simpa using h1))];exact ⟨rfl,rfl⟩
def wO (n:Nat):List Int:=List.replicate n 0
def zP:PP:=⟨0,0,1,0,8,wO 4096,false⟩
noncomputable def ab8:ao:=ao.of [] ag ag fun _ _=> .leaf none (.one (.sc (.ptr 0 0))) [(0,pI zP)]
theorem Xt:aS Tryz.prog [] [] Tryz.f11 [] [] [tA,.auto]=
 End.leaf (LV.one (VV.sc (SV.ptr (0:Nat) (0:Nat)))) [some (Item.aZ [SV.int IntKind.i64 (SI.sym (0:Int)),SV.int IntKind.i64 (SI.sym (0:Int)),
 SV.int IntKind.i64 (SI.sym (1:Int)),SV.int IntKind.i64 (SI.sym (0:Int)),SV.int IntKind.i64 (SI.sym (8:Int)),SV.arr (Ty.int IntKind.u8) (4096:
 Nat) (List.replicate (4096:Nat) (0:Int)),SV.bool (SB.sym false)] (72:Nat))]:=by kernel_rfl
noncomputable def agJ:ao:=ao.bS [] (ae (ai (ax .i64)) ag) ag fun x _=> .leaf none (nI x.1) []
theorem Xu (x:Int):aS Tryz.prog [] [] Tryz.f10 ((ae (ai (ax .i64)) ag).wr (x,())) [] [.auto]=
 End.leaf (LV.one (VV.sc (SV.int IntKind.i64 (SI.sym x)))) []:=by kernel_rfl
theorem Mu:ab8.Ok Tryz.prog 11:=by
 refine ao.bf Tryz.call11 fun x y Q h=>?_
 refine (ay mixed aF Tryz.func11 rfl (LT:= []) (ks:= [tA,.auto]) (aQ.nil _)).use (D:= [(0,pI zP)]) ?_ h.2
 show (aS _ _ _ _ [] [] _).sat _
 rw[Xt]
 exact ⟨rfl,rfl⟩
theorem Pv:agJ.Ok Tryz.prog 10:=by
 refine (ao.bf Tryz.call10 fun x y Q h=>?_).sym
 obtain ⟨x,_⟩:=x
 refine (ay mixed aF Tryz.func10 rfl (LT:= []) (ks:= [.auto]) (aQ.nil _)).use (D:= []) ?_ h.2
 show (aS _ _ _ _ ((ae (ai (ax .i64)) ag).wr (x,())) [] _).sat _
 rw[Xu]
 exact ⟨rfl,rfl⟩
end Go.Proofs.YtjalaohajcpllaaGreat
end
section
set_option linter.unusedVariables false
set_option linter.unusedSimpArgs false
namespace Go.Proofs.YtjalaohajcpllaaGreat
open Go Go.Ev
set_option maxRecDepth 100000
end Go.Proofs.YtjalaohajcpllaaGreat
end
section
set_option linter.unusedVariables false
set_option linter.unusedSimpArgs false
namespace Go.Proofs.YtjalaohajcpllaaGreat
open Go Go.Ev
set_option maxRecDepth 100000
end Go.Proofs.YtjalaohajcpllaaGreat
end
section
set_option linter.unusedVariables false
set_option linter.unusedSimpArgs false
namespace Go.Proofs.YtjalaohajcpllaaGreat
open Go Go.Ev
set_option maxRecDepth 100000
end Go.Proofs.YtjalaohajcpllaaGreat
end
section
set_option linter.unusedVariables false
set_option linter.unusedSimpArgs false
namespace Go.Proofs.YtjalaohajcpllaaGreat
open Go Go.Ev
set_option maxRecDepth 100000
theorem agK {m:Nat} {x y:Int} (uE:0≤x) (hx:x%(2 ^ m:Nat)=0) (yf:0≤y) (hy:y<(2 ^ m:Nat)) (h64:x+y<9223372036854775808):bm .i64 x y=x+y:=by
 unfold bm
 have e:(2 ^ 64:Nat)=18446744073709551616:=by decide
 have h:=KE (n:=64) uE (by omega) hx yf hy (by omega)
 show IntKind.i64.wrap ((BitVec.ofInt 64 x|||BitVec.ofInt 64 y).toNat:Int)=_
 rw[h];exact ar (by omega) (by omega)
theorem agL {l:List Int} {i:Nat} (h0:By (l.getD i 0)) (h1:By (l.getD (i+1) 0)):two l i=l.getD i 0+256*l.getD (i+1) 0:=by
 unfold two
 unfold By at h0 h1
 generalize l.getD i 0=a at*
 generalize l.getD (i+1) 0=b at*
 rw[ar (by omega) (by omega),ar (by omega) (by omega)]
 have e1:shl .i64 b 8=b*256:=by
  have:=gM .i64 b 8 (by simp[IntKind.bits])
  rw[show ((8:Nat):Int)=8 from rfl] at this
  rw[this,ar (by omega) (by omega)]
  rfl
 rw[e1,iQ,agK (m:=8) (by omega) (by omega) (by omega) (by omega) (by omega)]
 omega
theorem take_set {l:List Int} {k:Nat} (b:Int) (h:k<l.length):(l.set k b).take (k+1)=l.take k++ [b]:=by
 rw[List.take_add_one,List.take_set_of_le (Nat.le_refl _)]
 simp[h]
end Go.Proofs.YtjalaohajcpllaaGreat
end
section
set_option linter.unusedVariables false
set_option linter.unusedSimpArgs false
namespace Go.Proofs.YtjalaohajcpllaaGreat
open Go Go.Ev
set_option maxRecDepth 1000000
def ck (b:List Int) (plain:Int):Int×List Int:=if (aG b plain).1≠0 then ((aG b plain).1,[]) else (0,iu (aG b plain).2)
theorem tB {b:List Int} {plain:Int}:(aG b plain).2.length<1099511627776:=by
 unfold aG
 by_cases hp:plain<0∨8192<plain
 ·rw[if_pos hp];simp
 ·rw[if_neg hp]
  have k:=(fE 200000 plain 0 b (0,4294967295,4) r0H (bo 8) (bo 8) (bo 6) [] abP (fun x h=>by simp at h) (by omega) (by simp)).2
  have k:((cY b plain).1.length:Int)≤max plain 0:=k
  split
  ·simp only;omega
  ·simp
abbrev zQ:Type:=Int
noncomputable abbrev zR (x:zQ):LV:=LV.cD [VV.sc (SV.gH (Value.slice none 0 0)),VV.sc (SV.int IntKind.i64 (SI.sym x))]
noncomputable abbrev zS (x:zQ):List (Nat×Ev.Item):= []
abbrev zT:Type:=Int×(List Int)
noncomputable abbrev zU (x:zT):LV:=LV.cD [VV.sc (SV.sl 0 0),VV.sc (SV.int IntKind.i64 (SI.sym x.1))]
noncomputable abbrev zV (x:zT):List (Nat×Ev.Item):= [(0,Item.own 0 (Ty.int IntKind.u8) x.2)]
noncomputable def pQ (b:List Int) (plain:Int):Tr (zQ⊕zT):=(.ite (decide ¬(aG b plain).fst=0) (.need (iw b
 plain) (.ite ((aG b plain).fst !=0) (.ret (.inl ((aG b plain).fst))) (.need (iv []) (.ret (.inr (0,iu [])))))) (.need (iw
 b plain) (.ite ((0:Int)!=0) (.ret (.inl (0))) (.need (iv (aG b plain).snd) (.ret (.inr (0,iu (aG b plain).snd)))))))
theorem Im (b:List Int) (plain:Int):aS Tryz.prog [(23,Pg),(24,DT)] [] Tryz.f38 (((ae (ai (eS false false u8)) (ae (ai (ax .i64)) ag))).wr (b,plain,())) ((ag).wr (())) [.fr [.sym],.syms,.auto,.aD]=(pQ b plain).end (Sum.elim zR zU) (Sum.elim zS zV) ((ag).wr (())):=by kernel_rfl
theorem Mv (b:List Int) (plain:Int):aQ Tryz.prog ((ag).wr (())) [] (aJ Tryz.f38):=(aQ.nil _)
abbrev iC (b:List Int) (plain:Int):Prop:=aB b∧b.length<1099511627776
noncomputable def Pw:ao:=ao.bS [some u8,none] ((ae (ai (eS false false u8)) (ae (ai (ax .i64)) ag))) (ag) fun x_ y_=> .ite ((fun (b:List Int) (plain:Int)=>decide ((ck b plain).1≠0)) x_.1 x_.2.1) (.leaf (some ((fun (b:List Int) (plain:Int)=>iC b plain) x_.1 x_.2.1)) (zR ((fun (b:List Int) (plain:Int)=>(ck b plain).1) x_.1 x_.2.1)) (zS ((fun (b:List Int) (plain:Int)=>(ck b plain).1) x_.1 x_.2.1))) (.leaf (some ((fun (b:List Int) (plain:Int)=>iC b plain) x_.1 x_.2.1)) (zU ((fun (b:List Int) (plain:Int)=>(0,(ck b plain).2)) x_.1 x_.2.1)) (zV ((fun (b:List Int) (plain:Int)=>(0,(ck b plain).2)) x_.1 x_.2.1)))
theorem R9 (b:List Int) (plain:Int) (h_:iC b plain):(decide ((ck b plain).1≠0)=true→(pQ b plain).Is (.inl ((ck b plain).1)))∧(decide ((ck b plain).1≠0)=false→(pQ b plain).Is (.inr ((0,(ck b plain).2)))):=by
 have hl:=tB (b:=b) (plain:=plain)
 have p0:iw b plain:=h_
 by_cases c:(aG b plain).1=0
 ·have e:ck b plain=(0,iu (aG b plain).2):=by unfold ck;rw[if_neg (by simpa using c)]
  simp only[e,pQ,cQ,an,al]
  simp[c];exact ⟨p0,hl⟩
 ·have e:ck b plain=((aG b plain).1,[]):=by unfold ck;rw[if_pos c]
  simp only[e,pQ,cQ,an,al]
  simp[c];exact p0
theorem Sa:Pw.Ok Tryz.prog 38:=
 yS (tys:= [some u8,none]) (A:=(ae (ai (eS false false u8)) (ae (ai (ax .i64)) ag))) (H:=ag) (LT:=fun x_ y_=>(fun (b:List Int) (plain:Int)=> []) x_.1 x_.2.1) (ks:= [.fr [.sym],.syms,.auto,.aD]) (V:=zR) (D:=zS) (V':=zU) (D':=zV) (T:=fun x_ y_=>pQ x_.1 x_.2.1) (pre:=fun x_ y_=>(fun (b:List Int) (plain:Int)=>iC b plain) x_.1 x_.2.1) (c:=fun x_ y_=>(fun (b:List Int) (plain:Int)=>decide ((ck b plain).1≠0)) x_.1 x_.2.1) (sp:=fun x_ y_=>(fun (b:List Int) (plain:Int)=>(ck b plain).1) x_.1 x_.2.1) (sp':=fun x_ y_=>(fun (b:List Int) (plain:Int)=>(0,(ck b plain).2)) x_.1 x_.2.1) mixed ((ak RM (ak B4 aF))) Tryz.func38 (by kernel_rfl) Tryz.call38 (fun x_ y_=>Mv x_.1 x_.2.1) (fun x_ y_=>Im x_.1 x_.2.1) (fun x_ y_ h=>R9 x_.1 x_.2.1 h)
def aI (b:List Int):Int×List Int×Int:=
 if b.length<4 then (16,[],0)
 else if dx b=false then (6,[],0)
 else if (b.length:Int)<4+two b 0 then (16,[],0)
 else if (ck ((b.drop 4).take (two b 0).toNat) (two b 2)).1≠0 then ((ck ((b.drop 4).take (two b 0).toNat) (two b 2)).1,[],0)
 else (0,(ck ((b.drop 4).take (two b 0).toNat) (two b 2)).2,4+two b 0)
theorem Px {b:List Int} (h:aB b) (n m:Nat):aB ((b.drop n).take m):=fun z hz=>h z (List.mem_of_mem_drop (List.mem_of_mem_take hz))
theorem Xv {b:List Int} (h:dx b=true):1≤two b 0∧two b 0≤4096:=by
 have:=of_decide_eq_true h;omega
end Go.Proofs.YtjalaohajcpllaaGreat
end
section
set_option linter.unusedVariables false
set_option linter.unusedSimpArgs false
namespace Go.Proofs.YtjalaohajcpllaaGreat
open Go Go.Ev
set_option maxRecDepth 100000
abbrev uiC:ba (List LV) (Int×Int×Unit):=ae (ai (ax .u64)) (ae (ai (ax .i64)) ag)
abbrev u3C:ba (List LV) (Int×Int×Int×Unit):=ae (ai (ax .u64)) (ae (ai (ax .u64)) (ae (ai (ax .u64)) ag))
abbrev Sb:ba (List LV) (Int×Int×Int×Int×Unit):=ae (ai (ax .u64)) (ae (ai (ax .i64)) (ae (ai (ax .i64)) (ae (ai (ax .i64)) ag)))
def Py (x k:Int):Int:=bm .u64 (shl .u64 x (bp .u64 (IntKind.u64.wrap k) 63)) (shr .u64 x (IntKind.u64.wrap (64-bp .u64 (IntKind.u64.wrap k) 63)))
theorem aeY (k:Int):bp .u64 (IntKind.u64.wrap k) 63=k%64:=by
 rw[rW (m:=6) (by decide) _ _ (by decide),lA]
 exact Int.emod_emod_of_dvd _ (by decide)
def vJ (x n:Int):Int:=bm .u64 (shl .u64 x (64-n)) (shr .u64 x n)
theorem Xw {x n:Int} (h0:0<n) (h1:n<64):Py x (IntKind.i64.wrap (0-n))=vJ x n:=by
 unfold Py vJ
 have e:bp .u64 (IntKind.u64.wrap (IntKind.i64.wrap (0-n))) 63=64-n:=by
  rw[aeY,wrap_i64 (by omega) (by omega)];omega
 rw[e,wrap_u64 (by omega) (by omega),show (64:Int)-(64-n)=n from by omega]
noncomputable def aeZ:ao:=ao.bS [] (uiC) (ag) fun x_ y_=>(fun (x k:Int)=> .leaf none (nU (Py x k)) []) x_.1 x_.2.1
theorem Sc (x k:Int):aS Tryz.prog [] [] Tryz.f179 ((uiC).wr (x,k,())) ((ag).wr ()) [.fr [.sym],.auto]=
 End.need ((0:Int)≤bp IntKind.u64 (IntKind.u64.wrap k) (63:Int)) (End.need ((0:Int)≤IntKind.u64.wrap ((64:Int)-bp IntKind.u64
 (IntKind.u64.wrap k) (63:Int))) (End.leaf (LV.one (VV.sc (SV.int IntKind.u64 (SI.sym (bm IntKind.u64 (shl IntKind.u64 x (bp IntKind.u64
 (IntKind.u64.wrap k) (63:Int))) (shr IntKind.u64 x (IntKind.u64.wrap ((64:Int)-bp IntKind.u64 (IntKind.u64.wrap k) (63:Int))))))))) [])):=by kernel_rfl
theorem ab9:aeZ.Ok Tryz.prog 179:=by
 refine (ao.bf Tryz.call179 fun x_ y_ Q H_=>?_).sym
 obtain ⟨x,k,_⟩:=x_
 have hq:=H_.2
 refine (ay mixed aF Tryz.func179 rfl (LT:= []) (ks:= [.fr [.sym],.auto]) (aQ.nil _)).use (D:= []) ?_ hq
 show (aS _ _ _ _ ((uiC).wr (x,k,())) ((ag).wr ()) _).sat _
 rw[Sc]
 have e:=aeY k
 refine ⟨by omega,by rw[e,wrap_u64 (by omega) (by omega)];omega,rfl,rfl⟩
noncomputable def Xx:ao:=ao.bS [] (uiC) (ag) fun x_ y_=>(fun (x k:Int)=> .leaf (some (0<k∧k<64)) (nU (vJ x k)) []) x_.1 x_.2.1
theorem Sd (x k:Int):aS Tryz.prog [(179,aeZ)] [] Tryz.f172 ((uiC).wr (x,k,())) ((ag).wr ()) [.fr [.sym],.auto]=
 End.leaf (LV.one (VV.sc (SV.int IntKind.u64 (SI.sym (Py x (IntKind.i64.wrap ((0:Int)-k.tmod (64:Int)))))))) []:=by kernel_rfl
theorem Pz:Xx.Ok Tryz.prog 172:=by
 refine (ao.bf Tryz.call172 fun x_ y_ Q H_=>?_).sym
 obtain ⟨x,k,_⟩:=x_
 obtain ⟨hn,hq⟩:=H_
 have hn:0<k∧k<64:=hn
 refine (ay mixed ((ak ab9 aF)) Tryz.func172 rfl (LT:= []) (ks:= [.fr [.sym],.auto]) (aQ.nil _)).use (D:= []) ?_ hq
 show (aS _ _ _ _ ((uiC).wr (x,k,())) ((ag).wr ()) _).sat _
 rw[Sd]
 have e:k.tmod 64=k:=by rw[Int.tmod_eq_emod_of_nonneg (by omega)];omega
 rw[e,Xw hn.1 hn.2]
 exact ⟨rfl,rfl⟩
def chF (x y z:Int):Int:=c9 .u64 (bp .u64 x y) (bp .u64 (c9 .u64 18446744073709551615 x) z)
def agM (x y z:Int):Int:=c9 .u64 (c9 .u64 (bp .u64 x y) (bp .u64 x z)) (bp .u64 y z)
noncomputable def chE:ao:=ao.bS [] (u3C) (ag) fun x_ y_=>(fun (x y z:Int)=> .leaf none (nU (chF x y z)) []) x_.1 x_.2.1 x_.2.2.1
theorem aca (x y z:Int):aS Tryz.prog [] [] Tryz.f148 ((u3C).wr (x,y,z,())) ((ag).wr ()) [.fr [.sym],.auto]=
 End.leaf (LV.one (VV.sc (SV.int IntKind.u64 (SI.sym (c9 IntKind.u64 (bp IntKind.u64 x y) (bp IntKind.u64 (c9 IntKind.u64
 (18446744073709551615:Int) x) z)))))) []:=by kernel_rfl
theorem ajZ:chE.Ok Tryz.prog 148:=by
 refine (ao.bf Tryz.call148 fun x_ y_ Q H_=>?_).sym
 obtain ⟨x,y,z,_⟩:=x_
 have hq:=H_.2
 refine (ay mixed aF Tryz.func148 rfl (LT:= []) (ks:= [.fr [.sym],.auto]) (aQ.nil _)).use (D:= []) ?_ hq
 show (aS _ _ _ _ ((u3C).wr (x,y,z,())) ((ag).wr ()) _).sat _
 rw[aca]
 exact ⟨rfl,rfl⟩
noncomputable def aj0:ao:=ao.bS [] (u3C) (ag) fun x_ y_=>(fun (x y z:Int)=> .leaf none (nU (agM x y z)) []) x_.1 x_.2.1 x_.2.2.1
theorem Xy (x y z:Int):aS Tryz.prog [] [] Tryz.f149 ((u3C).wr (x,y,z,())) ((ag).wr ()) [.fr [.sym],.auto]=
 End.leaf (LV.one (VV.sc (SV.int IntKind.u64 (SI.sym (c9 IntKind.u64 (c9 IntKind.u64 (bp IntKind.u64 x y) (bp IntKind.u64 x z)) (bp
 IntKind.u64 y z)))))) []:=by kernel_rfl
theorem agN:aj0.Ok Tryz.prog 149:=by
 refine (ao.bf Tryz.call149 fun x_ y_ Q H_=>?_).sym
 obtain ⟨x,y,z,_⟩:=x_
 have hq:=H_.2
 refine (ay mixed aF Tryz.func149 rfl (LT:= []) (ks:= [.fr [.sym],.auto]) (aQ.nil _)).use (D:= []) ?_ hq
 show (aS _ _ _ _ ((u3C).wr (x,y,z,())) ((ag).wr ()) _).sat _
 rw[Xy]
 exact ⟨rfl,rfl⟩
def zW (x a b d:Int):Int:=c9 .u64 (c9 .u64 (vJ x a) (vJ x b)) (shr .u64 x d)
def vK (x a b d:Int):Int:=c9 .u64 (c9 .u64 (vJ x a) (vJ x b)) (vJ x d)
noncomputable def Xz:ao:=ao.bS [] (Sb) (ag) fun x_ y_=>(fun (x a b d:Int)=> .leaf (some (0<a∧a<64∧0<b∧b<64∧0≤d)) (nU (zW x a b d)) []) x_.1 x_.2.1 x_.2.2.1 x_.2.2.2.1
theorem Mw (x a b d:Int):aS Tryz.prog [(172,Xx)] [] Tryz.f171 ((Sb).wr (x,a,b,d,())) ((ag).wr ()) [.fr [.sym],.auto]=
 End.need ((0:Int)<a∧a<(64:Int)) (End.need ((0:Int)<b∧b<(64:Int)) (End.need ((0:Int)≤d) (End.leaf (LV.one (VV.sc (SV.int
 IntKind.u64 (SI.sym (c9 IntKind.u64 (c9 IntKind.u64 (vJ x a) (vJ x b)) (shr IntKind.u64 x d)))))) []))):=by kernel_rfl
theorem XA:Xz.Ok Tryz.prog 171:=by
 refine (ao.bf Tryz.call171 fun x_ y_ Q H_=>?_).sym
 obtain ⟨x,a,b,d,_⟩:=x_
 obtain ⟨hn,hq⟩:=H_
 have hn:0<a∧a<64∧0<b∧b<64∧0≤d:=hn
 refine (ay mixed ((ak Pz aF)) Tryz.func171 rfl (LT:= []) (ks:= [.fr [.sym],.auto]) (aQ.nil _)).use (D:= []) ?_ hq
 show (aS _ _ _ _ ((Sb).wr (x,a,b,d,())) ((ag).wr ()) _).sat _
 rw[Mw]
 exact ⟨⟨hn.1,hn.2.1⟩,⟨hn.2.2.1,hn.2.2.2.1⟩,hn.2.2.2.2,rfl,rfl⟩
noncomputable def XB:ao:=ao.bS [] (Sb) (ag) fun x_ y_=>(fun (x a b d:Int)=> .leaf (some (0<a∧a<64∧0<b∧b<64∧0<d∧d<64)) (nU (vK x a b d)) []) x_.1 x_.2.1 x_.2.2.1 x_.2.2.2.1
theorem Mx (x a b d:Int):aS Tryz.prog [(172,Xx)] [] Tryz.f147 ((Sb).wr (x,a,b,d,())) ((ag).wr ()) [.fr [.sym],.auto]=
 End.need ((0:Int)<a∧a<(64:Int)) (End.need ((0:Int)<b∧b<(64:Int)) (End.need ((0:Int)<d∧d<(64:Int)) (End.leaf (LV.one
 (VV.sc (SV.int IntKind.u64 (SI.sym (c9 IntKind.u64 (c9 IntKind.u64 (vJ x a) (vJ x b)) (vJ x d)))))) []))):=by kernel_rfl
theorem XC:XB.Ok Tryz.prog 147:=by
 refine (ao.bf Tryz.call147 fun x_ y_ Q H_=>?_).sym
 obtain ⟨x,a,b,d,_⟩:=x_
 obtain ⟨hn,hq⟩:=H_
 have hn:0<a∧a<64∧0<b∧b<64∧0<d∧d<64:=hn
 refine (ay mixed ((ak Pz aF)) Tryz.func147 rfl (LT:= []) (ks:= [.fr [.sym],.auto]) (aQ.nil _)).use (D:= []) ?_ hq
 show (aS _ _ _ _ ((Sb).wr (x,a,b,d,())) ((ag).wr ()) _).sat _
 rw[Mx]
 exact ⟨⟨hn.1,hn.2.1⟩,⟨hn.2.2.1,hn.2.2.2.1⟩,hn.2.2.2.2,rfl,rfl⟩
end Go.Proofs.YtjalaohajcpllaaGreat
end
section
set_option linter.unusedVariables false
set_option linter.unusedSimpArgs false
namespace Go.Proofs.YtjalaohajcpllaaGreat
open Go Go.Ev
set_option maxRecDepth 100000
def kv:List Int:= [4794697086780616226,8158064640168781261,13096744586834688815,16840607885511220156,4131703408338449720,6480981068601479193,10538285296894168987,12329834152419229976,15566598209576043074,1334009975649890238,2608012711638119052,6128411473006802146,8268148722764581231,9286055187155687089,11230858885718282805,13951009754708518548,16472876342353939154,17275323862435702243,1135362057144423861,2597628984639134821,3308224258029322869,5365058923640841347,6679025012923562964,8573033837759648693,10970295158949994411,12119686244451234320,12683024718118986047,13788192230050041572,14330467153632333762,15395433587784984357,489312712824947311,1452737877330783856,2861767655752347644,3322285676063803686,5560940570517711597,5996557281743188959,7280758554555802590,8532644243296465576,9350256976987008742,10552545826968843579,11727347734174303076,12113106623233404929,14000437183269869457,14369950271660146224,15101387698204529176,15463397548674623760,17586052441742319658,1182934255886127544,1847814050463011016,2177327727835720531,2830643537854262169,3796741975233480872,4115178125766777443,5681478168544905931,6601373596472566643,7507060721942968483,8399075790359081724,8693463985226723168,9568029438360202098,10144078919501101548,10430055236837252648,11840083180663258601,13761210420658862357,14299343276471374635,14566680578165727644,15097957966210449927,16922976911328602910,17689382322260857208,500013540394364858,748580250866718886,1242879168328830382,1977374033974150939,2944078676154940804,3659926193048069267,4368137639120453308,4836135668995329356,5532061633213252278,6448918945643986474,6902733635092675308,7801388544844847127]
def zX:List Int:= [7640891576956012808,13503953896175478587,4354685564936845355,11912009170470909681,5840696475078001361,11170449401992604703,2270897969802886507,6620516959819538809]
noncomputable def XD:ao:=ao.bS [] ag ag fun _ _=> .leaf none (iq .u64 8 zX) []
noncomputable def PA:ao:=ao.bS [] ag ag fun _ _=> .leaf none (iq .u64 80 kv) []
theorem My:aS Tryz.prog [] [] Tryz.f72 (ag.wr ()) (ag.wr ()) [.fr [.sym],.kJ 0 0 8 .u64,.auto]= .leaf (iq .u64 8 zX) []:=by kernel_rfl
theorem Io:aS Tryz.prog [] [] Tryz.f145 (ag.wr ()) (ag.wr ()) [.fr [.sym],.auto]= .leaf (iq .u64 80 kv) []:=by kernel_rfl
theorem XE:XD.Ok Tryz.prog 72:=by
 refine (ao.bf Tryz.call72 fun x_ y_ Q h=>?_).sym
 refine (ay mixed aF Tryz.func72 rfl (LT:= []) (ks:= [.fr [.sym],.kJ 0 0 8 .u64,.auto]) (aQ.nil _)).use (D:= []) ?_ h.2
 show (aS _ _ _ _ (ag.wr ()) (ag.wr ()) _).sat _
 rw[My]
 exact ⟨rfl,rfl⟩
theorem Se:PA.Ok Tryz.prog 145:=by
 refine (ao.bf Tryz.call145 fun x_ y_ Q h=>?_).sym
 refine (ay mixed aF Tryz.func145 rfl (LT:= []) (ks:= [.fr [.sym],.auto]) (aQ.nil _)).use (D:= []) ?_ h.2
 show (aS _ _ _ _ (ag.wr ()) (ag.wr ()) _).sat _
 rw[Io]
 exact ⟨rfl,rfl⟩
def PB (b:List Int) (k:Nat) (m:List Int):List Int:=m.set (k/8) (bm .u64 (shl .u64 (m.getD (k/8) 0) 8) (IntKind.u64.wrap (b.getD k 0)))
def ow (b:List Int):List Int:=upto (PB b) 0 128 (List.replicate 16 0)
theorem E5 (b:List Int) (k:Nat) (m:List Int):(PB b k m).length=m.length:=by simp[PB]
noncomputable abbrev aj1:Func:=Tryz.f110
abbrev woC:ba (List LV) (List Int×Int×Int×Unit):=(jk 2 (aj (ai (aP 0 0)) (jk 1 (aj (ai (aP 1 0)) (jk 6 (ae (ai (eS false false u8)) (ae (ai (ax .i64)) (ae (ai (ax .i64)) (jk 17 ag)))))))))
abbrev aj3:Wk:= .fr (dA 31 [(2,.aq),(4,.aq),(11,.aq),(12,.sym),(13,.sym)])
abbrev woX:ba (List LV) (Unit):=(jk 2 (aj (ai (aP 0 0)) (jk 1 (aj (ai (aP 1 0)) (jk 26 ag)))))
abbrev aod:Wk:= .fr (dA 31 [(2,.aq),(4,.aq)])
abbrev woH:ba Hp (List Int×List Int×Unit):=ae (qd 172 .u64 16) (ae (qd 172 .u64 16) ag)
def woW:Exit→List Wk
 | .normal=> [aj3,.iP 0 0 16 .u64,.iP 1 0 16 .u64,.auto]
 | .exit 0=> [aod,.auto]
 |_=> []
theorem agO (b:List Int) (n i:Int) (r m:List Int):dR Tryz.prog [] [] aj1 0 [] woW ((bG woC woH).wr ((b,n,i,()),(r,m,())))=
 aU.ite (decide (i<n)) (aU.need ((0:Int)≤i∧i<(↑b.length:Int)) (aU.need ((0:Int)≤IntKind.i64.wrap (i.tdiv (8:Int))∧
 IntKind.i64.wrap (i.tdiv (8:Int))<(16:Int)) (aU.need ((0:Int)≤IntKind.i64.wrap (i.tdiv (8:Int))∧IntKind.i64.wrap (i.tdiv (8:Int))<
 (16:Int)) (aU.leaf Exit.normal ((bG woC woH).wr ((b,n,IntKind.i64.wrap (i+(1:Int)),PUnit.unit),r,m.set ((0:Nat)+(IntKind.i64.wrap
 (i.tdiv (8:Int))).toNat) (bm IntKind.u64 (shl IntKind.u64 ((List.take (16:Nat) (List.drop (0:Nat) m)).getD (IntKind.i64.wrap (i.tdiv (8:
 Int))).toNat (0:Int)) (8:Int)) (IntKind.u64.wrap (b.getD i.toNat (0:Int)))),PUnit.unit)))))) (aU.leaf (Exit.exit (0:Nat)) ((bG woX woH).wr
 (PUnit.unit,r,m,PUnit.unit))):=by kernel_rfl
noncomputable def woF (x:(List Int×Int×Int×Unit)×List Int×List Int×Unit):aU:=
 .need (x.1.1.length=128∧x.1.2.1=128∧x.1.2.2.1=0∧x.2.2.1=List.replicate 16 0) (.leaf (.exit 0) ((bG woX woH).wr ((),(x.2.1,ow x.1.1,()))))
theorem acb (x):Ex Tryz.prog [] (.loop (aW aj1 0)) ((bG woC woH).wr x) (woF x):=by
 obtain ⟨⟨b,n,i,_⟩,r,m,_⟩:=x
 refine Ex.need fun ⟨h1,h2,h3,h4⟩=>?_
 simp only at h1 h2 h3 h4
 subst h2 h3 h4
 refine gL (ws:=woW) (hp:= []) mixed aF (aQ.nil _) 128 (fun k m=>(bG woC woH).wr ((b,128,(k:Int),()),(r,m,()))) (fun m=>(bG woX woH).wr ((),(r,m,()))) (PB b) (fun _ m=>m.length=16)
  (fun k m R hk hm hn hx=>?_) (fun k m _ hm=>by rw[E5];exact hm) 0 (List.replicate 16 0) (by omega) (by simp)
 rw[agO]
 refine ⟨fun hb=>?_,fun hb=>?_⟩
 ·have fD:k<128:=by have:=of_decide_eq_true hb;omega
  have e:IntKind.i64.wrap ((k:Int).tdiv 8)=((k/8:Nat):Int):=jK k 8 (by omega)
  rw[e,bN hm,dS k (by omega)]
  simp only[Int.toNat_natCast,Nat.zero_add]
  exact ⟨by omega,by omega,by omega,hn fD⟩
 ·have:k=128:=by have:=of_decide_eq_false hb;omega
  exact hx this
noncomputable abbrev aj4:fk:= [(0,fI (bG woC woH) 0 [aj3,.iP 0 0 16 .u64,.iP 1 0 16 .u64,.auto] woF)]
noncomputable def XF:ao:=ao.bS [some u8] (bA) (ag) fun x_ y_=>(fun (b:List Int)=> .leaf (some (b.length=128)) (.cD [.agg [.arr (.int .u64) 16 (ow b)],.sc (.bool (.sym true))]) []) x_.1
theorem Mz (b:List Int):aS Tryz.prog [] aj4 Tryz.f110 ((bA).wr (b,())) ((ag).wr ()) [.fr [.sym],.kJ 0 0 16 .u64,.auto]=
 End.ite ((↑b.length:Int)!=(128:Int)) (End.leaf (LV.cD [VV.agg [SV.arr (Ty.int IntKind.u64) (16:Nat) [(0:Int),(0:Int),(0:Int),(0:
 Int),(0:Int),(0:Int),(0:Int),(0:Int),(0:Int),(0:Int),(0:Int),(0:Int),(0:Int),(0:Int),(0:Int),(0:Int)]],VV.sc
 (SV.bool (SB.sym false))]) []) (End.need (b.length=(128:Nat)∧(↑b.length:Int)=(128:Int)∧(0:Int)=(0:Int)∧ [(0:Int),(0:Int),(0
 :Int),(0:Int),(0:Int),(0:Int),(0:Int),(0:Int),(0:Int),(0:Int),(0:Int),(0:Int),(0:Int),(0:Int),(0:Int),(0:Int)]
 =List.replicate (16:Nat) (0:Int)) (End.leaf (LV.cD [VV.agg [SV.arr (Ty.int IntKind.u64) (16:Nat) (ow b)],VV.sc (SV.bool (SB.sym true))])
 [])):=by kernel_rfl
theorem XG:XF.Ok Tryz.prog 110:=by
 refine (ao.bf Tryz.call110 fun x_ y_ Q H_=>?_).sym
 obtain ⟨b,_⟩:=x_
 obtain ⟨hn,hq⟩:=H_
 have hn:b.length=128:=hn
 refine (ay mixed aF Tryz.func110 rfl (LT:=aj4) (ks:= [.fr [.sym],.kJ 0 0 16 .u64,.auto]) (aQ.cO (nx rfl (cP (hp:= []) acb) pc))).use (D:= []) ?_ hq
 show (aS _ _ _ _ ((bA).wr (b,())) ((ag).wr ()) _).sat _
 rw[Mz]
 refine ⟨fun h=>?_,fun h=>⟨⟨hn,by omega,rfl,rfl⟩,rfl,rfl⟩⟩
 simp[hn] at h
def MA (t:Nat) (w:List Int):List Int:=w.set t (IntKind.u64.wrap (IntKind.u64.wrap (IntKind.u64.wrap (zW (w.getD (t-2) 0) 19 61 6+w.getD (t-7) 0)+zW (w.getD (t-15) 0) 1 8 7)+w.getD (t-16) 0))
def iD (m:List Int):List Int:=upto MA 16 64 (m++List.replicate 64 0)
noncomputable abbrev aj5:Func:=Tryz.f146
abbrev scA:ba (List LV) (List Int×Unit):=ae (KC .u64 16) ag
abbrev scC:ba (List LV) (Int×Unit):=(jk 2 (aj (ai (aP 0 0)) (aj (ai (aP 1 0)) (ae (ai (ax .i64)) (jk 31 ag)))))
abbrev aj7:Wk:= .fr (dA 36 [(2,.aq),(3,.aq),(4,.sym)])
abbrev scX:ba (List LV) (Unit):=(jk 2 (aj (ai (aP 0 0)) (aj (ai (aP 1 0)) (jk 32 ag))))
abbrev aog:Wk:= .fr (dA 36 [(2,.aq),(3,.aq)])
abbrev scH:ba Hp (List Int×List Int×Unit):=ae (qd 205 .u64 80) (ae (qd 205 .u64 80) ag)
noncomputable abbrev XH:List (FuncId×ao):= [(171,Xz)]
theorem Ip: ∀ p∈XH,p.2.Ok Tryz.prog p.1:=ak XA aF
def scW:Exit→List Wk
 | .normal=> [aj7,.auto]
 | .exit 0=> [aog,.auto]
 |_=> []
theorem agP (t:Int) (r w:List Int):dR Tryz.prog XH [] aj5 0 [] scW ((bG scC scH).wr ((t,()),(r,w,())))=
 aU.ite (decide (t<(80:Int))) (aU.need ((0:Int)≤IntKind.i64.wrap (t-(2:Int))∧IntKind.i64.wrap (t-(2:Int))<(80:Int)) (aU.need
 ((0:Int)<(19:Int)∧(19:Int)<(64:Int)∧(0:Int)<(61:Int)∧(61:Int)<(64:Int)∧(0:Int)≤(6:Int)) (aU.need ((0:Int)≤
 IntKind.i64.wrap (t-(7:Int))∧IntKind.i64.wrap (t-(7:Int))<(80:Int)) (aU.need ((0:Int)≤IntKind.i64.wrap (t-(15:Int))∧
 IntKind.i64.wrap (t-(15:Int))<(80:Int)) (aU.need ((0:Int)<(1:Int)∧(1:Int)<(64:Int)∧(0:Int)<(8:Int)∧(8:Int)<(64:
 Int)∧(0:Int)≤(7:Int)) (aU.need ((0:Int)≤IntKind.i64.wrap (t-(16:Int))∧IntKind.i64.wrap (t-(16:Int))<(80:Int)) (aU.need ((0
 :Int)≤t∧t<(80:Int)) (aU.leaf Exit.normal ((bG scC scH).wr ((IntKind.i64.wrap (t+(1:Int)),PUnit.unit),r,w.set ((0:Nat)+t.toNat)
 (IntKind.u64.wrap (IntKind.u64.wrap (IntKind.u64.wrap (zW ((List.take (80:Nat) (List.drop (0:Nat) w)).getD (IntKind.i64.wrap (t-(2:
 Int))).toNat (0:Int)) (19:Int) (61:Int) (6:Int)+(List.take (80:Nat) (List.drop (0:Nat) w)).getD (IntKind.i64.wrap (t-(7:Int))).toNat
 (0:Int))+zW ((List.take (80:Nat) (List.drop (0:Nat) w)).getD (IntKind.i64.wrap (t-(15:Int))).toNat (0:Int)) (1:Int) (8:Int) (7:
 Int))+(List.take (80:Nat) (List.drop (0:Nat) w)).getD (IntKind.i64.wrap (t-(16:Int))).toNat (0:Int))),PUnit.unit)))))))))) (aU.leaf
 (Exit.exit (0:Nat)) ((bG scX scH).wr (PUnit.unit,r,w,PUnit.unit))):=by kernel_rfl
noncomputable def scF (x:(Int×Unit)×List Int×List Int×Unit):aU:=
 .need (x.1.1=16∧x.2.2.1.length=80) (.leaf (.exit 0) ((bG scX scH).wr ((),(x.2.1,upto MA 16 64 x.2.2.1,()))))
theorem wP (t:Nat) (w:List Int):(MA t w).length=w.length:=by simp[MA]
theorem acd (x):Ex Tryz.prog [] (.loop (aW aj5 0)) ((bG scC scH).wr x) (scF x):=by
 obtain ⟨⟨i,_⟩,r,w,_⟩:=x
 refine Ex.need fun ⟨h1,h2⟩=>?_
 simp only at h1 h2
 subst h1
 refine gL (ws:=scW) (hp:= []) mixed Ip (aQ.nil _) 80 (fun k w=>(bG scC scH).wr (((k:Int),()),(r,w,()))) (fun w=>(bG scX scH).wr ((),(r,w,()))) MA (fun k w=>16≤k∧w.length=80)
  (fun k w R hk hm hn hx=>?_) (fun k m _ hm=>⟨by omega,by rw[wP];exact hm.2⟩) 16 w (by omega) ⟨by omega,h2⟩
 obtain ⟨h16,hm⟩:=hm
 rw[agP]
 refine ⟨fun hb=>?_,fun hb=>?_⟩
 ·have fD:k<80:=by have:=of_decide_eq_true hb;omega
  have e2:IntKind.i64.wrap ((k:Int)-2)=((k-2:Nat):Int):=rX k 2 (by omega) (by omega)
  have e7:IntKind.i64.wrap ((k:Int)-7)=((k-7:Nat):Int):=rX k 7 (by omega) (by omega)
  have e15:IntKind.i64.wrap ((k:Int)-15)=((k-15:Nat):Int):=rX k 15 (by omega) (by omega)
  have e16:IntKind.i64.wrap ((k:Int)-16)=((k-16:Nat):Int):=rX k 16 (by omega) (by omega)
  rw[e2,e7,e15,e16,bN hm,dS k (by omega)]
  simp only[Int.toNat_natCast,Nat.zero_add]
  exact ⟨by omega,by decide,by omega,by omega,by decide,by omega,by omega,hn fD⟩
 ·have:k=80:=by have:=of_decide_eq_false hb;omega
  exact hx this
noncomputable abbrev aj8:fk:= [(0,fI (bG scC scH) 0 [aj7,.auto] scF)]
noncomputable def XI:ao:=ao.bS [] (scA) (ag) fun x_ y_=>(fun (m:List Int)=> .leaf (some (m.length=16)) (iq .u64 80 (iD m)) []) x_.1
theorem MB (m:List Int):aS Tryz.prog XH aj8 Tryz.f146 ((scA).wr (m,())) ((ag).wr ()) [.fr [.sym],.auto]=
 End.need ((0:Int)≤(0:Int)∧(0:Int)≤(80:Int)∧(80:Int)≤(80:Int)) (End.need ((0:Int)≤(0:Int)∧(0:Int)≤(16:Int)∧(16:
 Int)≤(16:Int)) (End.need ((16:Int)=(16:Int)∧(List.take (0:Nat) (List.replicate (80:Nat) (0:Int))++(List.take (80:Nat) (List.take
 (16:Nat) (List.drop (0:Nat) m))++List.drop ((0:Nat)+if (80:Nat)≤(List.take (16:Nat) (List.drop (0:Nat) m)).length then (80:Nat)
 else (List.take (16:Nat) (List.drop (0:Nat) m)).length) (List.replicate (80:Nat) (0:Int)))).length=(80:Nat)) (End.leaf (LV.one (VV.agg
 [SV.arr (Ty.int IntKind.u64) (80:Nat) (upto MA (16:Nat) (64:Nat) (List.take (0:Nat) (List.replicate (80:Nat) (0:Int))++(List.take (80:
 Nat) (List.take (16:Nat) (List.drop (0:Nat) m))++List.drop ((0:Nat)+if (80:Nat)≤(List.take (16:Nat) (List.drop (0:Nat) m)).length
 then (80:Nat) else (List.take (16:Nat) (List.drop (0:Nat) m)).length) (List.replicate (80:Nat) (0:Int)))))])) []))):=by kernel_rfl
theorem XJ:XI.Ok Tryz.prog 146:=by
 refine (ao.bf Tryz.call146 fun x_ y_ Q H_=>?_).sym
 obtain ⟨m,_⟩:=x_
 obtain ⟨hn,hq⟩:=H_
 have hn:m.length=16:=hn
 refine (ay mixed Ip Tryz.func146 rfl (LT:=aj8) (ks:= [.fr [.sym],.auto]) (aQ.cO (nx rfl (cP (hp:= []) acd) pc))).use (D:= []) ?_ hq
 show (aS _ _ _ _ ((scA).wr (m,())) ((ag).wr ()) _).sat _
 rw[MB]
 have e:List.take 0 (List.replicate 80 (0:Int))++(List.take 80 (List.take 16 (List.drop 0 m))++List.drop (0+if 80≤(List.take 16 (List.drop 0 m)).length then 80 else (List.take 16 (List.drop 0 m)).length) (List.replicate 80 0))=m++List.replicate 64 0:=by
  rw[bN hn,hn]
  simp[List.take_of_length_le (show m.length≤80 by omega)]
 rw[e]
 refine ⟨by omega,by omega,⟨rfl,by simp[hn]⟩,rfl,rfl⟩
def aj9 (w:List Int) (t:Nat) (x:List Int):Int:=
 IntKind.u64.wrap (IntKind.u64.wrap (IntKind.u64.wrap (IntKind.u64.wrap (x.getD 7 0+vK (x.getD 4 0) 14 18 41)+chF (x.getD 4 0) (x.getD 5 0) (x.getD 6 0))+kv.getD t 0)+w.getD t 0)
def aoh (x:List Int):Int:=IntKind.u64.wrap (vK (x.getD 0 0) 28 34 39+agM (x.getD 0 0) (x.getD 1 0) (x.getD 2 0))
def aka (w:List Int) (t:Nat) (x:List Int):List Int:=
 [IntKind.u64.wrap (aj9 w t x+aoh x),x.getD 0 0,x.getD 1 0,x.getD 2 0,IntKind.u64.wrap (x.getD 3 0+aj9 w t x),x.getD 4 0,x.getD 5 0,x.getD 6 0]
def aoi (x s:List Int):List Int:=(List.range 8).map fun i=>IntKind.u64.wrap (x.getD i 0+s.getD i 0)
def Bw (w x:List Int):List Int:=upto (aka w) 0 80 x
def zY (s m:List Int):List Int:=aoi (Bw (iD m) s) s
theorem E6 {m:List Int} (h:m.length=16):(iD m).length=80:=by
 unfold iD
 exact lz (f:=MA) (n:=80) (fun (_:Nat) (w:List Int)=>w.length=80) (fun t w _ h=>by rw[wP];exact h) 64 16 (m++List.replicate 64 0) (by omega) (by simp[h])
noncomputable abbrev akb:Func:=Tryz.f111
abbrev spC:ba (List LV) (Int×Unit):=(jk 2 (aj (ai (aP 0 0)) (jk 1 (aj (ai (aP 1 0)) (aj (ai (aP 2 0)) (aj (ai (aP 3 0)) (aj (ai (aP 4 0)) (jk 8 (ae (ai (ax .i64)) (jk 69 ag))))))))))
abbrev akd:Wk:= .fr (dA 86 [(2,.aq),(4,.aq),(5,.aq),(6,.aq),(7,.aq),(16,.sym)])
abbrev spX:ba (List LV) (Unit):=(jk 2 (aj (ai (aP 0 0)) (jk 1 (aj (ai (aP 1 0)) (jk 2 (aj (ai (aP 2 0)) (jk 78 ag)))))))
abbrev aok:Wk:= .fr (dA 86 [(2,.aq),(4,.aq),(7,.aq)])
abbrev agQ:ba Hp (List Int×List Int×List Int×Unit):=ae (qd 122 .u64 8) (ae (UR 122 .u64 8) (ae (UR 122 .u64 8) ag))
abbrev spH:ba Hp (List Int×List Int×List Int×List Int×List Int×Unit):=ae (qd 122 .u64 8) (ae (qd 122 .u64 8) (ae (qd 205 .u64 80) (ae (qd 205 .u64 80) (ae (qd 122 .u64 8) ag))))
noncomputable abbrev XK:List (FuncId×ao):= [(145,PA),(146,XI),(147,XB),(148,chE),(149,aj0)]
theorem Iq: ∀ p∈XK,p.2.Ok Tryz.prog p.1:=ak Se (ak XJ (ak XC (ak ajZ (ak agN aF))))
def spW:Exit→List Wk
 | .normal=> [akd,.iP 4 0 8 .u64,.auto]
 | .exit 0=> [aok,.auto,.OE 1,.OE 2]
 |_=> []
theorem agR (t:Int) (s r k w x:List Int):dR Tryz.prog XK [] akb 0 [] spW ((bG spC spH).wr ((t,()),(s,r,k,w,x,())))=
 aU.ite (decide (t<(80:Int))) (aU.need ((0:Int)<(14:Int)∧(14:Int)<(64:Int)∧(0:Int)<(18:Int)∧(18:Int)<(64:Int)∧(0:
 Int)<(41:Int)∧(41:Int)<(64:Int)) (aU.need ((0:Int)≤t∧t<(80:Int)) (aU.need ((0:Int)≤t∧t<(80:Int)) (aU.need ((0:Int)
 <(28:Int)∧(28:Int)<(64:Int)∧(0:Int)<(34:Int)∧(34:Int)<(64:Int)∧(0:Int)<(39:Int)∧(39:Int)<(64:Int)) (aU.leaf
 Exit.normal ((bG spC spH).wr ((IntKind.i64.wrap (t+(1:Int)),PUnit.unit),s,r,k,w,[IntKind.u64.wrap (IntKind.u64.wrap (IntKind.u64.wrap
 (IntKind.u64.wrap (IntKind.u64.wrap (x.getD (7:Nat) (0:Int)+vK (x.getD (4:Nat) (0:Int)) (14:Int) (18:Int) (41:Int))+chF (x.getD
 (4:Nat) (0:Int)) (x.getD (5:Nat) (0:Int)) (x.getD (6:Nat) (0:Int)))+(List.take (80:Nat) (List.drop (0:Nat) k)).getD t.toNat (0:
 Int))+(List.take (80:Nat) (List.drop (0:Nat) w)).getD t.toNat (0:Int))+IntKind.u64.wrap (vK (x.getD (0:Nat) (0:Int)) (28:Int) (34:
 Int) (39:Int)+agM (x.getD (0:Nat) (0:Int)) (x.getD (1:Nat) (0:Int)) (x.getD (2:Nat) (0:Int)))),x.getD (0:Nat) (0:Int),x.getD (1
 :Nat) (0:Int),x.getD (2:Nat) (0:Int),IntKind.u64.wrap (x.getD (3:Nat) (0:Int)+IntKind.u64.wrap (IntKind.u64.wrap (IntKind.u64.wrap
 (IntKind.u64.wrap (x.getD (7:Nat) (0:Int)+vK (x.getD (4:Nat) (0:Int)) (14:Int) (18:Int) (41:Int))+chF (x.getD (4:Nat) (0:
 Int)) (x.getD (5:Nat) (0:Int)) (x.getD (6:Nat) (0:Int)))+(List.take (80:Nat) (List.drop (0:Nat) k)).getD t.toNat (0:Int))+(List.take
 (80:Nat) (List.drop (0:Nat) w)).getD t.toNat (0:Int))),x.getD (4:Nat) (0:Int),x.getD (5:Nat) (0:Int),x.getD (6:Nat) (0:Int)],
 PUnit.unit))))))) (aU.leaf (Exit.exit (0:Nat)) ((bG spX agQ).wr (PUnit.unit,s,[r.getD (nat_lit 0) (0:Int),r.getD (nat_lit 1) (0:Int),
 r.getD (nat_lit 2) (0:Int),r.getD (nat_lit 3) (0:Int),r.getD (nat_lit 4) (0:Int),r.getD (nat_lit 5) (0:Int),r.getD (nat_lit 6) (0:Int),
 r.getD (nat_lit 7) (0:Int)],[x.getD (nat_lit 0) (0:Int),x.getD (nat_lit 1) (0:Int),x.getD (nat_lit 2) (0:Int),x.getD (nat_lit 3) (0:Int),
 x.getD (nat_lit 4) (0:Int),x.getD (nat_lit 5) (0:Int),x.getD (nat_lit 6) (0:Int),x.getD (nat_lit 7) (0:Int)],PUnit.unit))):=by kernel_rfl
noncomputable def spF (x:(Int×Unit)×List Int×List Int×List Int×List Int×List Int×Unit):aU:=
 .need (x.1.1=0∧x.2.2.2.1=kv∧x.2.2.2.2.1.length=80∧x.2.2.2.2.2.1.length=8) (.leaf (.exit 0) ((bG spX agQ).wr ((),(x.2.1,x.2.2.1,Bw x.2.2.2.2.1 x.2.2.2.2.2.1,()))))
theorem ace (x):Ex Tryz.prog [] (.loop (aW akb 0)) ((bG spC spH).wr x) (spF x):=by
 obtain ⟨⟨i,_⟩,s,r,k,w,x,_⟩:=x
 refine Ex.need fun ⟨h1,h2,h3,h4⟩=>?_
 simp only at h1 h2 h3 h4
 subst h1 h2
 refine gL (ws:=spW) (hp:= []) mixed Iq (aQ.nil _) 80 (fun j x=>(bG spC spH).wr (((j:Int),()),(s,r,kv,w,x,()))) (fun x=>(bG spX agQ).wr ((),(s,r,x,()))) (aka w) (fun _ x=>x.length=8)
  (fun j x R hk hm hn hx=>?_) (fun k m _ hm=>rfl) 0 x (by omega) h4
 rw[agR]
 refine ⟨fun hb=>?_,fun hb=>?_⟩
 ·have fD:j<80:=by have:=of_decide_eq_true hb;omega
  rw[bN h3,bN (l:=kv) (n:=80) rfl,dS j (by omega)]
  simp only[Int.toNat_natCast]
  exact ⟨by decide,by omega,by omega,by decide,hn fD⟩
 ·have:j=80:=by have:=of_decide_eq_false hb;omega
  exact hx this
noncomputable abbrev akf:fk:= [(0,fI (bG spC spH) 0 [akd,.auto,.iP 1 0 8 .u64,.iP 4 0 8 .u64] spF)]
abbrev stA:ba (List LV) (List Int×List Int×Unit):=ae (KC .u64 8) (ae (KC .u64 16) ag)
noncomputable def ae2:ao:=ao.bS [] (stA) (ag) fun x_ y_=>(fun (s m:List Int)=> .leaf (some (s.length=8∧m.length=16)) (iq .u64 8 (zY s m)) []) x_.1 x_.2.1
theorem Sf (s m:List Int):aS Tryz.prog XK akf Tryz.f111 ((stA).wr (s,m,())) ((ag).wr ()) [.fr [.sym],.kJ 0 0 8 .u64,.auto]=
 End.need (m.length=(16:Nat)) (End.need ((0:Int)=(0:Int)∧kv=kv∧(iD m).length=(80:Nat)∧s.length=(8:Nat))
 (End.leaf (LV.one (VV.agg [SV.arr (Ty.int IntKind.u64) (8:Nat) [IntKind.u64.wrap ((Bw (iD m) s).getD (nat_lit 0) (0:Int)+s.getD (0:Nat)
 (0:Int)),IntKind.u64.wrap ((Bw (iD m) s).getD (nat_lit 1) (0:Int)+s.getD (1:Nat) (0:Int)),IntKind.u64.wrap ((Bw (iD m) s).getD
 (nat_lit 2) (0:Int)+s.getD (2:Nat) (0:Int)),IntKind.u64.wrap ((Bw (iD m) s).getD (nat_lit 3) (0:Int)+s.getD (3:Nat) (0:Int)),
 IntKind.u64.wrap ((Bw (iD m) s).getD (nat_lit 4) (0:Int)+s.getD (4:Nat) (0:Int)),IntKind.u64.wrap ((Bw (iD m) s).getD (nat_lit 5)
 (0:Int)+s.getD (5:Nat) (0:Int)),IntKind.u64.wrap ((Bw (iD m) s).getD (nat_lit 6) (0:Int)+s.getD (6:Nat) (0:Int)),
 IntKind.u64.wrap ((Bw (iD m) s).getD (nat_lit 7) (0:Int)+s.getD (7:Nat) (0:Int))]])) [])):=by kernel_rfl
theorem acf:ae2.Ok Tryz.prog 111:=by
 refine (ao.bf Tryz.call111 fun x_ y_ Q H_=>?_).sym
 obtain ⟨s,m,_⟩:=x_
 obtain ⟨hn,hq⟩:=H_
 have hn:s.length=8∧m.length=16:=hn
 refine (ay mixed Iq Tryz.func111 rfl (LT:=akf) (ks:= [.fr [.sym],.kJ 0 0 8 .u64,.auto]) (aQ.cO (nx rfl (cP (hp:= []) ace) pc))).use (D:= []) ?_ hq
 show (aS _ _ _ _ ((stA).wr (s,m,())) ((ag).wr ()) _).sat _
 rw[Sf]
 exact ⟨hn.2,⟨rfl,rfl,E6 hn.2,hn.1⟩,rfl,rfl⟩
theorem Ir (s m:List Int):(zY s m).length=8:=rfl
end Go.Proofs.YtjalaohajcpllaaGreat
end
section
set_option linter.unusedVariables false
set_option linter.unusedSimpArgs false
namespace Go.Proofs.YtjalaohajcpllaaGreat
open Go Go.Ev
set_option maxRecDepth 100000
end Go.Proofs.YtjalaohajcpllaaGreat
end
section
set_option linter.unusedVariables false
set_option linter.unusedSimpArgs false
namespace Go.Proofs.YtjalaohajcpllaaGreat
open Go Go.Ev
set_option maxRecDepth 100000
structure HH where
 begun:Bool
 s:List Int
 n:Int
 wait:List Int
abbrev cHH:ba (List SV) HH:=(ae OG (ae (wY (.int .u64) 8) (ae (ax .i64) (ae (wY u8 128) ag)))).qk (fun x=>⟨x.1,x.2.1,x.2.2.1,x.2.2.2.1⟩) (fun h=>(h.begun,h.s,h.n,h.wait,())) (fun _=>rfl)
abbrev hI (h:HH):Ev.Item:= .aZ (cHH.wr h) 126
abbrev ql:ba Hp (HH×Unit):=ae (gX 126 cHH) ag
abbrev hV (h:HH):LV:= .one (.agg (cHH.wr h))
abbrev zZ:Wk:= .aZ 0 [.sym,.aq,.sym,.aq]
def It:HH:=⟨true,zX,0,List.replicate 128 0⟩
noncomputable def ae3:ao:=ao.bS [] (ag) (ag) fun x_ y_=> .leaf none (.one (.sc (.ptr 0 0))) [(0,hI It)]
theorem Sg:aS Tryz.prog [(72,XD)] [] Tryz.f42 ((ag).wr ()) ((ag).wr ()) [.iP 0 1 8 .u64,zZ,.auto]=
 End.leaf (LV.one (VV.sc (SV.ptr (0:Nat) (0:Nat)))) [some (Item.aZ [SV.bool (SB.sym true),SV.arr (Ty.int IntKind.u64) (8:Nat) zX,SV.int
 IntKind.i64 (SI.sym (0:Int)),SV.arr (Ty.int IntKind.u8) (128:Nat) (List.replicate (128:Nat) (0:Int))] (126:Nat))]:=by kernel_rfl
theorem acg:ae3.Ok Tryz.prog 42:=by
 refine (ao.bf Tryz.call42 fun x_ y_ Q H_=>?_).sym
 have hq:=H_.2
 refine (ay mixed ((ak XE aF)) Tryz.func42 rfl (LT:= []) (ks:= [.iP 0 1 8 .u64,zZ,.auto]) (aQ.nil _)).use (D:= [(0,hI It)]) ?_ hq
 show (aS _ _ _ _ ((ag).wr ()) ((ag).wr ()) _).sat _
 rw[Sg]
 exact ⟨rfl,rfl⟩
noncomputable def agS:ao:=ao.bS [] ((aj p0 ag)) (ql) fun x_ y_=>(fun (h:HH)=> .leaf (some (h.begun=true)) (hV h) []) y_.1
theorem XM (h:HH):aS Tryz.prog [] [] Tryz.f73 (((aj p0 ag)).wr ()) ((ql).wr (h,())) [.auto]=
 End.ite (!h.begun) End.fail (End.leaf (LV.one (VV.agg [SV.bool (SB.sym h.begun),SV.arr (Ty.int IntKind.u64) (8:Nat) h.s,SV.int IntKind.i64 (SI.sym
 h.n),SV.arr (Ty.int IntKind.u8) (128:Nat) h.wait])) [some (Item.aZ [SV.bool (SB.sym h.begun),SV.arr (Ty.int IntKind.u64) (8:Nat) h.s,SV.int
 IntKind.i64 (SI.sym h.n),SV.arr (Ty.int IntKind.u8) (128:Nat) h.wait] (126:Nat))]):=by kernel_rfl
theorem XN:agS.Ok Tryz.prog 73:=by
 refine (ao.bf Tryz.call73 fun x_ y_ Q H_=>?_).sym
 obtain ⟨h,_⟩:=y_
 obtain ⟨hn,hq⟩:=H_
 have hn:h.begun=true:=hn
 refine (ay mixed aF Tryz.func73 rfl (LT:= []) (ks:= [.auto]) (aQ.nil _)).use (D:= []) ?_ hq
 show (aS _ _ _ _ (((aj p0 ag)).wr ()) ((ql).wr (h,())) _).sat _
 rw[XM]
 exact ⟨fun e=>(by rw[hn] at e;cases e),fun _=>⟨rfl,rfl⟩⟩
def kx (h:HH) (c:Int):HH:=if (h.n+1)%128=0 then ⟨h.begun,zY h.s (ow (h.wait.set (h.n%128).toNat c)),h.n+1,h.wait.set (h.n%128).toNat c⟩ else ⟨h.begun,h.s,h.n+1,h.wait.set (h.n%128).toNat c⟩
def cm (h:HH) (b:List Int):HH:=b.foldl kx h
structure qW (h:HH):Prop where
 begun:h.begun=true
 n:0≤h.n
 s:h.s.length=8
 wait:h.wait.length=128
theorem E7 (h:HH) (c:Int):(kx h c).n=h.n+1:=by unfold kx;split<;>rfl
theorem z6 {h:HH} (hh:qW h) (c:Int):qW (kx h c):=by
 obtain ⟨h1,h2,h3,h4⟩:=hh
 unfold kx
 split
 ·exact ⟨h1,by simp only;omega,Ir _ _,by simp[h4]⟩
 ·exact ⟨h1,by simp only;omega,h3,by simp[h4]⟩
theorem oz: ∀ (b:List Int) (h:HH),(cm h b).n=h.n+b.length
 | [],h=>by simp[cm]
 |c::b,h=>by
  show (cm (kx h c) b).n=_
  rw[oz b,E7,List.length_cons];omega
theorem mN: ∀ (b:List Int) {h:HH},qW h→qW (cm h b)
 | [],_,hh=>hh
 |c::b,_,hh=>mN b (z6 hh c)
theorem Iu (h:HH) (a b:List Int):cm h (a++b)=cm (cm h a) b:=by simp[cm]
theorem z7 {σ:Type} (g:σ→Int→σ) (b:List Int): ∀ (m k:Nat) (s:σ),k+m=b.length→upto (fun k s=>g s (b.getD k 0)) k m s=(b.drop k).foldl g s
 |0,k,s,h=>by rw[List.drop_eq_nil_of_le (by omega)];rfl
 |m+1,k,s,h=>by
  rw[QP (show k<b.length by omega)]
  exact z7 g b m (k+1) _ (by omega)
noncomputable abbrev agT:Func:=Tryz.f74
abbrev puC:ba (List LV) (List Int×Int×Int×Unit):=(aj (ai (aP 0 0)) (jk 7 (ae (ai (eS false false u8)) (ae (ai (ax .i64)) (ae (ai (ax .i64)) (jk 44 ag))))))
abbrev akg:Wk:= .fr (dA 55 [(0,.aq),(8,.aq),(9,.sym),(10,.sym)])
abbrev puX:ba (List LV) (Unit):=(jk 55 ag)
abbrev aon:Wk:= .fr (dA 55 [])
noncomputable abbrev XO:List (FuncId×ao):= [(110,XF),(111,ae2)]
def puW:Exit→List Wk
 | .normal=> [akg,zZ,.auto]
 | .exit 0=> [aon,zZ,.auto]
 |_=> []
theorem agU (h0 h:HH) (b:List Int) (n i:Int):dR Tryz.prog XO [] agT 0 (ql.wr (h0,())) puW ((bG puC ql).wr ((b,n,i,()),(h,())))=
 aU.ite (decide (i<n)) (aU.need ((0:Int)≤i∧i<(↑b.length:Int)) (aU.need ((0:Int)≤h.n.tmod (128:Int)∧h.n.tmod (128:Int)<(128:
 Int)) (aU.ite ((IntKind.i64.wrap (h.n+(1:Int))).tmod (128:Int)==(0:Int)) (aU.need ((0:Int)≤(0:Int)∧(0:Int)≤(128:Int)∧(128:
 Int)≤(128:Int)) (aU.need ((List.take (128:Nat) (List.drop (0:Nat) (h.wait.set ((0:Nat)+(h.n.tmod (128:Int)).toNat) (b.getD i.toNat (0:
 Int))))).length=(128:Nat)) (aU.need (h.s.length=(8:Nat)∧(16:Nat)=(16:Nat)) (aU.leaf Exit.normal ((bG puC ql).wr ((b,n,
 IntKind.i64.wrap (i+(1:Int)),PUnit.unit),{begun:=h.begun,s:=zY h.s (ow (List.take (128:Nat) (List.drop (0:Nat) (h.wait.set ((0:Nat)+(h.n.tmod (128:Int)).toNat) (b.getD i.toNat (0:Int)))))),n:=IntKind.i64.wrap (h.n+(1:Int)),wait:=h.wait.set ((0:Nat)+(h.n.tmod (128:Int)).toNat) (b.getD i.toNat (0:Int))},
 PUnit.unit)))))) (aU.leaf Exit.normal ((bG puC ql).wr ((b,n,IntKind.i64.wrap (i+(1:Int)),PUnit.unit),{begun:=h.begun,s:=h.s,n:=IntKind.i64.wrap (h.n+(1:Int)),wait:=h.wait.set ((0:Nat)+(h.n.tmod (128:Int)).toNat) (b.getD i.toNat (0:Int))},
 PUnit.unit)))))) (aU.leaf (Exit.exit (0:Nat)) ((bG puX ql).wr (PUnit.unit,h,PUnit.unit))):=by kernel_rfl
theorem Iv: ∀ p∈XO,p.2.Ok Tryz.prog p.1:=ak XG (ak acf aF)
noncomputable def puF (x:(List Int×Int×Int×Unit)×HH×Unit):aU:=
 .need (qW x.2.1∧x.1.2.1=x.1.1.length∧x.1.2.2.1=0∧x.2.1.n+x.1.1.length<2305843009213693952) (.leaf (.exit 0) ((bG puX ql).wr ((),(cm x.2.1 x.1.1,()))))
theorem ach (h0:HH) (x):Ex Tryz.prog (ql.wr (h0,())) (.loop (aW agT 0)) ((bG puC ql).wr x) (puF x):=by
 obtain ⟨⟨b,n,i,_⟩,h,_⟩:=x
 refine Ex.need fun ⟨h1,h2,h3,h4⟩=>?_
 simp only at h1 h2 h3 h4
 subst h2 h3
 have asc:(b.length:Int)<2305843009213693952:=by have:=h1.n;omega
 have key:=gL (fn:=agT) (id:=0) (j:=0) (ws:=puW) (hp:=ql.wr (h0,())) mixed Iv (aQ.nil _) b.length (fun k h=>(bG puC ql).wr ((b,(b.length:Int),(k:Int),()),(h,()))) (fun h=>(bG puX ql).wr ((),(h,()))) (fun k h=>kx h (b.getD k 0)) (fun k h=>qW h∧h.n+(b.length-k:Nat)<2305843009213693952)
  (fun k h R hk hm hn hx=>?_) (fun k h _ hh=>⟨z6 hh.1 _,by rw[E7];have:=hh.2;omega⟩) 0 h (by omega) ⟨h1,by simpa using h4⟩
 ·rw[Nat.sub_zero,z7 kx b _ _ _ (by omega)] at key;exact key
 obtain ⟨hh,fD⟩:=hm
 obtain ⟨g1,g2,g3,g4⟩:=hh
 rw[agU]
 refine ⟨fun hb=>?_,fun hb=>?_⟩
 ·have na:k<b.length:=by have:=of_decide_eq_true hb;omega
  have e1:IntKind.i64.wrap (h.n+1)=h.n+1:=ar (by omega) (by omega)
  have e2:h.n.tmod 128=h.n%128:=Int.tmod_eq_emod_of_nonneg g2
  have e3:(h.n+1).tmod 128=(h.n+1)%128:=Int.tmod_eq_emod_of_nonneg (by omega)
  have e4: ∀ c,List.take 128 (List.drop 0 (h.wait.set (h.n%128).toNat c))=h.wait.set (h.n%128).toNat c:=fun c=>bN (by simp[g4])
  rw[e1,e2,e3,dS k (by omega)]
  simp only[Int.toNat_natCast,Nat.zero_add]
  rw[e4]
  have yh:=hn na
  refine ⟨⟨by omega,by omega⟩,by omega,fun hz=>?_,fun hz=>?_⟩
  ·have J1:(h.n+1)%128=0:=by simpa using hz
   rw[kx,if_pos J1] at yh
   exact ⟨by omega,by simp[g4],⟨g3,trivial⟩,yh⟩
  ·have J1: ¬ (h.n+1)%128=0:=by simpa using hz
   rw[kx,if_neg J1] at yh
   exact yh
 ·have:k=b.length:=by have:=of_decide_eq_false hb;omega
  exact hx this
noncomputable abbrev akh:fk:= [(0,fI (bG puC ql) 1 [akg,zZ,.auto] puF)]
abbrev hbA:ba (List LV) (List Int×Unit):=aj p0 (ae (ai (eS false false u8)) ag)
noncomputable def XP:ao:=ao.bS [none,some u8] (hbA) (ql) fun x_ y_=>(fun (b:List Int) (h:HH)=> .leaf (some (qW h∧h.n+b.length<2305843009213693952)) (.cD []) [(0,hI (cm h b))]) x_.1 y_.1
theorem Sh (b:List Int) (h:HH):aS Tryz.prog XO akh Tryz.f74 ((hbA).wr (b,())) ((ql).wr (h,())) [zZ,.auto]=
 End.need (qW h∧(↑b.length:Int)=(↑b.length:Int)∧(0:Int)=(0:Int)∧h.n+(↑b.length:Int)<(2305843009213693952:Int)) (End.leaf
 (LV.cD []) [some (Item.aZ [SV.bool (SB.sym (cm h b).begun),SV.arr (Ty.int IntKind.u64) (8:Nat) (cm h b).s,SV.int IntKind.i64 (SI.sym (cm h
 b).n),SV.arr (Ty.int IntKind.u8) (128:Nat) (cm h b).wait] (126:Nat))]):=by kernel_rfl
theorem PC:XP.Ok Tryz.prog 74:=by
 refine (ao.bf Tryz.call74 fun x_ y_ Q H_=>?_).sym
 obtain ⟨b,_⟩:=x_
 obtain ⟨h,_⟩:=y_
 obtain ⟨hn,hq⟩:=H_
 have hn:qW h∧h.n+b.length<2305843009213693952:=hn
 refine (ay mixed Iv Tryz.func74 rfl (LT:=akh) (ks:= [zZ,.auto]) (aQ.cO (nx rfl (cP (hp:=ql.wr (h,())) (ach h)) pc))).use (D:= [(0,hI (cm h b))]) ?_ hq
 show (aS _ _ _ _ ((hbA).wr (b,())) ((ql).wr (h,())) _).sat _
 rw[Sh]
 exact ⟨⟨hn.1,rfl,rfl,hn.2⟩,rfl,rfl⟩
noncomputable def XQ:ao:=ao.bS [none,some u8] (hbA) (ql) fun x_ y_=>(fun (b:List Int) (h:HH)=> .leaf (some (qW h∧h.n+b.length<2305843009213693952)) (.cD []) [(0,hI (cm h b))]) x_.1 y_.1
theorem MC (b:List Int) (h:HH):aS Tryz.prog [(73,agS),(74,XP)] [] Tryz.f43 ((hbA).wr (b,())) ((ql).wr (h,())) [zZ,.auto]=
 End.need (h.begun=true) (End.need (qW h∧h.n+(↑b.length:Int)<(2305843009213693952:Int)) (End.leaf (LV.cD []) [some (Item.aZ [SV.bool
 (SB.sym (cm h b).begun),SV.arr (Ty.int IntKind.u64) (8:Nat) (cm h b).s,SV.int IntKind.i64 (SI.sym (cm h b).n),SV.arr (Ty.int IntKind.u8)
 (128:Nat) (cm h b).wait] (126:Nat))])):=by kernel_rfl
theorem XS:XQ.Ok Tryz.prog 43:=by
 refine (ao.bf Tryz.call43 fun x_ y_ Q H_=>?_).sym
 obtain ⟨b,_⟩:=x_
 obtain ⟨h,_⟩:=y_
 obtain ⟨hn,hq⟩:=H_
 have hn:qW h∧h.n+b.length<2305843009213693952:=hn
 refine (ay mixed ((ak XN (ak PC aF))) Tryz.func43 rfl (LT:= []) (ks:= [zZ,.auto]) (aQ.nil _)).use (D:= [(0,hI (cm h b))]) ?_ hq
 show (aS _ _ _ _ ((hbA).wr (b,())) ((ql).wr (h,())) _).sat _
 rw[MC]
 exact ⟨hn.1.begun,hn,rfl,rfl⟩
def dy (x:Int):List Int:=(List.range 8).map fun i=>IntKind.u8.wrap (shr .u64 x ((56-8*i:Nat):Int))
noncomputable def MD:ao:=ao.bS [] ((ae (ai (ax .u64)) ag)) (ag) fun x_ y_=>(fun (x:Int)=> .leaf none (.one (.sc (.sl 0 0))) [(0,.own 0 u8 (dy x))]) x_.1
theorem ME (x:Int):aS Tryz.prog [] [] Tryz.f75 (((ae (ai (ax .u64)) ag)).wr (x,())) ((ag).wr ()) [.auto,.aD]=
 End.need ((1:Nat)≤(70368744177664:Nat)∧(1:Nat)≤(70368744177664:Nat)) (End.need ((2:Nat)≤(70368744177664:Nat)∧(2:Nat)≤
 (70368744177664:Nat)) (End.need ((3:Nat)≤(70368744177664:Nat)∧(3:Nat)≤(70368744177664:Nat)) (End.need ((4:Nat)≤(70368744177664:
 Nat)∧(4:Nat)≤(70368744177664:Nat)) (End.need ((5:Nat)≤(70368744177664:Nat)∧(5:Nat)≤(70368744177664:Nat)) (End.need ((6:Nat)≤
 (70368744177664:Nat)∧(6:Nat)≤(70368744177664:Nat)) (End.need ((7:Nat)≤(70368744177664:Nat)∧(7:Nat)≤(70368744177664:Nat))
 (End.need ((8:Nat)≤(70368744177664:Nat)∧(8:Nat)≤(70368744177664:Nat)) (End.leaf (LV.one (VV.sc (SV.sl (0:Nat) (0:Nat)))) [some
 (Item.own (0:Nat) (Ty.int IntKind.u8) ([IntKind.u8.wrap (shr IntKind.u64 x (56:Int))]++ [IntKind.u8.wrap (shr IntKind.u64 x (48:Int))]++
 [IntKind.u8.wrap (shr IntKind.u64 x (40:Int))]++ [IntKind.u8.wrap (shr IntKind.u64 x (32:Int))]++ [IntKind.u8.wrap (shr IntKind.u64 x (24:
 Int))]++ [IntKind.u8.wrap (shr IntKind.u64 x (16:Int))]++ [IntKind.u8.wrap (shr IntKind.u64 x (8:Int))]++ [IntKind.u8.wrap (shr IntKind.u64 x (0
 :Int))]))])))))))):=by kernel_rfl
theorem Iw:MD.Ok Tryz.prog 75:=by
 refine (ao.bf Tryz.call75 fun x_ y_ Q H_=>?_).sym
 obtain ⟨x,_⟩:=x_
 have hq:=H_.2
 refine (ay mixed aF Tryz.func75 rfl (LT:= []) (ks:= [.auto,.aD]) (aQ.nil _)).use (D:= [(0,.own 0 u8 (dy x))]) ?_ hq
 show (aS _ _ _ _ (((ae (ai (ax .u64)) ag)).wr (x,())) ((ag).wr ()) _).sat _
 rw[ME]
 exact ⟨by omega,by omega,by omega,by omega,by omega,by omega,by omega,by omega,rfl,rfl⟩
def jR (s:List Int):List Int:=(List.range 8).foldl (fun a i=>a++dy (s.getD i 0)) []
noncomputable def Ix:ao:=ao.bS [] ((aj p0 ag)) (ql) fun x_ y_=>(fun (h:HH)=> .leaf none (.one (.sc (.sl 1 0))) [(1,.own 0 u8 (jR h.s))]) y_.1
theorem E8 (h:HH):aS Tryz.prog [(75,MD)] [] Tryz.f76 (((aj p0 ag)).wr ()) ((ql).wr (h,())) [.auto,.aD]=
 End.need ((8:Nat)≤(70368744177664:Nat)∧(8:Nat)≤(70368744177664:Nat)) (End.need ((16:Nat)≤(70368744177664:Nat)∧(16:Nat)≤
 (70368744177664:Nat)) (End.need ((24:Nat)≤(70368744177664:Nat)∧(24:Nat)≤(70368744177664:Nat)) (End.need ((32:Nat)≤(70368744177664:
 Nat)∧(32:Nat)≤(70368744177664:Nat)) (End.need ((40:Nat)≤(70368744177664:Nat)∧(40:Nat)≤(70368744177664:Nat)) (End.need ((48:Nat)
 ≤(70368744177664:Nat)∧(48:Nat)≤(70368744177664:Nat)) (End.need ((56:Nat)≤(70368744177664:Nat)∧(56:Nat)≤(70368744177664:Nat))
 (End.need ((64:Nat)≤(70368744177664:Nat)∧(64:Nat)≤(70368744177664:Nat)) (End.leaf (LV.one (VV.sc (SV.sl (1:Nat) (0:Nat)))) [some
 (Item.aZ [SV.bool (SB.sym h.begun),SV.arr (Ty.int IntKind.u64) (8:Nat) h.s,SV.int IntKind.i64 (SI.sym h.n),SV.arr (Ty.int IntKind.u8) (128:Nat)
 h.wait] (126:Nat)),some (Item.own (0:Nat) (Ty.int IntKind.u8) (dy (h.s.getD (0:Nat) (0:Int))++dy (h.s.getD (1:Nat) (0:Int))++
 dy (h.s.getD (2:Nat) (0:Int))++dy (h.s.getD (3:Nat) (0:Int))++dy (h.s.getD (4:Nat) (0:Int))++dy (h.s.getD (5:Nat)
 (0:Int))++dy (h.s.getD (6:Nat) (0:Int))++dy (h.s.getD (7:Nat) (0:Int))))])))))))):=by kernel_rfl
theorem MF:Ix.Ok Tryz.prog 76:=by
 refine (ao.bf Tryz.call76 fun x_ y_ Q H_=>?_).sym
 obtain ⟨h,_⟩:=y_
 have hq:=H_.2
 refine (ay mixed ((ak Iw aF)) Tryz.func76 rfl (LT:= []) (ks:= [.auto,.aD]) (aQ.nil _)).use (D:= [(1,.own 0 u8 (jR h.s))]) ?_ hq
 show (aS _ _ _ _ (((aj p0 ag)).wr ()) ((ql).wr (h,())) _).sat _
 rw[E8]
 exact ⟨by omega,by omega,by omega,by omega,by omega,by omega,by omega,by omega,rfl,rfl⟩
end Go.Proofs.YtjalaohajcpllaaGreat
end
