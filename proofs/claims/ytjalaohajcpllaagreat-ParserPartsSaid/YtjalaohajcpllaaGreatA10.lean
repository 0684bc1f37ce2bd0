/- What the laws lean on, part 10: a reader of code, plain facts, and what each function gives; no conditions. -/
import Derived.Test.YtjalaohajcpllaaGreatA9
section
set_option linter.unusedVariables false
set_option linter.unusedSimpArgs false
namespace Go.Proofs.YtjalaohajcpllaaGreat
open Go Go.Ev
set_option maxRecDepth 1000000
def RO:Nat→Int→Int→RB→Dc→List Int→List Int→List Int→List cj→RB×Dc×List Int×List Int×List Int×List cj
 |0,_,_,r,d,p1,p2,p3,l=>(r,d,p1,p2,p3,l)
 |k+1,pl,n,r,d,p1,p2,p3,l=>
  if n<pl∧r.bad=false then
   let x:=qe r d p1 p2 p3
   RO k pl (n+bt x.1) x.2.1 x.2.2.1 x.2.2.2.1 x.2.2.2.2.1 x.2.2.2.2.2 (l++ [x.1])
  else (r,d,p1,p2,p3,l)
theorem pJ (b:List Int) (cs:List Int) (kS:Int) (d:Dc):
  (cr ⟨b,cs,kS,false⟩ d).1.bad= !(b8 b d).1∧((b8 b d).1=true→(b8 b d).2.1=(cr ⟨b,cs,kS,false⟩ d).1.b∧(b8 b d).2.2=(cr ⟨b,cs,kS,false⟩ d).2):=by
 unfold cr b8
 rw[if_neg (by simp)]
 cases (bP b d).1<;>simp
theorem vE {r:RB} (h:r.bad=true) (d:Dc):cr r d=(r,d):=by unfold cr;rw[if_pos h]
theorem jz: ∀ (k:Nat) (n:Int) {r:RB} (d:Dc) (p:List Int),r.bad=true→(fM k n r d p).2.1.bad=true
 |0,_,_,_,_,h=>h
 |k+1,n,r,d,p,h=>by rw[fM];exact jz k _ _ _ (by rw[vE h];exact h)
theorem lL: ∀ (k:Nat) (n:Int) {r:RB} (d:Dc),r.bad=true→(fX k n r d).2.1.bad=true
 |0,_,_,_,h=>h
 |k+1,n,r,d,h=>by rw[fX];exact lL k _ _ (by rw[vE h];exact h)
theorem wK: ∀ (k:Nat) (n m:Int) (r:RB) (d:Dc),fX k n r d=((fX k m r d).1+2 ^ k*(n-m),(fX k m r d).2)
 |0,n,m,r,d=>by simp[fX];omega
 |k+1,n,m,r,d=>by
  rw[fX,fX,wK k _ (2*m+(cF d).1)]
  congr 1
  rw[Int.pow_succ,show 2*n+(cF d).1-(2*m+(cF d).1)=2*(n-m) from by omega,Int.mul_assoc]
abbrev Q3:Type:=List Int×List Int×List Int
def nw (part:Int) (q:Q3):List Int:=if part=1 then q.1 else if part=2 then q.2.1 else q.2.2
def tq (part:Int) (q:Q3) (p:List Int):Q3:=if part=1 then (p,q.2.1,q.2.2) else if part=2 then (q.1,p,q.2.2) else (q.1,q.2.1,p)
theorem abR (part:Int) (q:Q3) (p:List Int):nw part (tq part q p)=p:=by
 unfold nw tq;split
 ·rfl
 ·split<;>rfl
theorem abS (part:Int) (q:Q3) (p p':List Int):tq part (tq part q p) p'=tq part q p':=by
 unfold tq;split
 ·rfl
 ·split<;>rfl
def Ba (n:Nat) (pl made:Int) (b:List Int) (d:Dc) (r:RH) (q:Q3) (out:List cj):List cj×Bool:=cV n pl made b d r q.1 q.2.1 q.2.2 out
def qQ (n:Nat) (pl made:Int) (b:List Int) (d:Dc) (r:RH) (v:Int) (q:Q3) (out:List cj):List cj×Bool:=
 let y:=fK r v
 if y.1=true then if iR y.2.t made=true∧bt y.2.t≤pl-made then Ba n pl (made+bt y.2.t) b d y.2 q (out++ [y.2.t]) else ([],false)
 else Ba n pl made b d y.2 q out
theorem EE {n:Nat} {pl made:Int} {b:List Int} {d:Dc} {r:RH} {q:Q3} {out:List cj} (h:(b8 b d).1=false):Ba (n+1) pl made b d r q out=([],false):=by
 unfold Ba;rw[cV];simp only;rw[if_neg (by rw[h];simp)]
theorem EF {n:Nat} {pl made:Int} {b:List Int} {d:Dc} {r:RH} {q:Q3} {out:List cj} (h:(b8 b d).1=true) (hm:made≠pl):
  Ba (n+1) pl made b d r q out=
   (let x:=fL r q.1 q.2.1 q.2.2 (b8 b d).2.2
    if 2*r.node+x.1<jP r.part then Ba n pl made (b8 b d).2.1 x.2.2.2.2.2 ⟨x.2.1.cs,r.bh,r.part,2*r.node+x.1,r.t⟩ (x.2.2.1,x.2.2.2.1,x.2.2.2.2.1) out
    else qQ n pl made (b8 b d).2.1 x.2.2.2.2.2 ⟨x.2.1.cs,r.bh,r.part,1,r.t⟩ (2*r.node+x.1-jP r.part) (x.2.2.1,x.2.2.2.1,x.2.2.2.2.1) out):=by
 unfold Ba;rw[cV];simp only
 rw[if_pos h,if_neg hm]
 unfold cA
 simp only
 split
 ·rw[if_neg (by simp)]
 ·unfold qQ Ba
  simp only
  split
  ·rw[if_pos rfl]
  ·rw[if_neg (by simp)]
theorem W1 {r:RH} (h:1≤r.part∧r.part≤3) (q:Q3) (d:Dc):
  fL r q.1 q.2.1 q.2.2 d=((bq (jm (nw r.part q) r.node) d).1,r,(tq r.part q (c6 (nw r.part q) r.node (bq (jm (nw r.part q) r.node) d).1)).1,(tq r.part q (c6 (nw r.part q) r.node (bq (jm (nw r.part q) r.node) d).1)).2.1,(tq r.part q (c6 (nw r.part q) r.node (bq (jm (nw r.part q) r.node) d).1)).2.2,(bq (jm (nw r.part q) r.node) d).2.2):=by
 unfold fL nw tq
 rw[if_neg (by omega),if_neg (by omega)]
 split
 ·rfl
 ·split<;>rfl
theorem tr {pl made:Int} (hm:made≠pl) (cs:List Int) (kS:Int) (out:List cj): ∀ (k j n:Nat) (b:List Int) (d:Dc) (r:RH) (q:Q3),1≤r.part∧r.part≤3→jP r.part=2 ^ (j+(k+1))→2 ^ j≤r.node→r.node<2 ^ (j+1)→
  let m:=cr ⟨b,cs,kS,false⟩ d
  let T:=fM (k+1) r.node m.1 m.2 (nw r.part q)
  (T.2.1.bad=true∧Ba (n+(k+1)) pl made b d r q out=([],false))∨
  ∃ b' d',cr ⟨b',cs,kS,false⟩ d'=(T.2.1,T.2.2.1)∧Ba (n+(k+1)) pl made b d r q out=qQ n pl made b' d' ⟨r.cs,r.bh,r.part,1,r.t⟩ (T.1-jP r.part) (tq r.part q T.2.2.2) out
 |k,j,n,b,d,r,q,h1,h2,h3,h4=>by
  obtain ⟨f1,f2⟩:=pJ b cs kS d
  obtain ⟨c1,c2⟩:=iU ⟨b,cs,kS,false⟩ d
  generalize hmm:cr ⟨b,cs,kS,false⟩ d=m at*
  simp only
  cases hf:(b8 b d).1 with
  |false=>
   rw[hf] at f1
   exact .inl ⟨jz _ _ _ _ f1,by rw[← Nat.add_assoc];exact EE hf⟩
  |true=>
   obtain ⟨f3,f4⟩:=f2 hf
   rw[hf] at f1
   have em:m.1=⟨m.1.b,cs,kS,false⟩:=by
    obtain ⟨⟨a1,a2,a3,a4⟩,a5⟩:=m
    simp only at c1 c2 f1 ⊢
    rw[c1,c2,f1];rfl
   have hb:=pG (jm (nw r.part q) r.node) m.2
   rw[← Nat.add_assoc,EF hf hm,f3,f4,W1 h1]
   simp only
   rw[fM]
   generalize bq (jm (nw r.part q) r.node) m.2=x at*
   cases k with
   |zero=>
    have hp:(2:Int) ^ (j+1)=2*2 ^ j:=by rw[Int.pow_succ,Int.mul_comm]
    rw[Nat.zero_add] at h2
    rw[if_neg (by omega),fM]
    refine .inr ⟨m.1.b,x.2.2,?_,rfl⟩
    rw[← em]
   |succ k=>
    have hp:(2:Int) ^ (j+1)=2*2 ^ j:=by rw[Int.pow_succ,Int.mul_comm]
    have J9:(2:Int) ^ (j+1+1)=2*2 ^ (j+1):=by rw[Int.pow_succ,Int.mul_comm]
    have hp2:(2:Int) ^ (j+1+1)≤2 ^ (j+(k+1+1)):=DE (by omega)
    rw[if_pos (by omega)]
    have ih:=tr hm cs kS out k (j+1) n m.1.b x.2.2 ⟨r.cs,r.bh,r.part,2*r.node+x.1,r.t⟩ (tq r.part q (c6 (nw r.part q) r.node x.1)) h1 (by rw[h2];congr 1;omega) (by simp only;omega) (by simp only;omega)
    simp only[abR,abS] at ih
    rw[← em] at ih
    exact ih
theorem Ic {pl made:Int} (hm:made≠pl) (cs:List Int) (kS:Int) (out:List cj): ∀ (k j n:Nat) (b:List Int) (d:Dc) (r:RH) (q:Q3),r.part=4→jP r.part=2 ^ (j+(k+1))→2 ^ j≤r.node→r.node<2 ^ (j+1)→
  let m:=cr ⟨b,cs,kS,false⟩ d
  let T:=fX (k+1) r.node m.1 m.2
  (T.2.1.bad=true∧Ba (n+(k+1)) pl made b d r q out=([],false))∨
  ∃ b' d',cr ⟨b',cs,kS,false⟩ d'=(T.2.1,T.2.2)∧Ba (n+(k+1)) pl made b d r q out=qQ n pl made b' d' ⟨r.cs,r.bh,r.part,1,r.t⟩ (T.1-jP r.part) q out
 |k,j,n,b,d,r,q,h1,h2,h3,h4=>by
  obtain ⟨f1,f2⟩:=pJ b cs kS d
  obtain ⟨c1,c2⟩:=iU ⟨b,cs,kS,false⟩ d
  generalize hmm:cr ⟨b,cs,kS,false⟩ d=m at*
  simp only
  cases hf:(b8 b d).1 with
  |false=>
   rw[hf] at f1
   exact .inl ⟨lL _ _ _ f1,by rw[← Nat.add_assoc];exact EE hf⟩
  |true=>
   obtain ⟨f3,f4⟩:=f2 hf
   rw[hf] at f1
   have em:m.1=⟨m.1.b,cs,kS,false⟩:=by
    obtain ⟨⟨a1,a2,a3,a4⟩,a5⟩:=m
    simp only at c1 c2 f1 ⊢
    rw[c1,c2,f1];rfl
   have hb:=HY m.2
   have agB:fL r q.1 q.2.1 q.2.2 m.2=((cF m.2).1,r,q.1,q.2.1,q.2.2,(cF m.2).2):=by
    unfold fL;rw[if_neg (by omega),if_pos h1]
   rw[← Nat.add_assoc,EF hf hm,f3,f4,agB]
   simp only
   rw[fX]
   generalize cF m.2=x at*
   cases k with
   |zero=>
    have hp:(2:Int) ^ (j+1)=2*2 ^ j:=by rw[Int.pow_succ,Int.mul_comm]
    rw[Nat.zero_add] at h2
    rw[if_neg (by omega),fX]
    refine .inr ⟨m.1.b,x.2,?_,rfl⟩
    rw[← em]
   |succ k=>
    have hp:(2:Int) ^ (j+1)=2*2 ^ j:=by rw[Int.pow_succ,Int.mul_comm]
    have J9:(2:Int) ^ (j+1+1)=2*2 ^ (j+1):=by rw[Int.pow_succ,Int.mul_comm]
    have hp2:(2:Int) ^ (j+1+1)≤2 ^ (j+(k+1+1)):=DE (by omega)
    rw[if_pos (by omega)]
    have ih:=Ic hm cs kS out k (j+1) n m.1.b x.2 ⟨r.cs,r.bh,r.part,2*r.node+x.1,r.t⟩ q h1 (by rw[h2];congr 1;omega) (by simp only;omega) (by simp only;omega)
    simp only at ih
    rw[← em] at ih
    exact ih
theorem abT {pl made:Int} (hm:made≠pl) (n:Nat) (b:List Int) (d:Dc) (r:RH) (q:Q3) (out:List cj) (h0:r.part=0) (h1:r.node=1) (hq:r.bh=0∨r.bh=1):
  let m:=cr ⟨b,r.cs,r.bh,false⟩ d
  let X:=qe m.1 m.2 q.1 q.2.1 q.2.2
  (X.2.1.bad=true∧Ba (n+21) pl made b d r q out=([],false))∨
  ∃ n' b' d' r',n≤n'∧r'.part=0∧r'.node=1∧(r'.bh=0∨r'.bh=1)∧cr ⟨b',r'.cs,r'.bh,false⟩ d'=(X.2.1,X.2.2.1)∧
   Ba (n+21) pl made b d r q out=if iR X.1 made=true∧bt X.1≤pl-made then Ba n' pl (made+bt X.1) b' d' r' X.2.2.2 (out++ [X.1]) else ([],false):=by
 obtain ⟨f1,f2⟩:=pJ b r.cs r.bh d
 obtain ⟨c1,c2⟩:=iU ⟨b,r.cs,r.bh,false⟩ d
 generalize hmm:cr ⟨b,r.cs,r.bh,false⟩ d=m at*
 simp only
 simp only at c1 c2
 cases hf:(b8 b d).1 with
 |false=>
  rw[hf] at f1
  have hc:(RN m.1 m.2).2.1.bad=true:=by unfold RN;simp only;rw[vE (by exact f1)];exact f1
  refine .inl ⟨?_,EE hf⟩
  unfold qe
  simp only
  split
  ·exact jz _ _ _ _ hc
  ·exact lL _ _ _ (jz _ _ _ _ (jz _ _ _ _ hc))
 |true=>
  obtain ⟨f3,f4⟩:=f2 hf
  rw[hf] at f1
  have hb:=pG (r.cs.getD r.bh.toNat 0) m.2
  have agB:fL r q.1 q.2.1 q.2.2 m.2=((bq (r.cs.getD r.bh.toNat 0) m.2).1,⟨r.cs.set r.bh.toNat (bq (r.cs.getD r.bh.toNat 0) m.2).2.1,r.bh,r.part,r.node,r.t⟩,q.1,q.2.1,q.2.2,(bq (r.cs.getD r.bh.toNat 0) m.2).2.2):=by
   unfold fL;rw[if_pos h0]
  have an3:RN m.1 m.2=((bq (r.cs.getD r.bh.toNat 0) m.2).1,cr ⟨m.1.b,r.cs.set r.bh.toNat (bq (r.cs.getD r.bh.toNat 0) m.2).2.1,(bq (r.cs.getD r.bh.toNat 0) m.2).1,false⟩ (bq (r.cs.getD r.bh.toNat 0) m.2).2.2):=by
   unfold RN;simp only;rw[c1,c2,f1];rfl
  generalize bq (r.cs.getD r.bh.toNat 0) m.2=x at*
  have an4:jP r.part=2:=by rw[h0];rfl
  have erd:Ba (n+21) pl made b d r q out=Ba (n+20) pl made m.1.b x.2.2 ⟨r.cs.set r.bh.toNat x.2.1,x.1,if x.1=1 then 2 else 1,1,(0,0,0)⟩ q out:=by
   rw[show n+21=(n+20)+1 from rfl,EF hf hm,f3,f4,agB]
   simp only
   rw[an4,h1,if_neg (by omega)]
   unfold qQ fK
   simp only
   rw[if_pos h0]
   simp only
   rw[if_neg (by simp),show 2*1+x.1-2=x.1 from by omega]
  rw[erd]
  generalize hcs:r.cs.set r.bh.toNat x.2.1=cs at*
  unfold qe
  rw[an3]
  simp only
  by_cases hx:x.1=0
  ·simp only[hx,if_true]
   rw[if_neg (show ¬ (0:Int)=1 by omega)]
   have hs:=tr hm cs 0 out 7 0 (n+12) m.1.b x.2.2 ⟨cs,0,1,1,(0,0,0)⟩ q (by simp) (by simp only;decide) (by simp) (by simp)
   simp only[show nw 1 q=q.1 from rfl,Nat.reduceAdd] at hs
   rw[show n+12+8=n+20 from rfl] at hs
   generalize fM 8 1 (cr ⟨m.1.b,cs,0,false⟩ x.2.2).1 (cr ⟨m.1.b,cs,0,false⟩ x.2.2).2 q.1=T at*
   rcases hs with ⟨s1,s2⟩|⟨b',d',s1,s2⟩
   ·exact .inl ⟨s1,s2⟩
   ·refine .inr ⟨n+12,b',d',⟨cs,0,0,1,(0,0,T.1-256)⟩,by omega,rfl,rfl,.inl rfl,s1,?_⟩
    rw[s2]
    rfl
  ·have CZ:x.1=1:=by omega
   simp only[CZ,if_true]
   rw[if_neg (show ¬ (1:Int)=0 by omega)]
   have hs:=tr hm cs 1 out 7 0 (n+12) m.1.b x.2.2 ⟨cs,1,2,1,(0,0,0)⟩ q (by simp) (by simp only;decide) (by simp) (by simp)
   simp only[show nw 2 q=q.2.1 from rfl,Nat.reduceAdd] at hs
   rw[show n+12+8=n+20 from rfl] at hs
   simp only[CZ,if_neg (show ¬ (1:Int)=0 by omega)]
   generalize fM 8 1 (cr ⟨m.1.b,cs,1,false⟩ x.2.2).1 (cr ⟨m.1.b,cs,1,false⟩ x.2.2).2 q.2.1=T at*
   rcases hs with ⟨s1,s2⟩|⟨b',d',s1,s2⟩
   ·exact .inl ⟨lL _ _ _ (jz _ _ _ _ s1),s2⟩
   ·have e2:qQ (n+12) pl made b' d' ⟨cs,1,2,1,(0,0,0)⟩ (T.1-jP 2) (tq 2 q T.2.2.2) out=Ba (n+12) pl made b' d' ⟨cs,1,3,1,(T.1-256+2,0,0)⟩ (q.1,T.2.2.2,q.2.2) out:=rfl
    rw[e2] at s2
    have hs:=tr hm cs 1 out 5 0 (n+6) b' d' ⟨cs,1,3,1,(T.1-256+2,0,0)⟩ (q.1,T.2.2.2,q.2.2) (by simp) (by simp only;decide) (by simp) (by simp)
    simp only[show nw 3 (q.1,T.2.2.2,q.2.2)=q.2.2 from rfl,Nat.reduceAdd,s1] at hs
    rw[show n+6+6=n+12 from rfl] at hs
    generalize fM 6 1 T.2.1 T.2.2.1 q.2.2=U at*
    rcases hs with ⟨u1,u2⟩|⟨b2,d2,u1,u2⟩
    ·exact .inl ⟨lL _ _ _ u1,s2.trans u2⟩
    ·have e3:qQ (n+6) pl made b2 d2 ⟨cs,1,3,1,(T.1-256+2,0,0)⟩ (U.1-jP 3) (tq 3 (q.1,T.2.2.2,q.2.2) U.2.2.2) out=Ba (n+6) pl made b2 d2 ⟨cs,1,4,1,(T.1-256+2,(U.1-64)*64,0)⟩ (q.1,T.2.2.2,U.2.2.2) out:=rfl
     rw[e3] at u2
     have hs:=Ic hm cs 1 out 5 0 n b2 d2 ⟨cs,1,4,1,(T.1-256+2,(U.1-64)*64,0)⟩ (q.1,T.2.2.2,U.2.2.2) rfl (by simp only;decide) (by simp) (by simp)
     simp only[Nat.reduceAdd,u1] at hs
     rw[wK 6 (U.1-64) 1]
     generalize fX 6 1 U.2.1 U.2.2.1=V at*
     rcases hs with ⟨v1,v2⟩|⟨b3,d3,v1,v2⟩
     ·exact .inl ⟨v1,s2.trans (u2.trans v2)⟩
     ·refine .inr ⟨n,b3,d3,⟨cs,1,0,1,(T.1-256+2,(U.1-64)*64+(V.1-64+1),0)⟩,Nat.le_refl _,rfl,rfl,.inr rfl,v1,?_⟩
      rw[s2,u2,v2]
      have et:V.1+2 ^ 6*(U.1-64-1)+1=(U.1-64)*64+(V.1-64+1):=by
       rw[show (2:Int) ^ 6=64 from by decide];omega
      simp only[et]
      rfl
def cv:List cj→Int
 | []=>0
 |t::l=>bt t+cv l
theorem gS: ∀ (l m:List cj),cv (l++m)=cv l+cv m
 | [],m=>by simp[cv]
 |t::l,m=>by rw[List.cons_append,cv,cv,gS l m];omega
theorem gT: ∀ (l m:List cj) (made:Int),bC made (l++m)=(bC made l&&bC (made+cv l) m)
 | [],m,made=>by simp[cv,bC]
 |t::l,m,made=>by
  rw[List.cons_append,bC,bC,cv,gT l m,Int.add_assoc];simp only[Bool.and_assoc]
def EG (u:RB×Dc×List Int×List Int×List Int×List cj):List cj:=u.2.2.2.2.2
theorem om {k:Nat} {pl n:Int} {r:RB} {d:Dc} {p1 p2 p3:List Int} {l:List cj} (h: ¬ (n<pl∧r.bad=false)):RO k pl n r d p1 p2 p3 l=(r,d,p1,p2,p3,l):=by
 cases k with
 |zero=>rfl
 |succ k=>rw[RO,if_neg h]
theorem Ph: ∀ (k:Nat) (pl n:Int) (r:RB) (d:Dc) (p1 p2 p3:List Int) (l:List cj),∃ m,EG (RO k pl n r d p1 p2 p3 l)=l++m
 |0,_,_,_,_,_,_,_,l=>⟨[],by simp[RO,EG]⟩
 |k+1,pl,n,r,d,p1,p2,p3,l=>by
  rw[RO]
  simp only
  split
  ·obtain ⟨m,hm⟩:=Ph k pl (n+bt (qe r d p1 p2 p3).1) (qe r d p1 p2 p3).2.1 (qe r d p1 p2 p3).2.2.1 (qe r d p1 p2 p3).2.2.2.1 (qe r d p1 p2 p3).2.2.2.2.1 (qe r d p1 p2 p3).2.2.2.2.2 (l++ [(qe r d p1 p2 p3).1])
   exact ⟨(qe r d p1 p2 p3).1::m,by rw[hm];simp⟩
  ·exact ⟨[],by simp[EG]⟩
theorem W2 {pl:Int} (TX:pl≤8192): ∀ (m k n:Nat) (made:Int) (b:List Int) (d:Dc) (r:RH) (q:Q3) (out:List cj),(pl-made).toNat≤m→m<k→21*m+1≤n→r.part=0→r.node=1→(r.bh=0∨r.bh=1)→made≤pl→bC 0 out=true→cv out=made→
  let M:=cr ⟨b,r.cs,r.bh,false⟩ d
  let U:=RO k pl made M.1 M.2 q.1 q.2.1 q.2.2 out
  Ba n pl made b d r q out=if U.1.bad=false∧bC 0 (EG U)=true∧cv (EG U)=pl then (EG U,true) else ([],false)
 |m,k,n,made,b,d,r,q,out,h1,h2,h3,h4,h5,h6,h7,h8,h9=>by
  have hts:=fun hm n0=>abT (pl:=pl) (made:=made) hm n0 b d r q out h4 h5 h6
  obtain ⟨f1,f2⟩:=pJ b r.cs r.bh d
  simp only at hts ⊢
  generalize cr ⟨b,r.cs,r.bh,false⟩ d=M at*
  obtain ⟨n,rfl⟩: ∃ n0,n=n0+1:=⟨n-1,by omega⟩
  cases hf:(b8 b d).1 with
  |false=>
   rw[hf] at f1
   have f1:M.1.bad=true:=f1
   rw[EE hf,om (by rw[f1];simp),if_neg (by simp[f1])]
  |true=>
   rw[hf] at f1
   have f1:M.1.bad=false:=f1
   by_cases hm:made=pl
   ·rw[om (by omega)]
    rw[if_pos ⟨f1,h8,h9.trans hm⟩]
    unfold Ba
    rw[cV]
    simp only
    rw[if_pos hf,if_pos hm];rfl
   ·obtain ⟨m,rfl⟩: ∃ m0,m=m0+1:=⟨m-1,by omega⟩
    obtain ⟨k,rfl⟩: ∃ k0,k=k0+1:=⟨k-1,by omega⟩
    obtain ⟨n,rfl⟩: ∃ n0,n=n0+20:=⟨n-20,by omega⟩
    have hs:=hts hm n
    have eU:RO (k+1) pl made M.1 M.2 q.1 q.2.1 q.2.2 out=(let x:=qe M.1 M.2 q.1 q.2.1 q.2.2
      RO k pl (made+bt x.1) x.2.1 x.2.2.1 x.2.2.2.1 x.2.2.2.2.1 x.2.2.2.2.2 (out++ [x.1])):=by
     rw[RO,if_pos ⟨by omega,f1⟩]
    rw[eU,show n+20+1=n+21 from rfl]
    simp only
    generalize qe M.1 M.2 q.1 q.2.1 q.2.2=X at*
    rcases hs with ⟨s1,s2⟩|⟨n',b',d',r',s1,s2,s3,s4,s5,s6⟩
    ·rw[s2,om (by rw[s1];simp),if_neg (by simp[s1])]
    ·rw[s6]
     by_cases hc:iR X.1 made=true∧bt X.1≤pl-made
     ·rw[if_pos hc]
      have hl:=jM hc.1
      have ih:=W2 TX m k n' (made+bt X.1) b' d' r' X.2.2.2 (out++ [X.1]) (by omega) (by omega) (by omega) s2 s3 s4 (by omega)
       (by rw[gT,h8,h9,Int.zero_add,bC,bC,hc.1];simp;omega) (by rw[gS,h9];simp[cv])
      simp only[s5] at ih
      exact ih
     ·rw[if_neg hc,if_neg]
      rintro ⟨u1,u2,u3⟩
      obtain ⟨z,hz⟩:=Ph k pl (made+bt X.1) X.2.1 X.2.2.1 X.2.2.2.1 X.2.2.2.2.1 X.2.2.2.2.2 (out++ [X.1])
      have agC:iR X.1 made=true:=by
       rw[hz,List.append_assoc,gT,h9,Int.zero_add,List.cons_append,bC] at u2
       simp only[Bool.and_eq_true] at u2
       exact u2.2.1.1
      have ar6:pl<made+bt X.1:=Int.not_le.1 fun hh=>hc ⟨agC,by omega⟩
      rw[om (by omega)] at u3
      simp only[EG,gS,cv] at u3
      omega
end Go.Proofs.YtjalaohajcpllaaGreat
end
section
set_option linter.unusedVariables false
set_option linter.unusedSimpArgs false
namespace Go.Proofs.YtjalaohajcpllaaGreat
open Go Go.Ev
set_option maxRecDepth 1000000
end Go.Proofs.YtjalaohajcpllaaGreat
end
section
set_option linter.unusedVariables false
set_option linter.unusedSimpArgs false
namespace Go.Proofs.YtjalaohajcpllaaGreat
open Go Go.Ev
set_option maxRecDepth 1000000
def g9 (l:List Int):Int:=l.foldl (fun a x=>a*256+x) 0
theorem ju (l:List Int) (x:Int):g9 (l++ [x])=g9 l*256+x:=by simp[g9]
theorem pK: ∀ (m l:List Int),g9 (l++m)=g9 l*256 ^ m.length+g9 m
 | [],l=>by simp[g9]
 |x::m,l=>by
  have e:l++x::m=(l++ [x])++m:=by simp
  have h2:g9 (x::m)=g9 [x]*256 ^ m.length+g9 m:=pK m [x]
  have e1:g9 [x]=x:=by simp[g9]
  rw[e,pK m (l++ [x]),ju,h2,e1,List.length_cons,Int.pow_succ,Int.add_mul,Int.mul_assoc,Int.mul_comm 256,Int.add_assoc]
theorem abU (x:Int) (m:List Int):g9 (x::m)=x*256 ^ m.length+g9 m:=by
 have:=pK m [x]
 have e1:g9 [x]=x:=by simp[g9]
 rw[e1] at this
 exact this
theorem zA (k:Nat):(0:Int)<256 ^ k:=Int.pow_pos (by decide)
theorem lM: ∀ {l:List Int},aB l→0≤g9 l∧g9 l<256 ^ l.length
 | [],_=>by simp[g9]
 |x::m,h=>by
  obtain ⟨h1,h2⟩:=lM (l:=m) fun z hz=>h z (List.mem_cons_of_mem _ hz)
  obtain ⟨h3,h4⟩:=h x List.mem_cons_self
  have hp:=zA m.length
  rw[abU,List.length_cons,Int.pow_succ]
  generalize (256:Int) ^ m.length=P at*
  have a1:0≤x*P:=Int.mul_nonneg h3 (by omega)
  have a2:x*P≤255*P:=Int.mul_le_mul_of_nonneg_right (by omega) (by omega)
  omega
theorem Ie: ∀ (k:Nat) (a r:List Int) (n:Int),a.length=k→0≤n→aB a→g9 a+n<256 ^ k→ ∃ a',de k n (a++r)=a'++r∧a'.length=k∧g9 a'=g9 a+n
 |0,a,r,n,h1,h2,h3,h4=>by
  have:a= []:=List.length_eq_zero_iff.1 h1
  subst this
  refine ⟨[],rfl,rfl,?_⟩
  simp[g9] at h4 ⊢;omega
 |k+1,a,r,n,h1,h2,h3,h4=>by
  have fR:a≠ []:=by intro e;rw[e] at h1;simp at h1
  obtain ⟨a0,x,rfl⟩: ∃ a0 x,a=a0++ [x]:=⟨a.dropLast,a.getLast fR,(List.dropLast_concat_getLast fR).symm⟩
  rw[de]
  split
  ·have hk:a0.length=k:=by simp at h1;omega
   have hx:=h3 x (by simp)
   obtain ⟨CZ,J7⟩:=hx
   have eg:(a0++ [x]++r).getD k 0=x:=by
    rw[← hk,List.append_assoc,List.getD_eq_getElem?_getD,List.getElem?_append_right (Nat.le_refl _)];simp
   have es: ∀ y,(a0++ [x]++r).set k y=a0++(y::r):=fun y=>by
    rw[← hk,List.append_assoc,List.set_append_right _ _ (Nat.le_refl _)];simp
   rw[eg,es]
   rw[ju,Int.pow_succ] at h4
   obtain ⟨a',q1,q2,q3⟩:=Ie k a0 ((n+x)%256::r) ((n+x)/256) hk (by omega) (fun z hz=>h3 z (by simp[hz])) (by omega)
   refine ⟨a'++ [(n+x)%256],by rw[q1];simp,by simp[q2],?_⟩
   rw[ju,ju,q3];omega
  ·exact ⟨a0++ [x],rfl,h1,by omega⟩
theorem pM {l:List Int} {n:Int} (h2:0≤n) (h3:aB l) (h4:g9 l+n<256 ^ l.length):g9 (de l.length n l)=g9 l+n:=by
 obtain ⟨a',q1,q2,q3⟩:=Ie l.length l [] n rfl h2 h3 h4
 rw[List.append_nil,List.append_nil] at q1
 rw[q1,q3]
def mH (w:Int) (o:List Int):Prop:=sj w o∧g9 o+w≤256 ^ o.length
def Fin (F:List Int) (w:Int) (o:List Int):Prop:=o.length≤F.length∧g9 o*256 ^ (F.length-o.length)≤g9 F∧g9 F<(g9 o+w)*256 ^ (F.length-o.length)
structure Sy (F:List Int) (w:Int) (o:List Int) (r:RB) (d:Dc):Prop where
 d:d=(g9 (F.take o.length)-g9 o,w,0)
 b:r.b=F.drop o.length
 bad:r.bad=false
theorem jQ {F:List Int} {w:Int} {o:List Int} (hF:aB F) (h:Fin F w o):g9 o≤g9 (F.take o.length)∧g9 (F.take o.length)<g9 o+w:=by
 obtain ⟨h1,h2,h3⟩:=h
 have e:=pK (F.drop o.length) (F.take o.length)
 rw[List.take_append_drop] at e
 have hr:=lM (l:=F.drop o.length) fun z hz=>hF z (List.mem_of_mem_drop hz)
 rw[List.length_drop] at e hr
 rw[e] at h2 h3
 have hp:=zA (F.length-o.length)
 generalize (256:Int) ^ (F.length-o.length)=P at*
 generalize g9 (F.take o.length)=T at*
 generalize g9 (F.drop o.length)=R at*
 constructor
 ·have:g9 o*P<(T+1)*P:=by rw[Int.add_mul];omega
  have:=Int.lt_of_mul_lt_mul_right this (by omega)
  omega
 ·have:T*P<(g9 o+w)*P:=by omega
  exact Int.lt_of_mul_lt_mul_right this (by omega)
theorem iV {F:List Int} {w:Int} {o:List Int} (h:Fin F (cx w o).1 (cx w o).2):Fin F w o:=by
 unfold cx at h
 split at h
 ·obtain ⟨h1,h2,h3⟩:=h
  simp only[List.length_append,List.length_cons,List.length_nil] at h1 h2 h3
  obtain ⟨m,hm⟩: ∃ m,F.length-o.length=m+1:=⟨F.length-o.length-1,by omega⟩
  have e:F.length-(o.length+(0+1))=m:=by omega
  rw[e,ju,Int.add_zero] at h2
  rw[e,ju,Int.add_zero] at h3
  refine ⟨by omega,?_,?_⟩
  ·rw[hm,Int.pow_succ,← Int.mul_assoc,Int.mul_right_comm];exact h2
  ·rw[hm,Int.pow_succ,← Int.mul_assoc,Int.mul_right_comm,Int.add_mul (g9 o)];exact h3
 ·exact h
theorem xI {F:List Int} {w w1:Int} {o o1:List Int} (hl:o1.length=o.length) (h1:g9 o≤g9 o1) (h2:g9 o1+w1≤g9 o+w) (h:Fin F w1 o1):Fin F w o:=by
 obtain ⟨k1,k2,k3⟩:=h
 rw[hl] at k1 k2 k3
 unfold Fin
 have hp:=zA (F.length-o.length)
 generalize (256:Int) ^ (F.length-o.length)=P at*
 have a1:=Int.mul_le_mul_of_nonneg_right h1 (Int.le_of_lt hp)
 have a2:=Int.mul_le_mul_of_nonneg_right h2 (Int.le_of_lt hp)
 exact ⟨k1,by omega,by omega⟩
theorem tu {w:Int} {o:List Int} (h1:65536≤w) (h2:w<4294967296) (h3:aB o) (h4:o.length<1099511627775) (h:g9 o+w≤256 ^ o.length):mH (cx w o).1 (cx w o).2:=by
 refine ⟨sk h1 h2 h3 h4,?_⟩
 unfold cx
 split
 ·simp only[List.length_append,List.length_cons,List.length_nil,ju]
  rw[show o.length+(0+1)=o.length+1 from rfl,Int.pow_succ];omega
 ·exact h
theorem EH: ∀ (b:List Int) {d:Dc},d.2.2≤0→bP b d=(true,b,d)
 | [],d,h=>by rw[bP,decide_eq_true h]
 |x::r,d,h=>by rw[bP,if_neg (by omega)]
theorem xJ {F:List Int} {w1:Int} {o1:List Int} {r:RB} (hF:aB F) (hb:r.b=F.drop o1.length) (an5:r.bad=false) (h:Fin F (cx w1 o1).1 (cx w1 o1).2):
  Sy F (cx w1 o1).1 (cx w1 o1).2 (cr r (sS (g9 (F.take o1.length)-g9 o1) w1)).1 (cr r (sS (g9 (F.take o1.length)-g9 o1) w1)).2:=by
 have ht:=jQ hF h
 unfold cr sS cx at*
 rw[if_neg (show ¬ r.bad=true by rw[an5];simp)]
 split at h
 ·rename_i hw
  rw[if_pos hw] at ht ⊢
  rw[if_pos hw]
  simp only at*
  have hl:o1.length<F.length:=by have:=h.1;simp at this;omega
  have ed:F.drop o1.length=F.getD o1.length 0::F.drop (o1.length+1):=gN 0 hl
  have et:F.take (o1.length+1)=F.take o1.length++ [F.getD o1.length 0]:=by
   rw[List.take_add_one,List.getD_eq_getElem?_getD,List.getElem?_eq_getElem hl];simp
  simp only[List.length_append,List.length_cons,List.length_nil,Nat.zero_add,et,ju,Int.add_zero] at ht ⊢
  rw[hb,ed,bP,if_pos (by simp),EH _ (by unfold g8;simp)]
  unfold g8 ob
  simp only
  generalize F.getD o1.length 0=x at*
  refine ⟨?_,by simp,?_⟩
  ·simp only[List.length_append,List.length_cons,List.length_nil,Nat.zero_add,et,ju,Int.add_zero]
   rw[if_neg (by omega)];simp;omega
  ·simp;omega
 ·rename_i hw
  rw[if_neg hw] at ht ⊢
  rw[if_neg hw]
  simp only at*
  rw[EH _ (by simp)]
  unfold ob
  refine ⟨rfl,hb,?_⟩
  simp;omega
theorem oo {p b w:Int} {o:List Int} (h:mH w o) (hl:o.length<1099511627775):mH (bx p b w o).1 (bx p b w o).2∧ ∀ F,Fin F (bx p b w o).1 (bx p b w o).2→Fin F w o:=by
 obtain ⟨⟨h1,h2,h3,h4⟩,h5⟩:=h
 have hb:=gD p h1 h2
 have hr:=lM h3
 unfold bx
 generalize w/2048*a9 p=z at*
 split
 ·exact ⟨tu (by omega) (by omega) h3 hl (by omega),fun F h=>xI rfl (Int.le_refl _) (by omega) (iV h)⟩
 ·have ea:=pM (n:=z) (by omega) h3 (by omega)
  refine ⟨tu (by omega) (by omega) (nY _ _ _ h3) (by rw[bO];exact hl) (by rw[bO,ea];omega),fun F h=>xI (bO _ _ _) (by rw[ea];omega) (by rw[ea];omega) (iV h)⟩
theorem vF {b w:Int} {o:List Int} (h:mH w o) (hl:o.length<1099511627775):mH (cq b w o).1 (cq b w o).2∧ ∀ F,Fin F (cq b w o).1 (cq b w o).2→Fin F w o:=by
 obtain ⟨⟨h1,h2,h3,h4⟩,h5⟩:=h
 have hr:=lM h3
 unfold cq
 split
 ·exact ⟨tu (by omega) (by omega) h3 hl (by omega),fun F h=>xI rfl (Int.le_refl _) (by omega) (iV h)⟩
 ·have ea:=pM (n:=w/2) (by omega) h3 (by omega)
  refine ⟨tu (by omega) (by omega) (nY _ _ _ h3) (by rw[bO];exact hl) (by rw[bO,ea];omega),fun F h=>xI (bO _ _ _) (by rw[ea];omega) (by rw[ea];omega) (iV h)⟩
theorem W3 {F:List Int} {w:Int} {o:List Int} (hF:aB F) (h:Fin F w o):wZ (g9 (F.take o.length)-g9 o,w,0)=true:=by
 have:=jQ hF h
 rw[sX];exact ⟨rfl,by simp only;omega⟩
theorem Pj {F:List Int} {p b w:Int} {o:List Int} {r:RB} {d:Dc} (hF:aB F) (agD:b=0∨b=1) (h:mH w o) (hl:o.length<1099511627775) (hs:Sy F w o r d) (hf:Fin F (bx p b w o).1 (bx p b w o).2):
  (bq p d).1=b∧(bq p d).2.1=da p b∧ ∀ cs kS,Sy F (bx p b w o).1 (bx p b w o).2 (cr ⟨r.b,cs,kS,r.bad⟩ (bq p d).2.2).1 (cr ⟨r.b,cs,kS,r.bad⟩ (bq p d).2.2).2:=by
 have hfw:=(oo h hl).2 F hf
 have hm:=W3 hF hfw
 obtain ⟨⟨h1,h2,h3,h4⟩,h5⟩:=h
 have hb:=gD p h1 h2
 obtain ⟨s1,s2,s3⟩:=hs
 rw[s1]
 unfold bq
 rw[if_pos hm]
 unfold fJ
 simp only
 rcases agD with rfl|rfl
 ·have e:bx p 0 w o=cx (w/2048*a9 p) o:=by unfold bx;rw[if_pos rfl]
  rw[e] at hf ⊢
  have ht:=jQ hF (iV hf)
  rw[if_pos (by omega)]
  exact ⟨rfl,rfl,fun cs kS=>xJ hF s2 s3 hf⟩
 ·have hr:=lM h3
  have e:bx p 1 w o=cx (w-w/2048*a9 p) (de o.length (w/2048*a9 p) o):=by unfold bx;rw[if_neg (by decide)]
  have ea:=pM (n:=w/2048*a9 p) (by omega) h3 (by omega)
  rw[e] at hf ⊢
  have ht:=jQ hF (iV hf)
  rw[bO,ea] at ht
  rw[if_neg (by omega)]
  refine ⟨rfl,rfl,fun cs kS=>?_⟩
  have:=xJ (r:=⟨r.b,cs,kS,r.bad⟩) hF (by rw[bO];exact s2) s3 hf
  rw[bO,ea,← Int.sub_sub] at this
  exact this
theorem W4 {F:List Int} {b w:Int} {o:List Int} {r:RB} {d:Dc} (hF:aB F) (agD:b=0∨b=1) (h:mH w o) (hl:o.length<1099511627775) (hs:Sy F w o r d) (hf:Fin F (cq b w o).1 (cq b w o).2):
  (cF d).1=b∧Sy F (cq b w o).1 (cq b w o).2 (cr r (cF d).2).1 (cr r (cF d).2).2:=by
 have hfw:=(vF h hl).2 F hf
 have hm:=W3 hF hfw
 obtain ⟨⟨h1,h2,h3,h4⟩,h5⟩:=h
 obtain ⟨s1,s2,s3⟩:=hs
 rw[s1]
 unfold cF
 rw[if_pos hm]
 unfold fJ
 simp only
 rcases agD with rfl|rfl
 ·have e:cq 0 w o=cx (w/2) o:=by unfold cq;rw[if_pos rfl]
  rw[e] at hf ⊢
  have ht:=jQ hF (iV hf)
  rw[if_pos (by omega)]
  exact ⟨rfl,xJ hF s2 s3 hf⟩
 ·have hr:=lM h3
  have e:cq 1 w o=cx (w/2) (de o.length (w/2) o):=by unfold cq;rw[if_neg (by decide)]
  have ea:=pM (n:=w/2) (by omega) h3 (by omega)
  rw[e] at hf ⊢
  have ht:=jQ hF (iV hf)
  rw[bO,ea] at ht
  rw[if_neg (by omega)]
  refine ⟨rfl,?_⟩
  have:=xJ (r:=r) hF (by rw[bO];exact s2) s3 hf
  rw[bO,ea,← Int.sub_sub] at this
  exact this
theorem gE: ∀ (k:Nat) (v node w:Int) (o p:List Int),mH w o→o.length+k<1099511627775→
  mH (bb k v node w o p).1 (bb k v node w o p).2.1∧ ∀ F,Fin F (bb k v node w o p).1 (bb k v node w o p).2.1→Fin F w o
 |0,_,_,_,_,_,h,_=>⟨h,fun _ h=>h⟩
 |k+1,v,node,w,o,p,h,hl=>by
  obtain ⟨c1,c2⟩:=oo (p:=jm p node) (b:=v/2 ^ k%2) h (by omega)
  have cl:=gk (jm p node) (v/2 ^ k%2) w o
  obtain ⟨t1,t2⟩:=gE k v (2*node+v/2 ^ k%2) _ _ (c6 p node (v/2 ^ k%2)) c1 (by omega)
  rw[bb]
  exact ⟨t1,fun F hf=>c2 F (t2 F hf)⟩
theorem mI: ∀ (k:Nat) (v w:Int) (o:List Int),mH w o→o.length+k<1099511627775→
  mH (bK k v w o).1 (bK k v w o).2∧ ∀ F,Fin F (bK k v w o).1 (bK k v w o).2→Fin F w o
 |0,_,_,_,h,_=>⟨h,fun _ h=>h⟩
 |k+1,v,w,o,h,hl=>by
  obtain ⟨c1,c2⟩:=vF (b:=v/2 ^ k%2) h (by omega)
  have cl:=lC (v/2 ^ k%2) w o
  obtain ⟨t1,t2⟩:=mI k v _ _ c1 (by omega)
  rw[bK]
  exact ⟨t1,fun F hf=>c2 F (t2 F hf)⟩
theorem Ig {v:Int} (k:Nat):v%2 ^ (k+1)=2 ^ k*(v/2 ^ k%2)+v%2 ^ k:=by
 have hp:(0:Int)<2 ^ k:=Int.pow_pos (by decide)
 rw[Int.pow_succ]
 generalize (2:Int) ^ k=P at*
 have e1:=Int.mul_ediv_add_emod v P
 have e2:=Int.mul_ediv_add_emod (v/P) 2
 have h1:=Int.emod_nonneg v (show P≠0 by omega)
 have h2:=Int.emod_lt_of_pos v hp
 have e3:v=(P*(v/P%2)+v%P)+P*2*(v/P/2):=by
  rw[Int.mul_assoc]
  have:P*(2*(v/P/2))+P*(v/P%2)=P*(v/P):=by rw[← Int.mul_add,e2]
  omega
 have h3:0≤P*(v/P%2):=Int.mul_nonneg (by omega) (by omega)
 have h4:P*(v/P%2)≤P*1:=Int.mul_le_mul_of_nonneg_left (by omega) (by omega)
 have e4:(P*(v/P%2)+v%P+P*2*(v/P/2))%(P*2)=P*(v/P%2)+v%P:=by
  rw[Int.add_mul_emod_self_left];exact Int.emod_eq_of_lt (by omega) (by omega)
 rw[← e3] at e4
 exact e4
theorem tv {F:List Int} (hF:aB F): ∀ (k:Nat) (v node w:Int) (o p:List Int) (r:RB) (d:Dc),mH w o→o.length+k<1099511627775→Sy F w o r d→Fin F (bb k v node w o p).1 (bb k v node w o p).2.1→
  (fM k node r d p).1=2 ^ k*node+v%2 ^ k∧Sy F (bb k v node w o p).1 (bb k v node w o p).2.1 (fM k node r d p).2.1 (fM k node r d p).2.2.1∧
  (fM k node r d p).2.2.2=(bb k v node w o p).2.2∧(fM k node r d p).2.1.cs=r.cs∧(fM k node r d p).2.1.kS=r.kS
 |0,v,node,w,o,p,r,d,h,hl,hs,hf=>⟨by rw[fM];simp,hs,rfl,rfl,rfl⟩
 |k+1,v,node,w,o,p,r,d,h,hl,hs,hf=>by
  obtain ⟨c1,c2⟩:=oo (p:=jm p node) (b:=v/2 ^ k%2) h (by omega)
  have cl:=gk (jm p node) (v/2 ^ k%2) w o
  rw[bb] at hf ⊢
  have Up:=(gE k v (2*node+v/2 ^ k%2) _ _ (c6 p node (v/2 ^ k%2)) c1 (by omega)).2 F hf
  obtain ⟨b1,b2,b3⟩:=Pj hF (by omega) h (by omega) hs Up
  obtain ⟨m1,m2⟩:=iU r (bq (jm p node) d).2.2
  have ih:=tv hF k v (2*node+v/2 ^ k%2) _ _ (c6 p node (v/2 ^ k%2)) _ _ c1 (by omega) (b3 r.cs r.kS) hf
  rw[fM]
  simp only[b1]
  obtain ⟨i1,i2,i3,i4,i5⟩:=ih
  refine ⟨?_,i2,i3,i4.trans m1,i5.trans m2⟩
  refine i1.trans ?_
  rw[Ig,Int.pow_succ,Int.mul_add,Int.mul_assoc];omega
theorem Ca {F:List Int} (hF:aB F): ∀ (k:Nat) (v di w:Int) (o:List Int) (r:RB) (d:Dc),mH w o→o.length+k<1099511627775→Sy F w o r d→Fin F (bK k v w o).1 (bK k v w o).2→
  (fX k di r d).1=2 ^ k*di+v%2 ^ k∧Sy F (bK k v w o).1 (bK k v w o).2 (fX k di r d).2.1 (fX k di r d).2.2∧(fX k di r d).2.1.cs=r.cs∧(fX k di r d).2.1.kS=r.kS
 |0,v,di,w,o,r,d,h,hl,hs,hf=>⟨by rw[fX];simp,hs,rfl,rfl⟩
 |k+1,v,di,w,o,r,d,h,hl,hs,hf=>by
  obtain ⟨c1,c2⟩:=vF (b:=v/2 ^ k%2) h (by omega)
  have cl:=lC (v/2 ^ k%2) w o
  rw[bK] at hf ⊢
  have Up:=(mI k v _ _ c1 (by omega)).2 F hf
  obtain ⟨b1,b3⟩:=W4 hF (by omega) h (by omega) hs Up
  obtain ⟨m1,m2⟩:=iU r (cF d).2
  have ih:=Ca hF k v (2*di+v/2 ^ k%2) _ _ _ _ c1 (by omega) b3 hf
  rw[fX]
  simp only[b1]
  obtain ⟨i1,i2,i4,i5⟩:=ih
  refine ⟨?_,i2,i4.trans m1,i5.trans m2⟩
  refine i1.trans ?_
  rw[Ig,Int.pow_succ,Int.mul_add,Int.mul_assoc];omega
end Go.Proofs.YtjalaohajcpllaaGreat
end
section
set_option linter.unusedVariables false
set_option linter.unusedSimpArgs false
namespace Go.Proofs.YtjalaohajcpllaaGreat
open Go Go.Ev
set_option maxRecDepth 1000000
theorem Pk (t:cj) {s:List Int×Int} {p1 p2 p3:List Int} {w:Int} {o:List Int} (hs:TR s p1 p2 p3) (h:mH w o) (hl:o.length+30<1099511627775):
  let r:=jf t s p1 p2 p3 w o
  mH r.2.2.2.2.1 r.2.2.2.2.2∧ ∀ F,Fin F r.2.2.2.2.1 r.2.2.2.2.2→Fin F w o:=by
 obtain ⟨c1,c2⟩:=oo (p:=s.1.getD s.2.toNat 0) (b:=if t.1=0 then 0 else 1) h (by omega)
 have cl:=gk (s.1.getD s.2.toNat 0) (if t.1=0 then 0 else 1) w o
 unfold jf
 simp only
 generalize bx (s.1.getD s.2.toNat 0) (if t.1=0 then 0 else 1) w o=c at*
 split
 ·rw[hs.l1]
  obtain ⟨t1,t2⟩:=gE 8 t.2.2 1 c.1 c.2 p1 c1 (by omega)
  exact ⟨t1,fun F hf=>c2 F (t2 F hf)⟩
 ·rw[hs.l2,hs.l3]
  obtain ⟨t1,t2⟩:=gE 8 (t.1-2) 1 c.1 c.2 p2 c1 (by omega)
  have tl:=(eT 8 (t.1-2) 1 c.1 c.2 p2 c1.1 (by omega)).2
  generalize bb 8 (t.1-2) 1 c.1 c.2 p2=x at*
  obtain ⟨u1,u2⟩:=gE 6 ((t.2.1-1)/64) 1 x.1 x.2.1 p3 t1 (by omega)
  have ul:=(eT 6 ((t.2.1-1)/64) 1 x.1 x.2.1 p3 t1.1 (by omega)).2
  generalize bb 6 ((t.2.1-1)/64) 1 x.1 x.2.1 p3=y at*
  obtain ⟨v1,v2⟩:=mI 6 (t.2.1-1) y.1 y.2.1 u1 (by omega)
  exact ⟨v1,fun F hf=>c2 F (t2 F (u2 F (v2 F hf)))⟩
def abV (t:cj):Prop:=(t.1=0∧t.2.1=0∧0≤t.2.2∧t.2.2<256)∨(2≤t.1∧t.1≤257∧1≤t.2.1∧t.2.1≤4096∧t.2.2=0)
theorem agE {F:List Int} (hF:aB F) {t:cj} (ht:abV t) {s:List Int×Int} {p1 p2 p3:List Int} {w:Int} {o:List Int} {r:RB} {d:Dc} (hs:TR s p1 p2 p3) (h:mH w o) (hl:o.length+30<1099511627775)
  (hy:Sy F w o r d) (e1:r.cs=s.1) (e2:r.kS=s.2)
  (hf:Fin F (jf t s p1 p2 p3 w o).2.2.2.2.1 (jf t s p1 p2 p3 w o).2.2.2.2.2):
  let x:=jf t s p1 p2 p3 w o
  let y:=qe r d p1 p2 p3
  y.1=t∧Sy F x.2.2.2.2.1 x.2.2.2.2.2 y.2.1 y.2.2.1∧y.2.1.cs=x.1.1∧y.2.1.kS=x.1.2∧y.2.2.2=(x.2.1,x.2.2.1,x.2.2.2.1):=by
 obtain ⟨c1,c2⟩:=oo (p:=s.1.getD s.2.toNat 0) (b:=if t.1=0 then 0 else 1) h (by omega)
 have cl:=gk (s.1.getD s.2.toNat 0) (if t.1=0 then 0 else 1) w o
 have b01:(if t.1=0 then 0 else 1)=(0:Int)∨(if t.1=0 then 0 else 1)=(1:Int):=by split<;>simp
 have cs:=fun hf=>Pj (p:=s.1.getD s.2.toNat 0) hF b01 h (by omega) hy hf
 unfold jf at hf ⊢
 simp only at hf ⊢
 unfold qe RN
 rw[e1,e2]
 simp only
 rcases ht with ⟨h1,h2,h3,h4⟩|⟨h1,h2,h3,h4,h5⟩
 ·simp only[if_pos h1] at*
  rw[hs.l1] at hf ⊢
  generalize bx (s.1.getD s.2.toNat 0) 0 w o=c at*
  obtain ⟨t1,t2⟩:=gE 8 t.2.2 1 c.1 c.2 p1 c1 (by omega)
  obtain ⟨a1,a2,a3⟩:=cs (t2 F hf)
  have a3:=a3 (s.1.set s.2.toNat (bq (s.1.getD s.2.toNat 0) d).2.1) (bq (s.1.getD s.2.toNat 0) d).1
  have mc:=iU ⟨r.b,s.1.set s.2.toNat (bq (s.1.getD s.2.toNat 0) d).2.1,(bq (s.1.getD s.2.toNat 0) d).1,r.bad⟩ (bq (s.1.getD s.2.toNat 0) d).2.2
  rw[if_pos a1]
  generalize cr ⟨r.b,s.1.set s.2.toNat (bq (s.1.getD s.2.toNat 0) d).2.1,(bq (s.1.getD s.2.toNat 0) d).1,r.bad⟩ (bq (s.1.getD s.2.toNat 0) d).2.2=m at*
  obtain ⟨y1,y2,y3,y4,y5⟩:=tv hF 8 t.2.2 1 c.1 c.2 p1 m.1 m.2 c1 (by omega) a3 hf
  refine ⟨?_,y2,?_,?_,?_⟩
  ·have e:(fM 8 1 m.1 m.2 p1).1-256=t.2.2:=by rw[y1,show (2:Int) ^ 8=256 from by decide];omega
   rw[e]
   obtain ⟨ta,tb,tc⟩:=t
   simp only at h1 h2 ⊢
   rw[h1,h2]
  ·rw[y4,mc.1];simp only;rw[a2]
  ·rw[y5,mc.2];simp only;rw[a1]
  ·simp only[y3]
 ·have hn: ¬ t.1=0:=by omega
  simp only[if_neg hn] at*
  rw[hs.l2,hs.l3] at hf ⊢
  generalize bx (s.1.getD s.2.toNat 0) 1 w o=c at*
  obtain ⟨t1,t2⟩:=gE 8 (t.1-2) 1 c.1 c.2 p2 c1 (by omega)
  have tl:=(eT 8 (t.1-2) 1 c.1 c.2 p2 c1.1 (by omega)).2
  have ts:=fun r d=>tv (F:=F) hF 8 (t.1-2) 1 c.1 c.2 p2 r d c1 (by omega)
  generalize bb 8 (t.1-2) 1 c.1 c.2 p2=x at*
  obtain ⟨u1,u2⟩:=gE 6 ((t.2.1-1)/64) 1 x.1 x.2.1 p3 t1 (by omega)
  have ul:=(eT 6 ((t.2.1-1)/64) 1 x.1 x.2.1 p3 t1.1 (by omega)).2
  have us:=fun r d=>tv (F:=F) hF 6 ((t.2.1-1)/64) 1 x.1 x.2.1 p3 r d t1 (by omega)
  generalize bb 6 ((t.2.1-1)/64) 1 x.1 x.2.1 p3=y at*
  obtain ⟨v1,v2⟩:=mI 6 (t.2.1-1) y.1 y.2.1 u1 (by omega)
  have vs:=fun di r d=>Ca (F:=F) hF 6 (t.2.1-1) di y.1 y.2.1 r d u1 (by omega)
  obtain ⟨a1,a2,a3⟩:=cs (t2 F (u2 F (v2 F hf)))
  have a3:=a3 (s.1.set s.2.toNat (bq (s.1.getD s.2.toNat 0) d).2.1) (bq (s.1.getD s.2.toNat 0) d).1
  have mc:=iU ⟨r.b,s.1.set s.2.toNat (bq (s.1.getD s.2.toNat 0) d).2.1,(bq (s.1.getD s.2.toNat 0) d).1,r.bad⟩ (bq (s.1.getD s.2.toNat 0) d).2.2
  rw[if_neg (by rw[a1];decide)]
  generalize cr ⟨r.b,s.1.set s.2.toNat (bq (s.1.getD s.2.toNat 0) d).2.1,(bq (s.1.getD s.2.toNat 0) d).1,r.bad⟩ (bq (s.1.getD s.2.toNat 0) d).2.2=m at*
  obtain ⟨y1,y2,y3,y4,y5⟩:=ts m.1 m.2 a3 (u2 F (v2 F hf))
  generalize fM 8 1 m.1 m.2 p2=A at*
  obtain ⟨z1,z2,z3,z4,z5⟩:=us A.2.1 A.2.2.1 y2 (v2 F hf)
  generalize fM 6 1 A.2.1 A.2.2.1 p3=B at*
  obtain ⟨k1,k2,k4,k5⟩:=vs (B.1-64) B.2.1 B.2.2.1 z2 hf
  generalize fX 6 (B.1-64) B.2.1 B.2.2.1=C at*
  refine ⟨?_,k2,?_,?_,?_⟩
  ·rw[show (2:Int) ^ 8=256 from by decide] at y1
   rw[show (2:Int) ^ 6=64 from by decide] at z1 k1
   have e1:A.1-256+2=t.1:=by omega
   have e2:C.1+1=t.2.1:=by omega
   rw[e1,e2]
   obtain ⟨ta,tb,tc⟩:=t
   simp only at h5 ⊢
   rw[h5]
  ·rw[k4,z4,y4,mc.1];simp only;rw[a2]
  ·rw[k5,z5,y5,mc.2];simp only;rw[a1]
  ·simp only[y3,z3]
theorem tw: ∀ (l:List cj) {s:List Int×Int} {p1 p2 p3:List Int} {w:Int} {o:List Int},TR s p1 p2 p3→mH w o→o.length+21*l.length<1099500000000→
  ∀ F,Fin F (dN l s p1 p2 p3 w o).1 (dN l s p1 p2 p3 w o).2→Fin F w o
 | [],_,_,_,_,_,_,_,_,_=>fun F h=>h
 |t::l,s,p1,p2,p3,w,o,hs,h,hl=>fun F hf=>by
  rw[List.length_cons] at hl
  obtain ⟨f1,f2⟩:=Pk t hs h (by omega)
  obtain ⟨g1,g2,g3⟩:=y8 (t:=t) hs h.1 (by omega)
  rw[dN] at hf
  exact f2 F (tw l g1 f1 (by omega) F hf)
theorem Pl {F:List Int} (hF:aB F) {pl:Int}: ∀ (l:List cj) (k:Nat) (n:Int) (s:List Int×Int) (p1 p2 p3:List Int) (w:Int) (o:List Int) (r:RB) (d:Dc) (out:List cj),TR s p1 p2 p3→mH w o→o.length+21*l.length<1099500000000→
  (∀ t∈l,abV t)→Sy F w o r d→r.cs=s.1→r.kS=s.2→n+cv l=pl→l.length<k→Fin F (dN l s p1 p2 p3 w o).1 (dN l s p1 p2 p3 w o).2→
  (RO k pl n r d p1 p2 p3 out).1.bad=false∧EG (RO k pl n r d p1 p2 p3 out)=out++l
 | [],k,n,s,p1,p2,p3,w,o,r,d,out,hs,h,hl,ht,hy,e1,e2,hn,hk,hf=>by
  simp only[cv] at hn
  rw[om (by omega)]
  exact ⟨hy.bad,by simp[EG]⟩
 |t::l,k,n,s,p1,p2,p3,w,o,r,d,out,hs,h,hl,ht,hy,e1,e2,hn,hk,hf=>by
  rw[List.length_cons] at hl hk
  obtain ⟨k,rfl⟩: ∃ k0,k=k0+1:=⟨k-1,by omega⟩
  obtain ⟨f1,f2⟩:=Pk t hs h (by omega)
  obtain ⟨g1,g2,g3⟩:=y8 (t:=t) hs h.1 (by omega)
  rw[dN] at hf
  have Up:=tw l g1 f1 (by omega) F hf
  have htn:=ht t List.mem_cons_self
  obtain ⟨x1,x2,x3,x4,x5⟩:=agE hF htn hs h (by omega) hy e1 e2 Up
  have ib:1≤bt t:=by
   unfold bt
   rcases htn with h'|h'
   ·rw[if_pos h'.1];omega
   ·rw[if_neg (by omega)];omega
  have Me: ∀ l:List cj,(∀ t∈l,abV t)→0≤cv l:=fun l=>by
   induction l with
   |nil=>intro _;simp[cv]
   |cons t l ih=>
    intro h
    have:=ih fun t ht=>h t (List.mem_cons_of_mem _ ht)
    rw[cv]
    have:0≤bt t:=by
     unfold bt
     rcases h t List.mem_cons_self with h'|h'
     ·rw[if_pos h'.1];omega
     ·rw[if_neg (by omega)];omega
    omega
  have TX:=Me l fun t h=>ht t (List.mem_cons_of_mem _ h)
  simp only[cv] at hn
  rw[RO,if_pos ⟨by omega,hy.bad⟩]
  simp only[x1,x5]
  have:=Pl hF (pl:=pl) l k (n+bt t) _ _ _ _ _ _ _ _ (out++ [t]) g1 f1 (by omega) (fun t h=>ht t (List.mem_cons_of_mem _ h)) x2 x3 x4 (by omega) (by omega) hf
  refine ⟨this.1,this.2.trans (by simp)⟩
theorem wM: ∀ (l:List cj) (made:Int),bC made l=true→made≤8192→made+cv l≤8192∧(l.length:Int)≤cv l
 | [],made,_,h=>by simp[cv];omega
 |t::l,made,hr,h=>by
  rw[bC,Bool.and_eq_true,Bool.and_eq_true] at hr
  have h2:=of_decide_eq_true hr.1.2
  have h3:=jM hr.1.1
  have:=wM l (made+bt t) hr.2 h2
  rw[cv,List.length_cons];omega
theorem zB: ∀ (l:List cj) (made:Int),bC made l=true→sN l→ ∀ t∈l,abV t
 | [],_,_,_,t,h=>by simp at h
 |t::l,made,hr,hb,x,hx=>by
  rw[bC,Bool.and_eq_true,Bool.and_eq_true] at hr
  rcases List.mem_cons.1 hx with rfl|hx
  ·have hm:=hr.1.1
   have:=hb x List.mem_cons_self
   unfold iR at hm
   split at hm
   ·exact .inl ⟨by assumption,of_decide_eq_true hm,this⟩
   ·have hm:=of_decide_eq_true hm;exact .inr ⟨hm.2.1,hm.2.2.1,hm.2.2.2.1,hm.2.2.2.2.1,hm.1⟩
  ·exact zB l _ hr.2 (fun t h=>hb t (List.mem_cons_of_mem _ h)) x hx
theorem W5:mH 4294967295 [0,0,0,0]:=⟨Lq,by decide⟩
theorem sy0 {F:List Int} (hF:aB F) (h:Fin F 4294967295 [0,0,0,0]):
  Sy F 4294967295 [0,0,0,0] (cr ⟨F,[1024,1024],0,false⟩ (0,4294967295,4)).1 (cr ⟨F,[1024,1024],0,false⟩ (0,4294967295,4)).2:=by
 have ht:=jQ hF h
 have hl:4≤F.length:=h.1
 match F,hl with
 |x0::x1::x2::x3::F,_=>
  have e:bP (x0::x1::x2::x3::F) (0,4294967295,4)=(true,F,((((0*256+x0)*256+x1)*256+x2)*256+x3,4294967295,0)):=by
   rw[bP,if_pos (by decide),bP,if_pos (by simp[g8]),bP,if_pos (by simp[g8]),bP,if_pos (by simp[g8]),EH _ (by simp[g8])]
   simp[g8]
  have eb:g9 (List.take [(0:Int),0,0,0].length (x0::x1::x2::x3::F))=(((0*256+x0)*256+x1)*256+x2)*256+x3:=by simp[g9]
  have e0:g9 [0,0,0,0]=0:=by decide
  rw[eb,e0] at ht
  unfold cr
  rw[if_neg (by simp)]
  rw[e]
  refine ⟨by rw[eb,e0];simp only;rw[Int.sub_zero],rfl,?_⟩
  unfold ob
  simp;omega
theorem Ih {l:List cj} (hr:bC 0 l=true) (hb:sN l):aG (cR l) (cv l)=(0,l):=by
 obtain ⟨l1,l2⟩:=wM l 0 hr (by omega)
 have ht:=zB l 0 hr hb
 have ok:=sR l D6 Lq (by simp;omega)
 have hs:=fun F hF=>Pl (F:=F) hF (pl:=cv l) l 9000 0 ([1024,1024],0) (bo 8) (bo 8) (bo 6) 4294967295 [0,0,0,0]
 have wV:=tw l D6 W5 (by simp;omega)
 have ep:cR l=(dN l ([1024,1024],0) (bo 8) (bo 8) (bo 6) 4294967295 [0,0,0,0]).2:=by unfold cR;rw[if_pos hr]
 rw[← ep] at ok wV hs
 generalize (dN l ([1024,1024],0) (bo 8) (bo 8) (bo 6) 4294967295 [0,0,0,0]).1=W at*
 generalize hP:cR l=P at*
 have hF:aB P:=ok.1.2.2.1
 have hw:16777216≤W:=ok.1.1
 have abW:Fin P W P:=⟨Nat.le_refl _,by rw[Nat.sub_self];simp,by rw[Nat.sub_self];simp;omega⟩
 have hf0:=wV P abW
 have hy:=sy0 hF hf0
 have mc:=iU ⟨P,[1024,1024],0,false⟩ (0,4294967295,4)
 have hus:=W2 (pl:=cv l) (by omega) 8192 9000 200000 0 P (0,4294967295,4) r0H (bo 8,bo 8,bo 6) [] (by omega) (by omega) (by omega) rfl rfl (.inl rfl) (by omega) rfl rfl
 have ny:Ba 200000 (cv l) 0 P (0,4294967295,4) r0H (bo 8,bo 8,bo 6) []=cY P (cv l):=rfl
 rw[ny] at hus
 simp only[show r0H.cs= [1024,1024] from rfl,show r0H.bh=0 from rfl] at hus
 obtain ⟨b1,b2⟩:=hs P hF _ _ [] D6 W5 (by simp;omega) ht hy mc.1 mc.2 (by omega) (by omega) abW
 rw[List.nil_append] at b2
 have er:cY P (cv l)=(l,true):=by
  rw[hus,b1,b2,if_pos ⟨rfl,hr,rfl⟩]
 unfold aG
 rw[if_neg (by omega),er,if_pos ⟨rfl,by rw[hP];simp[cX]⟩]
end Go.Proofs.YtjalaohajcpllaaGreat
end
section
set_option linter.unusedVariables false
set_option linter.unusedSimpArgs false
namespace Go.Proofs.YtjalaohajcpllaaGreat
open Go Go.Ev
set_option maxRecDepth 1000000
abbrev bsA:ba (List LV) (List Int×Int×Unit):=ae (ai (eS false false u8)) (ae (ai (ax .i64)) ag)
def fW:Nat→List Int→Int→Int→Int→Int
 |0,_,_,_,n=>n
 |k+1,b,a,d,n=>if b.getD (a+n).toNat 0=b.getD (a+n-d).toNat 0 then fW k b a d (n+1) else n
theorem lN: ∀ (k:Nat) (b:List Int) (a d n:Int),n≤fW k b a d n∧fW k b a d n≤n+k
 |0,_,_,_,n=>⟨Int.le_refl _,by simp[fW]⟩
 |k+1,b,a,d,n=>by
  rw[fW]
  split
  ·have:=lN k b a d (n+1);omega
  ·omega
theorem Cb: ∀ (j k:Nat) (b:List Int) (a d n:Int),fW (j+k) b a d n=if fW j b a d n<n+j then fW j b a d n else fW k b a d (n+j)
 |0,k,b,a,d,n=>by simp[fW]
 |j+1,k,b,a,d,n=>by
  rw[show j+1+k=(j+k)+1 from by omega,fW,fW]
  split
  ·rw[Cb j k b a d (n+1),show n+1+(j:Int)=n+((j+1:Nat):Int) from by omega]
  ·rw[if_pos (by omega)]
abbrev W6:Type:=(List Int)×Int×Int×Int×Int×Int×Int×Int
noncomputable abbrev abX:ba St W6:=(bG (ae (ai (eS false false (Ty.int IntKind.u8))) (ae (ai (ax IntKind.i64)) (jk 2 (ae (ai
 (ax IntKind.i64)) (ae (ai (ax IntKind.i64)) (ae (ai (ax IntKind.i64)) (ae (ai (ax IntKind.i64)) (jk 26 (ae (ai (ax
 IntKind.i64)) (ae (ai (ax IntKind.i64)) (jk 47 ag))))))))))) ag).qk (fun y=>(y.1.1,y.1.2.1,y.1.2.2.1,y.1.2.2.2.1,y.1.2.2.2.2.1,
 y.1.2.2.2.2.2.1,y.1.2.2.2.2.2.2.1,y.1.2.2.2.2.2.2.2.1)) (fun x=>((x.1,(x.2.1,(x.2.2.1,(x.2.2.2.1,(x.2.2.2.2.1,(x.2.2.2.2.2.1,
 (x.2.2.2.2.2.2.1,(x.2.2.2.2.2.2.2,())))))))),())) (fun _=>rfl)
abbrev ajP:List Wk:= [.fr (dA 83 [(0,.aq),(1,.aq),(4,.aq),(5,.aq),(6,.aq),(7,.aq),(34,.aq),(35,.aq)]),.syms,
 .auto,.aD]
abbrev ajQ:Exit→List Wk:=Dy ajP 2 [.fr (dA 83 [(0,.aq),(1,.aq),(4,.aq),(6,.aq),(7,.aq)]),.syms,.auto,.aD] [.fr (dA
 83 [(4,.aq),(5,.aq)]),.syms,.auto,.aD]
abbrev aeU:Type:=(List Int)×Int×Int×Int×Int×Int×Int×Int
noncomputable abbrev Pm (x:aeU):Exit×St:=(Exit.exit 1,⟨(LV.one (VV.sc (SV.rd false false (Ty.int IntKind.u8) x.1))::(LV.one (VV.sc
 (SV.int IntKind.i64 (SI.sym x.2.1)))::(ir 2 (LV.one (VV.sc (SV.int IntKind.i64 (SI.sym x.2.2.1)))::(LV.one (VV.sc (SV.int IntKind.i64 (SI.sym
 x.2.2.2.1)))::(LV.one (VV.sc (SV.int IntKind.i64 (SI.sym x.2.2.2.2.1)))::(LV.one (VV.sc (SV.int IntKind.i64 (SI.sym x.2.2.2.2.2.1)))::(ir 26
 (LV.one (VV.sc (SV.int IntKind.i64 (SI.sym x.2.2.2.2.2.2.1)))::(LV.one (VV.sc (SV.int IntKind.i64 (SI.sym x.2.2.2.2.2.2.2)))::(ir 47
 []))))))))))),[]⟩)
abbrev aeV:Type:=(List Int)×Int×Int×Int×Int
noncomputable abbrev Po (x:aeV):Exit×St:=(Exit.exit 2,⟨(LV.one (VV.sc (SV.rd false false (Ty.int IntKind.u8) x.1))::(LV.one (VV.sc
 (SV.int IntKind.i64 (SI.sym x.2.1)))::(ir 2 (LV.one (VV.sc (SV.int IntKind.i64 (SI.sym x.2.2.1)))::(ir 1 (LV.one (VV.sc (SV.int IntKind.i64
 (SI.sym x.2.2.2.1)))::(LV.one (VV.sc (SV.int IntKind.i64 (SI.sym x.2.2.2.2)))::(ir 75 [])))))))),[]⟩)
noncomputable def RP (b':List Int) (a:Int) (n:Int) (di:Int) (mo:Int) (d:Int) (li:Int) (i:Int):Tr (W6⊕(aeU⊕aeV)):=(.ite
 (decide (i<li)) (.need (0≤IntKind.i64.wrap (a+i)∧IntKind.i64.wrap (a+i)<(↑b'.length:Int)) (.need (0≤IntKind.i64.wrap (IntKind.i64.wrap
 (a+i)-d)∧IntKind.i64.wrap (IntKind.i64.wrap (a+i)-d)<(↑b'.length:Int)) (.ite (b'.getD (IntKind.i64.wrap (a+i)).toNat 0!=b'.getD
 (IntKind.i64.wrap (IntKind.i64.wrap (a+i)-d)).toNat 0) (.ret (.inr (.inl (b',a,n,di,mo,d,li,i)))) (.ret (.inl (b',a,n,di,mo,d,li,
 IntKind.i64.wrap (i+1))))))) (.ret (.inr (.inr (b',a,n,mo,d)))))
theorem W7 (b:List Int) (at_:Int) (b':List Int) (a:Int) (n:Int) (di:Int) (mo:Int) (d:Int) (li:Int) (i:Int):dR Tryz.prog [] [] Tryz.f98 2 ((ag).wr (())) ajQ (abX.wr (b',a,n,di,mo,d,li,i))=(RP b' a n di mo d li i).res abX.wr (Sum.elim Pm Po):=by kernel_rfl
abbrev zC (b':List Int) (a:Int) (n:Int) (di:Int) (mo:Int) (d:Int) (li:Int) (i:Int):Prop:=0≤i∧i≤li∧a+li≤b'.length∧1≤d∧d≤a∧b'.length<1099511627776
noncomputable abbrev ajR (x_:W6):aU:= .need ((fun (b':List Int) (a:Int) (n:Int) (di:Int) (mo:Int) (d:Int) (li:Int) (i:Int)=>zC b' a n di mo d li i) x_.1 x_.2.1 x_.2.2.1 x_.2.2.2.1 x_.2.2.2.2.1 x_.2.2.2.2.2.1 x_.2.2.2.2.2.2.1 x_.2.2.2.2.2.2.2) (.ite ((fun (b':List Int) (a:Int) (n:Int) (di:Int) (mo:Int) (d:Int) (li:Int) (i:Int)=>decide (fW (li-i).toNat b' a d i<li)) x_.1 x_.2.1 x_.2.2.1 x_.2.2.2.1 x_.2.2.2.2.1 x_.2.2.2.2.2.1 x_.2.2.2.2.2.2.1 x_.2.2.2.2.2.2.2) (.leaf (Pm ((fun (b':List Int) (a:Int) (n:Int) (di:Int) (mo:Int) (d:Int) (li:Int) (i:Int)=>(b',a,n,di,mo,d,li,fW (li-i).toNat b' a d i)) x_.1 x_.2.1 x_.2.2.1 x_.2.2.2.1 x_.2.2.2.2.1 x_.2.2.2.2.2.1 x_.2.2.2.2.2.2.1 x_.2.2.2.2.2.2.2)).1 (Pm ((fun (b':List Int) (a:Int) (n:Int) (di:Int) (mo:Int) (d:Int) (li:Int) (i:Int)=>(b',a,n,di,mo,d,li,fW (li-i).toNat b' a d i)) x_.1 x_.2.1 x_.2.2.1 x_.2.2.2.1 x_.2.2.2.2.1 x_.2.2.2.2.2.1 x_.2.2.2.2.2.2.1 x_.2.2.2.2.2.2.2)).2) (.leaf (Po ((fun (b':List Int) (a:Int) (n:Int) (di:Int) (mo:Int) (d:Int) (li:Int) (i:Int)=>(b',a,n,mo,d)) x_.1 x_.2.1 x_.2.2.1 x_.2.2.2.1 x_.2.2.2.2.1 x_.2.2.2.2.2.1 x_.2.2.2.2.2.2.1 x_.2.2.2.2.2.2.2)).1 (Po ((fun (b':List Int) (a:Int) (n:Int) (di:Int) (mo:Int) (d:Int) (li:Int) (i:Int)=>(b',a,n,mo,d)) x_.1 x_.2.1 x_.2.2.1 x_.2.2.2.1 x_.2.2.2.2.1 x_.2.2.2.2.2.1 x_.2.2.2.2.2.2.1 x_.2.2.2.2.2.2.2)).2))
theorem agF (b':List Int) (a:Int) (n:Int) (di:Int) (mo:Int) (d:Int) (li:Int) (i:Int) (h_:zC b' a n di mo d li i):dq (fun x_:W6=>RP x_.1 x_.2.1 x_.2.2.1 x_.2.2.2.1 x_.2.2.2.2.1 x_.2.2.2.2.2.1 x_.2.2.2.2.2.2.1 x_.2.2.2.2.2.2.2) (b',a,n,di,mo,d,li,i) (bif decide (fW (li-i).toNat b' a d i<li) then .inl ((b',a,n,di,mo,d,li,fW (li-i).toNat b' a d i)) else .inr ((b',a,n,mo,d))):=by
 obtain ⟨h1,h2,h3,h4,h5,h6⟩:=h_
 obtain ⟨k,hk⟩: ∃ k:Nat,(li-i).toNat=k:=⟨_,rfl⟩
 rw[hk]
 induction k generalizing i with
 |zero=>
  refine .stop ?_
  have e:decide (fW 0 b' a d i<li)=false:=decide_eq_false (by show ¬ i<li;omega)
  rw[e]
  simp only[RP,bs,an,al]
  exact ⟨fun h=>by omega,fun _=>rfl⟩
 |succ k ih=>
  have w1:IntKind.i64.wrap (a+i)=a+i:=ar (by omega) (by omega)
  have w2:IntKind.i64.wrap (a+i-d)=a+i-d:=ar (by omega) (by omega)
  have w3:IntKind.i64.wrap (i+1)=i+1:=ar (by omega) (by omega)
  rw[fW]
  by_cases he:b'.getD (a+i).toNat 0=b'.getD (a+i-d).toNat 0
  ·rw[if_pos he]
   refine .go ?_ (ih (i+1) (by omega) (by omega) (by omega))
   simp only[RP,bs,an,al,yR,w1,w2,w3]
   exact ⟨fun _=>⟨⟨by omega,by omega⟩,⟨by omega,by omega⟩,fun _=>trivial,fun h=>absurd he h⟩,fun h=>by omega⟩
  ·rw[if_neg he]
   refine .stop ?_
   have e:decide (i<li)=true:=by simp;omega
   rw[e]
   simp only[RP,bs,an,al,yR,w1,w2,w3]
   exact ⟨fun _=>⟨⟨by omega,by omega⟩,⟨by omega,by omega⟩,fun h=>absurd h he,fun _=>rfl⟩,fun h=>by omega⟩
theorem abY (b:List Int) (at_:Int): ∀ x:W6,Ex Tryz.prog ((ag).wr (())) (.loop (aW Tryz.f98 2)) (abX.wr x) (ajR x):=
 db mixed aF (ws:=ajQ) (aQ.nil _) (E:=Sum.elim Pm Po) (L:=fun x_=>RP x_.1 x_.2.1 x_.2.2.1 x_.2.2.2.1 x_.2.2.2.2.1 x_.2.2.2.2.2.1 x_.2.2.2.2.2.2.1 x_.2.2.2.2.2.2.2) (pre:=fun x_=>(fun (b':List Int) (a:Int) (n:Int) (di:Int) (mo:Int) (d:Int) (li:Int) (i:Int)=>zC b' a n di mo d li i) x_.1 x_.2.1 x_.2.2.1 x_.2.2.2.1 x_.2.2.2.2.1 x_.2.2.2.2.2.1 x_.2.2.2.2.2.2.1 x_.2.2.2.2.2.2.2) (sp:=fun x_=>bif (fun (b':List Int) (a:Int) (n:Int) (di:Int) (mo:Int) (d:Int) (li:Int) (i:Int)=>decide (fW (li-i).toNat b' a d i<li)) x_.1 x_.2.1 x_.2.2.1 x_.2.2.2.1 x_.2.2.2.2.1 x_.2.2.2.2.2.1 x_.2.2.2.2.2.2.1 x_.2.2.2.2.2.2.2 then .inl ((fun (b':List Int) (a:Int) (n:Int) (di:Int) (mo:Int) (d:Int) (li:Int) (i:Int)=>(b',a,n,di,mo,d,li,fW (li-i).toNat b' a d i)) x_.1 x_.2.1 x_.2.2.1 x_.2.2.2.1 x_.2.2.2.2.1 x_.2.2.2.2.2.1 x_.2.2.2.2.2.2.1 x_.2.2.2.2.2.2.2) else .inr ((fun (b':List Int) (a:Int) (n:Int) (di:Int) (mo:Int) (d:Int) (li:Int) (i:Int)=>(b',a,n,mo,d)) x_.1 x_.2.1 x_.2.2.1 x_.2.2.2.1 x_.2.2.2.2.1 x_.2.2.2.2.2.1 x_.2.2.2.2.2.2.1 x_.2.2.2.2.2.2.2)) (fun x_=>W7 b at_ x_.1 x_.2.1 x_.2.2.1 x_.2.2.2.1 x_.2.2.2.2.1 x_.2.2.2.2.2.1 x_.2.2.2.2.2.2.1 x_.2.2.2.2.2.2.2) (fun z=>by cases z<;>(intro e;cases e)) qO (fun x_ h=>agF x_.1 x_.2.1 x_.2.2.1 x_.2.2.2.1 x_.2.2.2.2.1 x_.2.2.2.2.2.1 x_.2.2.2.2.2.2.1 x_.2.2.2.2.2.2.2 h)
abbrev W8:Type:=(List Int)×Int×Int×Int×Int
noncomputable abbrev abZ:ba St W8:=(bG (ae (ai (eS false false (Ty.int IntKind.u8))) (ae (ai (ax IntKind.i64)) (jk 2 (ae (ai
 (ax IntKind.i64)) (jk 1 (ae (ai (ax IntKind.i64)) (ae (ai (ax IntKind.i64)) (jk 75 ag)))))))) ag).qk (fun y=>(y.1.1,y.1.2.1,
 y.1.2.2.1,y.1.2.2.2.1,y.1.2.2.2.2.1)) (fun x=>((x.1,(x.2.1,(x.2.2.1,(x.2.2.2.1,(x.2.2.2.2,()))))),())) (fun _=>rfl)
abbrev ajS:List Wk:= [.fr (dA 83 [(0,.aq),(1,.aq),(4,.aq),(6,.aq),(7,.aq)]),.syms,.auto,.aD]
abbrev ajT:Exit→List Wk:=Dy ajS 4 [.fr (dA 83 [(0,.aq),(1,.aq),(4,.aq),(6,.aq),(7,.aq)]),.syms,.auto,.aD] [.fr (dA
 83 [(4,.aq),(5,.aq)]),.syms,.auto,.aD]
abbrev ajU:Type:=(List Int)×Int×Int×Int×Int
noncomputable abbrev ab0 (x:ajU):Exit×St:=(Exit.exit 4,⟨(LV.one (VV.sc (SV.rd false false (Ty.int IntKind.u8) x.1))::(LV.one (VV.sc
 (SV.int IntKind.i64 (SI.sym x.2.1)))::(ir 2 (LV.one (VV.sc (SV.int IntKind.i64 (SI.sym x.2.2.1)))::(ir 1 (LV.one (VV.sc (SV.int IntKind.i64
 (SI.sym x.2.2.2.1)))::(LV.one (VV.sc (SV.int IntKind.i64 (SI.sym x.2.2.2.2)))::(ir 75 [])))))))),[]⟩)
noncomputable def RQ (b':List Int) (a:Int) (n:Int) (mo:Int) (d:Int):Tr (W8⊕(ajU)):=(.ite (decide (n<mo)==true) (.need (0≤
 IntKind.i64.wrap (a+n)∧IntKind.i64.wrap (a+n)<(↑b'.length:Int)) (.need (0≤IntKind.i64.wrap (IntKind.i64.wrap (a+n)-d)∧
 IntKind.i64.wrap (IntKind.i64.wrap (a+n)-d)<(↑b'.length:Int)) (.ite (b'.getD (IntKind.i64.wrap (a+n)).toNat 0==b'.getD (IntKind.i64.wrap
 (IntKind.i64.wrap (a+n)-d)).toNat 0) (.ret (.inl (b',a,IntKind.i64.wrap (n+1),mo,d))) (.ret (.inr (b',a,n,mo,d)))))) (.ret (.inr (b',a,
 n,mo,d))))
theorem W9 (b:List Int) (at_:Int) (b':List Int) (a:Int) (n:Int) (mo:Int) (d:Int):dR Tryz.prog [] [] Tryz.f98 4 ((ag).wr (())) ajT (abZ.wr (b',a,n,mo,d))=(RQ b' a n mo d).res abZ.wr ab0:=by kernel_rfl
abbrev zD (b':List Int) (a:Int) (n:Int) (mo:Int) (d:Int):Prop:=0≤n∧n≤mo∧a+mo≤b'.length∧1≤d∧d≤a∧b'.length<1099511627776
noncomputable abbrev ajV (x_:W8):aU:= .need ((fun (b':List Int) (a:Int) (n:Int) (mo:Int) (d:Int)=>zD b' a n mo d) x_.1 x_.2.1 x_.2.2.1 x_.2.2.2.1 x_.2.2.2.2) (.leaf (ab0 ((fun (b':List Int) (a:Int) (n:Int) (mo:Int) (d:Int)=>(b',a,fW (mo-n).toNat b' a d n,mo,d)) x_.1 x_.2.1 x_.2.2.1 x_.2.2.2.1 x_.2.2.2.2)).1 (ab0 ((fun (b':List Int) (a:Int) (n:Int) (mo:Int) (d:Int)=>(b',a,fW (mo-n).toNat b' a d n,mo,d)) x_.1 x_.2.1 x_.2.2.1 x_.2.2.2.1 x_.2.2.2.2)).2)
theorem agG (b':List Int) (a:Int) (n:Int) (mo:Int) (d:Int) (h_:zD b' a n mo d):dq (fun x_:W8=>RQ x_.1 x_.2.1 x_.2.2.1 x_.2.2.2.1 x_.2.2.2.2) (b',a,n,mo,d) ((b',a,fW (mo-n).toNat b' a d n,mo,d)):=by
 obtain ⟨h1,h2,h3,h4,h5,h6⟩:=h_
 obtain ⟨k,hk⟩: ∃ k:Nat,(mo-n).toNat=k:=⟨_,rfl⟩
 rw[hk]
 induction k generalizing n with
 |zero=>
  refine .stop ?_
  have e:(decide (n<mo)==true)=false:=by simp;omega
  simp only[RQ,e,aN,al];rfl
 |succ k ih=>
  have w1:IntKind.i64.wrap (a+n)=a+n:=ar (by omega) (by omega)
  have w2:IntKind.i64.wrap (a+n-d)=a+n-d:=ar (by omega) (by omega)
  have w3:IntKind.i64.wrap (n+1)=n+1:=ar (by omega) (by omega)
  have e:(decide (n<mo)==true)=true:=by simp;omega
  rw[fW]
  by_cases he:b'.getD (a+n).toNat 0=b'.getD (a+n-d).toNat 0
  ·rw[if_pos he]
   refine .go ?_ (ih (n+1) (by omega) (by omega) (by omega))
   simp only[RQ,e,aK,an,al,fo,w1,w2,w3]
   exact ⟨⟨by omega,by omega⟩,⟨by omega,by omega⟩,fun _=>trivial,fun h=>absurd he h⟩
  ·rw[if_neg he]
   refine .stop ?_
   simp only[RQ,e,aK,an,al,fo,w1,w2,w3]
   exact ⟨⟨by omega,by omega⟩,⟨by omega,by omega⟩,fun h=>absurd h he,fun _=>trivial⟩
theorem ab1 (b:List Int) (at_:Int): ∀ x:W8,Ex Tryz.prog ((ag).wr (())) (.loop (aW Tryz.f98 4)) (abZ.wr x) (ajV x):=
 db mixed aF (ws:=ajT) (aQ.nil _) (E:=ab0) (L:=fun x_=>RQ x_.1 x_.2.1 x_.2.2.1 x_.2.2.2.1 x_.2.2.2.2) (pre:=fun x_=>(fun (b':List Int) (a:Int) (n:Int) (mo:Int) (d:Int)=>zD b' a n mo d) x_.1 x_.2.1 x_.2.2.1 x_.2.2.2.1 x_.2.2.2.2) (sp:=fun x_=>(fun (b':List Int) (a:Int) (n:Int) (mo:Int) (d:Int)=>(b',a,fW (mo-n).toNat b' a d n,mo,d)) x_.1 x_.2.1 x_.2.2.1 x_.2.2.2.1 x_.2.2.2.2) (fun x_=>W9 b at_ x_.1 x_.2.1 x_.2.2.1 x_.2.2.2.1 x_.2.2.2.2) (fun z e=>by cases e) je (fun x_ h=>agG x_.1 x_.2.1 x_.2.2.1 x_.2.2.2.1 x_.2.2.2.2 h)
def fN:Nat→List Int→Int→Nat→Int→Int→Int→Int×Int
 |0,_,_,_,_,n,di=>(n,di)
 |k+1,b,a,mo,d,n,di=>if n<fW mo b a d 0 then fN k b a mo (d+1) (fW mo b a d 0) d else fN k b a mo (d+1) n di
theorem Cc: ∀ (k:Nat) (b:List Int) (a:Int) (mo:Nat) (d n di:Int),(mo:Int)≤n→fN k b a mo d n di=(n,di)
 |0,_,_,_,_,_,_,_=>rfl
 |k+1,b,a,mo,d,n,di,h=>by
  have:=lN mo b a d 0
  rw[fN,if_neg (by omega)]
  exact Cc k b a mo (d+1) n di h
abbrev Xa:Type:=(List Int)×Int×Int×Int×Int×Int
noncomputable abbrev RR:ba St Xa:=(bG (ae (ai (eS false false (Ty.int IntKind.u8))) (ae (ai (ax IntKind.i64)) (jk 2 (ae (ai
 (ax IntKind.i64)) (ae (ai (ax IntKind.i64)) (ae (ai (ax IntKind.i64)) (ae (ai (ax IntKind.i64)) (jk 75 ag)))))))) ag).qk
 (fun y=>(y.1.1,y.1.2.1,y.1.2.2.1,y.1.2.2.2.1,y.1.2.2.2.2.1,y.1.2.2.2.2.2.1)) (fun x=>((x.1,(x.2.1,(x.2.2.1,(x.2.2.2.1,(x.2.2.2.2.1,
 (x.2.2.2.2.2,())))))),())) (fun _=>rfl)
abbrev ab2:List Wk:= [.fr (dA 83 [(0,.aq),(1,.aq),(4,.aq),(5,.aq),(6,.aq),(7,.aq)]),.syms,.auto,.aD]
abbrev ajW:Exit→List Wk:=Dy ab2 0 [.fr (dA 83 [(4,.aq),(5,.aq)]),.syms,.auto,.aD] [.fr (dA 83 [(4,.aq),(5,.aq)]),.syms,
 .auto,.aD]
abbrev ajX:Type:=Int×Int
noncomputable abbrev ab3 (x:ajX):Exit×St:=(Exit.exit 0,⟨(ir 4 (LV.one (VV.sc (SV.int IntKind.i64 (SI.sym x.1)))::(LV.one (VV.sc (SV.int
 IntKind.i64 (SI.sym x.2)))::(ir 77 [])))),[]⟩)
noncomputable def Mf (b':List Int) (a:Int) (n:Int) (di:Int) (mo:Int) (d:Int):Tr (Xa⊕(ajX)):=(.ite (decide (d≤if 4096<a then
 4096 else a)==true) (.ite (decide (n<mo)) (.need (zC b' a n di mo d (IntKind.i64.wrap (n+1)) 0) (.ite (decide (fW (Int.toNat
 (IntKind.i64.wrap (n+1)-0)) b' a d 0<IntKind.i64.wrap (n+1))) (.ret (.inl (b',a,n,di,mo,IntKind.i64.wrap (d+1)))) (.need (zD b' a
 (IntKind.i64.wrap (n+1)) mo d) (.ret (.inl (b',a,fW (Int.toNat (mo-IntKind.i64.wrap (n+1))) b' a d (IntKind.i64.wrap (n+1)),d,mo,
 IntKind.i64.wrap (d+1))))))) (.ret (.inr (n,di)))) (.ret (.inr (n,di))))
theorem Xb (b:List Int) (at_:Int) (b':List Int) (a:Int) (n:Int) (di:Int) (mo:Int) (d:Int):dR Tryz.prog [] [(2,bM abX ((ag).wr (())) ajP (ajR)),(4,bM abZ ((ag).wr (())) ajS (ajV))] Tryz.f98 0 ((ag).wr (())) ajW (RR.wr (b',a,n,di,mo,d))=(Mf b' a n di mo d).res RR.wr ab3:=by kernel_rfl
abbrev zE (b':List Int) (a:Int) (n:Int) (di:Int) (mo:Int) (d:Int):Prop:=0≤n∧0≤mo∧a+mo≤b'.length∧1≤d∧0≤a∧b'.length<1099511627776∧d≤a+1
noncomputable abbrev ab4 (x_:Xa):aU:= .need ((fun (b':List Int) (a:Int) (n:Int) (di:Int) (mo:Int) (d:Int)=>zE b' a n di mo d) x_.1 x_.2.1 x_.2.2.1 x_.2.2.2.1 x_.2.2.2.2.1 x_.2.2.2.2.2) (.leaf (ab3 ((fun (b':List Int) (a:Int) (n:Int) (di:Int) (mo:Int) (d:Int)=>fN ((if 4096<a then 4096 else a)+1-d).toNat b' a mo.toNat d n di) x_.1 x_.2.1 x_.2.2.1 x_.2.2.2.1 x_.2.2.2.2.1 x_.2.2.2.2.2)).1 (ab3 ((fun (b':List Int) (a:Int) (n:Int) (di:Int) (mo:Int) (d:Int)=>fN ((if 4096<a then 4096 else a)+1-d).toNat b' a mo.toNat d n di) x_.1 x_.2.1 x_.2.2.1 x_.2.2.2.1 x_.2.2.2.2.1 x_.2.2.2.2.2)).2)
theorem agH (b':List Int) (a:Int) (n:Int) (di:Int) (mo:Int) (d:Int) (h_:zE b' a n di mo d):dq (fun x_:Xa=>Mf x_.1 x_.2.1 x_.2.2.1 x_.2.2.2.1 x_.2.2.2.2.1 x_.2.2.2.2.2) (b',a,n,di,mo,d) (fN ((if 4096<a then 4096 else a)+1-d).toNat b' a mo.toNat d n di):=by
 obtain ⟨h1,h2,h3,h4,h5,h6,h7⟩:=h_
 obtain ⟨k,hk⟩: ∃ k:Nat,((if 4096<a then 4096 else a)+1-d).toNat=k:=⟨_,rfl⟩
 rw[hk]
 induction k generalizing n di d with
 |zero=>
  refine .stop ?_
  have e:(decide (d≤if 4096<a then 4096 else a)==true)=false:=by simp;omega
  simp only[Mf,e,aN,al];rfl
 |succ k ih=>
  have hd:d≤if 4096<a then 4096 else a:=by omega
  have e:(decide (d≤if 4096<a then 4096 else a)==true)=true:=by simpa using hd
  have hda:d≤a:=by split at hd<;>omega
  by_cases hn:n<mo
  ·have e2:decide (n<mo)=true:=by simpa using hn
   have w1:IntKind.i64.wrap (n+1)=n+1:=ar (by omega) (by omega)
   have w2:IntKind.i64.wrap (d+1)=d+1:=ar (by omega) (by omega)
   obtain ⟨r1,r2⟩:=lN (n+1).toNat b' a d 0
   have hs:=Cb (n+1).toNat (mo-(n+1)).toNat b' a d 0
   rw[show (n+1).toNat+(mo-(n+1)).toNat=mo.toNat from by omega,show (0:Int)+((n+1).toNat:Int)=n+1 from by omega] at hs
   have hu:Int.toNat (n+1-0)=(n+1).toNat:=by rw[Int.sub_zero]
   have p2:zC b' a n di mo d (n+1) 0:=⟨by omega,by omega,by omega,h4,hda,h6⟩
   have p4:zD b' a (n+1) mo d:=⟨by omega,by omega,h3,h4,hda,h6⟩
   rw[fN]
   by_cases hc:fW (n+1).toNat b' a d 0<n+1
   ·rw[if_pos hc] at hs
    rw[hs,if_neg (by omega)]
    refine .go ?_ (ih n di (d+1) h1 (by omega) (by omega) (by omega))
    simp only[Mf,e,e2,aK,an,bs,al,w1,w2,hu]
    exact ⟨p2,fun _=>trivial,fun h=>absurd hc h⟩
   ·rw[if_neg hc] at hs
    obtain ⟨r3,r4⟩:=lN (mo-(n+1)).toNat b' a d (n+1)
    rw[hs,if_pos (by omega)]
    refine .go ?_ (ih _ d (d+1) (by omega) (by omega) (by omega) (by omega))
    simp only[Mf,e,e2,aK,an,bs,al,w1,w2,hu]
    exact ⟨p2,fun h=>absurd h hc,fun _=>⟨p4,trivial⟩⟩
  ·have e2:decide (n<mo)=false:=by simpa using hn
   rw[Cc _ _ _ _ _ _ _ (by omega)]
   refine .stop ?_
   simp only[Mf,e,e2,aK,aN,al]
theorem ab5 (b:List Int) (at_:Int): ∀ x:Xa,Ex Tryz.prog ((ag).wr (())) (.loop (aW Tryz.f98 0)) (RR.wr x) (ab4 x):=
 db mixed aF (ws:=ajW) (aQ.inner (by kernel_rfl) (nx (by kernel_rfl) (cz (hp:=(ag).wr (())) (abY b at_)) (nx (by kernel_rfl) (cz (hp:=(ag).wr (())) (ab1 b at_)) pc))) (E:=ab3) (L:=fun x_=>Mf x_.1 x_.2.1 x_.2.2.1 x_.2.2.2.1 x_.2.2.2.2.1 x_.2.2.2.2.2) (pre:=fun x_=>(fun (b':List Int) (a:Int) (n:Int) (di:Int) (mo:Int) (d:Int)=>zE b' a n di mo d) x_.1 x_.2.1 x_.2.2.1 x_.2.2.2.1 x_.2.2.2.2.1 x_.2.2.2.2.2) (sp:=fun x_=>(fun (b':List Int) (a:Int) (n:Int) (di:Int) (mo:Int) (d:Int)=>fN ((if 4096<a then 4096 else a)+1-d).toNat b' a mo.toNat d n di) x_.1 x_.2.1 x_.2.2.1 x_.2.2.2.1 x_.2.2.2.2.1 x_.2.2.2.2.2) (fun x_=>Xb b at_ x_.1 x_.2.1 x_.2.2.1 x_.2.2.2.1 x_.2.2.2.2.1 x_.2.2.2.2.2) (fun z e=>by cases e) je (fun x_ h=>agH x_.1 x_.2.1 x_.2.2.1 x_.2.2.2.1 x_.2.2.2.2.1 x_.2.2.2.2.2 h)
def bX (b:List Int) (a:Int):Int×Int:=
 if a≤0∨b.length≤a then (0,0)
 else
  let s:=fN (if 4096<a then 4096 else a).toNat b a (if (b.length:Int)-a<257 then (b.length:Int)-a else 257).toNat 1 0 0
  if s.1<3 then (0,0) else s
noncomputable def pN (b:List Int) (at_:Int):Int:=(↑b.length:Int)
noncomputable def kt (b:List Int) (at_:Int):Int:=if IntKind.i64.wrap (pN b at_-at_)<257 then IntKind.i64.wrap (pN b at_-
 at_) else 257
noncomputable def ku (b:List Int) (at_:Int):Int×Int:=fN (Int.toNat ((if 4096<at_ then 4096 else at_)+(1:Int)-1)) b at_
 (kt b at_).toNat 1 0 0
abbrev Mg:Type:=Int×Int
noncomputable abbrev Mh (x:Mg):LV:=LV.cD [VV.sc (SV.int IntKind.i64 (SI.sym x.1)),VV.sc (SV.int IntKind.i64 (SI.sym x.2))]
noncomputable abbrev Mi (x:Mg):List (Nat×Ev.Item):= []
noncomputable def vG (b:List Int) (at_:Int):Tr (Mg):=(.ite (decide (at_<0)==false) (.ite (decide (pN b at_≤at_)) (.ret (0,
 0)) (.need (zE b at_ 0 0 (kt b at_) 1) (.ite (decide ((ku b at_).fst<3)) (.ret (0,0)) (.ret ((ku b at_).fst,(ku b
 at_).snd))))) (.ret (0,0)))
theorem Mj (b:List Int) (at_:Int):aS Tryz.prog [] [(0,bM RR ((ag).wr (())) ab2 (ab4))] Tryz.f98 ((bsA).wr (b,at_,())) ((ag).wr (())) [.fr [.sym],.syms,.auto,.aD]=(vG b at_).end Mh Mi ((ag).wr (())):=by kernel_rfl
theorem RS (b:List Int) (at_:Int):aQ Tryz.prog ((ag).wr (())) [(0,bM RR ((ag).wr (())) ab2 (ab4))] (aJ Tryz.f98):=(aQ.cO (nx (by kernel_rfl) (cz (hp:=(ag).wr (())) (ab5 b at_)) pc))
abbrev oq (b:List Int) (at_:Int):Prop:=b.length<1099511627776∧at_<1099511627776
noncomputable def Mk:ao:=ao.bS [] (bsA) (ag) fun x_ y_=> .leaf (some ((fun (b:List Int) (at_:Int)=>oq b at_) x_.1 x_.2.1)) (Mh ((fun (b:List Int) (at_:Int)=>bX b at_) x_.1 x_.2.1)) (Mi ((fun (b:List Int) (at_:Int)=>bX b at_) x_.1 x_.2.1))
theorem Xc (b:List Int) (at_:Int) (h_:oq b at_):(vG b at_).Is (bX b at_):=by
 obtain ⟨h1,h2⟩:=h_
 by_cases c1:at_<0
 ·have e:bX b at_=(0,0):=by unfold bX;rw[if_pos (by omega)]
  have e1:(decide (at_<0)==false)=false:=by simpa using c1
  rw[e];simp only[vG,e1,aN,al]
 ·have e1:(decide (at_<0)==false)=true:=by simpa using c1
  have TS:pN b at_=(b.length:Int):=rfl
  by_cases c2:(b.length:Int)≤at_
  ·have e:bX b at_=(0,0):=by unfold bX;rw[if_pos (by omega)]
   have e2:decide (pN b at_≤at_)=true:=by rw[TS];simpa using c2
   rw[e];simp only[vG,e1,e2,aK,al]
  ·have e2:decide (pN b at_≤at_)=false:=by rw[TS];simpa using c2
   have w1:IntKind.i64.wrap ((b.length:Int)-at_)=(b.length:Int)-at_:=ar (by omega) (by omega)
   have Br:kt b at_=if (b.length:Int)-at_<257 then (b.length:Int)-at_ else 257:=by unfold kt;rw[TS,w1]
   have hm:0≤kt b at_∧at_+kt b at_≤b.length:=by rw[Br];split<;>omega
   have hp:zE b at_ 0 0 (kt b at_) 1:=⟨by omega,hm.1,hm.2,by omega,by omega,h1,by omega⟩
   have ea3:ku b at_=fN (if 4096<at_ then 4096 else at_).toNat b at_ (kt b at_).toNat 1 0 0:=by
    unfold ku;rw[Int.add_sub_cancel]
   have e:bX b at_=if (ku b at_).1<3 then (0,0) else ku b at_:=by
    unfold bX
    by_cases c3:at_=0
    ·rw[if_pos (by omega)]
     have:ku b at_=(0,0):=by rw[ea3,c3];rfl
     rw[this];rfl
    ·rw[if_neg (by omega),ea3,Br]
   rw[e]
   simp only[vG,e1,e2,aK,aN,an,bs,al]
   refine ⟨hp,fun h=>?_,fun h=>?_⟩
   ·rw[if_pos h]
   ·rw[if_neg h]
theorem Ii:Mk.Ok Tryz.prog 98:=
 cg (tys:= []) (A:=bsA) (H:=ag) (LT:=fun x_ y_=>(fun (b:List Int) (at_:Int)=> [(0,bM RR ((ag).wr (())) ab2 (ab4))]) x_.1 x_.2.1) (ks:= [.fr [.sym],.syms,.auto,.aD]) (V:=Mh) (D:=Mi) (T:=fun x_ y_=>vG x_.1 x_.2.1) (pre:=fun x_ y_=>(fun (b:List Int) (at_:Int)=>oq b at_) x_.1 x_.2.1) (sp:=fun x_ y_=>(fun (b:List Int) (at_:Int)=>bX b at_) x_.1 x_.2.1) mixed aF Tryz.func98 (by kernel_rfl) Tryz.call98 (fun x_ y_=>RS x_.1 x_.2.1) (fun x_ y_=>Mj x_.1 x_.2.1) (fun x_ y_ h=>Xc x_.1 x_.2.1 h)
end Go.Proofs.YtjalaohajcpllaaGreat
end
section
set_option linter.unusedVariables false
set_option linter.unusedSimpArgs false
namespace Go.Proofs.YtjalaohajcpllaaGreat
open Go Go.Ev
set_option maxRecDepth 1000000
end Go.Proofs.YtjalaohajcpllaaGreat
end
section
set_option linter.unusedVariables false
set_option linter.unusedSimpArgs false
namespace Go.Proofs.YtjalaohajcpllaaGreat
open Go Go.Ev
set_option maxRecDepth 1000000
theorem qS: ∀ (k:Nat) (b:List Int) (a:Int) (mo:Nat) (d n di:Int),0≤n→n≤mo→(n=0∨(1≤di∧di<d))→1≤d→
  0≤(fN k b a mo d n di).1∧(fN k b a mo d n di).1≤mo∧((fN k b a mo d n di).1=0∨(1≤(fN k b a mo d n di).2∧(fN k b a mo d n di).2<d+k))
 |0,_,_,_,_,_,_,h1,h2,h3,h4=>⟨h1,h2,by simpa [fN] using h3⟩
 |k+1,b,a,mo,d,n,di,h1,h2,h3,h4=>by
  obtain ⟨r1,r2⟩:=lN mo b a d 0
  rw[fN]
  split
  ·obtain ⟨s1,s2,s3⟩:=qS k b a mo (d+1) (fW mo b a d 0) d (by omega) (by omega) (by omega) (by omega)
   exact ⟨s1,s2,by omega⟩
  ·obtain ⟨s1,s2,s3⟩:=qS k b a mo (d+1) n di h1 h2 (by omega) (by omega)
   exact ⟨s1,s2,by omega⟩
theorem mJ (b:List Int) (a:Int):bX b a=(0,0)∨(3≤(bX b a).1∧(bX b a).1≤257∧a+(bX b a).1≤b.length∧1≤(bX b a).2∧(bX b a).2≤a∧(bX b a).2≤4096):=by
 unfold bX
 split
 ·exact .inl rfl
 ·rename_i c
  obtain ⟨s1,s2,s3⟩:=qS (if 4096<a then 4096 else a).toNat b a (if (b.length:Int)-a<257 then (b.length:Int)-a else 257).toNat 1 0 0 (by omega) (by omega) (.inl rfl) (by omega)
  have Hc:(((if (b.length:Int)-a<257 then (b.length:Int)-a else 257).toNat:Nat):Int)≤257∧a+(((if (b.length:Int)-a<257 then (b.length:Int)-a else 257).toNat:Nat):Int)≤b.length:=by split<;>omega
  have hk:((if 4096<a then 4096 else a).toNat:Int)≤a∧((if 4096<a then 4096 else a).toNat:Int)≤4096:=by split<;>omega
  simp only
  generalize fN (if 4096<a then 4096 else a).toNat b a (if (b.length:Int)-a<257 then (b.length:Int)-a else 257).toNat 1 0 0=s at*
  generalize (if (b.length:Int)-a<257 then (b.length:Int)-a else 257).toNat=mo at*
  generalize (if 4096<a then 4096 else a).toNat=kk at*
  by_cases c2:s.1<3
  ·rw[if_pos c2];exact .inl rfl
  ·rw[if_neg c2]
   exact .inr ⟨by omega,by omega,by omega,by omega,by omega,by omega⟩
def c7:Nat→List Int→Int→List cj→List cj
 |0,_,_,out=>out
 |k+1,b,a,out=>
  if a<b.length then
   if 0<(bX b a).1 then c7 k b (a+(bX b a).1) (out++ [((bX b a).1,(bX b a).2,0)])
   else c7 k b (a+1) (out++ [(0,0,b.getD a.toNat 0)])
  else out
abbrev zF:Type:=(List Int)×Int×(List (Int×Int×Int))
noncomputable abbrev vH:ba St zF:=(bG (ae (ai (eS false false (Ty.int IntKind.u8))) (jk 2 (aj (ai (wX (0) (0))) (ae (ai
 (ax IntKind.i64)) (jk 35 ag))))) (ae (eE (0) ((Ty.int IntKind.i64).pair ((Ty.int IntKind.i64).pair (Ty.int IntKind.u8)))) ag)).qk (fun y=>
 (y.1.1,y.1.2.1,y.2.1)) (fun x=>((x.1,(x.2.1,())),(x.2.2,()))) (fun _=>rfl)
abbrev EI:List Wk:= [.cC 3 fV,.fr (dA 40 [(0,.aq),(3,.aq),(4,.aq)]),.syms,.auto,.aD]
abbrev Xd:Exit→List Wk:=Dy EI 0 [.cC 3 fV,.fr (dA 40 [(3,.aq)]),.syms,.auto,.aD] [.cC 3 fV,.fr (dA 40 [(2,.aq)]),
 .syms,.auto,.aD]
abbrev Xe:Type:=List (Int×Int×Int)
noncomputable abbrev EJ (x:Xe):Exit×St:=(Exit.exit 0,⟨(ir 3 (LV.one (VV.sc (SV.sl 0 0))::(ir 36 []))),[some (Item.own 0 ((Ty.int
 IntKind.i64).pair ((Ty.int IntKind.i64).pair (Ty.int IntKind.u8))) x)]⟩)
noncomputable def vI (b':List Int) (a:Int) (out:List (Int×Int×Int)):Tr (zF⊕(Xe)):=(.ite (decide (a<(↑b'.length:Int)))
 (.need (0≤a∧a<(↑b'.length:Int)) (.need (oq b' a) (.ite (decide (0<(bX b' a).fst)) (.need ((out.length+1)*24≤70368744177664∧
 out.length+1≤70368744177664) (.need (gO ((bX b' a).fst,(bX b' a).snd,0)) (.ret (.inl (b',IntKind.i64.wrap (a+bt ((bX b'
 a).fst,(bX b' a).snd,0)),out++ [((bX b' a).fst,(bX b' a).snd,0)]))))) (.need ((out.length+1)*24≤70368744177664∧out.length+1≤
 70368744177664) (.need (gO (0,0,b'.getD a.toNat 0)) (.ret (.inl (b',IntKind.i64.wrap (a+1),out++ [(0,0,b'.getD a.toNat 0)])))))))) (.ret
 (.inr (out))))
theorem Ml (b:List Int) (b':List Int) (a:Int) (out:List (Int×Int×Int)):dR Tryz.prog [(98,Mk),(82,vm)] [] Tryz.f63 0 ((ag).wr (())) Xd (vH.wr (b',a,out))=(vI b' a out).res vH.wr EJ:=by kernel_rfl
abbrev tx (b':List Int) (a:Int) (out:List (Int×Int×Int)):Prop:=0≤a∧a≤b'.length∧b'.length≤8192∧out.length≤a
noncomputable abbrev EK (x_:zF):aU:= .need ((fun (b':List Int) (a:Int) (out:List (Int×Int×Int))=>tx b' a out) x_.1 x_.2.1 x_.2.2) (.leaf (EJ ((fun (b':List Int) (a:Int) (out:List (Int×Int×Int))=>c7 9000 b' a out) x_.1 x_.2.1 x_.2.2)).1 (EJ ((fun (b':List Int) (a:Int) (out:List (Int×Int×Int))=>c7 9000 b' a out) x_.1 x_.2.1 x_.2.2)).2)
theorem Xf (b':List Int) (a:Int) (out:List (Int×Int×Int)) (h_:tx b' a out):dq (fun x_:zF=>vI x_.1 x_.2.1 x_.2.2) (b',a,out) (c7 9000 b' a out):=by
 obtain ⟨h1,h2,h3,h4⟩:=h_
 obtain ⟨f,hf1,hf2⟩: ∃ f:Nat,f=9000∧((b'.length:Int)-a).toNat<f:=⟨9000,rfl,by omega⟩
 rw[← hf1]
 clear hf1
 induction f generalizing a out with
 |zero=>omega
 |succ f ih=>
  rw[c7]
  by_cases hc:a<b'.length
  ·rw[if_pos hc]
   have hr:=mJ b' a
   have hp:oq b' a:=⟨by omega,by omega⟩
   by_cases hb:0<(bX b' a).1
   ·have hr2:=hr.resolve_left (fun h=>by rw[h] at hb;simp at hb)
    have hl:bt ((bX b' a).1,(bX b' a).2,0)=(bX b' a).1:=by unfold bt;rw[if_neg (by simp only;omega)]
    have w1:IntKind.i64.wrap (a+(bX b' a).1)=a+(bX b' a).1:=ar (by omega) (by omega)
    rw[if_pos hb]
    refine .go ?_ (ih _ _ (by omega) (by omega) (by simp;omega) (by omega))
    simp only[vI,bs,an,al,hl,w1]
    exact ⟨fun _=>⟨⟨h1,hc⟩,hp,fun _=>⟨⟨by omega,by omega⟩,trivial,trivial⟩,fun h=>absurd hb h⟩,fun h=>absurd hc h⟩
   ·have w1:IntKind.i64.wrap (a+1)=a+1:=ar (by omega) (by omega)
    rw[if_neg hb]
    refine .go ?_ (ih _ _ (by omega) (by omega) (by simp;omega) (by omega))
    simp only[vI,bs,an,al,w1]
    exact ⟨fun _=>⟨⟨h1,hc⟩,hp,fun h=>absurd h hb,fun _=>⟨⟨by omega,by omega⟩,trivial,trivial⟩⟩,fun h=>absurd hc h⟩
  ·rw[if_neg hc]
   refine .stop ?_
   simp only[vI,bs,an,al]
   exact ⟨fun h=>absurd h hc,fun _=>trivial⟩
theorem RT (b:List Int): ∀ x:zF,Ex Tryz.prog ((ag).wr (())) (.loop (aW Tryz.f63 0)) (vH.wr x) (EK x):=
 db mixed ((ak Ii (ak n5 aF))) (ws:=Xd) (aQ.nil _) (E:=EJ) (L:=fun x_=>vI x_.1 x_.2.1 x_.2.2) (pre:=fun x_=>(fun (b':List Int) (a:Int) (out:List (Int×Int×Int))=>tx b' a out) x_.1 x_.2.1 x_.2.2) (sp:=fun x_=>(fun (b':List Int) (a:Int) (out:List (Int×Int×Int))=>c7 9000 b' a out) x_.1 x_.2.1 x_.2.2) (fun x_=>Ml b x_.1 x_.2.1 x_.2.2) (fun z e=>by cases e) je (fun x_ h=>Xf x_.1 x_.2.1 x_.2.2 h)
abbrev EL:Type:=Unit
noncomputable abbrev EM (x:EL):LV:=LV.one (VV.sc (SV.gH (Value.slice none 0 0)))
noncomputable abbrev EN (x:EL):List (Nat×Ev.Item):= []
abbrev EO:Type:=List (Int×Int×Int)
noncomputable abbrev EP (x:EO):LV:=LV.one (VV.sc (SV.sl 0 0))
noncomputable abbrev ER (x:EO):List (Nat×Ev.Item):= [(0,Item.own 0 ((Ty.int IntKind.i64).pair ((Ty.int IntKind.i64).pair (Ty.int
 IntKind.u8))) x)]
noncomputable def zG (b:List Int):Tr (EL⊕EO):=(.ite (decide (8192<(↑b.length:Int))) (.ret (.inl ())) (.need (tx b 0 [])
 (.ret (.inr (c7 9000 b 0 [])))))
theorem Mm (b:List Int):aS Tryz.prog [(98,Mk),(82,vm)] [(0,bM vH ((ag).wr (())) EI (EK))] Tryz.f63 (((ae (ai (eS false false u8)) ag)).wr (b,())) ((ag).wr (())) [.cC 2 fV,.cC 3 fV,.fr [.sym],.syms,.auto,.aD]=(zG b).end (Sum.elim EM EP) (Sum.elim EN ER) ((ag).wr (())):=by kernel_rfl
theorem RU (b:List Int):aQ Tryz.prog ((ag).wr (())) [(0,bM vH ((ag).wr (())) EI (EK))] (aJ Tryz.f63):=(aQ.cO (nx (by kernel_rfl) (cz (hp:=(ag).wr (())) (RT b)) pc))
abbrev lO (b:List Int):Prop:=True
noncomputable def Xg:ao:=ao.bS [] ((ae (ai (eS false false u8)) ag)) (ag) fun x_ y_=> .ite ((fun (b:List Int)=>decide (8192<(b.length:Int))) x_.1) (.leaf (some ((fun (b:List Int)=>lO b) x_.1)) (EM ((fun (b:List Int)=>()) x_.1)) (EN ((fun (b:List Int)=>()) x_.1))) (.leaf (some ((fun (b:List Int)=>lO b) x_.1)) (EP ((fun (b:List Int)=>c7 9000 b 0 []) x_.1)) (ER ((fun (b:List Int)=>c7 9000 b 0 []) x_.1)))
theorem Xh (b:List Int) (h_:lO b):(decide (8192<(b.length:Int))=true→(zG b).Is (.inl (())))∧(decide (8192<(b.length:Int))=false→(zG b).Is (.inr (c7 9000 b 0 []))):=by
 simp only[zG,an,bs,al,decide_eq_true_eq,decide_eq_false_iff_not]
 refine ⟨fun h=>⟨fun _=>trivial,fun h2=>absurd h h2⟩,fun h=>⟨fun h2=>absurd h2 h,fun _=>⟨⟨by omega,by omega,by omega,by simp⟩,trivial⟩⟩⟩
theorem Xi:Xg.Ok Tryz.prog 63:=
 yS (tys:= []) (A:=(ae (ai (eS false false u8)) ag)) (H:=ag) (LT:=fun x_ y_=>(fun (b:List Int)=> [(0,bM vH ((ag).wr (())) EI (EK))]) x_.1) (ks:= [.cC 2 fV,.cC 3 fV,.fr [.sym],.syms,.auto,.aD]) (V:=EM) (D:=EN) (V':=EP) (D':=ER) (T:=fun x_ y_=>zG x_.1) (pre:=fun x_ y_=>(fun (b:List Int)=>lO b) x_.1) (c:=fun x_ y_=>(fun (b:List Int)=>decide (8192<(b.length:Int))) x_.1) (sp:=fun x_ y_=>(fun (b:List Int)=>()) x_.1) (sp':=fun x_ y_=>(fun (b:List Int)=>c7 9000 b 0 []) x_.1) mixed ((ak Ii (ak n5 aF))) Tryz.func63 (by kernel_rfl) Tryz.call63 (fun x_ y_=>RU x_.1) (fun x_ y_=>Mm x_.1) (fun x_ y_ h=>Xh x_.1 h)
end Go.Proofs.YtjalaohajcpllaaGreat
end
section
set_option linter.unusedVariables false
set_option linter.unusedSimpArgs false
namespace Go.Proofs.YtjalaohajcpllaaGreat
open Go Go.Ev
set_option maxRecDepth 1000000
theorem ot {b:List Int} (hb:aB b) (hl:b.length≤8192): ∀ (k:Nat) (a:Int) (out:List cj),0≤a→a≤b.length→((b.length:Int)-a).toNat<k→bC 0 out=true→cv out=a→sN out→(out.length:Int)≤a→
  bC 0 (c7 k b a out)=true∧cv (c7 k b a out)=b.length∧sN (c7 k b a out)∧(c7 k b a out).length≤b.length
 |0,a,out,h1,h2,h3,_,_,_,_=>by omega
 |k+1,a,out,h1,h2,h3,h4,h5,h6,h7=>by
  rw[c7]
  split
  ·rename_i hc
   split
   ·rename_i hn
    have hr:=(mJ b a).resolve_left (fun h=>by rw[h] at hn;simp at hn)
    have aeW:bt ((bX b a).1,(bX b a).2,0)=(bX b a).1:=by unfold bt;rw[if_neg (by simp only;omega)]
    have agC:iR ((bX b a).1,(bX b a).2,0) a=true:=by
     unfold iR;rw[if_neg (by simp only;omega)];simp;omega
    refine ot hb hl k _ _ (by omega) (by omega) (by omega) ?_ ?_ ?_ (by simp;omega)
    ·rw[gT,h4,h5,Int.zero_add,bC,bC,agC,aeW];simp;omega
    ·rw[gS,h5];simp[cv,aeW]
    ·intro t ht
     rw[List.mem_append] at ht
     rcases ht with ht|ht
     ·exact h6 t ht
     ·have:t=((bX b a).1,(bX b a).2,0):=by simpa using ht
      rw[this];simp
   ·refine ot hb hl k _ _ (by omega) (by omega) (by omega) ?_ ?_ ?_ (by simp;omega)
    ·rw[gT,h4,h5,Int.zero_add,bC,bC];simp[iR,bt];omega
    ·rw[gS,h5];simp[cv,bt]
    ·intro t ht
     rw[List.mem_append] at ht
     rcases ht with ht|ht
     ·exact h6 t ht
     ·have:t=(0,0,b.getD a.toNat 0):=by simpa using ht
      rw[this];exact hb.getD _
  ·rename_i hc
   exact ⟨h4,by omega,h6,by omega⟩
def cJ (b:List Int):Int×List Int:=
 if 8192<(b.length:Int) then (10,[]) else if 4096<((cR (c7 9000 b 0 [])).length:Int) then (10,[]) else (0,cR (c7 9000 b 0 []))
abbrev ES:Type:=Int
noncomputable abbrev ET (x:ES):LV:=LV.cD [VV.sc (SV.gH (Value.slice none 0 0)),VV.sc (SV.int IntKind.i64 (SI.sym x))]
noncomputable abbrev EU (x:ES):List (Nat×Ev.Item):= []
abbrev EV:Type:=(List Int)×Int
noncomputable abbrev EW (x:EV):LV:=LV.cD [VV.sc (SV.rd true false (Ty.int IntKind.u8) x.1),VV.sc (SV.int IntKind.i64 (SI.sym x.2))]
noncomputable abbrev EX (x:EV):List (Nat×Ev.Item):= []
noncomputable def qT (b:List Int):Tr (ES⊕EV):=(.ite (decide (8192<(↑b.length:Int))) (.ret (.inl (10))) (.ite (decide (8192<
 (↑b.length:Int))) (.need (lO b) (.need (gl []) (.ite (decide ((4096:Int)<4)) (.ret (.inl (10))) (.ret (.inr (cR [],0)))))) (.need
 (lO b) (.need (gl (c7 9000 b 0 [])) (.ite (decide (4096<(↑(cR (c7 9000 b 0 [])).length:Int))) (.ret (.inl (10))) (.ret (.inr
 (cR (c7 9000 b 0 []),0))))))))
theorem Mn (b:List Int):aS Tryz.prog [(63,Xg),(47,D7)] [] Tryz.f33 (((ae (ai (eS false false u8)) ag)).wr (b,())) ((ag).wr (())) [.fr [.sym],.syms,.auto,.aD]=(qT b).end (Sum.elim ET EW) (Sum.elim EU EX) ((ag).wr (())):=by kernel_rfl
theorem RV (b:List Int):aQ Tryz.prog ((ag).wr (())) [] (aJ Tryz.f33):=(aQ.nil _)
abbrev dU (b:List Int):Prop:=aB b∧b.length<1099511627776
noncomputable def EY:ao:=ao.bS [some u8] ((ae (ai (eS false false u8)) ag)) (ag) fun x_ y_=> .ite ((fun (b:List Int)=>decide ((cJ b).1≠0)) x_.1) (.leaf (some ((fun (b:List Int)=>dU b) x_.1)) (ET ((fun (b:List Int)=>(cJ b).1) x_.1)) (EU ((fun (b:List Int)=>(cJ b).1) x_.1))) (.leaf (some ((fun (b:List Int)=>dU b) x_.1)) (EW ((fun (b:List Int)=>((cJ b).2,0)) x_.1)) (EX ((fun (b:List Int)=>((cJ b).2,0)) x_.1)))
theorem Xj (b:List Int) (h_:dU b):(decide ((cJ b).1≠0)=true→(qT b).Is (.inl ((cJ b).1)))∧(decide ((cJ b).1≠0)=false→(qT b).Is (.inr (((cJ b).2,0)))):=by
 obtain ⟨h1,h2⟩:=h_
 by_cases c:8192<(b.length:Int)
 ·have e:cJ b=(10,[]):=by unfold cJ;rw[if_pos c]
  have e1:decide (8192<(b.length:Int))=true:=by simpa using c
  simp only[e,qT,e1,aK,al]
  simp
 ·obtain ⟨k1,k2,k3,k4⟩:=ot h1 (by omega) 9000 0 [] (by omega) (by omega) (by omega) rfl rfl (fun t h=>by simp at h) (by simp)
  have e1:decide (8192<(b.length:Int))=false:=by simpa using c
  have p1:gl (c7 9000 b 0 []):=⟨by omega,k3⟩
  by_cases c2:4096<((cR (c7 9000 b 0 [])).length:Int)
  ·have e:cJ b=(10,[]):=by unfold cJ;rw[if_neg c,if_pos c2]
   have e2:decide (4096<((cR (c7 9000 b 0 [])).length:Int))=true:=by simpa using c2
   simp only[e,qT,e1,e2,aK,aN,an,al]
   simp
   exact p1
  ·have e:cJ b=(0,cR (c7 9000 b 0 [])):=by unfold cJ;rw[if_neg c,if_neg c2]
   have e2:decide (4096<((cR (c7 9000 b 0 [])).length:Int))=false:=by simpa using c2
   simp only[e,qT,e1,e2,aK,aN,an,al]
   simp
   exact p1
theorem zH:EY.Ok Tryz.prog 33:=
 yS (tys:= [some u8]) (A:=(ae (ai (eS false false u8)) ag)) (H:=ag) (LT:=fun x_ y_=>(fun (b:List Int)=> []) x_.1) (ks:= [.fr [.sym],.syms,.auto,.aD]) (V:=ET) (D:=EU) (V':=EW) (D':=EX) (T:=fun x_ y_=>qT x_.1) (pre:=fun x_ y_=>(fun (b:List Int)=>dU b) x_.1) (c:=fun x_ y_=>(fun (b:List Int)=>decide ((cJ b).1≠0)) x_.1) (sp:=fun x_ y_=>(fun (b:List Int)=>(cJ b).1) x_.1) (sp':=fun x_ y_=>(fun (b:List Int)=>((cJ b).2,0)) x_.1) mixed ((ak Xi (ak y9 aF))) Tryz.func33 (by kernel_rfl) Tryz.call33 (fun x_ y_=>RV x_.1) (fun x_ y_=>Mn x_.1) (fun x_ y_ h=>Xj x_.1 h)
end Go.Proofs.YtjalaohajcpllaaGreat
end
