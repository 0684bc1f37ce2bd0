/- What the laws lean on, part 5: a reader of code, plain facts, and what each function gives; no conditions. -/
import Derived.Test.YtmhcoaflmgajhaaGreatA4
set_option linter.unusedVariables false
set_option linter.unusedSimpArgs false
noncomputable section
namespace Go.Ev
open Go
open Go.IntKind (i64 signed u32 u64 wrap wrap_u32)
def eO:List Nat→Nat→Option Nat
 | [],_=>none
 |x::l,i=>if x=i then some 0 else(eO l i).map (· +1)
theorem dG:∀ {l:List Nat} {i j:Nat},eO l i=some j→l[j]? =some i
 | [],_,_,h=>by cases h
 |x::l,i,j,h=>by
  simp only[eO]at h
  split at h
  ·rename_i e;subst e;simp at h;subst h;rfl
  ·obtain⟨k,hk,rfl⟩:=map_some h;simpa using dG hk
theorem qn:∀ {l:List Nat} {i:Nat},i∈l→∃j,eO l i=some j
 |x::l,i,h=>by
  simp only[eO]
  split
  ·exact⟨0,rfl⟩
  ·rename_i eC;obtain⟨j,hj⟩:=qn (l:=l) (i:=i) (by simpa [Ne.symm eC]using h);exact⟨j+1,by rw[hj];rfl⟩
theorem fE:∀ {l:List Nat} {j i:Nat},l.Nodup→l[j]? =some i→eO l i=some j
 | [],_,_,_,h=>by simp at h
 |x::l,0,i,_,h=>by simp at h;subst h;simp[eO]
 |x::l,j+1,i,hn,h=>by
  simp at h;have hi:i∈l:=List.mem_of_getElem? h;have eC:x≠i:=fun e=>by subst e;exact(List.nodup_cons.1 hn).1 hi
  simp only[eO,if_neg eC,fE (List.nodup_cons.1 hn).2 h];rfl
theorem sy{l:List Nat}{i:Nat}(h:eO l i=none):i∉l:=fun hm=>by
 obtain⟨j,hj⟩:=qn hm;rw[hj]at h;cases h
structure lk where
 f:Nat→Option Nat
 o:Nat→Nat→Option Nat
def SV.bm(f:lk):SV→SV
 | .ptr b o=>match f.f b with|some j=>.ptr j o|none=>.br
 | .nx b base st n z=>match f.f b with|some j=>.nx j base st n z|none=>.br
 | .slice b o l c=>match f.f b with|some j=>.slice j o l c|none=>.br
 | .sl i v=>match f.f i with|some j=>(match f.o i v with|some u=>.sl j u|none=>.br)|none=>.br
 | .vw i v w z n=>match f.f i with|some j=>(match f.o i v with|some u=>.vw j u w z n|none=>.br)|none=>.br
 | .vb b o t m z n=>match f.f b with|some j=>.vb j o t m z n|none=>.br
 | .ep s w z g=>.ep (s.bm f) w z g
 | .Gv g b o=>match f.f b with|some j=>.Gv g j o|none=>.br
 |s=>s
def VV.bm(f:lk):VV→VV
 | .sc s=>.sc (s.bm f)
 | .agg l=>.agg (l.map (SV.bm f))
def LV.bm(f:lk):LV→LV
 | .one x=>.one (x.bm f)
 | .bV l=>.bV (l.map (VV.bm f))
 | .br=>.br
def Item.bm(f:lk)(u:Nat→Nat):Item→Item
 | .aZ cells e=>.aZ (cells.map (SV.bm f)) e
 | .own v t l=>.own (u v) t l
 | .gone v=>.gone (u v)
def SV.refs:SV→List Nat
 | .ptr b _| .nx b _ _ _ _| .slice b _ _ _| .sl b _| .vw b _ _ _ _| .vb b _ _ _ _ _| .Gv _ b _=> [b]
 | .ep s _ _ _=>s.refs
 |_=> []
def VV.refs:VV→List Nat
 | .sc s=>s.refs
 | .agg l=>l.flatMap SV.refs
def LV.refs:LV→List Nat
 | .one x=>x.refs
 | .bV l=>l.flatMap VV.refs
 | .br=> []
def Item.refs:Item→List Nat
 | .aZ cells _=>cells.flatMap SV.refs
 |_=> []
def SV.nr:SV→Bool
 | .rd pm _ _ _=>pm
 | .ep s _ _ _=>s.nr
 |_=>true
def VV.nr:VV→Bool
 | .sc s=>s.nr
 | .agg l=>l.all SV.nr
def LV.nr:LV→Bool
 | .one x=>x.nr
 | .bV l=>l.all VV.nr
 | .br=>true
def Item.nr:Item→Bool
 | .aZ cells _=>cells.all SV.nr
 |_=>true
def Kd.up(u:Nat→Nat):Kd→Kd
 | .aZ=>.aZ
 | .own c=>.own (u c)
theorem Item.fF(f:lk)(u:Nat→Nat)(x:Item):(x.bm f u).kd=x.kd.up u:=by cases x<;>rfl
structure nM (f:lk) (β β':Env) (L L':Nat→Option Kd) (nr:Bool):Prop where
 aZ:∀b j,f.f b=some j→L b=some .aZ→L' j=some .aZ∧β'.b j=β.b b
 own:∀i j c,f.f i=some j→L i=some (.own c)→∃c',L' j=some (.own c')∧β'.h j=β.h i∧∀v v',v≤c→f.o i v=some v'→v'≤c'∧(v'=c'→v=c)
 Tn:∀v t l,β.rd true v t l→β'.rd true v t l
 rdf:nr=false→∀v t l,β.rd false v t l→β'.rd false v t l
noncomputable section
variable {f:lk} {β β':Env} {L L':Nat→Option Kd} {nr:Bool}
theorem oQ.tI(h:nM f β β' L L' nr){pm:Bool}{v:Value}{t:Ty}{l:List t.D}(hn:nr=true→pm=true)(hr:oQ β pm v t l):oQ β' pm v t l:=by
 rcases hr with hr|⟨rfl,hr⟩|hr
 ·exact .inl (h.Tn _ _ _ hr)
 ·cases nr with
  |true=>exact absurd (hn rfl) (by simp)
  |false=>exact .inr (.inl ⟨rfl,h.rdf rfl _ _ _ hr⟩)
 ·exact .inr (.inr hr)
theorem Ty.fc(h:∀v t l,β.rd true v t l→β'.rd true v t l):∀ (t:Ty) {x:t.D} {vs:List Value},t.has β true x vs→t.has β' true x vs
 | .int _,_,_,h=>h
 | .bool,_,_,h=>h
 | .jd,_,_,h=>h
 | .str,_,_,h=>h
 | .sl _,_,_,⟨v,h1,h2,h3⟩=>⟨v,h1,h2,by
  rcases h3 with h3|⟨h3,_⟩|h3
  ·exact .inl (h _ _ _ h3)
  ·cases h3
  ·exact .inr (.inr h3)⟩
 | .pair a b,_,_,⟨u,w,h0,h1,h2⟩=>⟨u,w,h0,a.fc h h1,b.fc h h2⟩
 | .arr t _,_,_,⟨h1,h2⟩=>⟨h1,h2.imp fun _ _=>t.fc h⟩
theorem SV.dp(h:nM f β β' L L' nr):∀ {s:SV} {v:Value},(nr=true→s.nr=true)→s.den β L v→(s.bm f).den β' L' v
 | .int _ _,_,_,hd=>hd
 | .bool _,_,_,hd=>hd
 | .jd _,_,_,hd=>hd
 | .str _,_,_,hd=>hd
 | .cQ _,_,_,hd=>hd
 | .br,_,_,hd=>hd
 | .arr _ _ _,_,_,hd=>hd.elim
 | .rd _ _ _ _,_,hn,⟨h1,h2,h3⟩=>⟨h1,h2,h3.tI h hn⟩
 | .ptr b o,v,_,hd=>by
  simp only[SV.bm]
  split
  ·rename_i j hj;obtain⟨k1,k2⟩:=h.aZ b j hj hd.1;exact⟨k1,by rw[k2];exact hd.2⟩
  ·exact SV.aT hd
 | .nx b base st n z,v,_,hd=>by
  simp only[SV.bm]
  split
  ·rename_i j hj;obtain⟨k1,k2⟩:=h.aZ b j hj hd.1;exact⟨k1,hd.2.1,by rw[k2];exact hd.2.2⟩
  ·exact SV.aT hd
 | .slice b o l c,v,_,hd=>by
  simp only[SV.bm]
  split
  ·rename_i j hj;obtain⟨k1,k2⟩:=h.aZ b j hj hd.1;exact⟨k1,by rw[k2];exact hd.2⟩
  ·exact SV.aT hd
 | .sl i ver,v,_,hd=>by
  simp only[SV.bm]
  split
  ·rename_i j hj
   split
   ·rename_i u hu;obtain⟨h1,c,h2,h3,h4⟩:=hd;obtain⟨c',k1,k2,k3⟩:=h.own i j c hj h2;obtain⟨k4,k5⟩:=k3 ver u h3 hu;exact⟨h1,c',k1,k4,fun e=>by rw[k2];exact h4 (k5 e)⟩
   ·exact SV.aT hd
  ·exact SV.aT hd
 | .vw i ver w z n,v,_,hd=>by
  simp only[SV.bm]
  split
  ·rename_i j hj
   split
   ·rename_i u hu;obtain⟨h1,c,h2,h3,h4⟩:=hd;obtain⟨c',k1,k2,k3⟩:=h.own i j c hj h2;obtain⟨k4,k5⟩:=k3 ver u h3 hu;exact⟨h1,c',k1,k4,fun e=>by rw[k2];exact h4 (k5 e)⟩
   ·exact SV.aT hd
  ·exact SV.aT hd
 | .vb b o t m z n,v,_,hd=>by
  simp only[SV.bm]
  split
  ·rename_i j hj;obtain⟨h1,h2⟩:=hd;obtain⟨k1,k2⟩:=h.aZ b j hj h1;exact⟨k1,by rw[k2];exact h2⟩
  ·exact SV.aT hd
 | .ep s w z g,v,hn,⟨a,n,c,h1,h2⟩=>⟨a,n,c,SV.dp h hn h1,h2⟩
 | .Gv g b o,v,_,hd=>by
  simp only[SV.bm]
  split
  ·rename_i j hj;obtain⟨h1,h2⟩:=hd;obtain⟨k1,k2⟩:=h.aZ b j hj h1;exact⟨k1,by rw[k2];exact h2⟩
  ·exact SV.aT hd
theorem aP.tI(h:nM f β β' L L' nr){l:List SV}{vs:List Value}(hn:nr=true→l.all SV.nr=true)(hd:aP β L l vs):aP β' L' (l.map (SV.bm f)) vs:=by
 induction l generalizing vs with
 |nil=>cases hd;exact aF.nil
 |cons s l ih=>
  have XR:nr=true→s.nr=true:=fun e=>by have:=hn e;simp only[List.all_cons,Bool.and_eq_true]at this;exact this.1
  have XS:nr=true→l.all SV.nr=true:=fun e=>by have:=hn e;simp only[List.all_cons,Bool.and_eq_true]at this;exact this.2
  cases hd with
  |cons h1 h2=>
   refine aF.cons ?_ (ih XS h2)
   cases s with
   |arr t n x=>exact⟨h1.1,h1.2.imp fun _ _=>t.fc h.Tn⟩
   |_=>
    obtain⟨v,rfl,h3⟩:=h1;exact SV.lQ (SV.dp h XR h3)
theorem VV.dp(h:nM f β β' L L' nr){s:VV}{v:Value}(hn:nr=true→s.nr=true)(hd:s.den β L v):(s.bm f).den β' L' v:=by
 cases s with
 |sc s=>exact SV.dp h hn hd
 |agg l=>obtain⟨cs,rfl,hd⟩:=hd;exact⟨cs,rfl,aP.tI h hn hd⟩
theorem LV.dp(h:nM f β β' L L' nr){s:LV}{v:Value}(hn:nr=true→s.nr=true)(hd:s.den β L v):(s.bm f).den β' L' v:=by
 cases s with
 |one x=>exact VV.dp h hn hd
 |bV l=>
  obtain⟨vs,rfl,hd⟩:=hd;refine⟨vs,rfl,?_⟩;simp only[LV.nr]at hn
  induction hd with
  |nil=>exact .nil
  |cons h1 h2 ih=>
   exact .cons (VV.dp h (fun e=>by have:=hn e;simp only[List.all_cons,Bool.and_eq_true]at this;exact this.1) h1) (ih fun e=>by have:=hn e;simp only[List.all_cons,Bool.and_eq_true]at this;exact this.2)
 |br=>trivial
theorem cV.tI(h:nM f β β' L L' nr){w:World}{i j:Nat}{x:Item}{u:Nat→Nat}(hn:nr=true→x.nr=true)(hb:x.kd= .aZ→β'.b j=β.b i)(hh:∀c,x.kd= .own c→β'.h j=β.h i)(hd:cV β L w i x):cV β' L' w j (x.bm f u):=by
 cases x with
 |aZ cells e=>
  obtain⟨c,fz,h1,h2,h3⟩:=hd;exact⟨c,fz,by rw[hb rfl];exact h1,h2,aP.tI h hn h3⟩
 |own ver t l=>
  show bI β' w (β'.h j) t l;rw[hh ver rfl];obtain⟨a,n,c,e,h1,h2,h3,h4⟩:=(hd:bI β w (β.h i) t l);refine⟨a,n,c,e,h1,h2,h3,fun h0=>?_⟩;obtain⟨a0,pre,cz,rest,elem,fz,k0,k1,k2,k3,k4,k5⟩:=h4 h0;exact⟨a0,pre,cz,rest,elem,fz,k0,k1,k2,k3,k4.imp fun _ _=>t.fc h.Tn,k5⟩
 |gone v=>trivial
end
def SV.cur(vb:Nat→Nat):SV→Bool
 | .sl i v| .vw i v _ _ _=>v==vb i
 | .ep s _ _ _=>s.cur vb
 |_=>true
def Item.cur(vb:Nat→Nat):Item→Bool
 | .aZ cells _=>cells.all (SV.cur vb)
 |_=>true
def lk.fwd(f:Nat→Option Nat)(vb:Nat→Nat):lk:=⟨f,fun i v=>if v=vb i then some 0 else none⟩
def lk.bwd(g:Nat→Nat)(vb:Nat→Nat):lk:=⟨fun j=>some (g j),fun j v=>some (v+vb (g j))⟩
theorem sA{f:Nat→Option Nat}{g vb:Nat→Nat}:∀ {s:SV},s.cur vb=true→(∀r∈s.refs,∃j,f r=some j∧g j=r)→(s.bm (.fwd f vb)).bm (.bwd g vb)=s
 | .ptr b o,_,h=>by obtain⟨j,h1,h2⟩:=h b (by simp[SV.refs]);simp only[SV.bm,lk.fwd,lk.bwd,h1,h2]
 | .nx b base st n z,_,h=>by obtain⟨j,h1,h2⟩:=h b (by simp[SV.refs]);simp only[SV.bm,lk.fwd,lk.bwd,h1,h2]
 | .slice b o l c,_,h=>by obtain⟨j,h1,h2⟩:=h b (by simp[SV.refs]);simp only[SV.bm,lk.fwd,lk.bwd,h1,h2]
 | .sl b v,hc,h=>by
  obtain⟨j,h1,h2⟩:=h b (by simp[SV.refs]);have e:v=vb b:=by simpa [SV.cur]using hc
  subst e;simp[SV.bm,lk.fwd,lk.bwd,h1,h2]
 | .vw b v w z n,hc,h=>by
  obtain⟨j,h1,h2⟩:=h b (by simp[SV.refs]);have e:v=vb b:=by simpa [SV.cur]using hc
  subst e;simp[SV.bm,lk.fwd,lk.bwd,h1,h2]
 | .vb b o t m z n,_,h=>by obtain⟨j,h1,h2⟩:=h b (by simp[SV.refs]);simp only[SV.bm,lk.fwd,lk.bwd,h1,h2]
 | .ep s w z g',hc,h=>by simp only[SV.bm];rw[sA (s:=s) hc h]
 | .Gv g b o,_,h=>by obtain⟨j,h1,h2⟩:=h b (by simp[SV.refs]);simp only[SV.bm,lk.fwd,lk.bwd,h1,h2]
 | .int _ _,_,_| .bool _,_,_| .jd _,_,_| .str _,_,_| .cQ _,_,_| .br,_,_| .arr _ _ _,_,_| .rd _ _ _ _,_,_=>rfl
def Item.ver:Item→Nat
 | .aZ _ _=>0
 | .own v _ _| .gone v=>v
theorem EL{f:Nat→Option Nat}{g vb:Nat→Nat}{x:Item}{i:Nat}(hc:x.cur vb=true)(hv:vb i=x.ver)(h:∀r∈x.refs,∃j,f r=some j∧g j=r):(x.bm (.fwd f vb) fun _=>0).bm (.bwd g vb) (· +vb i)=x:=by
 cases x with
 |aZ cells e=>
  have hm:(cells.map (SV.bm (.fwd f vb))).map (SV.bm (.bwd g vb))=cells:=by
   rw[List.map_map];simp only[Item.cur,List.all_eq_true]at hc;have:=List.map_congr_left (l:=cells) (f:=SV.bm (.bwd g vb)∘SV.bm (.fwd f vb)) (g:=id) fun s hs=>sA (hc s hs) fun r hr=>h r (by simp only[Item.refs,List.mem_flatMap];exact⟨s,hs,hr⟩);rw[this,List.map_id]
  simp only[Item.bm,hm]
 |own v t l=>simp only[Item.bm,Nat.zero_add,hv,Item.ver]
 |gone v=>simp only[Item.bm,Nat.zero_add,hv,Item.ver]
theorem SV.Cu{f:lk}:∀ {s:SV},s.nr=true→(s.bm f).nr=true
 | .ptr b o,_=>by simp only[SV.bm];split<;>rfl
 | .nx ..,_=>by simp only[SV.bm];split<;>rfl
 | .slice ..,_=>by simp only[SV.bm];split<;>rfl
 | .sl ..,_=>by simp only[SV.bm];split<;>(try split)<;>rfl
 | .vw ..,_=>by simp only[SV.bm];split<;>(try split)<;>rfl
 | .vb ..,_=>by simp only[SV.bm];split<;>rfl
 | .ep s w z g,h=>SV.Cu (s:=s) h
 | .Gv g b o,_=>by simp only[SV.bm];split<;>rfl
 | .int _ _,h| .bool _,h| .jd _,h| .str _,h| .cQ _,h| .br,h| .arr _ _ _,h| .rd _ _ _ _,h=>h
def ln:Nat→List Nat→List Nat→List Item→Ask (Option (List Nat×List Item))
 |0,_,_,_=>.ret none
 |_+1,[],acc,z7=>.ret (some (acc,z7))
 |n+1,i::todo,acc,z7=>if i∈acc then ln n todo acc z7 else
   .get i fun x=>match x with
    |some x=>ln n (x.refs++todo) (acc++ [i]) (z7++ [x])
    |none=>.ret none
structure Reached (hp:Hp) (roots acc:List Nat) (z7:List Item) (todo:List Nat):Prop where
 nodup:acc.Nodup
 len:acc.length=z7.length
 at_:∀ (j:Nat) (i:Nat) (x:Item),acc[j]? =some i→z7[j]? =some x→aW hp i=some x
 refs:∀x∈z7,∀r∈x.refs,r∈acc∨r∈todo
 root:∀r∈roots,r∈acc∨r∈todo
theorem qo{hp:Hp}{roots:List Nat}:∀ (n:Nat) (todo acc:List Nat) (z7:List Item) {ids:List Nat} {xs:List Item},Reached hp roots acc z7 todo→(ln n todo acc z7).val hp=some (ids,xs)→Reached hp roots ids xs []
 |0,_,_,_,_,_,_,h=>by cases h
 |n+1,[],acc,z7,_,_,hr,h=>by
  simp only[ln,Ask.val]at h
  cases h
  exact hr
 |n+1,i::todo,acc,z7,ids,xs,hr,h=>by
  simp only[ln]at h
  split at h
  ·rename_i hm;have hm':i∈acc:=hm;refine qo n todo acc z7 ⟨hr.nodup,hr.len,hr.at_,fun x hx r jw=>?_,fun r jw=>?_⟩ h
   ·rcases hr.refs x hx r jw with h1|h1
    ·exact .inl h1
    ·rcases List.mem_cons.1 h1 with rfl|h1
     ·exact .inl hm'
     ·exact .inr h1
   ·rcases hr.root r jw with h1|h1
    ·exact .inl h1
    ·rcases List.mem_cons.1 h1 with rfl|h1
     ·exact .inl hm'
     ·exact .inr h1
  ·rename_i hm;have hm':i∉acc:=hm;simp only[Ask.val]at h
   split at h
   ·rename_i x hx;refine qo n (x.refs++todo) (acc++ [i]) (z7++ [x]) ⟨?_,by simp[hr.len],?_,?_,?_⟩ h
    ·rw[List.nodup_append];refine⟨hr.nodup,by simp,fun a ha b hb=>?_⟩;simp at hb;subst hb;exact fun e=>hm' (e▸ha)
    ·intro j i' x' h1 h2
     by_cases hj:j<acc.length
     ·rw[List.getElem?_append_left hj]at h1;rw[List.getElem?_append_left (by rw[← hr.len];exact hj)]at h2;exact hr.at_ j i' x' h1 h2
     ·rw[List.getElem?_append_right (by omega)]at h1;rw[List.getElem?_append_right (by rw[← hr.len];omega),← hr.len]at h2
      have hj0:j-acc.length=0:=by
       have:=(List.getElem?_eq_some_iff.1 h1).1;simpa using this
      rw[hj0]at h1 h2;simp at h1 h2;subst h1 h2;exact hx
    ·intro y hy r jw;rcases List.mem_append.1 hy with hy|hy
     ·rcases hr.refs y hy r jw with h1|h1
      ·exact .inl (by simp[h1])
      ·rcases List.mem_cons.1 h1 with rfl|h1
       ·exact .inl (by simp)
       ·exact .inr (by simp[h1])
     ·simp at hy;subst hy;exact .inr (by simp[jw])
    ·intro r jw;rcases hr.root r jw with h1|h1
     ·exact .inl (by simp[h1])
     ·rcases List.mem_cons.1 h1 with rfl|h1
      ·exact .inl (by simp)
      ·exact .inr (by simp[h1])
   ·simp[Ask.val]at h
noncomputable section
variable {W:World} {ag:Hp} {β₀ β:Env} {hp:Hp} {w:World}
theorem tJ{h:Value}{t:Ty}{l:List t.D}(hk:bI β w h t l){b:Nat}(hb:inBlock h b):∃a n c,h= .slice (some a) n c∧0<c∧a.block=b:=by
 obtain⟨a,n,c,rfl,h1,h2,h3,_⟩:=hk
 cases a with
 |none=>exact hb.elim
 |some a=>exact⟨a,n,c,rfl,by have:=hb.1;omega,hb.2⟩
theorem Nm{h v:Value}{k:Nat}{z n:Int}(hs:ot h k z n v){b:Nat}(hb:inBlock v b):inBlock h b:=by
 obtain⟨a,m,c,a',c',rfl,z0,n0,hle,rfl,lb,_,ha⟩:=hs
 cases a' with
 |none=>exact hb.elim
 |some a2=>
  have h0:=hb.1;obtain⟨a0,rfl,e⟩:=ha (by omega);simp at e;subst e;exact⟨by omega,by have:=hb.2;rwa [cd]at this⟩
theorem z8(h:aQ W ag β₀ β hp w){t:Ty}{s:SV}{pm:Bool}{l:List t.D}{v:Value}(hc:(eM t s).val hp=some (pm,l))(hd:s.den β (kd hp) v){b:Nat}(hb:inBlock v b):
  (b<w.heap.size∧¬dh hp β b)∨∃i x,hp[i]? =some (some x)∧bx β x i b∧i∈s.refs:=by
 unfold eM at hc
 split at hc
 ·exact .inl ((h.SZ hd.2.2).2 b hb)
 ·obtain⟨_,rfl⟩:=hd;exact hb.elim
 ·rename_i i ver;simp only[Ask.val]at hc
  split at hc
  ·rename_i ver' t' l' hi
   split at hc
   ·split at hc
    ·rename_i e;subst e;obtain⟨_,hd⟩:=hd;obtain⟨h1,rfl⟩:=h.jL (p:=fun x=>v=x) (an hi) hd;exact .inr ⟨i,_,an hi,tJ h1 hb,by simp[SV.refs]⟩
    ·cases hc
   ·cases hc
  ·cases hc
 ·rename_i i ver w' z n;simp only[Ask.val]at hc
  split at hc
  ·rename_i ver' t' l' hi
   split at hc
   ·split at hc
    ·rename_i e;obtain⟨rfl,rfl⟩:=e;obtain⟨_,hd⟩:=hd;obtain⟨h1,h2⟩:=h.jL (p:=fun x=>ot x _ z n v) (an hi) hd;exact .inr ⟨i,_,an hi,tJ h1 (Nm h2 hb),by simp[SV.refs]⟩
    ·cases hc
   ·cases hc
  ·cases hc
 ·rename_i b' o t' m z n;simp only[Ask.val]at hc
  split at hc
  ·rename_i cells elem hi;obtain⟨_,z0,n0,zn,a',c',rfl,lb,_,ha⟩:=hd;refine .inr ⟨b',_,an hi,?_,by simp[SV.refs]⟩;show b=β.b b'
   cases a' with
   |none=>exact hb.elim
   |some a'=>
    have h0:=hb.1;have e:=ha (by omega);simp at e;subst e;rw[← hb.2,cd]
  ·cases hc
 ·rename_i b' o len cap;simp only[Ask.val]at hc
  split at hc
  ·rename_i cells elem hi;obtain⟨_,rfl⟩:=hd;exact .inr ⟨b',_,an hi,hb.2.symm,by simp[SV.refs]⟩
  ·cases hc
 ·simp[Ask.val]at hc
def Hl(β:Env)(own:Nat→Prop)(w:World)(v:Value)(t:Ty)(l:List t.D):Prop:=bg β false w v t l∧∀b,inBlock v b→b<w.heap.size∧¬own b
def Env.wY(β:Env)(own:Nat→Prop)(w:World):Env:=⟨β.b,β.h,fun pm v t l=>match pm with
 |true=>β.rd true v t l
 |false=>Hl β own w v t l⟩
def wZ(β:Env)(own:Nat→Prop)(w:World)(v:Value)(t:Ty)(l:List t.D):Prop:=bg (β.wY own w) false w v t l∧∀b,inBlock v b→b<w.heap.size∧¬own b
def Env.can(β:Env)(own:Nat→Prop)(w:World)(lent:Bool)(ids:List Nat):Env:=⟨fun j=>β.b (ids.getD j 0),fun j=>β.h (ids.getD j 0),fun pm v t l=>match pm with
 |true=>β.rd true v t l
 |false=>β.rd false v t l∨(lent=true∧wZ β own w v t l)⟩
theorem aQ.wY(h:aQ W ag β₀ β hp w){own:Nat→Prop}(ho:∀b,own b→dh hp β b):∀pm v t l,β.rd pm v t l→(β.wY own w).rd pm v t l:=by
 intro pm v t l hr
 cases pm with
 |true=>exact hr
 |false=>
  obtain⟨h1,h2⟩:=h.reads _ _ _ _ hr;exact⟨h1,fun b hb=>⟨(h2 b hb).1,fun k=>(h2 b hb).2 (ho b k)⟩⟩
theorem aQ.Hm(h:aQ W ag β₀ β hp w){own:Nat→Prop}(ho:∀b,own b→dh hp β b){v:Value}{t:Ty}{l:List t.D}(hl:Hl β own w v t l):wZ β own w v t l:=
 ⟨hl.1.mono (h.wY ho),hl.2⟩
def w3(t:Ty)(s:SV):Ask (Option (List t.D)):=(eM t s).map (·.map (·.2))
theorem w4(h:aQ W ag β₀ β hp w){t:Ty}{s:SV}{l:List t.D}{v:Value}(hc:(w3 t s).val hp=some l)(hd:s.den β (kd hp) v){own:Nat→Prop}
  (ho:∀b,own b→∃i x,hp[i]? =some (some x)∧bx β x i b∧i∉s.refs):Hl β own w v t l:=by
 unfold w3 at hc;rw[Ask.bL]at hc;obtain⟨⟨pm,l'⟩,hc1,he⟩:=map_some hc;clear hc
 cases he
 have hc:=hc1;have h1:=ib h hc hd
 have h2:bg β false w v t l':=by
  cases pm with
  |true=>exact h1.Er
  |false=>exact h1
 refine⟨h2,fun b hb=>?_⟩;rcases z8 h hc hd hb with⟨h3,h4⟩|⟨i,x,h3,h4,h5⟩
 ·refine⟨h3,fun k=>?_⟩;obtain⟨i,x,k1,k2,_⟩:=ho b k;exact h4 ⟨i,x,k1,k2⟩
 ·refine⟨(h.items i x h3).lt h4,fun k=>?_⟩;obtain⟨j,y,k1,k2,k3⟩:=ho b k;have:=h.inj i j x y b h3 k1 h4 k2;subst this;exact k3 h5
def w5(t:Ty):List SV→Ask (Option (List (List t.D)))
 | []=>.ret (some [])
 |s::r=>(w3 t s).bind fun x=>match x with
  |some l=>(w5 t r).map (·.map (l:: ·))
  |none=>.ret none
theorem w6(h:aQ W ag β₀ β hp w){t:Ty}{own:Nat→Prop}:∀ {row:List SV} {ls:List (List t.D)} {vs:List Value},(w5 t row).val hp=some ls→aP β (kd hp) row vs→
  (∀b,own b→∃i x,hp[i]? =some (some x)∧bx β x i b∧i∉row.flatMap SV.refs)→aF ((Ty.sl t).has (β.wY own w) false) ls vs
 | [],ls,vs,hc,hd,_=>by
  simp[w5,Ask.val]at hc;subst hc
  cases hd;exact .nil
 |s::row,ls,_,hc,.cons (vs:=us) h1 h2,ho=>by
  simp only[w5]at hc;rw[Ask.cA]at hc
  split at hc
  ·rename_i l hl;rw[Ask.bL]at hc;obtain⟨ls',lb,rfl⟩:=map_some hc
   have hs:∀t n l,s≠ .arr t n l:=by
    intro t' n l' e;subst e;simp[w3,eM,Ask.val,Ask.map,Ask.bind]at hl
   obtain⟨v,rfl,hv⟩:=SV.eG h1 hs;refine .cons ⟨v,rfl,SV.aT hv,.inr (.inl ⟨rfl,?_⟩)⟩ (w6 h lb h2 fun b hb=>?_)
   ·exact w4 h hl hv fun b hb=>by
     obtain⟨i,x,k1,k2,k3⟩:=ho b hb;exact⟨i,x,k1,k2,fun hm=>k3 (by simp[hm])⟩
   ·obtain⟨i,x,k1,k2,k3⟩:=ho b hb;exact⟨i,x,k1,k2,fun hm=>k3 (by rw[List.flatMap_cons];exact List.mem_append_right _ hm)⟩
  ·simp[Ask.val]at hc
def Nn(t:Ty)(s:SV):Ask (Option (SV×List Nat)):=
 match t,s with
 | .sl t',.slice b o len cap=>.get b fun x=>match x with
  |some (.aZ cells _)=>match(if len≤cap then Es cells o len else none)with
   |some row=>(w5 t' row).map (·.map fun ls=>(.rd false false (.sl t') ls,b::row.flatMap SV.refs))
   |none=>.ret none
  |_=>.ret none
 |t,s=>(w3 t s).map (·.map fun l=>(.rd false false t l,s.refs))
theorem Cv(h:aQ W ag β₀ β hp w){t:Ty}{s s':SV}{lids:List Nat}{v:Value}(hc:(Nn t s).val hp=some (s',lids))(hd:s.den β (kd hp) v){own:Nat→Prop}
  (ho:∀b,own b→∃i x,hp[i]? =some (some x)∧bx β x i b∧i∉lids):∃l,s'= .rd false false t l∧wZ β own w v t l:=by
 have gR:∀b,own b→dh hp β b:=fun b hb=>let ⟨i,x,h1,h2,_⟩:=ho b hb;⟨i,x,h1,h2⟩;unfold Nn at hc
 split at hc
 ·rename_i t' b o len cap;simp only[Ask.val]at hc
  split at hc
  ·rename_i cells elem hi
   split at hc
   ·rename_i row eY;rw[Ask.bL]at hc;obtain⟨ls,hl,he⟩:=map_some hc
    cases he
    split at eY
    ·rename_i S0;obtain⟨_,rfl⟩:=hd;obtain⟨cs,fz,h1,h2,h3⟩:=h.items _ _ (an hi);obtain⟨pre,mid,post,rfl,e1,e2,h4⟩:=kl eY h3
     have h5:=w6 h hl h4 (own:=own) fun b hb=>by
      obtain⟨i,x,k1,k2,k3⟩:=ho b hb;exact⟨i,x,k1,k2,fun hm=>k3 (List.mem_cons_of_mem _ hm)⟩
     have hlen:mid.length=ls.length:=(by rw[aR h5];simp[Ty.w]);subst e1;refine⟨ls,rfl,⟨_,_,_,rfl,by omega,S0,(fun e=>by cases e),fun _=>⟨_,mid,rfl,rfl,h5,cC h1⟩⟩,fun b' fx=>?_⟩;have eb:b'=β.b b:=fx.2.symm;subst eb;refine⟨(Array.getElem?_eq_some_iff.1 h1).1,fun k=>?_⟩;obtain⟨i,x,k1,k2,k3⟩:=ho _ k;have:=h.inj i b x _ _ k1 (an hi) k2 rfl;subst this;exact k3 (by simp)
    ·cases eY
   ·simp[Ask.val]at hc
  ·simp[Ask.val]at hc
 ·rw[Ask.bL]at hc;obtain⟨l,hl,he⟩:=map_some hc
  cases he
  exact⟨l,rfl,h.Hm gR (w4 h hl hd ho)⟩
def aec:SV→Bool
 | .sl _ _| .slice _ _ _ _| .rd _ _ _ _| .vw _ _ _ _ _| .vb _ _ _ _ _ _=>true
 | .cQ (.slice none 0 0)=>true
 |_=>false
def fe(t:Ty):List SV→Ask (List SV×List Nat)
 | []=>.ret ([],[])
 |s::r=>if aec s=true then(Nn t s).bind fun y=>match y with
   |some (s',b1)=>(fe t r).map fun(l,b)=>(s'::l,b1++b)
   |none=>(fe t r).map fun(l,b)=>(s::l,b)
  else(fe t r).map fun(l,b)=>(s::l,b)
theorem qp(h:aQ W ag β₀ β hp w){f:lk}{βc:Env}{L':Nat→Option Kd}(EC:nM f β βc (kd hp) L' false){own:Nat→Prop}{t:Ty}(hl:∀v l,wZ β own w v t l→βc.rd false v t l):
  ∀ {l l':List SV} {lids:List Nat} {vs:List Value},(fe t l).val hp=(l',lids)→aP β (kd hp) l vs→
   (∀b,own b→∃i x,hp[i]? =some (some x)∧bx β x i b∧i∉lids)→aP βc L' (l'.map (SV.bm f)) vs
 | [],l',lids,_,hc,hd,_=>by
  cases hd
  have lb:(([]:List SV),([]:List Nat))=(l',lids):=hc
  cases lb
  exact .nil
 |s::r,l',lids,_,hc,.cons (vs:=vs) h1 h2,ho=>by
  have same:∀ {l':List SV} {lids:List Nat},((fe t r).map fun(l,b)=>(s::l,b)).val hp=(l',lids)→(∀b,own b→∃i x,hp[i]? =some (some x)∧bx β x i b∧i∉lids)→aP βc L' (l'.map (SV.bm f)) (vs++_):=fun {l' lids} hc ho=>by
   rw[Ask.bL]at hc;have e1:l'=s::((fe t r).val hp).1:=(congrArg Prod.fst hc).symm;have e2:lids=((fe t r).val hp).2:=(congrArg Prod.snd hc).symm;subst e1;rw[e2]at ho;have ih:=qp h EC hl (l:=r) (l':=((fe t r).val hp).1) (lids:=((fe t r).val hp).2) rfl h2 ho;have hs:aP βc L' ([s].map (SV.bm f)) (vs++ []):=aP.tI EC (by simp) (aF.cons h1 aF.nil);rw[List.append_nil]at hs;exact hs.append ih
  simp only[fe]at hc
  split at hc
  ·rename_i ji;rw[Ask.cA]at hc
   split at hc
   ·rename_i s' b1 hs;rw[Ask.bL]at hc;have e1:l'=s'::((fe t r).val hp).1:=(congrArg Prod.fst hc).symm;have e2:lids=b1++((fe t r).val hp).2:=(congrArg Prod.snd hc).symm;subst e1;rw[e2]at ho;have hna:∀t n l,s≠ .arr t n l:=fun _ _ _ e=>(by subst e;cases ji);obtain⟨v,rfl,hv⟩:=SV.eG h1 hna
    obtain⟨l2,rfl,h3⟩:=Cv h hs hv (own:=own) fun b hb=>by
     obtain⟨i,x,k1,k2,k3⟩:=ho b hb;exact⟨i,x,k1,k2,fun hm=>k3 (List.mem_append_left _ hm)⟩
    refine .cons (vs:= [v]) ⟨v,rfl,SV.aT hv,(fun e=>by cases e),.inr (.inl ⟨rfl,hl _ _ h3⟩)⟩ (qp h EC hl (l:=r) (l':=((fe t r).val hp).1) (lids:=((fe t r).val hp).2) rfl h2 fun b hb=>?_);obtain⟨i,x,k1,k2,k3⟩:=ho b hb;exact⟨i,x,k1,k2,fun hm=>k3 (List.mem_append_right _ hm)⟩
   ·exact same hc ho
  ·exact same hc ho
def c9:List (Option Ty)→List LV→Ask (Option (List LV×List Nat))
 |_,[]=>.ret (some ([],[]))
 | [],x::xs=>(c9 [] xs).map (·.map fun(l,b)=>(x::l,b))
 |none::ts,x::xs=>(c9 ts xs).map (·.map fun(l,b)=>(x::l,b))
 |some t::ts,.one (.sc s)::xs=>(Nn t s).bind fun y=>match y with
  |some (s',b1)=>(c9 ts xs).map (·.map fun(l,b)=>(.one (.sc s')::l,b1++b))
  |none=>.ret none
 |some t::ts,.one (.agg l)::xs=>(fe t l).bind fun y=>(c9 ts xs).map (·.map fun(r,b)=>(.one (.agg y.1)::r,y.2++b))
 |some _::_,_=>.ret none
theorem ff(h:aQ W ag β₀ β hp w){f:lk}{βc:Env}{L':Nat→Option Kd}(EC:nM f β βc (kd hp) L' false){own:Nat→Prop}:
  ∀ {ts:List (Option Ty)} {xs cs:List LV} {lids:List Nat} {vs:List Value},(c9 ts xs).val hp=some (cs,lids)→bd (LV.den β (kd hp)) xs vs→
   (∀t,some t∈ts→∀v l,wZ β own w v t l→βc.rd false v t l)→
   (∀b,own b→∃i x,hp[i]? =some (some x)∧bx β x i b∧i∉lids)→bd (LV.den βc L') (cs.map (LV.bm f)) vs
 |ts,[],cs,lids,_,hc,hd,_,_=>by
  cases hd
  have lb:some (([]:List LV),([]:List Nat))=some (cs,lids):=by
   cases ts with
   |nil=>exact hc
   |cons a b=>cases a<;>exact hc
  cases lb
  exact .nil
 | [],x::xs,_,_,_,hc,.cons h1 h2,hl,ho=>by
  simp only[c9]at hc;rw[Ask.bL]at hc;obtain⟨⟨l,b⟩,lb,he⟩:=map_some hc
  cases he
  exact .cons (LV.dp EC (by simp) h1) (ff h EC lb h2 hl ho)
 |none::ts,x::xs,_,_,_,hc,.cons h1 h2,hl,ho=>by
  simp only[c9]at hc;rw[Ask.bL]at hc;obtain⟨⟨l,b⟩,lb,he⟩:=map_some hc
  cases he
  exact .cons (LV.dp EC (by simp) h1) (ff h EC lb h2 (fun t ht=>hl t (List.mem_cons_of_mem _ ht)) ho)
 |some t::ts,x::xs,_,_,_,hc,.cons h1 h2,hl,ho=>by
  cases x with
  |one x=>
   cases x with
   |sc s=>
    simp only[c9]at hc;rw[Ask.cA]at hc
    split at hc
    ·rename_i s' b1 hs;rw[Ask.bL]at hc;obtain⟨⟨l,b⟩,lb,he⟩:=map_some hc
     cases he
     obtain⟨l',rfl,h3⟩:=Cv h hs h1 (own:=own) fun b hb=>by
      obtain⟨i,x,k1,k2,k3⟩:=ho b hb;exact⟨i,x,k1,k2,fun hm=>k3 (List.mem_append_left _ hm)⟩
     refine .cons ⟨SV.aT h1,(fun e=>by cases e),.inr (.inl ⟨rfl,hl t (by simp) _ _ h3⟩)⟩ (ff h EC lb h2 (fun t ht=>hl t (List.mem_cons_of_mem _ ht)) fun b hb=>?_);obtain⟨i,x,k1,k2,k3⟩:=ho b hb;exact⟨i,x,k1,k2,fun hm=>k3 (List.mem_append_right _ hm)⟩
    ·simp[Ask.val]at hc
   |agg l=>
    simp only[c9]at hc;rw[Ask.cA,Ask.bL]at hc;obtain⟨⟨l',b⟩,lb,he⟩:=map_some hc
    cases he
    obtain⟨cells,rfl,h3⟩:=h1;refine .cons ⟨cells,rfl,qp h EC (fun v l h=>hl t (by simp) v l h) (l:=l) (l':=((fe t l).val hp).1) (lids:=((fe t l).val hp).2) rfl h3 fun b hb=>?_⟩ (ff h EC lb h2 (fun t ht=>hl t (List.mem_cons_of_mem _ ht)) fun b hb=>?_)
    ·obtain⟨i,x,k1,k2,k3⟩:=ho b hb;exact⟨i,x,k1,k2,fun hm=>k3 (List.mem_append_left _ hm)⟩
    ·obtain⟨i,x,k1,k2,k3⟩:=ho b hb;exact⟨i,x,k1,k2,fun hm=>k3 (List.mem_append_right _ hm)⟩
  |bV l=>simp[c9,Ask.val]at hc
  |br=>simp[c9,Ask.val]at hc
theorem bx.bm{f:lk}{u:Nat→Nat}{β β':Env}{x:Item}{i j b:Nat}(hb:β'.b j=β.b i)(hh:β'.h j=β.h i):bx β' (x.bm f u) j b↔bx β x i b:=by
 cases x<;>simp only[Item.bm,bx,hb,hh]
def js(ids:List Nat)(xs:List Item)(i:Nat):Nat:=match eO ids i with
 |some j=>match xs[j]? with
  |some x=>x.ver
  |none=>0
 |none=>0
abbrev oJ(ids:List Nat)(xs:List Item):lk:=.fwd (eO ids) (js ids xs)
def ef(ids:List Nat)(xs:List Item):Hp:=xs.map fun x=>some (x.bm (oJ ids xs) fun _=>0)
theorem iK{roots ids:List Nat}{xs:List Item}(hr:Reached hp roots ids xs []){j:Nat}{y:Item}(h:(ef ids xs)[j]? =some (some y)):∃i x,ids[j]? =some i∧hp[i]? =some (some x)∧xs[j]? =some x∧y=x.bm (oJ ids xs) fun _=>0:=by
 unfold ef at h;rw[List.getElem?_map]at h;obtain⟨x,hx,he⟩:=map_some h;simp at he;subst he;have hj:j<ids.length:=by rw[hr.len];exact(List.getElem?_eq_some_iff.1 hx).1
 have hi:ids[j]? =some ids[j]:=List.getElem?_eq_getElem hj;exact⟨_,x,hi,an (hr.at_ _ _ _ hi hx),hx,rfl⟩
theorem nN{roots ids:List Nat}{xs:List Item}(hr:Reached hp roots ids xs []){i j:Nat}(h:ids[j]? =some i):∃x,hp[i]? =some (some x)∧xs[j]? =some x∧(ef ids xs)[j]? =some (some (x.bm (oJ ids xs) fun _=>0)):=by
 have hj:j<xs.length:=by rw[← hr.len];exact(List.getElem?_eq_some_iff.1 h).1
 have hx:xs[j]? =some xs[j]:=List.getElem?_eq_getElem hj;refine⟨_,an (hr.at_ _ _ _ h hx),hx,?_⟩;unfold ef;rw[List.getElem?_map,hx];rfl
theorem tK{roots ids:List Nat}{xs:List Item}(hr:Reached hp roots ids xs []){i j:Nat}(h:ids[j]? =some i){x:Item}(hx:hp[i]? =some (some x)):js ids xs i=x.ver:=by
 obtain⟨y,h1,h2,_⟩:=nN hr h;rw[hx]at h1;cases h1;simp only[js,fE hr.nodup h,h2]
def iq(hp:Hp)(β:Env)(ids:List Nat)(b:Nat):Prop:=∃i x,hp[i]? =some (some x)∧bx β x i b∧i∈ids
theorem dw{l:List Nat}{j i:Nat}(h:l[j]? =some i):l.getD j 0=i:=by rw[List.getD_eq_getElem?_getD,h];rfl
theorem kx{roots ids:List Nat}{xs:List Item}(hr:Reached hp roots ids xs []){own:Nat→Prop}{lent:Bool}{b:Nat}(h:dh (ef ids xs) (β.can own w lent ids) b):iq hp β ids b:=by
 obtain⟨j,y,hj,ho⟩:=h;obtain⟨i,x,h1,h2,_,rfl⟩:=iK hr hj;refine⟨i,x,h2,?_,List.mem_of_getElem? h1⟩;exact(bx.bm (by show β.b _=_;rw[dw h1]) (by show β.h _=_;rw[dw h1])).1 ho
theorem w7{roots ids:List Nat}{xs:List Item}(hr:Reached hp roots ids xs []){own:Nat→Prop}{lent:Bool}:nM (oJ ids xs) β (β.can own w lent ids) (kd hp) (kd (ef ids xs)) false:=by
 refine⟨fun b j hj hb=>?_,fun i j c hj hi=>?_,fun v t l h=>h,fun _ v t l h=>.inl h⟩
 ·have h1:=dG hj;obtain⟨x,h2,h3,h4⟩:=nN hr h1;refine⟨?_,by show β.b _=_;rw[dw h1]⟩;rw[bX h2]at hb;rw[bX h4,Item.fF,Option.some.inj hb];rfl
 ·have h1:=dG hj;obtain⟨x,h2,h3,h4⟩:=nN hr h1;rw[bX h2]at hi;have hk:=Option.some.inj hi;refine⟨0,?_,by show β.h _=_;rw[dw h1],fun v v' _ hv=>?_⟩
  ·rw[bX h4,Item.fF,hk];rfl
  ·have EF:(if v=js ids xs i then some 0 else none)=some v':=hv
   split at EF
   ·rename_i e
    cases EF
    refine⟨Nat.le_refl _,fun _=>?_⟩;rw[e,tK hr h1 h2]
    cases x with
    |aZ _ _=>cases hk
    |own _ _ _=>cases hk;rfl
    |gone _=>cases hk;rfl
   ·cases EF
theorem No(h:aQ W ag β₀ β hp w){roots ids:List Nat}{xs:List Item}(hr:Reached hp roots ids xs []){lent:Bool}:
  aQ w (ef ids xs) (β.can (iq hp β ids) w lent ids) (β.can (iq hp β ids) w lent ids) (ef ids xs) w:=by
 have gR:∀b,iq hp β ids b→dh hp β b:=fun b ⟨i,x,h1,h2,_⟩=>⟨i,x,h1,h2⟩;refine⟨fun j y hj=>?_,fun j k y z b hj hk h1 h2=>?_,bh.refl _ _,fun i x b hi ho=>.inr ⟨x,hi,ho⟩,rfl,rfl,Nat.le_refl _,fun _ _ _=>rfl,fun pm v t l kG=>?_,fun pm v t l b h1 h2=>.inr ⟨pm,v,t,l,id,h1,h2⟩⟩
 ·obtain⟨i,x,h1,h2,_,rfl⟩:=iK hr hj;refine cV.tI (w7 hr) (by simp) (fun _=>?_) (fun _ _=>?_) (h.items i x h2)
  ·show β.b _=_;rw[dw h1]
  ·show β.h _=_;rw[dw h1]
 ·obtain⟨i1,x1,a1,a2,_,rfl⟩:=iK hr hj;obtain⟨i2,x2,b1,b2,_,rfl⟩:=iK hr hk;have e:=h.inj i1 i2 x1 x2 b a2 b2 ((bx.bm (by show β.b _=_;rw[dw a1]) (by show β.h _=_;rw[dw a1])).1 h1) ((bx.bm (by show β.b _=_;rw[dw b1]) (by show β.h _=_;rw[dw b1])).1 h2);subst e;have e1:=fE hr.nodup a1;have e2:=fE hr.nodup b1;rw[e1]at e2;exact Option.some.inj e2
 ·have Yp:∀pm v t l,β.rd pm v t l→(β.can (iq hp β ids) w lent ids).rd pm v t l:=by
   intro pm v t l hr
   cases pm with
   |true=>exact hr
   |false=>exact .inl hr
  have hold:∀pm v t l,β.rd pm v t l→bg (β.can (iq hp β ids) w lent ids) pm w v t l∧∀b,inBlock v b→b<w.heap.size∧¬dh (ef ids xs) (β.can (iq hp β ids) w lent ids) b:=by
   intro pm v t l kG;obtain⟨h1,h2⟩:=h.reads _ _ _ _ kG;exact⟨h1.mono Yp,fun b hb=>⟨(h2 b hb).1,fun k=>(h2 b hb).2 (gR b (kx hr k))⟩⟩
  cases pm with
  |true=>exact hold true v t l kG
  |false=>
   rcases kG with kG|⟨hl,h1,h2⟩
   ·exact hold false v t l kG
   ·refine⟨h1.mono fun pm v t l hr=>?_,fun b hb=>⟨(h2 b hb).1,fun k=>(h2 b hb).2 (kx hr k)⟩⟩
    cases pm with
    |true=>exact hr
    |false=>exact .inr ⟨hl,h.Hm gR hr⟩
end
abbrev Item.bk(g vb:Nat→Nat)(j:Nat)(x:Item):Item:=x.bm (.bwd g vb) (· +vb (g j))
def tL(g vb:Nat→Nat)(d:List (Nat×Item)):List (Nat×Item):=d.map fun(j,x)=>(g j,x.bk g vb j)
theorem w8{g vb:Nat→Nat}{d:List (Nat×Item)}{i:Nat}{y:Item}:(i,y)∈tL g vb d↔∃j x,(j,x)∈d∧i=g j∧y=x.bk g vb j:=by
 unfold tL;rw[List.mem_map];constructor
 ·rintro⟨⟨j,x⟩,h,e⟩
  simp at e;exact⟨j,x,h,e.1.symm,e.2.symm⟩
 ·rintro⟨j,x,h,rfl,rfl⟩
  exact⟨(j,x),h,rfl⟩
structure Mir (g vb:Nat→Nat) (J U:Nat→Prop) (lent:Bool) (wz hpc hp:Hp):Prop where
 live:∀ (j:Nat) (y:Item),hpc[j]? =some (some y)→J j
 fwd:∀ (j:Nat) (y:Item),hpc[j]? =some (some y)→hp[g j]? =some (some (y.bk g vb j))
 bwd:∀ (i:Nat) (x:Item),hp[i]? =some (some x)→(∃ (j:Nat) (y:Item),hpc[j]? =some (some y)∧g j=i)∨(wz[i]? =some (some x)∧U i)
 nr:lent=true→∀ (j:Nat) (y:Item),hpc[j]? =some (some y)→y.nr=true
theorem sB{g vb:Nat→Nat}{J U:Nat→Prop}{lent:Bool}{wz:Hp}(Np:∀j k,J j→J k→g j=g k→j=k):
  ∀ (d:List (Nat×Item)) {hpc hp:Hp},(∀j x,(j,x)∈d→J j)→(lent=true→d.all (fun p=>p.2.nr)=true)→Mir g vb J U lent wz hpc hp→Mir g vb J U lent wz (ax d hpc) (ax (tL g vb d) hp)
 | [],_,_,_,_,h=>h
 |(j,x)::d,hpc,hp,hJ,hn,h=>by
  refine sB Np d (hpc:=setAt hpc j x) (hp:=setAt hp (g j) (x.bk g vb j)) (fun j' x' hm=>hJ j' x' (List.mem_cons_of_mem _ hm)) (fun e=>by have:=hn e;simp only[List.all_cons,Bool.and_eq_true]at this;exact this.2) ?_;have hj:J j:=hJ j x (by simp);refine⟨fun k y hk=>?_,fun k y hk=>?_,fun i z hi=>?_,fun e k y hk=>?_⟩
  ·by_cases Nq:k=j
   ·exact Nq▸hj
   ·exact h.live k y ((bz hpc j x k y Nq).1 hk)
  ·by_cases Nq:k=j
   ·subst Nq;rw[bZ]at hk;simp at hk;subst hk;exact bZ _ _ _
   ·have jv:=(bz hpc j x k y Nq).1 hk;have eC:g k≠g j:=fun e=>Nq (Np k j (h.live k y jv) hj e);exact(bz hp (g j) _ (g k) _ eC).2 (h.fwd k y jv)
  ·by_cases hij:i=g j
   ·subst hij;exact .inl ⟨j,x,bZ _ _ _,rfl⟩
   ·rcases h.bwd i z ((bz hp (g j) _ i z hij).1 hi)with⟨k,y,hk,e⟩|k
    ·refine .inl ⟨k,y,(bz hpc j x k y fun e'=>hij ?_).2 hk,e⟩;rw[← e,e']
    ·exact .inr k
  ·by_cases Nq:k=j
   ·subst Nq;rw[bZ]at hk;simp at hk;subst hk;have:=hn e;simp only[List.all_cons,Bool.and_eq_true]at this;exact this.1
   ·exact h.nr e k y ((bz hpc j x k y Nq).1 hk)
structure al where
 jx:List (Option Ty)
 run:List LV→Hp→Out
def Hn(P:Program)(f:FuncId)(args:List LV)(hp:Hp)(R:LV→Hp→Prop):Prop:=
 ∀ (β:Env) (w:World) (vals:List Value),aQ w hp β β hp w→bd (LV.den β (kd hp)) args vals→
  EE P f vals.toArray w fun e w'=>∃val β' r cS,e= .returned val∧R r cS∧r.den β' (kd cS) val∧aQ w hp β β' cS w'
theorem dM.done{P:Program}{f:FuncId}(he:jU P f){args:List LV}{hp:Hp}{R:LV→Hp→Prop}(h:dM P f args hp R):Hn P f args hp R:=
 fun β w vals hh ha=>.inr ⟨he,h β w vals hh ha⟩
structure al.Ok (P:Program) (f:FuncId) (e:al):Prop where
 calls:∀args hp Q,(e.run args hp).holds Q→Hn P f args hp fun v cS=>∃d,Q v d∧cS=ax d hp
def Out.back(g vb:Nat→Nat)(lent:Bool):Out→Out
 | .leaf q v d=>if lent=true∧(v.nr&&d.all fun p=>p.2.nr)=false then .fail else .leaf q (v.bm (.bwd g vb)) (tL g vb d)
 | .ite b x y=>.ite b (x.back g vb lent) (y.back g vb lent)
 | .fail=>.fail
theorem lp{g vb:Nat→Nat}{lent:Bool}{id:Nat}{hp:Hp}{Q:LV→List (Nat×Item)→Prop}:∀ {o:Out},(o.back g vb lent).fresh id hp→(o.back g vb lent).holds Q→
  o.holds fun v d=>(lent=true→v.nr=true∧(d.all fun p=>p.2.nr)=true)∧Cq id hp (tL g vb d)∧Q (v.bm (.bwd g vb)) (tL g vb d)
 | .leaf q v d,hf,h=>by
  simp only[Out.back]at hf h
  split at h
  ·exact h.elim
  ·rename_i hc;rw[if_neg hc]at hf;refine⟨h.1,fun e=>?_,hf,h.2⟩
   have:(v.nr&&d.all fun p=>p.2.nr)=true:=by
    cases hx:(v.nr&&d.all fun p=>p.2.nr)with
    |true=>rfl
    |false=>exact absurd ⟨e,hx⟩ hc
   simpa using this
 | .ite b x y,hf,h=>⟨fun e=>lp hf.1 (h.1 e),fun e=>lp hf.2 (h.2 e)⟩
 | .fail,_,h=>h
def oK(ids:List Nat)(id:Nat)(j:Nat):Nat:=match ids[j]? with
 |some i=>i
 |none=>id+(j-ids.length)
def Cw(e:al)(id:Nat)(args:List LV):Ask Out:=
 (c9 e.jx args).bind fun x=>match x with
 |none=>.ret .fail
 |some (w9,lids)=>(ln 1000 (w9.flatMap LV.refs) [] []).bind fun y=>match y with
  |none=>.ret .fail
  |some (ids,xs)=>
   if lids.any (fun i=>decide (i∈ids))=true∨(e.jx.any (·.isSome)=true∧xs.all Item.nr=false)then .ret .fail
   else if xs.all (Item.cur (js ids xs))=false then .ret .fail
   else .ret ((e.run (w9.map (LV.bm (oJ ids xs))) (ef ids xs)).back (oK ids id) (js ids xs) (e.jx.any (·.isSome)))
noncomputable section
variable {α:Type}
def lq(hp:Hp)(ids:List Nat)(id:Nat)(F F0:Nat→α)(i:Nat):α:=match eO ids i with
 |some j=>F j
 |none=>if kd hp i=none∧id≤i then F (ids.length+(i-id))else F0 i
end
theorem Ho{P:Program}{f:FuncId}{e:al}(he:e.Ok P f){id:Nat}{args:List LV}{hp:Hp}(hf:((Cw e id args).val hp).fresh id hp){Q:LV→List (Nat×Item)→Prop}(h:((Cw e id args).val hp).holds Q)
  {β:Env} {w:World} {vals:List Value} (hh:aQ w hp β β hp w) (cq:bd (LV.den β (kd hp)) args vals):
  EE P f vals.toArray w fun e w'=>∃v d val β',Q v d∧e= .returned val∧v.den β' (kd (ax d hp)) val∧aQ w hp β β' (ax d hp) w':=by
 unfold Cw at h hf;rw[Ask.cA]at h hf
 split at h
 ·exact h.elim
 rename_i w9 lids hl;rw[hl]at hf;simp only at hf;rw[Ask.cA]at h hf
 split at h
 ·exact h.elim
 rename_i ids xs Hq;rw[Hq]at hf;simp only at hf
 split at h
 ·exact h.elim
 rename_i nE;rw[if_neg nE]at hf
 split at h
 ·exact h.elim
 rename_i hcu;rw[if_neg hcu]at hf;have aeg:xs.all (Item.cur (js ids xs))=true:=by simpa using hcu
 simp only[Ask.val]at h hf;have zX:∀i∈lids,i∉ids:=fun i hi hm=>nE (.inl (by rw[List.any_eq_true];exact⟨i,hi,by simpa using hm⟩))
 have aeh:e.jx.any (·.isSome)=true→xs.all Item.nr=true:=fun e1=>by
  cases hx:xs.all Item.nr with
  |true=>rfl
  |false=>exact absurd (.inr ⟨e1,hx⟩) nE
 have Yq:∀t,some t∈e.jx→e.jx.any (·.isSome)=true:=fun t ht=>by rw[List.any_eq_true];exact⟨_,ht,rfl⟩
 generalize e.jx.any (·.isSome)=lent at*;have hR:Reached hp (w9.flatMap LV.refs) ids xs []:=qo 1000 _ [] [] ⟨List.nodup_nil,rfl,fun _ _ _ h=>by simp at h,fun _ h=>by simp at h,fun r h=>.inr h⟩ Hq;generalize tM:β.can (iq hp β ids) w lent ids=βc;have aei:aQ w (ef ids xs) βc βc (ef ids xs) w:=tM▸No hh hR;have oL:nM (oJ ids xs) β βc (kd hp) (kd (ef ids xs)) false:=tM▸w7 hR;have hcb:∀ {j i},ids[j]? =some i→βc.b j=β.b i:=fun hj=>by subst tM;show β.b _=_;rw[dw hj]
 have hch:∀ {j i},ids[j]? =some i→βc.h j=β.h i:=fun hj=>by subst tM;show β.h _=_;rw[dw hj]
 have To:bd (LV.den βc (kd (ef ids xs))) (w9.map (LV.bm (oJ ids xs))) vals:=by
  refine ff hh oL (own:=iq hp β ids) hl cq (fun t ht v l dE=>?_) fun b ⟨i,x,h1,h2,h3⟩=>⟨i,x,h1,h2,fun hm=>zX i hm h3⟩;subst tM;exact .inr ⟨Yq t ht,dE⟩
 refine(he.calls _ _ _ (lp hf h) βc w vals aei To).mono ?_
 rintro en w' ⟨val,βr,r,cS,rfl,⟨d,⟨hnr,Tp,hq⟩,rfl⟩,zT,h'⟩
 have oT:∀ {j i},ids[j]? =some i→oK ids id j=i:=fun hj=>by simp only[oK,hj]
 have xa:∀ {j:Nat},ids.length≤j→oK ids id j=id+(j-ids.length):=by
  intro j hj;have:ids[j]? =none:=List.getElem?_eq_none hj;simp only[oK,this]
 have hlen:(ef ids xs).length=ids.length:=by simp[ef,hR.len]
 have fU:∀ {j x},(j,x)∈d→ids.length≤j→kd hp (oK ids id j)=none:=fun hm hj=>Tp _ _ (w8.2 ⟨_,_,hm,rfl,rfl⟩) (by rw[xa hj];omega)
 let J:Nat→Prop:=fun j=>j<ids.length∨∃x,(j,x)∈d
 let U:Nat→Prop:=fun i=>eO ids i=none
 have Hr:∀ {j i},ids[j]? =some i→kd hp i≠none:=fun hj e=>by
  obtain⟨x,h1,_⟩:=nN hR hj;rw[bX h1]at e;cases e
 have Np:∀j k,J j→J k→oK ids id j=oK ids id k→j=k:=by
  intro j k hj hk e
  by_cases h1:j<ids.length<;>by_cases h2:k<ids.length
  ·have e1:=List.getElem?_eq_getElem h1;have e2:=List.getElem?_eq_getElem h2;rw[oT e1,oT e2]at e;have k1:=fE hR.nodup e1;have k2:=fE hR.nodup e2;rw[e,k2]at k1;exact(Option.some.inj k1).symm
  ·have e1:=List.getElem?_eq_getElem h1;obtain⟨x,hx⟩:=hk.resolve_left h2;exact absurd (by rw[← oT e1,e];exact fU hx (by omega)) (Hr e1)
  ·have e2:=List.getElem?_eq_getElem h2;obtain⟨x,hx⟩:=hj.resolve_left h1;exact absurd (by rw[← oT e2,← e];exact fU hx (by omega)) (Hr e2)
  ·rw[xa (by omega),xa (by omega)]at e;omega
 have Yr:Mir (oK ids id) (js ids xs) J U lent hp (ef ids xs) hp:=by
  refine⟨fun j y hj=>.inl ?_,fun j y hj=>?_,fun i x hi=>?_,fun e1 j y hj=>?_⟩
  ·rw[← hlen];exact(List.getElem?_eq_some_iff.1 hj).1
  ·obtain⟨i,x,h1,h2,h3,rfl⟩:=iK hR hj;have hvb:=tK hR h1 h2;show hp[oK ids id j]? =some (some ((x.bm (oJ ids xs) fun _=>0).bm (.bwd (oK ids id) (js ids xs)) (· +js ids xs (oK ids id j))));rw[oT h1,EL (List.all_eq_true.1 aeg x (List.mem_of_getElem? h3)) hvb fun r hr=>?_]
   ·exact h2
   ·have hm:=(hR.refs x (List.mem_of_getElem? h3) r hr).resolve_right (by simp);obtain⟨k,hk⟩:=qn hm;exact⟨k,hk,oT (dG hk)⟩
  ·cases eI:eO ids i with
   |none=>exact .inr ⟨hi,eI⟩
   |some j=>
    obtain⟨x',h1,h2,h3⟩:=nN hR (dG eI);exact .inl ⟨j,_,h3,oT (dG eI)⟩
  ·obtain⟨i,x,h1,h2,h3,rfl⟩:=iK hR hj;have hx:=aeh e1;rw[List.all_eq_true]at hx;have Xj:=hx x (List.mem_of_getElem? h3)
   cases x with
   |aZ cells el=>
    simp only[Item.bm,Item.nr,List.all_map]at Xj ⊢;rw[List.all_eq_true]at Xj ⊢;exact fun s hs=>SV.Cu (Xj s hs)
   |_=>rfl
 have nO:=sB Np d (fun j x hm=>.inr ⟨x,hm⟩) (fun e1=>(hnr e1).2) Yr;generalize Tq:ax (tL (oK ids id) (js ids xs) d) hp=hp2 at*;generalize ax d (ef ids xs)=ML at*
 let β2:Env:=⟨lq hp ids id βr.b β.b,lq hp ids id βr.h β.h,fun pm v t l=>match pm with
  |true=>βr.rd true v t l
  |false=>if lent=true then β.rd false v t l else βr.rd false v t l⟩
 have lr:∀ {α:Type} (F F0:Nat→α) {j:Nat},J j→lq hp ids id F F0 (oK ids id j)=F j:=by
  intro α F F0 j hj
  by_cases h1:j<ids.length
  ·have e1:=List.getElem?_eq_getElem h1;simp only[lq,oT e1,fE hR.nodup e1]
  ·obtain⟨x,hx⟩:=hj.resolve_left h1;have hn:=fU hx (by omega)
   have wz:eO ids (oK ids id j)=none:=by
    cases hq:eO ids (oK ids id j)with
    |none=>rfl
    |some k=>exact absurd hn (Hr (dG hq))
   simp only[lq,wz];rw[if_pos ⟨hn,by rw[xa (by omega)];omega⟩,xa (by omega)]
   congr 1;omega
 have nP:∀ {α:Type} (F F0:Nat→α) {i:Nat} {k:Kd},kd hp i=some k→eO ids i=none→lq hp ids id F F0 i=F0 i:=by
  intro α F F0 i k hi wz;simp only[lq,wz];rw[if_neg (by rw[hi];simp)]
 have tN:nM (.bwd (oK ids id) (js ids xs)) βr β2 (kd ML) (kd hp2) lent:=by
  refine⟨fun b j hj hb=>?_,fun i j c hj hi=>?_,fun v t l h=>h,fun e1 v t l h=>by show(if lent=true then _ else _:Prop);rw[if_neg (by simp[e1])];exact h⟩
  ·cases hj
   obtain⟨y,h1,h2⟩:=gz hb;exact⟨by rw[bX (nO.fwd _ _ h1),Item.fF,h2];rfl,lr _ _ (nO.live _ _ h1)⟩
  ·cases hj
   obtain⟨y,h1,h2⟩:=gz hi;refine⟨c+js ids xs (oK ids id i),by rw[bX (nO.fwd _ _ h1),Item.fF,h2];rfl,lr _ _ (nO.live _ _ h1),fun v v' hv he=>?_⟩
   cases he
   exact⟨Nat.add_le_add_right hv _,fun e=>Nat.add_right_cancel e⟩
 have Ys:∀pm v t l,β.rd pm v t l→β2.rd pm v t l:=by
  intro pm v t l hr
  cases pm with
  |true=>exact h'.first.rd true v t l (oL.Tn _ _ _ hr)
  |false=>
   show(if lent=true then _ else _:Prop)
   split
   ·exact hr
   ·exact h'.first.rd false v t l (oL.rdf rfl _ _ _ hr)
 have tO:∀ {i x b},hp[i]? =some (some x)→eO ids i=none→bx β x i b→b<w.heap.size∧¬iq hp β ids b:=by
  intro i x b hi wz ho;refine⟨(hh.items i x hi).lt ho,fun⟨k,y,h1,h2,h3⟩=>?_⟩;have:=hh.inj i k x y b hi h1 ho h2;subst this;exact sy wz h3
 have Hs:∀ {b},b<w.heap.size→¬iq hp β ids b→w'.heap[b]? =w.heap[b]? :=fun hb hn=>h'.ao _ hb fun k=>hn (kx hR (tM▸k))
 have Q7:∀ {i x},hp[i]? =some (some x)→eO ids i=none→hp2[i]? =some (some x):=by
  intro i x hi wz
  have:i∉(tL (oK ids id) (js ids xs) d).map (·.1):=by
   intro hm;obtain⟨⟨i',z⟩,h1,h2⟩:=List.mem_map.1 hm;simp at h2;subst h2;obtain⟨j,y,h3,e1,e2⟩:=w8.1 h1
   by_cases hj:j<ids.length
   ·have k1:=List.getElem?_eq_getElem hj;have:=sy wz;exact this (by rw[e1,oT k1];exact List.getElem_mem hj)
   ·have:=fU h3 (by omega);rw[← e1,bX hi]at this;cases this
  rw[← Tq];exact an (by rw[cD this];exact kj hi)
 have kH:bh β β2 (kd hp) (kd hp2):=by
  refine⟨fun i hi=>?_,fun i c hi=>?_,Ys⟩
  ·obtain⟨x,hx,hk⟩:=gz hi
   cases eI:eO ids i with
   |none=>exact⟨by rw[bX (Q7 hx eI),hk],nP _ _ hi eI⟩
   |some j=>
    have h1:=dG eI;obtain⟨k1,k2⟩:=oL.aZ _ _ eI hi;obtain⟨k3,k4⟩:=h'.first.aZ _ k1;obtain⟨k5,k6⟩:=tN.aZ _ _ rfl k3;rw[oT h1]at k5 k6;exact⟨k5,by rw[k6,k4,k2]⟩
  ·obtain⟨x,hx,hk⟩:=gz hi
   cases eI:eO ids i with
   |none=>exact⟨c,by rw[bX (Q7 hx eI),hk],Nat.le_refl _,fun _=>nP _ _ hi eI⟩
   |some j=>
    have h1:=dG eI;have hvb:=tK hR h1 hx
    have hck:x.ver=c:=by
     cases x with
     |aZ _ _=>cases hk
     |own _ _ _=>cases hk;rfl
     |gone _=>cases hk;rfl
    obtain⟨y,y1,_,y3⟩:=nN hR h1;rw[hx]at y1;cases y1;have k1:kd (ef ids xs) j=some (.own 0):=(by rw[bX y3,Item.fF,hk];rfl);have k2:βc.h j=β.h i:=hch h1;obtain⟨c',k3,k4,k4'⟩:=h'.first.own _ _ k1;have hg:oK ids id j=i:=oT h1;obtain⟨z,z1,z2⟩:=gz k3
    have k5:kd hp2 i=some (.own (c'+c)):=by
     have:=nO.fwd _ _ z1;rw[hg]at this;rw[bX this,Item.fF,z2,hg,hvb,hck];rfl
    have k6:β2.h i=βr.h j:=(by rw[← hg];exact lr _ _ (nO.live _ _ z1));exact⟨c'+c,k5,by omega,fun e1=>by rw[k6,k4' (by omega),k2]⟩
 have Nr:∀ {j y b},ML[j]? =some (some y)→(bx β2 (y.bk (oK ids id) (js ids xs) j) (oK ids id j) b↔bx βr y j b):=fun hj=>bx.bm (lr _ _ (nO.live _ _ hj)) (lr _ _ (nO.live _ _ hj));have Xv:∀ {i x b},hp[i]? =some (some x)→eO ids i=none→(bx β2 x i b↔bx β x i b):=fun hi wz=>bx.congr (nP _ _ (bX hi) wz) (nP _ _ (bX hi) wz);have Ht:∀ {j y b},ML[j]? =some (some y)→bx βr y j b→w.heap.size≤b∨iq hp β ids b:=fun hj ho=>(h'.own _ _ _ hj ho).imp (fun h=>h) fun⟨y,k⟩=>kx (own:=iq hp β ids) (w:=w) (lent:=lent) hR (tM.symm▸⟨_,y,k⟩)
 have qs:∀ {i z},hp2[i]? =some (some z)→(∃j y,ML[j]? =some (some y)∧i=oK ids id j∧z=y.bk (oK ids id) (js ids xs) j)∨(hp[i]? =some (some z)∧eO ids i=none):=by
  intro i z hi;rcases nO.bwd i z hi with⟨j,y,h1,h2⟩|h1
  ·have:=nO.fwd j y h1;rw[h2,hi]at this;exact .inl ⟨j,y,h1,h2.symm,by simpa using this⟩
  ·exact .inr h1
 have Cx:∀ {b},dh hp2 β2 b→dh ML βr b∨∃i x,hp[i]? =some (some x)∧eO ids i=none∧bx β x i b:=by
  rintro b ⟨i,z,hi,ho⟩
  rcases qs hi with⟨j,y,h1,rfl,rfl⟩|⟨h1,h2⟩
  ·exact .inl ⟨j,y,h1,(Nr h1).1 ho⟩
  ·exact .inr ⟨i,z,h1,h2,(Xv h1 h2).1 ho⟩
 refine⟨r.bm (.bwd (oK ids id) (js ids xs)),tL (oK ids id) (js ids xs) d,val,β2,hq,rfl,?_,?_⟩
 ·rw[Tq];exact LV.dp tN (fun e1=>(hnr e1).1) zT
 rw[Tq];refine⟨fun i z hi=>?_,fun i k x y b hi hk h1 h2=>?_,kH,fun i z b hi ho=>?_,h'.os,h'.output,h'.size,fun b hb aek=>?_,fun pm v t l hr=>?_,fun pm v t l b hr hb=>?_⟩
 ·rcases qs hi with⟨j,y,h1,rfl,rfl⟩|⟨h1,h2⟩
  ·exact cV.tI tN (fun e1=>nO.nr e1 _ _ h1) (fun _=>lr _ _ (nO.live _ _ h1)) (fun _ _=>lr _ _ (nO.live _ _ h1)) (h'.items j y h1)
  ·exact(hh.items i z h1).of kH (nP _ _ (bX h1) h2) (nP _ _ (bX h1) h2) fun b ho=>Hs (tO h1 h2 ho).1 (tO h1 h2 ho).2
 ·rcases qs hi with⟨j,y',a1,rfl,rfl⟩|⟨a1,a2⟩<;>rcases qs hk with⟨j2,y2,b1,rfl,rfl⟩|⟨b1,b2⟩
  ·rw[h'.inj j j2 y' y2 b a1 b1 ((Nr a1).1 h1) ((Nr b1).1 h2)]
  ·have k1:=tO b1 b2 ((Xv b1 b2).1 h2);rcases Ht a1 ((Nr a1).1 h1)with k2|k2
   ·omega
   ·exact absurd k2 k1.2
  ·have k1:=tO a1 a2 ((Xv a1 a2).1 h1);rcases Ht b1 ((Nr b1).1 h2)with k2|k2
   ·omega
   ·exact absurd k2 k1.2
  ·exact hh.inj i k x y b a1 b1 ((Xv a1 a2).1 h1) ((Xv b1 b2).1 h2)
 ·rcases qs hi with⟨j,y,a1,rfl,rfl⟩|⟨a1,a2⟩
  ·refine(h'.own _ _ _ a1 ((Nr a1).1 ho)).imp (fun h=>h) fun⟨y2,k1,k2⟩=>?_;obtain⟨i',x',e1,e2,_,rfl⟩:=iK hR k1;rw[oT e1];exact⟨x',e2,(bx.bm (hcb e1) (hch e1)).1 k2⟩
  ·exact .inr ⟨z,a1,(Xv a1 a2).1 ho⟩
 ·exact Hs hb fun⟨k,x,k1,k2,_⟩=>aek ⟨k,x,k1,k2⟩
 ·have Q8:∀ {b},(b<w'.heap.size∧¬dh ML βr b)→(∀i x,hp[i]? =some (some x)→eO ids i=none→¬bx β x i b)→b<w'.heap.size∧¬dh hp2 β2 b:=by
   rintro b ⟨h1,h2⟩ h3
   refine⟨h1,fun k=>?_⟩;rcases Cx k with k|⟨i,x,k1,k2,k3⟩
   ·exact h2 k
   ·exact h3 i x k1 k2 k3
  have Yt:∀ {pm v t l b},(pm=true∨lent=false)→βr.rd pm v t l→inBlock v b→∀i x,hp[i]? =some (some x)→eO ids i=none→¬bx β x i b:=by
   intro pm v t l b zO hr hb i x hi wz ho;have dE:=(hh.items i x hi).lt ho;rcases h'.from_ pm v t l b hr hb with k|⟨gu,v',t',l',k0,k1,k2⟩
   ·omega
   ·have k1':β.rd gu v' t' l':=by
     subst tM
     cases gu with
     |true=>exact k1
     |false=>
      rcases zO with zO|zO
      ·cases k0 zO
      ·rcases k1 with k1|⟨k1,_⟩
       ·exact k1
       ·rw[zO]at k1;cases k1
    exact(hh.reads _ _ _ _ k1').2 b k2 |>.2 ⟨i,x,hi,ho⟩
  have Ts:∀ {pm v t l},β.rd pm v t l→bg β2 pm w' v t l∧∀b,inBlock v b→b<w'.heap.size∧¬dh hp2 β2 b:=by
   intro pm v t l hr;obtain⟨h1,h2⟩:=hh.reads _ _ _ _ hr;refine⟨(h1.of fun b hb dE=>Hs dE fun⟨k,x,k1,k2,_⟩=>(h2 b hb).2 ⟨k,x,k1,k2⟩).mono Ys,fun b hb=>?_⟩;refine⟨Nat.lt_of_lt_of_le (h2 b hb).1 h'.size,fun k=>?_⟩;rcases Cx k with⟨j,y,k1,k2⟩|⟨i,x,k1,k2,k3⟩
   ·rcases Ht k1 k2 with k3|⟨i,x,k3,k4,_⟩
    ·have:=(h2 b hb).1;omega
    ·exact(h2 b hb).2 ⟨i,x,k3,k4⟩
   ·exact(h2 b hb).2 ⟨i,x,k1,k3⟩
  cases pm with
  |true=>
   obtain⟨h1,h2⟩:=h'.reads true v t l hr;refine⟨?_,fun b hb=>Q8 (h2 b hb) (Yt (.inl rfl) hr hb)⟩;obtain⟨a,n,c,rfl,hn,hc,hz,hrr⟩:=h1;refine⟨a,n,c,rfl,hn,hc,hz,fun h0=>?_⟩;obtain⟨a0,cz,rfl,k1,k2,k3⟩:=hrr h0;exact⟨a0,cz,rfl,k1,k2.imp fun _ _=>t.fc tN.Tn,k3⟩
  |false=>
   have jw:(if lent=true then β.rd false v t l else βr.rd false v t l):=hr
   split at jw
   ·exact Ts jw
   ·rename_i zw;have Tt:lent=false:=(by simpa using zw);obtain⟨h1,h2⟩:=h'.reads false v t l jw;refine⟨h1.mono fun pm v t l hr=>?_,fun b hb=>Q8 (h2 b hb) (Yt (.inr Tt) jw hb)⟩
    cases pm with
    |true=>exact hr
    |false=>show(if lent=true then _ else _:Prop);rw[if_neg zw];exact hr
 ·have Q9:∀ {gu v' t' l'},βc.rd gu v' t' l'→(gu=true∨lent=false)→β.rd gu v' t' l':=by
   intro gu v' t' l' k1 zO;subst tM
   cases gu with
   |true=>exact k1
   |false=>
    rcases k1 with k1|⟨k1,_⟩
    ·exact k1
    ·rcases zO with zO|zO
     ·cases zO
     ·rw[zO]at k1;cases k1
  cases pm with
  |true=>
   rcases h'.from_ true v t l b hr hb with k|⟨gu,v',t',l',k0,k1,k2⟩
   ·exact .inl k
   ·exact .inr ⟨gu,v',t',l',k0,Q9 k1 (.inl (k0 rfl)),k2⟩
  |false=>
   have jw:(if lent=true then β.rd false v t l else βr.rd false v t l):=hr
   split at jw
   ·exact .inr ⟨false,v,t,l,(fun h=>h),jw,hb⟩
   ·rename_i zw;have Tt:lent=false:=(by simpa using zw);rcases h'.from_ false v t l b jw hb with k|⟨gu,v',t',l',k0,k1,k2⟩
    ·exact .inl k
    ·exact .inr ⟨gu,v',t',l',k0,Q9 k1 (.inr Tt),k2⟩
def look(f:FuncId):List (FuncId×al)→Option al
 | []=>none
 |(g,e)::l=>if g=f then some e else look f l
def Cy(tab:List (FuncId×al)):qb:=⟨fun f id args=>match look f tab with
 |some e=>Cw e id args
 |none=>.ret .fail⟩
theorem Cz{P:Program}:∀ {tab:List (FuncId×al)} {f:FuncId} {e:al},(∀p∈tab,p.2.Ok P p.1)→look f tab=some e→e.Ok P f
 | [],_,_,_,h=>by cases h
 |(g,e')::l,f,e,hp,h=>by
  simp only[look]at h
  split at h
  ·rename_i hg;subst hg;obtain rfl:=Option.some.inj h;exact hp (g,e') (by simp)
  ·exact Cz (fun p hm=>hp p (List.mem_cons_of_mem _ hm)) h
theorem Hu{P:Program}{tab:List (FuncId×al)}(h:∀p∈tab,p.2.Ok P p.1):MP P (Cy tab):=by
 refine⟨fun f id args hp hf Q hq W ag β₀ β w vals hh cq=>?_⟩;simp only[Cy]at hf hq
 split at hq
 ·rename_i e he;rw[he]at hf;have kI:=Cz h he;refine(Ho kI hf hq hh.self cq).mono ?_
  rintro en w' ⟨v,d,val,β',h1,h2,h3,h4⟩
  exact⟨v,d,val,β',h1,h2,h3,hh.trans h4,h4.first⟩
 ·exact hq.elim
end Go.Ev
end
