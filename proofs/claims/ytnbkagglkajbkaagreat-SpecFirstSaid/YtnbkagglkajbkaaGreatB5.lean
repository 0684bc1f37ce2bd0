/- What the laws lean on, part 5: a reader of code, plain facts, and what each function gives; no conditions. -/
import Derived.Test.YtnbkagglkajbkaaGreatB4
set_option linter.unusedVariables false
set_option linter.unusedSimpArgs false
noncomputable section
namespace Go.Ev
open Go
open Go.IntKind (bits i64 signed u16 u64 wrap)
def jn:List Nat→Nat→Option Nat
 | [],_=>none
 |x::l,i=>if x=i then some 0 else(jn l i).map (· +1)
theorem gT:∀ {l:List Nat} {i j:Nat},jn l i=some j→l[j]? =some i
 | [],_,_,h=>by cases h
 |x::l,i,j,h=>by
  simp only[jn]at h
  split at h
  ·rename_i e;subst e;simp at h;subst h;rfl
  ·obtain⟨k,hk,rfl⟩:=map_some h;simpa using gT hk
theorem zQ:∀ {l:List Nat} {i:Nat},i∈l→∃j,jn l i=some j
 |x::l,i,h=>by
  simp only[jn]
  split
  ·exact⟨0,rfl⟩
  ·rename_i gv;obtain⟨j,hj⟩:=zQ (l:=l) (i:=i) (by simpa [Ne.symm gv]using h);exact⟨j+1,by rw[hj];rfl⟩
theorem kj:∀ {l:List Nat} {j i:Nat},l.Nodup→l[j]? =some i→jn l i=some j
 | [],_,_,_,h=>by simp at h
 |x::l,0,i,_,h=>by simp at h;subst h;simp[jn]
 |x::l,j+1,i,hn,h=>by
  simp at h;have hi:i∈l:=List.mem_of_getElem? h;have gv:x≠i:=fun e=>by subst e;exact(List.nodup_cons.1 hn).1 hi
  simp only[jn,if_neg gv,kj (List.nodup_cons.1 hn).2 h];rfl
theorem C5{l:List Nat}{i:Nat}(h:jn l i=none):i∉l:=fun hm=>by
 obtain⟨j,hj⟩:=zQ hm;rw[hj]at h;cases h
structure tF where
 f:Nat→Option Nat
 o:Nat→Nat→Option Nat
def SV.bX(f:tF):SV→SV
 | .ptr b o=>match f.f b with|some j=>.ptr j o|none=>.b8
 | .vX b base st n z=>match f.f b with|some j=>.vX j base st n z|none=>.b8
 | .slice b o l c=>match f.f b with|some j=>.slice j o l c|none=>.b8
 | .sl i v=>match f.f i with|some j=>(match f.o i v with|some u=>.sl j u|none=>.b8)|none=>.b8
 | .vw i v w z n=>match f.f i with|some j=>(match f.o i v with|some u=>.vw j u w z n|none=>.b8)|none=>.b8
 | .vb b o t m z n=>match f.f b with|some j=>.vb j o t m z n|none=>.b8
 | .ep s w z g=>.ep (s.bX f) w z g
 |s=>s
def VV.bX(f:tF):VV→VV
 | .sc s=>.sc (s.bX f)
 | .agg l=>.agg (l.map (SV.bX f))
def LV.bX(f:tF):LV→LV
 | .one x=>.one (x.bX f)
 | .cT l=>.cT (l.map (VV.bX f))
 | .b8=>.b8
def Item.bX(f:tF)(u:Nat→Nat):Item→Item
 | .bm cells e=>.bm (cells.map (SV.bX f)) e
 | .own v t l=>.own (u v) t l
 | .gone v=>.gone (u v)
def SV.refs:SV→List Nat
 | .ptr b _| .vX b _ _ _ _| .slice b _ _ _| .sl b _| .vw b _ _ _ _| .vb b _ _ _ _ _=> [b]
 | .ep s _ _ _=>s.refs
 |_=> []
def VV.refs:VV→List Nat
 | .sc s=>s.refs
 | .agg l=>l.flatMap SV.refs
def LV.refs:LV→List Nat
 | .one x=>x.refs
 | .cT l=>l.flatMap VV.refs
 | .b8=> []
def Item.refs:Item→List Nat
 | .bm cells _=>cells.flatMap SV.refs
 |_=> []
def SV.nr:SV→Bool
 | .rd pm _ _ _=>pm
 | .ep s _ _ _=>s.nr
 |_=>true
def VV.nr:VV→Bool
 | .sc s=>s.nr
 | .agg l=>l.all SV.nr
def LV.nr:LV→Bool
 | .one x=>x.nr
 | .cT l=>l.all VV.nr
 | .b8=>true
def Item.nr:Item→Bool
 | .bm cells _=>cells.all SV.nr
 |_=>true
def Kd.up(u:Nat→Nat):Kd→Kd
 | .bm=>.bm
 | .own c=>.own (u c)
theorem Item.km(f:tF)(u:Nat→Nat)(x:Item):(x.bX f u).kd=x.kd.up u:=by cases x<;>rfl
structure wi (f:tF) (β β':Env) (L L':Nat→Option Kd) (nr:Bool):Prop where
 bm:∀b j,f.f b=some j→L b=some .bm→L' j=some .bm∧β'.b j=β.b b
 own:∀i j c,f.f i=some j→L i=some (.own c)→∃c',L' j=some (.own c')∧β'.h j=β.h i∧∀v v',v≤c→f.o i v=some v'→v'≤c'∧(v'=c'→v=c)
 rdt:∀v t l,β.rd true v t l→β'.rd true v t l
 rdf:nr=false→∀v t l,β.rd false v t l→β'.rd false v t l
noncomputable section
variable {f:tF} {β β':Env} {L L':Nat→Option Kd} {nr:Bool}
theorem xY.EH(h:wi f β β' L L' nr){pm:Bool}{v:Value}{t:Ty}{l:List t.D}(hn:nr=true→pm=true)(hr:xY β pm v t l):xY β' pm v t l:=by
 rcases hr with hr|⟨rfl,hr⟩|hr
 ·exact .inl (h.rdt _ _ _ hr)
 ·cases nr with
  |true=>exact absurd (hn rfl) (by simp)
  |false=>exact .inr (.inl ⟨rfl,h.rdf rfl _ _ _ hr⟩)
 ·exact .inr (.inr hr)
theorem Ty.jH(h:∀v t l,β.rd true v t l→β'.rd true v t l):∀ (t:Ty) {x:t.D} {vs:List Value},t.has β true x vs→t.has β' true x vs
 | .int _,_,_,h=>h
 | .bool,_,_,h=>h
 | .vW,_,_,h=>h
 | .str,_,_,h=>h
 | .sl _,_,_,⟨v,h1,h2,h3⟩=>⟨v,h1,h2,by
  rcases h3 with h3|⟨h3,_⟩|h3
  ·exact .inl (h _ _ _ h3)
  ·cases h3
  ·exact .inr (.inr h3)⟩
 | .pair a b,_,_,⟨u,w,h0,h1,h2⟩=>⟨u,w,h0,a.jH h h1,b.jH h h2⟩
 | .arr t _,_,_,⟨h1,h2⟩=>⟨h1,h2.imp fun _ _=>t.jH h⟩
theorem SV.gg(h:wi f β β' L L' nr):∀ {s:SV} {v:Value},(nr=true→s.nr=true)→s.den β L v→(s.bX f).den β' L' v
 | .int _ _,_,_,hd=>hd
 | .bool _,_,_,hd=>hd
 | .vW _,_,_,hd=>hd
 | .str _,_,_,hd=>hd
 | .g9 _,_,_,hd=>hd
 | .b8,_,_,hd=>hd
 | .arr _ _ _,_,_,hd=>hd.elim
 | .rd _ _ _ _,_,hn,⟨h1,h2,h3⟩=>⟨h1,h2,h3.EH h hn⟩
 | .ptr b o,v,_,hd=>by
  simp only[SV.bX]
  split
  ·rename_i j hj;obtain⟨k1,k2⟩:=h.bm b j hj hd.1;exact⟨k1,by rw[k2];exact hd.2⟩
  ·exact SV.bw hd
 | .vX b base st n z,v,_,hd=>by
  simp only[SV.bX]
  split
  ·rename_i j hj;obtain⟨k1,k2⟩:=h.bm b j hj hd.1;exact⟨k1,hd.2.1,by rw[k2];exact hd.2.2⟩
  ·exact SV.bw hd
 | .slice b o l c,v,_,hd=>by
  simp only[SV.bX]
  split
  ·rename_i j hj;obtain⟨k1,k2⟩:=h.bm b j hj hd.1;exact⟨k1,by rw[k2];exact hd.2⟩
  ·exact SV.bw hd
 | .sl i ver,v,_,hd=>by
  simp only[SV.bX]
  split
  ·rename_i j hj
   split
   ·rename_i u hu;obtain⟨h1,c,h2,h3,h4⟩:=hd;obtain⟨c',k1,k2,k3⟩:=h.own i j c hj h2;obtain⟨k4,k5⟩:=k3 ver u h3 hu;exact⟨h1,c',k1,k4,fun e=>by rw[k2];exact h4 (k5 e)⟩
   ·exact SV.bw hd
  ·exact SV.bw hd
 | .vw i ver w z n,v,_,hd=>by
  simp only[SV.bX]
  split
  ·rename_i j hj
   split
   ·rename_i u hu;obtain⟨h1,c,h2,h3,h4⟩:=hd;obtain⟨c',k1,k2,k3⟩:=h.own i j c hj h2;obtain⟨k4,k5⟩:=k3 ver u h3 hu;exact⟨h1,c',k1,k4,fun e=>by rw[k2];exact h4 (k5 e)⟩
   ·exact SV.bw hd
  ·exact SV.bw hd
 | .vb b o t m z n,v,_,hd=>by
  simp only[SV.bX]
  split
  ·rename_i j hj;obtain⟨h1,h2⟩:=hd;obtain⟨k1,k2⟩:=h.bm b j hj h1;exact⟨k1,by rw[k2];exact h2⟩
  ·exact SV.bw hd
 | .ep s w z g,v,hn,⟨a,n,c,h1,h2⟩=>⟨a,n,c,SV.gg h hn h1,h2⟩
theorem aY.EH(h:wi f β β' L L' nr){l:List SV}{vs:List Value}(hn:nr=true→l.all SV.nr=true)(hd:aY β L l vs):aY β' L' (l.map (SV.bX f)) vs:=by
 induction l generalizing vs with
 |nil=>cases hd;exact aQ.nil
 |cons s l ih=>
  have hn1:nr=true→s.nr=true:=fun e=>by have:=hn e;simp only[List.all_cons,Bool.and_eq_true]at this;exact this.1
  have hn2:nr=true→l.all SV.nr=true:=fun e=>by have:=hn e;simp only[List.all_cons,Bool.and_eq_true]at this;exact this.2
  cases hd with
  |cons h1 h2=>
   refine aQ.cons ?_ (ih hn2 h2)
   cases s with
   |arr t n x=>exact⟨h1.1,h1.2.imp fun _ _=>t.jH h.rdt⟩
   |_=>
    obtain⟨v,rfl,h3⟩:=h1;exact SV.s7 (SV.gg h hn1 h3)
theorem VV.gg(h:wi f β β' L L' nr){s:VV}{v:Value}(hn:nr=true→s.nr=true)(hd:s.den β L v):(s.bX f).den β' L' v:=by
 cases s with
 |sc s=>exact SV.gg h hn hd
 |agg l=>obtain⟨cs,rfl,hd⟩:=hd;exact⟨cs,rfl,aY.EH h hn hd⟩
theorem LV.gg(h:wi f β β' L L' nr){s:LV}{v:Value}(hn:nr=true→s.nr=true)(hd:s.den β L v):(s.bX f).den β' L' v:=by
 cases s with
 |one x=>exact VV.gg h hn hd
 |cT l=>
  obtain⟨vs,rfl,hd⟩:=hd;refine⟨vs,rfl,?_⟩;simp only[LV.nr]at hn
  induction hd with
  |nil=>exact .nil
  |cons h1 h2 ih=>
   exact .cons (VV.gg h (fun e=>by have:=hn e;simp only[List.all_cons,Bool.and_eq_true]at this;exact this.1) h1) (ih fun e=>by have:=hn e;simp only[List.all_cons,Bool.and_eq_true]at this;exact this.2)
 |b8=>trivial
theorem ff.EH(h:wi f β β' L L' nr){w:World}{i j:Nat}{x:Item}{u:Nat→Nat}(hn:nr=true→x.nr=true)(hb:x.kd= .bm→β'.b j=β.b i)(hh:∀c,x.kd= .own c→β'.h j=β.h i)(hd:ff β L w i x):ff β' L' w j (x.bX f u):=by
 cases x with
 |bm cells e=>
  obtain⟨c,fz,h1,h2,h3⟩:=hd;exact⟨c,fz,by rw[hb rfl];exact h1,h2,aY.EH h hn h3⟩
 |own ver t l=>
  show dt β' w (β'.h j) t l;rw[hh ver rfl];obtain⟨a,n,c,e,h1,h2,h3,h4⟩:=(hd:dt β w (β.h i) t l);refine⟨a,n,c,e,h1,h2,h3,fun h0=>?_⟩;obtain⟨a0,pre,fC,rest,elem,fz,k0,k1,k2,k3,k4,k5⟩:=h4 h0;exact⟨a0,pre,fC,rest,elem,fz,k0,k1,k2,k3,k4.imp fun _ _=>t.jH h.rdt,k5⟩
 |gone v=>trivial
end
def SV.cur(vb:Nat→Nat):SV→Bool
 | .sl i v| .vw i v _ _ _=>v==vb i
 | .ep s _ _ _=>s.cur vb
 |_=>true
def Item.cur(vb:Nat→Nat):Item→Bool
 | .bm cells _=>cells.all (SV.cur vb)
 |_=>true
def tF.fwd(f:Nat→Option Nat)(vb:Nat→Nat):tF:=⟨f,fun i v=>if v=vb i then some 0 else none⟩
def tF.bwd(g:Nat→Nat)(vb:Nat→Nat):tF:=⟨fun j=>some (g j),fun j v=>some (v+vb (g j))⟩
theorem C6{f:Nat→Option Nat}{g vb:Nat→Nat}:∀ {s:SV},s.cur vb=true→(∀r∈s.refs,∃j,f r=some j∧g j=r)→(s.bX (.fwd f vb)).bX (.bwd g vb)=s
 | .ptr b o,_,h=>by obtain⟨j,h1,h2⟩:=h b (by simp[SV.refs]);simp only[SV.bX,tF.fwd,tF.bwd,h1,h2]
 | .vX b base st n z,_,h=>by obtain⟨j,h1,h2⟩:=h b (by simp[SV.refs]);simp only[SV.bX,tF.fwd,tF.bwd,h1,h2]
 | .slice b o l c,_,h=>by obtain⟨j,h1,h2⟩:=h b (by simp[SV.refs]);simp only[SV.bX,tF.fwd,tF.bwd,h1,h2]
 | .sl b v,hc,h=>by
  obtain⟨j,h1,h2⟩:=h b (by simp[SV.refs]);have e:v=vb b:=by simpa [SV.cur]using hc
  subst e;simp[SV.bX,tF.fwd,tF.bwd,h1,h2]
 | .vw b v w z n,hc,h=>by
  obtain⟨j,h1,h2⟩:=h b (by simp[SV.refs]);have e:v=vb b:=by simpa [SV.cur]using hc
  subst e;simp[SV.bX,tF.fwd,tF.bwd,h1,h2]
 | .vb b o t m z n,_,h=>by obtain⟨j,h1,h2⟩:=h b (by simp[SV.refs]);simp only[SV.bX,tF.fwd,tF.bwd,h1,h2]
 | .ep s w z g',hc,h=>by simp only[SV.bX];rw[C6 (s:=s) hc h]
 | .int _ _,_,_| .bool _,_,_| .vW _,_,_| .str _,_,_| .g9 _,_,_| .b8,_,_| .arr _ _ _,_,_| .rd _ _ _ _,_,_=>rfl
def Item.ver:Item→Nat
 | .bm _ _=>0
 | .own v _ _| .gone v=>v
theorem UF{f:Nat→Option Nat}{g vb:Nat→Nat}{x:Item}{i:Nat}(hc:x.cur vb=true)(hv:vb i=x.ver)(h:∀r∈x.refs,∃j,f r=some j∧g j=r):(x.bX (.fwd f vb) fun _=>0).bX (.bwd g vb) (· +vb i)=x:=by
 cases x with
 |bm cells e=>
  have hm:(cells.map (SV.bX (.fwd f vb))).map (SV.bX (.bwd g vb))=cells:=by
   rw[List.map_map];simp only[Item.cur,List.all_eq_true]at hc;have:=List.map_congr_left (l:=cells) (f:=SV.bX (.bwd g vb)∘SV.bX (.fwd f vb)) (g:=id) fun s hs=>C6 (hc s hs) fun r hr=>h r (by simp only[Item.refs,List.mem_flatMap];exact⟨s,hs,hr⟩);rw[this,List.map_id]
  simp only[Item.bX,hm]
 |own v t l=>simp only[Item.bX,Nat.zero_add,hv,Item.ver]
 |gone v=>simp only[Item.bX,Nat.zero_add,hv,Item.ver]
theorem SV.Rk{f:tF}:∀ {s:SV},s.nr=true→(s.bX f).nr=true
 | .ptr b o,_=>by simp only[SV.bX];split<;>rfl
 | .vX ..,_=>by simp only[SV.bX];split<;>rfl
 | .slice ..,_=>by simp only[SV.bX];split<;>rfl
 | .sl ..,_=>by simp only[SV.bX];split<;>(try split)<;>rfl
 | .vw ..,_=>by simp only[SV.bX];split<;>(try split)<;>rfl
 | .vb ..,_=>by simp only[SV.bX];split<;>rfl
 | .ep s w z g,h=>SV.Rk (s:=s) h
 | .int _ _,h| .bool _,h| .vW _,h| .str _,h| .g9 _,h| .b8,h| .arr _ _ _,h| .rd _ _ _ _,h=>h
def r8:Nat→List Nat→List Nat→List Item→Ask (Option (List Nat×List Item))
 |0,_,_,_=>.ret none
 |_+1,[],acc,MK=>.ret (some (acc,MK))
 |n+1,i::todo,acc,MK=>if i∈acc then r8 n todo acc MK else
   .get i fun x=>match x with
    |some x=>r8 n (x.refs++todo) (acc++ [i]) (MK++ [x])
    |none=>.ret none
structure Reached (hp:Hp) (roots acc:List Nat) (MK:List Item) (todo:List Nat):Prop where
 nodup:acc.Nodup
 len:acc.length=MK.length
 at_:∀ (j:Nat) (i:Nat) (x:Item),acc[j]? =some i→MK[j]? =some x→bq hp i=some x
 refs:∀x∈MK,∀r∈x.refs,r∈acc∨r∈todo
 root:∀r∈roots,r∈acc∨r∈todo
theorem zR{hp:Hp}{roots:List Nat}:∀ (n:Nat) (todo acc:List Nat) (MK:List Item) {ids:List Nat} {xs:List Item},Reached hp roots acc MK todo→(r8 n todo acc MK).val hp=some (ids,xs)→Reached hp roots ids xs []
 |0,_,_,_,_,_,_,h=>by cases h
 |n+1,[],acc,MK,_,_,hr,h=>by
  simp only[r8,Ask.val]at h
  cases h
  exact hr
 |n+1,i::todo,acc,MK,ids,xs,hr,h=>by
  simp only[r8]at h
  split at h
  ·rename_i hm;have hm':i∈acc:=hm;refine zR n todo acc MK ⟨hr.nodup,hr.len,hr.at_,fun x hx r qE=>?_,fun r qE=>?_⟩ h
   ·rcases hr.refs x hx r qE with h1|h1
    ·exact .inl h1
    ·rcases List.mem_cons.1 h1 with rfl|h1
     ·exact .inl hm'
     ·exact .inr h1
   ·rcases hr.root r qE with h1|h1
    ·exact .inl h1
    ·rcases List.mem_cons.1 h1 with rfl|h1
     ·exact .inl hm'
     ·exact .inr h1
  ·rename_i hm;have hm':i∉acc:=hm;simp only[Ask.val]at h
   split at h
   ·rename_i x hx;refine zR n (x.refs++todo) (acc++ [i]) (MK++ [x]) ⟨?_,by simp[hr.len],?_,?_,?_⟩ h
    ·rw[List.nodup_append];refine⟨hr.nodup,by simp,fun a ha b hb=>?_⟩;simp at hb;subst hb;exact fun e=>hm' (e▸ha)
    ·intro j i' x' h1 h2
     by_cases hj:j<acc.length
     ·rw[List.getElem?_append_left hj]at h1;rw[List.getElem?_append_left (by rw[← hr.len];exact hj)]at h2;exact hr.at_ j i' x' h1 h2
     ·rw[List.getElem?_append_right (by omega)]at h1;rw[List.getElem?_append_right (by rw[← hr.len];omega),← hr.len]at h2
      have hj0:j-acc.length=0:=by
       have:=(List.getElem?_eq_some_iff.1 h1).1;simpa using this
      rw[hj0]at h1 h2;simp at h1 h2;subst h1 h2;exact hx
    ·intro y hy r qE;rcases List.mem_append.1 hy with hy|hy
     ·rcases hr.refs y hy r qE with h1|h1
      ·exact .inl (by simp[h1])
      ·rcases List.mem_cons.1 h1 with rfl|h1
       ·exact .inl (by simp)
       ·exact .inr (by simp[h1])
     ·simp at hy;subst hy;exact .inr (by simp[qE])
    ·intro r qE;rcases hr.root r qE with h1|h1
     ·exact .inl (by simp[h1])
     ·rcases List.mem_cons.1 h1 with rfl|h1
      ·exact .inl (by simp)
      ·exact .inr (by simp[h1])
   ·simp[Ask.val]at h
noncomputable section
variable {W:World} {ai:Hp} {β₀ β:Env} {hp:Hp} {w:World}
theorem EI{h:Value}{t:Ty}{l:List t.D}(hk:dt β w h t l){b:Nat}(hb:inBlock h b):∃a n c,h= .slice (some a) n c∧0<c∧a.block=b:=by
 obtain⟨a,n,c,rfl,h1,h2,h3,_⟩:=hk
 cases a with
 |none=>exact hb.elim
 |some a=>exact⟨a,n,c,rfl,by have:=hb.1;omega,hb.2⟩
theorem agx{h v:Value}{k:Nat}{z n:Int}(hs:xw h k z n v){b:Nat}(hb:inBlock v b):inBlock h b:=by
 obtain⟨a,m,c,a',c',rfl,z0,n0,hle,rfl,rW,_,ha⟩:=hs
 cases a' with
 |none=>exact hb.elim
 |some a2=>
  have h0:=hb.1;obtain⟨a0,rfl,e⟩:=ha (by omega);simp at e;subst e;exact⟨by omega,by have:=hb.2;rwa [dI]at this⟩
theorem ML(h:a9 W ai β₀ β hp w){t:Ty}{s:SV}{pm:Bool}{l:List t.D}{v:Value}(hc:(jl t s).val hp=some (pm,l))(hd:s.den β (kd hp) v){b:Nat}(hb:inBlock v b):
  (b<w.heap.size∧¬fW hp β b)∨∃i x,hp[i]? =some (some x)∧cd β x i b∧i∈s.refs:=by
 unfold jl at hc
 split at hc
 ·exact .inl ((h.amg hd.2.2).2 b hb)
 ·obtain⟨_,rfl⟩:=hd;exact hb.elim
 ·rename_i i ver;simp only[Ask.val]at hc
  split at hc
  ·rename_i ver' t' l' hi
   split at hc
   ·split at hc
    ·rename_i e;subst e;obtain⟨_,hd⟩:=hd;obtain⟨h1,rfl⟩:=h.o6 (p:=fun x=>v=x) (aw hi) hd;exact .inr ⟨i,_,aw hi,EI h1 hb,by simp[SV.refs]⟩
    ·cases hc
   ·cases hc
  ·cases hc
 ·rename_i i ver w' z n;simp only[Ask.val]at hc
  split at hc
  ·rename_i ver' t' l' hi
   split at hc
   ·split at hc
    ·rename_i e;obtain⟨rfl,rfl⟩:=e;obtain⟨_,hd⟩:=hd;obtain⟨h1,h2⟩:=h.o6 (p:=fun x=>xw x _ z n v) (aw hi) hd;exact .inr ⟨i,_,aw hi,EI h1 (agx h2 hb),by simp[SV.refs]⟩
    ·cases hc
   ·cases hc
  ·cases hc
 ·rename_i b' o t' m z n;simp only[Ask.val]at hc
  split at hc
  ·rename_i cells elem hi;obtain⟨_,z0,n0,zn,a',c',rfl,rW,_,ha⟩:=hd;refine .inr ⟨b',_,aw hi,?_,by simp[SV.refs]⟩;show b=β.b b'
   cases a' with
   |none=>exact hb.elim
   |some a'=>
    have h0:=hb.1;have e:=ha (by omega);simp at e;subst e;rw[← hb.2,dI]
  ·cases hc
 ·rename_i b' o len cap;simp only[Ask.val]at hc
  split at hc
  ·rename_i cells elem hi;obtain⟨_,rfl⟩:=hd;exact .inr ⟨b',_,aw hi,hb.2.symm,by simp[SV.refs]⟩
  ·cases hc
 ·simp[Ask.val]at hc
def YI(β:Env)(own:Nat→Prop)(w:World)(v:Value)(t:Ty)(l:List t.D):Prop:=bQ β false w v t l∧∀b,inBlock v b→b<w.heap.size∧¬own b
def Env.Iv(β:Env)(own:Nat→Prop)(w:World):Env:=⟨β.b,β.h,fun pm v t l=>match pm with
 |true=>β.rd true v t l
 |false=>YI β own w v t l⟩
def Iw(β:Env)(own:Nat→Prop)(w:World)(v:Value)(t:Ty)(l:List t.D):Prop:=bQ (β.Iv own w) false w v t l∧∀b,inBlock v b→b<w.heap.size∧¬own b
def Env.can(β:Env)(own:Nat→Prop)(w:World)(lent:Bool)(ids:List Nat):Env:=⟨fun j=>β.b (ids.getD j 0),fun j=>β.h (ids.getD j 0),fun pm v t l=>match pm with
 |true=>β.rd true v t l
 |false=>β.rd false v t l∨(lent=true∧Iw β own w v t l)⟩
theorem a9.Iv(h:a9 W ai β₀ β hp w){own:Nat→Prop}(ho:∀b,own b→fW hp β b):∀pm v t l,β.rd pm v t l→(β.Iv own w).rd pm v t l:=by
 intro pm v t l hr
 cases pm with
 |true=>exact hr
 |false=>
  obtain⟨h1,h2⟩:=h.reads _ _ _ _ hr;exact⟨h1,fun b hb=>⟨(h2 b hb).1,fun k=>(h2 b hb).2 (ho b k)⟩⟩
theorem a9.YJ(h:a9 W ai β₀ β hp w){own:Nat→Prop}(ho:∀b,own b→fW hp β b){v:Value}{t:Ty}{l:List t.D}(hl:YI β own w v t l):Iw β own w v t l:=
 ⟨hl.1.mono (h.Iv ho),hl.2⟩
def Ix(t:Ty)(s:SV):Ask (Option (List t.D)):=(jl t s).map (·.map (·.2))
theorem Iy(h:a9 W ai β₀ β hp w){t:Ty}{s:SV}{l:List t.D}{v:Value}(hc:(Ix t s).val hp=some l)(hd:s.den β (kd hp) v){own:Nat→Prop}
  (ho:∀b,own b→∃i x,hp[i]? =some (some x)∧cd β x i b∧i∉s.refs):YI β own w v t l:=by
 unfold Ix at hc;rw[Ask.cM]at hc;obtain⟨⟨pm,l'⟩,hc1,he⟩:=map_some hc;clear hc
 cases he
 have hc:=hc1;have h1:=mJ h hc hd
 have h2:bQ β false w v t l':=by
  cases pm with
  |true=>exact h1.Un
  |false=>exact h1
 refine⟨h2,fun b hb=>?_⟩;rcases ML h hc hd hb with⟨h3,h4⟩|⟨i,x,h3,h4,h5⟩
 ·refine⟨h3,fun k=>?_⟩;obtain⟨i,x,k1,k2,_⟩:=ho b k;exact h4 ⟨i,x,k1,k2⟩
 ·refine⟨(h.items i x h3).lt h4,fun k=>?_⟩;obtain⟨j,y,k1,k2,k3⟩:=ho b k;have:=h.inj i j x y b h3 k1 h4 k2;subst this;exact k3 h5
def Iz(t:Ty):List SV→Ask (Option (List (List t.D)))
 | []=>.ret (some [])
 |s::r=>(Ix t s).bind fun x=>match x with
  |some l=>(Iz t r).map (·.map (l:: ·))
  |none=>.ret none
theorem IA(h:a9 W ai β₀ β hp w){t:Ty}{own:Nat→Prop}:∀ {row:List SV} {ls:List (List t.D)} {vs:List Value},(Iz t row).val hp=some ls→aY β (kd hp) row vs→
  (∀b,own b→∃i x,hp[i]? =some (some x)∧cd β x i b∧i∉row.flatMap SV.refs)→aQ ((Ty.sl t).has (β.Iv own w) false) ls vs
 | [],ls,vs,hc,hd,_=>by
  simp[Iz,Ask.val]at hc;subst hc
  cases hd;exact .nil
 |s::row,ls,_,hc,.cons (vs:=us) h1 h2,ho=>by
  simp only[Iz]at hc;rw[Ask.dZ]at hc
  split at hc
  ·rename_i l hl;rw[Ask.cM]at hc;obtain⟨ls',rW,rfl⟩:=map_some hc
   have hs:∀t n l,s≠ .arr t n l:=by
    intro t' n l' e;subst e;simp[Ix,jl,Ask.val,Ask.map,Ask.bind]at hl
   obtain⟨v,rfl,hv⟩:=SV.jf h1 hs;refine .cons ⟨v,rfl,SV.bw hv,.inr (.inl ⟨rfl,?_⟩)⟩ (IA h rW h2 fun b hb=>?_)
   ·exact Iy h hl hv fun b hb=>by
     obtain⟨i,x,k1,k2,k3⟩:=ho b hb;exact⟨i,x,k1,k2,fun hm=>k3 (by simp[hm])⟩
   ·obtain⟨i,x,k1,k2,k3⟩:=ho b hb;exact⟨i,x,k1,k2,fun hm=>k3 (by rw[List.flatMap_cons];exact List.mem_append_right _ hm)⟩
  ·simp[Ask.val]at hc
def agy(t:Ty)(s:SV):Ask (Option (SV×List Nat)):=
 match t,s with
 | .sl t',.slice b o len cap=>.get b fun x=>match x with
  |some (.bm cells _)=>match(if len≤cap then Uo cells o len else none)with
   |some row=>(Iz t' row).map (·.map fun ls=>(.rd false false (.sl t') ls,b::row.flatMap SV.refs))
   |none=>.ret none
  |_=>.ret none
 |t,s=>(Ix t s).map (·.map fun l=>(.rd false false t l,s.refs))
theorem Rl(h:a9 W ai β₀ β hp w){t:Ty}{s s':SV}{lids:List Nat}{v:Value}(hc:(agy t s).val hp=some (s',lids))(hd:s.den β (kd hp) v){own:Nat→Prop}
  (ho:∀b,own b→∃i x,hp[i]? =some (some x)∧cd β x i b∧i∉lids):∃l,s'= .rd false false t l∧Iw β own w v t l:=by
 have l8:∀b,own b→fW hp β b:=fun b hb=>let ⟨i,x,h1,h2,_⟩:=ho b hb;⟨i,x,h1,h2⟩;unfold agy at hc
 split at hc
 ·rename_i t' b o len cap;simp only[Ask.val]at hc
  split at hc
  ·rename_i cells elem hi
   split at hc
   ·rename_i row gI;rw[Ask.cM]at hc;obtain⟨ls,hl,he⟩:=map_some hc
    cases he
    split at gI
    ·rename_i hlc;obtain⟨_,rfl⟩:=hd;obtain⟨cs,fz,h1,h2,h3⟩:=h.items _ _ (aw hi);obtain⟨pre,mid,post,rfl,e1,e2,h4⟩:=qv gI h3
     have h5:=IA h hl h4 (own:=own) fun b hb=>by
      obtain⟨i,x,k1,k2,k3⟩:=ho b hb;exact⟨i,x,k1,k2,fun hm=>k3 (List.mem_cons_of_mem _ hm)⟩
     have hlen:mid.length=ls.length:=(by rw[bc h5];simp[Ty.w]);subst e1;refine⟨ls,rfl,⟨_,_,_,rfl,by omega,hlc,(fun e=>by cases e),fun _=>⟨_,mid,rfl,rfl,h5,eD h1⟩⟩,fun b' j5=>?_⟩;have eb:b'=β.b b:=j5.2.symm;subst eb;refine⟨(Array.getElem?_eq_some_iff.1 h1).1,fun k=>?_⟩;obtain⟨i,x,k1,k2,k3⟩:=ho _ k;have:=h.inj i b x _ _ k1 (aw hi) k2 rfl;subst this;exact k3 (by simp)
    ·cases gI
   ·simp[Ask.val]at hc
  ·simp[Ask.val]at hc
 ·rw[Ask.cM]at hc;obtain⟨l,hl,he⟩:=map_some hc
  cases he
  exact⟨l,rfl,h.YJ l8 (Iy h hl hd ho)⟩
def auC:SV→Bool
 | .sl _ _| .slice _ _ _ _| .rd _ _ _ _| .vw _ _ _ _ _| .vb _ _ _ _ _ _=>true
 | .g9 (.slice none 0 0)=>true
 |_=>false
def jI(t:Ty):List SV→Ask (List SV×List Nat)
 | []=>.ret ([],[])
 |s::r=>if auC s=true then(agy t s).bind fun y=>match y with
   |some (s',b1)=>(jI t r).map fun(l,b)=>(s'::l,b1++b)
   |none=>(jI t r).map fun(l,b)=>(s::l,b)
  else(jI t r).map fun(l,b)=>(s::l,b)
theorem zS(h:a9 W ai β₀ β hp w){f:tF}{βc:Env}{L':Nat→Option Kd}(Uv:wi f β βc (kd hp) L' false){own:Nat→Prop}{t:Ty}(hl:∀v l,Iw β own w v t l→βc.rd false v t l):
  ∀ {l l':List SV} {lids:List Nat} {vs:List Value},(jI t l).val hp=(l',lids)→aY β (kd hp) l vs→
   (∀b,own b→∃i x,hp[i]? =some (some x)∧cd β x i b∧i∉lids)→aY βc L' (l'.map (SV.bX f)) vs
 | [],l',lids,_,hc,hd,_=>by
  cases hd
  have rW:(([]:List SV),([]:List Nat))=(l',lids):=hc
  cases rW
  exact .nil
 |s::r,l',lids,_,hc,.cons (vs:=vs) h1 h2,ho=>by
  have same:∀ {l':List SV} {lids:List Nat},((jI t r).map fun(l,b)=>(s::l,b)).val hp=(l',lids)→(∀b,own b→∃i x,hp[i]? =some (some x)∧cd β x i b∧i∉lids)→aY βc L' (l'.map (SV.bX f)) (vs++_):=fun {l' lids} hc ho=>by
   rw[Ask.cM]at hc;have e1:l'=s::((jI t r).val hp).1:=(congrArg Prod.fst hc).symm;have e2:lids=((jI t r).val hp).2:=(congrArg Prod.snd hc).symm;subst e1;rw[e2]at ho;have ih:=zS h Uv hl (l:=r) (l':=((jI t r).val hp).1) (lids:=((jI t r).val hp).2) rfl h2 ho;have hs:aY βc L' ([s].map (SV.bX f)) (vs++ []):=aY.EH Uv (by simp) (aQ.cons h1 aQ.nil);rw[List.append_nil]at hs;exact hs.append ih
  simp only[jI]at hc
  split at hc
  ·rename_i j3;rw[Ask.dZ]at hc
   split at hc
   ·rename_i s' b1 hs;rw[Ask.cM]at hc;have e1:l'=s'::((jI t r).val hp).1:=(congrArg Prod.fst hc).symm;have e2:lids=b1++((jI t r).val hp).2:=(congrArg Prod.snd hc).symm;subst e1;rw[e2]at ho;have hna:∀t n l,s≠ .arr t n l:=fun _ _ _ e=>(by subst e;cases j3);obtain⟨v,rfl,hv⟩:=SV.jf h1 hna
    obtain⟨l2,rfl,h3⟩:=Rl h hs hv (own:=own) fun b hb=>by
     obtain⟨i,x,k1,k2,k3⟩:=ho b hb;exact⟨i,x,k1,k2,fun hm=>k3 (List.mem_append_left _ hm)⟩
    refine .cons (vs:= [v]) ⟨v,rfl,SV.bw hv,(fun e=>by cases e),.inr (.inl ⟨rfl,hl _ _ h3⟩)⟩ (zS h Uv hl (l:=r) (l':=((jI t r).val hp).1) (lids:=((jI t r).val hp).2) rfl h2 fun b hb=>?_);obtain⟨i,x,k1,k2,k3⟩:=ho b hb;exact⟨i,x,k1,k2,fun hm=>k3 (List.mem_append_right _ hm)⟩
   ·exact same hc ho
  ·exact same hc ho
def fE:List (Option Ty)→List LV→Ask (Option (List LV×List Nat))
 |_,[]=>.ret (some ([],[]))
 | [],x::xs=>(fE [] xs).map (·.map fun(l,b)=>(x::l,b))
 |none::ts,x::xs=>(fE ts xs).map (·.map fun(l,b)=>(x::l,b))
 |some t::ts,.one (.sc s)::xs=>(agy t s).bind fun y=>match y with
  |some (s',b1)=>(fE ts xs).map (·.map fun(l,b)=>(.one (.sc s')::l,b1++b))
  |none=>.ret none
 |some t::ts,.one (.agg l)::xs=>(jI t l).bind fun y=>(fE ts xs).map (·.map fun(r,b)=>(.one (.agg y.1)::r,y.2++b))
 |some _::_,_=>.ret none
theorem jJ(h:a9 W ai β₀ β hp w){f:tF}{βc:Env}{L':Nat→Option Kd}(Uv:wi f β βc (kd hp) L' false){own:Nat→Prop}:
  ∀ {ts:List (Option Ty)} {xs cs:List LV} {lids:List Nat} {vs:List Value},(fE ts xs).val hp=some (cs,lids)→bP (LV.den β (kd hp)) xs vs→
   (∀t,some t∈ts→∀v l,Iw β own w v t l→βc.rd false v t l)→
   (∀b,own b→∃i x,hp[i]? =some (some x)∧cd β x i b∧i∉lids)→bP (LV.den βc L') (cs.map (LV.bX f)) vs
 |ts,[],cs,lids,_,hc,hd,_,_=>by
  cases hd
  have rW:some (([]:List LV),([]:List Nat))=some (cs,lids):=by
   cases ts with
   |nil=>exact hc
   |cons a b=>cases a<;>exact hc
  cases rW
  exact .nil
 | [],x::xs,_,_,_,hc,.cons h1 h2,hl,ho=>by
  simp only[fE]at hc;rw[Ask.cM]at hc;obtain⟨⟨l,b⟩,rW,he⟩:=map_some hc
  cases he
  exact .cons (LV.gg Uv (by simp) h1) (jJ h Uv rW h2 hl ho)
 |none::ts,x::xs,_,_,_,hc,.cons h1 h2,hl,ho=>by
  simp only[fE]at hc;rw[Ask.cM]at hc;obtain⟨⟨l,b⟩,rW,he⟩:=map_some hc
  cases he
  exact .cons (LV.gg Uv (by simp) h1) (jJ h Uv rW h2 (fun t ht=>hl t (List.mem_cons_of_mem _ ht)) ho)
 |some t::ts,x::xs,_,_,_,hc,.cons h1 h2,hl,ho=>by
  cases x with
  |one x=>
   cases x with
   |sc s=>
    simp only[fE]at hc;rw[Ask.dZ]at hc
    split at hc
    ·rename_i s' b1 hs;rw[Ask.cM]at hc;obtain⟨⟨l,b⟩,rW,he⟩:=map_some hc
     cases he
     obtain⟨l',rfl,h3⟩:=Rl h hs h1 (own:=own) fun b hb=>by
      obtain⟨i,x,k1,k2,k3⟩:=ho b hb;exact⟨i,x,k1,k2,fun hm=>k3 (List.mem_append_left _ hm)⟩
     refine .cons ⟨SV.bw h1,(fun e=>by cases e),.inr (.inl ⟨rfl,hl t (by simp) _ _ h3⟩)⟩ (jJ h Uv rW h2 (fun t ht=>hl t (List.mem_cons_of_mem _ ht)) fun b hb=>?_);obtain⟨i,x,k1,k2,k3⟩:=ho b hb;exact⟨i,x,k1,k2,fun hm=>k3 (List.mem_append_right _ hm)⟩
    ·simp[Ask.val]at hc
   |agg l=>
    simp only[fE]at hc;rw[Ask.dZ,Ask.cM]at hc;obtain⟨⟨l',b⟩,rW,he⟩:=map_some hc
    cases he
    obtain⟨cells,rfl,h3⟩:=h1;refine .cons ⟨cells,rfl,zS h Uv (fun v l h=>hl t (by simp) v l h) (l:=l) (l':=((jI t l).val hp).1) (lids:=((jI t l).val hp).2) rfl h3 fun b hb=>?_⟩ (jJ h Uv rW h2 (fun t ht=>hl t (List.mem_cons_of_mem _ ht)) fun b hb=>?_)
    ·obtain⟨i,x,k1,k2,k3⟩:=ho b hb;exact⟨i,x,k1,k2,fun hm=>k3 (List.mem_append_left _ hm)⟩
    ·obtain⟨i,x,k1,k2,k3⟩:=ho b hb;exact⟨i,x,k1,k2,fun hm=>k3 (List.mem_append_right _ hm)⟩
  |cT l=>simp[fE,Ask.val]at hc
  |b8=>simp[fE,Ask.val]at hc
theorem cd.bX{f:tF}{u:Nat→Nat}{β β':Env}{x:Item}{i j b:Nat}(hb:β'.b j=β.b i)(hh:β'.h j=β.h i):cd β' (x.bX f u) j b↔cd β x i b:=by
 cases x<;>simp only[Item.bX,cd,hb,hh]
def oH(ids:List Nat)(xs:List Item)(i:Nat):Nat:=match jn ids i with
 |some j=>match xs[j]? with
  |some x=>x.ver
  |none=>0
 |none=>0
abbrev xK(ids:List Nat)(xs:List Item):tF:=.fwd (jn ids) (oH ids xs)
def iE(ids:List Nat)(xs:List Item):Hp:=xs.map fun x=>some (x.bX (xK ids xs) fun _=>0)
theorem nE{roots ids:List Nat}{xs:List Item}(hr:Reached hp roots ids xs []){j:Nat}{y:Item}(h:(iE ids xs)[j]? =some (some y)):∃i x,ids[j]? =some i∧hp[i]? =some (some x)∧xs[j]? =some x∧y=x.bX (xK ids xs) fun _=>0:=by
 unfold iE at h;rw[List.getElem?_map]at h;obtain⟨x,hx,he⟩:=map_some h;simp at he;subst he;have hj:j<ids.length:=by rw[hr.len];exact(List.getElem?_eq_some_iff.1 hx).1
 have hi:ids[j]? =some ids[j]:=List.getElem?_eq_getElem hj;exact⟨_,x,hi,aw (hr.at_ _ _ _ hi hx),hx,rfl⟩
theorem wj{roots ids:List Nat}{xs:List Item}(hr:Reached hp roots ids xs []){i j:Nat}(h:ids[j]? =some i):∃x,hp[i]? =some (some x)∧xs[j]? =some x∧(iE ids xs)[j]? =some (some (x.bX (xK ids xs) fun _=>0)):=by
 have hj:j<xs.length:=by rw[← hr.len];exact(List.getElem?_eq_some_iff.1 h).1
 have hx:xs[j]? =some xs[j]:=List.getElem?_eq_getElem hj;refine⟨_,aw (hr.at_ _ _ _ h hx),hx,?_⟩;unfold iE;rw[List.getElem?_map,hx];rfl
theorem EJ{roots ids:List Nat}{xs:List Item}(hr:Reached hp roots ids xs []){i j:Nat}(h:ids[j]? =some i){x:Item}(hx:hp[i]? =some (some x)):oH ids xs i=x.ver:=by
 obtain⟨y,h1,h2,_⟩:=wj hr h;rw[hx]at h1;cases h1;simp only[oH,kj hr.nodup h,h2]
def mR(hp:Hp)(β:Env)(ids:List Nat)(b:Nat):Prop:=∃i x,hp[i]? =some (some x)∧cd β x i b∧i∈ids
theorem gz{l:List Nat}{j i:Nat}(h:l[j]? =some i):l.getD j 0=i:=by rw[List.getD_eq_getElem?_getD,h];rfl
theorem qH{roots ids:List Nat}{xs:List Item}(hr:Reached hp roots ids xs []){own:Nat→Prop}{lent:Bool}{b:Nat}(h:fW (iE ids xs) (β.can own w lent ids) b):mR hp β ids b:=by
 obtain⟨j,y,hj,ho⟩:=h;obtain⟨i,x,h1,h2,_,rfl⟩:=nE hr hj;refine⟨i,x,h2,?_,List.mem_of_getElem? h1⟩;exact(cd.bX (by show β.b _=_;rw[gz h1]) (by show β.h _=_;rw[gz h1])).1 ho
theorem IB{roots ids:List Nat}{xs:List Item}(hr:Reached hp roots ids xs []){own:Nat→Prop}{lent:Bool}:wi (xK ids xs) β (β.can own w lent ids) (kd hp) (kd (iE ids xs)) false:=by
 refine⟨fun b j hj hb=>?_,fun i j c hj hi=>?_,fun v t l h=>h,fun _ v t l h=>.inl h⟩
 ·have h1:=gT hj;obtain⟨x,h2,h3,h4⟩:=wj hr h1;refine⟨?_,by show β.b _=_;rw[gz h1]⟩;rw[dq h2]at hb;rw[dq h4,Item.km,Option.some.inj hb];rfl
 ·have h1:=gT hj;obtain⟨x,h2,h3,h4⟩:=wj hr h1;rw[dq h2]at hi;have hk:=Option.some.inj hi;refine⟨0,?_,by show β.h _=_;rw[gz h1],fun v v' _ hv=>?_⟩
  ·rw[dq h4,Item.km,hk];rfl
  ·have Uy:(if v=oH ids xs i then some 0 else none)=some v':=hv
   split at Uy
   ·rename_i e
    cases Uy
    refine⟨Nat.le_refl _,fun _=>?_⟩;rw[e,EJ hr h1 h2]
    cases x with
    |bm _ _=>cases hk
    |own _ _ _=>cases hk;rfl
    |gone _=>cases hk;rfl
   ·cases Uy
theorem agz(h:a9 W ai β₀ β hp w){roots ids:List Nat}{xs:List Item}(hr:Reached hp roots ids xs []){lent:Bool}:
  a9 w (iE ids xs) (β.can (mR hp β ids) w lent ids) (β.can (mR hp β ids) w lent ids) (iE ids xs) w:=by
 have l8:∀b,mR hp β ids b→fW hp β b:=fun b ⟨i,x,h1,h2,_⟩=>⟨i,x,h1,h2⟩;refine⟨fun j y hj=>?_,fun j k y z b hj hk h1 h2=>?_,bM.refl _ _,fun i x b hi ho=>.inr ⟨x,hi,ho⟩,rfl,rfl,Nat.le_refl _,fun _ _ _=>rfl,fun pm v t l oP=>?_,fun pm v t l b h1 h2=>.inr ⟨pm,v,t,l,id,h1,h2⟩⟩
 ·obtain⟨i,x,h1,h2,_,rfl⟩:=nE hr hj;refine ff.EH (IB hr) (by simp) (fun _=>?_) (fun _ _=>?_) (h.items i x h2)
  ·show β.b _=_;rw[gz h1]
  ·show β.h _=_;rw[gz h1]
 ·obtain⟨i1,x1,a1,a2,_,rfl⟩:=nE hr hj;obtain⟨i2,x2,b1,b2,_,rfl⟩:=nE hr hk;have e:=h.inj i1 i2 x1 x2 b a2 b2 ((cd.bX (by show β.b _=_;rw[gz a1]) (by show β.h _=_;rw[gz a1])).1 h1) ((cd.bX (by show β.b _=_;rw[gz b1]) (by show β.h _=_;rw[gz b1])).1 h2);subst e;have e1:=kj hr.nodup a1;have e2:=kj hr.nodup b1;rw[e1]at e2;exact Option.some.inj e2
 ·have aql:∀pm v t l,β.rd pm v t l→(β.can (mR hp β ids) w lent ids).rd pm v t l:=by
   intro pm v t l hr
   cases pm with
   |true=>exact hr
   |false=>exact .inl hr
  have hold:∀pm v t l,β.rd pm v t l→bQ (β.can (mR hp β ids) w lent ids) pm w v t l∧∀b,inBlock v b→b<w.heap.size∧¬fW (iE ids xs) (β.can (mR hp β ids) w lent ids) b:=by
   intro pm v t l oP;obtain⟨h1,h2⟩:=h.reads _ _ _ _ oP;exact⟨h1.mono aql,fun b hb=>⟨(h2 b hb).1,fun k=>(h2 b hb).2 (l8 b (qH hr k))⟩⟩
  cases pm with
  |true=>exact hold true v t l oP
  |false=>
   rcases oP with oP|⟨hl,h1,h2⟩
   ·exact hold false v t l oP
   ·refine⟨h1.mono fun pm v t l hr=>?_,fun b hb=>⟨(h2 b hb).1,fun k=>(h2 b hb).2 (qH hr k)⟩⟩
    cases pm with
    |true=>exact hr
    |false=>exact .inr ⟨hl,h.YJ l8 hr⟩
end
abbrev Item.bk(g vb:Nat→Nat)(j:Nat)(x:Item):Item:=x.bX (.bwd g vb) (· +vb (g j))
def EK(g vb:Nat→Nat)(d:List (Nat×Item)):List (Nat×Item):=d.map fun(j,x)=>(g j,x.bk g vb j)
theorem IC{g vb:Nat→Nat}{d:List (Nat×Item)}{i:Nat}{y:Item}:(i,y)∈EK g vb d↔∃j x,(j,x)∈d∧i=g j∧y=x.bk g vb j:=by
 unfold EK;rw[List.mem_map];constructor
 ·rintro⟨⟨j,x⟩,h,e⟩
  simp at e;exact⟨j,x,h,e.1.symm,e.2.symm⟩
 ·rintro⟨j,x,h,rfl,rfl⟩
  exact⟨(j,x),h,rfl⟩
structure Mir (g vb:Nat→Nat) (J U:Nat→Prop) (lent:Bool) (HZ hpc hp:Hp):Prop where
 live:∀ (j:Nat) (y:Item),hpc[j]? =some (some y)→J j
 fwd:∀ (j:Nat) (y:Item),hpc[j]? =some (some y)→hp[g j]? =some (some (y.bk g vb j))
 bwd:∀ (i:Nat) (x:Item),hp[i]? =some (some x)→(∃ (j:Nat) (y:Item),hpc[j]? =some (some y)∧g j=i)∨(HZ[i]? =some (some x)∧U i)
 nr:lent=true→∀ (j:Nat) (y:Item),hpc[j]? =some (some y)→y.nr=true
theorem C7{g vb:Nat→Nat}{J U:Nat→Prop}{lent:Bool}{HZ:Hp}(UG:∀j k,J j→J k→g j=g k→j=k):
  ∀ (d:List (Nat×Item)) {hpc hp:Hp},(∀j x,(j,x)∈d→J j)→(lent=true→d.all (fun p=>p.2.nr)=true)→Mir g vb J U lent HZ hpc hp→Mir g vb J U lent HZ (aF d hpc) (aF (EK g vb d) hp)
 | [],_,_,_,_,h=>h
 |(j,x)::d,hpc,hp,hJ,hn,h=>by
  refine C7 UG d (hpc:=setAt hpc j x) (hp:=setAt hp (g j) (x.bk g vb j)) (fun j' x' hm=>hJ j' x' (List.mem_cons_of_mem _ hm)) (fun e=>by have:=hn e;simp only[List.all_cons,Bool.and_eq_true]at this;exact this.2) ?_;have hj:J j:=hJ j x (by simp);refine⟨fun k y hk=>?_,fun k y hk=>?_,fun i z hi=>?_,fun e k y hk=>?_⟩
  ·by_cases hkj:k=j
   ·exact hkj▸hj
   ·exact h.live k y ((cq hpc j x k y hkj).1 hk)
  ·by_cases hkj:k=j
   ·subst hkj;rw[dw]at hk;simp at hk;subst hk;exact dw _ _ _
   ·have l9:=(cq hpc j x k y hkj).1 hk;have gv:g k≠g j:=fun e=>hkj (UG k j (h.live k y l9) hj e);exact(cq hp (g j) _ (g k) _ gv).2 (h.fwd k y l9)
  ·by_cases hij:i=g j
   ·subst hij;exact .inl ⟨j,x,dw _ _ _,rfl⟩
   ·rcases h.bwd i z ((cq hp (g j) _ i z hij).1 hi)with⟨k,y,hk,e⟩|k
    ·refine .inl ⟨k,y,(cq hpc j x k y fun e'=>hij ?_).2 hk,e⟩;rw[← e,e']
    ·exact .inr k
  ·by_cases hkj:k=j
   ·subst hkj;rw[dw]at hk;simp at hk;subst hk;have:=hn e;simp only[List.all_cons,Bool.and_eq_true]at this;exact this.1
   ·exact h.nr e k y ((cq hpc j x k y hkj).1 hk)
structure ar where
 tys:List (Option Ty)
 run:List LV→Hp→Out
def YK(P:Program)(f:FuncId)(args:List LV)(hp:Hp)(R:LV→Hp→Prop):Prop:=
 ∀ (β:Env) (w:World) (vals:List Value),a9 w hp β β hp w→bP (LV.den β (kd hp)) args vals→
  Ux P f vals.toArray w fun e w'=>∃val β' r eK,e= .returned val∧R r eK∧r.den β' (kd eK) val∧a9 w hp β β' eK w'
theorem iD.done{P:Program}{f:FuncId}(he:wh P f){args:List LV}{hp:Hp}{R:LV→Hp→Prop}(h:iD P f args hp R):YK P f args hp R:=
 fun β w vals hh ha=>.inr ⟨he,h β w vals hh ha⟩
structure ar.Ok (P:Program) (f:FuncId) (e:ar):Prop where
 calls:∀args hp Q,(e.run args hp).holds Q→YK P f args hp fun v eK=>∃d,Q v d∧eK=aF d hp
def Out.back(g vb:Nat→Nat)(lent:Bool):Out→Out
 | .leaf q v d=>if lent=true∧(v.nr&&d.all fun p=>p.2.nr)=false then .fail else .leaf q (v.bX (.bwd g vb)) (EK g vb d)
 | .ite b x y=>.ite b (x.back g vb lent) (y.back g vb lent)
 | .fail=>.fail
theorem r9{g vb:Nat→Nat}{lent:Bool}{id:Nat}{hp:Hp}{Q:LV→List (Nat×Item)→Prop}:∀ {o:Out},(o.back g vb lent).fresh id hp→(o.back g vb lent).holds Q→
  o.holds fun v d=>(lent=true→v.nr=true∧(d.all fun p=>p.2.nr)=true)∧Rg id hp (EK g vb d)∧Q (v.bX (.bwd g vb)) (EK g vb d)
 | .leaf q v d,hf,h=>by
  simp only[Out.back]at hf h
  split at h
  ·exact h.elim
  ·rename_i hc;rw[if_neg hc]at hf;refine⟨h.1,fun e=>?_,hf,h.2⟩
   have:(v.nr&&d.all fun p=>p.2.nr)=true:=by
    cases hx:(v.nr&&d.all fun p=>p.2.nr)with
    |true=>rfl
    |false=>exact absurd ⟨e,hx⟩ hc
   simpa using this
 | .ite b x y,hf,h=>⟨fun e=>r9 hf.1 (h.1 e),fun e=>r9 hf.2 (h.2 e)⟩
 | .fail,_,h=>h
def xL(ids:List Nat)(id:Nat)(j:Nat):Nat:=match ids[j]? with
 |some i=>i
 |none=>id+(j-ids.length)
def Rm(e:ar)(id:Nat)(args:List LV):Ask Out:=
 (fE e.tys args).bind fun x=>match x with
 |none=>.ret .fail
 |some (ID,lids)=>(r8 1000 (ID.flatMap LV.refs) [] []).bind fun y=>match y with
  |none=>.ret .fail
  |some (ids,xs)=>
   if lids.any (fun i=>decide (i∈ids))=true∨(e.tys.any (·.isSome)=true∧xs.all Item.nr=false)then .ret .fail
   else if xs.all (Item.cur (oH ids xs))=false then .ret .fail
   else .ret ((e.run (ID.map (LV.bX (xK ids xs))) (iE ids xs)).back (xL ids id) (oH ids xs) (e.tys.any (·.isSome)))
noncomputable section
variable {α:Type}
def sa(hp:Hp)(ids:List Nat)(id:Nat)(F F0:Nat→α)(i:Nat):α:=match jn ids i with
 |some j=>F j
 |none=>if kd hp i=none∧id≤i then F (ids.length+(i-id))else F0 i
end
theorem YL{P:Program}{f:FuncId}{e:ar}(he:e.Ok P f){id:Nat}{args:List LV}{hp:Hp}(hf:((Rm e id args).val hp).fresh id hp){Q:LV→List (Nat×Item)→Prop}(h:((Rm e id args).val hp).holds Q)
  {β:Env} {w:World} {vals:List Value} (hh:a9 w hp β β hp w) (dM:bP (LV.den β (kd hp)) args vals):
  Ux P f vals.toArray w fun e w'=>∃v d val β',Q v d∧e= .returned val∧v.den β' (kd (aF d hp)) val∧a9 w hp β β' (aF d hp) w':=by
 unfold Rm at h hf;rw[Ask.dZ]at h hf
 split at h
 ·exact h.elim
 rename_i ID lids hl;rw[hl]at hf;simp only at hf;rw[Ask.dZ]at h hf
 split at h
 ·exact h.elim
 rename_i ids xs YM;rw[YM]at hf;simp only at hf
 split at h
 ·exact h.elim
 rename_i tm;rw[if_neg tm]at hf
 split at h
 ·exact h.elim
 rename_i hcu;rw[if_neg hcu]at hf;have auF:xs.all (Item.cur (oH ids xs))=true:=by simpa using hcu
 simp only[Ask.val]at h hf;have MC:∀i∈lids,i∉ids:=fun i hi hm=>tm (.inl (by rw[List.any_eq_true];exact⟨i,hi,by simpa using hm⟩))
 have auG:e.tys.any (·.isSome)=true→xs.all Item.nr=true:=fun e1=>by
  cases hx:xs.all Item.nr with
  |true=>rfl
  |false=>exact absurd (.inr ⟨e1,hx⟩) tm
 have aqm:∀t,some t∈e.tys→e.tys.any (·.isSome)=true:=fun t ht=>by rw[List.any_eq_true];exact⟨_,ht,rfl⟩
 generalize e.tys.any (·.isSome)=lent at*;have hR:Reached hp (ID.flatMap LV.refs) ids xs []:=zR 1000 _ [] [] ⟨List.nodup_nil,rfl,fun _ _ _ h=>by simp at h,fun _ h=>by simp at h,fun r h=>.inr h⟩ YM;generalize EL:β.can (mR hp β ids) w lent ids=βc;have amF:a9 w (iE ids xs) βc βc (iE ids xs) w:=EL▸agz hh hR;have xM:wi (xK ids xs) β βc (kd hp) (kd (iE ids xs)) false:=EL▸IB hR;have hcb:∀ {j i},ids[j]? =some i→βc.b j=β.b i:=fun hj=>by subst EL;show β.b _=_;rw[gz hj]
 have hch:∀ {j i},ids[j]? =some i→βc.h j=β.h i:=fun hj=>by subst EL;show β.h _=_;rw[gz hj]
 have amG:bP (LV.den βc (kd (iE ids xs))) (ID.map (LV.bX (xK ids xs))) vals:=by
  refine jJ hh xM (own:=mR hp β ids) hl dM (fun t ht v l eV=>?_) fun b ⟨i,x,h1,h2,h3⟩=>⟨i,x,h1,h2,fun hm=>MC i hm h3⟩;subst EL;exact .inr ⟨aqm t ht,eV⟩
 refine(he.calls _ _ _ (r9 hf h) βc w vals amF amG).mono ?_
 rintro en w' ⟨val,βr,r,eK,rfl,⟨d,⟨hnr,amH,hq⟩,rfl⟩,My,h'⟩
 have x7:∀ {j i},ids[j]? =some i→xL ids id j=i:=fun hj=>by simp only[xL,hj]
 have IE:∀ {j:Nat},ids.length≤j→xL ids id j=id+(j-ids.length):=by
  intro j hj;have:ids[j]? =none:=List.getElem?_eq_none hj;simp only[xL,this]
 have hlen:(iE ids xs).length=ids.length:=by simp[iE,hR.len]
 have iY:∀ {j x},(j,x)∈d→ids.length≤j→kd hp (xL ids id j)=none:=fun hm hj=>amH _ _ (IC.2 ⟨_,_,hm,rfl,rfl⟩) (by rw[IE hj];omega)
 let J:Nat→Prop:=fun j=>j<ids.length∨∃x,(j,x)∈d
 let U:Nat→Prop:=fun i=>jn ids i=none
 have YN:∀ {j i},ids[j]? =some i→kd hp i≠none:=fun hj e=>by
  obtain⟨x,h1,_⟩:=wj hR hj;rw[dq h1]at e;cases e
 have UG:∀j k,J j→J k→xL ids id j=xL ids id k→j=k:=by
  intro j k hj hk e
  by_cases h1:j<ids.length<;>by_cases h2:k<ids.length
  ·have e1:=List.getElem?_eq_getElem h1;have e2:=List.getElem?_eq_getElem h2;rw[x7 e1,x7 e2]at e;have k1:=kj hR.nodup e1;have k2:=kj hR.nodup e2;rw[e,k2]at k1;exact(Option.some.inj k1).symm
  ·have e1:=List.getElem?_eq_getElem h1;obtain⟨x,hx⟩:=hk.resolve_left h2;exact absurd (by rw[← x7 e1,e];exact iY hx (by omega)) (YN e1)
  ·have e2:=List.getElem?_eq_getElem h2;obtain⟨x,hx⟩:=hj.resolve_left h1;exact absurd (by rw[← x7 e2,← e];exact iY hx (by omega)) (YN e2)
  ·rw[IE (by omega),IE (by omega)]at e;omega
 have aqn:Mir (xL ids id) (oH ids xs) J U lent hp (iE ids xs) hp:=by
  refine⟨fun j y hj=>.inl ?_,fun j y hj=>?_,fun i x hi=>?_,fun e1 j y hj=>?_⟩
  ·rw[← hlen];exact(List.getElem?_eq_some_iff.1 hj).1
  ·obtain⟨i,x,h1,h2,h3,rfl⟩:=nE hR hj;have hvb:=EJ hR h1 h2;show hp[xL ids id j]? =some (some ((x.bX (xK ids xs) fun _=>0).bX (.bwd (xL ids id) (oH ids xs)) (· +oH ids xs (xL ids id j))));rw[x7 h1,UF (List.all_eq_true.1 auF x (List.mem_of_getElem? h3)) hvb fun r hr=>?_]
   ·exact h2
   ·have hm:=(hR.refs x (List.mem_of_getElem? h3) r hr).resolve_right (by simp);obtain⟨k,hk⟩:=zQ hm;exact⟨k,hk,x7 (gT hk)⟩
  ·cases iT:jn ids i with
   |none=>exact .inr ⟨hi,iT⟩
   |some j=>
    obtain⟨x',h1,h2,h3⟩:=wj hR (gT iT);exact .inl ⟨j,_,h3,x7 (gT iT)⟩
  ·obtain⟨i,x,h1,h2,h3,rfl⟩:=nE hR hj;have hx:=auG e1;rw[List.all_eq_true]at hx;have hx':=hx x (List.mem_of_getElem? h3)
   cases x with
   |bm cells el=>
    simp only[Item.bX,Item.nr,List.all_map]at hx' ⊢;rw[List.all_eq_true]at hx' ⊢;exact fun s hs=>SV.Rk (hx' s hs)
   |_=>rfl
 have wm:=C7 UG d (fun j x hm=>.inr ⟨x,hm⟩) (fun e1=>(hnr e1).2) aqn;generalize amI:aF (EK (xL ids id) (oH ids xs) d) hp=hp2 at*;generalize aF d (iE ids xs)=XS at*
 let β2:Env:=⟨sa hp ids id βr.b β.b,sa hp ids id βr.h β.h,fun pm v t l=>match pm with
  |true=>βr.rd true v t l
  |false=>if lent=true then β.rd false v t l else βr.rd false v t l⟩
 have sd:∀ {α:Type} (F F0:Nat→α) {j:Nat},J j→sa hp ids id F F0 (xL ids id j)=F j:=by
  intro α F F0 j hj
  by_cases h1:j<ids.length
  ·have e1:=List.getElem?_eq_getElem h1;simp only[sa,x7 e1,kj hR.nodup e1]
  ·obtain⟨x,hx⟩:=hj.resolve_left h1;have hn:=iY hx (by omega)
   have HZ:jn ids (xL ids id j)=none:=by
    cases hq:jn ids (xL ids id j)with
    |none=>rfl
    |some k=>exact absurd hn (YN (gT hq))
   simp only[sa,HZ];rw[if_pos ⟨hn,by rw[IE (by omega)];omega⟩,IE (by omega)]
   congr 1;omega
 have wo:∀ {α:Type} (F F0:Nat→α) {i:Nat} {k:Kd},kd hp i=some k→jn ids i=none→sa hp ids id F F0 i=F0 i:=by
  intro α F F0 i k hi HZ;simp only[sa,HZ];rw[if_neg (by rw[hi];simp)]
 have EM:wi (.bwd (xL ids id) (oH ids xs)) βr β2 (kd XS) (kd hp2) lent:=by
  refine⟨fun b j hj hb=>?_,fun i j c hj hi=>?_,fun v t l h=>h,fun e1 v t l h=>by show(if lent=true then _ else _:Prop);rw[if_neg (by simp[e1])];exact h⟩
  ·cases hj
   obtain⟨y,h1,h2⟩:=lF hb;exact⟨by rw[dq (wm.fwd _ _ h1),Item.km,h2];rfl,sd _ _ (wm.live _ _ h1)⟩
  ·cases hj
   obtain⟨y,h1,h2⟩:=lF hi;refine⟨c+oH ids xs (xL ids id i),by rw[dq (wm.fwd _ _ h1),Item.km,h2];rfl,sd _ _ (wm.live _ _ h1),fun v v' hv he=>?_⟩
   cases he
   exact⟨Nat.add_le_add_right hv _,fun e=>Nat.add_right_cancel e⟩
 have aqo:∀pm v t l,β.rd pm v t l→β2.rd pm v t l:=by
  intro pm v t l hr
  cases pm with
  |true=>exact h'.first.rd true v t l (xM.rdt _ _ _ hr)
  |false=>
   show(if lent=true then _ else _:Prop)
   split
   ·exact hr
   ·exact h'.first.rd false v t l (xM.rdf rfl _ _ _ hr)
 have EN:∀ {i x b},hp[i]? =some (some x)→jn ids i=none→cd β x i b→b<w.heap.size∧¬mR hp β ids b:=by
  intro i x b hi HZ ho;refine⟨(hh.items i x hi).lt ho,fun⟨k,y,h1,h2,h3⟩=>?_⟩;have:=hh.inj i k x y b hi h1 ho h2;subst this;exact C5 HZ h3
 have YO:∀ {b},b<w.heap.size→¬mR hp β ids b→w'.heap[b]? =w.heap[b]? :=fun hb hn=>h'.an _ hb fun k=>hn (qH hR (EL▸k))
 have akj:∀ {i x},hp[i]? =some (some x)→jn ids i=none→hp2[i]? =some (some x):=by
  intro i x hi HZ
  have:i∉(EK (xL ids id) (oH ids xs) d).map (·.1):=by
   intro hm;obtain⟨⟨i',z⟩,h1,h2⟩:=List.mem_map.1 hm;simp at h2;subst h2;obtain⟨j,y,h3,e1,e2⟩:=IC.1 h1
   by_cases hj:j<ids.length
   ·have k1:=List.getElem?_eq_getElem hj;have:=C5 HZ;exact this (by rw[e1,x7 k1];exact List.getElem_mem hj)
   ·have:=iY h3 (by omega);rw[← e1,dq hi]at this;cases this
  rw[← amI];exact aw (by rw[eE this];exact qu hi)
 have rC:bM β β2 (kd hp) (kd hp2):=by
  refine⟨fun i hi=>?_,fun i c hi=>?_,aqo⟩
  ·obtain⟨x,hx,hk⟩:=lF hi
   cases iT:jn ids i with
   |none=>exact⟨by rw[dq (akj hx iT),hk],wo _ _ hi iT⟩
   |some j=>
    have h1:=gT iT;obtain⟨k1,k2⟩:=xM.bm _ _ iT hi;obtain⟨k3,k4⟩:=h'.first.bm _ k1;obtain⟨k5,k6⟩:=EM.bm _ _ rfl k3;rw[x7 h1]at k5 k6;exact⟨k5,by rw[k6,k4,k2]⟩
  ·obtain⟨x,hx,hk⟩:=lF hi
   cases iT:jn ids i with
   |none=>exact⟨c,by rw[dq (akj hx iT),hk],Nat.le_refl _,fun _=>wo _ _ hi iT⟩
   |some j=>
    have h1:=gT iT;have hvb:=EJ hR h1 hx
    have hck:x.ver=c:=by
     cases x with
     |bm _ _=>cases hk
     |own _ _ _=>cases hk;rfl
     |gone _=>cases hk;rfl
    obtain⟨y,y1,_,y3⟩:=wj hR h1;rw[hx]at y1;cases y1;have k1:kd (iE ids xs) j=some (.own 0):=(by rw[dq y3,Item.km,hk];rfl);have k2:βc.h j=β.h i:=hch h1;obtain⟨c',k3,k4,k4'⟩:=h'.first.own _ _ k1;have hg:xL ids id j=i:=x7 h1;obtain⟨z,z1,z2⟩:=lF k3
    have k5:kd hp2 i=some (.own (c'+c)):=by
     have:=wm.fwd _ _ z1;rw[hg]at this;rw[dq this,Item.km,z2,hg,hvb,hck];rfl
    have k6:β2.h i=βr.h j:=(by rw[← hg];exact sd _ _ (wm.live _ _ z1));exact⟨c'+c,k5,by omega,fun e1=>by rw[k6,k4' (by omega),k2]⟩
 have hgo:∀ {j y b},XS[j]? =some (some y)→(cd β2 (y.bk (xL ids id) (oH ids xs) j) (xL ids id j) b↔cd βr y j b):=fun hj=>cd.bX (sd _ _ (wm.live _ _ hj)) (sd _ _ (wm.live _ _ hj));have huo:∀ {i x b},hp[i]? =some (some x)→jn ids i=none→(cd β2 x i b↔cd β x i b):=fun hi HZ=>cd.congr (wo _ _ (dq hi) HZ) (wo _ _ (dq hi) HZ);have YP:∀ {j y b},XS[j]? =some (some y)→cd βr y j b→w.heap.size≤b∨mR hp β ids b:=fun hj ho=>(h'.own _ _ _ hj ho).imp (fun h=>h) fun⟨y,k⟩=>qH (own:=mR hp β ids) (w:=w) (lent:=lent) hR (EL.symm▸⟨_,y,k⟩)
 have zT:∀ {i z},hp2[i]? =some (some z)→(∃j y,XS[j]? =some (some y)∧i=xL ids id j∧z=y.bk (xL ids id) (oH ids xs) j)∨(hp[i]? =some (some z)∧jn ids i=none):=by
  intro i z hi;rcases wm.bwd i z hi with⟨j,y,h1,h2⟩|h1
  ·have:=wm.fwd j y h1;rw[h2,hi]at this;exact .inl ⟨j,y,h1,h2.symm,by simpa using this⟩
  ·exact .inr h1
 have Rn:∀ {b},fW hp2 β2 b→fW XS βr b∨∃i x,hp[i]? =some (some x)∧jn ids i=none∧cd β x i b:=by
  rintro b ⟨i,z,hi,ho⟩
  rcases zT hi with⟨j,y,h1,rfl,rfl⟩|⟨h1,h2⟩
  ·exact .inl ⟨j,y,h1,(hgo h1).1 ho⟩
  ·exact .inr ⟨i,z,h1,h2,(huo h1 h2).1 ho⟩
 refine⟨r.bX (.bwd (xL ids id) (oH ids xs)),EK (xL ids id) (oH ids xs) d,val,β2,hq,rfl,?_,?_⟩
 ·rw[amI];exact LV.gg EM (fun e1=>(hnr e1).1) My
 rw[amI];refine⟨fun i z hi=>?_,fun i k x y b hi hk h1 h2=>?_,rC,fun i z b hi ho=>?_,h'.os,h'.output,h'.size,fun b hb auI=>?_,fun pm v t l hr=>?_,fun pm v t l b hr hb=>?_⟩
 ·rcases zT hi with⟨j,y,h1,rfl,rfl⟩|⟨h1,h2⟩
  ·exact ff.EH EM (fun e1=>wm.nr e1 _ _ h1) (fun _=>sd _ _ (wm.live _ _ h1)) (fun _ _=>sd _ _ (wm.live _ _ h1)) (h'.items j y h1)
  ·exact(hh.items i z h1).of rC (wo _ _ (dq h1) h2) (wo _ _ (dq h1) h2) fun b ho=>YO (EN h1 h2 ho).1 (EN h1 h2 ho).2
 ·rcases zT hi with⟨j,y',a1,rfl,rfl⟩|⟨a1,a2⟩<;>rcases zT hk with⟨j2,y2,b1,rfl,rfl⟩|⟨b1,b2⟩
  ·rw[h'.inj j j2 y' y2 b a1 b1 ((hgo a1).1 h1) ((hgo b1).1 h2)]
  ·have k1:=EN b1 b2 ((huo b1 b2).1 h2);rcases YP a1 ((hgo a1).1 h1)with k2|k2
   ·omega
   ·exact absurd k2 k1.2
  ·have k1:=EN a1 a2 ((huo a1 a2).1 h1);rcases YP b1 ((hgo b1).1 h2)with k2|k2
   ·omega
   ·exact absurd k2 k1.2
  ·exact hh.inj i k x y b a1 b1 ((huo a1 a2).1 h1) ((huo b1 b2).1 h2)
 ·rcases zT hi with⟨j,y,a1,rfl,rfl⟩|⟨a1,a2⟩
  ·refine(h'.own _ _ _ a1 ((hgo a1).1 ho)).imp (fun h=>h) fun⟨y2,k1,k2⟩=>?_;obtain⟨i',x',e1,e2,_,rfl⟩:=nE hR k1;rw[x7 e1];exact⟨x',e2,(cd.bX (hcb e1) (hch e1)).1 k2⟩
  ·exact .inr ⟨z,a1,(huo a1 a2).1 ho⟩
 ·exact YO hb fun⟨k,x,k1,k2,_⟩=>auI ⟨k,x,k1,k2⟩
 ·have akk:∀ {b},(b<w'.heap.size∧¬fW XS βr b)→(∀i x,hp[i]? =some (some x)→jn ids i=none→¬cd β x i b)→b<w'.heap.size∧¬fW hp2 β2 b:=by
   rintro b ⟨h1,h2⟩ h3
   refine⟨h1,fun k=>?_⟩;rcases Rn k with k|⟨i,x,k1,k2,k3⟩
   ·exact h2 k
   ·exact h3 i x k1 k2 k3
  have aqq:∀ {pm v t l b},(pm=true∨lent=false)→βr.rd pm v t l→inBlock v b→∀i x,hp[i]? =some (some x)→jn ids i=none→¬cd β x i b:=by
   intro pm v t l b Mt hr hb i x hi HZ ho;have eV:=(hh.items i x hi).lt ho;rcases h'.from_ pm v t l b hr hb with k|⟨lA,v',t',l',k0,k1,k2⟩
   ·omega
   ·have k1':β.rd lA v' t' l':=by
     subst EL
     cases lA with
     |true=>exact k1
     |false=>
      rcases Mt with Mt|Mt
      ·cases k0 Mt
      ·rcases k1 with k1|⟨k1,_⟩
       ·exact k1
       ·rw[Mt]at k1;cases k1
    exact(hh.reads _ _ _ _ k1').2 b k2 |>.2 ⟨i,x,hi,ho⟩
  have amJ:∀ {pm v t l},β.rd pm v t l→bQ β2 pm w' v t l∧∀b,inBlock v b→b<w'.heap.size∧¬fW hp2 β2 b:=by
   intro pm v t l hr;obtain⟨h1,h2⟩:=hh.reads _ _ _ _ hr;refine⟨(h1.of fun b hb eV=>YO eV fun⟨k,x,k1,k2,_⟩=>(h2 b hb).2 ⟨k,x,k1,k2⟩).mono aqo,fun b hb=>?_⟩;refine⟨Nat.lt_of_lt_of_le (h2 b hb).1 h'.size,fun k=>?_⟩;rcases Rn k with⟨j,y,k1,k2⟩|⟨i,x,k1,k2,k3⟩
   ·rcases YP k1 k2 with k3|⟨i,x,k3,k4,_⟩
    ·have:=(h2 b hb).1;omega
    ·exact(h2 b hb).2 ⟨i,x,k3,k4⟩
   ·exact(h2 b hb).2 ⟨i,x,k1,k3⟩
  cases pm with
  |true=>
   obtain⟨h1,h2⟩:=h'.reads true v t l hr;refine⟨?_,fun b hb=>akk (h2 b hb) (aqq (.inl rfl) hr hb)⟩;obtain⟨a,n,c,rfl,hn,hc,hz,hrr⟩:=h1;refine⟨a,n,c,rfl,hn,hc,hz,fun h0=>?_⟩;obtain⟨a0,fC,rfl,k1,k2,k3⟩:=hrr h0;exact⟨a0,fC,rfl,k1,k2.imp fun _ _=>t.jH EM.rdt,k3⟩
  |false=>
   have qE:(if lent=true then β.rd false v t l else βr.rd false v t l):=hr
   split at qE
   ·exact amJ qE
   ·rename_i Rd;have amK:lent=false:=(by simpa using Rd);obtain⟨h1,h2⟩:=h'.reads false v t l qE;refine⟨h1.mono fun pm v t l hr=>?_,fun b hb=>akk (h2 b hb) (aqq (.inr amK) qE hb)⟩
    cases pm with
    |true=>exact hr
    |false=>show(if lent=true then _ else _:Prop);rw[if_neg Rd];exact hr
 ·have akl:∀ {lA v' t' l'},βc.rd lA v' t' l'→(lA=true∨lent=false)→β.rd lA v' t' l':=by
   intro lA v' t' l' k1 Mt;subst EL
   cases lA with
   |true=>exact k1
   |false=>
    rcases k1 with k1|⟨k1,_⟩
    ·exact k1
    ·rcases Mt with Mt|Mt
     ·cases Mt
     ·rw[Mt]at k1;cases k1
  cases pm with
  |true=>
   rcases h'.from_ true v t l b hr hb with k|⟨lA,v',t',l',k0,k1,k2⟩
   ·exact .inl k
   ·exact .inr ⟨lA,v',t',l',k0,akl k1 (.inl (k0 rfl)),k2⟩
  |false=>
   have qE:(if lent=true then β.rd false v t l else βr.rd false v t l):=hr
   split at qE
   ·exact .inr ⟨false,v,t,l,(fun h=>h),qE,hb⟩
   ·rename_i Rd;have amK:lent=false:=(by simpa using Rd);rcases h'.from_ false v t l b qE hb with k|⟨lA,v',t',l',k0,k1,k2⟩
    ·exact .inl k
    ·exact .inr ⟨lA,v',t',l',k0,akl k1 (.inr amK),k2⟩
def look(f:FuncId):List (FuncId×ar)→Option ar
 | []=>none
 |(g,e)::l=>if g=f then some e else look f l
def Ro(tab:List (FuncId×ar)):zH:=⟨fun f id args=>match look f tab with
 |some e=>Rm e id args
 |none=>.ret .fail⟩
theorem Rp{P:Program}:∀ {tab:List (FuncId×ar)} {f:FuncId} {e:ar},(∀p∈tab,p.2.Ok P p.1)→look f tab=some e→e.Ok P f
 | [],_,_,_,h=>by cases h
 |(g,e')::l,f,e,hp,h=>by
  simp only[look]at h
  split at h
  ·rename_i hg;subst hg;obtain rfl:=Option.some.inj h;exact hp (g,e') (by simp)
  ·exact Rp (fun p hm=>hp p (List.mem_cons_of_mem _ hm)) h
theorem YQ{P:Program}{tab:List (FuncId×ar)}(h:∀p∈tab,p.2.Ok P p.1):GOk P (Ro tab):=by
 refine⟨fun f id args hp hf Q hq W ai β₀ β w vals hh dM=>?_⟩;simp only[Ro]at hf hq
 split at hq
 ·rename_i e he;rw[he]at hf;have oN:=Rp h he;refine(YL oN hf hq hh.self dM).mono ?_
  rintro en w' ⟨v,d,val,β',h1,h2,h3,h4⟩
  exact⟨v,d,val,β',h1,h2,h3,hh.trans h4,h4.first⟩
 ·exact hq.elim
end Go.Ev
end
