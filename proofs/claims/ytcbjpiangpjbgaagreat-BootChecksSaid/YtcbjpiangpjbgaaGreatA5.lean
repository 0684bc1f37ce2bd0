/- What the laws lean on, part 5: a reader of code, plain facts, and what each function gives; no conditions. -/
import Derived.Test.YtcbjpiangpjbgaaGreatA4
set_option linter.unusedVariables false
set_option linter.unusedSimpArgs false
noncomputable section
namespace Go.Ev
open Go
open Go.IntKind (i64 signed u32 u64 wrap wrap_u32)
def jv:List Nat→Nat→Option Nat
 | [],_=>none
 |x::l,i=>if x=i then some 0 else(jv l i).map (· +1)
theorem gT:∀ {l:List Nat} {i j:Nat},jv l i=some j→l[j]? =some i
 | [],_,_,h=>by cases h
 |x::l,i,j,h=>by
  simp only[jv]at h
  split at h
  ·rename_i e;subst e;simp at h;subst h;rfl
  ·obtain⟨k,hk,rfl⟩:=map_some h;simpa using gT hk
theorem zf:∀ {l:List Nat} {i:Nat},i∈l→∃j,jv l i=some j
 |x::l,i,h=>by
  simp only[jv]
  split
  ·exact⟨0,rfl⟩
  ·rename_i gD;obtain⟨j,hj⟩:=zf (l:=l) (i:=i) (by simpa [Ne.symm gD]using h);exact⟨j+1,by rw[hj];rfl⟩
theorem kx:∀ {l:List Nat} {j i:Nat},l.Nodup→l[j]? =some i→jv l i=some j
 | [],_,_,_,h=>by simp at h
 |x::l,0,i,_,h=>by simp at h;subst h;simp[jv]
 |x::l,j+1,i,hn,h=>by
  simp at h;have hi:i∈l:=List.mem_of_getElem? h;have gD:x≠i:=fun e=>by subst e;exact(List.nodup_cons.1 hn).1 hi
  simp only[jv,if_neg gD,kx (List.nodup_cons.1 hn).2 h];rfl
theorem BI{l:List Nat}{i:Nat}(h:jv l i=none):i∉l:=fun hm=>by
 obtain⟨j,hj⟩:=zf hm;rw[hj]at h;cases h
structure s8 where
 f:Nat→Option Nat
 o:Nat→Nat→Option Nat
def SV.cq(f:s8):SV→SV
 | .ptr b o=>match f.f b with|some j=>.ptr j o|none=>.bC
 | .u9 b base st n z=>match f.f b with|some j=>.u9 j base st n z|none=>.bC
 | .slice b o l c=>match f.f b with|some j=>.slice j o l c|none=>.bC
 | .sl i v=>match f.f i with|some j=>(match f.o i v with|some u=>.sl j u|none=>.bC)|none=>.bC
 | .vw i v w z n=>match f.f i with|some j=>(match f.o i v with|some u=>.vw j u w z n|none=>.bC)|none=>.bC
 | .vb b o t m z n=>match f.f b with|some j=>.vb j o t m z n|none=>.bC
 | .ep s w z g=>.ep (s.cq f) w z g
 |s=>s
def VV.cq(f:s8):VV→VV
 | .sc s=>.sc (s.cq f)
 | .agg l=>.agg (l.map (SV.cq f))
def LV.cq(f:s8):LV→LV
 | .one x=>.one (x.cq f)
 | .cG l=>.cG (l.map (VV.cq f))
 | .bC=>.bC
def Item.cq(f:s8)(u:Nat→Nat):Item→Item
 | .bH cells e=>.bH (cells.map (SV.cq f)) e
 | .own v t l=>.own (u v) t l
 | .gone v=>.gone (u v)
def SV.refs:SV→List Nat
 | .ptr b _| .u9 b _ _ _ _| .slice b _ _ _| .sl b _| .vw b _ _ _ _| .vb b _ _ _ _ _=> [b]
 | .ep s _ _ _=>s.refs
 |_=> []
def VV.refs:VV→List Nat
 | .sc s=>s.refs
 | .agg l=>l.flatMap SV.refs
def LV.refs:LV→List Nat
 | .one x=>x.refs
 | .cG l=>l.flatMap VV.refs
 | .bC=> []
def Item.refs:Item→List Nat
 | .bH cells _=>cells.flatMap SV.refs
 |_=> []
def SV.nr:SV→Bool
 | .rd pm _ _ _=>pm
 | .ep s _ _ _=>s.nr
 |_=>true
def VV.nr:VV→Bool
 | .sc s=>s.nr
 | .agg l=>l.all SV.nr
def LV.nr:LV→Bool
 | .one x=>x.nr
 | .cG l=>l.all VV.nr
 | .bC=>true
def Item.nr:Item→Bool
 | .bH cells _=>cells.all SV.nr
 |_=>true
def Kd.up(u:Nat→Nat):Kd→Kd
 | .bH=>.bH
 | .own c=>.own (u c)
theorem Item.ky(f:s8)(u:Nat→Nat)(x:Item):(x.cq f u).kd=x.kd.up u:=by cases x<;>rfl
structure vu (f:s8) (β β':Env) (L L':Nat→Option Kd) (nr:Bool):Prop where
 bH:∀b j,f.f b=some j→L b=some .bH→L' j=some .bH∧β'.b j=β.b b
 own:∀i j c,f.f i=some j→L i=some (.own c)→∃c',L' j=some (.own c')∧β'.h j=β.h i∧∀v v',v≤c→f.o i v=some v'→v'≤c'∧(v'=c'→v=c)
 rdt:∀v t l,β.rd true v t l→β'.rd true v t l
 rdf:nr=false→∀v t l,β.rd false v t l→β'.rd false v t l
noncomputable section
variable {f:s8} {β β':Env} {L L':Nat→Option Kd} {nr:Bool}
theorem xj.Dl(h:vu f β β' L L' nr){pm:Bool}{v:Value}{t:Ty}{l:List t.D}(hn:nr=true→pm=true)(hr:xj β pm v t l):xj β' pm v t l:=by
 rcases hr with hr|⟨rfl,hr⟩|hr
 ·exact .inl (h.rdt _ _ _ hr)
 ·cases nr with
  |true=>exact absurd (hn rfl) (by simp)
  |false=>exact .inr (.inl ⟨rfl,h.rdf rfl _ _ _ hr⟩)
 ·exact .inr (.inr hr)
theorem Ty.jU(h:∀v t l,β.rd true v t l→β'.rd true v t l):∀ (t:Ty) {x:t.D} {vs:List Value},t.has β true x vs→t.has β' true x vs
 | .int _,_,_,h=>h
 | .bool,_,_,h=>h
 | .u7,_,_,h=>h
 | .str,_,_,h=>h
 | .sl _,_,_,⟨v,h1,h2,h3⟩=>⟨v,h1,h2,by
  rcases h3 with h3|⟨h3,_⟩|h3
  ·exact .inl (h _ _ _ h3)
  ·cases h3
  ·exact .inr (.inr h3)⟩
 | .pair a b,_,_,⟨u,w,h0,h1,h2⟩=>⟨u,w,h0,a.jU h h1,b.jU h h2⟩
 | .arr t _,_,_,⟨h1,h2⟩=>⟨h1,h2.imp fun _ _=>t.jU h⟩
theorem SV.gr(h:vu f β β' L L' nr):∀ {s:SV} {v:Value},(nr=true→s.nr=true)→s.den β L v→(s.cq f).den β' L' v
 | .int _ _,_,_,hd=>hd
 | .bool _,_,_,hd=>hd
 | .u7 _,_,_,hd=>hd
 | .str _,_,_,hd=>hd
 | .fO _,_,_,hd=>hd
 | .bC,_,_,hd=>hd
 | .arr _ _ _,_,_,hd=>hd.elim
 | .rd _ _ _ _,_,hn,⟨h1,h2,h3⟩=>⟨h1,h2,h3.Dl h hn⟩
 | .ptr b o,v,_,hd=>by
  simp only[SV.cq]
  split
  ·rename_i j hj;obtain⟨k1,k2⟩:=h.bH b j hj hd.1;exact⟨k1,by rw[k2];exact hd.2⟩
  ·exact SV.bM hd
 | .u9 b base st n z,v,_,hd=>by
  simp only[SV.cq]
  split
  ·rename_i j hj;obtain⟨k1,k2⟩:=h.bH b j hj hd.1;exact⟨k1,hd.2.1,by rw[k2];exact hd.2.2⟩
  ·exact SV.bM hd
 | .slice b o l c,v,_,hd=>by
  simp only[SV.cq]
  split
  ·rename_i j hj;obtain⟨k1,k2⟩:=h.bH b j hj hd.1;exact⟨k1,by rw[k2];exact hd.2⟩
  ·exact SV.bM hd
 | .sl i ver,v,_,hd=>by
  simp only[SV.cq]
  split
  ·rename_i j hj
   split
   ·rename_i u hu;obtain⟨h1,c,h2,h3,h4⟩:=hd;obtain⟨c',k1,k2,k3⟩:=h.own i j c hj h2;obtain⟨k4,k5⟩:=k3 ver u h3 hu;exact⟨h1,c',k1,k4,fun e=>by rw[k2];exact h4 (k5 e)⟩
   ·exact SV.bM hd
  ·exact SV.bM hd
 | .vw i ver w z n,v,_,hd=>by
  simp only[SV.cq]
  split
  ·rename_i j hj
   split
   ·rename_i u hu;obtain⟨h1,c,h2,h3,h4⟩:=hd;obtain⟨c',k1,k2,k3⟩:=h.own i j c hj h2;obtain⟨k4,k5⟩:=k3 ver u h3 hu;exact⟨h1,c',k1,k4,fun e=>by rw[k2];exact h4 (k5 e)⟩
   ·exact SV.bM hd
  ·exact SV.bM hd
 | .vb b o t m z n,v,_,hd=>by
  simp only[SV.cq]
  split
  ·rename_i j hj;obtain⟨h1,h2⟩:=hd;obtain⟨k1,k2⟩:=h.bH b j hj h1;exact⟨k1,by rw[k2];exact h2⟩
  ·exact SV.bM hd
 | .ep s w z g,v,hn,⟨a,n,c,h1,h2⟩=>⟨a,n,c,SV.gr h hn h1,h2⟩
theorem bz.Dl(h:vu f β β' L L' nr){l:List SV}{vs:List Value}(hn:nr=true→l.all SV.nr=true)(hd:bz β L l vs):bz β' L' (l.map (SV.cq f)) vs:=by
 induction l generalizing vs with
 |nil=>cases hd;exact bp.nil
 |cons s l ih=>
  have hn1:nr=true→s.nr=true:=fun e=>by have:=hn e;simp only[List.all_cons,Bool.and_eq_true]at this;exact this.1
  have hn2:nr=true→l.all SV.nr=true:=fun e=>by have:=hn e;simp only[List.all_cons,Bool.and_eq_true]at this;exact this.2
  cases hd with
  |cons h1 h2=>
   refine bp.cons ?_ (ih hn2 h2)
   cases s with
   |arr t n x=>exact⟨h1.1,h1.2.imp fun _ _=>t.jU h.rdt⟩
   |_=>
    obtain⟨v,rfl,h3⟩:=h1;exact SV.sE (SV.gr h hn1 h3)
theorem VV.gr(h:vu f β β' L L' nr){s:VV}{v:Value}(hn:nr=true→s.nr=true)(hd:s.den β L v):(s.cq f).den β' L' v:=by
 cases s with
 |sc s=>exact SV.gr h hn hd
 |agg l=>obtain⟨cs,rfl,hd⟩:=hd;exact⟨cs,rfl,bz.Dl h hn hd⟩
theorem LV.gr(h:vu f β β' L L' nr){s:LV}{v:Value}(hn:nr=true→s.nr=true)(hd:s.den β L v):(s.cq f).den β' L' v:=by
 cases s with
 |one x=>exact VV.gr h hn hd
 |cG l=>
  obtain⟨vs,rfl,hd⟩:=hd;refine⟨vs,rfl,?_⟩;simp only[LV.nr]at hn
  induction hd with
  |nil=>exact .nil
  |cons h1 h2 ih=>
   exact .cons (VV.gr h (fun e=>by have:=hn e;simp only[List.all_cons,Bool.and_eq_true]at this;exact this.1) h1) (ih fun e=>by have:=hn e;simp only[List.all_cons,Bool.and_eq_true]at this;exact this.2)
 |bC=>trivial
theorem fw.Dl(h:vu f β β' L L' nr){w:World}{i j:Nat}{x:Item}{u:Nat→Nat}(hn:nr=true→x.nr=true)(hb:x.kd= .bH→β'.b j=β.b i)(hh:∀c,x.kd= .own c→β'.h j=β.h i)(hd:fw β L w i x):fw β' L' w j (x.cq f u):=by
 cases x with
 |bH cells e=>
  obtain⟨c,fz,h1,h2,h3⟩:=hd;exact⟨c,fz,by rw[hb rfl];exact h1,h2,bz.Dl h hn h3⟩
 |own ver t l=>
  show da β' w (β'.h j) t l;rw[hh ver rfl];obtain⟨a,n,c,e,h1,h2,h3,h4⟩:=(hd:da β w (β.h i) t l);refine⟨a,n,c,e,h1,h2,h3,fun h0=>?_⟩;obtain⟨a0,pre,eH,rest,elem,fz,k0,k1,k2,k3,k4,k5⟩:=h4 h0;exact⟨a0,pre,eH,rest,elem,fz,k0,k1,k2,k3,k4.imp fun _ _=>t.jU h.rdt,k5⟩
 |gone v=>trivial
end
def SV.cur(vb:Nat→Nat):SV→Bool
 | .sl i v| .vw i v _ _ _=>v==vb i
 | .ep s _ _ _=>s.cur vb
 |_=>true
def Item.cur(vb:Nat→Nat):Item→Bool
 | .bH cells _=>cells.all (SV.cur vb)
 |_=>true
def s8.fwd(f:Nat→Option Nat)(vb:Nat→Nat):s8:=⟨f,fun i v=>if v=vb i then some 0 else none⟩
def s8.bwd(g:Nat→Nat)(vb:Nat→Nat):s8:=⟨fun j=>some (g j),fun j v=>some (v+vb (g j))⟩
theorem BK{f:Nat→Option Nat}{g vb:Nat→Nat}:∀ {s:SV},s.cur vb=true→(∀r∈s.refs,∃j,f r=some j∧g j=r)→(s.cq (.fwd f vb)).cq (.bwd g vb)=s
 | .ptr b o,_,h=>by obtain⟨j,h1,h2⟩:=h b (by simp[SV.refs]);simp only[SV.cq,s8.fwd,s8.bwd,h1,h2]
 | .u9 b base st n z,_,h=>by obtain⟨j,h1,h2⟩:=h b (by simp[SV.refs]);simp only[SV.cq,s8.fwd,s8.bwd,h1,h2]
 | .slice b o l c,_,h=>by obtain⟨j,h1,h2⟩:=h b (by simp[SV.refs]);simp only[SV.cq,s8.fwd,s8.bwd,h1,h2]
 | .sl b v,hc,h=>by
  obtain⟨j,h1,h2⟩:=h b (by simp[SV.refs]);have e:v=vb b:=by simpa [SV.cur]using hc
  subst e;simp[SV.cq,s8.fwd,s8.bwd,h1,h2]
 | .vw b v w z n,hc,h=>by
  obtain⟨j,h1,h2⟩:=h b (by simp[SV.refs]);have e:v=vb b:=by simpa [SV.cur]using hc
  subst e;simp[SV.cq,s8.fwd,s8.bwd,h1,h2]
 | .vb b o t m z n,_,h=>by obtain⟨j,h1,h2⟩:=h b (by simp[SV.refs]);simp only[SV.cq,s8.fwd,s8.bwd,h1,h2]
 | .ep s w z g',hc,h=>by simp only[SV.cq];rw[BK (s:=s) hc h]
 | .int _ _,_,_| .bool _,_,_| .u7 _,_,_| .str _,_,_| .fO _,_,_| .bC,_,_| .arr _ _ _,_,_| .rd _ _ _ _,_,_=>rfl
def Item.ver:Item→Nat
 | .bH _ _=>0
 | .own v _ _| .gone v=>v
theorem Vq{f:Nat→Option Nat}{g vb:Nat→Nat}{x:Item}{i:Nat}(hc:x.cur vb=true)(hv:vb i=x.ver)(h:∀r∈x.refs,∃j,f r=some j∧g j=r):(x.cq (.fwd f vb) fun _=>0).cq (.bwd g vb) (· +vb i)=x:=by
 cases x with
 |bH cells e=>
  have hm:(cells.map (SV.cq (.fwd f vb))).map (SV.cq (.bwd g vb))=cells:=by
   rw[List.map_map];simp only[Item.cur,List.all_eq_true]at hc;have:=List.map_congr_left (l:=cells) (f:=SV.cq (.bwd g vb)∘SV.cq (.fwd f vb)) (g:=id) fun s hs=>BK (hc s hs) fun r hr=>h r (by simp only[Item.refs,List.mem_flatMap];exact⟨s,hs,hr⟩);rw[this,List.map_id]
  simp only[Item.cq,hm]
 |own v t l=>simp only[Item.cq,Nat.zero_add,hv,Item.ver]
 |gone v=>simp only[Item.cq,Nat.zero_add,hv,Item.ver]
theorem SV.Rq{f:s8}:∀ {s:SV},s.nr=true→(s.cq f).nr=true
 | .ptr b o,_=>by simp only[SV.cq];split<;>rfl
 | .u9 ..,_=>by simp only[SV.cq];split<;>rfl
 | .slice ..,_=>by simp only[SV.cq];split<;>rfl
 | .sl ..,_=>by simp only[SV.cq];split<;>(try split)<;>rfl
 | .vw ..,_=>by simp only[SV.cq];split<;>(try split)<;>rfl
 | .vb ..,_=>by simp only[SV.cq];split<;>rfl
 | .ep s w z g,h=>SV.Rq (s:=s) h
 | .int _ _,h| .bool _,h| .u7 _,h| .str _,h| .fO _,h| .bC,h| .arr _ _ _,h| .rd _ _ _ _,h=>h
def rE:Nat→List Nat→List Nat→List Item→Ask (Option (List Nat×List Item))
 |0,_,_,_=>.ret none
 |_+1,[],acc,MI=>.ret (some (acc,MI))
 |n+1,i::todo,acc,MI=>if i∈acc then rE n todo acc MI else
   .get i fun x=>match x with
    |some x=>rE n (x.refs++todo) (acc++ [i]) (MI++ [x])
    |none=>.ret none
structure Reached (hp:Hp) (roots acc:List Nat) (MI:List Item) (todo:List Nat):Prop where
 nodup:acc.Nodup
 len:acc.length=MI.length
 at_:∀ (j:Nat) (i:Nat) (x:Item),acc[j]? =some i→MI[j]? =some x→bJ hp i=some x
 refs:∀x∈MI,∀r∈x.refs,r∈acc∨r∈todo
 root:∀r∈roots,r∈acc∨r∈todo
theorem zg{hp:Hp}{roots:List Nat}:∀ (n:Nat) (todo acc:List Nat) (MI:List Item) {ids:List Nat} {xs:List Item},Reached hp roots acc MI todo→(rE n todo acc MI).val hp=some (ids,xs)→Reached hp roots ids xs []
 |0,_,_,_,_,_,_,h=>by cases h
 |n+1,[],acc,MI,_,_,hr,h=>by
  simp only[rE,Ask.val]at h
  cases h
  exact hr
 |n+1,i::todo,acc,MI,ids,xs,hr,h=>by
  simp only[rE]at h
  split at h
  ·rename_i hm;have hm':i∈acc:=hm;refine zg n todo acc MI ⟨hr.nodup,hr.len,hr.at_,fun x hx r ov=>?_,fun r ov=>?_⟩ h
   ·rcases hr.refs x hx r ov with h1|h1
    ·exact .inl h1
    ·rcases List.mem_cons.1 h1 with rfl|h1
     ·exact .inl hm'
     ·exact .inr h1
   ·rcases hr.root r ov with h1|h1
    ·exact .inl h1
    ·rcases List.mem_cons.1 h1 with rfl|h1
     ·exact .inl hm'
     ·exact .inr h1
  ·rename_i hm;have hm':i∉acc:=hm;simp only[Ask.val]at h
   split at h
   ·rename_i x hx;refine zg n (x.refs++todo) (acc++ [i]) (MI++ [x]) ⟨?_,by simp[hr.len],?_,?_,?_⟩ h
    ·rw[List.nodup_append];refine⟨hr.nodup,by simp,fun a ha b hb=>?_⟩;simp at hb;subst hb;exact fun e=>hm' (e▸ha)
    ·intro j i' x' h1 h2
     by_cases hj:j<acc.length
     ·rw[List.getElem?_append_left hj]at h1;rw[List.getElem?_append_left (by rw[← hr.len];exact hj)]at h2;exact hr.at_ j i' x' h1 h2
     ·rw[List.getElem?_append_right (by omega)]at h1;rw[List.getElem?_append_right (by rw[← hr.len];omega),← hr.len]at h2
      have hj0:j-acc.length=0:=by
       have:=(List.getElem?_eq_some_iff.1 h1).1;simpa using this
      rw[hj0]at h1 h2;simp at h1 h2;subst h1 h2;exact hx
    ·intro y hy r ov;rcases List.mem_append.1 hy with hy|hy
     ·rcases hr.refs y hy r ov with h1|h1
      ·exact .inl (by simp[h1])
      ·rcases List.mem_cons.1 h1 with rfl|h1
       ·exact .inl (by simp)
       ·exact .inr (by simp[h1])
     ·simp at hy;subst hy;exact .inr (by simp[ov])
    ·intro r ov;rcases hr.root r ov with h1|h1
     ·exact .inl (by simp[h1])
     ·rcases List.mem_cons.1 h1 with rfl|h1
      ·exact .inl (by simp)
      ·exact .inr (by simp[h1])
   ·simp[Ask.val]at h
noncomputable section
variable {W:World} {an:Hp} {β₀ β:Env} {hp:Hp} {w:World}
theorem Dm{h:Value}{t:Ty}{l:List t.D}(hk:da β w h t l){b:Nat}(hb:inBlock h b):∃a n c,h= .slice (some a) n c∧0<c∧a.block=b:=by
 obtain⟨a,n,c,rfl,h1,h2,h3,_⟩:=hk
 cases a with
 |none=>exact hb.elim
 |some a=>exact⟨a,n,c,rfl,by have:=hb.1;omega,hb.2⟩
theorem amn{h v:Value}{k:Nat}{z n:Int}(hs:wG h k z n v){b:Nat}(hb:inBlock v b):inBlock h b:=by
 obtain⟨a,m,c,a',c',rfl,z0,n0,hle,rfl,rA,_,ha⟩:=hs
 cases a' with
 |none=>exact hb.elim
 |some a2=>
  have h0:=hb.1;obtain⟨a0,rfl,e⟩:=ha (by omega);simp at e;subst e;exact⟨by omega,by have:=hb.2;rwa [dX]at this⟩
theorem MJ(h:bB W an β₀ β hp w){t:Ty}{s:SV}{pm:Bool}{l:List t.D}{v:Value}(hc:(jt t s).val hp=some (pm,l))(hd:s.den β (kd hp) v){b:Nat}(hb:inBlock v b):
  (b<w.heap.size∧¬gh hp β b)∨∃i x,hp[i]? =some (some x)∧cw β x i b∧i∈s.refs:=by
 unfold jt at hc
 split at hc
 ·exact .inl ((h.avB hd.2.2).2 b hb)
 ·obtain⟨_,rfl⟩:=hd;exact hb.elim
 ·rename_i i ver;simp only[Ask.val]at hc
  split at hc
  ·rename_i ver' t' l' hi
   split at hc
   ·split at hc
    ·rename_i e;subst e;obtain⟨_,hd⟩:=hd;obtain⟨h1,rfl⟩:=h.oK (p:=fun x=>v=x) (aB hi) hd;exact .inr ⟨i,_,aB hi,Dm h1 hb,by simp[SV.refs]⟩
    ·cases hc
   ·cases hc
  ·cases hc
 ·rename_i i ver w' z n;simp only[Ask.val]at hc
  split at hc
  ·rename_i ver' t' l' hi
   split at hc
   ·split at hc
    ·rename_i e;obtain⟨rfl,rfl⟩:=e;obtain⟨_,hd⟩:=hd;obtain⟨h1,h2⟩:=h.oK (p:=fun x=>wG x _ z n v) (aB hi) hd;exact .inr ⟨i,_,aB hi,Dm h1 (amn h2 hb),by simp[SV.refs]⟩
    ·cases hc
   ·cases hc
  ·cases hc
 ·rename_i b' o t' m z n;simp only[Ask.val]at hc
  split at hc
  ·rename_i cells elem hi;obtain⟨_,z0,n0,zn,a',c',rfl,rA,_,ha⟩:=hd;refine .inr ⟨b',_,aB hi,?_,by simp[SV.refs]⟩;show b=β.b b'
   cases a' with
   |none=>exact hb.elim
   |some a'=>
    have h0:=hb.1;have e:=ha (by omega);simp at e;subst e;rw[← hb.2,dX]
  ·cases hc
 ·rename_i b' o len cap;simp only[Ask.val]at hc
  split at hc
  ·rename_i cells elem hi;obtain⟨_,rfl⟩:=hd;exact .inr ⟨b',_,aB hi,hb.2.symm,by simp[SV.refs]⟩
  ·cases hc
 ·simp[Ask.val]at hc
def aaE(β:Env)(own:Nat→Prop)(w:World)(v:Value)(t:Ty)(l:List t.D):Prop:=ca β false w v t l∧∀b,inBlock v b→b<w.heap.size∧¬own b
def Env.HA(β:Env)(own:Nat→Prop)(w:World):Env:=⟨β.b,β.h,fun pm v t l=>match pm with
 |true=>β.rd true v t l
 |false=>aaE β own w v t l⟩
def HB(β:Env)(own:Nat→Prop)(w:World)(v:Value)(t:Ty)(l:List t.D):Prop:=ca (β.HA own w) false w v t l∧∀b,inBlock v b→b<w.heap.size∧¬own b
def Env.can(β:Env)(own:Nat→Prop)(w:World)(lent:Bool)(ids:List Nat):Env:=⟨fun j=>β.b (ids.getD j 0),fun j=>β.h (ids.getD j 0),fun pm v t l=>match pm with
 |true=>β.rd true v t l
 |false=>β.rd false v t l∨(lent=true∧HB β own w v t l)⟩
theorem bB.HA(h:bB W an β₀ β hp w){own:Nat→Prop}(ho:∀b,own b→gh hp β b):∀pm v t l,β.rd pm v t l→(β.HA own w).rd pm v t l:=by
 intro pm v t l hr
 cases pm with
 |true=>exact hr
 |false=>
  obtain⟨h1,h2⟩:=h.reads _ _ _ _ hr;exact⟨h1,fun b hb=>⟨(h2 b hb).1,fun k=>(h2 b hb).2 (ho b k)⟩⟩
theorem bB.aaF(h:bB W an β₀ β hp w){own:Nat→Prop}(ho:∀b,own b→gh hp β b){v:Value}{t:Ty}{l:List t.D}(hl:aaE β own w v t l):HB β own w v t l:=
 ⟨hl.1.mono (h.HA ho),hl.2⟩
def HC(t:Ty)(s:SV):Ask (Option (List t.D)):=(jt t s).map (·.map (·.2))
theorem HD(h:bB W an β₀ β hp w){t:Ty}{s:SV}{l:List t.D}{v:Value}(hc:(HC t s).val hp=some l)(hd:s.den β (kd hp) v){own:Nat→Prop}
  (ho:∀b,own b→∃i x,hp[i]? =some (some x)∧cw β x i b∧i∉s.refs):aaE β own w v t l:=by
 unfold HC at hc;rw[Ask.dc]at hc;obtain⟨⟨pm,l'⟩,hc1,he⟩:=map_some hc;clear hc
 cases he
 have hc:=hc1;have h1:=mD h hc hd
 have h2:ca β false w v t l':=by
  cases pm with
  |true=>exact h1.U6
  |false=>exact h1
 refine⟨h2,fun b hb=>?_⟩;rcases MJ h hc hd hb with⟨h3,h4⟩|⟨i,x,h3,h4,h5⟩
 ·refine⟨h3,fun k=>?_⟩;obtain⟨i,x,k1,k2,_⟩:=ho b k;exact h4 ⟨i,x,k1,k2⟩
 ·refine⟨(h.items i x h3).lt h4,fun k=>?_⟩;obtain⟨j,y,k1,k2,k3⟩:=ho b k;have:=h.inj i j x y b h3 k1 h4 k2;subst this;exact k3 h5
def HE(t:Ty):List SV→Ask (Option (List (List t.D)))
 | []=>.ret (some [])
 |s::r=>(HC t s).bind fun x=>match x with
  |some l=>(HE t r).map (·.map (l:: ·))
  |none=>.ret none
theorem HF(h:bB W an β₀ β hp w){t:Ty}{own:Nat→Prop}:∀ {row:List SV} {ls:List (List t.D)} {vs:List Value},(HE t row).val hp=some ls→bz β (kd hp) row vs→
  (∀b,own b→∃i x,hp[i]? =some (some x)∧cw β x i b∧i∉row.flatMap SV.refs)→bp ((Ty.sl t).has (β.HA own w) false) ls vs
 | [],ls,vs,hc,hd,_=>by
  simp[HE,Ask.val]at hc;subst hc
  cases hd;exact .nil
 |s::row,ls,_,hc,.cons (vs:=us) h1 h2,ho=>by
  simp only[HE]at hc;rw[Ask.eJ]at hc
  split at hc
  ·rename_i l hl;rw[Ask.dc]at hc;obtain⟨ls',rA,rfl⟩:=map_some hc
   have hs:∀t n l,s≠ .arr t n l:=by
    intro t' n l' e;subst e;simp[HC,jt,Ask.val,Ask.map,Ask.bind]at hl
   obtain⟨v,rfl,hv⟩:=SV.jj h1 hs;refine .cons ⟨v,rfl,SV.bM hv,.inr (.inl ⟨rfl,?_⟩)⟩ (HF h rA h2 fun b hb=>?_)
   ·exact HD h hl hv fun b hb=>by
     obtain⟨i,x,k1,k2,k3⟩:=ho b hb;exact⟨i,x,k1,k2,fun hm=>k3 (by simp[hm])⟩
   ·obtain⟨i,x,k1,k2,k3⟩:=ho b hb;exact⟨i,x,k1,k2,fun hm=>k3 (by rw[List.flatMap_cons];exact List.mem_append_right _ hm)⟩
  ·simp[Ask.val]at hc
def amo(t:Ty)(s:SV):Ask (Option (SV×List Nat)):=
 match t,s with
 | .sl t',.slice b o len cap=>.get b fun x=>match x with
  |some (.bH cells _)=>match(if len≤cap then U7 cells o len else none)with
   |some row=>(HE t' row).map (·.map fun ls=>(.rd false false (.sl t') ls,b::row.flatMap SV.refs))
   |none=>.ret none
  |_=>.ret none
 |t,s=>(HC t s).map (·.map fun l=>(.rd false false t l,s.refs))
theorem Rr(h:bB W an β₀ β hp w){t:Ty}{s s':SV}{lids:List Nat}{v:Value}(hc:(amo t s).val hp=some (s',lids))(hd:s.den β (kd hp) v){own:Nat→Prop}
  (ho:∀b,own b→∃i x,hp[i]? =some (some x)∧cw β x i b∧i∉lids):∃l,s'= .rd false false t l∧HB β own w v t l:=by
 have l5:∀b,own b→gh hp β b:=fun b hb=>let ⟨i,x,h1,h2,_⟩:=ho b hb;⟨i,x,h1,h2⟩;unfold amo at hc
 split at hc
 ·rename_i t' b o len cap;simp only[Ask.val]at hc
  split at hc
  ·rename_i cells elem hi
   split at hc
   ·rename_i row jR;rw[Ask.dc]at hc;obtain⟨ls,hl,he⟩:=map_some hc
    cases he
    split at jR
    ·rename_i hlc;obtain⟨_,rfl⟩:=hd;obtain⟨cs,fz,h1,h2,h3⟩:=h.items _ _ (aB hi);obtain⟨pre,mid,post,rfl,e1,e2,h4⟩:=pP jR h3
     have h5:=HF h hl h4 (own:=own) fun b hb=>by
      obtain⟨i,x,k1,k2,k3⟩:=ho b hb;exact⟨i,x,k1,k2,fun hm=>k3 (List.mem_cons_of_mem _ hm)⟩
     have hlen:mid.length=ls.length:=(by rw[bG h5];simp[Ty.w]);subst e1;refine⟨ls,rfl,⟨_,_,_,rfl,by omega,hlc,(fun e=>by cases e),fun _=>⟨_,mid,rfl,rfl,h5,eQ h1⟩⟩,fun b' gR=>?_⟩;have eb:b'=β.b b:=gR.2.symm;subst eb;refine⟨(Array.getElem?_eq_some_iff.1 h1).1,fun k=>?_⟩;obtain⟨i,x,k1,k2,k3⟩:=ho _ k;have:=h.inj i b x _ _ k1 (aB hi) k2 rfl;subst this;exact k3 (by simp)
    ·cases jR
   ·simp[Ask.val]at hc
  ·simp[Ask.val]at hc
 ·rw[Ask.dc]at hc;obtain⟨l,hl,he⟩:=map_some hc
  cases he
  exact⟨l,rfl,h.aaF l5 (HD h hl hd ho)⟩
def aGX:SV→Bool
 | .sl _ _| .slice _ _ _ _| .rd _ _ _ _| .vw _ _ _ _ _| .vb _ _ _ _ _ _=>true
 | .fO (.slice none 0 0)=>true
 |_=>false
def jV(t:Ty):List SV→Ask (List SV×List Nat)
 | []=>.ret ([],[])
 |s::r=>if aGX s=true then(amo t s).bind fun y=>match y with
   |some (s',b1)=>(jV t r).map fun(l,b)=>(s'::l,b1++b)
   |none=>(jV t r).map fun(l,b)=>(s::l,b)
  else(jV t r).map fun(l,b)=>(s::l,b)
theorem zh(h:bB W an β₀ β hp w){f:s8}{βc:Env}{L':Nat→Option Kd}(Vg:vu f β βc (kd hp) L' false){own:Nat→Prop}{t:Ty}(hl:∀v l,HB β own w v t l→βc.rd false v t l):
  ∀ {l l':List SV} {lids:List Nat} {vs:List Value},(jV t l).val hp=(l',lids)→bz β (kd hp) l vs→
   (∀b,own b→∃i x,hp[i]? =some (some x)∧cw β x i b∧i∉lids)→bz βc L' (l'.map (SV.cq f)) vs
 | [],l',lids,_,hc,hd,_=>by
  cases hd
  have rA:(([]:List SV),([]:List Nat))=(l',lids):=hc
  cases rA
  exact .nil
 |s::r,l',lids,_,hc,.cons (vs:=vs) h1 h2,ho=>by
  have same:∀ {l':List SV} {lids:List Nat},((jV t r).map fun(l,b)=>(s::l,b)).val hp=(l',lids)→(∀b,own b→∃i x,hp[i]? =some (some x)∧cw β x i b∧i∉lids)→bz βc L' (l'.map (SV.cq f)) (vs++_):=fun {l' lids} hc ho=>by
   rw[Ask.dc]at hc;have e1:l'=s::((jV t r).val hp).1:=(congrArg Prod.fst hc).symm;have e2:lids=((jV t r).val hp).2:=(congrArg Prod.snd hc).symm;subst e1;rw[e2]at ho;have ih:=zh h Vg hl (l:=r) (l':=((jV t r).val hp).1) (lids:=((jV t r).val hp).2) rfl h2 ho;have hs:bz βc L' ([s].map (SV.cq f)) (vs++ []):=bz.Dl Vg (by simp) (bp.cons h1 bp.nil);rw[List.append_nil]at hs;exact hs.append ih
  simp only[jV]at hc
  split at hc
  ·rename_i n7;rw[Ask.eJ]at hc
   split at hc
   ·rename_i s' b1 hs;rw[Ask.dc]at hc;have e1:l'=s'::((jV t r).val hp).1:=(congrArg Prod.fst hc).symm;have e2:lids=b1++((jV t r).val hp).2:=(congrArg Prod.snd hc).symm;subst e1;rw[e2]at ho;have hna:∀t n l,s≠ .arr t n l:=fun _ _ _ e=>(by subst e;cases n7);obtain⟨v,rfl,hv⟩:=SV.jj h1 hna
    obtain⟨l2,rfl,h3⟩:=Rr h hs hv (own:=own) fun b hb=>by
     obtain⟨i,x,k1,k2,k3⟩:=ho b hb;exact⟨i,x,k1,k2,fun hm=>k3 (List.mem_append_left _ hm)⟩
    refine .cons (vs:= [v]) ⟨v,rfl,SV.bM hv,(fun e=>by cases e),.inr (.inl ⟨rfl,hl _ _ h3⟩)⟩ (zh h Vg hl (l:=r) (l':=((jV t r).val hp).1) (lids:=((jV t r).val hp).2) rfl h2 fun b hb=>?_);obtain⟨i,x,k1,k2,k3⟩:=ho b hb;exact⟨i,x,k1,k2,fun hm=>k3 (List.mem_append_right _ hm)⟩
   ·exact same hc ho
  ·exact same hc ho
def fP:List (Option Ty)→List LV→Ask (Option (List LV×List Nat))
 |_,[]=>.ret (some ([],[]))
 | [],x::xs=>(fP [] xs).map (·.map fun(l,b)=>(x::l,b))
 |none::ts,x::xs=>(fP ts xs).map (·.map fun(l,b)=>(x::l,b))
 |some t::ts,.one (.sc s)::xs=>(amo t s).bind fun y=>match y with
  |some (s',b1)=>(fP ts xs).map (·.map fun(l,b)=>(.one (.sc s')::l,b1++b))
  |none=>.ret none
 |some t::ts,.one (.agg l)::xs=>(jV t l).bind fun y=>(fP ts xs).map (·.map fun(r,b)=>(.one (.agg y.1)::r,y.2++b))
 |some _::_,_=>.ret none
theorem jW(h:bB W an β₀ β hp w){f:s8}{βc:Env}{L':Nat→Option Kd}(Vg:vu f β βc (kd hp) L' false){own:Nat→Prop}:
  ∀ {ts:List (Option Ty)} {xs cs:List LV} {lids:List Nat} {vs:List Value},(fP ts xs).val hp=some (cs,lids)→bX (LV.den β (kd hp)) xs vs→
   (∀t,some t∈ts→∀v l,HB β own w v t l→βc.rd false v t l)→
   (∀b,own b→∃i x,hp[i]? =some (some x)∧cw β x i b∧i∉lids)→bX (LV.den βc L') (cs.map (LV.cq f)) vs
 |ts,[],cs,lids,_,hc,hd,_,_=>by
  cases hd
  have rA:some (([]:List LV),([]:List Nat))=some (cs,lids):=by
   cases ts with
   |nil=>exact hc
   |cons a b=>cases a<;>exact hc
  cases rA
  exact .nil
 | [],x::xs,_,_,_,hc,.cons h1 h2,hl,ho=>by
  simp only[fP]at hc;rw[Ask.dc]at hc;obtain⟨⟨l,b⟩,rA,he⟩:=map_some hc
  cases he
  exact .cons (LV.gr Vg (by simp) h1) (jW h Vg rA h2 hl ho)
 |none::ts,x::xs,_,_,_,hc,.cons h1 h2,hl,ho=>by
  simp only[fP]at hc;rw[Ask.dc]at hc;obtain⟨⟨l,b⟩,rA,he⟩:=map_some hc
  cases he
  exact .cons (LV.gr Vg (by simp) h1) (jW h Vg rA h2 (fun t ht=>hl t (List.mem_cons_of_mem _ ht)) ho)
 |some t::ts,x::xs,_,_,_,hc,.cons h1 h2,hl,ho=>by
  cases x with
  |one x=>
   cases x with
   |sc s=>
    simp only[fP]at hc;rw[Ask.eJ]at hc
    split at hc
    ·rename_i s' b1 hs;rw[Ask.dc]at hc;obtain⟨⟨l,b⟩,rA,he⟩:=map_some hc
     cases he
     obtain⟨l',rfl,h3⟩:=Rr h hs h1 (own:=own) fun b hb=>by
      obtain⟨i,x,k1,k2,k3⟩:=ho b hb;exact⟨i,x,k1,k2,fun hm=>k3 (List.mem_append_left _ hm)⟩
     refine .cons ⟨SV.bM h1,(fun e=>by cases e),.inr (.inl ⟨rfl,hl t (by simp) _ _ h3⟩)⟩ (jW h Vg rA h2 (fun t ht=>hl t (List.mem_cons_of_mem _ ht)) fun b hb=>?_);obtain⟨i,x,k1,k2,k3⟩:=ho b hb;exact⟨i,x,k1,k2,fun hm=>k3 (List.mem_append_right _ hm)⟩
    ·simp[Ask.val]at hc
   |agg l=>
    simp only[fP]at hc;rw[Ask.eJ,Ask.dc]at hc;obtain⟨⟨l',b⟩,rA,he⟩:=map_some hc
    cases he
    obtain⟨cells,rfl,h3⟩:=h1;refine .cons ⟨cells,rfl,zh h Vg (fun v l h=>hl t (by simp) v l h) (l:=l) (l':=((jV t l).val hp).1) (lids:=((jV t l).val hp).2) rfl h3 fun b hb=>?_⟩ (jW h Vg rA h2 (fun t ht=>hl t (List.mem_cons_of_mem _ ht)) fun b hb=>?_)
    ·obtain⟨i,x,k1,k2,k3⟩:=ho b hb;exact⟨i,x,k1,k2,fun hm=>k3 (List.mem_append_left _ hm)⟩
    ·obtain⟨i,x,k1,k2,k3⟩:=ho b hb;exact⟨i,x,k1,k2,fun hm=>k3 (List.mem_append_right _ hm)⟩
  |cG l=>simp[fP,Ask.val]at hc
  |bC=>simp[fP,Ask.val]at hc
theorem cw.cq{f:s8}{u:Nat→Nat}{β β':Env}{x:Item}{i j b:Nat}(hb:β'.b j=β.b i)(hh:β'.h j=β.h i):cw β' (x.cq f u) j b↔cw β x i b:=by
 cases x<;>simp only[Item.cq,cw,hb,hh]
def oo(ids:List Nat)(xs:List Item)(i:Nat):Nat:=match jv ids i with
 |some j=>match xs[j]? with
  |some x=>x.ver
  |none=>0
 |none=>0
abbrev wV(ids:List Nat)(xs:List Item):s8:=.fwd (jv ids) (oo ids xs)
def iC(ids:List Nat)(xs:List Item):Hp:=xs.map fun x=>some (x.cq (wV ids xs) fun _=>0)
theorem ns{roots ids:List Nat}{xs:List Item}(hr:Reached hp roots ids xs []){j:Nat}{y:Item}(h:(iC ids xs)[j]? =some (some y)):∃i x,ids[j]? =some i∧hp[i]? =some (some x)∧xs[j]? =some x∧y=x.cq (wV ids xs) fun _=>0:=by
 unfold iC at h;rw[List.getElem?_map]at h;obtain⟨x,hx,he⟩:=map_some h;simp at he;subst he;have hj:j<ids.length:=by rw[hr.len];exact(List.getElem?_eq_some_iff.1 hx).1
 have hi:ids[j]? =some ids[j]:=List.getElem?_eq_getElem hj;exact⟨_,x,hi,aB (hr.at_ _ _ _ hi hx),hx,rfl⟩
theorem vA{roots ids:List Nat}{xs:List Item}(hr:Reached hp roots ids xs []){i j:Nat}(h:ids[j]? =some i):∃x,hp[i]? =some (some x)∧xs[j]? =some x∧(iC ids xs)[j]? =some (some (x.cq (wV ids xs) fun _=>0)):=by
 have hj:j<xs.length:=by rw[← hr.len];exact(List.getElem?_eq_some_iff.1 h).1
 have hx:xs[j]? =some xs[j]:=List.getElem?_eq_getElem hj;refine⟨_,aB (hr.at_ _ _ _ h hx),hx,?_⟩;unfold iC;rw[List.getElem?_map,hx];rfl
theorem Dn{roots ids:List Nat}{xs:List Item}(hr:Reached hp roots ids xs []){i j:Nat}(h:ids[j]? =some i){x:Item}(hx:hp[i]? =some (some x)):oo ids xs i=x.ver:=by
 obtain⟨y,h1,h2,_⟩:=vA hr h;rw[hx]at h1;cases h1;simp only[oo,kx hr.nodup h,h2]
def mM(hp:Hp)(β:Env)(ids:List Nat)(b:Nat):Prop:=∃i x,hp[i]? =some (some x)∧cw β x i b∧i∈ids
theorem gG{l:List Nat}{j i:Nat}(h:l[j]? =some i):l.getD j 0=i:=by rw[List.getD_eq_getElem?_getD,h];rfl
theorem pY{roots ids:List Nat}{xs:List Item}(hr:Reached hp roots ids xs []){own:Nat→Prop}{lent:Bool}{b:Nat}(h:gh (iC ids xs) (β.can own w lent ids) b):mM hp β ids b:=by
 obtain⟨j,y,hj,ho⟩:=h;obtain⟨i,x,h1,h2,_,rfl⟩:=ns hr hj;refine⟨i,x,h2,?_,List.mem_of_getElem? h1⟩;exact(cw.cq (by show β.b _=_;rw[gG h1]) (by show β.h _=_;rw[gG h1])).1 ho
theorem HG{roots ids:List Nat}{xs:List Item}(hr:Reached hp roots ids xs []){own:Nat→Prop}{lent:Bool}:vu (wV ids xs) β (β.can own w lent ids) (kd hp) (kd (iC ids xs)) false:=by
 refine⟨fun b j hj hb=>?_,fun i j c hj hi=>?_,fun v t l h=>h,fun _ v t l h=>.inl h⟩
 ·have h1:=gT hj;obtain⟨x,h2,h3,h4⟩:=vA hr h1;refine⟨?_,by show β.b _=_;rw[gG h1]⟩;rw[dH h2]at hb;rw[dH h4,Item.ky,Option.some.inj hb];rfl
 ·have h1:=gT hj;obtain⟨x,h2,h3,h4⟩:=vA hr h1;rw[dH h2]at hi;have hk:=Option.some.inj hi;refine⟨0,?_,by show β.h _=_;rw[gG h1],fun v v' _ hv=>?_⟩
  ·rw[dH h4,Item.ky,hk];rfl
  ·have Vj:(if v=oo ids xs i then some 0 else none)=some v':=hv
   split at Vj
   ·rename_i e
    cases Vj
    refine⟨Nat.le_refl _,fun _=>?_⟩;rw[e,Dn hr h1 h2]
    cases x with
    |bH _ _=>cases hk
    |own _ _ _=>cases hk;rfl
    |gone _=>cases hk;rfl
   ·cases Vj
theorem amp(h:bB W an β₀ β hp w){roots ids:List Nat}{xs:List Item}(hr:Reached hp roots ids xs []){lent:Bool}:
  bB w (iC ids xs) (β.can (mM hp β ids) w lent ids) (β.can (mM hp β ids) w lent ids) (iC ids xs) w:=by
 have l5:∀b,mM hp β ids b→gh hp β b:=fun b ⟨i,x,h1,h2,_⟩=>⟨i,x,h1,h2⟩;refine⟨fun j y hj=>?_,fun j k y z b hj hk h1 h2=>?_,cb.refl _ _,fun i x b hi ho=>.inr ⟨x,hi,ho⟩,rfl,rfl,Nat.le_refl _,fun _ _ _=>rfl,fun pm v t l qN=>?_,fun pm v t l b h1 h2=>.inr ⟨pm,v,t,l,id,h1,h2⟩⟩
 ·obtain⟨i,x,h1,h2,_,rfl⟩:=ns hr hj;refine fw.Dl (HG hr) (by simp) (fun _=>?_) (fun _ _=>?_) (h.items i x h2)
  ·show β.b _=_;rw[gG h1]
  ·show β.h _=_;rw[gG h1]
 ·obtain⟨i1,x1,a1,a2,_,rfl⟩:=ns hr hj;obtain⟨i2,x2,b1,b2,_,rfl⟩:=ns hr hk;have e:=h.inj i1 i2 x1 x2 b a2 b2 ((cw.cq (by show β.b _=_;rw[gG a1]) (by show β.h _=_;rw[gG a1])).1 h1) ((cw.cq (by show β.b _=_;rw[gG b1]) (by show β.h _=_;rw[gG b1])).1 h2);subst e;have e1:=kx hr.nodup a1;have e2:=kx hr.nodup b1;rw[e1]at e2;exact Option.some.inj e2
 ·have aaD:∀pm v t l,β.rd pm v t l→(β.can (mM hp β ids) w lent ids).rd pm v t l:=by
   intro pm v t l hr
   cases pm with
   |true=>exact hr
   |false=>exact .inl hr
  have hold:∀pm v t l,β.rd pm v t l→ca (β.can (mM hp β ids) w lent ids) pm w v t l∧∀b,inBlock v b→b<w.heap.size∧¬gh (iC ids xs) (β.can (mM hp β ids) w lent ids) b:=by
   intro pm v t l qN;obtain⟨h1,h2⟩:=h.reads _ _ _ _ qN;exact⟨h1.mono aaD,fun b hb=>⟨(h2 b hb).1,fun k=>(h2 b hb).2 (l5 b (pY hr k))⟩⟩
  cases pm with
  |true=>exact hold true v t l qN
  |false=>
   rcases qN with qN|⟨hl,h1,h2⟩
   ·exact hold false v t l qN
   ·refine⟨h1.mono fun pm v t l hr=>?_,fun b hb=>⟨(h2 b hb).1,fun k=>(h2 b hb).2 (pY hr k)⟩⟩
    cases pm with
    |true=>exact hr
    |false=>exact .inr ⟨hl,h.aaF l5 hr⟩
end
abbrev Item.bk(g vb:Nat→Nat)(j:Nat)(x:Item):Item:=x.cq (.bwd g vb) (· +vb (g j))
def Dp(g vb:Nat→Nat)(d:List (Nat×Item)):List (Nat×Item):=d.map fun(j,x)=>(g j,x.bk g vb j)
theorem HI{g vb:Nat→Nat}{d:List (Nat×Item)}{i:Nat}{y:Item}:(i,y)∈Dp g vb d↔∃j x,(j,x)∈d∧i=g j∧y=x.bk g vb j:=by
 unfold Dp;rw[List.mem_map];constructor
 ·rintro⟨⟨j,x⟩,h,e⟩
  simp at e;exact⟨j,x,h,e.1.symm,e.2.symm⟩
 ·rintro⟨j,x,h,rfl,rfl⟩
  exact⟨(j,x),h,rfl⟩
structure Mir (g vb:Nat→Nat) (J U:Nat→Prop) (lent:Bool) (BE hpc hp:Hp):Prop where
 live:∀ (j:Nat) (y:Item),hpc[j]? =some (some y)→J j
 fwd:∀ (j:Nat) (y:Item),hpc[j]? =some (some y)→hp[g j]? =some (some (y.bk g vb j))
 bwd:∀ (i:Nat) (x:Item),hp[i]? =some (some x)→(∃ (j:Nat) (y:Item),hpc[j]? =some (some y)∧g j=i)∨(BE[i]? =some (some x)∧U i)
 nr:lent=true→∀ (j:Nat) (y:Item),hpc[j]? =some (some y)→y.nr=true
theorem BL{g vb:Nat→Nat}{J U:Nat→Prop}{lent:Bool}{BE:Hp}(Vr:∀j k,J j→J k→g j=g k→j=k):
  ∀ (d:List (Nat×Item)) {hpc hp:Hp},(∀j x,(j,x)∈d→J j)→(lent=true→d.all (fun p=>p.2.nr)=true)→Mir g vb J U lent BE hpc hp→Mir g vb J U lent BE (aV d hpc) (aV (Dp g vb d) hp)
 | [],_,_,_,_,h=>h
 |(j,x)::d,hpc,hp,hJ,hn,h=>by
  refine BL Vr d (hpc:=setAt hpc j x) (hp:=setAt hp (g j) (x.bk g vb j)) (fun j' x' hm=>hJ j' x' (List.mem_cons_of_mem _ hm)) (fun e=>by have:=hn e;simp only[List.all_cons,Bool.and_eq_true]at this;exact this.2) ?_;have hj:J j:=hJ j x (by simp);refine⟨fun k y hk=>?_,fun k y hk=>?_,fun i z hi=>?_,fun e k y hk=>?_⟩
  ·by_cases hkj:k=j
   ·exact hkj▸hj
   ·exact h.live k y ((cE hpc j x k y hkj).1 hk)
  ·by_cases hkj:k=j
   ·subst hkj;rw[dJ]at hk;simp at hk;subst hk;exact dJ _ _ _
   ·have jl:=(cE hpc j x k y hkj).1 hk;have gD:g k≠g j:=fun e=>hkj (Vr k j (h.live k y jl) hj e);exact(cE hp (g j) _ (g k) _ gD).2 (h.fwd k y jl)
  ·by_cases hij:i=g j
   ·subst hij;exact .inl ⟨j,x,dJ _ _ _,rfl⟩
   ·rcases h.bwd i z ((cE hp (g j) _ i z hij).1 hi)with⟨k,y,hk,e⟩|k
    ·refine .inl ⟨k,y,(cE hpc j x k y fun e'=>hij ?_).2 hk,e⟩;rw[← e,e']
    ·exact .inr k
  ·by_cases hkj:k=j
   ·subst hkj;rw[dJ]at hk;simp at hk;subst hk;have:=hn e;simp only[List.all_cons,Bool.and_eq_true]at this;exact this.1
   ·exact h.nr e k y ((cE hpc j x k y hkj).1 hk)
structure ao where
 tys:List (Option Ty)
 run:List LV→Hp→Out
def aaG(P:Program)(f:FuncId)(args:List LV)(hp:Hp)(R:LV→Hp→Prop):Prop:=
 ∀ (β:Env) (w:World) (vals:List Value),bB w hp β β hp w→bX (LV.den β (kd hp)) args vals→
  Vi P f vals.toArray w fun e w'=>∃val β' r dI,e= .returned val∧R r dI∧r.den β' (kd dI) val∧bB w hp β β' dI w'
theorem iA.done{P:Program}{f:FuncId}(he:vt P f){args:List LV}{hp:Hp}{R:LV→Hp→Prop}(h:iA P f args hp R):aaG P f args hp R:=
 fun β w vals hh ha=>.inr ⟨he,h β w vals hh ha⟩
structure ao.Ok (P:Program) (f:FuncId) (e:ao):Prop where
 calls:∀args hp Q,(e.run args hp).holds Q→aaG P f args hp fun v dI=>∃d,Q v d∧dI=aV d hp
def Out.back(g vb:Nat→Nat)(lent:Bool):Out→Out
 | .leaf q v d=>if lent=true∧(v.nr&&d.all fun p=>p.2.nr)=false then .fail else .leaf q (v.cq (.bwd g vb)) (Dp g vb d)
 | .ite b x y=>.ite b (x.back g vb lent) (y.back g vb lent)
 | .fail=>.fail
theorem rF{g vb:Nat→Nat}{lent:Bool}{id:Nat}{hp:Hp}{Q:LV→List (Nat×Item)→Prop}:∀ {o:Out},(o.back g vb lent).fresh id hp→(o.back g vb lent).holds Q→
  o.holds fun v d=>(lent=true→v.nr=true∧(d.all fun p=>p.2.nr)=true)∧Rl id hp (Dp g vb d)∧Q (v.cq (.bwd g vb)) (Dp g vb d)
 | .leaf q v d,hf,h=>by
  simp only[Out.back]at hf h
  split at h
  ·exact h.elim
  ·rename_i hc;rw[if_neg hc]at hf;refine⟨h.1,fun e=>?_,hf,h.2⟩
   have:(v.nr&&d.all fun p=>p.2.nr)=true:=by
    cases hx:(v.nr&&d.all fun p=>p.2.nr)with
    |true=>rfl
    |false=>exact absurd ⟨e,hx⟩ hc
   simpa using this
 | .ite b x y,hf,h=>⟨fun e=>rF hf.1 (h.1 e),fun e=>rF hf.2 (h.2 e)⟩
 | .fail,_,h=>h
def wW(ids:List Nat)(id:Nat)(j:Nat):Nat:=match ids[j]? with
 |some i=>i
 |none=>id+(j-ids.length)
def Rs(e:ao)(id:Nat)(args:List LV):Ask Out:=
 (fP e.tys args).bind fun x=>match x with
 |none=>.ret .fail
 |some (HJ,lids)=>(rE 1000 (HJ.flatMap LV.refs) [] []).bind fun y=>match y with
  |none=>.ret .fail
  |some (ids,xs)=>
   if lids.any (fun i=>decide (i∈ids))=true∨(e.tys.any (·.isSome)=true∧xs.all Item.nr=false)then .ret .fail
   else if xs.all (Item.cur (oo ids xs))=false then .ret .fail
   else .ret ((e.run (HJ.map (LV.cq (wV ids xs))) (iC ids xs)).back (wW ids id) (oo ids xs) (e.tys.any (·.isSome)))
noncomputable section
variable {α:Type}
def rG(hp:Hp)(ids:List Nat)(id:Nat)(F F0:Nat→α)(i:Nat):α:=match jv ids i with
 |some j=>F j
 |none=>if kd hp i=none∧id≤i then F (ids.length+(i-id))else F0 i
end
theorem aaH{P:Program}{f:FuncId}{e:ao}(he:e.Ok P f){id:Nat}{args:List LV}{hp:Hp}(hf:((Rs e id args).val hp).fresh id hp){Q:LV→List (Nat×Item)→Prop}(h:((Rs e id args).val hp).holds Q)
  {β:Env} {w:World} {vals:List Value} (hh:bB w hp β β hp w) (eA:bX (LV.den β (kd hp)) args vals):
  Vi P f vals.toArray w fun e w'=>∃v d val β',Q v d∧e= .returned val∧v.den β' (kd (aV d hp)) val∧bB w hp β β' (aV d hp) w':=by
 unfold Rs at h hf;rw[Ask.eJ]at h hf
 split at h
 ·exact h.elim
 rename_i HJ lids hl;rw[hl]at hf;simp only at hf;rw[Ask.eJ]at h hf
 split at h
 ·exact h.elim
 rename_i ids xs aaI;rw[aaI]at hf;simp only at hf
 split at h
 ·exact h.elim
 rename_i sO;rw[if_neg sO]at hf
 split at h
 ·exact h.elim
 rename_i hcu;rw[if_neg hcu]at hf;have aG0:xs.all (Item.cur (oo ids xs))=true:=by simpa using hcu
 simp only[Ask.val]at h hf;have MB:∀i∈lids,i∉ids:=fun i hi hm=>sO (.inl (by rw[List.any_eq_true];exact⟨i,hi,by simpa using hm⟩))
 have aG1:e.tys.any (·.isSome)=true→xs.all Item.nr=true:=fun e1=>by
  cases hx:xs.all Item.nr with
  |true=>rfl
  |false=>exact absurd (.inr ⟨e1,hx⟩) sO
 have aBE:∀t,some t∈e.tys→e.tys.any (·.isSome)=true:=fun t ht=>by rw[List.any_eq_true];exact⟨_,ht,rfl⟩
 generalize e.tys.any (·.isSome)=lent at*;have hR:Reached hp (HJ.flatMap LV.refs) ids xs []:=zg 1000 _ [] [] ⟨List.nodup_nil,rfl,fun _ _ _ h=>by simp at h,fun _ h=>by simp at h,fun r h=>.inr h⟩ aaI;generalize Dq:β.can (mM hp β ids) w lent ids=βc;have aG2:bB w (iC ids xs) βc βc (iC ids xs) w:=Dq▸amp hh hR;have wX:vu (wV ids xs) β βc (kd hp) (kd (iC ids xs)) false:=Dq▸HG hR;have hcb:∀ {j i},ids[j]? =some i→βc.b j=β.b i:=fun hj=>by subst Dq;show β.b _=_;rw[gG hj]
 have hch:∀ {j i},ids[j]? =some i→βc.h j=β.h i:=fun hj=>by subst Dq;show β.h _=_;rw[gG hj]
 have av3:bX (LV.den βc (kd (iC ids xs))) (HJ.map (LV.cq (wV ids xs))) vals:=by
  refine jW hh wX (own:=mM hp β ids) hl eA (fun t ht v l dU=>?_) fun b ⟨i,x,h1,h2,h3⟩=>⟨i,x,h1,h2,fun hm=>MB i hm h3⟩;subst Dq;exact .inr ⟨aBE t ht,dU⟩
 refine(he.calls _ _ _ (rF hf h) βc w vals aG2 av3).mono ?_
 rintro en w' ⟨val,βr,r,dI,rfl,⟨d,⟨hnr,av4,hq⟩,rfl⟩,Mx,h'⟩
 have xk:∀ {j i},ids[j]? =some i→wW ids id j=i:=fun hj=>by simp only[wW,hj]
 have HK:∀ {j:Nat},ids.length≤j→wW ids id j=id+(j-ids.length):=by
  intro j hj;have:ids[j]? =none:=List.getElem?_eq_none hj;simp only[wW,this]
 have hlen:(iC ids xs).length=ids.length:=by simp[iC,hR.len]
 have jf:∀ {j x},(j,x)∈d→ids.length≤j→kd hp (wW ids id j)=none:=fun hm hj=>av4 _ _ (HI.2 ⟨_,_,hm,rfl,rfl⟩) (by rw[HK hj];omega)
 let J:Nat→Prop:=fun j=>j<ids.length∨∃x,(j,x)∈d
 let U:Nat→Prop:=fun i=>jv ids i=none
 have aaJ:∀ {j i},ids[j]? =some i→kd hp i≠none:=fun hj e=>by
  obtain⟨x,h1,_⟩:=vA hR hj;rw[dH h1]at e;cases e
 have Vr:∀j k,J j→J k→wW ids id j=wW ids id k→j=k:=by
  intro j k hj hk e
  by_cases h1:j<ids.length<;>by_cases h2:k<ids.length
  ·have e1:=List.getElem?_eq_getElem h1;have e2:=List.getElem?_eq_getElem h2;rw[xk e1,xk e2]at e;have k1:=kx hR.nodup e1;have k2:=kx hR.nodup e2;rw[e,k2]at k1;exact(Option.some.inj k1).symm
  ·have e1:=List.getElem?_eq_getElem h1;obtain⟨x,hx⟩:=hk.resolve_left h2;exact absurd (by rw[← xk e1,e];exact jf hx (by omega)) (aaJ e1)
  ·have e2:=List.getElem?_eq_getElem h2;obtain⟨x,hx⟩:=hj.resolve_left h1;exact absurd (by rw[← xk e2,← e];exact jf hx (by omega)) (aaJ e2)
  ·rw[HK (by omega),HK (by omega)]at e;omega
 have aBF:Mir (wW ids id) (oo ids xs) J U lent hp (iC ids xs) hp:=by
  refine⟨fun j y hj=>.inl ?_,fun j y hj=>?_,fun i x hi=>?_,fun e1 j y hj=>?_⟩
  ·rw[← hlen];exact(List.getElem?_eq_some_iff.1 hj).1
  ·obtain⟨i,x,h1,h2,h3,rfl⟩:=ns hR hj;have hvb:=Dn hR h1 h2;show hp[wW ids id j]? =some (some ((x.cq (wV ids xs) fun _=>0).cq (.bwd (wW ids id) (oo ids xs)) (· +oo ids xs (wW ids id j))));rw[xk h1,Vq (List.all_eq_true.1 aG0 x (List.mem_of_getElem? h3)) hvb fun r hr=>?_]
   ·exact h2
   ·have hm:=(hR.refs x (List.mem_of_getElem? h3) r hr).resolve_right (by simp);obtain⟨k,hk⟩:=zf hm;exact⟨k,hk,xk (gT hk)⟩
  ·cases jn:jv ids i with
   |none=>exact .inr ⟨hi,jn⟩
   |some j=>
    obtain⟨x',h1,h2,h3⟩:=vA hR (gT jn);exact .inl ⟨j,_,h3,xk (gT jn)⟩
  ·obtain⟨i,x,h1,h2,h3,rfl⟩:=ns hR hj;have hx:=aG1 e1;rw[List.all_eq_true]at hx;have hx':=hx x (List.mem_of_getElem? h3)
   cases x with
   |bH cells el=>
    simp only[Item.cq,Item.nr,List.all_map]at hx' ⊢;rw[List.all_eq_true]at hx' ⊢;exact fun s hs=>SV.Rq (hx' s hs)
   |_=>rfl
 have vB:=BL Vr d (fun j x hm=>.inr ⟨x,hm⟩) (fun e1=>(hnr e1).2) aBF;generalize av5:aV (Dp (wW ids id) (oo ids xs) d) hp=hp2 at*;generalize aV d (iC ids xs)=ZS at*
 let β2:Env:=⟨rG hp ids id βr.b β.b,rG hp ids id βr.h β.h,fun pm v t l=>match pm with
  |true=>βr.rd true v t l
  |false=>if lent=true then β.rd false v t l else βr.rd false v t l⟩
 have rH:∀ {α:Type} (F F0:Nat→α) {j:Nat},J j→rG hp ids id F F0 (wW ids id j)=F j:=by
  intro α F F0 j hj
  by_cases h1:j<ids.length
  ·have e1:=List.getElem?_eq_getElem h1;simp only[rG,xk e1,kx hR.nodup e1]
  ·obtain⟨x,hx⟩:=hj.resolve_left h1;have hn:=jf hx (by omega)
   have BE:jv ids (wW ids id j)=none:=by
    cases hq:jv ids (wW ids id j)with
    |none=>rfl
    |some k=>exact absurd hn (aaJ (gT hq))
   simp only[rG,BE];rw[if_pos ⟨hn,by rw[HK (by omega)];omega⟩,HK (by omega)]
   congr 1;omega
 have vC:∀ {α:Type} (F F0:Nat→α) {i:Nat} {k:Kd},kd hp i=some k→jv ids i=none→rG hp ids id F F0 i=F0 i:=by
  intro α F F0 i k hi BE;simp only[rG,BE];rw[if_neg (by rw[hi];simp)]
 have Dr:vu (.bwd (wW ids id) (oo ids xs)) βr β2 (kd ZS) (kd hp2) lent:=by
  refine⟨fun b j hj hb=>?_,fun i j c hj hi=>?_,fun v t l h=>h,fun e1 v t l h=>by show(if lent=true then _ else _:Prop);rw[if_neg (by simp[e1])];exact h⟩
  ·cases hj
   obtain⟨y,h1,h2⟩:=lC hb;exact⟨by rw[dH (vB.fwd _ _ h1),Item.ky,h2];rfl,rH _ _ (vB.live _ _ h1)⟩
  ·cases hj
   obtain⟨y,h1,h2⟩:=lC hi;refine⟨c+oo ids xs (wW ids id i),by rw[dH (vB.fwd _ _ h1),Item.ky,h2];rfl,rH _ _ (vB.live _ _ h1),fun v v' hv he=>?_⟩
   cases he
   exact⟨Nat.add_le_add_right hv _,fun e=>Nat.add_right_cancel e⟩
 have aBG:∀pm v t l,β.rd pm v t l→β2.rd pm v t l:=by
  intro pm v t l hr
  cases pm with
  |true=>exact h'.first.rd true v t l (wX.rdt _ _ _ hr)
  |false=>
   show(if lent=true then _ else _:Prop)
   split
   ·exact hr
   ·exact h'.first.rd false v t l (wX.rdf rfl _ _ _ hr)
 have Ds:∀ {i x b},hp[i]? =some (some x)→jv ids i=none→cw β x i b→b<w.heap.size∧¬mM hp β ids b:=by
  intro i x b hi BE ho;refine⟨(hh.items i x hi).lt ho,fun⟨k,y,h1,h2,h3⟩=>?_⟩;have:=hh.inj i k x y b hi h1 ho h2;subst this;exact BI BE h3
 have aaK:∀ {b},b<w.heap.size→¬mM hp β ids b→w'.heap[b]? =w.heap[b]? :=fun hb hn=>h'.al _ hb fun k=>hn (pY hR (Dq▸k))
 have arR:∀ {i x},hp[i]? =some (some x)→jv ids i=none→hp2[i]? =some (some x):=by
  intro i x hi BE
  have:i∉(Dp (wW ids id) (oo ids xs) d).map (·.1):=by
   intro hm;obtain⟨⟨i',z⟩,h1,h2⟩:=List.mem_map.1 hm;simp at h2;subst h2;obtain⟨j,y,h3,e1,e2⟩:=HI.1 h1
   by_cases hj:j<ids.length
   ·have k1:=List.getElem?_eq_getElem hj;have:=BI BE;exact this (by rw[e1,xk k1];exact List.getElem_mem hj)
   ·have:=jf h3 (by omega);rw[← e1,dH hi]at this;cases this
  rw[← av5];exact aB (by rw[eR this];exact pO hi)
 have qO:cb β β2 (kd hp) (kd hp2):=by
  refine⟨fun i hi=>?_,fun i c hi=>?_,aBG⟩
  ·obtain⟨x,hx,hk⟩:=lC hi
   cases jn:jv ids i with
   |none=>exact⟨by rw[dH (arR hx jn),hk],vC _ _ hi jn⟩
   |some j=>
    have h1:=gT jn;obtain⟨k1,k2⟩:=wX.bH _ _ jn hi;obtain⟨k3,k4⟩:=h'.first.bH _ k1;obtain⟨k5,k6⟩:=Dr.bH _ _ rfl k3;rw[xk h1]at k5 k6;exact⟨k5,by rw[k6,k4,k2]⟩
  ·obtain⟨x,hx,hk⟩:=lC hi
   cases jn:jv ids i with
   |none=>exact⟨c,by rw[dH (arR hx jn),hk],Nat.le_refl _,fun _=>vC _ _ hi jn⟩
   |some j=>
    have h1:=gT jn;have hvb:=Dn hR h1 hx
    have hck:x.ver=c:=by
     cases x with
     |bH _ _=>cases hk
     |own _ _ _=>cases hk;rfl
     |gone _=>cases hk;rfl
    obtain⟨y,y1,_,y3⟩:=vA hR h1;rw[hx]at y1;cases y1;have k1:kd (iC ids xs) j=some (.own 0):=(by rw[dH y3,Item.ky,hk];rfl);have k2:βc.h j=β.h i:=hch h1;obtain⟨c',k3,k4,k4'⟩:=h'.first.own _ _ k1;have hg:wW ids id j=i:=xk h1;obtain⟨z,z1,z2⟩:=lC k3
    have k5:kd hp2 i=some (.own (c'+c)):=by
     have:=vB.fwd _ _ z1;rw[hg]at this;rw[dH this,Item.ky,z2,hg,hvb,hck];rfl
    have k6:β2.h i=βr.h j:=(by rw[← hg];exact rH _ _ (vB.live _ _ z1));exact⟨c'+c,k5,by omega,fun e1=>by rw[k6,k4' (by omega),k2]⟩
 have hgo:∀ {j y b},ZS[j]? =some (some y)→(cw β2 (y.bk (wW ids id) (oo ids xs) j) (wW ids id j) b↔cw βr y j b):=fun hj=>cw.cq (rH _ _ (vB.live _ _ hj)) (rH _ _ (vB.live _ _ hj));have huo:∀ {i x b},hp[i]? =some (some x)→jv ids i=none→(cw β2 x i b↔cw β x i b):=fun hi BE=>cw.congr (vC _ _ (dH hi) BE) (vC _ _ (dH hi) BE);have aaL:∀ {j y b},ZS[j]? =some (some y)→cw βr y j b→w.heap.size≤b∨mM hp β ids b:=fun hj ho=>(h'.own _ _ _ hj ho).imp (fun h=>h) fun⟨y,k⟩=>pY (own:=mM hp β ids) (w:=w) (lent:=lent) hR (Dq.symm▸⟨_,y,k⟩)
 have zi:∀ {i z},hp2[i]? =some (some z)→(∃j y,ZS[j]? =some (some y)∧i=wW ids id j∧z=y.bk (wW ids id) (oo ids xs) j)∨(hp[i]? =some (some z)∧jv ids i=none):=by
  intro i z hi;rcases vB.bwd i z hi with⟨j,y,h1,h2⟩|h1
  ·have:=vB.fwd j y h1;rw[h2,hi]at this;exact .inl ⟨j,y,h1,h2.symm,by simpa using this⟩
  ·exact .inr h1
 have Rt:∀ {b},gh hp2 β2 b→gh ZS βr b∨∃i x,hp[i]? =some (some x)∧jv ids i=none∧cw β x i b:=by
  rintro b ⟨i,z,hi,ho⟩
  rcases zi hi with⟨j,y,h1,rfl,rfl⟩|⟨h1,h2⟩
  ·exact .inl ⟨j,y,h1,(hgo h1).1 ho⟩
  ·exact .inr ⟨i,z,h1,h2,(huo h1 h2).1 ho⟩
 refine⟨r.cq (.bwd (wW ids id) (oo ids xs)),Dp (wW ids id) (oo ids xs) d,val,β2,hq,rfl,?_,?_⟩
 ·rw[av5];exact LV.gr Dr (fun e1=>(hnr e1).1) Mx
 rw[av5];refine⟨fun i z hi=>?_,fun i k x y b hi hk h1 h2=>?_,qO,fun i z b hi ho=>?_,h'.os,h'.output,h'.size,fun b hb aG4=>?_,fun pm v t l hr=>?_,fun pm v t l b hr hb=>?_⟩
 ·rcases zi hi with⟨j,y,h1,rfl,rfl⟩|⟨h1,h2⟩
  ·exact fw.Dl Dr (fun e1=>vB.nr e1 _ _ h1) (fun _=>rH _ _ (vB.live _ _ h1)) (fun _ _=>rH _ _ (vB.live _ _ h1)) (h'.items j y h1)
  ·exact(hh.items i z h1).of qO (vC _ _ (dH h1) h2) (vC _ _ (dH h1) h2) fun b ho=>aaK (Ds h1 h2 ho).1 (Ds h1 h2 ho).2
 ·rcases zi hi with⟨j,y',a1,rfl,rfl⟩|⟨a1,a2⟩<;>rcases zi hk with⟨j2,y2,b1,rfl,rfl⟩|⟨b1,b2⟩
  ·rw[h'.inj j j2 y' y2 b a1 b1 ((hgo a1).1 h1) ((hgo b1).1 h2)]
  ·have k1:=Ds b1 b2 ((huo b1 b2).1 h2);rcases aaL a1 ((hgo a1).1 h1)with k2|k2
   ·omega
   ·exact absurd k2 k1.2
  ·have k1:=Ds a1 a2 ((huo a1 a2).1 h1);rcases aaL b1 ((hgo b1).1 h2)with k2|k2
   ·omega
   ·exact absurd k2 k1.2
  ·exact hh.inj i k x y b a1 b1 ((huo a1 a2).1 h1) ((huo b1 b2).1 h2)
 ·rcases zi hi with⟨j,y,a1,rfl,rfl⟩|⟨a1,a2⟩
  ·refine(h'.own _ _ _ a1 ((hgo a1).1 ho)).imp (fun h=>h) fun⟨y2,k1,k2⟩=>?_;obtain⟨i',x',e1,e2,_,rfl⟩:=ns hR k1;rw[xk e1];exact⟨x',e2,(cw.cq (hcb e1) (hch e1)).1 k2⟩
  ·exact .inr ⟨z,a1,(huo a1 a2).1 ho⟩
 ·exact aaK hb fun⟨k,x,k1,k2,_⟩=>aG4 ⟨k,x,k1,k2⟩
 ·have arS:∀ {b},(b<w'.heap.size∧¬gh ZS βr b)→(∀i x,hp[i]? =some (some x)→jv ids i=none→¬cw β x i b)→b<w'.heap.size∧¬gh hp2 β2 b:=by
   rintro b ⟨h1,h2⟩ h3
   refine⟨h1,fun k=>?_⟩;rcases Rt k with k|⟨i,x,k1,k2,k3⟩
   ·exact h2 k
   ·exact h3 i x k1 k2 k3
  have aBH:∀ {pm v t l b},(pm=true∨lent=false)→βr.rd pm v t l→inBlock v b→∀i x,hp[i]? =some (some x)→jv ids i=none→¬cw β x i b:=by
   intro pm v t l b Ms hr hb i x hi BE ho;have dU:=(hh.items i x hi).lt ho;rcases h'.from_ pm v t l b hr hb with k|⟨ly,v',t',l',k0,k1,k2⟩
   ·omega
   ·have k1':β.rd ly v' t' l':=by
     subst Dq
     cases ly with
     |true=>exact k1
     |false=>
      rcases Ms with Ms|Ms
      ·cases k0 Ms
      ·rcases k1 with k1|⟨k1,_⟩
       ·exact k1
       ·rw[Ms]at k1;cases k1
    exact(hh.reads _ _ _ _ k1').2 b k2 |>.2 ⟨i,x,hi,ho⟩
  have av6:∀ {pm v t l},β.rd pm v t l→ca β2 pm w' v t l∧∀b,inBlock v b→b<w'.heap.size∧¬gh hp2 β2 b:=by
   intro pm v t l hr;obtain⟨h1,h2⟩:=hh.reads _ _ _ _ hr;refine⟨(h1.of fun b hb dU=>aaK dU fun⟨k,x,k1,k2,_⟩=>(h2 b hb).2 ⟨k,x,k1,k2⟩).mono aBG,fun b hb=>?_⟩;refine⟨Nat.lt_of_lt_of_le (h2 b hb).1 h'.size,fun k=>?_⟩;rcases Rt k with⟨j,y,k1,k2⟩|⟨i,x,k1,k2,k3⟩
   ·rcases aaL k1 k2 with k3|⟨i,x,k3,k4,_⟩
    ·have:=(h2 b hb).1;omega
    ·exact(h2 b hb).2 ⟨i,x,k3,k4⟩
   ·exact(h2 b hb).2 ⟨i,x,k1,k3⟩
  cases pm with
  |true=>
   obtain⟨h1,h2⟩:=h'.reads true v t l hr;refine⟨?_,fun b hb=>arS (h2 b hb) (aBH (.inl rfl) hr hb)⟩;obtain⟨a,n,c,rfl,hn,hc,hz,hrr⟩:=h1;refine⟨a,n,c,rfl,hn,hc,hz,fun h0=>?_⟩;obtain⟨a0,eH,rfl,k1,k2,k3⟩:=hrr h0;exact⟨a0,eH,rfl,k1,k2.imp fun _ _=>t.jU Dr.rdt,k3⟩
  |false=>
   have ov:(if lent=true then β.rd false v t l else βr.rd false v t l):=hr
   split at ov
   ·exact av6 ov
   ·rename_i Ma;have av7:lent=false:=(by simpa using Ma);obtain⟨h1,h2⟩:=h'.reads false v t l ov;refine⟨h1.mono fun pm v t l hr=>?_,fun b hb=>arS (h2 b hb) (aBH (.inr av7) ov hb)⟩
    cases pm with
    |true=>exact hr
    |false=>show(if lent=true then _ else _:Prop);rw[if_neg Ma];exact hr
 ·have arT:∀ {ly v' t' l'},βc.rd ly v' t' l'→(ly=true∨lent=false)→β.rd ly v' t' l':=by
   intro ly v' t' l' k1 Ms;subst Dq
   cases ly with
   |true=>exact k1
   |false=>
    rcases k1 with k1|⟨k1,_⟩
    ·exact k1
    ·rcases Ms with Ms|Ms
     ·cases Ms
     ·rw[Ms]at k1;cases k1
  cases pm with
  |true=>
   rcases h'.from_ true v t l b hr hb with k|⟨ly,v',t',l',k0,k1,k2⟩
   ·exact .inl k
   ·exact .inr ⟨ly,v',t',l',k0,arT k1 (.inl (k0 rfl)),k2⟩
  |false=>
   have ov:(if lent=true then β.rd false v t l else βr.rd false v t l):=hr
   split at ov
   ·exact .inr ⟨false,v,t,l,(fun h=>h),ov,hb⟩
   ·rename_i Ma;have av7:lent=false:=(by simpa using Ma);rcases h'.from_ false v t l b ov hb with k|⟨ly,v',t',l',k0,k1,k2⟩
    ·exact .inl k
    ·exact .inr ⟨ly,v',t',l',k0,arT k1 (.inr av7),k2⟩
def look(f:FuncId):List (FuncId×ao)→Option ao
 | []=>none
 |(g,e)::l=>if g=f then some e else look f l
def Ru(tab:List (FuncId×ao)):y5:=⟨fun f id args=>match look f tab with
 |some e=>Rs e id args
 |none=>.ret .fail⟩
theorem Rv{P:Program}:∀ {tab:List (FuncId×ao)} {f:FuncId} {e:ao},(∀p∈tab,p.2.Ok P p.1)→look f tab=some e→e.Ok P f
 | [],_,_,_,h=>by cases h
 |(g,e')::l,f,e,hp,h=>by
  simp only[look]at h
  split at h
  ·rename_i hg;subst hg;obtain rfl:=Option.some.inj h;exact hp (g,e') (by simp)
  ·exact Rv (fun p hm=>hp p (List.mem_cons_of_mem _ hm)) h
theorem aaM{P:Program}{tab:List (FuncId×ao)}(h:∀p∈tab,p.2.Ok P p.1):GOk P (Ru tab):=by
 refine⟨fun f id args hp hf Q hq W an β₀ β w vals hh eA=>?_⟩;simp only[Ru]at hf hq
 split at hq
 ·rename_i e he;rw[he]at hf;have qP:=Rv h he;refine(aaH qP hf hq hh.self eA).mono ?_
  rintro en w' ⟨v,d,val,β',h1,h2,h3,h4⟩
  exact⟨v,d,val,β',h1,h2,h3,hh.trans h4,h4.first⟩
 ·exact hq.elim
end Go.Ev
end
