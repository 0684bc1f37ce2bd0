/- What the laws lean on, part 5: a reader of code, plain facts, and what each function gives; no conditions. -/
import Derived.Test.YtnbkagglkajbkaaGreatA4
set_option linter.unusedVariables false
set_option linter.unusedSimpArgs false
noncomputable section
namespace Go.Ev
open Go
open Go.IntKind (i64 signed u16 u64 wrap)
def jH:List Nat→Nat→Option Nat
 | [],_=>none
 |x::l,i=>if x=i then some 0 else(jH l i).map (· +1)
theorem gX:∀ {l:List Nat} {i j:Nat},jH l i=some j→l[j]? =some i
 | [],_,_,h=>by cases h
 |x::l,i,j,h=>by
  simp only[jH]at h
  split at h
  ·rename_i e;subst e;simp at h;subst h;rfl
  ·obtain⟨k,hk,rfl⟩:=map_some h;simpa using gX hk
theorem Bg:∀ {l:List Nat} {i:Nat},i∈l→∃j,jH l i=some j
 |x::l,i,h=>by
  simp only[jH]
  split
  ·exact⟨0,rfl⟩
  ·rename_i gJ;obtain⟨j,hj⟩:=Bg (l:=l) (i:=i) (by simpa [Ne.symm gJ]using h);exact⟨j+1,by rw[hj];rfl⟩
theorem kW:∀ {l:List Nat} {j i:Nat},l.Nodup→l[j]? =some i→jH l i=some j
 | [],_,_,_,h=>by simp at h
 |x::l,0,i,_,h=>by simp at h;subst h;simp[jH]
 |x::l,j+1,i,hn,h=>by
  simp at h;have hi:i∈l:=List.mem_of_getElem? h;have gJ:x≠i:=fun e=>by subst e;exact(List.nodup_cons.1 hn).1 hi
  simp only[jH,if_neg gJ,kW (List.nodup_cons.1 hn).2 h];rfl
theorem E0{l:List Nat}{i:Nat}(h:jH l i=none):i∉l:=fun hm=>by
 obtain⟨j,hj⟩:=Bg hm;rw[hj]at h;cases h
structure uw where
 f:Nat→Option Nat
 o:Nat→Nat→Option Nat
def SV.bY(f:uw):SV→SV
 | .ptr b o=>match f.f b with|some j=>.ptr j o|none=>.bd
 | .xc b base st n z=>match f.f b with|some j=>.xc j base st n z|none=>.bd
 | .slice b o l c=>match f.f b with|some j=>.slice j o l c|none=>.bd
 | .sl i v=>match f.f i with|some j=>(match f.o i v with|some u=>.sl j u|none=>.bd)|none=>.bd
 | .vw i v w z n=>match f.f i with|some j=>(match f.o i v with|some u=>.vw j u w z n|none=>.bd)|none=>.bd
 | .vb b o t m z n=>match f.f b with|some j=>.vb j o t m z n|none=>.bd
 | .ep s w z g=>.ep (s.bY f) w z g
 |s=>s
def VV.bY(f:uw):VV→VV
 | .sc s=>.sc (s.bY f)
 | .agg l=>.agg (l.map (SV.bY f))
def LV.bY(f:uw):LV→LV
 | .one x=>.one (x.bY f)
 | .cj l=>.cj (l.map (VV.bY f))
 | .bd=>.bd
def Item.bY(f:uw)(u:Nat→Nat):Item→Item
 | .aW cells e=>.aW (cells.map (SV.bY f)) e
 | .own v t l=>.own (u v) t l
 | .gone v=>.gone (u v)
def SV.refs:SV→List Nat
 | .ptr b _| .xc b _ _ _ _| .slice b _ _ _| .sl b _| .vw b _ _ _ _| .vb b _ _ _ _ _=> [b]
 | .ep s _ _ _=>s.refs
 |_=> []
def VV.refs:VV→List Nat
 | .sc s=>s.refs
 | .agg l=>l.flatMap SV.refs
def LV.refs:LV→List Nat
 | .one x=>x.refs
 | .cj l=>l.flatMap VV.refs
 | .bd=> []
def Item.refs:Item→List Nat
 | .aW cells _=>cells.flatMap SV.refs
 |_=> []
def SV.nr:SV→Bool
 | .rd pm _ _ _=>pm
 | .ep s _ _ _=>s.nr
 |_=>true
def VV.nr:VV→Bool
 | .sc s=>s.nr
 | .agg l=>l.all SV.nr
def LV.nr:LV→Bool
 | .one x=>x.nr
 | .cj l=>l.all VV.nr
 | .bd=>true
def Item.nr:Item→Bool
 | .aW cells _=>cells.all SV.nr
 |_=>true
def Kd.up(u:Nat→Nat):Kd→Kd
 | .aW=>.aW
 | .own c=>.own (u c)
theorem Item.kX(f:uw)(u:Nat→Nat)(x:Item):(x.bY f u).kd=x.kd.up u:=by cases x<;>rfl
structure xp (f:uw) (β β':Env) (L L':Nat→Option Kd) (nr:Bool):Prop where
 aW:∀b j,f.f b=some j→L b=some .aW→L' j=some .aW∧β'.b j=β.b b
 own:∀i j c,f.f i=some j→L i=some (.own c)→∃c',L' j=some (.own c')∧β'.h j=β.h i∧∀v v',v≤c→f.o i v=some v'→v'≤c'∧(v'=c'→v=c)
 rdt:∀v t l,β.rd true v t l→β'.rd true v t l
 rdf:nr=false→∀v t l,β.rd false v t l→β'.rd false v t l
noncomputable section
variable {f:uw} {β β':Env} {L L':Nat→Option Kd} {nr:Bool}
theorem zf.GS(h:xp f β β' L L' nr){pm:Bool}{v:Value}{t:Ty}{l:List t.D}(hn:nr=true→pm=true)(hr:zf β pm v t l):zf β' pm v t l:=by
 rcases hr with hr|⟨rfl,hr⟩|hr
 ·exact .inl (h.rdt _ _ _ hr)
 ·cases nr with
  |true=>exact absurd (hn rfl) (by simp)
  |false=>exact .inr (.inl ⟨rfl,h.rdf rfl _ _ _ hr⟩)
 ·exact .inr (.inr hr)
theorem Ty.ka(h:∀v t l,β.rd true v t l→β'.rd true v t l):∀ (t:Ty) {x:t.D} {vs:List Value},t.has β true x vs→t.has β' true x vs
 | .int _,_,_,h=>h
 | .bool,_,_,h=>h
 | .xb,_,_,h=>h
 | .str,_,_,h=>h
 | .sl _,_,_,⟨v,h1,h2,h3⟩=>⟨v,h1,h2,by
  rcases h3 with h3|⟨h3,_⟩|h3
  ·exact .inl (h _ _ _ h3)
  ·cases h3
  ·exact .inr (.inr h3)⟩
 | .pair a b,_,_,⟨u,w,h0,h1,h2⟩=>⟨u,w,h0,a.ka h h1,b.ka h h2⟩
 | .arr t _,_,_,⟨h1,h2⟩=>⟨h1,h2.imp fun _ _=>t.ka h⟩
theorem SV.gr(h:xp f β β' L L' nr):∀ {s:SV} {v:Value},(nr=true→s.nr=true)→s.den β L v→(s.bY f).den β' L' v
 | .int _ _,_,_,hd=>hd
 | .bool _,_,_,hd=>hd
 | .xb _,_,_,hd=>hd
 | .str _,_,_,hd=>hd
 | .iM _,_,_,hd=>hd
 | .bd,_,_,hd=>hd
 | .arr _ _ _,_,_,hd=>hd.elim
 | .rd _ _ _ _,_,hn,⟨h1,h2,h3⟩=>⟨h1,h2,h3.GS h hn⟩
 | .ptr b o,v,_,hd=>by
  simp only[SV.bY]
  split
  ·rename_i j hj;obtain⟨k1,k2⟩:=h.aW b j hj hd.1;exact⟨k1,by rw[k2];exact hd.2⟩
  ·exact SV.bw hd
 | .xc b base st n z,v,_,hd=>by
  simp only[SV.bY]
  split
  ·rename_i j hj;obtain⟨k1,k2⟩:=h.aW b j hj hd.1;exact⟨k1,hd.2.1,by rw[k2];exact hd.2.2⟩
  ·exact SV.bw hd
 | .slice b o l c,v,_,hd=>by
  simp only[SV.bY]
  split
  ·rename_i j hj;obtain⟨k1,k2⟩:=h.aW b j hj hd.1;exact⟨k1,by rw[k2];exact hd.2⟩
  ·exact SV.bw hd
 | .sl i ver,v,_,hd=>by
  simp only[SV.bY]
  split
  ·rename_i j hj
   split
   ·rename_i u hu;obtain⟨h1,c,h2,h3,h4⟩:=hd;obtain⟨c',k1,k2,k3⟩:=h.own i j c hj h2;obtain⟨k4,k5⟩:=k3 ver u h3 hu;exact⟨h1,c',k1,k4,fun e=>by rw[k2];exact h4 (k5 e)⟩
   ·exact SV.bw hd
  ·exact SV.bw hd
 | .vw i ver w z n,v,_,hd=>by
  simp only[SV.bY]
  split
  ·rename_i j hj
   split
   ·rename_i u hu;obtain⟨h1,c,h2,h3,h4⟩:=hd;obtain⟨c',k1,k2,k3⟩:=h.own i j c hj h2;obtain⟨k4,k5⟩:=k3 ver u h3 hu;exact⟨h1,c',k1,k4,fun e=>by rw[k2];exact h4 (k5 e)⟩
   ·exact SV.bw hd
  ·exact SV.bw hd
 | .vb b o t m z n,v,_,hd=>by
  simp only[SV.bY]
  split
  ·rename_i j hj;obtain⟨h1,h2⟩:=hd;obtain⟨k1,k2⟩:=h.aW b j hj h1;exact⟨k1,by rw[k2];exact h2⟩
  ·exact SV.bw hd
 | .ep s w z g,v,hn,⟨a,n,c,h1,h2⟩=>⟨a,n,c,SV.gr h hn h1,h2⟩
theorem bf.GS(h:xp f β β' L L' nr){l:List SV}{vs:List Value}(hn:nr=true→l.all SV.nr=true)(hd:bf β L l vs):bf β' L' (l.map (SV.bY f)) vs:=by
 induction l generalizing vs with
 |nil=>cases hd;exact aU.nil
 |cons s l ih=>
  have hn1:nr=true→s.nr=true:=fun e=>by have:=hn e;simp only[List.all_cons,Bool.and_eq_true]at this;exact this.1
  have hn2:nr=true→l.all SV.nr=true:=fun e=>by have:=hn e;simp only[List.all_cons,Bool.and_eq_true]at this;exact this.2
  cases hd with
  |cons h1 h2=>
   refine aU.cons ?_ (ih hn2 h2)
   cases s with
   |arr t n x=>exact⟨h1.1,h1.2.imp fun _ _=>t.ka h.rdt⟩
   |_=>
    obtain⟨v,rfl,h3⟩:=h1;exact SV.tR (SV.gr h hn1 h3)
theorem VV.gr(h:xp f β β' L L' nr){s:VV}{v:Value}(hn:nr=true→s.nr=true)(hd:s.den β L v):(s.bY f).den β' L' v:=by
 cases s with
 |sc s=>exact SV.gr h hn hd
 |agg l=>obtain⟨cs,rfl,hd⟩:=hd;exact⟨cs,rfl,bf.GS h hn hd⟩
theorem LV.gr(h:xp f β β' L L' nr){s:LV}{v:Value}(hn:nr=true→s.nr=true)(hd:s.den β L v):(s.bY f).den β' L' v:=by
 cases s with
 |one x=>exact VV.gr h hn hd
 |cj l=>
  obtain⟨vs,rfl,hd⟩:=hd;refine⟨vs,rfl,?_⟩;simp only[LV.nr]at hn
  induction hd with
  |nil=>exact .nil
  |cons h1 h2 ih=>
   exact .cons (VV.gr h (fun e=>by have:=hn e;simp only[List.all_cons,Bool.and_eq_true]at this;exact this.1) h1) (ih fun e=>by have:=hn e;simp only[List.all_cons,Bool.and_eq_true]at this;exact this.2)
 |bd=>trivial
theorem fx.GS(h:xp f β β' L L' nr){w:World}{i j:Nat}{x:Item}{u:Nat→Nat}(hn:nr=true→x.nr=true)(hb:x.kd= .aW→β'.b j=β.b i)(hh:∀c,x.kd= .own c→β'.h j=β.h i)(hd:fx β L w i x):fx β' L' w j (x.bY f u):=by
 cases x with
 |aW cells e=>
  obtain⟨c,fz,h1,h2,h3⟩:=hd;exact⟨c,fz,by rw[hb rfl];exact h1,h2,bf.GS h hn h3⟩
 |own ver t l=>
  show dE β' w (β'.h j) t l;rw[hh ver rfl];obtain⟨a,n,c,e,h1,h2,h3,h4⟩:=(hd:dE β w (β.h i) t l);refine⟨a,n,c,e,h1,h2,h3,fun h0=>?_⟩;obtain⟨a0,pre,eD,rest,elem,fz,k0,k1,k2,k3,k4,k5⟩:=h4 h0;exact⟨a0,pre,eD,rest,elem,fz,k0,k1,k2,k3,k4.imp fun _ _=>t.ka h.rdt,k5⟩
 |gone v=>trivial
end
def SV.cur(vb:Nat→Nat):SV→Bool
 | .sl i v| .vw i v _ _ _=>v==vb i
 | .ep s _ _ _=>s.cur vb
 |_=>true
def Item.cur(vb:Nat→Nat):Item→Bool
 | .aW cells _=>cells.all (SV.cur vb)
 |_=>true
def uw.fwd(f:Nat→Option Nat)(vb:Nat→Nat):uw:=⟨f,fun i v=>if v=vb i then some 0 else none⟩
def uw.bwd(g:Nat→Nat)(vb:Nat→Nat):uw:=⟨fun j=>some (g j),fun j v=>some (v+vb (g j))⟩
theorem E1{f:Nat→Option Nat}{g vb:Nat→Nat}:∀ {s:SV},s.cur vb=true→(∀r∈s.refs,∃j,f r=some j∧g j=r)→(s.bY (.fwd f vb)).bY (.bwd g vb)=s
 | .ptr b o,_,h=>by obtain⟨j,h1,h2⟩:=h b (by simp[SV.refs]);simp only[SV.bY,uw.fwd,uw.bwd,h1,h2]
 | .xc b base st n z,_,h=>by obtain⟨j,h1,h2⟩:=h b (by simp[SV.refs]);simp only[SV.bY,uw.fwd,uw.bwd,h1,h2]
 | .slice b o l c,_,h=>by obtain⟨j,h1,h2⟩:=h b (by simp[SV.refs]);simp only[SV.bY,uw.fwd,uw.bwd,h1,h2]
 | .sl b v,hc,h=>by
  obtain⟨j,h1,h2⟩:=h b (by simp[SV.refs]);have e:v=vb b:=by simpa [SV.cur]using hc
  subst e;simp[SV.bY,uw.fwd,uw.bwd,h1,h2]
 | .vw b v w z n,hc,h=>by
  obtain⟨j,h1,h2⟩:=h b (by simp[SV.refs]);have e:v=vb b:=by simpa [SV.cur]using hc
  subst e;simp[SV.bY,uw.fwd,uw.bwd,h1,h2]
 | .vb b o t m z n,_,h=>by obtain⟨j,h1,h2⟩:=h b (by simp[SV.refs]);simp only[SV.bY,uw.fwd,uw.bwd,h1,h2]
 | .ep s w z g',hc,h=>by simp only[SV.bY];rw[E1 (s:=s) hc h]
 | .int _ _,_,_| .bool _,_,_| .xb _,_,_| .str _,_,_| .iM _,_,_| .bd,_,_| .arr _ _ _,_,_| .rd _ _ _ _,_,_=>rfl
def Item.ver:Item→Nat
 | .aW _ _=>0
 | .own v _ _| .gone v=>v
theorem Zq{f:Nat→Option Nat}{g vb:Nat→Nat}{x:Item}{i:Nat}(hc:x.cur vb=true)(hv:vb i=x.ver)(h:∀r∈x.refs,∃j,f r=some j∧g j=r):(x.bY (.fwd f vb) fun _=>0).bY (.bwd g vb) (· +vb i)=x:=by
 cases x with
 |aW cells e=>
  have hm:(cells.map (SV.bY (.fwd f vb))).map (SV.bY (.bwd g vb))=cells:=by
   rw[List.map_map];simp only[Item.cur,List.all_eq_true]at hc;have:=List.map_congr_left (l:=cells) (f:=SV.bY (.bwd g vb)∘SV.bY (.fwd f vb)) (g:=id) fun s hs=>E1 (hc s hs) fun r hr=>h r (by simp only[Item.refs,List.mem_flatMap];exact⟨s,hs,hr⟩);rw[this,List.map_id]
  simp only[Item.bY,hm]
 |own v t l=>simp only[Item.bY,Nat.zero_add,hv,Item.ver]
 |gone v=>simp only[Item.bY,Nat.zero_add,hv,Item.ver]
theorem SV.VL{f:uw}:∀ {s:SV},s.nr=true→(s.bY f).nr=true
 | .ptr b o,_=>by simp only[SV.bY];split<;>rfl
 | .xc ..,_=>by simp only[SV.bY];split<;>rfl
 | .slice ..,_=>by simp only[SV.bY];split<;>rfl
 | .sl ..,_=>by simp only[SV.bY];split<;>(try split)<;>rfl
 | .vw ..,_=>by simp only[SV.bY];split<;>(try split)<;>rfl
 | .vb ..,_=>by simp only[SV.bY];split<;>rfl
 | .ep s w z g,h=>SV.VL (s:=s) h
 | .int _ _,h| .bool _,h| .xb _,h| .str _,h| .iM _,h| .bd,h| .arr _ _ _,h| .rd _ _ _ _,h=>h
def sU:Nat→List Nat→List Nat→List Item→Ask (Option (List Nat×List Item))
 |0,_,_,_=>.ret none
 |_+1,[],acc,Qc=>.ret (some (acc,Qc))
 |n+1,i::todo,acc,Qc=>if i∈acc then sU n todo acc Qc else
   .get i fun x=>match x with
    |some x=>sU n (x.refs++todo) (acc++ [i]) (Qc++ [x])
    |none=>.ret none
structure Reached (hp:Hp) (roots acc:List Nat) (Qc:List Item) (todo:List Nat):Prop where
 nodup:acc.Nodup
 len:acc.length=Qc.length
 at_:∀ (j:Nat) (i:Nat) (x:Item),acc[j]? =some i→Qc[j]? =some x→bo hp i=some x
 refs:∀x∈Qc,∀r∈x.refs,r∈acc∨r∈todo
 root:∀r∈roots,r∈acc∨r∈todo
theorem Bh{hp:Hp}{roots:List Nat}:∀ (n:Nat) (todo acc:List Nat) (Qc:List Item) {ids:List Nat} {xs:List Item},Reached hp roots acc Qc todo→(sU n todo acc Qc).val hp=some (ids,xs)→Reached hp roots ids xs []
 |0,_,_,_,_,_,_,h=>by cases h
 |n+1,[],acc,Qc,_,_,hr,h=>by
  simp only[sU,Ask.val]at h
  cases h
  exact hr
 |n+1,i::todo,acc,Qc,ids,xs,hr,h=>by
  simp only[sU]at h
  split at h
  ·rename_i hm;have hm':i∈acc:=hm;refine Bh n todo acc Qc ⟨hr.nodup,hr.len,hr.at_,fun x hx r rp=>?_,fun r rp=>?_⟩ h
   ·rcases hr.refs x hx r rp with h1|h1
    ·exact .inl h1
    ·rcases List.mem_cons.1 h1 with rfl|h1
     ·exact .inl hm'
     ·exact .inr h1
   ·rcases hr.root r rp with h1|h1
    ·exact .inl h1
    ·rcases List.mem_cons.1 h1 with rfl|h1
     ·exact .inl hm'
     ·exact .inr h1
  ·rename_i hm;have hm':i∉acc:=hm;simp only[Ask.val]at h
   split at h
   ·rename_i x hx;refine Bh n (x.refs++todo) (acc++ [i]) (Qc++ [x]) ⟨?_,by simp[hr.len],?_,?_,?_⟩ h
    ·rw[List.nodup_append];refine⟨hr.nodup,by simp,fun a ha b hb=>?_⟩;simp at hb;subst hb;exact fun e=>hm' (e▸ha)
    ·intro j i' x' h1 h2
     by_cases hj:j<acc.length
     ·rw[List.getElem?_append_left hj]at h1;rw[List.getElem?_append_left (by rw[← hr.len];exact hj)]at h2;exact hr.at_ j i' x' h1 h2
     ·rw[List.getElem?_append_right (by omega)]at h1;rw[List.getElem?_append_right (by rw[← hr.len];omega),← hr.len]at h2
      have hj0:j-acc.length=0:=by
       have:=(List.getElem?_eq_some_iff.1 h1).1;simpa using this
      rw[hj0]at h1 h2;simp at h1 h2;subst h1 h2;exact hx
    ·intro y hy r rp;rcases List.mem_append.1 hy with hy|hy
     ·rcases hr.refs y hy r rp with h1|h1
      ·exact .inl (by simp[h1])
      ·rcases List.mem_cons.1 h1 with rfl|h1
       ·exact .inl (by simp)
       ·exact .inr (by simp[h1])
     ·simp at hy;subst hy;exact .inr (by simp[rp])
    ·intro r rp;rcases hr.root r rp with h1|h1
     ·exact .inl (by simp[h1])
     ·rcases List.mem_cons.1 h1 with rfl|h1
      ·exact .inl (by simp)
      ·exact .inr (by simp[h1])
   ·simp[Ask.val]at h
noncomputable section
variable {W:World} {ak:Hp} {β₀ β:Env} {hp:Hp} {w:World}
theorem GU{h:Value}{t:Ty}{l:List t.D}(hk:dE β w h t l){b:Nat}(hb:inBlock h b):∃a n c,h= .slice (some a) n c∧0<c∧a.block=b:=by
 obtain⟨a,n,c,rfl,h1,h2,h3,_⟩:=hk
 cases a with
 |none=>exact hb.elim
 |some a=>exact⟨a,n,c,rfl,by have:=hb.1;omega,hb.2⟩
theorem an9{h v:Value}{k:Nat}{z n:Int}(hs:yF h k z n v){b:Nat}(hb:inBlock v b):inBlock h b:=by
 obtain⟨a,m,c,a',c',rfl,z0,n0,hle,rfl,sQ,_,ha⟩:=hs
 cases a' with
 |none=>exact hb.elim
 |some a2=>
  have h0:=hb.1;obtain⟨a0,rfl,e⟩:=ha (by omega);simp at e;subst e;exact⟨by omega,by have:=hb.2;rwa [dU]at this⟩
theorem Qd(h:bb W ak β₀ β hp w){t:Ty}{s:SV}{pm:Bool}{l:List t.D}{v:Value}(hc:(jF t s).val hp=some (pm,l))(hd:s.den β (kd hp) v){b:Nat}(hb:inBlock v b):
  (b<w.heap.size∧¬gb hp β b)∨∃i x,hp[i]? =some (some x)∧cd β x i b∧i∈s.refs:=by
 unfold jF at hc
 split at hc
 ·exact .inl ((h.au6 hd.2.2).2 b hb)
 ·obtain⟨_,rfl⟩:=hd;exact hb.elim
 ·rename_i i ver;simp only[Ask.val]at hc
  split at hc
  ·rename_i ver' t' l' hi
   split at hc
   ·split at hc
    ·rename_i e;subst e;obtain⟨_,hd⟩:=hd;obtain⟨h1,rfl⟩:=h.pX (p:=fun x=>v=x) (aB hi) hd;exact .inr ⟨i,_,aB hi,GU h1 hb,by simp[SV.refs]⟩
    ·cases hc
   ·cases hc
  ·cases hc
 ·rename_i i ver w' z n;simp only[Ask.val]at hc
  split at hc
  ·rename_i ver' t' l' hi
   split at hc
   ·split at hc
    ·rename_i e;obtain⟨rfl,rfl⟩:=e;obtain⟨_,hd⟩:=hd;obtain⟨h1,h2⟩:=h.pX (p:=fun x=>yF x _ z n v) (aB hi) hd;exact .inr ⟨i,_,aB hi,GU h1 (an9 h2 hb),by simp[SV.refs]⟩
    ·cases hc
   ·cases hc
  ·cases hc
 ·rename_i b' o t' m z n;simp only[Ask.val]at hc
  split at hc
  ·rename_i cells elem hi;obtain⟨_,z0,n0,zn,a',c',rfl,sQ,_,ha⟩:=hd;refine .inr ⟨b',_,aB hi,?_,by simp[SV.refs]⟩;show b=β.b b'
   cases a' with
   |none=>exact hb.elim
   |some a'=>
    have h0:=hb.1;have e:=ha (by omega);simp at e;subst e;rw[← hb.2,dU]
  ·cases hc
 ·rename_i b' o len cap;simp only[Ask.val]at hc
  split at hc
  ·rename_i cells elem hi;obtain⟨_,rfl⟩:=hd;exact .inr ⟨b',_,aB hi,hb.2.symm,by simp[SV.refs]⟩
  ·cases hc
 ·simp[Ask.val]at hc
def aeB(β:Env)(own:Nat→Prop)(w:World)(v:Value)(t:Ty)(l:List t.D):Prop:=bN β false w v t l∧∀b,inBlock v b→b<w.heap.size∧¬own b
def Env.K5(β:Env)(own:Nat→Prop)(w:World):Env:=⟨β.b,β.h,fun pm v t l=>match pm with
 |true=>β.rd true v t l
 |false=>aeB β own w v t l⟩
def K6(β:Env)(own:Nat→Prop)(w:World)(v:Value)(t:Ty)(l:List t.D):Prop:=bN (β.K5 own w) false w v t l∧∀b,inBlock v b→b<w.heap.size∧¬own b
def Env.can(β:Env)(own:Nat→Prop)(w:World)(lent:Bool)(ids:List Nat):Env:=⟨fun j=>β.b (ids.getD j 0),fun j=>β.h (ids.getD j 0),fun pm v t l=>match pm with
 |true=>β.rd true v t l
 |false=>β.rd false v t l∨(lent=true∧K6 β own w v t l)⟩
theorem bb.K5(h:bb W ak β₀ β hp w){own:Nat→Prop}(ho:∀b,own b→gb hp β b):∀pm v t l,β.rd pm v t l→(β.K5 own w).rd pm v t l:=by
 intro pm v t l hr
 cases pm with
 |true=>exact hr
 |false=>
  obtain⟨h1,h2⟩:=h.reads _ _ _ _ hr;exact⟨h1,fun b hb=>⟨(h2 b hb).1,fun k=>(h2 b hb).2 (ho b k)⟩⟩
theorem bb.aeC(h:bb W ak β₀ β hp w){own:Nat→Prop}(ho:∀b,own b→gb hp β b){v:Value}{t:Ty}{l:List t.D}(hl:aeB β own w v t l):K6 β own w v t l:=
 ⟨hl.1.mono (h.K5 ho),hl.2⟩
def K7(t:Ty)(s:SV):Ask (Option (List t.D)):=(jF t s).map (·.map (·.2))
theorem K8(h:bb W ak β₀ β hp w){t:Ty}{s:SV}{l:List t.D}{v:Value}(hc:(K7 t s).val hp=some l)(hd:s.den β (kd hp) v){own:Nat→Prop}
  (ho:∀b,own b→∃i x,hp[i]? =some (some x)∧cd β x i b∧i∉s.refs):aeB β own w v t l:=by
 unfold K7 at hc;rw[Ask.cU]at hc;obtain⟨⟨pm,l'⟩,hc1,he⟩:=map_some hc;clear hc
 cases he
 have hc:=hc1;have h1:=nk h hc hd
 have h2:bN β false w v t l':=by
  cases pm with
  |true=>exact h1.adY
  |false=>exact h1
 refine⟨h2,fun b hb=>?_⟩;rcases Qd h hc hd hb with⟨h3,h4⟩|⟨i,x,h3,h4,h5⟩
 ·refine⟨h3,fun k=>?_⟩;obtain⟨i,x,k1,k2,_⟩:=ho b k;exact h4 ⟨i,x,k1,k2⟩
 ·refine⟨(h.items i x h3).lt h4,fun k=>?_⟩;obtain⟨j,y,k1,k2,k3⟩:=ho b k;have:=h.inj i j x y b h3 k1 h4 k2;subst this;exact k3 h5
def K9(t:Ty):List SV→Ask (Option (List (List t.D)))
 | []=>.ret (some [])
 |s::r=>(K7 t s).bind fun x=>match x with
  |some l=>(K9 t r).map (·.map (l:: ·))
  |none=>.ret none
theorem La(h:bb W ak β₀ β hp w){t:Ty}{own:Nat→Prop}:∀ {row:List SV} {ls:List (List t.D)} {vs:List Value},(K9 t row).val hp=some ls→bf β (kd hp) row vs→
  (∀b,own b→∃i x,hp[i]? =some (some x)∧cd β x i b∧i∉row.flatMap SV.refs)→aU ((Ty.sl t).has (β.K5 own w) false) ls vs
 | [],ls,vs,hc,hd,_=>by
  simp[K9,Ask.val]at hc;subst hc
  cases hd;exact .nil
 |s::row,ls,_,hc,.cons (vs:=us) h1 h2,ho=>by
  simp only[K9]at hc;rw[Ask.eF]at hc
  split at hc
  ·rename_i l hl;rw[Ask.cU]at hc;obtain⟨ls',sQ,rfl⟩:=map_some hc
   have hs:∀t n l,s≠ .arr t n l:=by
    intro t' n l' e;subst e;simp[K7,jF,Ask.val,Ask.map,Ask.bind]at hl
   obtain⟨v,rfl,hv⟩:=SV.jy h1 hs;refine .cons ⟨v,rfl,SV.bw hv,.inr (.inl ⟨rfl,?_⟩)⟩ (La h sQ h2 fun b hb=>?_)
   ·exact K8 h hl hv fun b hb=>by
     obtain⟨i,x,k1,k2,k3⟩:=ho b hb;exact⟨i,x,k1,k2,fun hm=>k3 (by simp[hm])⟩
   ·obtain⟨i,x,k1,k2,k3⟩:=ho b hb;exact⟨i,x,k1,k2,fun hm=>k3 (by rw[List.flatMap_cons];exact List.mem_append_right _ hm)⟩
  ·simp[Ask.val]at hc
def aoa(t:Ty)(s:SV):Ask (Option (SV×List Nat)):=
 match t,s with
 | .sl t',.slice b o len cap=>.get b fun x=>match x with
  |some (.aW cells _)=>match(if len≤cap then Y9 cells o len else none)with
   |some row=>(K9 t' row).map (·.map fun ls=>(.rd false false (.sl t') ls,b::row.flatMap SV.refs))
   |none=>.ret none
  |_=>.ret none
 |t,s=>(K7 t s).map (·.map fun l=>(.rd false false t l,s.refs))
theorem VM(h:bb W ak β₀ β hp w){t:Ty}{s s':SV}{lids:List Nat}{v:Value}(hc:(aoa t s).val hp=some (s',lids))(hd:s.den β (kd hp) v){own:Nat→Prop}
  (ho:∀b,own b→∃i x,hp[i]? =some (some x)∧cd β x i b∧i∉lids):∃l,s'= .rd false false t l∧K6 β own w v t l:=by
 have mJ:∀b,own b→gb hp β b:=fun b hb=>let ⟨i,x,h1,h2,_⟩:=ho b hb;⟨i,x,h1,h2⟩;unfold aoa at hc
 split at hc
 ·rename_i t' b o len cap;simp only[Ask.val]at hc
  split at hc
  ·rename_i cells elem hi
   split at hc
   ·rename_i row j8;rw[Ask.cU]at hc;obtain⟨ls,hl,he⟩:=map_some hc
    cases he
    split at j8
    ·rename_i hlc;obtain⟨_,rfl⟩:=hd;obtain⟨cs,fz,h1,h2,h3⟩:=h.items _ _ (aB hi);obtain⟨pre,mid,post,rfl,e1,e2,h4⟩:=rb j8 h3
     have h5:=La h hl h4 (own:=own) fun b hb=>by
      obtain⟨i,x,k1,k2,k3⟩:=ho b hb;exact⟨i,x,k1,k2,fun hm=>k3 (List.mem_cons_of_mem _ hm)⟩
     have hlen:mid.length=ls.length:=(by rw[bm h5];simp[Ty.w]);subst e1;refine⟨ls,rfl,⟨_,_,_,rfl,by omega,hlc,(fun e=>by cases e),fun _=>⟨_,mid,rfl,rfl,h5,eQ h1⟩⟩,fun b' gV=>?_⟩;have eb:b'=β.b b:=gV.2.symm;subst eb;refine⟨(Array.getElem?_eq_some_iff.1 h1).1,fun k=>?_⟩;obtain⟨i,x,k1,k2,k3⟩:=ho _ k;have:=h.inj i b x _ _ k1 (aB hi) k2 rfl;subst this;exact k3 (by simp)
    ·cases j8
   ·simp[Ask.val]at hc
  ·simp[Ask.val]at hc
 ·rw[Ask.cU]at hc;obtain⟨l,hl,he⟩:=map_some hc
  cases he
  exact⟨l,rfl,h.aeC mJ (K8 h hl hd ho)⟩
def aEL:SV→Bool
 | .sl _ _| .slice _ _ _ _| .rd _ _ _ _| .vw _ _ _ _ _| .vb _ _ _ _ _ _=>true
 | .iM (.slice none 0 0)=>true
 |_=>false
def kb(t:Ty):List SV→Ask (List SV×List Nat)
 | []=>.ret ([],[])
 |s::r=>if aEL s=true then(aoa t s).bind fun y=>match y with
   |some (s',b1)=>(kb t r).map fun(l,b)=>(s'::l,b1++b)
   |none=>(kb t r).map fun(l,b)=>(s::l,b)
  else(kb t r).map fun(l,b)=>(s::l,b)
theorem Bi(h:bb W ak β₀ β hp w){f:uw}{βc:Env}{L':Nat→Option Kd}(Zh:xp f β βc (kd hp) L' false){own:Nat→Prop}{t:Ty}(hl:∀v l,K6 β own w v t l→βc.rd false v t l):
  ∀ {l l':List SV} {lids:List Nat} {vs:List Value},(kb t l).val hp=(l',lids)→bf β (kd hp) l vs→
   (∀b,own b→∃i x,hp[i]? =some (some x)∧cd β x i b∧i∉lids)→bf βc L' (l'.map (SV.bY f)) vs
 | [],l',lids,_,hc,hd,_=>by
  cases hd
  have sQ:(([]:List SV),([]:List Nat))=(l',lids):=hc
  cases sQ
  exact .nil
 |s::r,l',lids,_,hc,.cons (vs:=vs) h1 h2,ho=>by
  have same:∀ {l':List SV} {lids:List Nat},((kb t r).map fun(l,b)=>(s::l,b)).val hp=(l',lids)→(∀b,own b→∃i x,hp[i]? =some (some x)∧cd β x i b∧i∉lids)→bf βc L' (l'.map (SV.bY f)) (vs++_):=fun {l' lids} hc ho=>by
   rw[Ask.cU]at hc;have e1:l'=s::((kb t r).val hp).1:=(congrArg Prod.fst hc).symm;have e2:lids=((kb t r).val hp).2:=(congrArg Prod.snd hc).symm;subst e1;rw[e2]at ho;have ih:=Bi h Zh hl (l:=r) (l':=((kb t r).val hp).1) (lids:=((kb t r).val hp).2) rfl h2 ho;have hs:bf βc L' ([s].map (SV.bY f)) (vs++ []):=bf.GS Zh (by simp) (aU.cons h1 aU.nil);rw[List.append_nil]at hs;exact hs.append ih
  simp only[kb]at hc
  split at hc
  ·rename_i pe;rw[Ask.eF]at hc
   split at hc
   ·rename_i s' b1 hs;rw[Ask.cU]at hc;have e1:l'=s'::((kb t r).val hp).1:=(congrArg Prod.fst hc).symm;have e2:lids=b1++((kb t r).val hp).2:=(congrArg Prod.snd hc).symm;subst e1;rw[e2]at ho;have hna:∀t n l,s≠ .arr t n l:=fun _ _ _ e=>(by subst e;cases pe);obtain⟨v,rfl,hv⟩:=SV.jy h1 hna
    obtain⟨l2,rfl,h3⟩:=VM h hs hv (own:=own) fun b hb=>by
     obtain⟨i,x,k1,k2,k3⟩:=ho b hb;exact⟨i,x,k1,k2,fun hm=>k3 (List.mem_append_left _ hm)⟩
    refine .cons (vs:= [v]) ⟨v,rfl,SV.bw hv,(fun e=>by cases e),.inr (.inl ⟨rfl,hl _ _ h3⟩)⟩ (Bi h Zh hl (l:=r) (l':=((kb t r).val hp).1) (lids:=((kb t r).val hp).2) rfl h2 fun b hb=>?_);obtain⟨i,x,k1,k2,k3⟩:=ho b hb;exact⟨i,x,k1,k2,fun hm=>k3 (List.mem_append_right _ hm)⟩
   ·exact same hc ho
  ·exact same hc ho
def fO:List (Option Ty)→List LV→Ask (Option (List LV×List Nat))
 |_,[]=>.ret (some ([],[]))
 | [],x::xs=>(fO [] xs).map (·.map fun(l,b)=>(x::l,b))
 |none::ts,x::xs=>(fO ts xs).map (·.map fun(l,b)=>(x::l,b))
 |some t::ts,.one (.sc s)::xs=>(aoa t s).bind fun y=>match y with
  |some (s',b1)=>(fO ts xs).map (·.map fun(l,b)=>(.one (.sc s')::l,b1++b))
  |none=>.ret none
 |some t::ts,.one (.agg l)::xs=>(kb t l).bind fun y=>(fO ts xs).map (·.map fun(r,b)=>(.one (.agg y.1)::r,y.2++b))
 |some _::_,_=>.ret none
theorem kc(h:bb W ak β₀ β hp w){f:uw}{βc:Env}{L':Nat→Option Kd}(Zh:xp f β βc (kd hp) L' false){own:Nat→Prop}:
  ∀ {ts:List (Option Ty)} {xs cs:List LV} {lids:List Nat} {vs:List Value},(fO ts xs).val hp=some (cs,lids)→bM (LV.den β (kd hp)) xs vs→
   (∀t,some t∈ts→∀v l,K6 β own w v t l→βc.rd false v t l)→
   (∀b,own b→∃i x,hp[i]? =some (some x)∧cd β x i b∧i∉lids)→bM (LV.den βc L') (cs.map (LV.bY f)) vs
 |ts,[],cs,lids,_,hc,hd,_,_=>by
  cases hd
  have sQ:some (([]:List LV),([]:List Nat))=some (cs,lids):=by
   cases ts with
   |nil=>exact hc
   |cons a b=>cases a<;>exact hc
  cases sQ
  exact .nil
 | [],x::xs,_,_,_,hc,.cons h1 h2,hl,ho=>by
  simp only[fO]at hc;rw[Ask.cU]at hc;obtain⟨⟨l,b⟩,sQ,he⟩:=map_some hc
  cases he
  exact .cons (LV.gr Zh (by simp) h1) (kc h Zh sQ h2 hl ho)
 |none::ts,x::xs,_,_,_,hc,.cons h1 h2,hl,ho=>by
  simp only[fO]at hc;rw[Ask.cU]at hc;obtain⟨⟨l,b⟩,sQ,he⟩:=map_some hc
  cases he
  exact .cons (LV.gr Zh (by simp) h1) (kc h Zh sQ h2 (fun t ht=>hl t (List.mem_cons_of_mem _ ht)) ho)
 |some t::ts,x::xs,_,_,_,hc,.cons h1 h2,hl,ho=>by
  cases x with
  |one x=>
   cases x with
   |sc s=>
    simp only[fO]at hc;rw[Ask.eF]at hc
    split at hc
    ·rename_i s' b1 hs;rw[Ask.cU]at hc;obtain⟨⟨l,b⟩,sQ,he⟩:=map_some hc
     cases he
     obtain⟨l',rfl,h3⟩:=VM h hs h1 (own:=own) fun b hb=>by
      obtain⟨i,x,k1,k2,k3⟩:=ho b hb;exact⟨i,x,k1,k2,fun hm=>k3 (List.mem_append_left _ hm)⟩
     refine .cons ⟨SV.bw h1,(fun e=>by cases e),.inr (.inl ⟨rfl,hl t (by simp) _ _ h3⟩)⟩ (kc h Zh sQ h2 (fun t ht=>hl t (List.mem_cons_of_mem _ ht)) fun b hb=>?_);obtain⟨i,x,k1,k2,k3⟩:=ho b hb;exact⟨i,x,k1,k2,fun hm=>k3 (List.mem_append_right _ hm)⟩
    ·simp[Ask.val]at hc
   |agg l=>
    simp only[fO]at hc;rw[Ask.eF,Ask.cU]at hc;obtain⟨⟨l',b⟩,sQ,he⟩:=map_some hc
    cases he
    obtain⟨cells,rfl,h3⟩:=h1;refine .cons ⟨cells,rfl,Bi h Zh (fun v l h=>hl t (by simp) v l h) (l:=l) (l':=((kb t l).val hp).1) (lids:=((kb t l).val hp).2) rfl h3 fun b hb=>?_⟩ (kc h Zh sQ h2 (fun t ht=>hl t (List.mem_cons_of_mem _ ht)) fun b hb=>?_)
    ·obtain⟨i,x,k1,k2,k3⟩:=ho b hb;exact⟨i,x,k1,k2,fun hm=>k3 (List.mem_append_left _ hm)⟩
    ·obtain⟨i,x,k1,k2,k3⟩:=ho b hb;exact⟨i,x,k1,k2,fun hm=>k3 (List.mem_append_right _ hm)⟩
  |cj l=>simp[fO,Ask.val]at hc
  |bd=>simp[fO,Ask.val]at hc
theorem cd.bY{f:uw}{u:Nat→Nat}{β β':Env}{x:Item}{i j b:Nat}(hb:β'.b j=β.b i)(hh:β'.h j=β.h i):cd β' (x.bY f u) j b↔cd β x i b:=by
 cases x<;>simp only[Item.bY,cd,hb,hh]
def pD(ids:List Nat)(xs:List Item)(i:Nat):Nat:=match jH ids i with
 |some j=>match xs[j]? with
  |some x=>x.ver
  |none=>0
 |none=>0
abbrev yT(ids:List Nat)(xs:List Item):uw:=.fwd (jH ids) (pD ids xs)
def iR(ids:List Nat)(xs:List Item):Hp:=xs.map fun x=>some (x.bY (yT ids xs) fun _=>0)
theorem oo{roots ids:List Nat}{xs:List Item}(hr:Reached hp roots ids xs []){j:Nat}{y:Item}(h:(iR ids xs)[j]? =some (some y)):∃i x,ids[j]? =some i∧hp[i]? =some (some x)∧xs[j]? =some x∧y=x.bY (yT ids xs) fun _=>0:=by
 unfold iR at h;rw[List.getElem?_map]at h;obtain⟨x,hx,he⟩:=map_some h;simp at he;subst he;have hj:j<ids.length:=by rw[hr.len];exact(List.getElem?_eq_some_iff.1 hx).1
 have hi:ids[j]? =some ids[j]:=List.getElem?_eq_getElem hj;exact⟨_,x,hi,aB (hr.at_ _ _ _ hi hx),hx,rfl⟩
theorem xq{roots ids:List Nat}{xs:List Item}(hr:Reached hp roots ids xs []){i j:Nat}(h:ids[j]? =some i):∃x,hp[i]? =some (some x)∧xs[j]? =some x∧(iR ids xs)[j]? =some (some (x.bY (yT ids xs) fun _=>0)):=by
 have hj:j<xs.length:=by rw[← hr.len];exact(List.getElem?_eq_some_iff.1 h).1
 have hx:xs[j]? =some xs[j]:=List.getElem?_eq_getElem hj;refine⟨_,aB (hr.at_ _ _ _ h hx),hx,?_⟩;unfold iR;rw[List.getElem?_map,hx];rfl
theorem GV{roots ids:List Nat}{xs:List Item}(hr:Reached hp roots ids xs []){i j:Nat}(h:ids[j]? =some i){x:Item}(hx:hp[i]? =some (some x)):pD ids xs i=x.ver:=by
 obtain⟨y,h1,h2,_⟩:=xq hr h;rw[hx]at h1;cases h1;simp only[pD,kW hr.nodup h,h2]
def ny(hp:Hp)(β:Env)(ids:List Nat)(b:Nat):Prop:=∃i x,hp[i]? =some (some x)∧cd β x i b∧i∈ids
theorem gG{l:List Nat}{j i:Nat}(h:l[j]? =some i):l.getD j 0=i:=by rw[List.getD_eq_getElem?_getD,h];rfl
theorem ru{roots ids:List Nat}{xs:List Item}(hr:Reached hp roots ids xs []){own:Nat→Prop}{lent:Bool}{b:Nat}(h:gb (iR ids xs) (β.can own w lent ids) b):ny hp β ids b:=by
 obtain⟨j,y,hj,ho⟩:=h;obtain⟨i,x,h1,h2,_,rfl⟩:=oo hr hj;refine⟨i,x,h2,?_,List.mem_of_getElem? h1⟩;exact(cd.bY (by show β.b _=_;rw[gG h1]) (by show β.h _=_;rw[gG h1])).1 ho
theorem Lb{roots ids:List Nat}{xs:List Item}(hr:Reached hp roots ids xs []){own:Nat→Prop}{lent:Bool}:xp (yT ids xs) β (β.can own w lent ids) (kd hp) (kd (iR ids xs)) false:=by
 refine⟨fun b j hj hb=>?_,fun i j c hj hi=>?_,fun v t l h=>h,fun _ v t l h=>.inl h⟩
 ·have h1:=gX hj;obtain⟨x,h2,h3,h4⟩:=xq hr h1;refine⟨?_,by show β.b _=_;rw[gG h1]⟩;rw[dD h2]at hb;rw[dD h4,Item.kX,Option.some.inj hb];rfl
 ·have h1:=gX hj;obtain⟨x,h2,h3,h4⟩:=xq hr h1;rw[dD h2]at hi;have hk:=Option.some.inj hi;refine⟨0,?_,by show β.h _=_;rw[gG h1],fun v v' _ hv=>?_⟩
  ·rw[dD h4,Item.kX,hk];rfl
  ·have Zk:(if v=pD ids xs i then some 0 else none)=some v':=hv
   split at Zk
   ·rename_i e
    cases Zk
    refine⟨Nat.le_refl _,fun _=>?_⟩;rw[e,GV hr h1 h2]
    cases x with
    |aW _ _=>cases hk
    |own _ _ _=>cases hk;rfl
    |gone _=>cases hk;rfl
   ·cases Zk
theorem aob(h:bb W ak β₀ β hp w){roots ids:List Nat}{xs:List Item}(hr:Reached hp roots ids xs []){lent:Bool}:
  bb w (iR ids xs) (β.can (ny hp β ids) w lent ids) (β.can (ny hp β ids) w lent ids) (iR ids xs) w:=by
 have mJ:∀b,ny hp β ids b→gb hp β b:=fun b ⟨i,x,h1,h2,_⟩=>⟨i,x,h1,h2⟩;refine⟨fun j y hj=>?_,fun j k y z b hj hk h1 h2=>?_,bO.refl _ _,fun i x b hi ho=>.inr ⟨x,hi,ho⟩,rfl,rfl,Nat.le_refl _,fun _ _ _=>rfl,fun pm v t l pJ=>?_,fun pm v t l b h1 h2=>.inr ⟨pm,v,t,l,id,h1,h2⟩⟩
 ·obtain⟨i,x,h1,h2,_,rfl⟩:=oo hr hj;refine fx.GS (Lb hr) (by simp) (fun _=>?_) (fun _ _=>?_) (h.items i x h2)
  ·show β.b _=_;rw[gG h1]
  ·show β.h _=_;rw[gG h1]
 ·obtain⟨i1,x1,a1,a2,_,rfl⟩:=oo hr hj;obtain⟨i2,x2,b1,b2,_,rfl⟩:=oo hr hk;have e:=h.inj i1 i2 x1 x2 b a2 b2 ((cd.bY (by show β.b _=_;rw[gG a1]) (by show β.h _=_;rw[gG a1])).1 h1) ((cd.bY (by show β.b _=_;rw[gG b1]) (by show β.h _=_;rw[gG b1])).1 h2);subst e;have e1:=kW hr.nodup a1;have e2:=kW hr.nodup b1;rw[e1]at e2;exact Option.some.inj e2
 ·have aAc:∀pm v t l,β.rd pm v t l→(β.can (ny hp β ids) w lent ids).rd pm v t l:=by
   intro pm v t l hr
   cases pm with
   |true=>exact hr
   |false=>exact .inl hr
  have hold:∀pm v t l,β.rd pm v t l→bN (β.can (ny hp β ids) w lent ids) pm w v t l∧∀b,inBlock v b→b<w.heap.size∧¬gb (iR ids xs) (β.can (ny hp β ids) w lent ids) b:=by
   intro pm v t l pJ;obtain⟨h1,h2⟩:=h.reads _ _ _ _ pJ;exact⟨h1.mono aAc,fun b hb=>⟨(h2 b hb).1,fun k=>(h2 b hb).2 (mJ b (ru hr k))⟩⟩
  cases pm with
  |true=>exact hold true v t l pJ
  |false=>
   rcases pJ with pJ|⟨hl,h1,h2⟩
   ·exact hold false v t l pJ
   ·refine⟨h1.mono fun pm v t l hr=>?_,fun b hb=>⟨(h2 b hb).1,fun k=>(h2 b hb).2 (ru hr k)⟩⟩
    cases pm with
    |true=>exact hr
    |false=>exact .inr ⟨hl,h.aeC mJ hr⟩
end
abbrev Item.bk(g vb:Nat→Nat)(j:Nat)(x:Item):Item:=x.bY (.bwd g vb) (· +vb (g j))
def GW(g vb:Nat→Nat)(d:List (Nat×Item)):List (Nat×Item):=d.map fun(j,x)=>(g j,x.bk g vb j)
theorem Lc{g vb:Nat→Nat}{d:List (Nat×Item)}{i:Nat}{y:Item}:(i,y)∈GW g vb d↔∃j x,(j,x)∈d∧i=g j∧y=x.bk g vb j:=by
 unfold GW;rw[List.mem_map];constructor
 ·rintro⟨⟨j,x⟩,h,e⟩
  simp at e;exact⟨j,x,h,e.1.symm,e.2.symm⟩
 ·rintro⟨j,x,h,rfl,rfl⟩
  exact⟨(j,x),h,rfl⟩
structure Mir (g vb:Nat→Nat) (J U:Nat→Prop) (lent:Bool) (EW hpc hp:Hp):Prop where
 live:∀ (j:Nat) (y:Item),hpc[j]? =some (some y)→J j
 fwd:∀ (j:Nat) (y:Item),hpc[j]? =some (some y)→hp[g j]? =some (some (y.bk g vb j))
 bwd:∀ (i:Nat) (x:Item),hp[i]? =some (some x)→(∃ (j:Nat) (y:Item),hpc[j]? =some (some y)∧g j=i)∨(EW[i]? =some (some x)∧U i)
 nr:lent=true→∀ (j:Nat) (y:Item),hpc[j]? =some (some y)→y.nr=true
theorem E2{g vb:Nat→Nat}{J U:Nat→Prop}{lent:Bool}{EW:Hp}(Zr:∀j k,J j→J k→g j=g k→j=k):
  ∀ (d:List (Nat×Item)) {hpc hp:Hp},(∀j x,(j,x)∈d→J j)→(lent=true→d.all (fun p=>p.2.nr)=true)→Mir g vb J U lent EW hpc hp→Mir g vb J U lent EW (aJ d hpc) (aJ (GW g vb d) hp)
 | [],_,_,_,_,h=>h
 |(j,x)::d,hpc,hp,hJ,hn,h=>by
  refine E2 Zr d (hpc:=setAt hpc j x) (hp:=setAt hp (g j) (x.bk g vb j)) (fun j' x' hm=>hJ j' x' (List.mem_cons_of_mem _ hm)) (fun e=>by have:=hn e;simp only[List.all_cons,Bool.and_eq_true]at this;exact this.2) ?_;have hj:J j:=hJ j x (by simp);refine⟨fun k y hk=>?_,fun k y hk=>?_,fun i z hi=>?_,fun e k y hk=>?_⟩
  ·by_cases hkj:k=j
   ·exact hkj▸hj
   ·exact h.live k y ((cm hpc j x k y hkj).1 hk)
  ·by_cases hkj:k=j
   ·subst hkj;rw[dF]at hk;simp at hk;subst hk;exact dF _ _ _
   ·have jz:=(cm hpc j x k y hkj).1 hk;have gJ:g k≠g j:=fun e=>hkj (Zr k j (h.live k y jz) hj e);exact(cm hp (g j) _ (g k) _ gJ).2 (h.fwd k y jz)
  ·by_cases hij:i=g j
   ·subst hij;exact .inl ⟨j,x,dF _ _ _,rfl⟩
   ·rcases h.bwd i z ((cm hp (g j) _ i z hij).1 hi)with⟨k,y,hk,e⟩|k
    ·refine .inl ⟨k,y,(cm hpc j x k y fun e'=>hij ?_).2 hk,e⟩;rw[← e,e']
    ·exact .inr k
  ·by_cases hkj:k=j
   ·subst hkj;rw[dF]at hk;simp at hk;subst hk;have:=hn e;simp only[List.all_cons,Bool.and_eq_true]at this;exact this.1
   ·exact h.nr e k y ((cm hpc j x k y hkj).1 hk)
structure an where
 tys:List (Option Ty)
 run:List LV→Hp→Out
def aeD(P:Program)(f:FuncId)(args:List LV)(hp:Hp)(R:LV→Hp→Prop):Prop:=
 ∀ (β:Env) (w:World) (vals:List Value),bb w hp β β hp w→bM (LV.den β (kd hp)) args vals→
  Zj P f vals.toArray w fun e w'=>∃val β' r dB,e= .returned val∧R r dB∧r.den β' (kd dB) val∧bb w hp β β' dB w'
theorem iQ.done{P:Program}{f:FuncId}(he:xn P f){args:List LV}{hp:Hp}{R:LV→Hp→Prop}(h:iQ P f args hp R):aeD P f args hp R:=
 fun β w vals hh ha=>.inr ⟨he,h β w vals hh ha⟩
structure an.Ok (P:Program) (f:FuncId) (e:an):Prop where
 calls:∀args hp Q,(e.run args hp).holds Q→aeD P f args hp fun v dB=>∃d,Q v d∧dB=aJ d hp
def Out.back(g vb:Nat→Nat)(lent:Bool):Out→Out
 | .leaf q v d=>if lent=true∧(v.nr&&d.all fun p=>p.2.nr)=false then .fail else .leaf q (v.bY (.bwd g vb)) (GW g vb d)
 | .ite b x y=>.ite b (x.back g vb lent) (y.back g vb lent)
 | .fail=>.fail
theorem sV{g vb:Nat→Nat}{lent:Bool}{id:Nat}{hp:Hp}{Q:LV→List (Nat×Item)→Prop}:∀ {o:Out},(o.back g vb lent).fresh id hp→(o.back g vb lent).holds Q→
  o.holds fun v d=>(lent=true→v.nr=true∧(d.all fun p=>p.2.nr)=true)∧VH id hp (GW g vb d)∧Q (v.bY (.bwd g vb)) (GW g vb d)
 | .leaf q v d,hf,h=>by
  simp only[Out.back]at hf h
  split at h
  ·exact h.elim
  ·rename_i hc;rw[if_neg hc]at hf;refine⟨h.1,fun e=>?_,hf,h.2⟩
   have:(v.nr&&d.all fun p=>p.2.nr)=true:=by
    cases hx:(v.nr&&d.all fun p=>p.2.nr)with
    |true=>rfl
    |false=>exact absurd ⟨e,hx⟩ hc
   simpa using this
 | .ite b x y,hf,h=>⟨fun e=>sV hf.1 (h.1 e),fun e=>sV hf.2 (h.2 e)⟩
 | .fail,_,h=>h
def yU(ids:List Nat)(id:Nat)(j:Nat):Nat:=match ids[j]? with
 |some i=>i
 |none=>id+(j-ids.length)
def VN(e:an)(id:Nat)(args:List LV):Ask Out:=
 (fO e.tys args).bind fun x=>match x with
 |none=>.ret .fail
 |some (Ld,lids)=>(sU 1000 (Ld.flatMap LV.refs) [] []).bind fun y=>match y with
  |none=>.ret .fail
  |some (ids,xs)=>
   if lids.any (fun i=>decide (i∈ids))=true∨(e.tys.any (·.isSome)=true∧xs.all Item.nr=false)then .ret .fail
   else if xs.all (Item.cur (pD ids xs))=false then .ret .fail
   else .ret ((e.run (Ld.map (LV.bY (yT ids xs))) (iR ids xs)).back (yU ids id) (pD ids xs) (e.tys.any (·.isSome)))
noncomputable section
variable {α:Type}
def sW(hp:Hp)(ids:List Nat)(id:Nat)(F F0:Nat→α)(i:Nat):α:=match jH ids i with
 |some j=>F j
 |none=>if kd hp i=none∧id≤i then F (ids.length+(i-id))else F0 i
end
theorem aeE{P:Program}{f:FuncId}{e:an}(he:e.Ok P f){id:Nat}{args:List LV}{hp:Hp}(hf:((VN e id args).val hp).fresh id hp){Q:LV→List (Nat×Item)→Prop}(h:((VN e id args).val hp).holds Q)
  {β:Env} {w:World} {vals:List Value} (hh:bb w hp β β hp w) (eh:bM (LV.den β (kd hp)) args vals):
  Zj P f vals.toArray w fun e w'=>∃v d val β',Q v d∧e= .returned val∧v.den β' (kd (aJ d hp)) val∧bb w hp β β' (aJ d hp) w':=by
 unfold VN at h hf;rw[Ask.eF]at h hf
 split at h
 ·exact h.elim
 rename_i Ld lids hl;rw[hl]at hf;simp only at hf;rw[Ask.eF]at h hf
 split at h
 ·exact h.elim
 rename_i ids xs aeF;rw[aeF]at hf;simp only at hf
 split at h
 ·exact h.elim
 rename_i sC;rw[if_neg sC]at hf
 split at h
 ·exact h.elim
 rename_i hcu;rw[if_neg hcu]at hf;have aEO:xs.all (Item.cur (pD ids xs))=true:=by simpa using hcu
 simp only[Ask.val]at h hf;have P5:∀i∈lids,i∉ids:=fun i hi hm=>sC (.inl (by rw[List.any_eq_true];exact⟨i,hi,by simpa using hm⟩))
 have aEP:e.tys.any (·.isSome)=true→xs.all Item.nr=true:=fun e1=>by
  cases hx:xs.all Item.nr with
  |true=>rfl
  |false=>exact absurd (.inr ⟨e1,hx⟩) sC
 have aAd:∀t,some t∈e.tys→e.tys.any (·.isSome)=true:=fun t ht=>by rw[List.any_eq_true];exact⟨_,ht,rfl⟩
 generalize e.tys.any (·.isSome)=lent at*;have hR:Reached hp (Ld.flatMap LV.refs) ids xs []:=Bh 1000 _ [] [] ⟨List.nodup_nil,rfl,fun _ _ _ h=>by simp at h,fun _ h=>by simp at h,fun r h=>.inr h⟩ aeF;generalize GX:β.can (ny hp β ids) w lent ids=βc;have aEQ:bb w (iR ids xs) βc βc (iR ids xs) w:=GX▸aob hh hR;have yV:xp (yT ids xs) β βc (kd hp) (kd (iR ids xs)) false:=GX▸Lb hR;have hcb:∀ {j i},ids[j]? =some i→βc.b j=β.b i:=fun hj=>by subst GX;show β.b _=_;rw[gG hj]
 have hch:∀ {j i},ids[j]? =some i→βc.h j=β.h i:=fun hj=>by subst GX;show β.h _=_;rw[gG hj]
 have avw:bM (LV.den βc (kd (iR ids xs))) (Ld.map (LV.bY (yT ids xs))) vals:=by
  refine kc hh yV (own:=ny hp β ids) hl eh (fun t ht v l dL=>?_) fun b ⟨i,x,h1,h2,h3⟩=>⟨i,x,h1,h2,fun hm=>P5 i hm h3⟩;subst GX;exact .inr ⟨aAd t ht,dL⟩
 refine(he.calls _ _ _ (sV hf h) βc w vals aEQ avw).mono ?_
 rintro en w' ⟨val,βr,r,dB,rfl,⟨d,⟨hnr,avx,hq⟩,rfl⟩,P1,h'⟩
 have zg:∀ {j i},ids[j]? =some i→yU ids id j=i:=fun hj=>by simp only[yU,hj]
 have Le:∀ {j:Nat},ids.length≤j→yU ids id j=id+(j-ids.length):=by
  intro j hj;have:ids[j]? =none:=List.getElem?_eq_none hj;simp only[yU,this]
 have hlen:(iR ids xs).length=ids.length:=by simp[iR,hR.len]
 have jw:∀ {j x},(j,x)∈d→ids.length≤j→kd hp (yU ids id j)=none:=fun hm hj=>avx _ _ (Lc.2 ⟨_,_,hm,rfl,rfl⟩) (by rw[Le hj];omega)
 let J:Nat→Prop:=fun j=>j<ids.length∨∃x,(j,x)∈d
 let U:Nat→Prop:=fun i=>jH ids i=none
 have aeG:∀ {j i},ids[j]? =some i→kd hp i≠none:=fun hj e=>by
  obtain⟨x,h1,_⟩:=xq hR hj;rw[dD h1]at e;cases e
 have Zr:∀j k,J j→J k→yU ids id j=yU ids id k→j=k:=by
  intro j k hj hk e
  by_cases h1:j<ids.length<;>by_cases h2:k<ids.length
  ·have e1:=List.getElem?_eq_getElem h1;have e2:=List.getElem?_eq_getElem h2;rw[zg e1,zg e2]at e;have k1:=kW hR.nodup e1;have k2:=kW hR.nodup e2;rw[e,k2]at k1;exact(Option.some.inj k1).symm
  ·have e1:=List.getElem?_eq_getElem h1;obtain⟨x,hx⟩:=hk.resolve_left h2;exact absurd (by rw[← zg e1,e];exact jw hx (by omega)) (aeG e1)
  ·have e2:=List.getElem?_eq_getElem h2;obtain⟨x,hx⟩:=hj.resolve_left h1;exact absurd (by rw[← zg e2,← e];exact jw hx (by omega)) (aeG e2)
  ·rw[Le (by omega),Le (by omega)]at e;omega
 have aAe:Mir (yU ids id) (pD ids xs) J U lent hp (iR ids xs) hp:=by
  refine⟨fun j y hj=>.inl ?_,fun j y hj=>?_,fun i x hi=>?_,fun e1 j y hj=>?_⟩
  ·rw[← hlen];exact(List.getElem?_eq_some_iff.1 hj).1
  ·obtain⟨i,x,h1,h2,h3,rfl⟩:=oo hR hj;have hvb:=GV hR h1 h2;show hp[yU ids id j]? =some (some ((x.bY (yT ids xs) fun _=>0).bY (.bwd (yU ids id) (pD ids xs)) (· +pD ids xs (yU ids id j))));rw[zg h1,Zq (List.all_eq_true.1 aEO x (List.mem_of_getElem? h3)) hvb fun r hr=>?_]
   ·exact h2
   ·have hm:=(hR.refs x (List.mem_of_getElem? h3) r hr).resolve_right (by simp);obtain⟨k,hk⟩:=Bg hm;exact⟨k,hk,zg (gX hk)⟩
  ·cases jB:jH ids i with
   |none=>exact .inr ⟨hi,jB⟩
   |some j=>
    obtain⟨x',h1,h2,h3⟩:=xq hR (gX jB);exact .inl ⟨j,_,h3,zg (gX jB)⟩
  ·obtain⟨i,x,h1,h2,h3,rfl⟩:=oo hR hj;have hx:=aEP e1;rw[List.all_eq_true]at hx;have hx':=hx x (List.mem_of_getElem? h3)
   cases x with
   |aW cells el=>
    simp only[Item.bY,Item.nr,List.all_map]at hx' ⊢;rw[List.all_eq_true]at hx' ⊢;exact fun s hs=>SV.VL (hx' s hs)
   |_=>rfl
 have xr:=E2 Zr d (fun j x hm=>.inr ⟨x,hm⟩) (fun e1=>(hnr e1).2) aAe;generalize avy:aJ (GW (yU ids id) (pD ids xs) d) hp=hp2 at*;generalize aJ d (iR ids xs)=Vy at*
 let β2:Env:=⟨sW hp ids id βr.b β.b,sW hp ids id βr.h β.h,fun pm v t l=>match pm with
  |true=>βr.rd true v t l
  |false=>if lent=true then β.rd false v t l else βr.rd false v t l⟩
 have sX:∀ {α:Type} (F F0:Nat→α) {j:Nat},J j→sW hp ids id F F0 (yU ids id j)=F j:=by
  intro α F F0 j hj
  by_cases h1:j<ids.length
  ·have e1:=List.getElem?_eq_getElem h1;simp only[sW,zg e1,kW hR.nodup e1]
  ·obtain⟨x,hx⟩:=hj.resolve_left h1;have hn:=jw hx (by omega)
   have EW:jH ids (yU ids id j)=none:=by
    cases hq:jH ids (yU ids id j)with
    |none=>rfl
    |some k=>exact absurd hn (aeG (gX hq))
   simp only[sW,EW];rw[if_pos ⟨hn,by rw[Le (by omega)];omega⟩,Le (by omega)]
   congr 1;omega
 have xt:∀ {α:Type} (F F0:Nat→α) {i:Nat} {k:Kd},kd hp i=some k→jH ids i=none→sW hp ids id F F0 i=F0 i:=by
  intro α F F0 i k hi EW;simp only[sW,EW];rw[if_neg (by rw[hi];simp)]
 have GY:xp (.bwd (yU ids id) (pD ids xs)) βr β2 (kd Vy) (kd hp2) lent:=by
  refine⟨fun b j hj hb=>?_,fun i j c hj hi=>?_,fun v t l h=>h,fun e1 v t l h=>by show(if lent=true then _ else _:Prop);rw[if_neg (by simp[e1])];exact h⟩
  ·cases hj
   obtain⟨y,h1,h2⟩:=l8 hb;exact⟨by rw[dD (xr.fwd _ _ h1),Item.kX,h2];rfl,sX _ _ (xr.live _ _ h1)⟩
  ·cases hj
   obtain⟨y,h1,h2⟩:=l8 hi;refine⟨c+pD ids xs (yU ids id i),by rw[dD (xr.fwd _ _ h1),Item.kX,h2];rfl,sX _ _ (xr.live _ _ h1),fun v v' hv he=>?_⟩
   cases he
   exact⟨Nat.add_le_add_right hv _,fun e=>Nat.add_right_cancel e⟩
 have aAf:∀pm v t l,β.rd pm v t l→β2.rd pm v t l:=by
  intro pm v t l hr
  cases pm with
  |true=>exact h'.first.rd true v t l (yV.rdt _ _ _ hr)
  |false=>
   show(if lent=true then _ else _:Prop)
   split
   ·exact hr
   ·exact h'.first.rd false v t l (yV.rdf rfl _ _ _ hr)
 have GZ:∀ {i x b},hp[i]? =some (some x)→jH ids i=none→cd β x i b→b<w.heap.size∧¬ny hp β ids b:=by
  intro i x b hi EW ho;refine⟨(hh.items i x hi).lt ho,fun⟨k,y,h1,h2,h3⟩=>?_⟩;have:=hh.inj i k x y b hi h1 ho h2;subst this;exact E0 EW h3
 have aeH:∀ {b},b<w.heap.size→¬ny hp β ids b→w'.heap[b]? =w.heap[b]? :=fun hb hn=>h'.al _ hb fun k=>hn (ru hR (GX▸k))
 have asr:∀ {i x},hp[i]? =some (some x)→jH ids i=none→hp2[i]? =some (some x):=by
  intro i x hi EW
  have:i∉(GW (yU ids id) (pD ids xs) d).map (·.1):=by
   intro hm;obtain⟨⟨i',z⟩,h1,h2⟩:=List.mem_map.1 hm;simp at h2;subst h2;obtain⟨j,y,h3,e1,e2⟩:=Lc.1 h1
   by_cases hj:j<ids.length
   ·have k1:=List.getElem?_eq_getElem hj;have:=E0 EW;exact this (by rw[e1,zg k1];exact List.getElem_mem hj)
   ·have:=jw h3 (by omega);rw[← e1,dD hi]at this;cases this
  rw[← avy];exact aB (by rw[eS this];exact ra hi)
 have sj:bO β β2 (kd hp) (kd hp2):=by
  refine⟨fun i hi=>?_,fun i c hi=>?_,aAf⟩
  ·obtain⟨x,hx,hk⟩:=l8 hi
   cases jB:jH ids i with
   |none=>exact⟨by rw[dD (asr hx jB),hk],xt _ _ hi jB⟩
   |some j=>
    have h1:=gX jB;obtain⟨k1,k2⟩:=yV.aW _ _ jB hi;obtain⟨k3,k4⟩:=h'.first.aW _ k1;obtain⟨k5,k6⟩:=GY.aW _ _ rfl k3;rw[zg h1]at k5 k6;exact⟨k5,by rw[k6,k4,k2]⟩
  ·obtain⟨x,hx,hk⟩:=l8 hi
   cases jB:jH ids i with
   |none=>exact⟨c,by rw[dD (asr hx jB),hk],Nat.le_refl _,fun _=>xt _ _ hi jB⟩
   |some j=>
    have h1:=gX jB;have hvb:=GV hR h1 hx
    have hck:x.ver=c:=by
     cases x with
     |aW _ _=>cases hk
     |own _ _ _=>cases hk;rfl
     |gone _=>cases hk;rfl
    obtain⟨y,y1,_,y3⟩:=xq hR h1;rw[hx]at y1;cases y1;have k1:kd (iR ids xs) j=some (.own 0):=(by rw[dD y3,Item.kX,hk];rfl);have k2:βc.h j=β.h i:=hch h1;obtain⟨c',k3,k4,k4'⟩:=h'.first.own _ _ k1;have hg:yU ids id j=i:=zg h1;obtain⟨z,z1,z2⟩:=l8 k3
    have k5:kd hp2 i=some (.own (c'+c)):=by
     have:=xr.fwd _ _ z1;rw[hg]at this;rw[dD this,Item.kX,z2,hg,hvb,hck];rfl
    have k6:β2.h i=βr.h j:=(by rw[← hg];exact sX _ _ (xr.live _ _ z1));exact⟨c'+c,k5,by omega,fun e1=>by rw[k6,k4' (by omega),k2]⟩
 have hgo:∀ {j y b},Vy[j]? =some (some y)→(cd β2 (y.bk (yU ids id) (pD ids xs) j) (yU ids id j) b↔cd βr y j b):=fun hj=>cd.bY (sX _ _ (xr.live _ _ hj)) (sX _ _ (xr.live _ _ hj));have huo:∀ {i x b},hp[i]? =some (some x)→jH ids i=none→(cd β2 x i b↔cd β x i b):=fun hi EW=>cd.congr (xt _ _ (dD hi) EW) (xt _ _ (dD hi) EW);have aeI:∀ {j y b},Vy[j]? =some (some y)→cd βr y j b→w.heap.size≤b∨ny hp β ids b:=fun hj ho=>(h'.own _ _ _ hj ho).imp (fun h=>h) fun⟨y,k⟩=>ru (own:=ny hp β ids) (w:=w) (lent:=lent) hR (GX.symm▸⟨_,y,k⟩)
 have Bj:∀ {i z},hp2[i]? =some (some z)→(∃j y,Vy[j]? =some (some y)∧i=yU ids id j∧z=y.bk (yU ids id) (pD ids xs) j)∨(hp[i]? =some (some z)∧jH ids i=none):=by
  intro i z hi;rcases xr.bwd i z hi with⟨j,y,h1,h2⟩|h1
  ·have:=xr.fwd j y h1;rw[h2,hi]at this;exact .inl ⟨j,y,h1,h2.symm,by simpa using this⟩
  ·exact .inr h1
 have VO:∀ {b},gb hp2 β2 b→gb Vy βr b∨∃i x,hp[i]? =some (some x)∧jH ids i=none∧cd β x i b:=by
  rintro b ⟨i,z,hi,ho⟩
  rcases Bj hi with⟨j,y,h1,rfl,rfl⟩|⟨h1,h2⟩
  ·exact .inl ⟨j,y,h1,(hgo h1).1 ho⟩
  ·exact .inr ⟨i,z,h1,h2,(huo h1 h2).1 ho⟩
 refine⟨r.bY (.bwd (yU ids id) (pD ids xs)),GW (yU ids id) (pD ids xs) d,val,β2,hq,rfl,?_,?_⟩
 ·rw[avy];exact LV.gr GY (fun e1=>(hnr e1).1) P1
 rw[avy];refine⟨fun i z hi=>?_,fun i k x y b hi hk h1 h2=>?_,sj,fun i z b hi ho=>?_,h'.os,h'.output,h'.size,fun b hb aES=>?_,fun pm v t l hr=>?_,fun pm v t l b hr hb=>?_⟩
 ·rcases Bj hi with⟨j,y,h1,rfl,rfl⟩|⟨h1,h2⟩
  ·exact fx.GS GY (fun e1=>xr.nr e1 _ _ h1) (fun _=>sX _ _ (xr.live _ _ h1)) (fun _ _=>sX _ _ (xr.live _ _ h1)) (h'.items j y h1)
  ·exact(hh.items i z h1).of sj (xt _ _ (dD h1) h2) (xt _ _ (dD h1) h2) fun b ho=>aeH (GZ h1 h2 ho).1 (GZ h1 h2 ho).2
 ·rcases Bj hi with⟨j,y',a1,rfl,rfl⟩|⟨a1,a2⟩<;>rcases Bj hk with⟨j2,y2,b1,rfl,rfl⟩|⟨b1,b2⟩
  ·rw[h'.inj j j2 y' y2 b a1 b1 ((hgo a1).1 h1) ((hgo b1).1 h2)]
  ·have k1:=GZ b1 b2 ((huo b1 b2).1 h2);rcases aeI a1 ((hgo a1).1 h1)with k2|k2
   ·omega
   ·exact absurd k2 k1.2
  ·have k1:=GZ a1 a2 ((huo a1 a2).1 h1);rcases aeI b1 ((hgo b1).1 h2)with k2|k2
   ·omega
   ·exact absurd k2 k1.2
  ·exact hh.inj i k x y b a1 b1 ((huo a1 a2).1 h1) ((huo b1 b2).1 h2)
 ·rcases Bj hi with⟨j,y,a1,rfl,rfl⟩|⟨a1,a2⟩
  ·refine(h'.own _ _ _ a1 ((hgo a1).1 ho)).imp (fun h=>h) fun⟨y2,k1,k2⟩=>?_;obtain⟨i',x',e1,e2,_,rfl⟩:=oo hR k1;rw[zg e1];exact⟨x',e2,(cd.bY (hcb e1) (hch e1)).1 k2⟩
  ·exact .inr ⟨z,a1,(huo a1 a2).1 ho⟩
 ·exact aeH hb fun⟨k,x,k1,k2,_⟩=>aES ⟨k,x,k1,k2⟩
 ·have ass:∀ {b},(b<w'.heap.size∧¬gb Vy βr b)→(∀i x,hp[i]? =some (some x)→jH ids i=none→¬cd β x i b)→b<w'.heap.size∧¬gb hp2 β2 b:=by
   rintro b ⟨h1,h2⟩ h3
   refine⟨h1,fun k=>?_⟩;rcases VO k with k|⟨i,x,k1,k2,k3⟩
   ·exact h2 k
   ·exact h3 i x k1 k2 k3
  have aAg:∀ {pm v t l b},(pm=true∨lent=false)→βr.rd pm v t l→inBlock v b→∀i x,hp[i]? =some (some x)→jH ids i=none→¬cd β x i b:=by
   intro pm v t l b PW hr hb i x hi EW ho;have dL:=(hh.items i x hi).lt ho;rcases h'.from_ pm v t l b hr hb with k|⟨lW,v',t',l',k0,k1,k2⟩
   ·omega
   ·have k1':β.rd lW v' t' l':=by
     subst GX
     cases lW with
     |true=>exact k1
     |false=>
      rcases PW with PW|PW
      ·cases k0 PW
      ·rcases k1 with k1|⟨k1,_⟩
       ·exact k1
       ·rw[PW]at k1;cases k1
    exact(hh.reads _ _ _ _ k1').2 b k2 |>.2 ⟨i,x,hi,ho⟩
  have avz:∀ {pm v t l},β.rd pm v t l→bN β2 pm w' v t l∧∀b,inBlock v b→b<w'.heap.size∧¬gb hp2 β2 b:=by
   intro pm v t l hr;obtain⟨h1,h2⟩:=hh.reads _ _ _ _ hr;refine⟨(h1.of fun b hb dL=>aeH dL fun⟨k,x,k1,k2,_⟩=>(h2 b hb).2 ⟨k,x,k1,k2⟩).mono aAf,fun b hb=>?_⟩;refine⟨Nat.lt_of_lt_of_le (h2 b hb).1 h'.size,fun k=>?_⟩;rcases VO k with⟨j,y,k1,k2⟩|⟨i,x,k1,k2,k3⟩
   ·rcases aeI k1 k2 with k3|⟨i,x,k3,k4,_⟩
    ·have:=(h2 b hb).1;omega
    ·exact(h2 b hb).2 ⟨i,x,k3,k4⟩
   ·exact(h2 b hb).2 ⟨i,x,k1,k3⟩
  cases pm with
  |true=>
   obtain⟨h1,h2⟩:=h'.reads true v t l hr;refine⟨?_,fun b hb=>ass (h2 b hb) (aAg (.inl rfl) hr hb)⟩;obtain⟨a,n,c,rfl,hn,hc,hz,hrr⟩:=h1;refine⟨a,n,c,rfl,hn,hc,hz,fun h0=>?_⟩;obtain⟨a0,eD,rfl,k1,k2,k3⟩:=hrr h0;exact⟨a0,eD,rfl,k1,k2.imp fun _ _=>t.ka GY.rdt,k3⟩
  |false=>
   have rp:(if lent=true then β.rd false v t l else βr.rd false v t l):=hr
   split at rp
   ·exact avz rp
   ·rename_i VE;have avA:lent=false:=(by simpa using VE);obtain⟨h1,h2⟩:=h'.reads false v t l rp;refine⟨h1.mono fun pm v t l hr=>?_,fun b hb=>ass (h2 b hb) (aAg (.inr avA) rp hb)⟩
    cases pm with
    |true=>exact hr
    |false=>show(if lent=true then _ else _:Prop);rw[if_neg VE];exact hr
 ·have ast:∀ {lW v' t' l'},βc.rd lW v' t' l'→(lW=true∨lent=false)→β.rd lW v' t' l':=by
   intro lW v' t' l' k1 PW;subst GX
   cases lW with
   |true=>exact k1
   |false=>
    rcases k1 with k1|⟨k1,_⟩
    ·exact k1
    ·rcases PW with PW|PW
     ·cases PW
     ·rw[PW]at k1;cases k1
  cases pm with
  |true=>
   rcases h'.from_ true v t l b hr hb with k|⟨lW,v',t',l',k0,k1,k2⟩
   ·exact .inl k
   ·exact .inr ⟨lW,v',t',l',k0,ast k1 (.inl (k0 rfl)),k2⟩
  |false=>
   have rp:(if lent=true then β.rd false v t l else βr.rd false v t l):=hr
   split at rp
   ·exact .inr ⟨false,v,t,l,(fun h=>h),rp,hb⟩
   ·rename_i VE;have avA:lent=false:=(by simpa using VE);rcases h'.from_ false v t l b rp hb with k|⟨lW,v',t',l',k0,k1,k2⟩
    ·exact .inl k
    ·exact .inr ⟨lW,v',t',l',k0,ast k1 (.inr avA),k2⟩
def look(f:FuncId):List (FuncId×an)→Option an
 | []=>none
 |(g,e)::l=>if g=f then some e else look f l
def VP(tab:List (FuncId×an)):A6:=⟨fun f id args=>match look f tab with
 |some e=>VN e id args
 |none=>.ret .fail⟩
theorem VQ{P:Program}:∀ {tab:List (FuncId×an)} {f:FuncId} {e:an},(∀p∈tab,p.2.Ok P p.1)→look f tab=some e→e.Ok P f
 | [],_,_,_,h=>by cases h
 |(g,e')::l,f,e,hp,h=>by
  simp only[look]at h
  split at h
  ·rename_i hg;subst hg;obtain rfl:=Option.some.inj h;exact hp (g,e') (by simp)
  ·exact VQ (fun p hm=>hp p (List.mem_cons_of_mem _ hm)) h
theorem aeJ{P:Program}{tab:List (FuncId×an)}(h:∀p∈tab,p.2.Ok P p.1):GOk P (VP tab):=by
 refine⟨fun f id args hp hf Q hq W ak β₀ β w vals hh eh=>?_⟩;simp only[VP]at hf hq
 split at hq
 ·rename_i e he;rw[he]at hf;have sk:=VQ h he;refine(aeE sk hf hq hh.self eh).mono ?_
  rintro en w' ⟨v,d,val,β',h1,h2,h3,h4⟩
  exact⟨v,d,val,β',h1,h2,h3,hh.trans h4,h4.first⟩
 ·exact hq.elim
end Go.Ev
end
