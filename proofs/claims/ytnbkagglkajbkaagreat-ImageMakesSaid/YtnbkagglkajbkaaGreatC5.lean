/- What the laws lean on, part 5: a reader of code, plain facts, and what each function gives; no conditions. -/
import Derived.Test.YtnbkagglkajbkaaGreatC4
set_option linter.unusedVariables false
set_option linter.unusedSimpArgs false
noncomputable section
namespace Go.Ev
open Go
open Go.IntKind (i64 signed u16 u64 wrap)
def iP:List Nat→Nat→Option Nat
 | [],_=>none
 |x::l,i=>if x=i then some 0 else(iP l i).map (· +1)
theorem gC:∀ {l:List Nat} {i j:Nat},iP l i=some j→l[j]? =some i
 | [],_,_,h=>by cases h
 |x::l,i,j,h=>by
  simp only[iP]at h
  split at h
  ·rename_i e;subst e;simp at h;subst h;rfl
  ·obtain⟨k,hk,rfl⟩:=map_some h;simpa using gC hk
theorem yQ:∀ {l:List Nat} {i:Nat},i∈l→∃j,iP l i=some j
 |x::l,i,h=>by
  simp only[iP]
  split
  ·exact⟨0,rfl⟩
  ·rename_i gz;obtain⟨j,hj⟩:=yQ (l:=l) (i:=i) (by simpa [Ne.symm gz]using h);exact⟨j+1,by rw[hj];rfl⟩
theorem jX:∀ {l:List Nat} {j i:Nat},l.Nodup→l[j]? =some i→iP l i=some j
 | [],_,_,_,h=>by simp at h
 |x::l,0,i,_,h=>by simp at h;subst h;simp[iP]
 |x::l,j+1,i,hn,h=>by
  simp at h;have hi:i∈l:=List.mem_of_getElem? h;have gz:x≠i:=fun e=>by subst e;exact(List.nodup_cons.1 hn).1 hi
  simp only[iP,if_neg gz,jX (List.nodup_cons.1 hn).2 h];rfl
theorem Cq{l:List Nat}{i:Nat}(h:iP l i=none):i∉l:=fun hm=>by
 obtain⟨j,hj⟩:=yQ hm;rw[hj]at h;cases h
structure sB where
 f:Nat→Option Nat
 o:Nat→Nat→Option Nat
def SV.bN(f:sB):SV→SV
 | .ptr b o=>match f.f b with|some j=>.ptr j o|none=>.bP
 | .uV b base st n z=>match f.f b with|some j=>.uV j base st n z|none=>.bP
 | .slice b o l c=>match f.f b with|some j=>.slice j o l c|none=>.bP
 | .sl i v=>match f.f i with|some j=>(match f.o i v with|some u=>.sl j u|none=>.bP)|none=>.bP
 | .vw i v w z n=>match f.f i with|some j=>(match f.o i v with|some u=>.vw j u w z n|none=>.bP)|none=>.bP
 | .vb b o t m z n=>match f.f b with|some j=>.vb j o t m z n|none=>.bP
 | .ep s w z g=>.ep (s.bN f) w z g
 |s=>s
def VV.bN(f:sB):VV→VV
 | .sc s=>.sc (s.bN f)
 | .agg l=>.agg (l.map (SV.bN f))
def LV.bN(f:sB):LV→LV
 | .one x=>.one (x.bN f)
 | .c6 l=>.c6 (l.map (VV.bN f))
 | .bP=>.bP
def Item.bN(f:sB)(u:Nat→Nat):Item→Item
 | .ba cells e=>.ba (cells.map (SV.bN f)) e
 | .own v t l=>.own (u v) t l
 | .gone v=>.gone (u v)
def SV.refs:SV→List Nat
 | .ptr b _| .uV b _ _ _ _| .slice b _ _ _| .sl b _| .vw b _ _ _ _| .vb b _ _ _ _ _=> [b]
 | .ep s _ _ _=>s.refs
 |_=> []
def VV.refs:VV→List Nat
 | .sc s=>s.refs
 | .agg l=>l.flatMap SV.refs
def LV.refs:LV→List Nat
 | .one x=>x.refs
 | .c6 l=>l.flatMap VV.refs
 | .bP=> []
def Item.refs:Item→List Nat
 | .ba cells _=>cells.flatMap SV.refs
 |_=> []
def SV.nr:SV→Bool
 | .rd pm _ _ _=>pm
 | .ep s _ _ _=>s.nr
 |_=>true
def VV.nr:VV→Bool
 | .sc s=>s.nr
 | .agg l=>l.all SV.nr
def LV.nr:LV→Bool
 | .one x=>x.nr
 | .c6 l=>l.all VV.nr
 | .bP=>true
def Item.nr:Item→Bool
 | .ba cells _=>cells.all SV.nr
 |_=>true
def Kd.up(u:Nat→Nat):Kd→Kd
 | .ba=>.ba
 | .own c=>.own (u c)
theorem Item.jY(f:sB)(u:Nat→Nat)(x:Item):(x.bN f u).kd=x.kd.up u:=by cases x<;>rfl
structure u9 (f:sB) (β β':Env) (L L':Nat→Option Kd) (nr:Bool):Prop where
 ba:∀b j,f.f b=some j→L b=some .ba→L' j=some .ba∧β'.b j=β.b b
 own:∀i j c,f.f i=some j→L i=some (.own c)→∃c',L' j=some (.own c')∧β'.h j=β.h i∧∀v v',v≤c→f.o i v=some v'→v'≤c'∧(v'=c'→v=c)
 rdt:∀v t l,β.rd true v t l→β'.rd true v t l
 rdf:nr=false→∀v t l,β.rd false v t l→β'.rd false v t l
noncomputable section
variable {f:sB} {β β':Env} {L L':Nat→Option Kd} {nr:Bool}
theorem xb.Ef(h:u9 f β β' L L' nr){pm:Bool}{v:Value}{t:Ty}{l:List t.D}(hn:nr=true→pm=true)(hr:xb β pm v t l):xb β' pm v t l:=by
 rcases hr with hr|⟨rfl,hr⟩|hr
 ·exact .inl (h.rdt _ _ _ hr)
 ·cases nr with
  |true=>exact absurd (hn rfl) (by simp)
  |false=>exact .inr (.inl ⟨rfl,h.rdf rfl _ _ _ hr⟩)
 ·exact .inr (.inr hr)
theorem Ty.jl(h:∀v t l,β.rd true v t l→β'.rd true v t l):∀ (t:Ty) {x:t.D} {vs:List Value},t.has β true x vs→t.has β' true x vs
 | .int _,_,_,h=>h
 | .bool,_,_,h=>h
 | .uU,_,_,h=>h
 | .str,_,_,h=>h
 | .sl _,_,_,⟨v,h1,h2,h3⟩=>⟨v,h1,h2,by
  rcases h3 with h3|⟨h3,_⟩|h3
  ·exact .inl (h _ _ _ h3)
  ·cases h3
  ·exact .inr (.inr h3)⟩
 | .pair a b,_,_,⟨u,w,h0,h1,h2⟩=>⟨u,w,h0,a.jl h h1,b.jl h h2⟩
 | .arr t _,_,_,⟨h1,h2⟩=>⟨h1,h2.imp fun _ _=>t.jl h⟩
theorem SV.fT(h:u9 f β β' L L' nr):∀ {s:SV} {v:Value},(nr=true→s.nr=true)→s.den β L v→(s.bN f).den β' L' v
 | .int _ _,_,_,hd=>hd
 | .bool _,_,_,hd=>hd
 | .uU _,_,_,hd=>hd
 | .str _,_,_,hd=>hd
 | .gY _,_,_,hd=>hd
 | .bP,_,_,hd=>hd
 | .arr _ _ _,_,_,hd=>hd.elim
 | .rd _ _ _ _,_,hn,⟨h1,h2,h3⟩=>⟨h1,h2,h3.Ef h hn⟩
 | .ptr b o,v,_,hd=>by
  simp only[SV.bN]
  split
  ·rename_i j hj;obtain⟨k1,k2⟩:=h.ba b j hj hd.1;exact⟨k1,by rw[k2];exact hd.2⟩
  ·exact SV.br hd
 | .uV b base st n z,v,_,hd=>by
  simp only[SV.bN]
  split
  ·rename_i j hj;obtain⟨k1,k2⟩:=h.ba b j hj hd.1;exact⟨k1,hd.2.1,by rw[k2];exact hd.2.2⟩
  ·exact SV.br hd
 | .slice b o l c,v,_,hd=>by
  simp only[SV.bN]
  split
  ·rename_i j hj;obtain⟨k1,k2⟩:=h.ba b j hj hd.1;exact⟨k1,by rw[k2];exact hd.2⟩
  ·exact SV.br hd
 | .sl i ver,v,_,hd=>by
  simp only[SV.bN]
  split
  ·rename_i j hj
   split
   ·rename_i u hu;obtain⟨h1,c,h2,h3,h4⟩:=hd;obtain⟨c',k1,k2,k3⟩:=h.own i j c hj h2;obtain⟨k4,k5⟩:=k3 ver u h3 hu;exact⟨h1,c',k1,k4,fun e=>by rw[k2];exact h4 (k5 e)⟩
   ·exact SV.br hd
  ·exact SV.br hd
 | .vw i ver w z n,v,_,hd=>by
  simp only[SV.bN]
  split
  ·rename_i j hj
   split
   ·rename_i u hu;obtain⟨h1,c,h2,h3,h4⟩:=hd;obtain⟨c',k1,k2,k3⟩:=h.own i j c hj h2;obtain⟨k4,k5⟩:=k3 ver u h3 hu;exact⟨h1,c',k1,k4,fun e=>by rw[k2];exact h4 (k5 e)⟩
   ·exact SV.br hd
  ·exact SV.br hd
 | .vb b o t m z n,v,_,hd=>by
  simp only[SV.bN]
  split
  ·rename_i j hj;obtain⟨h1,h2⟩:=hd;obtain⟨k1,k2⟩:=h.ba b j hj h1;exact⟨k1,by rw[k2];exact h2⟩
  ·exact SV.br hd
 | .ep s w z g,v,hn,⟨a,n,c,h1,h2⟩=>⟨a,n,c,SV.fT h hn h1,h2⟩
theorem a8.Ef(h:u9 f β β' L L' nr){l:List SV}{vs:List Value}(hn:nr=true→l.all SV.nr=true)(hd:a8 β L l vs):a8 β' L' (l.map (SV.bN f)) vs:=by
 induction l generalizing vs with
 |nil=>cases hd;exact aV.nil
 |cons s l ih=>
  have hn1:nr=true→s.nr=true:=fun e=>by have:=hn e;simp only[List.all_cons,Bool.and_eq_true]at this;exact this.1
  have hn2:nr=true→l.all SV.nr=true:=fun e=>by have:=hn e;simp only[List.all_cons,Bool.and_eq_true]at this;exact this.2
  cases hd with
  |cons h1 h2=>
   refine aV.cons ?_ (ih hn2 h2)
   cases s with
   |arr t n x=>exact⟨h1.1,h1.2.imp fun _ _=>t.jl h.rdt⟩
   |_=>
    obtain⟨v,rfl,h3⟩:=h1;exact SV.rS (SV.fT h hn1 h3)
theorem VV.fT(h:u9 f β β' L L' nr){s:VV}{v:Value}(hn:nr=true→s.nr=true)(hd:s.den β L v):(s.bN f).den β' L' v:=by
 cases s with
 |sc s=>exact SV.fT h hn hd
 |agg l=>obtain⟨cs,rfl,hd⟩:=hd;exact⟨cs,rfl,a8.Ef h hn hd⟩
theorem LV.fT(h:u9 f β β' L L' nr){s:LV}{v:Value}(hn:nr=true→s.nr=true)(hd:s.den β L v):(s.bN f).den β' L' v:=by
 cases s with
 |one x=>exact VV.fT h hn hd
 |c6 l=>
  obtain⟨vs,rfl,hd⟩:=hd;refine⟨vs,rfl,?_⟩;simp only[LV.nr]at hn
  induction hd with
  |nil=>exact .nil
  |cons h1 h2 ih=>
   exact .cons (VV.fT h (fun e=>by have:=hn e;simp only[List.all_cons,Bool.and_eq_true]at this;exact this.1) h1) (ih fun e=>by have:=hn e;simp only[List.all_cons,Bool.and_eq_true]at this;exact this.2)
 |bP=>trivial
theorem eV.Ef(h:u9 f β β' L L' nr){w:World}{i j:Nat}{x:Item}{u:Nat→Nat}(hn:nr=true→x.nr=true)(hb:x.kd= .ba→β'.b j=β.b i)(hh:∀c,x.kd= .own c→β'.h j=β.h i)(hd:eV β L w i x):eV β' L' w j (x.bN f u):=by
 cases x with
 |ba cells e=>
  obtain⟨c,fz,h1,h2,h3⟩:=hd;exact⟨c,fz,by rw[hb rfl];exact h1,h2,a8.Ef h hn h3⟩
 |own ver t l=>
  show dm β' w (β'.h j) t l;rw[hh ver rfl];obtain⟨a,n,c,e,h1,h2,h3,h4⟩:=(hd:dm β w (β.h i) t l);refine⟨a,n,c,e,h1,h2,h3,fun h0=>?_⟩;obtain⟨a0,pre,ft,rest,elem,fz,k0,k1,k2,k3,k4,k5⟩:=h4 h0;exact⟨a0,pre,ft,rest,elem,fz,k0,k1,k2,k3,k4.imp fun _ _=>t.jl h.rdt,k5⟩
 |gone v=>trivial
end
def SV.cur(vb:Nat→Nat):SV→Bool
 | .sl i v| .vw i v _ _ _=>v==vb i
 | .ep s _ _ _=>s.cur vb
 |_=>true
def Item.cur(vb:Nat→Nat):Item→Bool
 | .ba cells _=>cells.all (SV.cur vb)
 |_=>true
def sB.fwd(f:Nat→Option Nat)(vb:Nat→Nat):sB:=⟨f,fun i v=>if v=vb i then some 0 else none⟩
def sB.bwd(g:Nat→Nat)(vb:Nat→Nat):sB:=⟨fun j=>some (g j),fun j v=>some (v+vb (g j))⟩
theorem Cr{f:Nat→Option Nat}{g vb:Nat→Nat}:∀ {s:SV},s.cur vb=true→(∀r∈s.refs,∃j,f r=some j∧g j=r)→(s.bN (.fwd f vb)).bN (.bwd g vb)=s
 | .ptr b o,_,h=>by obtain⟨j,h1,h2⟩:=h b (by simp[SV.refs]);simp only[SV.bN,sB.fwd,sB.bwd,h1,h2]
 | .uV b base st n z,_,h=>by obtain⟨j,h1,h2⟩:=h b (by simp[SV.refs]);simp only[SV.bN,sB.fwd,sB.bwd,h1,h2]
 | .slice b o l c,_,h=>by obtain⟨j,h1,h2⟩:=h b (by simp[SV.refs]);simp only[SV.bN,sB.fwd,sB.bwd,h1,h2]
 | .sl b v,hc,h=>by
  obtain⟨j,h1,h2⟩:=h b (by simp[SV.refs]);have e:v=vb b:=by simpa [SV.cur]using hc
  subst e;simp[SV.bN,sB.fwd,sB.bwd,h1,h2]
 | .vw b v w z n,hc,h=>by
  obtain⟨j,h1,h2⟩:=h b (by simp[SV.refs]);have e:v=vb b:=by simpa [SV.cur]using hc
  subst e;simp[SV.bN,sB.fwd,sB.bwd,h1,h2]
 | .vb b o t m z n,_,h=>by obtain⟨j,h1,h2⟩:=h b (by simp[SV.refs]);simp only[SV.bN,sB.fwd,sB.bwd,h1,h2]
 | .ep s w z g',hc,h=>by simp only[SV.bN];rw[Cr (s:=s) hc h]
 | .int _ _,_,_| .bool _,_,_| .uU _,_,_| .str _,_,_| .gY _,_,_| .bP,_,_| .arr _ _ _,_,_| .rd _ _ _ _,_,_=>rfl
def Item.ver:Item→Nat
 | .ba _ _=>0
 | .own v _ _| .gone v=>v
theorem VQ{f:Nat→Option Nat}{g vb:Nat→Nat}{x:Item}{i:Nat}(hc:x.cur vb=true)(hv:vb i=x.ver)(h:∀r∈x.refs,∃j,f r=some j∧g j=r):(x.bN (.fwd f vb) fun _=>0).bN (.bwd g vb) (· +vb i)=x:=by
 cases x with
 |ba cells e=>
  have hm:(cells.map (SV.bN (.fwd f vb))).map (SV.bN (.bwd g vb))=cells:=by
   rw[List.map_map];simp only[Item.cur,List.all_eq_true]at hc;have:=List.map_congr_left (l:=cells) (f:=SV.bN (.bwd g vb)∘SV.bN (.fwd f vb)) (g:=id) fun s hs=>Cr (hc s hs) fun r hr=>h r (by simp only[Item.refs,List.mem_flatMap];exact⟨s,hs,hr⟩);rw[this,List.map_id]
  simp only[Item.bN,hm]
 |own v t l=>simp only[Item.bN,Nat.zero_add,hv,Item.ver]
 |gone v=>simp only[Item.bN,Nat.zero_add,hv,Item.ver]
theorem SV.SC{f:sB}:∀ {s:SV},s.nr=true→(s.bN f).nr=true
 | .ptr b o,_=>by simp only[SV.bN];split<;>rfl
 | .uV ..,_=>by simp only[SV.bN];split<;>rfl
 | .slice ..,_=>by simp only[SV.bN];split<;>rfl
 | .sl ..,_=>by simp only[SV.bN];split<;>(try split)<;>rfl
 | .vw ..,_=>by simp only[SV.bN];split<;>(try split)<;>rfl
 | .vb ..,_=>by simp only[SV.bN];split<;>rfl
 | .ep s w z g,h=>SV.SC (s:=s) h
 | .int _ _,h| .bool _,h| .uU _,h| .str _,h| .gY _,h| .bP,h| .arr _ _ _,h| .rd _ _ _ _,h=>h
def rk:Nat→List Nat→List Nat→List Item→Ask (Option (List Nat×List Item))
 |0,_,_,_=>.ret none
 |_+1,[],acc,Ni=>.ret (some (acc,Ni))
 |n+1,i::todo,acc,Ni=>if i∈acc then rk n todo acc Ni else
   .get i fun x=>match x with
    |some x=>rk n (x.refs++todo) (acc++ [i]) (Ni++ [x])
    |none=>.ret none
structure Reached (hp:Hp) (roots acc:List Nat) (Ni:List Item) (todo:List Nat):Prop where
 nodup:acc.Nodup
 len:acc.length=Ni.length
 at_:∀ (j:Nat) (i:Nat) (x:Item),acc[j]? =some i→Ni[j]? =some x→bn hp i=some x
 refs:∀x∈Ni,∀r∈x.refs,r∈acc∨r∈todo
 root:∀r∈roots,r∈acc∨r∈todo
theorem yR{hp:Hp}{roots:List Nat}:∀ (n:Nat) (todo acc:List Nat) (Ni:List Item) {ids:List Nat} {xs:List Item},Reached hp roots acc Ni todo→(rk n todo acc Ni).val hp=some (ids,xs)→Reached hp roots ids xs []
 |0,_,_,_,_,_,_,h=>by cases h
 |n+1,[],acc,Ni,_,_,hr,h=>by
  simp only[rk,Ask.val]at h
  cases h
  exact hr
 |n+1,i::todo,acc,Ni,ids,xs,hr,h=>by
  simp only[rk]at h
  split at h
  ·rename_i hm;have hm':i∈acc:=hm;refine yR n todo acc Ni ⟨hr.nodup,hr.len,hr.at_,fun x hx r pI=>?_,fun r pI=>?_⟩ h
   ·rcases hr.refs x hx r pI with h1|h1
    ·exact .inl h1
    ·rcases List.mem_cons.1 h1 with rfl|h1
     ·exact .inl hm'
     ·exact .inr h1
   ·rcases hr.root r pI with h1|h1
    ·exact .inl h1
    ·rcases List.mem_cons.1 h1 with rfl|h1
     ·exact .inl hm'
     ·exact .inr h1
  ·rename_i hm;have hm':i∉acc:=hm;simp only[Ask.val]at h
   split at h
   ·rename_i x hx;refine yR n (x.refs++todo) (acc++ [i]) (Ni++ [x]) ⟨?_,by simp[hr.len],?_,?_,?_⟩ h
    ·rw[List.nodup_append];refine⟨hr.nodup,by simp,fun a ha b hb=>?_⟩;simp at hb;subst hb;exact fun e=>hm' (e▸ha)
    ·intro j i' x' h1 h2
     by_cases hj:j<acc.length
     ·rw[List.getElem?_append_left hj]at h1;rw[List.getElem?_append_left (by rw[← hr.len];exact hj)]at h2;exact hr.at_ j i' x' h1 h2
     ·rw[List.getElem?_append_right (by omega)]at h1;rw[List.getElem?_append_right (by rw[← hr.len];omega),← hr.len]at h2
      have hj0:j-acc.length=0:=by
       have:=(List.getElem?_eq_some_iff.1 h1).1;simpa using this
      rw[hj0]at h1 h2;simp at h1 h2;subst h1 h2;exact hx
    ·intro y hy r pI;rcases List.mem_append.1 hy with hy|hy
     ·rcases hr.refs y hy r pI with h1|h1
      ·exact .inl (by simp[h1])
      ·rcases List.mem_cons.1 h1 with rfl|h1
       ·exact .inl (by simp)
       ·exact .inr (by simp[h1])
     ·simp at hy;subst hy;exact .inr (by simp[pI])
    ·intro r pI;rcases hr.root r pI with h1|h1
     ·exact .inl (by simp[h1])
     ·rcases List.mem_cons.1 h1 with rfl|h1
      ·exact .inl (by simp)
      ·exact .inr (by simp[h1])
   ·simp[Ask.val]at h
noncomputable section
variable {W:World} {aj:Hp} {β₀ β:Env} {hp:Hp} {w:World}
theorem Eg{h:Value}{t:Ty}{l:List t.D}(hk:dm β w h t l){b:Nat}(hb:inBlock h b):∃a n c,h= .slice (some a) n c∧0<c∧a.block=b:=by
 obtain⟨a,n,c,rfl,h1,h2,h3,_⟩:=hk
 cases a with
 |none=>exact hb.elim
 |some a=>exact⟨a,n,c,rfl,by have:=hb.1;omega,hb.2⟩
theorem ajY{h v:Value}{k:Nat}{z n:Int}(hs:wy h k z n v){b:Nat}(hb:inBlock v b):inBlock h b:=by
 obtain⟨a,m,c,a',c',rfl,z0,n0,hle,rfl,ra,_,ha⟩:=hs
 cases a' with
 |none=>exact hb.elim
 |some a2=>
  have h0:=hb.1;obtain⟨a0,rfl,e⟩:=ha (by omega);simp at e;subst e;exact⟨by omega,by have:=hb.2;rwa [dJ]at this⟩
theorem Nj(h:bd W aj β₀ β hp w){t:Ty}{s:SV}{pm:Bool}{l:List t.D}{v:Value}(hc:(iM t s).val hp=some (pm,l))(hd:s.den β (kd hp) v){b:Nat}(hb:inBlock v b):
  (b<w.heap.size∧¬fK hp β b)∨∃i x,hp[i]? =some (some x)∧bT β x i b∧i∈s.refs:=by
 unfold iM at hc
 split at hc
 ·exact .inl ((h.aqw hd.2.2).2 b hb)
 ·obtain⟨_,rfl⟩:=hd;exact hb.elim
 ·rename_i i ver;simp only[Ask.val]at hc
  split at hc
  ·rename_i ver' t' l' hi
   split at hc
   ·split at hc
    ·rename_i e;subst e;obtain⟨_,hd⟩:=hd;obtain⟨h1,rfl⟩:=h.og (p:=fun x=>v=x) (aB hi) hd;exact .inr ⟨i,_,aB hi,Eg h1 hb,by simp[SV.refs]⟩
    ·cases hc
   ·cases hc
  ·cases hc
 ·rename_i i ver w' z n;simp only[Ask.val]at hc
  split at hc
  ·rename_i ver' t' l' hi
   split at hc
   ·split at hc
    ·rename_i e;obtain⟨rfl,rfl⟩:=e;obtain⟨_,hd⟩:=hd;obtain⟨h1,h2⟩:=h.og (p:=fun x=>wy x _ z n v) (aB hi) hd;exact .inr ⟨i,_,aB hi,Eg h1 (ajY h2 hb),by simp[SV.refs]⟩
    ·cases hc
   ·cases hc
  ·cases hc
 ·rename_i b' o t' m z n;simp only[Ask.val]at hc
  split at hc
  ·rename_i cells elem hi;obtain⟨_,z0,n0,zn,a',c',rfl,ra,_,ha⟩:=hd;refine .inr ⟨b',_,aB hi,?_,by simp[SV.refs]⟩;show b=β.b b'
   cases a' with
   |none=>exact hb.elim
   |some a'=>
    have h0:=hb.1;have e:=ha (by omega);simp at e;subst e;rw[← hb.2,dJ]
  ·cases hc
 ·rename_i b' o len cap;simp only[Ask.val]at hc
  split at hc
  ·rename_i cells elem hi;obtain⟨_,rfl⟩:=hd;exact .inr ⟨b',_,aB hi,hb.2.symm,by simp[SV.refs]⟩
  ·cases hc
 ·simp[Ask.val]at hc
def aaH(β:Env)(own:Nat→Prop)(w:World)(v:Value)(t:Ty)(l:List t.D):Prop:=bG β false w v t l∧∀b,inBlock v b→b<w.heap.size∧¬own b
def Env.IB(β:Env)(own:Nat→Prop)(w:World):Env:=⟨β.b,β.h,fun pm v t l=>match pm with
 |true=>β.rd true v t l
 |false=>aaH β own w v t l⟩
def IC(β:Env)(own:Nat→Prop)(w:World)(v:Value)(t:Ty)(l:List t.D):Prop:=bG (β.IB own w) false w v t l∧∀b,inBlock v b→b<w.heap.size∧¬own b
def Env.can(β:Env)(own:Nat→Prop)(w:World)(lent:Bool)(ids:List Nat):Env:=⟨fun j=>β.b (ids.getD j 0),fun j=>β.h (ids.getD j 0),fun pm v t l=>match pm with
 |true=>β.rd true v t l
 |false=>β.rd false v t l∨(lent=true∧IC β own w v t l)⟩
theorem bd.IB(h:bd W aj β₀ β hp w){own:Nat→Prop}(ho:∀b,own b→fK hp β b):∀pm v t l,β.rd pm v t l→(β.IB own w).rd pm v t l:=by
 intro pm v t l hr
 cases pm with
 |true=>exact hr
 |false=>
  obtain⟨h1,h2⟩:=h.reads _ _ _ _ hr;exact⟨h1,fun b hb=>⟨(h2 b hb).1,fun k=>(h2 b hb).2 (ho b k)⟩⟩
theorem bd.aaI(h:bd W aj β₀ β hp w){own:Nat→Prop}(ho:∀b,own b→fK hp β b){v:Value}{t:Ty}{l:List t.D}(hl:aaH β own w v t l):IC β own w v t l:=
 ⟨hl.1.mono (h.IB ho),hl.2⟩
def ID(t:Ty)(s:SV):Ask (Option (List t.D)):=(iM t s).map (·.map (·.2))
theorem IE(h:bd W aj β₀ β hp w){t:Ty}{s:SV}{l:List t.D}{v:Value}(hc:(ID t s).val hp=some l)(hd:s.den β (kd hp) v){own:Nat→Prop}
  (ho:∀b,own b→∃i x,hp[i]? =some (some x)∧bT β x i b∧i∉s.refs):aaH β own w v t l:=by
 unfold ID at hc;rw[Ask.cG]at hc;obtain⟨⟨pm,l'⟩,hc1,he⟩:=map_some hc;clear hc
 cases he
 have hc:=hc1;have h1:=l7 h hc hd
 have h2:bG β false w v t l':=by
  cases pm with
  |true=>exact h1.Vy
  |false=>exact h1
 refine⟨h2,fun b hb=>?_⟩;rcases Nj h hc hd hb with⟨h3,h4⟩|⟨i,x,h3,h4,h5⟩
 ·refine⟨h3,fun k=>?_⟩;obtain⟨i,x,k1,k2,_⟩:=ho b k;exact h4 ⟨i,x,k1,k2⟩
 ·refine⟨(h.items i x h3).lt h4,fun k=>?_⟩;obtain⟨j,y,k1,k2,k3⟩:=ho b k;have:=h.inj i j x y b h3 k1 h4 k2;subst this;exact k3 h5
def IF(t:Ty):List SV→Ask (Option (List (List t.D)))
 | []=>.ret (some [])
 |s::r=>(ID t s).bind fun x=>match x with
  |some l=>(IF t r).map (·.map (l:: ·))
  |none=>.ret none
theorem IG(h:bd W aj β₀ β hp w){t:Ty}{own:Nat→Prop}:∀ {row:List SV} {ls:List (List t.D)} {vs:List Value},(IF t row).val hp=some ls→a8 β (kd hp) row vs→
  (∀b,own b→∃i x,hp[i]? =some (some x)∧bT β x i b∧i∉row.flatMap SV.refs)→aV ((Ty.sl t).has (β.IB own w) false) ls vs
 | [],ls,vs,hc,hd,_=>by
  simp[IF,Ask.val]at hc;subst hc
  cases hd;exact .nil
 |s::row,ls,_,hc,.cons (vs:=us) h1 h2,ho=>by
  simp only[IF]at hc;rw[Ask.dZ]at hc
  split at hc
  ·rename_i l hl;rw[Ask.cG]at hc;obtain⟨ls',ra,rfl⟩:=map_some hc
   have hs:∀t n l,s≠ .arr t n l:=by
    intro t' n l' e;subst e;simp[ID,iM,Ask.val,Ask.map,Ask.bind]at hl
   obtain⟨v,rfl,hv⟩:=SV.iH h1 hs;refine .cons ⟨v,rfl,SV.br hv,.inr (.inl ⟨rfl,?_⟩)⟩ (IG h ra h2 fun b hb=>?_)
   ·exact IE h hl hv fun b hb=>by
     obtain⟨i,x,k1,k2,k3⟩:=ho b hb;exact⟨i,x,k1,k2,fun hm=>k3 (by simp[hm])⟩
   ·obtain⟨i,x,k1,k2,k3⟩:=ho b hb;exact⟨i,x,k1,k2,fun hm=>k3 (by rw[List.flatMap_cons];exact List.mem_append_right _ hm)⟩
  ·simp[Ask.val]at hc
def ajZ(t:Ty)(s:SV):Ask (Option (SV×List Nat)):=
 match t,s with
 | .sl t',.slice b o len cap=>.get b fun x=>match x with
  |some (.ba cells _)=>match(if len≤cap then Vz cells o len else none)with
   |some row=>(IF t' row).map (·.map fun ls=>(.rd false false (.sl t') ls,b::row.flatMap SV.refs))
   |none=>.ret none
  |_=>.ret none
 |t,s=>(ID t s).map (·.map fun l=>(.rd false false t l,s.refs))
theorem SD(h:bd W aj β₀ β hp w){t:Ty}{s s':SV}{lids:List Nat}{v:Value}(hc:(ajZ t s).val hp=some (s',lids))(hd:s.den β (kd hp) v){own:Nat→Prop}
  (ho:∀b,own b→∃i x,hp[i]? =some (some x)∧bT β x i b∧i∉lids):∃l,s'= .rd false false t l∧IC β own w v t l:=by
 have lE:∀b,own b→fK hp β b:=fun b hb=>let ⟨i,x,h1,h2,_⟩:=ho b hb;⟨i,x,h1,h2⟩;unfold ajZ at hc
 split at hc
 ·rename_i t' b o len cap;simp only[Ask.val]at hc
  split at hc
  ·rename_i cells elem hi
   split at hc
   ·rename_i row ji;rw[Ask.cG]at hc;obtain⟨ls,hl,he⟩:=map_some hc
    cases he
    split at ji
    ·rename_i hlc;obtain⟨_,rfl⟩:=hd;obtain⟨cs,fz,h1,h2,h3⟩:=h.items _ _ (aB hi);obtain⟨pre,mid,post,rfl,e1,e2,h4⟩:=pC ji h3
     have h5:=IG h hl h4 (own:=own) fun b hb=>by
      obtain⟨i,x,k1,k2,k3⟩:=ho b hb;exact⟨i,x,k1,k2,fun hm=>k3 (List.mem_cons_of_mem _ hm)⟩
     have hlen:mid.length=ls.length:=(by rw[bl h5];simp[Ty.w]);subst e1;refine⟨ls,rfl,⟨_,_,_,rfl,by omega,hlc,(fun e=>by cases e),fun _=>⟨_,mid,rfl,rfl,h5,eA h1⟩⟩,fun b' iw=>?_⟩;have eb:b'=β.b b:=iw.2.symm;subst eb;refine⟨(Array.getElem?_eq_some_iff.1 h1).1,fun k=>?_⟩;obtain⟨i,x,k1,k2,k3⟩:=ho _ k;have:=h.inj i b x _ _ k1 (aB hi) k2 rfl;subst this;exact k3 (by simp)
    ·cases ji
   ·simp[Ask.val]at hc
  ·simp[Ask.val]at hc
 ·rw[Ask.cG]at hc;obtain⟨l,hl,he⟩:=map_some hc
  cases he
  exact⟨l,rfl,h.aaI lE (IE h hl hd ho)⟩
def aBd:SV→Bool
 | .sl _ _| .slice _ _ _ _| .rd _ _ _ _| .vw _ _ _ _ _| .vb _ _ _ _ _ _=>true
 | .gY (.slice none 0 0)=>true
 |_=>false
def jm(t:Ty):List SV→Ask (List SV×List Nat)
 | []=>.ret ([],[])
 |s::r=>if aBd s=true then(ajZ t s).bind fun y=>match y with
   |some (s',b1)=>(jm t r).map fun(l,b)=>(s'::l,b1++b)
   |none=>(jm t r).map fun(l,b)=>(s::l,b)
  else(jm t r).map fun(l,b)=>(s::l,b)
theorem yS(h:bd W aj β₀ β hp w){f:sB}{βc:Env}{L':Nat→Option Kd}(VH:u9 f β βc (kd hp) L' false){own:Nat→Prop}{t:Ty}(hl:∀v l,IC β own w v t l→βc.rd false v t l):
  ∀ {l l':List SV} {lids:List Nat} {vs:List Value},(jm t l).val hp=(l',lids)→a8 β (kd hp) l vs→
   (∀b,own b→∃i x,hp[i]? =some (some x)∧bT β x i b∧i∉lids)→a8 βc L' (l'.map (SV.bN f)) vs
 | [],l',lids,_,hc,hd,_=>by
  cases hd
  have ra:(([]:List SV),([]:List Nat))=(l',lids):=hc
  cases ra
  exact .nil
 |s::r,l',lids,_,hc,.cons (vs:=vs) h1 h2,ho=>by
  have same:∀ {l':List SV} {lids:List Nat},((jm t r).map fun(l,b)=>(s::l,b)).val hp=(l',lids)→(∀b,own b→∃i x,hp[i]? =some (some x)∧bT β x i b∧i∉lids)→a8 βc L' (l'.map (SV.bN f)) (vs++_):=fun {l' lids} hc ho=>by
   rw[Ask.cG]at hc;have e1:l'=s::((jm t r).val hp).1:=(congrArg Prod.fst hc).symm;have e2:lids=((jm t r).val hp).2:=(congrArg Prod.snd hc).symm;subst e1;rw[e2]at ho;have ih:=yS h VH hl (l:=r) (l':=((jm t r).val hp).1) (lids:=((jm t r).val hp).2) rfl h2 ho;have hs:a8 βc L' ([s].map (SV.bN f)) (vs++ []):=a8.Ef VH (by simp) (aV.cons h1 aV.nil);rw[List.append_nil]at hs;exact hs.append ih
  simp only[jm]at hc
  split at hc
  ·rename_i me;rw[Ask.dZ]at hc
   split at hc
   ·rename_i s' b1 hs;rw[Ask.cG]at hc;have e1:l'=s'::((jm t r).val hp).1:=(congrArg Prod.fst hc).symm;have e2:lids=b1++((jm t r).val hp).2:=(congrArg Prod.snd hc).symm;subst e1;rw[e2]at ho;have hna:∀t n l,s≠ .arr t n l:=fun _ _ _ e=>(by subst e;cases me);obtain⟨v,rfl,hv⟩:=SV.iH h1 hna
    obtain⟨l2,rfl,h3⟩:=SD h hs hv (own:=own) fun b hb=>by
     obtain⟨i,x,k1,k2,k3⟩:=ho b hb;exact⟨i,x,k1,k2,fun hm=>k3 (List.mem_append_left _ hm)⟩
    refine .cons (vs:= [v]) ⟨v,rfl,SV.br hv,(fun e=>by cases e),.inr (.inl ⟨rfl,hl _ _ h3⟩)⟩ (yS h VH hl (l:=r) (l':=((jm t r).val hp).1) (lids:=((jm t r).val hp).2) rfl h2 fun b hb=>?_);obtain⟨i,x,k1,k2,k3⟩:=ho b hb;exact⟨i,x,k1,k2,fun hm=>k3 (List.mem_append_right _ hm)⟩
   ·exact same hc ho
  ·exact same hc ho
def fv:List (Option Ty)→List LV→Ask (Option (List LV×List Nat))
 |_,[]=>.ret (some ([],[]))
 | [],x::xs=>(fv [] xs).map (·.map fun(l,b)=>(x::l,b))
 |none::ts,x::xs=>(fv ts xs).map (·.map fun(l,b)=>(x::l,b))
 |some t::ts,.one (.sc s)::xs=>(ajZ t s).bind fun y=>match y with
  |some (s',b1)=>(fv ts xs).map (·.map fun(l,b)=>(.one (.sc s')::l,b1++b))
  |none=>.ret none
 |some t::ts,.one (.agg l)::xs=>(jm t l).bind fun y=>(fv ts xs).map (·.map fun(r,b)=>(.one (.agg y.1)::r,y.2++b))
 |some _::_,_=>.ret none
theorem jn(h:bd W aj β₀ β hp w){f:sB}{βc:Env}{L':Nat→Option Kd}(VH:u9 f β βc (kd hp) L' false){own:Nat→Prop}:
  ∀ {ts:List (Option Ty)} {xs cs:List LV} {lids:List Nat} {vs:List Value},(fv ts xs).val hp=some (cs,lids)→bF (LV.den β (kd hp)) xs vs→
   (∀t,some t∈ts→∀v l,IC β own w v t l→βc.rd false v t l)→
   (∀b,own b→∃i x,hp[i]? =some (some x)∧bT β x i b∧i∉lids)→bF (LV.den βc L') (cs.map (LV.bN f)) vs
 |ts,[],cs,lids,_,hc,hd,_,_=>by
  cases hd
  have ra:some (([]:List LV),([]:List Nat))=some (cs,lids):=by
   cases ts with
   |nil=>exact hc
   |cons a b=>cases a<;>exact hc
  cases ra
  exact .nil
 | [],x::xs,_,_,_,hc,.cons h1 h2,hl,ho=>by
  simp only[fv]at hc;rw[Ask.cG]at hc;obtain⟨⟨l,b⟩,ra,he⟩:=map_some hc
  cases he
  exact .cons (LV.fT VH (by simp) h1) (jn h VH ra h2 hl ho)
 |none::ts,x::xs,_,_,_,hc,.cons h1 h2,hl,ho=>by
  simp only[fv]at hc;rw[Ask.cG]at hc;obtain⟨⟨l,b⟩,ra,he⟩:=map_some hc
  cases he
  exact .cons (LV.fT VH (by simp) h1) (jn h VH ra h2 (fun t ht=>hl t (List.mem_cons_of_mem _ ht)) ho)
 |some t::ts,x::xs,_,_,_,hc,.cons h1 h2,hl,ho=>by
  cases x with
  |one x=>
   cases x with
   |sc s=>
    simp only[fv]at hc;rw[Ask.dZ]at hc
    split at hc
    ·rename_i s' b1 hs;rw[Ask.cG]at hc;obtain⟨⟨l,b⟩,ra,he⟩:=map_some hc
     cases he
     obtain⟨l',rfl,h3⟩:=SD h hs h1 (own:=own) fun b hb=>by
      obtain⟨i,x,k1,k2,k3⟩:=ho b hb;exact⟨i,x,k1,k2,fun hm=>k3 (List.mem_append_left _ hm)⟩
     refine .cons ⟨SV.br h1,(fun e=>by cases e),.inr (.inl ⟨rfl,hl t (by simp) _ _ h3⟩)⟩ (jn h VH ra h2 (fun t ht=>hl t (List.mem_cons_of_mem _ ht)) fun b hb=>?_);obtain⟨i,x,k1,k2,k3⟩:=ho b hb;exact⟨i,x,k1,k2,fun hm=>k3 (List.mem_append_right _ hm)⟩
    ·simp[Ask.val]at hc
   |agg l=>
    simp only[fv]at hc;rw[Ask.dZ,Ask.cG]at hc;obtain⟨⟨l',b⟩,ra,he⟩:=map_some hc
    cases he
    obtain⟨cells,rfl,h3⟩:=h1;refine .cons ⟨cells,rfl,yS h VH (fun v l h=>hl t (by simp) v l h) (l:=l) (l':=((jm t l).val hp).1) (lids:=((jm t l).val hp).2) rfl h3 fun b hb=>?_⟩ (jn h VH ra h2 (fun t ht=>hl t (List.mem_cons_of_mem _ ht)) fun b hb=>?_)
    ·obtain⟨i,x,k1,k2,k3⟩:=ho b hb;exact⟨i,x,k1,k2,fun hm=>k3 (List.mem_append_left _ hm)⟩
    ·obtain⟨i,x,k1,k2,k3⟩:=ho b hb;exact⟨i,x,k1,k2,fun hm=>k3 (List.mem_append_right _ hm)⟩
  |c6 l=>simp[fv,Ask.val]at hc
  |bP=>simp[fv,Ask.val]at hc
theorem bT.bN{f:sB}{u:Nat→Nat}{β β':Env}{x:Item}{i j b:Nat}(hb:β'.b j=β.b i)(hh:β'.h j=β.h i):bT β' (x.bN f u) j b↔bT β x i b:=by
 cases x<;>simp only[Item.bN,bT,hb,hh]
def nP(ids:List Nat)(xs:List Item)(i:Nat):Nat:=match iP ids i with
 |some j=>match xs[j]? with
  |some x=>x.ver
  |none=>0
 |none=>0
abbrev wP(ids:List Nat)(xs:List Item):sB:=.fwd (iP ids) (nP ids xs)
def g9(ids:List Nat)(xs:List Item):Hp:=xs.map fun x=>some (x.bN (wP ids xs) fun _=>0)
theorem mR{roots ids:List Nat}{xs:List Item}(hr:Reached hp roots ids xs []){j:Nat}{y:Item}(h:(g9 ids xs)[j]? =some (some y)):∃i x,ids[j]? =some i∧hp[i]? =some (some x)∧xs[j]? =some x∧y=x.bN (wP ids xs) fun _=>0:=by
 unfold g9 at h;rw[List.getElem?_map]at h;obtain⟨x,hx,he⟩:=map_some h;simp at he;subst he;have hj:j<ids.length:=by rw[hr.len];exact(List.getElem?_eq_some_iff.1 hx).1
 have hi:ids[j]? =some ids[j]:=List.getElem?_eq_getElem hj;exact⟨_,x,hi,aB (hr.at_ _ _ _ hi hx),hx,rfl⟩
theorem vf{roots ids:List Nat}{xs:List Item}(hr:Reached hp roots ids xs []){i j:Nat}(h:ids[j]? =some i):∃x,hp[i]? =some (some x)∧xs[j]? =some x∧(g9 ids xs)[j]? =some (some (x.bN (wP ids xs) fun _=>0)):=by
 have hj:j<xs.length:=by rw[← hr.len];exact(List.getElem?_eq_some_iff.1 h).1
 have hx:xs[j]? =some xs[j]:=List.getElem?_eq_getElem hj;refine⟨_,aB (hr.at_ _ _ _ h hx),hx,?_⟩;unfold g9;rw[List.getElem?_map,hx];rfl
theorem Eh{roots ids:List Nat}{xs:List Item}(hr:Reached hp roots ids xs []){i j:Nat}(h:ids[j]? =some i){x:Item}(hx:hp[i]? =some (some x)):nP ids xs i=x.ver:=by
 obtain⟨y,h1,h2,_⟩:=vf hr h;rw[hx]at h1;cases h1;simp only[nP,jX hr.nodup h,h2]
def mm(hp:Hp)(β:Env)(ids:List Nat)(b:Nat):Prop:=∃i x,hp[i]? =some (some x)∧bT β x i b∧i∈ids
theorem gl{l:List Nat}{j i:Nat}(h:l[j]? =some i):l.getD j 0=i:=by rw[List.getD_eq_getElem?_getD,h];rfl
theorem pM{roots ids:List Nat}{xs:List Item}(hr:Reached hp roots ids xs []){own:Nat→Prop}{lent:Bool}{b:Nat}(h:fK (g9 ids xs) (β.can own w lent ids) b):mm hp β ids b:=by
 obtain⟨j,y,hj,ho⟩:=h;obtain⟨i,x,h1,h2,_,rfl⟩:=mR hr hj;refine⟨i,x,h2,?_,List.mem_of_getElem? h1⟩;exact(bT.bN (by show β.b _=_;rw[gl h1]) (by show β.h _=_;rw[gl h1])).1 ho
theorem IH{roots ids:List Nat}{xs:List Item}(hr:Reached hp roots ids xs []){own:Nat→Prop}{lent:Bool}:u9 (wP ids xs) β (β.can own w lent ids) (kd hp) (kd (g9 ids xs)) false:=by
 refine⟨fun b j hj hb=>?_,fun i j c hj hi=>?_,fun v t l h=>h,fun _ v t l h=>.inl h⟩
 ·have h1:=gC hj;obtain⟨x,h2,h3,h4⟩:=vf hr h1;refine⟨?_,by show β.b _=_;rw[gl h1]⟩;rw[dk h2]at hb;rw[dk h4,Item.jY,Option.some.inj hb];rfl
 ·have h1:=gC hj;obtain⟨x,h2,h3,h4⟩:=vf hr h1;rw[dk h2]at hi;have hk:=Option.some.inj hi;refine⟨0,?_,by show β.h _=_;rw[gl h1],fun v v' _ hv=>?_⟩
  ·rw[dk h4,Item.jY,hk];rfl
  ·have VK:(if v=nP ids xs i then some 0 else none)=some v':=hv
   split at VK
   ·rename_i e
    cases VK
    refine⟨Nat.le_refl _,fun _=>?_⟩;rw[e,Eh hr h1 h2]
    cases x with
    |ba _ _=>cases hk
    |own _ _ _=>cases hk;rfl
    |gone _=>cases hk;rfl
   ·cases VK
theorem aj0(h:bd W aj β₀ β hp w){roots ids:List Nat}{xs:List Item}(hr:Reached hp roots ids xs []){lent:Bool}:
  bd w (g9 ids xs) (β.can (mm hp β ids) w lent ids) (β.can (mm hp β ids) w lent ids) (g9 ids xs) w:=by
 have lE:∀b,mm hp β ids b→fK hp β b:=fun b ⟨i,x,h1,h2,_⟩=>⟨i,x,h1,h2⟩;refine⟨fun j y hj=>?_,fun j k y z b hj hk h1 h2=>?_,bH.refl _ _,fun i x b hi ho=>.inr ⟨x,hi,ho⟩,rfl,rfl,Nat.le_refl _,fun _ _ _=>rfl,fun pm v t l qw=>?_,fun pm v t l b h1 h2=>.inr ⟨pm,v,t,l,id,h1,h2⟩⟩
 ·obtain⟨i,x,h1,h2,_,rfl⟩:=mR hr hj;refine eV.Ef (IH hr) (by simp) (fun _=>?_) (fun _ _=>?_) (h.items i x h2)
  ·show β.b _=_;rw[gl h1]
  ·show β.h _=_;rw[gl h1]
 ·obtain⟨i1,x1,a1,a2,_,rfl⟩:=mR hr hj;obtain⟨i2,x2,b1,b2,_,rfl⟩:=mR hr hk;have e:=h.inj i1 i2 x1 x2 b a2 b2 ((bT.bN (by show β.b _=_;rw[gl a1]) (by show β.h _=_;rw[gl a1])).1 h1) ((bT.bN (by show β.b _=_;rw[gl b1]) (by show β.h _=_;rw[gl b1])).1 h2);subst e;have e1:=jX hr.nodup a1;have e2:=jX hr.nodup b1;rw[e1]at e2;exact Option.some.inj e2
 ·have aaG:∀pm v t l,β.rd pm v t l→(β.can (mm hp β ids) w lent ids).rd pm v t l:=by
   intro pm v t l hr
   cases pm with
   |true=>exact hr
   |false=>exact .inl hr
  have hold:∀pm v t l,β.rd pm v t l→bG (β.can (mm hp β ids) w lent ids) pm w v t l∧∀b,inBlock v b→b<w.heap.size∧¬fK (g9 ids xs) (β.can (mm hp β ids) w lent ids) b:=by
   intro pm v t l qw;obtain⟨h1,h2⟩:=h.reads _ _ _ _ qw;exact⟨h1.mono aaG,fun b hb=>⟨(h2 b hb).1,fun k=>(h2 b hb).2 (lE b (pM hr k))⟩⟩
  cases pm with
  |true=>exact hold true v t l qw
  |false=>
   rcases qw with qw|⟨hl,h1,h2⟩
   ·exact hold false v t l qw
   ·refine⟨h1.mono fun pm v t l hr=>?_,fun b hb=>⟨(h2 b hb).1,fun k=>(h2 b hb).2 (pM hr k)⟩⟩
    cases pm with
    |true=>exact hr
    |false=>exact .inr ⟨hl,h.aaI lE hr⟩
end
abbrev Item.bk(g vb:Nat→Nat)(j:Nat)(x:Item):Item:=x.bN (.bwd g vb) (· +vb (g j))
def Ei(g vb:Nat→Nat)(d:List (Nat×Item)):List (Nat×Item):=d.map fun(j,x)=>(g j,x.bk g vb j)
theorem II{g vb:Nat→Nat}{d:List (Nat×Item)}{i:Nat}{y:Item}:(i,y)∈Ei g vb d↔∃j x,(j,x)∈d∧i=g j∧y=x.bk g vb j:=by
 unfold Ei;rw[List.mem_map];constructor
 ·rintro⟨⟨j,x⟩,h,e⟩
  simp at e;exact⟨j,x,h,e.1.symm,e.2.symm⟩
 ·rintro⟨j,x,h,rfl,rfl⟩
  exact⟨(j,x),h,rfl⟩
structure Mir (g vb:Nat→Nat) (J U:Nat→Prop) (lent:Bool) (Cm hpc hp:Hp):Prop where
 live:∀ (j:Nat) (y:Item),hpc[j]? =some (some y)→J j
 fwd:∀ (j:Nat) (y:Item),hpc[j]? =some (some y)→hp[g j]? =some (some (y.bk g vb j))
 bwd:∀ (i:Nat) (x:Item),hp[i]? =some (some x)→(∃ (j:Nat) (y:Item),hpc[j]? =some (some y)∧g j=i)∨(Cm[i]? =some (some x)∧U i)
 nr:lent=true→∀ (j:Nat) (y:Item),hpc[j]? =some (some y)→y.nr=true
theorem Cs{g vb:Nat→Nat}{J U:Nat→Prop}{lent:Bool}{Cm:Hp}(VR:∀j k,J j→J k→g j=g k→j=k):
  ∀ (d:List (Nat×Item)) {hpc hp:Hp},(∀j x,(j,x)∈d→J j)→(lent=true→d.all (fun p=>p.2.nr)=true)→Mir g vb J U lent Cm hpc hp→Mir g vb J U lent Cm (aI d hpc) (aI (Ei g vb d) hp)
 | [],_,_,_,_,h=>h
 |(j,x)::d,hpc,hp,hJ,hn,h=>by
  refine Cs VR d (hpc:=setAt hpc j x) (hp:=setAt hp (g j) (x.bk g vb j)) (fun j' x' hm=>hJ j' x' (List.mem_cons_of_mem _ hm)) (fun e=>by have:=hn e;simp only[List.all_cons,Bool.and_eq_true]at this;exact this.2) ?_;have hj:J j:=hJ j x (by simp);refine⟨fun k y hk=>?_,fun k y hk=>?_,fun i z hi=>?_,fun e k y hk=>?_⟩
  ·by_cases ZS:k=j
   ·exact ZS▸hj
   ·exact h.live k y ((bY hpc j x k y ZS).1 hk)
  ·by_cases ZS:k=j
   ·subst ZS;rw[dw]at hk;simp at hk;subst hk;exact dw _ _ _
   ·have g6:=(bY hpc j x k y ZS).1 hk;have gz:g k≠g j:=fun e=>ZS (VR k j (h.live k y g6) hj e);exact(bY hp (g j) _ (g k) _ gz).2 (h.fwd k y g6)
  ·by_cases hij:i=g j
   ·subst hij;exact .inl ⟨j,x,dw _ _ _,rfl⟩
   ·rcases h.bwd i z ((bY hp (g j) _ i z hij).1 hi)with⟨k,y,hk,e⟩|k
    ·refine .inl ⟨k,y,(bY hpc j x k y fun e'=>hij ?_).2 hk,e⟩;rw[← e,e']
    ·exact .inr k
  ·by_cases ZS:k=j
   ·subst ZS;rw[dw]at hk;simp at hk;subst hk;have:=hn e;simp only[List.all_cons,Bool.and_eq_true]at this;exact this.1
   ·exact h.nr e k y ((bY hpc j x k y ZS).1 hk)
structure an where
 tys:List (Option Ty)
 run:List LV→Hp→Out
def aaJ(P:Program)(f:FuncId)(args:List LV)(hp:Hp)(R:LV→Hp→Prop):Prop:=
 ∀ (β:Env) (w:World) (vals:List Value),bd w hp β β hp w→bF (LV.den β (kd hp)) args vals→
  VJ P f vals.toArray w fun e w'=>∃val β' r dP,e= .returned val∧R r dP∧r.den β' (kd dP) val∧bd w hp β β' dP w'
theorem g8.done{P:Program}{f:FuncId}(he:u7 P f){args:List LV}{hp:Hp}{R:LV→Hp→Prop}(h:g8 P f args hp R):aaJ P f args hp R:=
 fun β w vals hh ha=>.inr ⟨he,h β w vals hh ha⟩
structure an.Ok (P:Program) (f:FuncId) (e:an):Prop where
 calls:∀args hp Q,(e.run args hp).holds Q→aaJ P f args hp fun v dP=>∃d,Q v d∧dP=aI d hp
def Out.back(g vb:Nat→Nat)(lent:Bool):Out→Out
 | .leaf q v d=>if lent=true∧(v.nr&&d.all fun p=>p.2.nr)=false then .fail else .leaf q (v.bN (.bwd g vb)) (Ei g vb d)
 | .ite b x y=>.ite b (x.back g vb lent) (y.back g vb lent)
 | .fail=>.fail
theorem rl{g vb:Nat→Nat}{lent:Bool}{id:Nat}{hp:Hp}{Q:LV→List (Nat×Item)→Prop}:∀ {o:Out},(o.back g vb lent).fresh id hp→(o.back g vb lent).holds Q→
  o.holds fun v d=>(lent=true→v.nr=true∧(d.all fun p=>p.2.nr)=true)∧Sx id hp (Ei g vb d)∧Q (v.bN (.bwd g vb)) (Ei g vb d)
 | .leaf q v d,hf,h=>by
  simp only[Out.back]at hf h
  split at h
  ·exact h.elim
  ·rename_i hc;rw[if_neg hc]at hf;refine⟨h.1,fun e=>?_,hf,h.2⟩
   have:(v.nr&&d.all fun p=>p.2.nr)=true:=by
    cases hx:(v.nr&&d.all fun p=>p.2.nr)with
    |true=>rfl
    |false=>exact absurd ⟨e,hx⟩ hc
   simpa using this
 | .ite b x y,hf,h=>⟨fun e=>rl hf.1 (h.1 e),fun e=>rl hf.2 (h.2 e)⟩
 | .fail,_,h=>h
def wQ(ids:List Nat)(id:Nat)(j:Nat):Nat:=match ids[j]? with
 |some i=>i
 |none=>id+(j-ids.length)
def SE(e:an)(id:Nat)(args:List LV):Ask Out:=
 (fv e.tys args).bind fun x=>match x with
 |none=>.ret .fail
 |some (IJ,lids)=>(rk 1000 (IJ.flatMap LV.refs) [] []).bind fun y=>match y with
  |none=>.ret .fail
  |some (ids,xs)=>
   if lids.any (fun i=>decide (i∈ids))=true∨(e.tys.any (·.isSome)=true∧xs.all Item.nr=false)then .ret .fail
   else if xs.all (Item.cur (nP ids xs))=false then .ret .fail
   else .ret ((e.run (IJ.map (LV.bN (wP ids xs))) (g9 ids xs)).back (wQ ids id) (nP ids xs) (e.tys.any (·.isSome)))
noncomputable section
variable {α:Type}
def rm(hp:Hp)(ids:List Nat)(id:Nat)(F F0:Nat→α)(i:Nat):α:=match iP ids i with
 |some j=>F j
 |none=>if kd hp i=none∧id≤i then F (ids.length+(i-id))else F0 i
end
theorem aaK{P:Program}{f:FuncId}{e:an}(he:e.Ok P f){id:Nat}{args:List LV}{hp:Hp}(hf:((SE e id args).val hp).fresh id hp){Q:LV→List (Nat×Item)→Prop}(h:((SE e id args).val hp).holds Q)
  {β:Env} {w:World} {vals:List Value} (hh:bd w hp β β hp w) (eE:bF (LV.den β (kd hp)) args vals):
  VJ P f vals.toArray w fun e w'=>∃v d val β',Q v d∧e= .returned val∧v.den β' (kd (aI d hp)) val∧bd w hp β β' (aI d hp) w':=by
 unfold SE at h hf;rw[Ask.dZ]at h hf
 split at h
 ·exact h.elim
 rename_i IJ lids hl;rw[hl]at hf;simp only at hf;rw[Ask.dZ]at h hf
 split at h
 ·exact h.elim
 rename_i ids xs aaL;rw[aaL]at hf;simp only at hf
 split at h
 ·exact h.elim
 rename_i qK;rw[if_neg qK]at hf
 split at h
 ·exact h.elim
 rename_i hcu;rw[if_neg hcu]at hf;have aBg:xs.all (Item.cur (nP ids xs))=true:=by simpa using hcu
 simp only[Ask.val]at h hf;have Nb:∀i∈lids,i∉ids:=fun i hi hm=>qK (.inl (by rw[List.any_eq_true];exact⟨i,hi,by simpa using hm⟩))
 have aBh:e.tys.any (·.isSome)=true→xs.all Item.nr=true:=fun e1=>by
  cases hx:xs.all Item.nr with
  |true=>rfl
  |false=>exact absurd (.inr ⟨e1,hx⟩) qK
 have avV:∀t,some t∈e.tys→e.tys.any (·.isSome)=true:=fun t ht=>by rw[List.any_eq_true];exact⟨_,ht,rfl⟩
 generalize e.tys.any (·.isSome)=lent at*;have hR:Reached hp (IJ.flatMap LV.refs) ids xs []:=yR 1000 _ [] [] ⟨List.nodup_nil,rfl,fun _ _ _ h=>by simp at h,fun _ h=>by simp at h,fun r h=>.inr h⟩ aaL;generalize Ej:β.can (mm hp β ids) w lent ids=βc;have aBi:bd w (g9 ids xs) βc βc (g9 ids xs) w:=Ej▸aj0 hh hR;have wR:u9 (wP ids xs) β βc (kd hp) (kd (g9 ids xs)) false:=Ej▸IH hR;have hcb:∀ {j i},ids[j]? =some i→βc.b j=β.b i:=fun hj=>by subst Ej;show β.b _=_;rw[gl hj]
 have hch:∀ {j i},ids[j]? =some i→βc.h j=β.h i:=fun hj=>by subst Ej;show β.h _=_;rw[gl hj]
 have aqV:bF (LV.den βc (kd (g9 ids xs))) (IJ.map (LV.bN (wP ids xs))) vals:=by
  refine jn hh wR (own:=mm hp β ids) hl eE (fun t ht v l dQ=>?_) fun b ⟨i,x,h1,h2,h3⟩=>⟨i,x,h1,h2,fun hm=>Nb i hm h3⟩;subst Ej;exact .inr ⟨avV t ht,dQ⟩
 refine(he.calls _ _ _ (rl hf h) βc w vals aBi aqV).mono ?_
 rintro en w' ⟨val,βr,r,dP,rfl,⟨d,⟨hnr,aqW,hq⟩,rfl⟩,M7,h'⟩
 have xc:∀ {j i},ids[j]? =some i→wQ ids id j=i:=fun hj=>by simp only[wQ,hj]
 have IK:∀ {j:Nat},ids.length≤j→wQ ids id j=id+(j-ids.length):=by
  intro j hj;have:ids[j]? =none:=List.getElem?_eq_none hj;simp only[wQ,this]
 have hlen:(g9 ids xs).length=ids.length:=by simp[g9,hR.len]
 have kg:∀ {j x},(j,x)∈d→ids.length≤j→kd hp (wQ ids id j)=none:=fun hm hj=>aqW _ _ (II.2 ⟨_,_,hm,rfl,rfl⟩) (by rw[IK hj];omega)
 let J:Nat→Prop:=fun j=>j<ids.length∨∃x,(j,x)∈d
 let U:Nat→Prop:=fun i=>iP ids i=none
 have aaM:∀ {j i},ids[j]? =some i→kd hp i≠none:=fun hj e=>by
  obtain⟨x,h1,_⟩:=vf hR hj;rw[dk h1]at e;cases e
 have VR:∀j k,J j→J k→wQ ids id j=wQ ids id k→j=k:=by
  intro j k hj hk e
  by_cases h1:j<ids.length<;>by_cases h2:k<ids.length
  ·have e1:=List.getElem?_eq_getElem h1;have e2:=List.getElem?_eq_getElem h2;rw[xc e1,xc e2]at e;have k1:=jX hR.nodup e1;have k2:=jX hR.nodup e2;rw[e,k2]at k1;exact(Option.some.inj k1).symm
  ·have e1:=List.getElem?_eq_getElem h1;obtain⟨x,hx⟩:=hk.resolve_left h2;exact absurd (by rw[← xc e1,e];exact kg hx (by omega)) (aaM e1)
  ·have e2:=List.getElem?_eq_getElem h2;obtain⟨x,hx⟩:=hj.resolve_left h1;exact absurd (by rw[← xc e2,← e];exact kg hx (by omega)) (aaM e2)
  ·rw[IK (by omega),IK (by omega)]at e;omega
 have avW:Mir (wQ ids id) (nP ids xs) J U lent hp (g9 ids xs) hp:=by
  refine⟨fun j y hj=>.inl ?_,fun j y hj=>?_,fun i x hi=>?_,fun e1 j y hj=>?_⟩
  ·rw[← hlen];exact(List.getElem?_eq_some_iff.1 hj).1
  ·obtain⟨i,x,h1,h2,h3,rfl⟩:=mR hR hj;have hvb:=Eh hR h1 h2;show hp[wQ ids id j]? =some (some ((x.bN (wP ids xs) fun _=>0).bN (.bwd (wQ ids id) (nP ids xs)) (· +nP ids xs (wQ ids id j))));rw[xc h1,VQ (List.all_eq_true.1 aBg x (List.mem_of_getElem? h3)) hvb fun r hr=>?_]
   ·exact h2
   ·have hm:=(hR.refs x (List.mem_of_getElem? h3) r hr).resolve_right (by simp);obtain⟨k,hk⟩:=yQ hm;exact⟨k,hk,xc (gC hk)⟩
  ·cases jf:iP ids i with
   |none=>exact .inr ⟨hi,jf⟩
   |some j=>
    obtain⟨x',h1,h2,h3⟩:=vf hR (gC jf);exact .inl ⟨j,_,h3,xc (gC jf)⟩
  ·obtain⟨i,x,h1,h2,h3,rfl⟩:=mR hR hj;have hx:=aBh e1;rw[List.all_eq_true]at hx;have hx':=hx x (List.mem_of_getElem? h3)
   cases x with
   |ba cells el=>
    simp only[Item.bN,Item.nr,List.all_map]at hx' ⊢;rw[List.all_eq_true]at hx' ⊢;exact fun s hs=>SV.SC (hx' s hs)
   |_=>rfl
 have vg:=Cs VR d (fun j x hm=>.inr ⟨x,hm⟩) (fun e1=>(hnr e1).2) avW;generalize aqX:aI (Ei (wQ ids id) (nP ids xs) d) hp=hp2 at*;generalize aI d (g9 ids xs)=ZO at*
 let β2:Env:=⟨rm hp ids id βr.b β.b,rm hp ids id βr.h β.h,fun pm v t l=>match pm with
  |true=>βr.rd true v t l
  |false=>if lent=true then β.rd false v t l else βr.rd false v t l⟩
 have rn:∀ {α:Type} (F F0:Nat→α) {j:Nat},J j→rm hp ids id F F0 (wQ ids id j)=F j:=by
  intro α F F0 j hj
  by_cases h1:j<ids.length
  ·have e1:=List.getElem?_eq_getElem h1;simp only[rm,xc e1,jX hR.nodup e1]
  ·obtain⟨x,hx⟩:=hj.resolve_left h1;have hn:=kg hx (by omega)
   have Cm:iP ids (wQ ids id j)=none:=by
    cases hq:iP ids (wQ ids id j)with
    |none=>rfl
    |some k=>exact absurd hn (aaM (gC hq))
   simp only[rm,Cm];rw[if_pos ⟨hn,by rw[IK (by omega)];omega⟩,IK (by omega)]
   congr 1;omega
 have vh:∀ {α:Type} (F F0:Nat→α) {i:Nat} {k:Kd},kd hp i=some k→iP ids i=none→rm hp ids id F F0 i=F0 i:=by
  intro α F F0 i k hi Cm;simp only[rm,Cm];rw[if_neg (by rw[hi];simp)]
 have Ek:u9 (.bwd (wQ ids id) (nP ids xs)) βr β2 (kd ZO) (kd hp2) lent:=by
  refine⟨fun b j hj hb=>?_,fun i j c hj hi=>?_,fun v t l h=>h,fun e1 v t l h=>by show(if lent=true then _ else _:Prop);rw[if_neg (by simp[e1])];exact h⟩
  ·cases hj
   obtain⟨y,h1,h2⟩:=kT hb;exact⟨by rw[dk (vg.fwd _ _ h1),Item.jY,h2];rfl,rn _ _ (vg.live _ _ h1)⟩
  ·cases hj
   obtain⟨y,h1,h2⟩:=kT hi;refine⟨c+nP ids xs (wQ ids id i),by rw[dk (vg.fwd _ _ h1),Item.jY,h2];rfl,rn _ _ (vg.live _ _ h1),fun v v' hv he=>?_⟩
   cases he
   exact⟨Nat.add_le_add_right hv _,fun e=>Nat.add_right_cancel e⟩
 have avX:∀pm v t l,β.rd pm v t l→β2.rd pm v t l:=by
  intro pm v t l hr
  cases pm with
  |true=>exact h'.first.rd true v t l (wR.rdt _ _ _ hr)
  |false=>
   show(if lent=true then _ else _:Prop)
   split
   ·exact hr
   ·exact h'.first.rd false v t l (wR.rdf rfl _ _ _ hr)
 have El:∀ {i x b},hp[i]? =some (some x)→iP ids i=none→bT β x i b→b<w.heap.size∧¬mm hp β ids b:=by
  intro i x b hi Cm ho;refine⟨(hh.items i x hi).lt ho,fun⟨k,y,h1,h2,h3⟩=>?_⟩;have:=hh.inj i k x y b hi h1 ho h2;subst this;exact Cq Cm h3
 have aaN:∀ {b},b<w.heap.size→¬mm hp β ids b→w'.heap[b]? =w.heap[b]? :=fun hb hn=>h'.ak _ hb fun k=>hn (pM hR (Ej▸k))
 have aox:∀ {i x},hp[i]? =some (some x)→iP ids i=none→hp2[i]? =some (some x):=by
  intro i x hi Cm
  have:i∉(Ei (wQ ids id) (nP ids xs) d).map (·.1):=by
   intro hm;obtain⟨⟨i',z⟩,h1,h2⟩:=List.mem_map.1 hm;simp at h2;subst h2;obtain⟨j,y,h3,e1,e2⟩:=II.1 h1
   by_cases hj:j<ids.length
   ·have k1:=List.getElem?_eq_getElem hj;have:=Cq Cm;exact this (by rw[e1,xc k1];exact List.getElem_mem hj)
   ·have:=kg h3 (by omega);rw[← e1,dk hi]at this;cases this
  rw[← aqX];exact aB (by rw[eC this];exact pB hi)
 have qA:bH β β2 (kd hp) (kd hp2):=by
  refine⟨fun i hi=>?_,fun i c hi=>?_,avX⟩
  ·obtain⟨x,hx,hk⟩:=kT hi
   cases jf:iP ids i with
   |none=>exact⟨by rw[dk (aox hx jf),hk],vh _ _ hi jf⟩
   |some j=>
    have h1:=gC jf;obtain⟨k1,k2⟩:=wR.ba _ _ jf hi;obtain⟨k3,k4⟩:=h'.first.ba _ k1;obtain⟨k5,k6⟩:=Ek.ba _ _ rfl k3;rw[xc h1]at k5 k6;exact⟨k5,by rw[k6,k4,k2]⟩
  ·obtain⟨x,hx,hk⟩:=kT hi
   cases jf:iP ids i with
   |none=>exact⟨c,by rw[dk (aox hx jf),hk],Nat.le_refl _,fun _=>vh _ _ hi jf⟩
   |some j=>
    have h1:=gC jf;have hvb:=Eh hR h1 hx
    have hck:x.ver=c:=by
     cases x with
     |ba _ _=>cases hk
     |own _ _ _=>cases hk;rfl
     |gone _=>cases hk;rfl
    obtain⟨y,y1,_,y3⟩:=vf hR h1;rw[hx]at y1;cases y1;have k1:kd (g9 ids xs) j=some (.own 0):=(by rw[dk y3,Item.jY,hk];rfl);have k2:βc.h j=β.h i:=hch h1;obtain⟨c',k3,k4,k4'⟩:=h'.first.own _ _ k1;have hg:wQ ids id j=i:=xc h1;obtain⟨z,z1,z2⟩:=kT k3
    have k5:kd hp2 i=some (.own (c'+c)):=by
     have:=vg.fwd _ _ z1;rw[hg]at this;rw[dk this,Item.jY,z2,hg,hvb,hck];rfl
    have k6:β2.h i=βr.h j:=(by rw[← hg];exact rn _ _ (vg.live _ _ z1));exact⟨c'+c,k5,by omega,fun e1=>by rw[k6,k4' (by omega),k2]⟩
 have hgo:∀ {j y b},ZO[j]? =some (some y)→(bT β2 (y.bk (wQ ids id) (nP ids xs) j) (wQ ids id j) b↔bT βr y j b):=fun hj=>bT.bN (rn _ _ (vg.live _ _ hj)) (rn _ _ (vg.live _ _ hj));have huo:∀ {i x b},hp[i]? =some (some x)→iP ids i=none→(bT β2 x i b↔bT β x i b):=fun hi Cm=>bT.congr (vh _ _ (dk hi) Cm) (vh _ _ (dk hi) Cm);have aaO:∀ {j y b},ZO[j]? =some (some y)→bT βr y j b→w.heap.size≤b∨mm hp β ids b:=fun hj ho=>(h'.own _ _ _ hj ho).imp (fun h=>h) fun⟨y,k⟩=>pM (own:=mm hp β ids) (w:=w) (lent:=lent) hR (Ej.symm▸⟨_,y,k⟩)
 have yT:∀ {i z},hp2[i]? =some (some z)→(∃j y,ZO[j]? =some (some y)∧i=wQ ids id j∧z=y.bk (wQ ids id) (nP ids xs) j)∨(hp[i]? =some (some z)∧iP ids i=none):=by
  intro i z hi;rcases vg.bwd i z hi with⟨j,y,h1,h2⟩|h1
  ·have:=vg.fwd j y h1;rw[h2,hi]at this;exact .inl ⟨j,y,h1,h2.symm,by simpa using this⟩
  ·exact .inr h1
 have SF:∀ {b},fK hp2 β2 b→fK ZO βr b∨∃i x,hp[i]? =some (some x)∧iP ids i=none∧bT β x i b:=by
  rintro b ⟨i,z,hi,ho⟩
  rcases yT hi with⟨j,y,h1,rfl,rfl⟩|⟨h1,h2⟩
  ·exact .inl ⟨j,y,h1,(hgo h1).1 ho⟩
  ·exact .inr ⟨i,z,h1,h2,(huo h1 h2).1 ho⟩
 refine⟨r.bN (.bwd (wQ ids id) (nP ids xs)),Ei (wQ ids id) (nP ids xs) d,val,β2,hq,rfl,?_,?_⟩
 ·rw[aqX];exact LV.fT Ek (fun e1=>(hnr e1).1) M7
 rw[aqX];refine⟨fun i z hi=>?_,fun i k x y b hi hk h1 h2=>?_,qA,fun i z b hi ho=>?_,h'.os,h'.output,h'.size,fun b hb aBk=>?_,fun pm v t l hr=>?_,fun pm v t l b hr hb=>?_⟩
 ·rcases yT hi with⟨j,y,h1,rfl,rfl⟩|⟨h1,h2⟩
  ·exact eV.Ef Ek (fun e1=>vg.nr e1 _ _ h1) (fun _=>rn _ _ (vg.live _ _ h1)) (fun _ _=>rn _ _ (vg.live _ _ h1)) (h'.items j y h1)
  ·exact(hh.items i z h1).of qA (vh _ _ (dk h1) h2) (vh _ _ (dk h1) h2) fun b ho=>aaN (El h1 h2 ho).1 (El h1 h2 ho).2
 ·rcases yT hi with⟨j,y',a1,rfl,rfl⟩|⟨a1,a2⟩<;>rcases yT hk with⟨j2,y2,b1,rfl,rfl⟩|⟨b1,b2⟩
  ·rw[h'.inj j j2 y' y2 b a1 b1 ((hgo a1).1 h1) ((hgo b1).1 h2)]
  ·have k1:=El b1 b2 ((huo b1 b2).1 h2);rcases aaO a1 ((hgo a1).1 h1)with k2|k2
   ·omega
   ·exact absurd k2 k1.2
  ·have k1:=El a1 a2 ((huo a1 a2).1 h1);rcases aaO b1 ((hgo b1).1 h2)with k2|k2
   ·omega
   ·exact absurd k2 k1.2
  ·exact hh.inj i k x y b a1 b1 ((huo a1 a2).1 h1) ((huo b1 b2).1 h2)
 ·rcases yT hi with⟨j,y,a1,rfl,rfl⟩|⟨a1,a2⟩
  ·refine(h'.own _ _ _ a1 ((hgo a1).1 ho)).imp (fun h=>h) fun⟨y2,k1,k2⟩=>?_;obtain⟨i',x',e1,e2,_,rfl⟩:=mR hR k1;rw[xc e1];exact⟨x',e2,(bT.bN (hcb e1) (hch e1)).1 k2⟩
  ·exact .inr ⟨z,a1,(huo a1 a2).1 ho⟩
 ·exact aaN hb fun⟨k,x,k1,k2,_⟩=>aBk ⟨k,x,k1,k2⟩
 ·have aoy:∀ {b},(b<w'.heap.size∧¬fK ZO βr b)→(∀i x,hp[i]? =some (some x)→iP ids i=none→¬bT β x i b)→b<w'.heap.size∧¬fK hp2 β2 b:=by
   rintro b ⟨h1,h2⟩ h3
   refine⟨h1,fun k=>?_⟩;rcases SF k with k|⟨i,x,k1,k2,k3⟩
   ·exact h2 k
   ·exact h3 i x k1 k2 k3
  have avY:∀ {pm v t l b},(pm=true∨lent=false)→βr.rd pm v t l→inBlock v b→∀i x,hp[i]? =some (some x)→iP ids i=none→¬bT β x i b:=by
   intro pm v t l b M1 hr hb i x hi Cm ho;have dQ:=(hh.items i x hi).lt ho;rcases h'.from_ pm v t l b hr hb with k|⟨kN,v',t',l',k0,k1,k2⟩
   ·omega
   ·have k1':β.rd kN v' t' l':=by
     subst Ej
     cases kN with
     |true=>exact k1
     |false=>
      rcases M1 with M1|M1
      ·cases k0 M1
      ·rcases k1 with k1|⟨k1,_⟩
       ·exact k1
       ·rw[M1]at k1;cases k1
    exact(hh.reads _ _ _ _ k1').2 b k2 |>.2 ⟨i,x,hi,ho⟩
  have aqY:∀ {pm v t l},β.rd pm v t l→bG β2 pm w' v t l∧∀b,inBlock v b→b<w'.heap.size∧¬fK hp2 β2 b:=by
   intro pm v t l hr;obtain⟨h1,h2⟩:=hh.reads _ _ _ _ hr;refine⟨(h1.of fun b hb dQ=>aaN dQ fun⟨k,x,k1,k2,_⟩=>(h2 b hb).2 ⟨k,x,k1,k2⟩).mono avX,fun b hb=>?_⟩;refine⟨Nat.lt_of_lt_of_le (h2 b hb).1 h'.size,fun k=>?_⟩;rcases SF k with⟨j,y,k1,k2⟩|⟨i,x,k1,k2,k3⟩
   ·rcases aaO k1 k2 with k3|⟨i,x,k3,k4,_⟩
    ·have:=(h2 b hb).1;omega
    ·exact(h2 b hb).2 ⟨i,x,k3,k4⟩
   ·exact(h2 b hb).2 ⟨i,x,k1,k3⟩
  cases pm with
  |true=>
   obtain⟨h1,h2⟩:=h'.reads true v t l hr;refine⟨?_,fun b hb=>aoy (h2 b hb) (avY (.inl rfl) hr hb)⟩;obtain⟨a,n,c,rfl,hn,hc,hz,hrr⟩:=h1;refine⟨a,n,c,rfl,hn,hc,hz,fun h0=>?_⟩;obtain⟨a0,ft,rfl,k1,k2,k3⟩:=hrr h0;exact⟨a0,ft,rfl,k1,k2.imp fun _ _=>t.jl Ek.rdt,k3⟩
  |false=>
   have pI:(if lent=true then β.rd false v t l else βr.rd false v t l):=hr
   split at pI
   ·exact aqY pI
   ·rename_i Su;have aqZ:lent=false:=(by simpa using Su);obtain⟨h1,h2⟩:=h'.reads false v t l pI;refine⟨h1.mono fun pm v t l hr=>?_,fun b hb=>aoy (h2 b hb) (avY (.inr aqZ) pI hb)⟩
    cases pm with
    |true=>exact hr
    |false=>show(if lent=true then _ else _:Prop);rw[if_neg Su];exact hr
 ·have aoz:∀ {kN v' t' l'},βc.rd kN v' t' l'→(kN=true∨lent=false)→β.rd kN v' t' l':=by
   intro kN v' t' l' k1 M1;subst Ej
   cases kN with
   |true=>exact k1
   |false=>
    rcases k1 with k1|⟨k1,_⟩
    ·exact k1
    ·rcases M1 with M1|M1
     ·cases M1
     ·rw[M1]at k1;cases k1
  cases pm with
  |true=>
   rcases h'.from_ true v t l b hr hb with k|⟨kN,v',t',l',k0,k1,k2⟩
   ·exact .inl k
   ·exact .inr ⟨kN,v',t',l',k0,aoz k1 (.inl (k0 rfl)),k2⟩
  |false=>
   have pI:(if lent=true then β.rd false v t l else βr.rd false v t l):=hr
   split at pI
   ·exact .inr ⟨false,v,t,l,(fun h=>h),pI,hb⟩
   ·rename_i Su;have aqZ:lent=false:=(by simpa using Su);rcases h'.from_ false v t l b pI hb with k|⟨kN,v',t',l',k0,k1,k2⟩
    ·exact .inl k
    ·exact .inr ⟨kN,v',t',l',k0,aoz k1 (.inr aqZ),k2⟩
def look(f:FuncId):List (FuncId×an)→Option an
 | []=>none
 |(g,e)::l=>if g=f then some e else look f l
def SG(tab:List (FuncId×an)):yH:=⟨fun f id args=>match look f tab with
 |some e=>SE e id args
 |none=>.ret .fail⟩
theorem SH{P:Program}:∀ {tab:List (FuncId×an)} {f:FuncId} {e:an},(∀p∈tab,p.2.Ok P p.1)→look f tab=some e→e.Ok P f
 | [],_,_,_,h=>by cases h
 |(g,e')::l,f,e,hp,h=>by
  simp only[look]at h
  split at h
  ·rename_i hg;subst hg;obtain rfl:=Option.some.inj h;exact hp (g,e') (by simp)
  ·exact SH (fun p hm=>hp p (List.mem_cons_of_mem _ hm)) h
theorem aaP{P:Program}{tab:List (FuncId×an)}(h:∀p∈tab,p.2.Ok P p.1):GOk P (SG tab):=by
 refine⟨fun f id args hp hf Q hq W aj β₀ β w vals hh eE=>?_⟩;simp only[SG]at hf hq
 split at hq
 ·rename_i e he;rw[he]at hf;have nW:=SH h he;refine(aaK nW hf hq hh.self eE).mono ?_
  rintro en w' ⟨v,d,val,β',h1,h2,h3,h4⟩
  exact⟨v,d,val,β',h1,h2,h3,hh.trans h4,h4.first⟩
 ·exact hq.elim
end Go.Ev
end
