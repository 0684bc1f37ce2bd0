/- What the laws lean on, part 5: a reader of code, plain facts, and what each function gives; no conditions. -/
import Derived.Test.YtjalaohajcpllaaGreatA4
section
set_option linter.unusedVariables false
set_option linter.unusedSimpArgs false
namespace Go.Ev
open Go
def iU:List Nat→Nat→Option Nat
 | [],_=>none
 |x::l,i=>if x=i then some 0 else (iU l i).map (· +1)
theorem gB: ∀ {l:List Nat} {i j:Nat},iU l i=some j→l[j]? =some i
 | [],_,_,h=>by cases h
 |x::l,i,j,h=>by
  simp only[iU] at h
  split at h
  ·rename_i e;subst e;simp at h;subst h;rfl
  ·obtain ⟨k,hk,rfl⟩:=map_some h
   simpa using gB hk
theorem A3: ∀ {l:List Nat} {i:Nat},i∈l→ ∃ j,iU l i=some j
 |x::l,i,h=>by
  simp only[iU]
  split
  ·exact ⟨0,rfl⟩
  ·rename_i gk
   obtain ⟨j,hj⟩:=A3 (l:=l) (i:=i) (by simpa [Ne.symm gk] using h)
   exact ⟨j+1,by rw[hj];rfl⟩
theorem jV: ∀ {l:List Nat} {j i:Nat},l.Nodup→l[j]? =some i→iU l i=some j
 | [],_,_,_,h=>by simp at h
 |x::l,0,i,_,h=>by simp at h;subst h;simp[iU]
 |x::l,j+1,i,hn,h=>by
  simp at h
  have hi:i∈l:=List.mem_of_getElem? h
  have gk:x≠i:=fun e=>by subst e;exact (List.nodup_cons.1 hn).1 hi
  simp only[iU,if_neg gk,jV (List.nodup_cons.1 hn).2 h];rfl
theorem D9 {l:List Nat} {i:Nat} (h:iU l i=none):i∉l:=fun hm=>by
 obtain ⟨j,hj⟩:=A3 hm;rw[hj] at h;cases h
structure tJ where
 f:Nat→Option Nat
 o:Nat→Nat→Option Nat
def SV.cf (f:tJ):SV→SV
 | .ptr b o=>match f.f b with|some j=> .ptr j o|none=> .bl
 | .xh b base st n z=>match f.f b with|some j=> .xh j base st n z|none=> .bl
 | .slice b o l c=>match f.f b with|some j=> .slice j o l c|none=> .bl
 | .sl i v=>match f.f i with|some j=>(match f.o i v with|some u=> .sl j u|none=> .bl)|none=> .bl
 | .vw i v w z n=>match f.f i with|some j=>(match f.o i v with|some u=> .vw j u w z n|none=> .bl)|none=> .bl
 | .vb b o t m z n=>match f.f b with|some j=> .vb j o t m z n|none=> .bl
 | .ep s w z g=> .ep (s.cf f) w z g
 |s=>s
def VV.cf (f:tJ):VV→VV
 | .sc s=> .sc (s.cf f)
 | .agg l=> .agg (l.map (SV.cf f))
def LV.cf (f:tJ):LV→LV
 | .one x=> .one (x.cf f)
 | .cV l=> .cV (l.map (VV.cf f))
 | .bl=> .bl
def Item.cf (f:tJ) (u:Nat→Nat):Item→Item
 | .a8 cells e=> .a8 (cells.map (SV.cf f)) e
 | .own v t l=> .own (u v) t l
 | .gone v=> .gone (u v)
def SV.refs:SV→List Nat
 | .ptr b _| .xh b _ _ _ _| .slice b _ _ _| .sl b _| .vw b _ _ _ _| .vb b _ _ _ _ _=> [b]
 | .ep s _ _ _=>s.refs
 |_=> []
def VV.refs:VV→List Nat
 | .sc s=>s.refs
 | .agg l=>l.flatMap SV.refs
def LV.refs:LV→List Nat
 | .one x=>x.refs
 | .cV l=>l.flatMap VV.refs
 | .bl=> []
def Item.refs:Item→List Nat
 | .a8 cells _=>cells.flatMap SV.refs
 |_=> []
def SV.nr:SV→Bool
 | .rd pm _ _ _=>pm
 | .ep s _ _ _=>s.nr
 |_=>true
def VV.nr:VV→Bool
 | .sc s=>s.nr
 | .agg l=>l.all SV.nr
def LV.nr:LV→Bool
 | .one x=>x.nr
 | .cV l=>l.all VV.nr
 | .bl=>true
def Item.nr:Item→Bool
 | .a8 cells _=>cells.all SV.nr
 |_=>true
def Kd.up (u:Nat→Nat):Kd→Kd
 | .a8=> .a8
 | .own c=> .own (u c)
theorem Item.jW (f:tJ) (u:Nat→Nat) (x:Item):(x.cf f u).kd=x.kd.up u:=by cases x<;>rfl
structure xt (f:tJ) (β β':Env) (L L':Nat→Option Kd) (nr:Bool):Prop where
 a8: ∀ b j,f.f b=some j→L b=some .a8→L' j=some .a8∧β'.b j=β.b b
 own: ∀ i j c,f.f i=some j→L i=some (.own c)→ ∃ c',L' j=some (.own c')∧β'.h j=β.h i∧ ∀ v v',v≤c→f.o i v=some v'→v'≤c'∧(v'=c'→v=c)
 rdt: ∀ v t l,β.rd true v t l→β'.rd true v t l
 rdf:nr=false→ ∀ v t l,β.rd false v t l→β'.rd false v t l
section
variable {f:tJ} {β β':Env} {L L':Nat→Option Kd} {nr:Bool}
theorem za.FL (h:xt f β β' L L' nr) {pm:Bool} {v:Value} {t:Ty} {l:List t.D} (hn:nr=true→pm=true) (hr:za β pm v t l):za β' pm v t l:=by
 rcases hr with hr|⟨rfl,hr⟩|hr
 ·exact .inl (h.rdt _ _ _ hr)
 ·cases nr with
  |true=>exact absurd (hn rfl) (by simp)
  |false=>exact .inr (.inl ⟨rfl,h.rdf rfl _ _ _ hr⟩)
 ·exact .inr (.inr hr)
theorem Ty.jn (h: ∀ v t l,β.rd true v t l→β'.rd true v t l): ∀ (t:Ty) {x:t.D} {vs:List Value},t.has β true x vs→t.has β' true x vs
 | .int _,_,_,h=>h
 | .bool,_,_,h=>h
 | .xg,_,_,h=>h
 | .str,_,_,h=>h
 | .sl _,_,_,⟨v,h1,h2,h3⟩=>⟨v,h1,h2,by
  rcases h3 with h3|⟨h3,_⟩|h3
  ·exact .inl (h _ _ _ h3)
  ·cases h3
  ·exact .inr (.inr h3)⟩
 | .pair a b,_,_,⟨u,w,h0,h1,h2⟩=>⟨u,w,h0,a.jn h h1,b.jn h h2⟩
 | .arr t _,_,_,⟨h1,h2⟩=>⟨h1,h2.imp fun _ _=>t.jn h⟩
theorem SV.fU (h:xt f β β' L L' nr): ∀ {s:SV} {v:Value},(nr=true→s.nr=true)→s.den β L v→(s.cf f).den β' L' v
 | .int _ _,_,_,hd=>hd
 | .bool _,_,_,hd=>hd
 | .xg _,_,_,hd=>hd
 | .str _,_,_,hd=>hd
 | .gz _,_,_,hd=>hd
 | .bl,_,_,hd=>hd
 | .arr _ _ _,_,_,hd=>hd.elim
 | .rd _ _ _ _,_,hn,⟨h1,h2,h3⟩=>⟨h1,h2,h3.FL h hn⟩
 | .ptr b o,v,_,hd=>by
  simp only[SV.cf]
  split
  ·rename_i j hj
   obtain ⟨k1,k2⟩:=h.a8 b j hj hd.1
   exact ⟨k1,by rw[k2];exact hd.2⟩
  ·exact SV.bC hd
 | .xh b base st n z,v,_,hd=>by
  simp only[SV.cf]
  split
  ·rename_i j hj
   obtain ⟨k1,k2⟩:=h.a8 b j hj hd.1
   exact ⟨k1,hd.2.1,by rw[k2];exact hd.2.2⟩
  ·exact SV.bC hd
 | .slice b o l c,v,_,hd=>by
  simp only[SV.cf]
  split
  ·rename_i j hj
   obtain ⟨k1,k2⟩:=h.a8 b j hj hd.1
   exact ⟨k1,by rw[k2];exact hd.2⟩
  ·exact SV.bC hd
 | .sl i ver,v,_,hd=>by
  simp only[SV.cf]
  split
  ·rename_i j hj
   split
   ·rename_i u hu
    obtain ⟨h1,c,h2,h3,h4⟩:=hd
    obtain ⟨c',k1,k2,k3⟩:=h.own i j c hj h2
    obtain ⟨k4,k5⟩:=k3 ver u h3 hu
    exact ⟨h1,c',k1,k4,fun e=>by rw[k2];exact h4 (k5 e)⟩
   ·exact SV.bC hd
  ·exact SV.bC hd
 | .vw i ver w z n,v,_,hd=>by
  simp only[SV.cf]
  split
  ·rename_i j hj
   split
   ·rename_i u hu
    obtain ⟨h1,c,h2,h3,h4⟩:=hd
    obtain ⟨c',k1,k2,k3⟩:=h.own i j c hj h2
    obtain ⟨k4,k5⟩:=k3 ver u h3 hu
    exact ⟨h1,c',k1,k4,fun e=>by rw[k2];exact h4 (k5 e)⟩
   ·exact SV.bC hd
  ·exact SV.bC hd
 | .vb b o t m z n,v,_,hd=>by
  simp only[SV.cf]
  split
  ·rename_i j hj
   obtain ⟨h1,h2⟩:=hd
   obtain ⟨k1,k2⟩:=h.a8 b j hj h1
   exact ⟨k1,by rw[k2];exact h2⟩
  ·exact SV.bC hd
 | .ep s w z g,v,hn,⟨a,n,c,h1,h2⟩=>⟨a,n,c,SV.fU h hn h1,h2⟩
theorem bo.FL (h:xt f β β' L L' nr) {l:List SV} {vs:List Value} (hn:nr=true→l.all SV.nr=true) (hd:bo β L l vs):bo β' L' (l.map (SV.cf f)) vs:=by
 induction l generalizing vs with
 |nil=>cases hd;exact aZ.nil
 |cons s l ih=>
  have hn1:nr=true→s.nr=true:=fun e=>by have:=hn e;simp only[List.all_cons,Bool.and_eq_true] at this;exact this.1
  have hn2:nr=true→l.all SV.nr=true:=fun e=>by have:=hn e;simp only[List.all_cons,Bool.and_eq_true] at this;exact this.2
  cases hd with
  |cons h1 h2=>
   refine aZ.cons ?_ (ih hn2 h2)
   cases s with
   |arr t n x=>exact ⟨h1.1,h1.2.imp fun _ _=>t.jn h.rdt⟩
   |_=>
    obtain ⟨v,rfl,h3⟩:=h1
    exact SV.zj (SV.fU h hn1 h3)
theorem VV.fU (h:xt f β β' L L' nr) {s:VV} {v:Value} (hn:nr=true→s.nr=true) (hd:s.den β L v):(s.cf f).den β' L' v:=by
 cases s with
 |sc s=>exact SV.fU h hn hd
 |agg l=>obtain ⟨cs,rfl,hd⟩:=hd;exact ⟨cs,rfl,bo.FL h hn hd⟩
theorem LV.fU (h:xt f β β' L L' nr) {s:LV} {v:Value} (hn:nr=true→s.nr=true) (hd:s.den β L v):(s.cf f).den β' L' v:=by
 cases s with
 |one x=>exact VV.fU h hn hd
 |cV l=>
  obtain ⟨vs,rfl,hd⟩:=hd
  refine ⟨vs,rfl,?_⟩
  simp only[LV.nr] at hn
  induction hd with
  |nil=>exact .nil
  |cons h1 h2 ih=>
   exact .cons (VV.fU h (fun e=>by have:=hn e;simp only[List.all_cons,Bool.and_eq_true] at this;exact this.1) h1) (ih fun e=>by have:=hn e;simp only[List.all_cons,Bool.and_eq_true] at this;exact this.2)
 |bl=>trivial
theorem eQ.FL (h:xt f β β' L L' nr) {w:World} {i j:Nat} {x:Item} {u:Nat→Nat} (hn:nr=true→x.nr=true) (hb:x.kd= .a8→β'.b j=β.b i) (hh: ∀ c,x.kd= .own c→β'.h j=β.h i) (hd:eQ β L w i x):eQ β' L' w j (x.cf f u):=by
 cases x with
 |a8 cells e=>
  obtain ⟨c,fz,h1,h2,h3⟩:=hd
  exact ⟨c,fz,by rw[hb rfl];exact h1,h2,bo.FL h hn h3⟩
 |own ver t l=>
  show dt β' w (β'.h j) t l
  rw[hh ver rfl]
  obtain ⟨a,n,c,e,h1,h2,h3,h4⟩:=(hd:dt β w (β.h i) t l)
  refine ⟨a,n,c,e,h1,h2,h3,fun h0=>?_⟩
  obtain ⟨a0,pre,fo,rest,elem,fz,k0,k1,k2,k3,k4,k5⟩:=h4 h0
  exact ⟨a0,pre,fo,rest,elem,fz,k0,k1,k2,k3,k4.imp fun _ _=>t.jn h.rdt,k5⟩
 |gone v=>trivial
end
def SV.cur (vb:Nat→Nat):SV→Bool
 | .sl i v| .vw i v _ _ _=>v==vb i
 | .ep s _ _ _=>s.cur vb
 |_=>true
def Item.cur (vb:Nat→Nat):Item→Bool
 | .a8 cells _=>cells.all (SV.cur vb)
 |_=>true
def tJ.fwd (f:Nat→Option Nat) (vb:Nat→Nat):tJ:=⟨f,fun i v=>if v=vb i then some 0 else none⟩
def tJ.bwd (g:Nat→Nat) (vb:Nat→Nat):tJ:=⟨fun j=>some (g j),fun j v=>some (v+vb (g j))⟩
theorem Ea {f:Nat→Option Nat} {g vb:Nat→Nat}: ∀ {s:SV},s.cur vb=true→(∀ r∈s.refs,∃ j,f r=some j∧g j=r)→(s.cf (.fwd f vb)).cf (.bwd g vb)=s
 | .ptr b o,_,h=>by obtain ⟨j,h1,h2⟩:=h b (by simp[SV.refs]);simp only[SV.cf,tJ.fwd,tJ.bwd,h1,h2]
 | .xh b base st n z,_,h=>by obtain ⟨j,h1,h2⟩:=h b (by simp[SV.refs]);simp only[SV.cf,tJ.fwd,tJ.bwd,h1,h2]
 | .slice b o l c,_,h=>by obtain ⟨j,h1,h2⟩:=h b (by simp[SV.refs]);simp only[SV.cf,tJ.fwd,tJ.bwd,h1,h2]
 | .sl b v,hc,h=>by
  obtain ⟨j,h1,h2⟩:=h b (by simp[SV.refs])
  have e:v=vb b:=by simpa [SV.cur] using hc
  subst e
  simp[SV.cf,tJ.fwd,tJ.bwd,h1,h2]
 | .vw b v w z n,hc,h=>by
  obtain ⟨j,h1,h2⟩:=h b (by simp[SV.refs])
  have e:v=vb b:=by simpa [SV.cur] using hc
  subst e
  simp[SV.cf,tJ.fwd,tJ.bwd,h1,h2]
 | .vb b o t m z n,_,h=>by obtain ⟨j,h1,h2⟩:=h b (by simp[SV.refs]);simp only[SV.cf,tJ.fwd,tJ.bwd,h1,h2]
 | .ep s w z g',hc,h=>by simp only[SV.cf];rw[Ea (s:=s) hc h]
 | .int _ _,_,_| .bool _,_,_| .xg _,_,_| .str _,_,_| .gz _,_,_| .bl,_,_| .arr _ _ _,_,_| .rd _ _ _ _,_,_=>rfl
def Item.ver:Item→Nat
 | .a8 _ _=>0
 | .own v _ _| .gone v=>v
theorem VL {f:Nat→Option Nat} {g vb:Nat→Nat} {x:Item} {i:Nat} (hc:x.cur vb=true) (hv:vb i=x.ver) (h: ∀ r∈x.refs,∃ j,f r=some j∧g j=r):(x.cf (.fwd f vb) fun _=>0).cf (.bwd g vb) (· +vb i)=x:=by
 cases x with
 |a8 cells e=>
  have hm:(cells.map (SV.cf (.fwd f vb))).map (SV.cf (.bwd g vb))=cells:=by
   rw[List.map_map]
   simp only[Item.cur,List.all_eq_true] at hc
   have:=List.map_congr_left (l:=cells) (f:=SV.cf (.bwd g vb)∘SV.cf (.fwd f vb)) (g:=id) fun s hs=>Ea (hc s hs) fun r hr=>h r (by simp only[Item.refs,List.mem_flatMap];exact ⟨s,hs,hr⟩)
   rw[this,List.map_id]
  simp only[Item.cf,hm]
 |own v t l=>simp only[Item.cf,Nat.zero_add,hv,Item.ver]
 |gone v=>simp only[Item.cf,Nat.zero_add,hv,Item.ver]
theorem SV.S3 {f:tJ}: ∀ {s:SV},s.nr=true→(s.cf f).nr=true
 | .ptr b o,_=>by simp only[SV.cf];split<;>rfl
 | .xh ..,_=>by simp only[SV.cf];split<;>rfl
 | .slice ..,_=>by simp only[SV.cf];split<;>rfl
 | .sl ..,_=>by simp only[SV.cf];split<;>(try split)<;>rfl
 | .vw ..,_=>by simp only[SV.cf];split<;>(try split)<;>rfl
 | .vb ..,_=>by simp only[SV.cf];split<;>rfl
 | .ep s w z g,h=>SV.S3 (s:=s) h
 | .int _ _,h| .bool _,h| .xg _,h| .str _,h| .gz _,h| .bl,h| .arr _ _ _,h| .rd _ _ _ _,h=>h
def sn:Nat→List Nat→List Nat→List Item→Ask (Option (List Nat×List Item))
 |0,_,_,_=> .ret none
 |_+1,[],acc,Nw=> .ret (some (acc,Nw))
 |n+1,i::todo,acc,Nw=>if i∈acc then sn n todo acc Nw else
   .get i fun x=>match x with
    |some x=>sn n (x.refs++todo) (acc++ [i]) (Nw++ [x])
    |none=> .ret none
structure Reached (hp:Hp) (roots acc:List Nat) (Nw:List Item) (todo:List Nat):Prop where
 nodup:acc.Nodup
 len:acc.length=Nw.length
 at_: ∀ (j:Nat) (i:Nat) (x:Item),acc[j]? =some i→Nw[j]? =some x→br hp i=some x
 refs: ∀ x∈Nw,∀ r∈x.refs,r∈acc∨r∈todo
 root: ∀ r∈roots,r∈acc∨r∈todo
theorem A4 {hp:Hp} {roots:List Nat}: ∀ (n:Nat) (todo acc:List Nat) (Nw:List Item) {ids:List Nat} {xs:List Item},Reached hp roots acc Nw todo→(sn n todo acc Nw).val hp=some (ids,xs)→Reached hp roots ids xs []
 |0,_,_,_,_,_,_,h=>by cases h
 |n+1,[],acc,Nw,_,_,hr,h=>by
  simp only[sn,Ask.val] at h
  cases h
  exact hr
 |n+1,i::todo,acc,Nw,ids,xs,hr,h=>by
  simp only[sn] at h
  split at h
  ·rename_i hm
   have hm':i∈acc:=hm
   refine A4 n todo acc Nw ⟨hr.nodup,hr.len,hr.at_,fun x hx r qB=>?_,fun r qB=>?_⟩ h
   ·rcases hr.refs x hx r qB with h1|h1
    ·exact .inl h1
    ·rcases List.mem_cons.1 h1 with rfl|h1
     ·exact .inl hm'
     ·exact .inr h1
   ·rcases hr.root r qB with h1|h1
    ·exact .inl h1
    ·rcases List.mem_cons.1 h1 with rfl|h1
     ·exact .inl hm'
     ·exact .inr h1
  ·rename_i hm
   have hm':i∉acc:=hm
   simp only[Ask.val] at h
   split at h
   ·rename_i x hx
    refine A4 n (x.refs++todo) (acc++ [i]) (Nw++ [x]) ⟨?_,by simp[hr.len],?_,?_,?_⟩ h
    ·rw[List.nodup_append]
     refine ⟨hr.nodup,by simp,fun a ha b hb=>?_⟩
     simp at hb;subst hb
     exact fun e=>hm' (e▸ha)
    ·intro j i' x' h1 h2
     by_cases hj:j<acc.length
     ·rw[List.getElem?_append_left hj] at h1
      rw[List.getElem?_append_left (by rw[← hr.len];exact hj)] at h2
      exact hr.at_ j i' x' h1 h2
     ·rw[List.getElem?_append_right (by omega)] at h1
      rw[List.getElem?_append_right (by rw[← hr.len];omega),← hr.len] at h2
      have hj0:j-acc.length=0:=by
       have:=(List.getElem?_eq_some_iff.1 h1).1
       simpa using this
      rw[hj0] at h1 h2
      simp at h1 h2;subst h1 h2
      exact hx
    ·intro y hy r qB
     rcases List.mem_append.1 hy with hy|hy
     ·rcases hr.refs y hy r qB with h1|h1
      ·exact .inl (by simp[h1])
      ·rcases List.mem_cons.1 h1 with rfl|h1
       ·exact .inl (by simp)
       ·exact .inr (by simp[h1])
     ·simp at hy;subst hy
      exact .inr (by simp[qB])
    ·intro r qB
     rcases hr.root r qB with h1|h1
     ·exact .inl (by simp[h1])
     ·rcases List.mem_cons.1 h1 with rfl|h1
      ·exact .inl (by simp)
      ·exact .inr (by simp[h1])
   ·simp[Ask.val] at h
end Go.Ev
end
section
set_option linter.unusedVariables false
set_option linter.unusedSimpArgs false
namespace Go.Ev
open Go
section
variable {W:World} {al:Hp} {β₀ β:Env} {hp:Hp} {w:World}
theorem FN {h:Value} {t:Ty} {l:List t.D} (hk:dt β w h t l) {b:Nat} (hb:inBlock h b): ∃ a n c,h= .slice (some a) n c∧0<c∧a.block=b:=by
 obtain ⟨a,n,c,rfl,h1,h2,h3,_⟩:=hk
 cases a with
 |none=>exact hb.elim
 |some a=>exact ⟨a,n,c,rfl,by have:=hb.1;omega,hb.2⟩
theorem ah3 {h v:Value} {k:Nat} {z n:Int} (hs:yD h k z n v) {b:Nat} (hb:inBlock v b):inBlock h b:=by
 obtain ⟨a,m,c,a',c',rfl,z0,n0,hle,rfl,se,_,ha⟩:=hs
 cases a' with
 |none=>exact hb.elim
 |some a2=>
  have h0:=hb.1
  obtain ⟨a0,rfl,e⟩:=ha (by omega)
  simp at e;subst e
  exact ⟨by omega,by have:=hb.2;rwa [dC] at this⟩
theorem Nx (h:bd W al β₀ β hp w) {t:Ty} {s:SV} {pm:Bool} {l:List t.D} {v:Value} (hc:(iS t s).val hp=some (pm,l)) (hd:s.den β (kd hp) v) {b:Nat} (hb:inBlock v b):
  (b<w.heap.size∧ ¬ fk hp β b)∨ ∃ i x,hp[i]? =some (some x)∧cx β x i b∧i∈s.refs:=by
 unfold iS at hc
 split at hc
 ·exact .inl ((h.am6 hd.2.2).2 b hb)
 ·obtain ⟨_,rfl⟩:=hd
  exact hb.elim
 ·rename_i i ver
  simp only[Ask.val] at hc
  split at hc
  ·rename_i ver' t' l' hi
   split at hc
   ·split at hc
    ·rename_i e;subst e
     obtain ⟨_,hd⟩:=hd
     obtain ⟨h1,rfl⟩:=h.oW (p:=fun x=>v=x) (aB hi) hd
     exact .inr ⟨i,_,aB hi,FN h1 hb,by simp[SV.refs]⟩
    ·cases hc
   ·cases hc
  ·cases hc
 ·rename_i i ver w' z n
  simp only[Ask.val] at hc
  split at hc
  ·rename_i ver' t' l' hi
   split at hc
   ·split at hc
    ·rename_i e;obtain ⟨rfl,rfl⟩:=e
     obtain ⟨_,hd⟩:=hd
     obtain ⟨h1,h2⟩:=h.oW (p:=fun x=>yD x _ z n v) (aB hi) hd
     exact .inr ⟨i,_,aB hi,FN h1 (ah3 h2 hb),by simp[SV.refs]⟩
    ·cases hc
   ·cases hc
  ·cases hc
 ·rename_i b' o t' m z n
  simp only[Ask.val] at hc
  split at hc
  ·rename_i cells elem hi
   obtain ⟨_,z0,n0,zn,a',c',rfl,se,_,ha⟩:=hd
   refine .inr ⟨b',_,aB hi,?_,by simp[SV.refs]⟩
   show b=β.b b'
   cases a' with
   |none=>exact hb.elim
   |some a'=>
    have h0:=hb.1
    have e:=ha (by omega)
    simp at e;subst e
    rw[← hb.2,dC]
  ·cases hc
 ·rename_i b' o len cap
  simp only[Ask.val] at hc
  split at hc
  ·rename_i cells elem hi
   obtain ⟨_,rfl⟩:=hd
   exact .inr ⟨b',_,aB hi,hb.2.symm,by simp[SV.refs]⟩
  ·cases hc
 ·simp[Ask.val] at hc
def Z6 (β:Env) (own:Nat→Prop) (w:World) (v:Value) (t:Ty) (l:List t.D):Prop:=bW β false w v t l∧ ∀ b,inBlock v b→b<w.heap.size∧ ¬ own b
def Env.JF (β:Env) (own:Nat→Prop) (w:World):Env:=⟨β.b,β.h,fun pm v t l=>match pm with
 |true=>β.rd true v t l
 |false=>Z6 β own w v t l⟩
def JG (β:Env) (own:Nat→Prop) (w:World) (v:Value) (t:Ty) (l:List t.D):Prop:=bW (β.JF own w) false w v t l∧ ∀ b,inBlock v b→b<w.heap.size∧ ¬ own b
def Env.can (β:Env) (own:Nat→Prop) (w:World) (lent:Bool) (ids:List Nat):Env:=⟨fun j=>β.b (ids.getD j 0),fun j=>β.h (ids.getD j 0),fun pm v t l=>match pm with
 |true=>β.rd true v t l
 |false=>β.rd false v t l∨(lent=true∧JG β own w v t l)⟩
theorem bd.JF (h:bd W al β₀ β hp w) {own:Nat→Prop} (ho: ∀ b,own b→fk hp β b): ∀ pm v t l,β.rd pm v t l→(β.JF own w).rd pm v t l:=by
 intro pm v t l hr
 cases pm with
 |true=>exact hr
 |false=>
  obtain ⟨h1,h2⟩:=h.reads _ _ _ _ hr
  exact ⟨h1,fun b hb=>⟨(h2 b hb).1,fun k=>(h2 b hb).2 (ho b k)⟩⟩
theorem bd.Z7 (h:bd W al β₀ β hp w) {own:Nat→Prop} (ho: ∀ b,own b→fk hp β b) {v:Value} {t:Ty} {l:List t.D} (hl:Z6 β own w v t l):JG β own w v t l:=
 ⟨hl.1.mono (h.JF ho),hl.2⟩
def JH (t:Ty) (s:SV):Ask (Option (List t.D)):=(iS t s).map (·.map (·.2))
theorem JI (h:bd W al β₀ β hp w) {t:Ty} {s:SV} {l:List t.D} {v:Value} (hc:(JH t s).val hp=some l) (hd:s.den β (kd hp) v) {own:Nat→Prop}
  (ho: ∀ b,own b→ ∃ i x,hp[i]? =some (some x)∧cx β x i b∧i∉s.refs):Z6 β own w v t l:=by
 unfold JH at hc
 rw[Ask.cZ] at hc
 obtain ⟨⟨pm,l'⟩,hc1,he⟩:=map_some hc
 clear hc
 cases he
 have hc:=hc1
 have h1:=mh h hc hd
 have h2:bW β false w v t l':=by
  cases pm with
  |true=>exact h1.Vu
  |false=>exact h1
 refine ⟨h2,fun b hb=>?_⟩
 rcases Nx h hc hd hb with ⟨h3,h4⟩|⟨i,x,h3,h4,h5⟩
 ·refine ⟨h3,fun k=>?_⟩
  obtain ⟨i,x,k1,k2,_⟩:=ho b k
  exact h4 ⟨i,x,k1,k2⟩
 ·refine ⟨(h.items i x h3).lt h4,fun k=>?_⟩
  obtain ⟨j,y,k1,k2,k3⟩:=ho b k
  have:=h.inj i j x y b h3 k1 h4 k2
  subst this
  exact k3 h5
def JJ (t:Ty):List SV→Ask (Option (List (List t.D)))
 | []=> .ret (some [])
 |s::r=>(JH t s).bind fun x=>match x with
  |some l=>(JJ t r).map (·.map (l:: ·))
  |none=> .ret none
theorem JK (h:bd W al β₀ β hp w) {t:Ty} {own:Nat→Prop}: ∀ {row:List SV} {ls:List (List t.D)} {vs:List Value},(JJ t row).val hp=some ls→bo β (kd hp) row vs→
  (∀ b,own b→ ∃ i x,hp[i]? =some (some x)∧cx β x i b∧i∉row.flatMap SV.refs)→aZ ((Ty.sl t).has (β.JF own w) false) ls vs
 | [],ls,vs,hc,hd,_=>by
  simp[JJ,Ask.val] at hc;subst hc
  cases hd;exact .nil
 |s::row,ls,_,hc,.cons (vs:=us) h1 h2,ho=>by
  simp only[JJ] at hc
  rw[Ask.dR] at hc
  split at hc
  ·rename_i l hl
   rw[Ask.cZ] at hc
   obtain ⟨ls',se,rfl⟩:=map_some hc
   have hs: ∀ t n l,s≠ .arr t n l:=by
    intro t' n l' e;subst e
    simp[JH,iS,Ask.val,Ask.map,Ask.bind] at hl
   obtain ⟨v,rfl,hv⟩:=SV.jG h1 hs
   refine .cons ⟨v,rfl,SV.bC hv,.inr (.inl ⟨rfl,?_⟩)⟩ (JK h se h2 fun b hb=>?_)
   ·exact JI h hl hv fun b hb=>by
     obtain ⟨i,x,k1,k2,k3⟩:=ho b hb
     exact ⟨i,x,k1,k2,fun hm=>k3 (by simp[hm])⟩
   ·obtain ⟨i,x,k1,k2,k3⟩:=ho b hb
    exact ⟨i,x,k1,k2,fun hm=>k3 (by rw[List.flatMap_cons];exact List.mem_append_right _ hm)⟩
  ·simp[Ask.val] at hc
def ah4 (t:Ty) (s:SV):Ask (Option (SV×List Nat)):=
 match t,s with
 | .sl t',.slice b o len cap=> .get b fun x=>match x with
  |some (.a8 cells _)=>match (if len≤cap then Vv cells o len else none) with
   |some row=>(JJ t' row).map (·.map fun ls=>(.rd false false (.sl t') ls,b::row.flatMap SV.refs))
   |none=> .ret none
  |_=> .ret none
 |t,s=>(JH t s).map (·.map fun l=>(.rd false false t l,s.refs))
theorem S4 (h:bd W al β₀ β hp w) {t:Ty} {s s':SV} {lids:List Nat} {v:Value} (hc:(ah4 t s).val hp=some (s',lids)) (hd:s.den β (kd hp) v) {own:Nat→Prop}
  (ho: ∀ b,own b→ ∃ i x,hp[i]? =some (some x)∧cx β x i b∧i∉lids): ∃ l,s'= .rd false false t l∧JG β own w v t l:=by
 have lK: ∀ b,own b→fk hp β b:=fun b hb=>let ⟨i,x,h1,h2,_⟩:=ho b hb;⟨i,x,h1,h2⟩
 unfold ah4 at hc
 split at hc
 ·rename_i t' b o len cap
  simp only[Ask.val] at hc
  split at hc
  ·rename_i cells elem hi
   split at hc
   ·rename_i row jl
    rw[Ask.cZ] at hc
    obtain ⟨ls,hl,he⟩:=map_some hc
    cases he
    split at jl
    ·rename_i hlc
     obtain ⟨_,rfl⟩:=hd
     obtain ⟨cs,fz,h1,h2,h3⟩:=h.items _ _ (aB hi)
     obtain ⟨pre,mid,post,rfl,e1,e2,h4⟩:=qp jl h3
     have h5:=JK h hl h4 (own:=own) fun b hb=>by
      obtain ⟨i,x,k1,k2,k3⟩:=ho b hb
      exact ⟨i,x,k1,k2,fun hm=>k3 (List.mem_cons_of_mem _ hm)⟩
     have hlen:mid.length=ls.length:=by rw[bp h5];simp[Ty.w]
     subst e1
     refine ⟨ls,rfl,⟨_,_,_,rfl,by omega,hlc,(fun e=>by cases e),fun _=>⟨_,mid,rfl,rfl,h5,dX h1⟩⟩,fun b' kU=>?_⟩
     have eb:b'=β.b b:=kU.2.symm
     subst eb
     refine ⟨(Array.getElem?_eq_some_iff.1 h1).1,fun k=>?_⟩
     obtain ⟨i,x,k1,k2,k3⟩:=ho _ k
     have:=h.inj i b x _ _ k1 (aB hi) k2 rfl
     subst this
     exact k3 (by simp)
    ·cases jl
   ·simp[Ask.val] at hc
  ·simp[Ask.val] at hc
 ·rw[Ask.cZ] at hc
  obtain ⟨l,hl,he⟩:=map_some hc
  cases he
  exact ⟨l,rfl,h.Z7 lK (JI h hl hd ho)⟩
def avq:SV→Bool
 | .sl _ _| .slice _ _ _ _| .rd _ _ _ _| .vw _ _ _ _ _| .vb _ _ _ _ _ _=>true
 | .gz (.slice none 0 0)=>true
 |_=>false
def jo (t:Ty):List SV→Ask (List SV×List Nat)
 | []=> .ret ([],[])
 |s::r=>if avq s=true then (ah4 t s).bind fun y=>match y with
   |some (s',b1)=>(jo t r).map fun (l,b)=>(s'::l,b1++b)
   |none=>(jo t r).map fun (l,b)=>(s::l,b)
  else (jo t r).map fun (l,b)=>(s::l,b)
theorem A5 (h:bd W al β₀ β hp w) {f:tJ} {βc:Env} {L':Nat→Option Kd} (VB:xt f β βc (kd hp) L' false) {own:Nat→Prop} {t:Ty} (hl: ∀ v l,JG β own w v t l→βc.rd false v t l):
  ∀ {l l':List SV} {lids:List Nat} {vs:List Value},(jo t l).val hp=(l',lids)→bo β (kd hp) l vs→
   (∀ b,own b→ ∃ i x,hp[i]? =some (some x)∧cx β x i b∧i∉lids)→bo βc L' (l'.map (SV.cf f)) vs
 | [],l',lids,_,hc,hd,_=>by
  cases hd
  have se:(([]:List SV),([]:List Nat))=(l',lids):=hc
  cases se
  exact .nil
 |s::r,l',lids,_,hc,.cons (vs:=vs) h1 h2,ho=>by
  have same: ∀ {l':List SV} {lids:List Nat},((jo t r).map fun (l,b)=>(s::l,b)).val hp=(l',lids)→(∀ b,own b→ ∃ i x,hp[i]? =some (some x)∧cx β x i b∧i∉lids)→bo βc L' (l'.map (SV.cf f)) (vs++_):=fun {l' lids} hc ho=>by
   rw[Ask.cZ] at hc
   have e1:l'=s::((jo t r).val hp).1:=(congrArg Prod.fst hc).symm
   have e2:lids=((jo t r).val hp).2:=(congrArg Prod.snd hc).symm
   subst e1
   rw[e2] at ho
   have ih:=A5 h VB hl (l:=r) (l':=((jo t r).val hp).1) (lids:=((jo t r).val hp).2) rfl h2 ho
   have hs:bo βc L' ([s].map (SV.cf f)) (vs++ []):=bo.FL VB (by simp) (aZ.cons h1 aZ.nil)
   rw[List.append_nil] at hs
   exact hs.append ih
  simp only[jo] at hc
  split at hc
  ·rename_i nb
   rw[Ask.dR] at hc
   split at hc
   ·rename_i s' b1 hs
    rw[Ask.cZ] at hc
    have e1:l'=s'::((jo t r).val hp).1:=(congrArg Prod.fst hc).symm
    have e2:lids=b1++((jo t r).val hp).2:=(congrArg Prod.snd hc).symm
    subst e1
    rw[e2] at ho
    have hna: ∀ t n l,s≠ .arr t n l:=fun _ _ _ e=>by subst e;cases nb
    obtain ⟨v,rfl,hv⟩:=SV.jG h1 hna
    obtain ⟨l2,rfl,h3⟩:=S4 h hs hv (own:=own) fun b hb=>by
     obtain ⟨i,x,k1,k2,k3⟩:=ho b hb
     exact ⟨i,x,k1,k2,fun hm=>k3 (List.mem_append_left _ hm)⟩
    refine .cons (vs:= [v]) ⟨v,rfl,SV.bC hv,(fun e=>by cases e),.inr (.inl ⟨rfl,hl _ _ h3⟩)⟩ (A5 h VB hl (l:=r) (l':=((jo t r).val hp).1) (lids:=((jo t r).val hp).2) rfl h2 fun b hb=>?_)
    obtain ⟨i,x,k1,k2,k3⟩:=ho b hb
    exact ⟨i,x,k1,k2,fun hm=>k3 (List.mem_append_right _ hm)⟩
   ·exact same hc ho
  ·exact same hc ho
def fv:List (Option Ty)→List LV→Ask (Option (List LV×List Nat))
 |_,[]=> .ret (some ([],[]))
 | [],x::xs=>(fv [] xs).map (·.map fun (l,b)=>(x::l,b))
 |none::ts,x::xs=>(fv ts xs).map (·.map fun (l,b)=>(x::l,b))
 |some t::ts,.one (.sc s)::xs=>(ah4 t s).bind fun y=>match y with
  |some (s',b1)=>(fv ts xs).map (·.map fun (l,b)=>(.one (.sc s')::l,b1++b))
  |none=> .ret none
 |some t::ts,.one (.agg l)::xs=>(jo t l).bind fun y=>(fv ts xs).map (·.map fun (r,b)=>(.one (.agg y.1)::r,y.2++b))
 |some _::_,_=> .ret none
theorem jq (h:bd W al β₀ β hp w) {f:tJ} {βc:Env} {L':Nat→Option Kd} (VB:xt f β βc (kd hp) L' false) {own:Nat→Prop}:
  ∀ {ts:List (Option Ty)} {xs cs:List LV} {lids:List Nat} {vs:List Value},(fv ts xs).val hp=some (cs,lids)→b8 (LV.den β (kd hp)) xs vs→
   (∀ t,some t∈ts→ ∀ v l,JG β own w v t l→βc.rd false v t l)→
   (∀ b,own b→ ∃ i x,hp[i]? =some (some x)∧cx β x i b∧i∉lids)→b8 (LV.den βc L') (cs.map (LV.cf f)) vs
 |ts,[],cs,lids,_,hc,hd,_,_=>by
  cases hd
  have se:some (([]:List LV),([]:List Nat))=some (cs,lids):=by
   cases ts with
   |nil=>exact hc
   |cons a b=>cases a<;>exact hc
  cases se
  exact .nil
 | [],x::xs,_,_,_,hc,.cons h1 h2,hl,ho=>by
  simp only[fv] at hc
  rw[Ask.cZ] at hc
  obtain ⟨⟨l,b⟩,se,he⟩:=map_some hc
  cases he
  exact .cons (LV.fU VB (by simp) h1) (jq h VB se h2 hl ho)
 |none::ts,x::xs,_,_,_,hc,.cons h1 h2,hl,ho=>by
  simp only[fv] at hc
  rw[Ask.cZ] at hc
  obtain ⟨⟨l,b⟩,se,he⟩:=map_some hc
  cases he
  exact .cons (LV.fU VB (by simp) h1) (jq h VB se h2 (fun t ht=>hl t (List.mem_cons_of_mem _ ht)) ho)
 |some t::ts,x::xs,_,_,_,hc,.cons h1 h2,hl,ho=>by
  cases x with
  |one x=>
   cases x with
   |sc s=>
    simp only[fv] at hc
    rw[Ask.dR] at hc
    split at hc
    ·rename_i s' b1 hs
     rw[Ask.cZ] at hc
     obtain ⟨⟨l,b⟩,se,he⟩:=map_some hc
     cases he
     obtain ⟨l',rfl,h3⟩:=S4 h hs h1 (own:=own) fun b hb=>by
      obtain ⟨i,x,k1,k2,k3⟩:=ho b hb
      exact ⟨i,x,k1,k2,fun hm=>k3 (List.mem_append_left _ hm)⟩
     refine .cons ⟨SV.bC h1,(fun e=>by cases e),.inr (.inl ⟨rfl,hl t (by simp) _ _ h3⟩)⟩ (jq h VB se h2 (fun t ht=>hl t (List.mem_cons_of_mem _ ht)) fun b hb=>?_)
     obtain ⟨i,x,k1,k2,k3⟩:=ho b hb
     exact ⟨i,x,k1,k2,fun hm=>k3 (List.mem_append_right _ hm)⟩
    ·simp[Ask.val] at hc
   |agg l=>
    simp only[fv] at hc
    rw[Ask.dR,Ask.cZ] at hc
    obtain ⟨⟨l',b⟩,se,he⟩:=map_some hc
    cases he
    obtain ⟨cells,rfl,h3⟩:=h1
    refine .cons ⟨cells,rfl,A5 h VB (fun v l h=>hl t (by simp) v l h) (l:=l) (l':=((jo t l).val hp).1) (lids:=((jo t l).val hp).2) rfl h3 fun b hb=>?_⟩ (jq h VB se h2 (fun t ht=>hl t (List.mem_cons_of_mem _ ht)) fun b hb=>?_)
    ·obtain ⟨i,x,k1,k2,k3⟩:=ho b hb
     exact ⟨i,x,k1,k2,fun hm=>k3 (List.mem_append_left _ hm)⟩
    ·obtain ⟨i,x,k1,k2,k3⟩:=ho b hb
     exact ⟨i,x,k1,k2,fun hm=>k3 (List.mem_append_right _ hm)⟩
  |cV l=>simp[fv,Ask.val] at hc
  |bl=>simp[fv,Ask.val] at hc
theorem cx.cf {f:tJ} {u:Nat→Nat} {β β':Env} {x:Item} {i j b:Nat} (hb:β'.b j=β.b i) (hh:β'.h j=β.h i):cx β' (x.cf f u) j b↔cx β x i b:=by
 cases x<;>simp only[Item.cf,cx,hb,hh]
def oH (ids:List Nat) (xs:List Item) (i:Nat):Nat:=match iU ids i with
 |some j=>match xs[j]? with
  |some x=>x.ver
  |none=>0
 |none=>0
abbrev yR (ids:List Nat) (xs:List Item):tJ:= .fwd (iU ids) (oH ids xs)
def hY (ids:List Nat) (xs:List Item):Hp:=xs.map fun x=>some (x.cf (yR ids xs) fun _=>0)
theorem ns {roots ids:List Nat} {xs:List Item} (hr:Reached hp roots ids xs []) {j:Nat} {y:Item} (h:(hY ids xs)[j]? =some (some y)): ∃ i x,ids[j]? =some i∧hp[i]? =some (some x)∧xs[j]? =some x∧y=x.cf (yR ids xs) fun _=>0:=by
 unfold hY at h
 rw[List.getElem?_map] at h
 obtain ⟨x,hx,he⟩:=map_some h
 simp at he;subst he
 have hj:j<ids.length:=by rw[hr.len];exact (List.getElem?_eq_some_iff.1 hx).1
 have hi:ids[j]? =some ids[j]:=List.getElem?_eq_getElem hj
 exact ⟨_,x,hi,aB (hr.at_ _ _ _ hi hx),hx,rfl⟩
theorem xu {roots ids:List Nat} {xs:List Item} (hr:Reached hp roots ids xs []) {i j:Nat} (h:ids[j]? =some i): ∃ x,hp[i]? =some (some x)∧xs[j]? =some x∧(hY ids xs)[j]? =some (some (x.cf (yR ids xs) fun _=>0)):=by
 have hj:j<xs.length:=by rw[← hr.len];exact (List.getElem?_eq_some_iff.1 h).1
 have hx:xs[j]? =some xs[j]:=List.getElem?_eq_getElem hj
 refine ⟨_,aB (hr.at_ _ _ _ h hx),hx,?_⟩
 unfold hY
 rw[List.getElem?_map,hx];rfl
theorem FO {roots ids:List Nat} {xs:List Item} (hr:Reached hp roots ids xs []) {i j:Nat} (h:ids[j]? =some i) {x:Item} (hx:hp[i]? =some (some x)):oH ids xs i=x.ver:=by
 obtain ⟨y,h1,h2,_⟩:=xu hr h
 rw[hx] at h1;cases h1
 simp only[oH,jV hr.nodup h,h2]
def my (hp:Hp) (β:Env) (ids:List Nat) (b:Nat):Prop:= ∃ i x,hp[i]? =some (some x)∧cx β x i b∧i∈ids
theorem gp {l:List Nat} {j i:Nat} (h:l[j]? =some i):l.getD j 0=i:=by rw[List.getD_eq_getElem?_getD,h];rfl
theorem qE {roots ids:List Nat} {xs:List Item} (hr:Reached hp roots ids xs []) {own:Nat→Prop} {lent:Bool} {b:Nat} (h:fk (hY ids xs) (β.can own w lent ids) b):my hp β ids b:=by
 obtain ⟨j,y,hj,ho⟩:=h
 obtain ⟨i,x,h1,h2,_,rfl⟩:=ns hr hj
 refine ⟨i,x,h2,?_,List.mem_of_getElem? h1⟩
 exact (cx.cf (by show β.b _=_;rw[gp h1]) (by show β.h _=_;rw[gp h1])).1 ho
theorem JL {roots ids:List Nat} {xs:List Item} (hr:Reached hp roots ids xs []) {own:Nat→Prop} {lent:Bool}:xt (yR ids xs) β (β.can own w lent ids) (kd hp) (kd (hY ids xs)) false:=by
 refine ⟨fun b j hj hb=>?_,fun i j c hj hi=>?_,fun v t l h=>h,fun _ v t l h=> .inl h⟩
 ·have h1:=gB hj
  obtain ⟨x,h2,h3,h4⟩:=xu hr h1
  refine ⟨?_,by show β.b _=_;rw[gp h1]⟩
  rw[dq h2] at hb
  rw[dq h4,Item.jW,Option.some.inj hb];rfl
 ·have h1:=gB hj
  obtain ⟨x,h2,h3,h4⟩:=xu hr h1
  rw[dq h2] at hi
  have hk:=Option.some.inj hi
  refine ⟨0,?_,by show β.h _=_;rw[gp h1],fun v v' _ hv=>?_⟩
  ·rw[dq h4,Item.jW,hk];rfl
  ·have VE:(if v=oH ids xs i then some 0 else none)=some v':=hv
   split at VE
   ·rename_i e
    cases VE
    refine ⟨Nat.le_refl _,fun _=>?_⟩
    rw[e,FO hr h1 h2]
    cases x with
    |a8 _ _=>cases hk
    |own _ _ _=>cases hk;rfl
    |gone _=>cases hk;rfl
   ·cases VE
theorem ah5 (h:bd W al β₀ β hp w) {roots ids:List Nat} {xs:List Item} (hr:Reached hp roots ids xs []) {lent:Bool}:
  bd w (hY ids xs) (β.can (my hp β ids) w lent ids) (β.can (my hp β ids) w lent ids) (hY ids xs) w:=by
 have lK: ∀ b,my hp β ids b→fk hp β b:=fun b ⟨i,x,h1,h2,_⟩=>⟨i,x,h1,h2⟩
 refine ⟨fun j y hj=>?_,fun j k y z b hj hk h1 h2=>?_,bU.refl _ _,fun i x b hi ho=> .inr ⟨x,hi,ho⟩,rfl,rfl,Nat.le_refl _,fun _ _ _=>rfl,fun pm v t l oE=>?_,fun pm v t l b h1 h2=> .inr ⟨pm,v,t,l,id,h1,h2⟩⟩
 ·obtain ⟨i,x,h1,h2,_,rfl⟩:=ns hr hj
  refine eQ.FL (JL hr) (by simp) (fun _=>?_) (fun _ _=>?_) (h.items i x h2)
  ·show β.b _=_;rw[gp h1]
  ·show β.h _=_;rw[gp h1]
 ·obtain ⟨i1,x1,a1,a2,_,rfl⟩:=ns hr hj
  obtain ⟨i2,x2,b1,b2,_,rfl⟩:=ns hr hk
  have e:=h.inj i1 i2 x1 x2 b a2 b2 ((cx.cf (by show β.b _=_;rw[gp a1]) (by show β.h _=_;rw[gp a1])).1 h1) ((cx.cf (by show β.b _=_;rw[gp b1]) (by show β.h _=_;rw[gp b1])).1 h2)
  subst e
  have e1:=jV hr.nodup a1
  have e2:=jV hr.nodup b1
  rw[e1] at e2;exact Option.some.inj e2
 ·have Z5: ∀ pm v t l,β.rd pm v t l→(β.can (my hp β ids) w lent ids).rd pm v t l:=by
   intro pm v t l hr
   cases pm with
   |true=>exact hr
   |false=>exact .inl hr
  have hold: ∀ pm v t l,β.rd pm v t l→bW (β.can (my hp β ids) w lent ids) pm w v t l∧ ∀ b,inBlock v b→b<w.heap.size∧ ¬ fk (hY ids xs) (β.can (my hp β ids) w lent ids) b:=by
   intro pm v t l oE
   obtain ⟨h1,h2⟩:=h.reads _ _ _ _ oE
   exact ⟨h1.mono Z5,fun b hb=>⟨(h2 b hb).1,fun k=>(h2 b hb).2 (lK b (qE hr k))⟩⟩
  cases pm with
  |true=>exact hold true v t l oE
  |false=>
   rcases oE with oE|⟨hl,h1,h2⟩
   ·exact hold false v t l oE
   ·refine ⟨h1.mono fun pm v t l hr=>?_,fun b hb=>⟨(h2 b hb).1,fun k=>(h2 b hb).2 (qE hr k)⟩⟩
    cases pm with
    |true=>exact hr
    |false=>exact .inr ⟨hl,h.Z7 lK hr⟩
end
abbrev Item.bk (g vb:Nat→Nat) (j:Nat) (x:Item):Item:=x.cf (.bwd g vb) (· +vb (g j))
def FQ (g vb:Nat→Nat) (d:List (Nat×Item)):List (Nat×Item):=d.map fun (j,x)=>(g j,x.bk g vb j)
theorem JM {g vb:Nat→Nat} {d:List (Nat×Item)} {i:Nat} {y:Item}:(i,y)∈FQ g vb d↔ ∃ j x,(j,x)∈d∧i=g j∧y=x.bk g vb j:=by
 unfold FQ
 rw[List.mem_map]
 constructor
 ·rintro ⟨⟨j,x⟩,h,e⟩
  simp at e;exact ⟨j,x,h,e.1.symm,e.2.symm⟩
 ·rintro ⟨j,x,h,rfl,rfl⟩
  exact ⟨(j,x),h,rfl⟩
structure Mir (g vb:Nat→Nat) (J U:Nat→Prop) (lent:Bool) (Je hpc hp:Hp):Prop where
 live: ∀ (j:Nat) (y:Item),hpc[j]? =some (some y)→J j
 fwd: ∀ (j:Nat) (y:Item),hpc[j]? =some (some y)→hp[g j]? =some (some (y.bk g vb j))
 bwd: ∀ (i:Nat) (x:Item),hp[i]? =some (some x)→(∃ (j:Nat) (y:Item),hpc[j]? =some (some y)∧g j=i)∨(Je[i]? =some (some x)∧U i)
 nr:lent=true→ ∀ (j:Nat) (y:Item),hpc[j]? =some (some y)→y.nr=true
theorem Eb {g vb:Nat→Nat} {J U:Nat→Prop} {lent:Bool} {Je:Hp} (VM: ∀ j k,J j→J k→g j=g k→j=k):
  ∀ (d:List (Nat×Item)) {hpc hp:Hp},(∀ j x,(j,x)∈d→J j)→(lent=true→d.all (fun p=>p.2.nr)=true)→Mir g vb J U lent Je hpc hp→Mir g vb J U lent Je (aK d hpc) (aK (FQ g vb d) hp)
 | [],_,_,_,_,h=>h
 |(j,x)::d,hpc,hp,hJ,hn,h=>by
  refine Eb VM d (hpc:=setAt hpc j x) (hp:=setAt hp (g j) (x.bk g vb j)) (fun j' x' hm=>hJ j' x' (List.mem_cons_of_mem _ hm)) (fun e=>by have:=hn e;simp only[List.all_cons,Bool.and_eq_true] at this;exact this.2) ?_
  have hj:J j:=hJ j x (by simp)
  refine ⟨fun k y hk=>?_,fun k y hk=>?_,fun i z hi=>?_,fun e k y hk=>?_⟩
  ·by_cases hkj:k=j
   ·exact hkj▸hj
   ·exact h.live k y ((cG hpc j x k y hkj).1 hk)
  ·by_cases hkj:k=j
   ·subst hkj
    rw[du] at hk;simp at hk;subst hk
    exact du _ _ _
   ·have oq:=(cG hpc j x k y hkj).1 hk
    have gk:g k≠g j:=fun e=>hkj (VM k j (h.live k y oq) hj e)
    exact (cG hp (g j) _ (g k) _ gk).2 (h.fwd k y oq)
  ·by_cases hij:i=g j
   ·subst hij
    exact .inl ⟨j,x,du _ _ _,rfl⟩
   ·rcases h.bwd i z ((cG hp (g j) _ i z hij).1 hi) with ⟨k,y,hk,e⟩|k
    ·refine .inl ⟨k,y,(cG hpc j x k y fun e'=>hij ?_).2 hk,e⟩
     rw[← e,e']
    ·exact .inr k
  ·by_cases hkj:k=j
   ·subst hkj
    rw[du] at hk;simp at hk;subst hk
    have:=hn e;simp only[List.all_cons,Bool.and_eq_true] at this;exact this.1
   ·exact h.nr e k y ((cG hpc j x k y hkj).1 hk)
structure au where
 tys:List (Option Ty)
 run:List LV→Hp→Out
def Z8 (P:Program) (f:FuncId) (args:List LV) (hp:Hp) (R:LV→Hp→Prop):Prop:=
 ∀ (β:Env) (w:World) (vals:List Value),bd w hp β β hp w→b8 (LV.den β (kd hp)) args vals→
  VD P f vals.toArray w fun e w'=> ∃ val β' r ft,e= .returned val∧R r ft∧r.den β' (kd ft) val∧bd w hp β β' ft w'
theorem hX.done {P:Program} {f:FuncId} (he:xr P f) {args:List LV} {hp:Hp} {R:LV→Hp→Prop} (h:hX P f args hp R):Z8 P f args hp R:=
 fun β w vals hh ha=> .inr ⟨he,h β w vals hh ha⟩
structure au.Ok (P:Program) (f:FuncId) (e:au):Prop where
 calls: ∀ args hp Q,(e.run args hp).holds Q→Z8 P f args hp fun v ft=> ∃ d,Q v d∧ft=aK d hp
def Out.back (g vb:Nat→Nat) (lent:Bool):Out→Out
 | .leaf q v d=>if lent=true∧(v.nr&&d.all fun p=>p.2.nr)=false then .fail else .leaf q (v.cf (.bwd g vb)) (FQ g vb d)
 | .ite b x y=> .ite b (x.back g vb lent) (y.back g vb lent)
 | .fail=> .fail
theorem so {g vb:Nat→Nat} {lent:Bool} {id:Nat} {hp:Hp} {Q:LV→List (Nat×Item)→Prop}: ∀ {o:Out},(o.back g vb lent).fresh id hp→(o.back g vb lent).holds Q→
  o.holds fun v d=>(lent=true→v.nr=true∧(d.all fun p=>p.2.nr)=true)∧SZ id hp (FQ g vb d)∧Q (v.cf (.bwd g vb)) (FQ g vb d)
 | .leaf q v d,hf,h=>by
  simp only[Out.back] at hf h
  split at h
  ·exact h.elim
  ·rename_i hc
   rw[if_neg hc] at hf
   refine ⟨h.1,fun e=>?_,hf,h.2⟩
   have:(v.nr&&d.all fun p=>p.2.nr)=true:=by
    cases hx:(v.nr&&d.all fun p=>p.2.nr) with
    |true=>rfl
    |false=>exact absurd ⟨e,hx⟩ hc
   simpa using this
 | .ite b x y,hf,h=>⟨fun e=>so hf.1 (h.1 e),fun e=>so hf.2 (h.2 e)⟩
 | .fail,_,h=>h
def yS (ids:List Nat) (id:Nat) (j:Nat):Nat:=match ids[j]? with
 |some i=>i
 |none=>id+(j-ids.length)
def S5 (e:au) (id:Nat) (args:List LV):Ask Out:=
 (fv e.tys args).bind fun x=>match x with
 |none=> .ret .fail
 |some (JN,lids)=>(sn 1000 (JN.flatMap LV.refs) [] []).bind fun y=>match y with
  |none=> .ret .fail
  |some (ids,xs)=>
   if lids.any (fun i=>decide (i∈ids))=true∨(e.tys.any (·.isSome)=true∧xs.all Item.nr=false) then .ret .fail
   else if xs.all (Item.cur (oH ids xs))=false then .ret .fail
   else .ret ((e.run (JN.map (LV.cf (yR ids xs))) (hY ids xs)).back (yS ids id) (oH ids xs) (e.tys.any (·.isSome)))
section
variable {α:Type}
def sr (hp:Hp) (ids:List Nat) (id:Nat) (F F0:Nat→α) (i:Nat):α:=match iU ids i with
 |some j=>F j
 |none=>if kd hp i=none∧id≤i then F (ids.length+(i-id)) else F0 i
end
theorem Z9 {P:Program} {f:FuncId} {e:au} (he:e.Ok P f) {id:Nat} {args:List LV} {hp:Hp} (hf:((S5 e id args).val hp).fresh id hp) {Q:LV→List (Nat×Item)→Prop} (h:((S5 e id args).val hp).holds Q)
  {β:Env} {w:World} {vals:List Value} (hh:bd w hp β β hp w) (dG:b8 (LV.den β (kd hp)) args vals):
  VD P f vals.toArray w fun e w'=> ∃ v d val β',Q v d∧e= .returned val∧v.den β' (kd (aK d hp)) val∧bd w hp β β' (aK d hp) w':=by
 unfold S5 at h hf
 rw[Ask.dR] at h hf
 split at h
 ·exact h.elim
 rename_i JN lids hl
 rw[hl] at hf
 simp only at hf
 rw[Ask.dR] at h hf
 split at h
 ·exact h.elim
 rename_i ids xs aaa
 rw[aaa] at hf
 simp only at hf
 split at h
 ·exact h.elim
 rename_i rO
 rw[if_neg rO] at hf
 split at h
 ·exact h.elim
 rename_i hcu
 rw[if_neg hcu] at hf
 have avs:xs.all (Item.cur (oH ids xs))=true:=by simpa using hcu
 simp only[Ask.val] at h hf
 have Nq: ∀ i∈lids,i∉ids:=fun i hi hm=>rO (.inl (by rw[List.any_eq_true];exact ⟨i,hi,by simpa using hm⟩))
 have avt:e.tys.any (·.isSome)=true→xs.all Item.nr=true:=fun e1=>by
  cases hx:xs.all Item.nr with
  |true=>rfl
  |false=>exact absurd (.inr ⟨e1,hx⟩) rO
 have ari: ∀ t,some t∈e.tys→e.tys.any (·.isSome)=true:=fun t ht=>by rw[List.any_eq_true];exact ⟨_,ht,rfl⟩
 generalize e.tys.any (·.isSome)=lent at*
 have hR:Reached hp (JN.flatMap LV.refs) ids xs []:=A4 1000 _ [] [] ⟨List.nodup_nil,rfl,fun _ _ _ h=>by simp at h,fun _ h=>by simp at h,fun r h=> .inr h⟩ aaa
 generalize FR:β.can (my hp β ids) w lent ids=βc
 have avu:bd w (hY ids xs) βc βc (hY ids xs) w:=FR▸ah5 hh hR
 have yT:xt (yR ids xs) β βc (kd hp) (kd (hY ids xs)) false:=FR▸JL hR
 have hcb: ∀ {j i},ids[j]? =some i→βc.b j=β.b i:=fun hj=>by subst FR;show β.b _=_;rw[gp hj]
 have hch: ∀ {j i},ids[j]? =some i→βc.h j=β.h i:=fun hj=>by subst FR;show β.h _=_;rw[gp hj]
 have anw:b8 (LV.den βc (kd (hY ids xs))) (JN.map (LV.cf (yR ids xs))) vals:=by
  refine jq hh yT (own:=my hp β ids) hl dG (fun t ht v l fq=>?_) fun b ⟨i,x,h1,h2,h3⟩=>⟨i,x,h1,h2,fun hm=>Nq i hm h3⟩
  subst FR
  exact .inr ⟨ari t ht,fq⟩
 refine (he.calls _ _ _ (so hf h) βc w vals avu anw).mono ?_
 rintro en w' ⟨val,βr,r,ft,rfl,⟨d,⟨hnr,anx,hq⟩,rfl⟩,Nm,h'⟩
 have zd: ∀ {j i},ids[j]? =some i→yS ids id j=i:=fun hj=>by simp only[yS,hj]
 have JO: ∀ {j:Nat},ids.length≤j→yS ids id j=id+(j-ids.length):=by
  intro j hj
  have:ids[j]? =none:=List.getElem?_eq_none hj
  simp only[yS,this]
 have hlen:(hY ids xs).length=ids.length:=by simp[hY,hR.len]
 have oY: ∀ {j x},(j,x)∈d→ids.length≤j→kd hp (yS ids id j)=none:=fun hm hj=>anx _ _ (JM.2 ⟨_,_,hm,rfl,rfl⟩) (by rw[JO hj];omega)
 let J:Nat→Prop:=fun j=>j<ids.length∨ ∃ x,(j,x)∈d
 let U:Nat→Prop:=fun i=>iU ids i=none
 have aab: ∀ {j i},ids[j]? =some i→kd hp i≠none:=fun hj e=>by
  obtain ⟨x,h1,_⟩:=xu hR hj
  rw[dq h1] at e;cases e
 have VM: ∀ j k,J j→J k→yS ids id j=yS ids id k→j=k:=by
  intro j k hj hk e
  by_cases h1:j<ids.length<;>by_cases h2:k<ids.length
  ·have e1:=List.getElem?_eq_getElem h1
   have e2:=List.getElem?_eq_getElem h2
   rw[zd e1,zd e2] at e
   have k1:=jV hR.nodup e1
   have k2:=jV hR.nodup e2
   rw[e,k2] at k1;exact (Option.some.inj k1).symm
  ·have e1:=List.getElem?_eq_getElem h1
   obtain ⟨x,hx⟩:=hk.resolve_left h2
   exact absurd (by rw[← zd e1,e];exact oY hx (by omega)) (aab e1)
  ·have e2:=List.getElem?_eq_getElem h2
   obtain ⟨x,hx⟩:=hj.resolve_left h1
   exact absurd (by rw[← zd e2,← e];exact oY hx (by omega)) (aab e2)
  ·rw[JO (by omega),JO (by omega)] at e;omega
 have arj:Mir (yS ids id) (oH ids xs) J U lent hp (hY ids xs) hp:=by
  refine ⟨fun j y hj=> .inl ?_,fun j y hj=>?_,fun i x hi=>?_,fun e1 j y hj=>?_⟩
  ·rw[← hlen];exact (List.getElem?_eq_some_iff.1 hj).1
  ·obtain ⟨i,x,h1,h2,h3,rfl⟩:=ns hR hj
   have hvb:=FO hR h1 h2
   show hp[yS ids id j]? =some (some ((x.cf (yR ids xs) fun _=>0).cf (.bwd (yS ids id) (oH ids xs)) (· +oH ids xs (yS ids id j))))
   rw[zd h1,VL (List.all_eq_true.1 avs x (List.mem_of_getElem? h3)) hvb fun r hr=>?_]
   ·exact h2
   ·have hm:=(hR.refs x (List.mem_of_getElem? h3) r hr).resolve_right (by simp)
    obtain ⟨k,hk⟩:=A3 hm
    exact ⟨k,hk,zd (gB hk)⟩
  ·cases iO:iU ids i with
   |none=>exact .inr ⟨hi,iO⟩
   |some j=>
    obtain ⟨x',h1,h2,h3⟩:=xu hR (gB iO)
    exact .inl ⟨j,_,h3,zd (gB iO)⟩
  ·obtain ⟨i,x,h1,h2,h3,rfl⟩:=ns hR hj
   have hx:=avt e1
   rw[List.all_eq_true] at hx
   have hx':=hx x (List.mem_of_getElem? h3)
   cases x with
   |a8 cells el=>
    simp only[Item.cf,Item.nr,List.all_map] at hx' ⊢
    rw[List.all_eq_true] at hx' ⊢
    exact fun s hs=>SV.S3 (hx' s hs)
   |_=>rfl
 have xw:=Eb VM d (fun j x hm=> .inr ⟨x,hm⟩) (fun e1=>(hnr e1).2) arj
 generalize anz:aK (FQ (yS ids id) (oH ids xs) d) hp=hp2 at*
 generalize aK d (hY ids xs)=Zb at*
 let β2:Env:=⟨sr hp ids id βr.b β.b,sr hp ids id βr.h β.h,fun pm v t l=>match pm with
  |true=>βr.rd true v t l
  |false=>if lent=true then β.rd false v t l else βr.rd false v t l⟩
 have su: ∀ {α:Type} (F F0:Nat→α) {j:Nat},J j→sr hp ids id F F0 (yS ids id j)=F j:=by
  intro α F F0 j hj
  by_cases h1:j<ids.length
  ·have e1:=List.getElem?_eq_getElem h1
   simp only[sr,zd e1,jV hR.nodup e1]
  ·obtain ⟨x,hx⟩:=hj.resolve_left h1
   have hn:=oY hx (by omega)
   have Je:iU ids (yS ids id j)=none:=by
    cases hq:iU ids (yS ids id j) with
    |none=>rfl
    |some k=>exact absurd hn (aab (gB hq))
   simp only[sr,Je]
   rw[if_pos ⟨hn,by rw[JO (by omega)];omega⟩,JO (by omega)]
   congr 1;omega
 have xx: ∀ {α:Type} (F F0:Nat→α) {i:Nat} {k:Kd},kd hp i=some k→iU ids i=none→sr hp ids id F F0 i=F0 i:=by
  intro α F F0 i k hi Je
  simp only[sr,Je]
  rw[if_neg (by rw[hi];simp)]
 have FT:xt (.bwd (yS ids id) (oH ids xs)) βr β2 (kd Zb) (kd hp2) lent:=by
  refine ⟨fun b j hj hb=>?_,fun i j c hj hi=>?_,fun v t l h=>h,fun e1 v t l h=>by show (if lent=true then _ else _:Prop);rw[if_neg (by simp[e1])];exact h⟩
  ·cases hj
   obtain ⟨y,h1,h2⟩:=k8 hb
   exact ⟨by rw[dq (xw.fwd _ _ h1),Item.jW,h2];rfl,su _ _ (xw.live _ _ h1)⟩
  ·cases hj
   obtain ⟨y,h1,h2⟩:=k8 hi
   refine ⟨c+oH ids xs (yS ids id i),by rw[dq (xw.fwd _ _ h1),Item.jW,h2];rfl,su _ _ (xw.live _ _ h1),fun v v' hv he=>?_⟩
   cases he
   exact ⟨Nat.add_le_add_right hv _,fun e=>Nat.add_right_cancel e⟩
 have ark: ∀ pm v t l,β.rd pm v t l→β2.rd pm v t l:=by
  intro pm v t l hr
  cases pm with
  |true=>exact h'.first.rd true v t l (yT.rdt _ _ _ hr)
  |false=>
   show (if lent=true then _ else _:Prop)
   split
   ·exact hr
   ·exact h'.first.rd false v t l (yT.rdf rfl _ _ _ hr)
 have FU: ∀ {i x b},hp[i]? =some (some x)→iU ids i=none→cx β x i b→b<w.heap.size∧ ¬ my hp β ids b:=by
  intro i x b hi Je ho
  refine ⟨(hh.items i x hi).lt ho,fun ⟨k,y,h1,h2,h3⟩=>?_⟩
  have:=hh.inj i k x y b hi h1 ho h2
  subst this
  exact D9 Je h3
 have aac: ∀ {b},b<w.heap.size→ ¬ my hp β ids b→w'.heap[b]? =w.heap[b]? :=fun hb hn=>h'.an _ hb fun k=>hn (qE hR (FR▸k))
 have alO: ∀ {i x},hp[i]? =some (some x)→iU ids i=none→hp2[i]? =some (some x):=by
  intro i x hi Je
  have:i∉(FQ (yS ids id) (oH ids xs) d).map (·.1):=by
   intro hm
   obtain ⟨⟨i',z⟩,h1,h2⟩:=List.mem_map.1 hm
   simp at h2;subst h2
   obtain ⟨j,y,h3,e1,e2⟩:=JM.1 h1
   by_cases hj:j<ids.length
   ·have k1:=List.getElem?_eq_getElem hj
    have:=D9 Je
    exact this (by rw[e1,zd k1];exact List.getElem_mem hj)
   ·have:=oY h3 (by omega)
    rw[← e1,dq hi] at this;cases this
  rw[← anz]
  exact aB (by rw[dZ this];exact qo hi)
 have rK:bU β β2 (kd hp) (kd hp2):=by
  refine ⟨fun i hi=>?_,fun i c hi=>?_,ark⟩
  ·obtain ⟨x,hx,hk⟩:=k8 hi
   cases iO:iU ids i with
   |none=>exact ⟨by rw[dq (alO hx iO),hk],xx _ _ hi iO⟩
   |some j=>
    have h1:=gB iO
    obtain ⟨k1,k2⟩:=yT.a8 _ _ iO hi
    obtain ⟨k3,k4⟩:=h'.first.a8 _ k1
    obtain ⟨k5,k6⟩:=FT.a8 _ _ rfl k3
    rw[zd h1] at k5 k6
    exact ⟨k5,by rw[k6,k4,k2]⟩
  ·obtain ⟨x,hx,hk⟩:=k8 hi
   cases iO:iU ids i with
   |none=>exact ⟨c,by rw[dq (alO hx iO),hk],Nat.le_refl _,fun _=>xx _ _ hi iO⟩
   |some j=>
    have h1:=gB iO
    have hvb:=FO hR h1 hx
    have hck:x.ver=c:=by
     cases x with
     |a8 _ _=>cases hk
     |own _ _ _=>cases hk;rfl
     |gone _=>cases hk;rfl
    obtain ⟨y,y1,_,y3⟩:=xu hR h1
    rw[hx] at y1;cases y1
    have k1:kd (hY ids xs) j=some (.own 0):=by rw[dq y3,Item.jW,hk];rfl
    have k2:βc.h j=β.h i:=hch h1
    obtain ⟨c',k3,k4,k4'⟩:=h'.first.own _ _ k1
    have hg:yS ids id j=i:=zd h1
    obtain ⟨z,z1,z2⟩:=k8 k3
    have k5:kd hp2 i=some (.own (c'+c)):=by
     have:=xw.fwd _ _ z1
     rw[hg] at this
     rw[dq this,Item.jW,z2,hg,hvb,hck];rfl
    have k6:β2.h i=βr.h j:=by rw[← hg];exact su _ _ (xw.live _ _ z1)
    exact ⟨c'+c,k5,by omega,fun e1=>by rw[k6,k4' (by omega),k2]⟩
 have hgo: ∀ {j y b},Zb[j]? =some (some y)→(cx β2 (y.bk (yS ids id) (oH ids xs) j) (yS ids id j) b↔cx βr y j b):=fun hj=>cx.cf (su _ _ (xw.live _ _ hj)) (su _ _ (xw.live _ _ hj))
 have huo: ∀ {i x b},hp[i]? =some (some x)→iU ids i=none→(cx β2 x i b↔cx β x i b):=fun hi Je=>cx.congr (xx _ _ (dq hi) Je) (xx _ _ (dq hi) Je)
 have aad: ∀ {j y b},Zb[j]? =some (some y)→cx βr y j b→w.heap.size≤b∨my hp β ids b:=fun hj ho=>(h'.own _ _ _ hj ho).imp (fun h=>h) fun ⟨y,k⟩=>qE (own:=my hp β ids) (w:=w) (lent:=lent) hR (FR.symm▸⟨_,y,k⟩)
 have A6: ∀ {i z},hp2[i]? =some (some z)→(∃ j y,Zb[j]? =some (some y)∧i=yS ids id j∧z=y.bk (yS ids id) (oH ids xs) j)∨(hp[i]? =some (some z)∧iU ids i=none):=by
  intro i z hi
  rcases xw.bwd i z hi with ⟨j,y,h1,h2⟩|h1
  ·have:=xw.fwd j y h1
   rw[h2,hi] at this
   exact .inl ⟨j,y,h1,h2.symm,by simpa using this⟩
  ·exact .inr h1
 have S6: ∀ {b},fk hp2 β2 b→fk Zb βr b∨ ∃ i x,hp[i]? =some (some x)∧iU ids i=none∧cx β x i b:=by
  rintro b ⟨i,z,hi,ho⟩
  rcases A6 hi with ⟨j,y,h1,rfl,rfl⟩|⟨h1,h2⟩
  ·exact .inl ⟨j,y,h1,(hgo h1).1 ho⟩
  ·exact .inr ⟨i,z,h1,h2,(huo h1 h2).1 ho⟩
 refine ⟨r.cf (.bwd (yS ids id) (oH ids xs)),FQ (yS ids id) (oH ids xs) d,val,β2,hq,rfl,?_,?_⟩
 ·rw[anz]
  exact LV.fU FT (fun e1=>(hnr e1).1) Nm
 rw[anz]
 refine ⟨fun i z hi=>?_,fun i k x y b hi hk h1 h2=>?_,rK,fun i z b hi ho=>?_,h'.os,h'.output,h'.size,fun b hb avw=>?_,fun pm v t l hr=>?_,fun pm v t l b hr hb=>?_⟩
 ·rcases A6 hi with ⟨j,y,h1,rfl,rfl⟩|⟨h1,h2⟩
  ·exact eQ.FL FT (fun e1=>xw.nr e1 _ _ h1) (fun _=>su _ _ (xw.live _ _ h1)) (fun _ _=>su _ _ (xw.live _ _ h1)) (h'.items j y h1)
  ·exact (hh.items i z h1).of rK (xx _ _ (dq h1) h2) (xx _ _ (dq h1) h2) fun b ho=>aac (FU h1 h2 ho).1 (FU h1 h2 ho).2
 ·rcases A6 hi with ⟨j,y',a1,rfl,rfl⟩|⟨a1,a2⟩<;>rcases A6 hk with ⟨j2,y2,b1,rfl,rfl⟩|⟨b1,b2⟩
  ·rw[h'.inj j j2 y' y2 b a1 b1 ((hgo a1).1 h1) ((hgo b1).1 h2)]
  ·have k1:=FU b1 b2 ((huo b1 b2).1 h2)
   rcases aad a1 ((hgo a1).1 h1) with k2|k2
   ·omega
   ·exact absurd k2 k1.2
  ·have k1:=FU a1 a2 ((huo a1 a2).1 h1)
   rcases aad b1 ((hgo b1).1 h2) with k2|k2
   ·omega
   ·exact absurd k2 k1.2
  ·exact hh.inj i k x y b a1 b1 ((huo a1 a2).1 h1) ((huo b1 b2).1 h2)
 ·rcases A6 hi with ⟨j,y,a1,rfl,rfl⟩|⟨a1,a2⟩
  ·refine (h'.own _ _ _ a1 ((hgo a1).1 ho)).imp (fun h=>h) fun ⟨y2,k1,k2⟩=>?_
   obtain ⟨i',x',e1,e2,_,rfl⟩:=ns hR k1
   rw[zd e1]
   exact ⟨x',e2,(cx.cf (hcb e1) (hch e1)).1 k2⟩
  ·exact .inr ⟨z,a1,(huo a1 a2).1 ho⟩
 ·exact aac hb fun ⟨k,x,k1,k2,_⟩=>avw ⟨k,x,k1,k2⟩
 ·have alP: ∀ {b},(b<w'.heap.size∧ ¬ fk Zb βr b)→(∀ i x,hp[i]? =some (some x)→iU ids i=none→ ¬ cx β x i b)→b<w'.heap.size∧ ¬ fk hp2 β2 b:=by
   rintro b ⟨h1,h2⟩ h3
   refine ⟨h1,fun k=>?_⟩
   rcases S6 k with k|⟨i,x,k1,k2,k3⟩
   ·exact h2 k
   ·exact h3 i x k1 k2 k3
  have arl: ∀ {pm v t l b},(pm=true∨lent=false)→βr.rd pm v t l→inBlock v b→ ∀ i x,hp[i]? =some (some x)→iU ids i=none→ ¬ cx β x i b:=by
   intro pm v t l b Ni hr hb i x hi Je ho
   have fq:=(hh.items i x hi).lt ho
   rcases h'.from_ pm v t l b hr hb with k|⟨kT,v',t',l',k0,k1,k2⟩
   ·omega
   ·have k1':β.rd kT v' t' l':=by
     subst FR
     cases kT with
     |true=>exact k1
     |false=>
      rcases Ni with Ni|Ni
      ·cases k0 Ni
      ·rcases k1 with k1|⟨k1,_⟩
       ·exact k1
       ·rw[Ni] at k1;cases k1
    exact (hh.reads _ _ _ _ k1').2 b k2 |>.2 ⟨i,x,hi,ho⟩
  have anA: ∀ {pm v t l},β.rd pm v t l→bW β2 pm w' v t l∧ ∀ b,inBlock v b→b<w'.heap.size∧ ¬ fk hp2 β2 b:=by
   intro pm v t l hr
   obtain ⟨h1,h2⟩:=hh.reads _ _ _ _ hr
   refine ⟨(h1.of fun b hb fq=>aac fq fun ⟨k,x,k1,k2,_⟩=>(h2 b hb).2 ⟨k,x,k1,k2⟩).mono ark,fun b hb=>?_⟩
   refine ⟨Nat.lt_of_lt_of_le (h2 b hb).1 h'.size,fun k=>?_⟩
   rcases S6 k with ⟨j,y,k1,k2⟩|⟨i,x,k1,k2,k3⟩
   ·rcases aad k1 k2 with k3|⟨i,x,k3,k4,_⟩
    ·have:=(h2 b hb).1;omega
    ·exact (h2 b hb).2 ⟨i,x,k3,k4⟩
   ·exact (h2 b hb).2 ⟨i,x,k1,k3⟩
  cases pm with
  |true=>
   obtain ⟨h1,h2⟩:=h'.reads true v t l hr
   refine ⟨?_,fun b hb=>alP (h2 b hb) (arl (.inl rfl) hr hb)⟩
   obtain ⟨a,n,c,rfl,hn,hc,hz,hrr⟩:=h1
   refine ⟨a,n,c,rfl,hn,hc,hz,fun h0=>?_⟩
   obtain ⟨a0,fo,rfl,k1,k2,k3⟩:=hrr h0
   exact ⟨a0,fo,rfl,k1,k2.imp fun _ _=>t.jn FT.rdt,k3⟩
  |false=>
   have qB:(if lent=true then β.rd false v t l else βr.rd false v t l):=hr
   split at qB
   ·exact anA qB
   ·rename_i SW
    have anB:lent=false:=by simpa using SW
    obtain ⟨h1,h2⟩:=h'.reads false v t l qB
    refine ⟨h1.mono fun pm v t l hr=>?_,fun b hb=>alP (h2 b hb) (arl (.inr anB) qB hb)⟩
    cases pm with
    |true=>exact hr
    |false=>show (if lent=true then _ else _:Prop);rw[if_neg SW];exact hr
 ·have alQ: ∀ {kT v' t' l'},βc.rd kT v' t' l'→(kT=true∨lent=false)→β.rd kT v' t' l':=by
   intro kT v' t' l' k1 Ni
   subst FR
   cases kT with
   |true=>exact k1
   |false=>
    rcases k1 with k1|⟨k1,_⟩
    ·exact k1
    ·rcases Ni with Ni|Ni
     ·cases Ni
     ·rw[Ni] at k1;cases k1
  cases pm with
  |true=>
   rcases h'.from_ true v t l b hr hb with k|⟨kT,v',t',l',k0,k1,k2⟩
   ·exact .inl k
   ·exact .inr ⟨kT,v',t',l',k0,alQ k1 (.inl (k0 rfl)),k2⟩
  |false=>
   have qB:(if lent=true then β.rd false v t l else βr.rd false v t l):=hr
   split at qB
   ·exact .inr ⟨false,v,t,l,(fun h=>h),qB,hb⟩
   ·rename_i SW
    have anB:lent=false:=by simpa using SW
    rcases h'.from_ false v t l b qB hb with k|⟨kT,v',t',l',k0,k1,k2⟩
    ·exact .inl k
    ·exact .inr ⟨kT,v',t',l',k0,alQ k1 (.inr anB),k2⟩
def look (f:FuncId):List (FuncId×au)→Option au
 | []=>none
 |(g,e)::l=>if g=f then some e else look f l
def S7 (tab:List (FuncId×au)):AU:=⟨fun f id args=>match look f tab with
 |some e=>S5 e id args
 |none=> .ret .fail⟩
theorem S8 {P:Program}: ∀ {tab:List (FuncId×au)} {f:FuncId} {e:au},(∀ p∈tab,p.2.Ok P p.1)→look f tab=some e→e.Ok P f
 | [],_,_,_,h=>by cases h
 |(g,e')::l,f,e,hp,h=>by
  simp only[look] at h
  split at h
  ·rename_i hg;subst hg;obtain rfl:=Option.some.inj h;exact hp (g,e') (by simp)
  ·exact S8 (fun p hm=>hp p (List.mem_cons_of_mem _ hm)) h
theorem aae {P:Program} {tab:List (FuncId×au)} (h: ∀ p∈tab,p.2.Ok P p.1):GOk P (S7 tab):=by
 refine ⟨fun f id args hp hf Q hq W al β₀ β w vals hh dG=>?_⟩
 simp only[S7] at hf hq
 split at hq
 ·rename_i e he
  rw[he] at hf
  have oK:=S8 h he
  refine (Z9 oK hf hq hh.self dG).mono ?_
  rintro en w' ⟨v,d,val,β',h1,h2,h3,h4⟩
  exact ⟨v,d,val,β',h1,h2,h3,hh.trans h4,h4.first⟩
 ·exact hq.elim
end Go.Ev
end
