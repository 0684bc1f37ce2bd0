/- What the laws lean on, part 5: a reader of code, plain facts, and what each function gives; no conditions. -/
import Derived.Test.YtjalaohajcpllaaGreatA4
section
set_option linter.unusedVariables false
set_option linter.unusedSimpArgs false
namespace Go.Ev
open Go
def il:List Nat→Nat→Option Nat
 | [],_=>none
 |x::l,i=>if x=i then some 0 else (il l i).map (· +1)
theorem gg: ∀ {l:List Nat} {i j:Nat},il l i=some j→l[j]? =some i
 | [],_,_,h=>by cases h
 |x::l,i,j,h=>by
  simp only[il] at h
  split at h
  ·rename_i e;subst e;simp at h;subst h;rfl
  ·obtain ⟨k,hk,rfl⟩:=map_some h
   simpa using gg hk
theorem yA: ∀ {l:List Nat} {i:Nat},i∈l→ ∃ j,il l i=some j
 |x::l,i,h=>by
  simp only[il]
  split
  ·exact ⟨0,rfl⟩
  ·rename_i fR
   obtain ⟨j,hj⟩:=yA (l:=l) (i:=i) (by simpa [Ne.symm fR] using h)
   exact ⟨j+1,by rw[hj];rfl⟩
theorem jr: ∀ {l:List Nat} {j i:Nat},l.Nodup→l[j]? =some i→il l i=some j
 | [],_,_,_,h=>by simp at h
 |x::l,0,i,_,h=>by simp at h;subst h;simp[il]
 |x::l,j+1,i,hn,h=>by
  simp at h
  have hi:i∈l:=List.mem_of_getElem? h
  have fR:x≠i:=fun e=>by subst e;exact (List.nodup_cons.1 hn).1 hi
  simp only[il,if_neg fR,jr (List.nodup_cons.1 hn).2 h];rfl
theorem BP {l:List Nat} {i:Nat} (h:il l i=none):i∉l:=fun hm=>by
 obtain ⟨j,hj⟩:=yA hm;rw[hj] at h;cases h
structure rS where
 f:Nat→Option Nat
 o:Nat→Nat→Option Nat
def SV.bJ (f:rS):SV→SV
 | .ptr b o=>match f.f b with|some j=> .ptr j o|none=> .bQ
 | .uL b base st n z=>match f.f b with|some j=> .uL j base st n z|none=> .bQ
 | .slice b o l c=>match f.f b with|some j=> .slice j o l c|none=> .bQ
 | .sl i v=>match f.f i with|some j=>(match f.o i v with|some u=> .sl j u|none=> .bQ)|none=> .bQ
 | .vw i v w z n=>match f.f i with|some j=>(match f.o i v with|some u=> .vw j u w z n|none=> .bQ)|none=> .bQ
 | .vb b o t m z n=>match f.f b with|some j=> .vb j o t m z n|none=> .bQ
 | .ep s w z g=> .ep (s.bJ f) w z g
 |s=>s
def VV.bJ (f:rS):VV→VV
 | .sc s=> .sc (s.bJ f)
 | .agg l=> .agg (l.map (SV.bJ f))
def LV.bJ (f:rS):LV→LV
 | .one x=> .one (x.bJ f)
 | .cD l=> .cD (l.map (VV.bJ f))
 | .bQ=> .bQ
def Item.bJ (f:rS) (u:Nat→Nat):Item→Item
 | .aZ cells e=> .aZ (cells.map (SV.bJ f)) e
 | .own v t l=> .own (u v) t l
 | .gone v=> .gone (u v)
def SV.refs:SV→List Nat
 | .ptr b _| .uL b _ _ _ _| .slice b _ _ _| .sl b _| .vw b _ _ _ _| .vb b _ _ _ _ _=> [b]
 | .ep s _ _ _=>s.refs
 |_=> []
def VV.refs:VV→List Nat
 | .sc s=>s.refs
 | .agg l=>l.flatMap SV.refs
def LV.refs:LV→List Nat
 | .one x=>x.refs
 | .cD l=>l.flatMap VV.refs
 | .bQ=> []
def Item.refs:Item→List Nat
 | .aZ cells _=>cells.flatMap SV.refs
 |_=> []
def SV.nr:SV→Bool
 | .rd pm _ _ _=>pm
 | .ep s _ _ _=>s.nr
 |_=>true
def VV.nr:VV→Bool
 | .sc s=>s.nr
 | .agg l=>l.all SV.nr
def LV.nr:LV→Bool
 | .one x=>x.nr
 | .cD l=>l.all VV.nr
 | .bQ=>true
def Item.nr:Item→Bool
 | .aZ cells _=>cells.all SV.nr
 |_=>true
def Kd.up (u:Nat→Nat):Kd→Kd
 | .aZ=> .aZ
 | .own c=> .own (u c)
theorem Item.js (f:rS) (u:Nat→Nat) (x:Item):(x.bJ f u).kd=x.kd.up u:=by cases x<;>rfl
structure uW (f:rS) (β β':Env) (L L':Nat→Option Kd) (nr:Bool):Prop where
 aZ: ∀ b j,f.f b=some j→L b=some .aZ→L' j=some .aZ∧β'.b j=β.b b
 own: ∀ i j c,f.f i=some j→L i=some (.own c)→ ∃ c',L' j=some (.own c')∧β'.h j=β.h i∧ ∀ v v',v≤c→f.o i v=some v'→v'≤c'∧(v'=c'→v=c)
 rdt: ∀ v t l,β.rd true v t l→β'.rd true v t l
 rdf:nr=false→ ∀ v t l,β.rd false v t l→β'.rd false v t l
section
variable {f:rS} {β β':Env} {L L':Nat→Option Kd} {nr:Bool}
theorem wU.Di (h:uW f β β' L L' nr) {pm:Bool} {v:Value} {t:Ty} {l:List t.D} (hn:nr=true→pm=true) (hr:wU β pm v t l):wU β' pm v t l:=by
 rcases hr with hr|⟨rfl,hr⟩|hr
 ·exact .inl (h.rdt _ _ _ hr)
 ·cases nr with
  |true=>exact absurd (hn rfl) (by simp)
  |false=>exact .inr (.inl ⟨rfl,h.rdf rfl _ _ _ hr⟩)
 ·exact .inr (.inr hr)
theorem Ty.iM (h: ∀ v t l,β.rd true v t l→β'.rd true v t l): ∀ (t:Ty) {x:t.D} {vs:List Value},t.has β true x vs→t.has β' true x vs
 | .int _,_,_,h=>h
 | .bool,_,_,h=>h
 | .uK,_,_,h=>h
 | .str,_,_,h=>h
 | .sl _,_,_,⟨v,h1,h2,h3⟩=>⟨v,h1,h2,by
  rcases h3 with h3|⟨h3,_⟩|h3
  ·exact .inl (h _ _ _ h3)
  ·cases h3
  ·exact .inr (.inr h3)⟩
 | .pair a b,_,_,⟨u,w,h0,h1,h2⟩=>⟨u,w,h0,a.iM h h1,b.iM h h2⟩
 | .arr t _,_,_,⟨h1,h2⟩=>⟨h1,h2.imp fun _ _=>t.iM h⟩
theorem SV.fG (h:uW f β β' L L' nr): ∀ {s:SV} {v:Value},(nr=true→s.nr=true)→s.den β L v→(s.bJ f).den β' L' v
 | .int _ _,_,_,hd=>hd
 | .bool _,_,_,hd=>hd
 | .uK _,_,_,hd=>hd
 | .str _,_,_,hd=>hd
 | .gH _,_,_,hd=>hd
 | .bQ,_,_,hd=>hd
 | .arr _ _ _,_,_,hd=>hd.elim
 | .rd _ _ _ _,_,hn,⟨h1,h2,h3⟩=>⟨h1,h2,h3.Di h hn⟩
 | .ptr b o,v,_,hd=>by
  simp only[SV.bJ]
  split
  ·rename_i j hj
   obtain ⟨k1,k2⟩:=h.aZ b j hj hd.1
   exact ⟨k1,by rw[k2];exact hd.2⟩
  ·exact SV.bl hd
 | .uL b base st n z,v,_,hd=>by
  simp only[SV.bJ]
  split
  ·rename_i j hj
   obtain ⟨k1,k2⟩:=h.aZ b j hj hd.1
   exact ⟨k1,hd.2.1,by rw[k2];exact hd.2.2⟩
  ·exact SV.bl hd
 | .slice b o l c,v,_,hd=>by
  simp only[SV.bJ]
  split
  ·rename_i j hj
   obtain ⟨k1,k2⟩:=h.aZ b j hj hd.1
   exact ⟨k1,by rw[k2];exact hd.2⟩
  ·exact SV.bl hd
 | .sl i ver,v,_,hd=>by
  simp only[SV.bJ]
  split
  ·rename_i j hj
   split
   ·rename_i u hu
    obtain ⟨h1,c,h2,h3,h4⟩:=hd
    obtain ⟨c',k1,k2,k3⟩:=h.own i j c hj h2
    obtain ⟨k4,k5⟩:=k3 ver u h3 hu
    exact ⟨h1,c',k1,k4,fun e=>by rw[k2];exact h4 (k5 e)⟩
   ·exact SV.bl hd
  ·exact SV.bl hd
 | .vw i ver w z n,v,_,hd=>by
  simp only[SV.bJ]
  split
  ·rename_i j hj
   split
   ·rename_i u hu
    obtain ⟨h1,c,h2,h3,h4⟩:=hd
    obtain ⟨c',k1,k2,k3⟩:=h.own i j c hj h2
    obtain ⟨k4,k5⟩:=k3 ver u h3 hu
    exact ⟨h1,c',k1,k4,fun e=>by rw[k2];exact h4 (k5 e)⟩
   ·exact SV.bl hd
  ·exact SV.bl hd
 | .vb b o t m z n,v,_,hd=>by
  simp only[SV.bJ]
  split
  ·rename_i j hj
   obtain ⟨h1,h2⟩:=hd
   obtain ⟨k1,k2⟩:=h.aZ b j hj h1
   exact ⟨k1,by rw[k2];exact h2⟩
  ·exact SV.bl hd
 | .ep s w z g,v,hn,⟨a,n,c,h1,h2⟩=>⟨a,n,c,SV.fG h hn h1,h2⟩
theorem aX.Di (h:uW f β β' L L' nr) {l:List SV} {vs:List Value} (hn:nr=true→l.all SV.nr=true) (hd:aX β L l vs):aX β' L' (l.map (SV.bJ f)) vs:=by
 induction l generalizing vs with
 |nil=>cases hd;exact aO.nil
 |cons s l ih=>
  have hn1:nr=true→s.nr=true:=fun e=>by have:=hn e;simp only[List.all_cons,Bool.and_eq_true] at this;exact this.1
  have hn2:nr=true→l.all SV.nr=true:=fun e=>by have:=hn e;simp only[List.all_cons,Bool.and_eq_true] at this;exact this.2
  cases hd with
  |cons h1 h2=>
   refine aO.cons ?_ (ih hn2 h2)
   cases s with
   |arr t n x=>exact ⟨h1.1,h1.2.imp fun _ _=>t.iM h.rdt⟩
   |_=>
    obtain ⟨v,rfl,h3⟩:=h1
    exact SV.xb (SV.fG h hn1 h3)
theorem VV.fG (h:uW f β β' L L' nr) {s:VV} {v:Value} (hn:nr=true→s.nr=true) (hd:s.den β L v):(s.bJ f).den β' L' v:=by
 cases s with
 |sc s=>exact SV.fG h hn hd
 |agg l=>obtain ⟨cs,rfl,hd⟩:=hd;exact ⟨cs,rfl,aX.Di h hn hd⟩
theorem LV.fG (h:uW f β β' L L' nr) {s:LV} {v:Value} (hn:nr=true→s.nr=true) (hd:s.den β L v):(s.bJ f).den β' L' v:=by
 cases s with
 |one x=>exact VV.fG h hn hd
 |cD l=>
  obtain ⟨vs,rfl,hd⟩:=hd
  refine ⟨vs,rfl,?_⟩
  simp only[LV.nr] at hn
  induction hd with
  |nil=>exact .nil
  |cons h1 h2 ih=>
   exact .cons (VV.fG h (fun e=>by have:=hn e;simp only[List.all_cons,Bool.and_eq_true] at this;exact this.1) h1) (ih fun e=>by have:=hn e;simp only[List.all_cons,Bool.and_eq_true] at this;exact this.2)
 |bQ=>trivial
theorem eA.Di (h:uW f β β' L L' nr) {w:World} {i j:Nat} {x:Item} {u:Nat→Nat} (hn:nr=true→x.nr=true) (hb:x.kd= .aZ→β'.b j=β.b i) (hh: ∀ c,x.kd= .own c→β'.h j=β.h i) (hd:eA β L w i x):eA β' L' w j (x.bJ f u):=by
 cases x with
 |aZ cells e=>
  obtain ⟨c,fz,h1,h2,h3⟩:=hd
  exact ⟨c,fz,by rw[hb rfl];exact h1,h2,aX.Di h hn h3⟩
 |own ver t l=>
  show cU β' w (β'.h j) t l
  rw[hh ver rfl]
  obtain ⟨a,n,c,e,h1,h2,h3,h4⟩:=(hd:cU β w (β.h i) t l)
  refine ⟨a,n,c,e,h1,h2,h3,fun h0=>?_⟩
  obtain ⟨a0,pre,eQ,rest,elem,fz,k0,k1,k2,k3,k4,k5⟩:=h4 h0
  exact ⟨a0,pre,eQ,rest,elem,fz,k0,k1,k2,k3,k4.imp fun _ _=>t.iM h.rdt,k5⟩
 |gone v=>trivial
end
def SV.cur (vb:Nat→Nat):SV→Bool
 | .sl i v| .vw i v _ _ _=>v==vb i
 | .ep s _ _ _=>s.cur vb
 |_=>true
def Item.cur (vb:Nat→Nat):Item→Bool
 | .aZ cells _=>cells.all (SV.cur vb)
 |_=>true
def rS.fwd (f:Nat→Option Nat) (vb:Nat→Nat):rS:=⟨f,fun i v=>if v=vb i then some 0 else none⟩
def rS.bwd (g:Nat→Nat) (vb:Nat→Nat):rS:=⟨fun j=>some (g j),fun j v=>some (v+vb (g j))⟩
theorem BQ {f:Nat→Option Nat} {g vb:Nat→Nat}: ∀ {s:SV},s.cur vb=true→(∀ r∈s.refs,∃ j,f r=some j∧g j=r)→(s.bJ (.fwd f vb)).bJ (.bwd g vb)=s
 | .ptr b o,_,h=>by obtain ⟨j,h1,h2⟩:=h b (by simp[SV.refs]);simp only[SV.bJ,rS.fwd,rS.bwd,h1,h2]
 | .uL b base st n z,_,h=>by obtain ⟨j,h1,h2⟩:=h b (by simp[SV.refs]);simp only[SV.bJ,rS.fwd,rS.bwd,h1,h2]
 | .slice b o l c,_,h=>by obtain ⟨j,h1,h2⟩:=h b (by simp[SV.refs]);simp only[SV.bJ,rS.fwd,rS.bwd,h1,h2]
 | .sl b v,hc,h=>by
  obtain ⟨j,h1,h2⟩:=h b (by simp[SV.refs])
  have e:v=vb b:=by simpa [SV.cur] using hc
  subst e
  simp[SV.bJ,rS.fwd,rS.bwd,h1,h2]
 | .vw b v w z n,hc,h=>by
  obtain ⟨j,h1,h2⟩:=h b (by simp[SV.refs])
  have e:v=vb b:=by simpa [SV.cur] using hc
  subst e
  simp[SV.bJ,rS.fwd,rS.bwd,h1,h2]
 | .vb b o t m z n,_,h=>by obtain ⟨j,h1,h2⟩:=h b (by simp[SV.refs]);simp only[SV.bJ,rS.fwd,rS.bwd,h1,h2]
 | .ep s w z g',hc,h=>by simp only[SV.bJ];rw[BQ (s:=s) hc h]
 | .int _ _,_,_| .bool _,_,_| .uK _,_,_| .str _,_,_| .gH _,_,_| .bQ,_,_| .arr _ _ _,_,_| .rd _ _ _ _,_,_=>rfl
def Item.ver:Item→Nat
 | .aZ _ _=>0
 | .own v _ _| .gone v=>v
theorem QJ {f:Nat→Option Nat} {g vb:Nat→Nat} {x:Item} {i:Nat} (hc:x.cur vb=true) (hv:vb i=x.ver) (h: ∀ r∈x.refs,∃ j,f r=some j∧g j=r):(x.bJ (.fwd f vb) fun _=>0).bJ (.bwd g vb) (· +vb i)=x:=by
 cases x with
 |aZ cells e=>
  have hm:(cells.map (SV.bJ (.fwd f vb))).map (SV.bJ (.bwd g vb))=cells:=by
   rw[List.map_map]
   simp only[Item.cur,List.all_eq_true] at hc
   have:=List.map_congr_left (l:=cells) (f:=SV.bJ (.bwd g vb)∘SV.bJ (.fwd f vb)) (g:=id) fun s hs=>BQ (hc s hs) fun r hr=>h r (by simp only[Item.refs,List.mem_flatMap];exact ⟨s,hs,hr⟩)
   rw[this,List.map_id]
  simp only[Item.bJ,hm]
 |own v t l=>simp only[Item.bJ,Nat.zero_add,hv,Item.ver]
 |gone v=>simp only[Item.bJ,Nat.zero_add,hv,Item.ver]
theorem SV.Ow {f:rS}: ∀ {s:SV},s.nr=true→(s.bJ f).nr=true
 | .ptr b o,_=>by simp only[SV.bJ];split<;>rfl
 | .uL ..,_=>by simp only[SV.bJ];split<;>rfl
 | .slice ..,_=>by simp only[SV.bJ];split<;>rfl
 | .sl ..,_=>by simp only[SV.bJ];split<;>(try split)<;>rfl
 | .vw ..,_=>by simp only[SV.bJ];split<;>(try split)<;>rfl
 | .vb ..,_=>by simp only[SV.bJ];split<;>rfl
 | .ep s w z g,h=>SV.Ow (s:=s) h
 | .int _ _,h| .bool _,h| .uK _,h| .str _,h| .gH _,h| .bQ,h| .arr _ _ _,h| .rd _ _ _ _,h=>h
def qH:Nat→List Nat→List Nat→List Item→Ask (Option (List Nat×List Item))
 |0,_,_,_=> .ret none
 |_+1,[],acc,Kv=> .ret (some (acc,Kv))
 |n+1,i::todo,acc,Kv=>if i∈acc then qH n todo acc Kv else
   .get i fun x=>match x with
    |some x=>qH n (x.refs++todo) (acc++ [i]) (Kv++ [x])
    |none=> .ret none
structure Reached (hp:Hp) (roots acc:List Nat) (Kv:List Item) (todo:List Nat):Prop where
 nodup:acc.Nodup
 len:acc.length=Kv.length
 at_: ∀ (j:Nat) (i:Nat) (x:Item),acc[j]? =some i→Kv[j]? =some x→bd hp i=some x
 refs: ∀ x∈Kv,∀ r∈x.refs,r∈acc∨r∈todo
 root: ∀ r∈roots,r∈acc∨r∈todo
theorem yB {hp:Hp} {roots:List Nat}: ∀ (n:Nat) (todo acc:List Nat) (Kv:List Item) {ids:List Nat} {xs:List Item},Reached hp roots acc Kv todo→(qH n todo acc Kv).val hp=some (ids,xs)→Reached hp roots ids xs []
 |0,_,_,_,_,_,_,h=>by cases h
 |n+1,[],acc,Kv,_,_,hr,h=>by
  simp only[qH,Ask.val] at h
  cases h
  exact hr
 |n+1,i::todo,acc,Kv,ids,xs,hr,h=>by
  simp only[qH] at h
  split at h
  ·rename_i hm
   have hm':i∈acc:=hm
   refine yB n todo acc Kv ⟨hr.nodup,hr.len,hr.at_,fun x hx r o6=>?_,fun r o6=>?_⟩ h
   ·rcases hr.refs x hx r o6 with h1|h1
    ·exact .inl h1
    ·rcases List.mem_cons.1 h1 with rfl|h1
     ·exact .inl hm'
     ·exact .inr h1
   ·rcases hr.root r o6 with h1|h1
    ·exact .inl h1
    ·rcases List.mem_cons.1 h1 with rfl|h1
     ·exact .inl hm'
     ·exact .inr h1
  ·rename_i hm
   have hm':i∉acc:=hm
   simp only[Ask.val] at h
   split at h
   ·rename_i x hx
    refine yB n (x.refs++todo) (acc++ [i]) (Kv++ [x]) ⟨?_,by simp[hr.len],?_,?_,?_⟩ h
    ·rw[List.nodup_append]
     refine ⟨hr.nodup,by simp,fun a ha b hb=>?_⟩
     simp at hb;subst hb
     exact fun e=>hm' (e▸ha)
    ·intro j i' x' h1 h2
     by_cases hj:j<acc.length
     ·rw[List.getElem?_append_left hj] at h1
      rw[List.getElem?_append_left (by rw[← hr.len];exact hj)] at h2
      exact hr.at_ j i' x' h1 h2
     ·rw[List.getElem?_append_right (by omega)] at h1
      rw[List.getElem?_append_right (by rw[← hr.len];omega),← hr.len] at h2
      have hj0:j-acc.length=0:=by
       have:=(List.getElem?_eq_some_iff.1 h1).1
       simpa using this
      rw[hj0] at h1 h2
      simp at h1 h2;subst h1 h2
      exact hx
    ·intro y hy r o6
     rcases List.mem_append.1 hy with hy|hy
     ·rcases hr.refs y hy r o6 with h1|h1
      ·exact .inl (by simp[h1])
      ·rcases List.mem_cons.1 h1 with rfl|h1
       ·exact .inl (by simp)
       ·exact .inr (by simp[h1])
     ·simp at hy;subst hy
      exact .inr (by simp[o6])
    ·intro r o6
     rcases hr.root r o6 with h1|h1
     ·exact .inl (by simp[h1])
     ·rcases List.mem_cons.1 h1 with rfl|h1
      ·exact .inl (by simp)
      ·exact .inr (by simp[h1])
   ·simp[Ask.val] at h
end Go.Ev
end
section
set_option linter.unusedVariables false
set_option linter.unusedSimpArgs false
namespace Go.Ev
open Go
section
variable {W:World} {ah:Hp} {β₀ β:Env} {hp:Hp} {w:World}
theorem Dj {h:Value} {t:Ty} {l:List t.D} (hk:cU β w h t l) {b:Nat} (hb:inBlock h b): ∃ a n c,h= .slice (some a) n c∧0<c∧a.block=b:=by
 obtain ⟨a,n,c,rfl,h1,h2,h3,_⟩:=hk
 cases a with
 |none=>exact hb.elim
 |some a=>exact ⟨a,n,c,rfl,by have:=hb.1;omega,hb.2⟩
theorem aa9 {h v:Value} {k:Nat} {z n:Int} (hs:wi h k z n v) {b:Nat} (hb:inBlock v b):inBlock h b:=by
 obtain ⟨a,m,c,a',c',rfl,z0,n0,hle,rfl,qD,_,ha⟩:=hs
 cases a' with
 |none=>exact hb.elim
 |some a2=>
  have h0:=hb.1
  obtain ⟨a0,rfl,e⟩:=ha (by omega)
  simp at e;subst e
  exact ⟨by omega,by have:=hb.2;rwa [df] at this⟩
theorem Kw (h:aV W ah β₀ β hp w) {t:Ty} {s:SV} {pm:Bool} {l:List t.D} {v:Value} (hc:(ij t s).val hp=some (pm,l)) (hd:s.den β (kd hp) v) {b:Nat} (hb:inBlock v b):
  (b<w.heap.size∧ ¬ eP hp β b)∨ ∃ i x,hp[i]? =some (some x)∧bU β x i b∧i∈s.refs:=by
 unfold ij at hc
 split at hc
 ·exact .inl ((h.afJ hd.2.2).2 b hb)
 ·obtain ⟨_,rfl⟩:=hd
  exact hb.elim
 ·rename_i i ver
  simp only[Ask.val] at hc
  split at hc
  ·rename_i ver' t' l' hi
   split at hc
   ·split at hc
    ·rename_i e;subst e
     obtain ⟨_,hd⟩:=hd
     obtain ⟨h1,rfl⟩:=h.nM (p:=fun x=>v=x) (aw hi) hd
     exact .inr ⟨i,_,aw hi,Dj h1 hb,by simp[SV.refs]⟩
    ·cases hc
   ·cases hc
  ·cases hc
 ·rename_i i ver w' z n
  simp only[Ask.val] at hc
  split at hc
  ·rename_i ver' t' l' hi
   split at hc
   ·split at hc
    ·rename_i e;obtain ⟨rfl,rfl⟩:=e
     obtain ⟨_,hd⟩:=hd
     obtain ⟨h1,h2⟩:=h.nM (p:=fun x=>wi x _ z n v) (aw hi) hd
     exact .inr ⟨i,_,aw hi,Dj h1 (aa9 h2 hb),by simp[SV.refs]⟩
    ·cases hc
   ·cases hc
  ·cases hc
 ·rename_i b' o t' m z n
  simp only[Ask.val] at hc
  split at hc
  ·rename_i cells elem hi
   obtain ⟨_,z0,n0,zn,a',c',rfl,qD,_,ha⟩:=hd
   refine .inr ⟨b',_,aw hi,?_,by simp[SV.refs]⟩
   show b=β.b b'
   cases a' with
   |none=>exact hb.elim
   |some a'=>
    have h0:=hb.1
    have e:=ha (by omega)
    simp at e;subst e
    rw[← hb.2,df]
  ·cases hc
 ·rename_i b' o len cap
  simp only[Ask.val] at hc
  split at hc
  ·rename_i cells elem hi
   obtain ⟨_,rfl⟩:=hd
   exact .inr ⟨b',_,aw hi,hb.2.symm,by simp[SV.refs]⟩
  ·cases hc
 ·simp[Ask.val] at hc
def UA (β:Env) (own:Nat→Prop) (w:World) (v:Value) (t:Ty) (l:List t.D):Prop:=bF β false w v t l∧ ∀ b,inBlock v b→b<w.heap.size∧ ¬ own b
def Env.GV (β:Env) (own:Nat→Prop) (w:World):Env:=⟨β.b,β.h,fun pm v t l=>match pm with
 |true=>β.rd true v t l
 |false=>UA β own w v t l⟩
def GW (β:Env) (own:Nat→Prop) (w:World) (v:Value) (t:Ty) (l:List t.D):Prop:=bF (β.GV own w) false w v t l∧ ∀ b,inBlock v b→b<w.heap.size∧ ¬ own b
def Env.can (β:Env) (own:Nat→Prop) (w:World) (lent:Bool) (ids:List Nat):Env:=⟨fun j=>β.b (ids.getD j 0),fun j=>β.h (ids.getD j 0),fun pm v t l=>match pm with
 |true=>β.rd true v t l
 |false=>β.rd false v t l∨(lent=true∧GW β own w v t l)⟩
theorem aV.GV (h:aV W ah β₀ β hp w) {own:Nat→Prop} (ho: ∀ b,own b→eP hp β b): ∀ pm v t l,β.rd pm v t l→(β.GV own w).rd pm v t l:=by
 intro pm v t l hr
 cases pm with
 |true=>exact hr
 |false=>
  obtain ⟨h1,h2⟩:=h.reads _ _ _ _ hr
  exact ⟨h1,fun b hb=>⟨(h2 b hb).1,fun k=>(h2 b hb).2 (ho b k)⟩⟩
theorem aV.UB (h:aV W ah β₀ β hp w) {own:Nat→Prop} (ho: ∀ b,own b→eP hp β b) {v:Value} {t:Ty} {l:List t.D} (hl:UA β own w v t l):GW β own w v t l:=
 ⟨hl.1.mono (h.GV ho),hl.2⟩
def GX (t:Ty) (s:SV):Ask (Option (List t.D)):=(ij t s).map (·.map (·.2))
theorem GY (h:aV W ah β₀ β hp w) {t:Ty} {s:SV} {l:List t.D} {v:Value} (hc:(GX t s).val hp=some l) (hd:s.den β (kd hp) v) {own:Nat→Prop}
  (ho: ∀ b,own b→ ∃ i x,hp[i]? =some (some x)∧bU β x i b∧i∉s.refs):UA β own w v t l:=by
 unfold GX at hc
 rw[Ask.cy] at hc
 obtain ⟨⟨pm,l'⟩,hc1,he⟩:=map_some hc
 clear hc
 cases he
 have hc:=hc1
 have h1:=lj h hc hd
 have h2:bF β false w v t l':=by
  cases pm with
  |true=>exact h1.Qr
  |false=>exact h1
 refine ⟨h2,fun b hb=>?_⟩
 rcases Kw h hc hd hb with ⟨h3,h4⟩|⟨i,x,h3,h4,h5⟩
 ·refine ⟨h3,fun k=>?_⟩
  obtain ⟨i,x,k1,k2,_⟩:=ho b k
  exact h4 ⟨i,x,k1,k2⟩
 ·refine ⟨(h.items i x h3).lt h4,fun k=>?_⟩
  obtain ⟨j,y,k1,k2,k3⟩:=ho b k
  have:=h.inj i j x y b h3 k1 h4 k2
  subst this
  exact k3 h5
def GZ (t:Ty):List SV→Ask (Option (List (List t.D)))
 | []=> .ret (some [])
 |s::r=>(GX t s).bind fun x=>match x with
  |some l=>(GZ t r).map (·.map (l:: ·))
  |none=> .ret none
theorem G0 (h:aV W ah β₀ β hp w) {t:Ty} {own:Nat→Prop}: ∀ {row:List SV} {ls:List (List t.D)} {vs:List Value},(GZ t row).val hp=some ls→aX β (kd hp) row vs→
  (∀ b,own b→ ∃ i x,hp[i]? =some (some x)∧bU β x i b∧i∉row.flatMap SV.refs)→aO ((Ty.sl t).has (β.GV own w) false) ls vs
 | [],ls,vs,hc,hd,_=>by
  simp[GZ,Ask.val] at hc;subst hc
  cases hd;exact .nil
 |s::row,ls,_,hc,.cons (vs:=us) h1 h2,ho=>by
  simp only[GZ] at hc
  rw[Ask.dB] at hc
  split at hc
  ·rename_i l hl
   rw[Ask.cy] at hc
   obtain ⟨ls',qD,rfl⟩:=map_some hc
   have hs: ∀ t n l,s≠ .arr t n l:=by
    intro t' n l' e;subst e
    simp[GX,ij,Ask.val,Ask.map,Ask.bind] at hl
   obtain ⟨v,rfl,hv⟩:=SV.jd h1 hs
   refine .cons ⟨v,rfl,SV.bl hv,.inr (.inl ⟨rfl,?_⟩)⟩ (G0 h qD h2 fun b hb=>?_)
   ·exact GY h hl hv fun b hb=>by
     obtain ⟨i,x,k1,k2,k3⟩:=ho b hb
     exact ⟨i,x,k1,k2,fun hm=>k3 (by simp[hm])⟩
   ·obtain ⟨i,x,k1,k2,k3⟩:=ho b hb
    exact ⟨i,x,k1,k2,fun hm=>k3 (by rw[List.flatMap_cons];exact List.mem_append_right _ hm)⟩
  ·simp[Ask.val] at hc
def aba (t:Ty) (s:SV):Ask (Option (SV×List Nat)):=
 match t,s with
 | .sl t',.slice b o len cap=> .get b fun x=>match x with
  |some (.aZ cells _)=>match (if len≤cap then Qs cells o len else none) with
   |some row=>(GZ t' row).map (·.map fun ls=>(.rd false false (.sl t') ls,b::row.flatMap SV.refs))
   |none=> .ret none
  |_=> .ret none
 |t,s=>(GX t s).map (·.map fun l=>(.rd false false t l,s.refs))
theorem Ox (h:aV W ah β₀ β hp w) {t:Ty} {s s':SV} {lids:List Nat} {v:Value} (hc:(aba t s).val hp=some (s',lids)) (hd:s.den β (kd hp) v) {own:Nat→Prop}
  (ho: ∀ b,own b→ ∃ i x,hp[i]? =some (some x)∧bU β x i b∧i∉lids): ∃ l,s'= .rd false false t l∧GW β own w v t l:=by
 have kG: ∀ b,own b→eP hp β b:=fun b hb=>let ⟨i,x,h1,h2,_⟩:=ho b hb;⟨i,x,h1,h2⟩
 unfold aba at hc
 split at hc
 ·rename_i t' b o len cap
  simp only[Ask.val] at hc
  split at hc
  ·rename_i cells elem hi
   split at hc
   ·rename_i row iK
    rw[Ask.cy] at hc
    obtain ⟨ls,hl,he⟩:=map_some hc
    cases he
    split at iK
    ·rename_i hlc
     obtain ⟨_,rfl⟩:=hd
     obtain ⟨cs,fz,h1,h2,h3⟩:=h.items _ _ (aw hi)
     obtain ⟨pre,mid,post,rfl,e1,e2,h4⟩:=oV iK h3
     have h5:=G0 h hl h4 (own:=own) fun b hb=>by
      obtain ⟨i,x,k1,k2,k3⟩:=ho b hb
      exact ⟨i,x,k1,k2,fun hm=>k3 (List.mem_cons_of_mem _ hm)⟩
     have hlen:mid.length=ls.length:=by rw[a8 h5];simp[Ty.w]
     subst e1
     refine ⟨ls,rfl,⟨_,_,_,rfl,by omega,hlc,(fun e=>by cases e),fun _=>⟨_,mid,rfl,rfl,h5,dJ h1⟩⟩,fun b' j8=>?_⟩
     have eb:b'=β.b b:=j8.2.symm
     subst eb
     refine ⟨(Array.getElem?_eq_some_iff.1 h1).1,fun k=>?_⟩
     obtain ⟨i,x,k1,k2,k3⟩:=ho _ k
     have:=h.inj i b x _ _ k1 (aw hi) k2 rfl
     subst this
     exact k3 (by simp)
    ·cases iK
   ·simp[Ask.val] at hc
  ·simp[Ask.val] at hc
 ·rw[Ask.cy] at hc
  obtain ⟨l,hl,he⟩:=map_some hc
  cases he
  exact ⟨l,rfl,h.UB kG (GY h hl hd ho)⟩
def anA:SV→Bool
 | .sl _ _| .slice _ _ _ _| .rd _ _ _ _| .vw _ _ _ _ _| .vb _ _ _ _ _ _=>true
 | .gH (.slice none 0 0)=>true
 |_=>false
def iN (t:Ty):List SV→Ask (List SV×List Nat)
 | []=> .ret ([],[])
 |s::r=>if anA s=true then (aba t s).bind fun y=>match y with
   |some (s',b1)=>(iN t r).map fun (l,b)=>(s'::l,b1++b)
   |none=>(iN t r).map fun (l,b)=>(s::l,b)
  else (iN t r).map fun (l,b)=>(s::l,b)
theorem yC (h:aV W ah β₀ β hp w) {f:rS} {βc:Env} {L':Nat→Option Kd} (Qz:uW f β βc (kd hp) L' false) {own:Nat→Prop} {t:Ty} (hl: ∀ v l,GW β own w v t l→βc.rd false v t l):
  ∀ {l l':List SV} {lids:List Nat} {vs:List Value},(iN t l).val hp=(l',lids)→aX β (kd hp) l vs→
   (∀ b,own b→ ∃ i x,hp[i]? =some (some x)∧bU β x i b∧i∉lids)→aX βc L' (l'.map (SV.bJ f)) vs
 | [],l',lids,_,hc,hd,_=>by
  cases hd
  have qD:(([]:List SV),([]:List Nat))=(l',lids):=hc
  cases qD
  exact .nil
 |s::r,l',lids,_,hc,.cons (vs:=vs) h1 h2,ho=>by
  have same: ∀ {l':List SV} {lids:List Nat},((iN t r).map fun (l,b)=>(s::l,b)).val hp=(l',lids)→(∀ b,own b→ ∃ i x,hp[i]? =some (some x)∧bU β x i b∧i∉lids)→aX βc L' (l'.map (SV.bJ f)) (vs++_):=fun {l' lids} hc ho=>by
   rw[Ask.cy] at hc
   have e1:l'=s::((iN t r).val hp).1:=(congrArg Prod.fst hc).symm
   have e2:lids=((iN t r).val hp).2:=(congrArg Prod.snd hc).symm
   subst e1
   rw[e2] at ho
   have ih:=yC h Qz hl (l:=r) (l':=((iN t r).val hp).1) (lids:=((iN t r).val hp).2) rfl h2 ho
   have hs:aX βc L' ([s].map (SV.bJ f)) (vs++ []):=aX.Di Qz (by simp) (aO.cons h1 aO.nil)
   rw[List.append_nil] at hs
   exact hs.append ih
  simp only[iN] at hc
  split at hc
  ·rename_i jF
   rw[Ask.dB] at hc
   split at hc
   ·rename_i s' b1 hs
    rw[Ask.cy] at hc
    have e1:l'=s'::((iN t r).val hp).1:=(congrArg Prod.fst hc).symm
    have e2:lids=b1++((iN t r).val hp).2:=(congrArg Prod.snd hc).symm
    subst e1
    rw[e2] at ho
    have hna: ∀ t n l,s≠ .arr t n l:=fun _ _ _ e=>by subst e;cases jF
    obtain ⟨v,rfl,hv⟩:=SV.jd h1 hna
    obtain ⟨l2,rfl,h3⟩:=Ox h hs hv (own:=own) fun b hb=>by
     obtain ⟨i,x,k1,k2,k3⟩:=ho b hb
     exact ⟨i,x,k1,k2,fun hm=>k3 (List.mem_append_left _ hm)⟩
    refine .cons (vs:= [v]) ⟨v,rfl,SV.bl hv,(fun e=>by cases e),.inr (.inl ⟨rfl,hl _ _ h3⟩)⟩ (yC h Qz hl (l:=r) (l':=((iN t r).val hp).1) (lids:=((iN t r).val hp).2) rfl h2 fun b hb=>?_)
    obtain ⟨i,x,k1,k2,k3⟩:=ho b hb
    exact ⟨i,x,k1,k2,fun hm=>k3 (List.mem_append_right _ hm)⟩
   ·exact same hc ho
  ·exact same hc ho
def eR:List (Option Ty)→List LV→Ask (Option (List LV×List Nat))
 |_,[]=> .ret (some ([],[]))
 | [],x::xs=>(eR [] xs).map (·.map fun (l,b)=>(x::l,b))
 |none::ts,x::xs=>(eR ts xs).map (·.map fun (l,b)=>(x::l,b))
 |some t::ts,.one (.sc s)::xs=>(aba t s).bind fun y=>match y with
  |some (s',b1)=>(eR ts xs).map (·.map fun (l,b)=>(.one (.sc s')::l,b1++b))
  |none=> .ret none
 |some t::ts,.one (.agg l)::xs=>(iN t l).bind fun y=>(eR ts xs).map (·.map fun (r,b)=>(.one (.agg y.1)::r,y.2++b))
 |some _::_,_=> .ret none
theorem iO (h:aV W ah β₀ β hp w) {f:rS} {βc:Env} {L':Nat→Option Kd} (Qz:uW f β βc (kd hp) L' false) {own:Nat→Prop}:
  ∀ {ts:List (Option Ty)} {xs cs:List LV} {lids:List Nat} {vs:List Value},(eR ts xs).val hp=some (cs,lids)→bB (LV.den β (kd hp)) xs vs→
   (∀ t,some t∈ts→ ∀ v l,GW β own w v t l→βc.rd false v t l)→
   (∀ b,own b→ ∃ i x,hp[i]? =some (some x)∧bU β x i b∧i∉lids)→bB (LV.den βc L') (cs.map (LV.bJ f)) vs
 |ts,[],cs,lids,_,hc,hd,_,_=>by
  cases hd
  have qD:some (([]:List LV),([]:List Nat))=some (cs,lids):=by
   cases ts with
   |nil=>exact hc
   |cons a b=>cases a<;>exact hc
  cases qD
  exact .nil
 | [],x::xs,_,_,_,hc,.cons h1 h2,hl,ho=>by
  simp only[eR] at hc
  rw[Ask.cy] at hc
  obtain ⟨⟨l,b⟩,qD,he⟩:=map_some hc
  cases he
  exact .cons (LV.fG Qz (by simp) h1) (iO h Qz qD h2 hl ho)
 |none::ts,x::xs,_,_,_,hc,.cons h1 h2,hl,ho=>by
  simp only[eR] at hc
  rw[Ask.cy] at hc
  obtain ⟨⟨l,b⟩,qD,he⟩:=map_some hc
  cases he
  exact .cons (LV.fG Qz (by simp) h1) (iO h Qz qD h2 (fun t ht=>hl t (List.mem_cons_of_mem _ ht)) ho)
 |some t::ts,x::xs,_,_,_,hc,.cons h1 h2,hl,ho=>by
  cases x with
  |one x=>
   cases x with
   |sc s=>
    simp only[eR] at hc
    rw[Ask.dB] at hc
    split at hc
    ·rename_i s' b1 hs
     rw[Ask.cy] at hc
     obtain ⟨⟨l,b⟩,qD,he⟩:=map_some hc
     cases he
     obtain ⟨l',rfl,h3⟩:=Ox h hs h1 (own:=own) fun b hb=>by
      obtain ⟨i,x,k1,k2,k3⟩:=ho b hb
      exact ⟨i,x,k1,k2,fun hm=>k3 (List.mem_append_left _ hm)⟩
     refine .cons ⟨SV.bl h1,(fun e=>by cases e),.inr (.inl ⟨rfl,hl t (by simp) _ _ h3⟩)⟩ (iO h Qz qD h2 (fun t ht=>hl t (List.mem_cons_of_mem _ ht)) fun b hb=>?_)
     obtain ⟨i,x,k1,k2,k3⟩:=ho b hb
     exact ⟨i,x,k1,k2,fun hm=>k3 (List.mem_append_right _ hm)⟩
    ·simp[Ask.val] at hc
   |agg l=>
    simp only[eR] at hc
    rw[Ask.dB,Ask.cy] at hc
    obtain ⟨⟨l',b⟩,qD,he⟩:=map_some hc
    cases he
    obtain ⟨cells,rfl,h3⟩:=h1
    refine .cons ⟨cells,rfl,yC h Qz (fun v l h=>hl t (by simp) v l h) (l:=l) (l':=((iN t l).val hp).1) (lids:=((iN t l).val hp).2) rfl h3 fun b hb=>?_⟩ (iO h Qz qD h2 (fun t ht=>hl t (List.mem_cons_of_mem _ ht)) fun b hb=>?_)
    ·obtain ⟨i,x,k1,k2,k3⟩:=ho b hb
     exact ⟨i,x,k1,k2,fun hm=>k3 (List.mem_append_left _ hm)⟩
    ·obtain ⟨i,x,k1,k2,k3⟩:=ho b hb
     exact ⟨i,x,k1,k2,fun hm=>k3 (List.mem_append_right _ hm)⟩
  |cD l=>simp[eR,Ask.val] at hc
  |bQ=>simp[eR,Ask.val] at hc
theorem bU.bJ {f:rS} {u:Nat→Nat} {β β':Env} {x:Item} {i j b:Nat} (hb:β'.b j=β.b i) (hh:β'.h j=β.h i):bU β' (x.bJ f u) j b↔bU β x i b:=by
 cases x<;>simp only[Item.bJ,bU,hb,hh]
def nv (ids:List Nat) (xs:List Item) (i:Nat):Nat:=match il ids i with
 |some j=>match xs[j]? with
  |some x=>x.ver
  |none=>0
 |none=>0
abbrev wF (ids:List Nat) (xs:List Item):rS:= .fwd (il ids) (nv ids xs)
def gK (ids:List Nat) (xs:List Item):Hp:=xs.map fun x=>some (x.bJ (wF ids xs) fun _=>0)
theorem mh {roots ids:List Nat} {xs:List Item} (hr:Reached hp roots ids xs []) {j:Nat} {y:Item} (h:(gK ids xs)[j]? =some (some y)): ∃ i x,ids[j]? =some i∧hp[i]? =some (some x)∧xs[j]? =some x∧y=x.bJ (wF ids xs) fun _=>0:=by
 unfold gK at h
 rw[List.getElem?_map] at h
 obtain ⟨x,hx,he⟩:=map_some h
 simp at he;subst he
 have hj:j<ids.length:=by rw[hr.len];exact (List.getElem?_eq_some_iff.1 hx).1
 have hi:ids[j]? =some ids[j]:=List.getElem?_eq_getElem hj
 exact ⟨_,x,hi,aw (hr.at_ _ _ _ hi hx),hx,rfl⟩
theorem uX {roots ids:List Nat} {xs:List Item} (hr:Reached hp roots ids xs []) {i j:Nat} (h:ids[j]? =some i): ∃ x,hp[i]? =some (some x)∧xs[j]? =some x∧(gK ids xs)[j]? =some (some (x.bJ (wF ids xs) fun _=>0)):=by
 have hj:j<xs.length:=by rw[← hr.len];exact (List.getElem?_eq_some_iff.1 h).1
 have hx:xs[j]? =some xs[j]:=List.getElem?_eq_getElem hj
 refine ⟨_,aw (hr.at_ _ _ _ h hx),hx,?_⟩
 unfold gK
 rw[List.getElem?_map,hx];rfl
theorem Dk {roots ids:List Nat} {xs:List Item} (hr:Reached hp roots ids xs []) {i j:Nat} (h:ids[j]? =some i) {x:Item} (hx:hp[i]? =some (some x)):nv ids xs i=x.ver:=by
 obtain ⟨y,h1,h2,_⟩:=uX hr h
 rw[hx] at h1;cases h1
 simp only[nv,jr hr.nodup h,h2]
def lu (hp:Hp) (β:Env) (ids:List Nat) (b:Nat):Prop:= ∃ i x,hp[i]? =some (some x)∧bU β x i b∧i∈ids
theorem fU {l:List Nat} {j i:Nat} (h:l[j]? =some i):l.getD j 0=i:=by rw[List.getD_eq_getElem?_getD,h];rfl
theorem o9 {roots ids:List Nat} {xs:List Item} (hr:Reached hp roots ids xs []) {own:Nat→Prop} {lent:Bool} {b:Nat} (h:eP (gK ids xs) (β.can own w lent ids) b):lu hp β ids b:=by
 obtain ⟨j,y,hj,ho⟩:=h
 obtain ⟨i,x,h1,h2,_,rfl⟩:=mh hr hj
 refine ⟨i,x,h2,?_,List.mem_of_getElem? h1⟩
 exact (bU.bJ (by show β.b _=_;rw[fU h1]) (by show β.h _=_;rw[fU h1])).1 ho
theorem G1 {roots ids:List Nat} {xs:List Item} (hr:Reached hp roots ids xs []) {own:Nat→Prop} {lent:Bool}:uW (wF ids xs) β (β.can own w lent ids) (kd hp) (kd (gK ids xs)) false:=by
 refine ⟨fun b j hj hb=>?_,fun i j c hj hi=>?_,fun v t l h=>h,fun _ v t l h=> .inl h⟩
 ·have h1:=gg hj
  obtain ⟨x,h2,h3,h4⟩:=uX hr h1
  refine ⟨?_,by show β.b _=_;rw[fU h1]⟩
  rw[cT h2] at hb
  rw[cT h4,Item.js,Option.some.inj hb];rfl
 ·have h1:=gg hj
  obtain ⟨x,h2,h3,h4⟩:=uX hr h1
  rw[cT h2] at hi
  have hk:=Option.some.inj hi
  refine ⟨0,?_,by show β.h _=_;rw[fU h1],fun v v' _ hv=>?_⟩
  ·rw[cT h4,Item.js,hk];rfl
  ·have QC:(if v=nv ids xs i then some 0 else none)=some v':=hv
   split at QC
   ·rename_i e
    cases QC
    refine ⟨Nat.le_refl _,fun _=>?_⟩
    rw[e,Dk hr h1 h2]
    cases x with
    |aZ _ _=>cases hk
    |own _ _ _=>cases hk;rfl
    |gone _=>cases hk;rfl
   ·cases QC
theorem abb (h:aV W ah β₀ β hp w) {roots ids:List Nat} {xs:List Item} (hr:Reached hp roots ids xs []) {lent:Bool}:
  aV w (gK ids xs) (β.can (lu hp β ids) w lent ids) (β.can (lu hp β ids) w lent ids) (gK ids xs) w:=by
 have kG: ∀ b,lu hp β ids b→eP hp β b:=fun b ⟨i,x,h1,h2,_⟩=>⟨i,x,h1,h2⟩
 refine ⟨fun j y hj=>?_,fun j k y z b hj hk h1 h2=>?_,bD.refl _ _,fun i x b hi ho=> .inr ⟨x,hi,ho⟩,rfl,rfl,Nat.le_refl _,fun _ _ _=>rfl,fun pm v t l ny=>?_,fun pm v t l b h1 h2=> .inr ⟨pm,v,t,l,id,h1,h2⟩⟩
 ·obtain ⟨i,x,h1,h2,_,rfl⟩:=mh hr hj
  refine eA.Di (G1 hr) (by simp) (fun _=>?_) (fun _ _=>?_) (h.items i x h2)
  ·show β.b _=_;rw[fU h1]
  ·show β.h _=_;rw[fU h1]
 ·obtain ⟨i1,x1,a1,a2,_,rfl⟩:=mh hr hj
  obtain ⟨i2,x2,b1,b2,_,rfl⟩:=mh hr hk
  have e:=h.inj i1 i2 x1 x2 b a2 b2 ((bU.bJ (by show β.b _=_;rw[fU a1]) (by show β.h _=_;rw[fU a1])).1 h1) ((bU.bJ (by show β.b _=_;rw[fU b1]) (by show β.h _=_;rw[fU b1])).1 h2)
  subst e
  have e1:=jr hr.nodup a1
  have e2:=jr hr.nodup b1
  rw[e1] at e2;exact Option.some.inj e2
 ·have Uz: ∀ pm v t l,β.rd pm v t l→(β.can (lu hp β ids) w lent ids).rd pm v t l:=by
   intro pm v t l hr
   cases pm with
   |true=>exact hr
   |false=>exact .inl hr
  have hold: ∀ pm v t l,β.rd pm v t l→bF (β.can (lu hp β ids) w lent ids) pm w v t l∧ ∀ b,inBlock v b→b<w.heap.size∧ ¬ eP (gK ids xs) (β.can (lu hp β ids) w lent ids) b:=by
   intro pm v t l ny
   obtain ⟨h1,h2⟩:=h.reads _ _ _ _ ny
   exact ⟨h1.mono Uz,fun b hb=>⟨(h2 b hb).1,fun k=>(h2 b hb).2 (kG b (o9 hr k))⟩⟩
  cases pm with
  |true=>exact hold true v t l ny
  |false=>
   rcases ny with ny|⟨hl,h1,h2⟩
   ·exact hold false v t l ny
   ·refine ⟨h1.mono fun pm v t l hr=>?_,fun b hb=>⟨(h2 b hb).1,fun k=>(h2 b hb).2 (o9 hr k)⟩⟩
    cases pm with
    |true=>exact hr
    |false=>exact .inr ⟨hl,h.UB kG hr⟩
end
abbrev Item.bk (g vb:Nat→Nat) (j:Nat) (x:Item):Item:=x.bJ (.bwd g vb) (· +vb (g j))
def Dl (g vb:Nat→Nat) (d:List (Nat×Item)):List (Nat×Item):=d.map fun (j,x)=>(g j,x.bk g vb j)
theorem G2 {g vb:Nat→Nat} {d:List (Nat×Item)} {i:Nat} {y:Item}:(i,y)∈Dl g vb d↔ ∃ j x,(j,x)∈d∧i=g j∧y=x.bk g vb j:=by
 unfold Dl
 rw[List.mem_map]
 constructor
 ·rintro ⟨⟨j,x⟩,h,e⟩
  simp at e;exact ⟨j,x,h,e.1.symm,e.2.symm⟩
 ·rintro ⟨j,x,h,rfl,rfl⟩
  exact ⟨(j,x),h,rfl⟩
structure Mir (g vb:Nat→Nat) (J U:Nat→Prop) (lent:Bool) (Gs hpc hp:Hp):Prop where
 live: ∀ (j:Nat) (y:Item),hpc[j]? =some (some y)→J j
 fwd: ∀ (j:Nat) (y:Item),hpc[j]? =some (some y)→hp[g j]? =some (some (y.bk g vb j))
 bwd: ∀ (i:Nat) (x:Item),hp[i]? =some (some x)→(∃ (j:Nat) (y:Item),hpc[j]? =some (some y)∧g j=i)∨(Gs[i]? =some (some x)∧U i)
 nr:lent=true→ ∀ (j:Nat) (y:Item),hpc[j]? =some (some y)→y.nr=true
theorem BR {g vb:Nat→Nat} {J U:Nat→Prop} {lent:Bool} {Gs:Hp} (QK: ∀ j k,J j→J k→g j=g k→j=k):
  ∀ (d:List (Nat×Item)) {hpc hp:Hp},(∀ j x,(j,x)∈d→J j)→(lent=true→d.all (fun p=>p.2.nr)=true)→Mir g vb J U lent Gs hpc hp→Mir g vb J U lent Gs (aE d hpc) (aE (Dl g vb d) hp)
 | [],_,_,_,_,h=>h
 |(j,x)::d,hpc,hp,hJ,hn,h=>by
  refine BR QK d (hpc:=setAt hpc j x) (hp:=setAt hp (g j) (x.bk g vb j)) (fun j' x' hm=>hJ j' x' (List.mem_cons_of_mem _ hm)) (fun e=>by have:=hn e;simp only[List.all_cons,Bool.and_eq_true] at this;exact this.2) ?_
  have hj:J j:=hJ j x (by simp)
  refine ⟨fun k y hk=>?_,fun k y hk=>?_,fun i z hi=>?_,fun e k y hk=>?_⟩
  ·by_cases hkj:k=j
   ·exact hkj▸hj
   ·exact h.live k y ((bY hpc j x k y hkj).1 hk)
  ·by_cases hkj:k=j
   ·subst hkj
    rw[cZ] at hk;simp at hk;subst hk
    exact cZ _ _ _
   ·have na:=(bY hpc j x k y hkj).1 hk
    have fR:g k≠g j:=fun e=>hkj (QK k j (h.live k y na) hj e)
    exact (bY hp (g j) _ (g k) _ fR).2 (h.fwd k y na)
  ·by_cases hij:i=g j
   ·subst hij
    exact .inl ⟨j,x,cZ _ _ _,rfl⟩
   ·rcases h.bwd i z ((bY hp (g j) _ i z hij).1 hi) with ⟨k,y,hk,e⟩|k
    ·refine .inl ⟨k,y,(bY hpc j x k y fun e'=>hij ?_).2 hk,e⟩
     rw[← e,e']
    ·exact .inr k
  ·by_cases hkj:k=j
   ·subst hkj
    rw[cZ] at hk;simp at hk;subst hk
    have:=hn e;simp only[List.all_cons,Bool.and_eq_true] at this;exact this.1
   ·exact h.nr e k y ((bY hpc j x k y hkj).1 hk)
structure ao where
 tys:List (Option Ty)
 run:List LV→Hp→Out
def UC (P:Program) (f:FuncId) (args:List LV) (hp:Hp) (R:LV→Hp→Prop):Prop:=
 ∀ (β:Env) (w:World) (vals:List Value),aV w hp β β hp w→bB (LV.den β (kd hp)) args vals→
  QB P f vals.toArray w fun e w'=> ∃ val β' r dX,e= .returned val∧R r dX∧r.den β' (kd dX) val∧aV w hp β β' dX w'
theorem gq.done {P:Program} {f:FuncId} (he:uV P f) {args:List LV} {hp:Hp} {R:LV→Hp→Prop} (h:gq P f args hp R):UC P f args hp R:=
 fun β w vals hh ha=> .inr ⟨he,h β w vals hh ha⟩
structure ao.Ok (P:Program) (f:FuncId) (e:ao):Prop where
 calls: ∀ args hp Q,(e.run args hp).holds Q→UC P f args hp fun v dX=> ∃ d,Q v d∧dX=aE d hp
def Out.back (g vb:Nat→Nat) (lent:Bool):Out→Out
 | .leaf q v d=>if lent=true∧(v.nr&&d.all fun p=>p.2.nr)=false then .fail else .leaf q (v.bJ (.bwd g vb)) (Dl g vb d)
 | .ite b x y=> .ite b (x.back g vb lent) (y.back g vb lent)
 | .fail=> .fail
theorem qI {g vb:Nat→Nat} {lent:Bool} {id:Nat} {hp:Hp} {Q:LV→List (Nat×Item)→Prop}: ∀ {o:Out},(o.back g vb lent).fresh id hp→(o.back g vb lent).holds Q→
  o.holds fun v d=>(lent=true→v.nr=true∧(d.all fun p=>p.2.nr)=true)∧Oq id hp (Dl g vb d)∧Q (v.bJ (.bwd g vb)) (Dl g vb d)
 | .leaf q v d,hf,h=>by
  simp only[Out.back] at hf h
  split at h
  ·exact h.elim
  ·rename_i hc
   rw[if_neg hc] at hf
   refine ⟨h.1,fun e=>?_,hf,h.2⟩
   have:(v.nr&&d.all fun p=>p.2.nr)=true:=by
    cases hx:(v.nr&&d.all fun p=>p.2.nr) with
    |true=>rfl
    |false=>exact absurd ⟨e,hx⟩ hc
   simpa using this
 | .ite b x y,hf,h=>⟨fun e=>qI hf.1 (h.1 e),fun e=>qI hf.2 (h.2 e)⟩
 | .fail,_,h=>h
def wG (ids:List Nat) (id:Nat) (j:Nat):Nat:=match ids[j]? with
 |some i=>i
 |none=>id+(j-ids.length)
def Oy (e:ao) (id:Nat) (args:List LV):Ask Out:=
 (eR e.tys args).bind fun x=>match x with
 |none=> .ret .fail
 |some (G3,lids)=>(qH 1000 (G3.flatMap LV.refs) [] []).bind fun y=>match y with
  |none=> .ret .fail
  |some (ids,xs)=>
   if lids.any (fun i=>decide (i∈ids))=true∨(e.tys.any (·.isSome)=true∧xs.all Item.nr=false) then .ret .fail
   else if xs.all (Item.cur (nv ids xs))=false then .ret .fail
   else .ret ((e.run (G3.map (LV.bJ (wF ids xs))) (gK ids xs)).back (wG ids id) (nv ids xs) (e.tys.any (·.isSome)))
section
variable {α:Type}
def qJ (hp:Hp) (ids:List Nat) (id:Nat) (F F0:Nat→α) (i:Nat):α:=match il ids i with
 |some j=>F j
 |none=>if kd hp i=none∧id≤i then F (ids.length+(i-id)) else F0 i
end
theorem UD {P:Program} {f:FuncId} {e:ao} (he:e.Ok P f) {id:Nat} {args:List LV} {hp:Hp} (hf:((Oy e id args).val hp).fresh id hp) {Q:LV→List (Nat×Item)→Prop} (h:((Oy e id args).val hp).holds Q)
  {β:Env} {w:World} {vals:List Value} (hh:aV w hp β β hp w) (dc:bB (LV.den β (kd hp)) args vals):
  QB P f vals.toArray w fun e w'=> ∃ v d val β',Q v d∧e= .returned val∧v.den β' (kd (aE d hp)) val∧aV w hp β β' (aE d hp) w':=by
 unfold Oy at h hf
 rw[Ask.dB] at h hf
 split at h
 ·exact h.elim
 rename_i G3 lids hl
 rw[hl] at hf
 simp only at hf
 rw[Ask.dB] at h hf
 split at h
 ·exact h.elim
 rename_i ids xs UE
 rw[UE] at hf
 simp only at hf
 split at h
 ·exact h.elim
 rename_i rD
 rw[if_neg rD] at hf
 split at h
 ·exact h.elim
 rename_i hcu
 rw[if_neg hcu] at hf
 have anD:xs.all (Item.cur (nv ids xs))=true:=by simpa using hcu
 simp only[Ask.val] at h hf
 have Ko: ∀ i∈lids,i∉ids:=fun i hi hm=>rD (.inl (by rw[List.any_eq_true];exact ⟨i,hi,by simpa using hm⟩))
 have anE:e.tys.any (·.isSome)=true→xs.all Item.nr=true:=fun e1=>by
  cases hx:xs.all Item.nr with
  |true=>rfl
  |false=>exact absurd (.inr ⟨e1,hx⟩) rD
 have ajy: ∀ t,some t∈e.tys→e.tys.any (·.isSome)=true:=fun t ht=>by rw[List.any_eq_true];exact ⟨_,ht,rfl⟩
 generalize e.tys.any (·.isSome)=lent at*
 have hR:Reached hp (G3.flatMap LV.refs) ids xs []:=yB 1000 _ [] [] ⟨List.nodup_nil,rfl,fun _ _ _ h=>by simp at h,fun _ h=>by simp at h,fun r h=> .inr h⟩ UE
 generalize Dm:β.can (lu hp β ids) w lent ids=βc
 have anF:aV w (gK ids xs) βc βc (gK ids xs) w:=Dm▸abb hh hR
 have wH:uW (wF ids xs) β βc (kd hp) (kd (gK ids xs)) false:=Dm▸G1 hR
 have hcb: ∀ {j i},ids[j]? =some i→βc.b j=β.b i:=fun hj=>by subst Dm;show β.b _=_;rw[fU hj]
 have hch: ∀ {j i},ids[j]? =some i→βc.h j=β.h i:=fun hj=>by subst Dm;show β.h _=_;rw[fU hj]
 have af8:bB (LV.den βc (kd (gK ids xs))) (G3.map (LV.bJ (wF ids xs))) vals:=by
  refine iO hh wH (own:=lu hp β ids) hl dc (fun t ht v l fD=>?_) fun b ⟨i,x,h1,h2,h3⟩=>⟨i,x,h1,h2,fun hm=>Ko i hm h3⟩
  subst Dm
  exact .inr ⟨ajy t ht,fD⟩
 refine (he.calls _ _ _ (qI hf h) βc w vals anF af8).mono ?_
 rintro en w' ⟨val,βr,r,dX,rfl,⟨d,⟨hnr,af9,hq⟩,rfl⟩,Kk,h'⟩
 have wW: ∀ {j i},ids[j]? =some i→wG ids id j=i:=fun hj=>by simp only[wG,hj]
 have G4: ∀ {j:Nat},ids.length≤j→wG ids id j=id+(j-ids.length):=by
  intro j hj
  have:ids[j]? =none:=List.getElem?_eq_none hj
  simp only[wG,this]
 have hlen:(gK ids xs).length=ids.length:=by simp[gK,hR.len]
 have jG: ∀ {j x},(j,x)∈d→ids.length≤j→kd hp (wG ids id j)=none:=fun hm hj=>af9 _ _ (G2.2 ⟨_,_,hm,rfl,rfl⟩) (by rw[G4 hj];omega)
 let J:Nat→Prop:=fun j=>j<ids.length∨ ∃ x,(j,x)∈d
 let U:Nat→Prop:=fun i=>il ids i=none
 have UF: ∀ {j i},ids[j]? =some i→kd hp i≠none:=fun hj e=>by
  obtain ⟨x,h1,_⟩:=uX hR hj
  rw[cT h1] at e;cases e
 have QK: ∀ j k,J j→J k→wG ids id j=wG ids id k→j=k:=by
  intro j k hj hk e
  by_cases h1:j<ids.length<;>by_cases h2:k<ids.length
  ·have e1:=List.getElem?_eq_getElem h1
   have e2:=List.getElem?_eq_getElem h2
   rw[wW e1,wW e2] at e
   have k1:=jr hR.nodup e1
   have k2:=jr hR.nodup e2
   rw[e,k2] at k1;exact (Option.some.inj k1).symm
  ·have e1:=List.getElem?_eq_getElem h1
   obtain ⟨x,hx⟩:=hk.resolve_left h2
   exact absurd (by rw[← wW e1,e];exact jG hx (by omega)) (UF e1)
  ·have e2:=List.getElem?_eq_getElem h2
   obtain ⟨x,hx⟩:=hj.resolve_left h1
   exact absurd (by rw[← wW e2,← e];exact jG hx (by omega)) (UF e2)
  ·rw[G4 (by omega),G4 (by omega)] at e;omega
 have ajz:Mir (wG ids id) (nv ids xs) J U lent hp (gK ids xs) hp:=by
  refine ⟨fun j y hj=> .inl ?_,fun j y hj=>?_,fun i x hi=>?_,fun e1 j y hj=>?_⟩
  ·rw[← hlen];exact (List.getElem?_eq_some_iff.1 hj).1
  ·obtain ⟨i,x,h1,h2,h3,rfl⟩:=mh hR hj
   have hvb:=Dk hR h1 h2
   show hp[wG ids id j]? =some (some ((x.bJ (wF ids xs) fun _=>0).bJ (.bwd (wG ids id) (nv ids xs)) (· +nv ids xs (wG ids id j))))
   rw[wW h1,QJ (List.all_eq_true.1 anD x (List.mem_of_getElem? h3)) hvb fun r hr=>?_]
   ·exact h2
   ·have hm:=(hR.refs x (List.mem_of_getElem? h3) r hr).resolve_right (by simp)
    obtain ⟨k,hk⟩:=yA hm
    exact ⟨k,hk,wW (gg hk)⟩
  ·cases ib:il ids i with
   |none=>exact .inr ⟨hi,ib⟩
   |some j=>
    obtain ⟨x',h1,h2,h3⟩:=uX hR (gg ib)
    exact .inl ⟨j,_,h3,wW (gg ib)⟩
  ·obtain ⟨i,x,h1,h2,h3,rfl⟩:=mh hR hj
   have hx:=anE e1
   rw[List.all_eq_true] at hx
   have hx':=hx x (List.mem_of_getElem? h3)
   cases x with
   |aZ cells el=>
    simp only[Item.bJ,Item.nr,List.all_map] at hx' ⊢
    rw[List.all_eq_true] at hx' ⊢
    exact fun s hs=>SV.Ow (hx' s hs)
   |_=>rfl
 have uY:=BR QK d (fun j x hm=> .inr ⟨x,hm⟩) (fun e1=>(hnr e1).2) ajz
 generalize aga:aE (Dl (wG ids id) (nv ids xs) d) hp=hp2 at*
 generalize aE d (gK ids xs)=J9 at*
 let β2:Env:=⟨qJ hp ids id βr.b β.b,qJ hp ids id βr.h β.h,fun pm v t l=>match pm with
  |true=>βr.rd true v t l
  |false=>if lent=true then β.rd false v t l else βr.rd false v t l⟩
 have qK: ∀ {α:Type} (F F0:Nat→α) {j:Nat},J j→qJ hp ids id F F0 (wG ids id j)=F j:=by
  intro α F F0 j hj
  by_cases h1:j<ids.length
  ·have e1:=List.getElem?_eq_getElem h1
   simp only[qJ,wW e1,jr hR.nodup e1]
  ·obtain ⟨x,hx⟩:=hj.resolve_left h1
   have hn:=jG hx (by omega)
   have Gs:il ids (wG ids id j)=none:=by
    cases hq:il ids (wG ids id j) with
    |none=>rfl
    |some k=>exact absurd hn (UF (gg hq))
   simp only[qJ,Gs]
   rw[if_pos ⟨hn,by rw[G4 (by omega)];omega⟩,G4 (by omega)]
   congr 1;omega
 have uZ: ∀ {α:Type} (F F0:Nat→α) {i:Nat} {k:Kd},kd hp i=some k→il ids i=none→qJ hp ids id F F0 i=F0 i:=by
  intro α F F0 i k hi Gs
  simp only[qJ,Gs]
  rw[if_neg (by rw[hi];simp)]
 have Dn:uW (.bwd (wG ids id) (nv ids xs)) βr β2 (kd J9) (kd hp2) lent:=by
  refine ⟨fun b j hj hb=>?_,fun i j c hj hi=>?_,fun v t l h=>h,fun e1 v t l h=>by show (if lent=true then _ else _:Prop);rw[if_neg (by simp[e1])];exact h⟩
  ·cases hj
   obtain ⟨y,h1,h2⟩:=ke hb
   exact ⟨by rw[cT (uY.fwd _ _ h1),Item.js,h2];rfl,qK _ _ (uY.live _ _ h1)⟩
  ·cases hj
   obtain ⟨y,h1,h2⟩:=ke hi
   refine ⟨c+nv ids xs (wG ids id i),by rw[cT (uY.fwd _ _ h1),Item.js,h2];rfl,qK _ _ (uY.live _ _ h1),fun v v' hv he=>?_⟩
   cases he
   exact ⟨Nat.add_le_add_right hv _,fun e=>Nat.add_right_cancel e⟩
 have ajA: ∀ pm v t l,β.rd pm v t l→β2.rd pm v t l:=by
  intro pm v t l hr
  cases pm with
  |true=>exact h'.first.rd true v t l (wH.rdt _ _ _ hr)
  |false=>
   show (if lent=true then _ else _:Prop)
   split
   ·exact hr
   ·exact h'.first.rd false v t l (wH.rdf rfl _ _ _ hr)
 have Dp: ∀ {i x b},hp[i]? =some (some x)→il ids i=none→bU β x i b→b<w.heap.size∧ ¬ lu hp β ids b:=by
  intro i x b hi Gs ho
  refine ⟨(hh.items i x hi).lt ho,fun ⟨k,y,h1,h2,h3⟩=>?_⟩
  have:=hh.inj i k x y b hi h1 ho h2
  subst this
  exact BP Gs h3
 have UG: ∀ {b},b<w.heap.size→ ¬ lu hp β ids b→w'.heap[b]? =w.heap[b]? :=fun hb hn=>h'.aq _ hb fun k=>hn (o9 hR (Dm▸k))
 have aeC: ∀ {i x},hp[i]? =some (some x)→il ids i=none→hp2[i]? =some (some x):=by
  intro i x hi Gs
  have:i∉(Dl (wG ids id) (nv ids xs) d).map (·.1):=by
   intro hm
   obtain ⟨⟨i',z⟩,h1,h2⟩:=List.mem_map.1 hm
   simp at h2;subst h2
   obtain ⟨j,y,h3,e1,e2⟩:=G2.1 h1
   by_cases hj:j<ids.length
   ·have k1:=List.getElem?_eq_getElem hj
    have:=BP Gs
    exact this (by rw[e1,wW k1];exact List.getElem_mem hj)
   ·have:=jG h3 (by omega)
    rw[← e1,cT hi] at this;cases this
  rw[← aga]
  exact aw (by rw[dL this];exact oU hi)
 have qb:bD β β2 (kd hp) (kd hp2):=by
  refine ⟨fun i hi=>?_,fun i c hi=>?_,ajA⟩
  ·obtain ⟨x,hx,hk⟩:=ke hi
   cases ib:il ids i with
   |none=>exact ⟨by rw[cT (aeC hx ib),hk],uZ _ _ hi ib⟩
   |some j=>
    have h1:=gg ib
    obtain ⟨k1,k2⟩:=wH.aZ _ _ ib hi
    obtain ⟨k3,k4⟩:=h'.first.aZ _ k1
    obtain ⟨k5,k6⟩:=Dn.aZ _ _ rfl k3
    rw[wW h1] at k5 k6
    exact ⟨k5,by rw[k6,k4,k2]⟩
  ·obtain ⟨x,hx,hk⟩:=ke hi
   cases ib:il ids i with
   |none=>exact ⟨c,by rw[cT (aeC hx ib),hk],Nat.le_refl _,fun _=>uZ _ _ hi ib⟩
   |some j=>
    have h1:=gg ib
    have hvb:=Dk hR h1 hx
    have hck:x.ver=c:=by
     cases x with
     |aZ _ _=>cases hk
     |own _ _ _=>cases hk;rfl
     |gone _=>cases hk;rfl
    obtain ⟨y,y1,_,y3⟩:=uX hR h1
    rw[hx] at y1;cases y1
    have k1:kd (gK ids xs) j=some (.own 0):=by rw[cT y3,Item.js,hk];rfl
    have k2:βc.h j=β.h i:=hch h1
    obtain ⟨c',k3,k4,k4'⟩:=h'.first.own _ _ k1
    have hg:wG ids id j=i:=wW h1
    obtain ⟨z,z1,z2⟩:=ke k3
    have k5:kd hp2 i=some (.own (c'+c)):=by
     have:=uY.fwd _ _ z1
     rw[hg] at this
     rw[cT this,Item.js,z2,hg,hvb,hck];rfl
    have k6:β2.h i=βr.h j:=by rw[← hg];exact qK _ _ (uY.live _ _ z1)
    exact ⟨c'+c,k5,by omega,fun e1=>by rw[k6,k4' (by omega),k2]⟩
 have hgo: ∀ {j y b},J9[j]? =some (some y)→(bU β2 (y.bk (wG ids id) (nv ids xs) j) (wG ids id j) b↔bU βr y j b):=fun hj=>bU.bJ (qK _ _ (uY.live _ _ hj)) (qK _ _ (uY.live _ _ hj))
 have huo: ∀ {i x b},hp[i]? =some (some x)→il ids i=none→(bU β2 x i b↔bU β x i b):=fun hi Gs=>bU.congr (uZ _ _ (cT hi) Gs) (uZ _ _ (cT hi) Gs)
 have UH: ∀ {j y b},J9[j]? =some (some y)→bU βr y j b→w.heap.size≤b∨lu hp β ids b:=fun hj ho=>(h'.own _ _ _ hj ho).imp (fun h=>h) fun ⟨y,k⟩=>o9 (own:=lu hp β ids) (w:=w) (lent:=lent) hR (Dm.symm▸⟨_,y,k⟩)
 have yD: ∀ {i z},hp2[i]? =some (some z)→(∃ j y,J9[j]? =some (some y)∧i=wG ids id j∧z=y.bk (wG ids id) (nv ids xs) j)∨(hp[i]? =some (some z)∧il ids i=none):=by
  intro i z hi
  rcases uY.bwd i z hi with ⟨j,y,h1,h2⟩|h1
  ·have:=uY.fwd j y h1
   rw[h2,hi] at this
   exact .inl ⟨j,y,h1,h2.symm,by simpa using this⟩
  ·exact .inr h1
 have Oz: ∀ {b},eP hp2 β2 b→eP J9 βr b∨ ∃ i x,hp[i]? =some (some x)∧il ids i=none∧bU β x i b:=by
  rintro b ⟨i,z,hi,ho⟩
  rcases yD hi with ⟨j,y,h1,rfl,rfl⟩|⟨h1,h2⟩
  ·exact .inl ⟨j,y,h1,(hgo h1).1 ho⟩
  ·exact .inr ⟨i,z,h1,h2,(huo h1 h2).1 ho⟩
 refine ⟨r.bJ (.bwd (wG ids id) (nv ids xs)),Dl (wG ids id) (nv ids xs) d,val,β2,hq,rfl,?_,?_⟩
 ·rw[aga]
  exact LV.fG Dn (fun e1=>(hnr e1).1) Kk
 rw[aga]
 refine ⟨fun i z hi=>?_,fun i k x y b hi hk h1 h2=>?_,qb,fun i z b hi ho=>?_,h'.os,h'.output,h'.size,fun b hb anH=>?_,fun pm v t l hr=>?_,fun pm v t l b hr hb=>?_⟩
 ·rcases yD hi with ⟨j,y,h1,rfl,rfl⟩|⟨h1,h2⟩
  ·exact eA.Di Dn (fun e1=>uY.nr e1 _ _ h1) (fun _=>qK _ _ (uY.live _ _ h1)) (fun _ _=>qK _ _ (uY.live _ _ h1)) (h'.items j y h1)
  ·exact (hh.items i z h1).of qb (uZ _ _ (cT h1) h2) (uZ _ _ (cT h1) h2) fun b ho=>UG (Dp h1 h2 ho).1 (Dp h1 h2 ho).2
 ·rcases yD hi with ⟨j,y',a1,rfl,rfl⟩|⟨a1,a2⟩<;>rcases yD hk with ⟨j2,y2,b1,rfl,rfl⟩|⟨b1,b2⟩
  ·rw[h'.inj j j2 y' y2 b a1 b1 ((hgo a1).1 h1) ((hgo b1).1 h2)]
  ·have k1:=Dp b1 b2 ((huo b1 b2).1 h2)
   rcases UH a1 ((hgo a1).1 h1) with k2|k2
   ·omega
   ·exact absurd k2 k1.2
  ·have k1:=Dp a1 a2 ((huo a1 a2).1 h1)
   rcases UH b1 ((hgo b1).1 h2) with k2|k2
   ·omega
   ·exact absurd k2 k1.2
  ·exact hh.inj i k x y b a1 b1 ((huo a1 a2).1 h1) ((huo b1 b2).1 h2)
 ·rcases yD hi with ⟨j,y,a1,rfl,rfl⟩|⟨a1,a2⟩
  ·refine (h'.own _ _ _ a1 ((hgo a1).1 ho)).imp (fun h=>h) fun ⟨y2,k1,k2⟩=>?_
   obtain ⟨i',x',e1,e2,_,rfl⟩:=mh hR k1
   rw[wW e1]
   exact ⟨x',e2,(bU.bJ (hcb e1) (hch e1)).1 k2⟩
  ·exact .inr ⟨z,a1,(huo a1 a2).1 ho⟩
 ·exact UG hb fun ⟨k,x,k1,k2,_⟩=>anH ⟨k,x,k1,k2⟩
 ·have aeD: ∀ {b},(b<w'.heap.size∧ ¬ eP J9 βr b)→(∀ i x,hp[i]? =some (some x)→il ids i=none→ ¬ bU β x i b)→b<w'.heap.size∧ ¬ eP hp2 β2 b:=by
   rintro b ⟨h1,h2⟩ h3
   refine ⟨h1,fun k=>?_⟩
   rcases Oz k with k|⟨i,x,k1,k2,k3⟩
   ·exact h2 k
   ·exact h3 i x k1 k2 k3
  have ajB: ∀ {pm v t l b},(pm=true∨lent=false)→βr.rd pm v t l→inBlock v b→ ∀ i x,hp[i]? =some (some x)→il ids i=none→ ¬ bU β x i b:=by
   intro pm v t l b Kf hr hb i x hi Gs ho
   have fD:=(hh.items i x hi).lt ho
   rcases h'.from_ pm v t l b hr hb with k|⟨j7,v',t',l',k0,k1,k2⟩
   ·omega
   ·have k1':β.rd j7 v' t' l':=by
     subst Dm
     cases j7 with
     |true=>exact k1
     |false=>
      rcases Kf with Kf|Kf
      ·cases k0 Kf
      ·rcases k1 with k1|⟨k1,_⟩
       ·exact k1
       ·rw[Kf] at k1;cases k1
    exact (hh.reads _ _ _ _ k1').2 b k2 |>.2 ⟨i,x,hi,ho⟩
  have agb: ∀ {pm v t l},β.rd pm v t l→bF β2 pm w' v t l∧ ∀ b,inBlock v b→b<w'.heap.size∧ ¬ eP hp2 β2 b:=by
   intro pm v t l hr
   obtain ⟨h1,h2⟩:=hh.reads _ _ _ _ hr
   refine ⟨(h1.of fun b hb fD=>UG fD fun ⟨k,x,k1,k2,_⟩=>(h2 b hb).2 ⟨k,x,k1,k2⟩).mono ajA,fun b hb=>?_⟩
   refine ⟨Nat.lt_of_lt_of_le (h2 b hb).1 h'.size,fun k=>?_⟩
   rcases Oz k with ⟨j,y,k1,k2⟩|⟨i,x,k1,k2,k3⟩
   ·rcases UH k1 k2 with k3|⟨i,x,k3,k4,_⟩
    ·have:=(h2 b hb).1;omega
    ·exact (h2 b hb).2 ⟨i,x,k3,k4⟩
   ·exact (h2 b hb).2 ⟨i,x,k1,k3⟩
  cases pm with
  |true=>
   obtain ⟨h1,h2⟩:=h'.reads true v t l hr
   refine ⟨?_,fun b hb=>aeD (h2 b hb) (ajB (.inl rfl) hr hb)⟩
   obtain ⟨a,n,c,rfl,hn,hc,hz,hrr⟩:=h1
   refine ⟨a,n,c,rfl,hn,hc,hz,fun h0=>?_⟩
   obtain ⟨a0,eQ,rfl,k1,k2,k3⟩:=hrr h0
   exact ⟨a0,eQ,rfl,k1,k2.imp fun _ _=>t.iM Dn.rdt,k3⟩
  |false=>
   have o6:(if lent=true then β.rd false v t l else βr.rd false v t l):=hr
   split at o6
   ·exact agb o6
   ·rename_i Om
    have agc:lent=false:=by simpa using Om
    obtain ⟨h1,h2⟩:=h'.reads false v t l o6
    refine ⟨h1.mono fun pm v t l hr=>?_,fun b hb=>aeD (h2 b hb) (ajB (.inr agc) o6 hb)⟩
    cases pm with
    |true=>exact hr
    |false=>show (if lent=true then _ else _:Prop);rw[if_neg Om];exact hr
 ·have aeE: ∀ {j7 v' t' l'},βc.rd j7 v' t' l'→(j7=true∨lent=false)→β.rd j7 v' t' l':=by
   intro j7 v' t' l' k1 Kf
   subst Dm
   cases j7 with
   |true=>exact k1
   |false=>
    rcases k1 with k1|⟨k1,_⟩
    ·exact k1
    ·rcases Kf with Kf|Kf
     ·cases Kf
     ·rw[Kf] at k1;cases k1
  cases pm with
  |true=>
   rcases h'.from_ true v t l b hr hb with k|⟨j7,v',t',l',k0,k1,k2⟩
   ·exact .inl k
   ·exact .inr ⟨j7,v',t',l',k0,aeE k1 (.inl (k0 rfl)),k2⟩
  |false=>
   have o6:(if lent=true then β.rd false v t l else βr.rd false v t l):=hr
   split at o6
   ·exact .inr ⟨false,v,t,l,(fun h=>h),o6,hb⟩
   ·rename_i Om
    have agc:lent=false:=by simpa using Om
    rcases h'.from_ false v t l b o6 hb with k|⟨j7,v',t',l',k0,k1,k2⟩
    ·exact .inl k
    ·exact .inr ⟨j7,v',t',l',k0,aeE k1 (.inr agc),k2⟩
def look (f:FuncId):List (FuncId×ao)→Option ao
 | []=>none
 |(g,e)::l=>if g=f then some e else look f l
def OA (tab:List (FuncId×ao)):yo:=⟨fun f id args=>match look f tab with
 |some e=>Oy e id args
 |none=> .ret .fail⟩
theorem OB {P:Program}: ∀ {tab:List (FuncId×ao)} {f:FuncId} {e:ao},(∀ p∈tab,p.2.Ok P p.1)→look f tab=some e→e.Ok P f
 | [],_,_,_,h=>by cases h
 |(g,e')::l,f,e,hp,h=>by
  simp only[look] at h
  split at h
  ·rename_i hg;subst hg;obtain rfl:=Option.some.inj h;exact hp (g,e') (by simp)
  ·exact OB (fun p hm=>hp p (List.mem_cons_of_mem _ hm)) h
theorem UI {P:Program} {tab:List (FuncId×ao)} (h: ∀ p∈tab,p.2.Ok P p.1):GOk P (OA tab):=by
 refine ⟨fun f id args hp hf Q hq W ah β₀ β w vals hh dc=>?_⟩
 simp only[OA] at hf hq
 split at hq
 ·rename_i e he
  rw[he] at hf
  have kZ:=OB h he
  refine (UD kZ hf hq hh.self dc).mono ?_
  rintro en w' ⟨v,d,val,β',h1,h2,h3,h4⟩
  exact ⟨v,d,val,β',h1,h2,h3,hh.trans h4,h4.first⟩
 ·exact hq.elim
end Go.Ev
end
