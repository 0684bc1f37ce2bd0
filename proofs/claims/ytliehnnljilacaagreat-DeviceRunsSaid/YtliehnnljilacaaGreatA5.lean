/- What the laws lean on, part 5: a reader of code, plain facts, and what each function gives; no conditions. -/
import Derived.Test.YtliehnnljilacaaGreatA4
noncomputable section
open Go.IntKind (i64 signed u16 u32 u64 wrap wrap_u32)
set_option linter.unusedVariables false
set_option linter.unusedSimpArgs false
namespace Go.Ev
open Go
def lA:List Nat→Nat→Option Nat
 | [],_=>none
 |x::l,i=>if x=i then some 0 else(lA l i).map (· +1)
theorem jz:∀ {l:List Nat} {i j:Nat},lA l i=some j→l[j]? =some i
 | [],_,_,h=>by cases h
 |x::l,i,j,h=>by
  simp only[lA]at h;split at h
  ·rename_i e;subst e;simp at h;subst h;rfl
  ·obtain⟨k,hk,rfl⟩:=map_some h;simpa using jz hk
theorem Dg:∀ {l:List Nat} {i:Nat},i∈l→∃j,lA l i=some j
 |x::l,i,h=>by
  simp only[lA];split
  ·exact⟨0,rfl⟩
  ·rename_i ko;obtain⟨j,hj⟩:=Dg (l:=l) (i:=i) (by simpa [Ne.symm ko]using h);exact⟨j+1,by rw[hj];rfl⟩
theorem kv:∀ {l:List Nat} {j i:Nat},l.Nodup→l[j]? =some i→lA l i=some j
 | [],_,_,_,h=>by simp at h
 |x::l,0,i,_,h=>by simp at h;subst h;simp[lA]
 |x::l,j+1,i,hn,h=>by
  simp at h;have hi:i∈l:=List.mem_of_getElem? h;have ko:x≠i:=fun e=>by subst e;exact(List.nodup_cons.1 hn).1 hi
  simp only[lA,if_neg ko,kv (List.nodup_cons.1 hn).2 h];rfl
theorem GL{l:List Nat}{i:Nat}(h:lA l i=none):i∉l:=fun hm=>by
 obtain⟨j,hj⟩:=Dg hm;rw[hj]at h;cases h
structure ur where
 f:Nat→Option Nat
 o:Nat→Nat→Option Nat
def SV.dD(f:ur):SV→SV
 | .ptr b o=>match f.f b with|some j=>.ptr j o|none=>.dT
 | .yU b base st n z=>match f.f b with|some j=>.yU j base st n z|none=>.dT
 | .slice b o l c=>match f.f b with|some j=>.slice j o l c|none=>.dT
 | .sl i v=>match f.f i with|some j=>(match f.o i v with|some u=>.sl j u|none=>.dT)|none=>.dT
 | .vw i v w z n=>match f.f i with|some j=>(match f.o i v with|some u=>.vw j u w z n|none=>.dT)|none=>.dT
 | .vb b o t m z n=>match f.f b with|some j=>.vb j o t m z n|none=>.dT
 | .ep s w z g=>.ep (s.dD f) w z g
 | .WR g b o=>match f.f b with|some j=>.WR g j o|none=>.dT
 |s=>s
def VV.dD(f:ur):VV→VV
 | .sc s=>.sc (s.dD f)
 | .agg l=>.agg (l.map (SV.dD f))
def LV.dD(f:ur):LV→LV
 | .one x=>.one (x.dD f)
 | .dB l=>.dB (l.map (VV.dD f))
 | .dT=>.dT
def bE.dD(f:ur)(u:Nat→Nat):bE→bE
 | .cK cells e=>.cK (cells.map (SV.dD f)) e
 | .own v t l=>.own (u v) t l
 | .gone v=>.gone (u v)
 | .qn t D x=>.qn t D x
def SV.refs:SV→List Nat
 | .ptr b _| .yU b _ _ _ _| .slice b _ _ _| .sl b _| .vw b _ _ _ _| .vb b _ _ _ _ _| .WR _ b _=> [b]
 | .ep s _ _ _=>s.refs
 |_=> []
def VV.refs:VV→List Nat
 | .sc s=>s.refs
 | .agg l=>l.flatMap SV.refs
def LV.refs:LV→List Nat
 | .one x=>x.refs
 | .dB l=>l.flatMap VV.refs
 | .dT=> []
def bE.refs:bE→List Nat
 | .cK cells _=>cells.flatMap SV.refs
 |_=> []
def SV.nr:SV→Bool
 | .rd pm _ _ _=>pm
 | .ep s _ _ _=>s.nr
 |_=>true
def VV.nr:VV→Bool
 | .sc s=>s.nr
 | .agg l=>l.all SV.nr
def LV.nr:LV→Bool
 | .one x=>x.nr
 | .dB l=>l.all VV.nr
 | .dT=>true
def bE.nr:bE→Bool
 | .cK cells _=>cells.all SV.nr
 |_=>true
def Kd.up(u:Nat→Nat):Kd→Kd
 | .cK=>.cK
 | .own c=>.own (u c)
theorem bE.mQ(f:ur)(u:Nat→Nat)(x:bE):(x.dD f u).kd=x.kd.up u:=by cases x<;>rfl
structure si (f:ur) (β β':Env) (L L':Nat→Option Kd) (nr:Bool):Prop where
 cK:∀b j,f.f b=some j→L b=some .cK→L' j=some .cK∧β'.b j=β.b b
 own:∀i j c,f.f i=some j→L i=some (.own c)→∃c',L' j=some (.own c')∧β'.h j=β.h i∧∀v v',v≤c→f.o i v=some v'→v'≤c'∧(v'=c'→v=c)
 rdt:∀v t l,β.rd true v t l→β'.rd true v t l
 rdf:nr=false→∀v t l,β.rd false v t l→β'.rd false v t l
noncomputable section
variable {f:ur} {β β':Env} {L L':Nat→Option Kd} {nr:Bool}
theorem AE.Gf(h:si f β β' L L' nr){pm:Bool}{v:Value}{t:Ty}{l:List t.D}(hn:nr=true→pm=true)(hr:AE β pm v t l):AE β' pm v t l:=by
 rcases hr with hr|⟨rfl,hr⟩|hr
 ·exact .inl (h.rdt _ _ _ hr)
 ·cases nr with
  |true=>exact absurd (hn rfl) (by simp)
  |false=>exact .inr (.inl ⟨rfl,h.rdf rfl _ _ _ hr⟩)
 ·exact .inr (.inr hr)
theorem Ty.kx(h:∀v t l,β.rd true v t l→β'.rd true v t l):∀ (t:Ty) {x:t.D} {vs:List Value},t.has β true x vs→t.has β' true x vs
 | .int _,_,_,h=>h
 | .bool,_,_,h=>h
 | .rl,_,_,h=>h
 | .str,_,_,h=>h
 | .sl _,_,_,⟨v,h1,h2,h3⟩=>⟨v,h1,h2,by
  rcases h3 with h3|⟨h3,_⟩|h3
  ·exact .inl (h _ _ _ h3)
  ·cases h3
  ·exact .inr (.inr h3)⟩
 | .pair a b,_,_,⟨u,w,h0,h1,h2⟩=>⟨u,w,h0,a.kx h h1,b.kx h h2⟩
 | .arr t _,_,_,⟨h1,h2⟩=>⟨h1,h2.imp fun _ _=>t.kx h⟩
theorem SV.gD(h:si f β β' L L' nr):∀ {s:SV} {v:Value},(nr=true→s.nr=true)→s.den β L v→(s.dD f).den β' L' v
 | .int _ _,_,_,hd=>hd
 | .bool _,_,_,hd=>hd
 | .rl _,_,_,hd=>hd
 | .str _,_,_,hd=>hd
 | .gm _,_,_,hd=>hd
 | .dT,_,_,hd=>hd
 | .arr _ _ _,_,_,hd=>hd.elim
 | .rd _ _ _ _,_,hn,⟨h1,h2,h3⟩=>⟨h1,h2,h3.Gf h hn⟩
 | .ptr b o,v,_,hd=>by
  simp only[SV.dD];split
  ·rename_i j hj;obtain⟨k1,k2⟩:=h.cK b j hj hd.1;exact⟨k1,by rw[k2];exact hd.2⟩
  ·exact SV.dn hd
 | .yU b base st n z,v,_,hd=>by
  simp only[SV.dD];split
  ·rename_i j hj;obtain⟨k1,k2⟩:=h.cK b j hj hd.1;exact⟨k1,hd.2.1,by rw[k2];exact hd.2.2⟩
  ·exact SV.dn hd
 | .slice b o l c,v,_,hd=>by
  simp only[SV.dD];split
  ·rename_i j hj;obtain⟨k1,k2⟩:=h.cK b j hj hd.1;exact⟨k1,by rw[k2];exact hd.2⟩
  ·exact SV.dn hd
 | .sl i ver,v,_,hd=>by
  simp only[SV.dD];split
  ·rename_i j hj;split
   ·rename_i u hu;obtain⟨h1,c,h2,h3,h4⟩:=hd;obtain⟨c',k1,k2,k3⟩:=h.own i j c hj h2;obtain⟨k4,k5⟩:=k3 ver u h3 hu;exact⟨h1,c',k1,k4,fun e=>by rw[k2];exact h4 (k5 e)⟩
   ·exact SV.dn hd
  ·exact SV.dn hd
 | .vw i ver w z n,v,_,hd=>by
  simp only[SV.dD];split
  ·rename_i j hj;split
   ·rename_i u hu;obtain⟨h1,c,h2,h3,h4⟩:=hd;obtain⟨c',k1,k2,k3⟩:=h.own i j c hj h2;obtain⟨k4,k5⟩:=k3 ver u h3 hu;exact⟨h1,c',k1,k4,fun e=>by rw[k2];exact h4 (k5 e)⟩
   ·exact SV.dn hd
  ·exact SV.dn hd
 | .vb b o t m z n,v,_,hd=>by
  simp only[SV.dD];split
  ·rename_i j hj;obtain⟨h1,h2⟩:=hd;obtain⟨k1,k2⟩:=h.cK b j hj h1;exact⟨k1,by rw[k2];exact h2⟩
  ·exact SV.dn hd
 | .ep s w z g,v,hn,⟨a,n,c,h1,h2⟩=>⟨a,n,c,SV.gD h hn h1,h2⟩
 | .WR g b o,v,_,hd=>by
  simp only[SV.dD];split
  ·rename_i j hj;obtain⟨h1,h2⟩:=hd;obtain⟨k1,k2⟩:=h.cK b j hj h1;exact⟨k1,by rw[k2];exact h2⟩
  ·exact SV.dn hd
theorem dc.Gf(h:si f β β' L L' nr){l:List SV}{vs:List Value}(hn:nr=true→l.all SV.nr=true)(hd:dc β L l vs):dc β' L' (l.map (SV.dD f)) vs:=by
 induction l generalizing vs with
 |nil=>cases hd;exact cI.nil
 |cons s l ih=>
  have hn1:nr=true→s.nr=true:=fun e=>by have:=hn e;simp only[List.all_cons,Bool.and_eq_true]at this;exact this.1
  have hn2:nr=true→l.all SV.nr=true:=fun e=>by have:=hn e;simp only[List.all_cons,Bool.and_eq_true]at this;exact this.2
  cases hd with
  |cons h1 h2=>
   refine cI.cons ?_ (ih hn2 h2);cases s with
   |arr t n x=>exact⟨h1.1,h1.2.imp fun _ _=>t.kx h.rdt⟩
   |_=>
    obtain⟨v,rfl,h3⟩:=h1;exact SV.vH (SV.gD h hn1 h3)
theorem VV.gD(h:si f β β' L L' nr){s:VV}{v:Value}(hn:nr=true→s.nr=true)(hd:s.den β L v):(s.dD f).den β' L' v:=by
 cases s with
 |sc s=>exact SV.gD h hn hd
 |agg l=>obtain⟨cs,rfl,hd⟩:=hd;exact⟨cs,rfl,dc.Gf h hn hd⟩
theorem LV.gD(h:si f β β' L L' nr){s:LV}{v:Value}(hn:nr=true→s.nr=true)(hd:s.den β L v):(s.dD f).den β' L' v:=by
 cases s with
 |one x=>exact VV.gD h hn hd
 |dB l=>
  obtain⟨vs,rfl,hd⟩:=hd;refine⟨vs,rfl,?_⟩;simp only[LV.nr]at hn;induction hd with
  |nil=>exact .nil
  |cons h1 h2 ih=>
   exact .cons (VV.gD h (fun e=>by have:=hn e;simp only[List.all_cons,Bool.and_eq_true]at this;exact this.1) h1) (ih fun e=>by have:=hn e;simp only[List.all_cons,Bool.and_eq_true]at this;exact this.2)
 |dT=>trivial
theorem gb.Gf(h:si f β β' L L' nr){w:World}{i j:Nat}{x:bE}{u:Nat→Nat}(hn:nr=true→x.nr=true)(hb:x.kd= .cK→β'.b j=β.b i)(hh:β'.h j=β.h i)(hd:gb β L w i x):gb β' L' w j (x.dD f u):=by
 cases x with
 |cK cells e=>
  obtain⟨c,fz,h1,h2,h3⟩:=hd;exact⟨c,fz,by rw[hb rfl];exact h1,h2,dc.Gf h hn h3⟩
 |own ver t l=>
  show eY β' w (β'.h j) t l;rw[hh];obtain⟨a,n,c,e,h1,h2,h3,h4⟩:=(hd:eY β w (β.h i) t l);refine⟨a,n,c,e,h1,h2,h3,fun h0=>?_⟩;obtain⟨a0,pre,gq,rest,elem,fz,k0,k1,k2,k3,k4,k5⟩:=h4 h0;exact⟨a0,pre,gq,rest,elem,fz,k0,k1,k2,k3,k4.imp fun _ _=>t.kx h.rdt,k5⟩
 |gone v=>trivial
 |qn t D y=>
  obtain⟨h1,h2⟩:=hd;refine⟨fun b k=>h1 b (by rw[hh]at k;exact k),fun w2 rd k1 k2=>?_⟩;have hb:=hb rfl;simp only[hh,hb]at k2 ⊢;exact h2 w2 rd (fun v t l k=>k1 v t l (h.rdt v t l k)) fun b k k0=>k2 b (k.imp id fun⟨v,t,l,k3,k4⟩=>⟨v,t,l,h.rdt v t l k3,k4⟩) k0
end
def SV.cur(vb:Nat→Nat):SV→Bool
 | .sl i v| .vw i v _ _ _=>v==vb i
 | .ep s _ _ _=>s.cur vb
 |_=>true
def bE.cur(vb:Nat→Nat):bE→Bool
 | .cK cells _=>cells.all (SV.cur vb)
 |_=>true
def ur.fwd(f:Nat→Option Nat)(vb:Nat→Nat):ur:=⟨f,fun i v=>if v=vb i then some 0 else none⟩
def ur.bwd(g vb:Nat→Nat):ur:=⟨fun j=>some (g j),fun j v=>some (v+vb (g j))⟩
theorem GM{f:Nat→Option Nat}{g vb:Nat→Nat}:∀ {s:SV},s.cur vb=true→(∀r∈s.refs,∃j,f r=some j∧g j=r)→(s.dD (.fwd f vb)).dD (.bwd g vb)=s
 | .ptr b o,_,h=>by obtain⟨j,h1,h2⟩:=h b (by simp[SV.refs]);simp only[SV.dD,ur.fwd,ur.bwd,h1,h2]
 | .yU b base st n z,_,h=>by obtain⟨j,h1,h2⟩:=h b (by simp[SV.refs]);simp only[SV.dD,ur.fwd,ur.bwd,h1,h2]
 | .slice b o l c,_,h=>by obtain⟨j,h1,h2⟩:=h b (by simp[SV.refs]);simp only[SV.dD,ur.fwd,ur.bwd,h1,h2]
 | .sl b v,hc,h=>by
  obtain⟨j,h1,h2⟩:=h b (by simp[SV.refs]);have e:v=vb b:=by simpa [SV.cur]using hc
  subst e;simp[SV.dD,ur.fwd,ur.bwd,h1,h2]
 | .vw b v w z n,hc,h=>by
  obtain⟨j,h1,h2⟩:=h b (by simp[SV.refs]);have e:v=vb b:=by simpa [SV.cur]using hc
  subst e;simp[SV.dD,ur.fwd,ur.bwd,h1,h2]
 | .vb b o t m z n,_,h=>by obtain⟨j,h1,h2⟩:=h b (by simp[SV.refs]);simp only[SV.dD,ur.fwd,ur.bwd,h1,h2]
 | .ep s w z g',hc,h=>by simp only[SV.dD];rw[GM (s:=s) hc h]
 | .WR g b o,_,h=>by obtain⟨j,h1,h2⟩:=h b (by simp[SV.refs]);simp only[SV.dD,ur.fwd,ur.bwd,h1,h2]
 | .int _ _,_,_| .bool _,_,_| .rl _,_,_| .str _,_,_| .gm _,_,_| .dT,_,_| .arr _ _ _,_,_| .rd _ _ _ _,_,_=>rfl
def bE.ver:bE→Nat
 | .cK _ _| .qn _ _ _=>0
 | .own v _ _| .gone v=>v
theorem acd{f:Nat→Option Nat}{g vb:Nat→Nat}{x:bE}{i:Nat}(hc:x.cur vb=true)(hv:vb i=x.ver)(h:∀r∈x.refs,∃j,f r=some j∧g j=r):(x.dD (.fwd f vb) fun _=>0).dD (.bwd g vb) (· +vb i)=x:=by
 cases x with
 |cK cells e=>
  have hm:(cells.map (SV.dD (.fwd f vb))).map (SV.dD (.bwd g vb))=cells:=by
   rw[List.map_map];simp only[bE.cur,List.all_eq_true]at hc;have:=List.map_congr_left (l:=cells) (f:=SV.dD (.bwd g vb)∘SV.dD (.fwd f vb)) (g:=id) fun s hs=>GM (hc s hs) fun r hr=>h r (by simp only[bE.refs,List.mem_flatMap];exact⟨s,hs,hr⟩);rw[this,List.map_id]
  simp only[bE.dD,hm]
 |own v t l=>simp only[bE.dD,Nat.zero_add,hv,bE.ver]
 |gone v=>simp only[bE.dD,Nat.zero_add,hv,bE.ver]
 |qn t D y=>rfl
theorem SV.Xa{f:ur}:∀ {s:SV},s.nr=true→(s.dD f).nr=true
 | .ptr b o,_=>by simp only[SV.dD];split<;>rfl
 | .yU ..,_=>by simp only[SV.dD];split<;>rfl
 | .slice ..,_=>by simp only[SV.dD];split<;>rfl
 | .sl ..,_=>by simp only[SV.dD];split<;>(try split)<;>rfl
 | .vw ..,_=>by simp only[SV.dD];split<;>(try split)<;>rfl
 | .vb ..,_=>by simp only[SV.dD];split<;>rfl
 | .ep s w z g,h=>SV.Xa (s:=s) h
 | .WR g b o,_=>by simp only[SV.dD];split<;>rfl
 | .int _ _,h| .bool _,h| .rl _,h| .str _,h| .gm _,h| .dT,h| .arr _ _ _,h| .rd _ _ _ _,h=>h
def mz:Nat→List Nat→List Nat→List bE→Ask (Option (List Nat×List bE))
 |0,_,_,_=>.ret none
 |_+1,[],acc,Sr=>.ret (some (acc,Sr))
 |n+1,i::todo,acc,Sr=>if i∈acc then mz n todo acc Sr else
   .get i fun x=>match x with
    |some x=>mz n (x.refs++todo) (acc++ [i]) (Sr++ [x])
    |none=>.ret none
structure Reached (hp:Hp) (roots acc:List Nat) (Sr:List bE) (todo:List Nat):Prop where
 nodup:acc.Nodup
 len:acc.length=Sr.length
 at_:∀ (j:Nat) (i:Nat) (x:bE),acc[j]? =some i→Sr[j]? =some x→dp hp i=some x
 refs:∀x∈Sr,∀r∈x.refs,r∈acc∨r∈todo
 root:∀r∈roots,r∈acc∨r∈todo
theorem wc{hp:Hp}{roots:List Nat}:∀ (n:Nat) (todo acc:List Nat) (Sr:List bE) {ids:List Nat} {xs:List bE},Reached hp roots acc Sr todo→(mz n todo acc Sr).val hp=some (ids,xs)→Reached hp roots ids xs []
 |0,_,_,_,_,_,_,h=>by cases h
 |n+1,[],acc,Sr,_,_,hr,h=>by
  simp only[mz,Ask.val]at h;cases h;exact hr
 |n+1,i::todo,acc,Sr,ids,xs,hr,h=>by
  simp only[mz]at h;split at h
  ·rename_i hm;have hm':i∈acc:=hm;refine wc n todo acc Sr ⟨hr.nodup,hr.len,hr.at_,fun x hx r rL=>?_,fun r rL=>?_⟩ h
   ·rcases hr.refs x hx r rL with h1|h1
    ·exact .inl h1
    ·rcases List.mem_cons.1 h1 with rfl|h1
     ·exact .inl hm'
     ·exact .inr h1
   ·rcases hr.root r rL with h1|h1
    ·exact .inl h1
    ·rcases List.mem_cons.1 h1 with rfl|h1
     ·exact .inl hm'
     ·exact .inr h1
  ·rename_i hm;have hm':i∉acc:=hm;simp only[Ask.val]at h;split at h
   ·rename_i x hx;refine wc n (x.refs++todo) (acc++ [i]) (Sr++ [x]) ⟨?_,by simp[hr.len],?_,?_,?_⟩ h
    ·rw[List.nodup_append];refine⟨hr.nodup,by simp,fun a ha b hb=>?_⟩;simp at hb;subst hb;exact fun e=>hm' (e▸ha)
    ·intro j i' x' h1 h2;by_cases hj:j<acc.length
     ·rw[List.getElem?_append_left hj]at h1;rw[List.getElem?_append_left (by rw[← hr.len];exact hj)]at h2;exact hr.at_ j i' x' h1 h2
     ·rw[List.getElem?_append_right (by omega)]at h1;rw[List.getElem?_append_right (by rw[← hr.len];omega),← hr.len]at h2;have hj0:j-acc.length=0:=by
       have:=(List.getElem?_eq_some_iff.1 h1).1;simpa using this
      rw[hj0]at h1 h2;simp at h1 h2;subst h1 h2;exact hx
    ·intro y hy r rL;rcases List.mem_append.1 hy with hy|hy
     ·rcases hr.refs y hy r rL with h1|h1
      ·exact .inl (by simp[h1])
      ·rcases List.mem_cons.1 h1 with rfl|h1
       ·exact .inl (by simp)
       ·exact .inr (by simp[h1])
     ·simp at hy;subst hy;exact .inr (by simp[rL])
    ·intro r rL;rcases hr.root r rL with h1|h1
     ·exact .inl (by simp[h1])
     ·rcases List.mem_cons.1 h1 with rfl|h1
      ·exact .inl (by simp)
      ·exact .inr (by simp[h1])
   ·simp[Ask.val]at h
noncomputable section
variable {W:World} {bP:Hp} {β₀ β:Env} {hp:Hp} {w:World}
theorem Il{h:Value}{t:Ty}{l:List t.D}(hk:eY β w h t l){b:Nat}(hb:inBlock h b):∃a n c,h= .slice (some a) n c∧0<c∧a.block=b:=by
 obtain⟨a,n,c,rfl,h1,h2,h3,_⟩:=hk;cases a with
 |none=>exact hb.elim
 |some a=>exact⟨a,n,c,rfl,by have:=hb.1;omega,hb.2⟩
theorem arn{h v:Value}{k:Nat}{z n:Int}(hs:z9 h k z n v){b:Nat}(hb:inBlock v b):inBlock h b:=by
 obtain⟨a,m,c,a',c',rfl,z0,n0,hle,rfl,uK,_,ha⟩:=hs;cases a' with
 |none=>exact hb.elim
 |some a2=>
  have h0:=hb.1;obtain⟨a0,rfl,e⟩:=ha (by omega);simp at e;subst e;exact⟨by omega,by have:=hb.2;rwa [fY]at this⟩
theorem Su(h:cN W bP β₀ β hp w){t:Ty}{s:SV}{pm:Bool}{l:List t.D}{v:Value}(hc:(ly t s).val hp=some (pm,l))(hd:s.den β (kd hp) v){b:Nat}(hb:inBlock v b):(b<w.heap.size∧¬fb hp β b)∨∃i x,hp[i]? =some (some x)∧dM β x i b∧i∈s.refs:=by
 unfold ly at hc;split at hc
 ·exact .inl ((h.aDR hd.2.2).2 b hb)
 ·obtain⟨_,rfl⟩:=hd;exact hb.elim
 ·rename_i i ver;simp only[Ask.val]at hc;split at hc
  ·rename_i ver' t' l' hi;split at hc
   ·split at hc
    ·rename_i e;subst e;obtain⟨_,hd⟩:=hd;obtain⟨h1,rfl⟩:=h.rY (p:=fun x=>v=x) (cf hi) hd;exact .inr ⟨i,_,cf hi,Il h1 hb,by simp[SV.refs]⟩
    ·cases hc
   ·cases hc
  ·cases hc
 ·rename_i i ver w' z n;simp only[Ask.val]at hc;split at hc
  ·rename_i ver' t' l' hi;split at hc
   ·split at hc
    ·rename_i e;obtain⟨rfl,rfl⟩:=e;obtain⟨_,hd⟩:=hd;obtain⟨h1,h2⟩:=h.rY (p:=fun x=>z9 x _ z n v) (cf hi) hd;exact .inr ⟨i,_,cf hi,Il h1 (arn h2 hb),by simp[SV.refs]⟩
    ·cases hc
   ·cases hc
  ·cases hc
 ·rename_i b' o t' m z n;simp only[Ask.val]at hc;split at hc
  ·rename_i cells elem hi;obtain⟨_,z0,n0,zn,a',c',rfl,uK,_,ha⟩:=hd;refine .inr ⟨b',_,cf hi,?_,by simp[SV.refs]⟩;show b=β.b b';cases a' with
   |none=>exact hb.elim
   |some a'=>
    have h0:=hb.1;have e:=ha (by omega);simp at e;subst e;rw[← hb.2,fY]
  ·cases hc
 ·rename_i b' o len cap;simp only[Ask.val]at hc;split at hc
  ·rename_i cells elem hi;obtain⟨_,rfl⟩:=hd;exact .inr ⟨b',_,cf hi,hb.2.symm,by simp[SV.refs]⟩
  ·cases hc
 ·simp[Ask.val]at hc
def afE(β:Env)(own:Nat→Prop)(w:World)(v:Value)(t:Ty)(l:List t.D):Prop:=dw β false w v t l∧∀b,inBlock v b→b<w.heap.size∧¬own b
def Env.OI(β:Env)(own:Nat→Prop)(w:World):Env:=⟨β.b,β.h,fun pm v t l=>match pm with
 |true=>β.rd true v t l
 |false=>afE β own w v t l⟩
def OJ(β:Env)(own:Nat→Prop)(w:World)(v:Value)(t:Ty)(l:List t.D):Prop:=dw (β.OI own w) false w v t l∧∀b,inBlock v b→b<w.heap.size∧¬own b
def Env.can(β:Env)(own:Nat→Prop)(w:World)(lent:Bool)(ids:List Nat):Env:=⟨fun j=>β.b (ids.getD j 0),fun j=>β.h (ids.getD j 0),fun pm v t l=>match pm with
 |true=>β.rd true v t l
 |false=>β.rd false v t l∨(lent=true∧OJ β own w v t l)⟩
theorem cN.OI(h:cN W bP β₀ β hp w){own:Nat→Prop}(ho:∀b,own b→fb hp β b):∀pm v t l,β.rd pm v t l→(β.OI own w).rd pm v t l:=by
 intro pm v t l hr;cases pm with
 |true=>exact hr
 |false=>
  obtain⟨h1,h2⟩:=h.reads _ _ _ _ hr;exact⟨h1,fun b hb=>⟨(h2 b hb).1,fun k=>(h2 b hb).2 (ho b k)⟩⟩
theorem cN.afF(h:cN W bP β₀ β hp w){own:Nat→Prop}(ho:∀b,own b→fb hp β b){v:Value}{t:Ty}{l:List t.D}(hl:afE β own w v t l):OJ β own w v t l:=⟨hl.1.mono (h.OI ho),hl.2⟩
def OK(t:Ty)(s:SV):Ask (Option (List t.D)):=(ly t s).map (·.map (·.2))
theorem OL(h:cN W bP β₀ β hp w){t:Ty}{s:SV}{l:List t.D}{v:Value}(hc:(OK t s).val hp=some l)(hd:s.den β (kd hp) v){own:Nat→Prop} (ho:∀b,own b→∃i x,hp[i]? =some (some x)∧dM β x i b∧i∉s.refs):afE β own w v t l:=by
 unfold OK at hc;rw[Ask.fc]at hc;obtain⟨⟨pm,l'⟩,hc1,he⟩:=map_some hc;clear hc;cases he;have hc:=hc1;have h1:=pC h hc hd;have h2:dw β false w v t l':=by
  cases pm with
  |true=>exact h1.abV
  |false=>exact h1
 refine⟨h2,fun b hb=>?_⟩;rcases Su h hc hd hb with⟨h3,h4⟩|⟨i,x,h3,h4,h5⟩
 ·refine⟨h3,fun k=>?_⟩;obtain⟨i,x,k1,k2,_⟩:=ho b k;exact h4 ⟨i,x,k1,k2⟩
 ·refine⟨(h.items i x h3).lt h4,fun k=>?_⟩;obtain⟨j,y,k1,k2,k3⟩:=ho b k;have:=h.inj i j x y b h3 k1 h4 k2;subst this;exact k3 h5
def OM(t:Ty):List SV→Ask (Option (List (List t.D)))
 | []=>.ret (some [])
 |s::r=>(OK t s).bind fun x=>match x with
  |some l=>(OM t r).map (·.map (l:: ·))
  |none=>.ret none
theorem ON(h:cN W bP β₀ β hp w){t:Ty}{own:Nat→Prop}:∀ {row:List SV} {ls:List (List t.D)} {vs:List Value},(OM t row).val hp=some ls→dc β (kd hp) row vs→
  (∀b,own b→∃i x,hp[i]? =some (some x)∧dM β x i b∧i∉row.flatMap SV.refs)→cI ((Ty.sl t).has (β.OI own w) false) ls vs
 | [],ls,vs,hc,hd,_=>by
  simp[OM,Ask.val]at hc;subst hc;cases hd;exact .nil
 |s::row,ls,_,hc,.cons (vs:=us) h1 h2,ho=>by
  simp only[OM]at hc;rw[Ask.gC]at hc;split at hc
  ·rename_i l hl;rw[Ask.fc]at hc;obtain⟨ls',uK,rfl⟩:=map_some hc;have hs:∀t n l,s≠ .arr t n l:=by
    intro t' n l' e;subst e;simp[OK,ly,Ask.val,Ask.map,Ask.bind]at hl
   obtain⟨v,rfl,hv⟩:=SV.lj h1 hs;refine .cons ⟨v,rfl,SV.dn hv,.inr (.inl ⟨rfl,?_⟩)⟩ (ON h uK h2 fun b hb=>?_)
   ·exact OL h hl hv fun b hb=>by
     obtain⟨i,x,k1,k2,k3⟩:=ho b hb;exact⟨i,x,k1,k2,fun hm=>k3 (by simp[hm])⟩
   ·obtain⟨i,x,k1,k2,k3⟩:=ho b hb;exact⟨i,x,k1,k2,fun hm=>k3 (by rw[List.flatMap_cons];exact List.mem_append_right _ hm)⟩
  ·simp[Ask.val]at hc
def aro(t:Ty)(s:SV):Ask (Option (SV×List Nat)):=match t,s with
 | .sl t',.slice b o len cap=>.get b fun x=>match x with
  |some (.cK cells _)=>match(if len≤cap then abW cells o len else none)with
   |some row=>(OM t' row).map (·.map fun ls=>(.rd false false (.sl t') ls,b::row.flatMap SV.refs))
   |none=>.ret none
  |_=>.ret none
 |t,s=>(OK t s).map (·.map fun l=>(.rd false false t l,s.refs))
theorem Xb(h:cN W bP β₀ β hp w){t:Ty}{s s':SV}{lids:List Nat}{v:Value}(hc:(aro t s).val hp=some (s',lids))(hd:s.den β (kd hp) v){own:Nat→Prop} (ho:∀b,own b→∃i x,hp[i]? =some (some x)∧dM β x i b∧i∉lids):∃l,s'= .rd false false t l∧OJ β own w v t l:=by
 have lk:∀b,own b→fb hp β b:=fun b hb=>let ⟨i,x,h1,h2,_⟩:=ho b hb;⟨i,x,h1,h2⟩;unfold aro at hc;split at hc
 ·rename_i t' b o len cap;simp only[Ask.val]at hc;split at hc
  ·rename_i cells elem hi;split at hc
   ·rename_i row lX;rw[Ask.fc]at hc;obtain⟨ls,hl,he⟩:=map_some hc;cases he;split at lX
    ·rename_i hlc;obtain⟨_,rfl⟩:=hd;obtain⟨cs,fz,h1,h2,h3⟩:=h.items _ _ (cf hi);obtain⟨pre,mid,post,rfl,e1,e2,h4⟩:=tg lX h3
     have h5:=ON h hl h4 (own:=own) fun b hb=>by
      obtain⟨i,x,k1,k2,k3⟩:=ho b hb;exact⟨i,x,k1,k2,fun hm=>k3 (List.mem_cons_of_mem _ hm)⟩
     have hlen:mid.length=ls.length:=(by rw[dh h5];simp[Ty.w]);subst e1;refine⟨ls,rfl,⟨_,_,_,rfl,by omega,hlc,(fun e=>by cases e),fun _=>⟨_,mid,rfl,rfl,h5,gI h1⟩⟩,fun b' mw=>?_⟩;have eb:b'=β.b b:=mw.2.symm;subst eb;refine⟨(Array.getElem?_eq_some_iff.1 h1).1,fun k=>?_⟩;obtain⟨i,x,k1,k2,k3⟩:=ho _ k;have:=h.inj i b x _ _ k1 (cf hi) k2 rfl;subst this;exact k3 (by simp)
    ·cases lX
   ·simp[Ask.val]at hc
  ·simp[Ask.val]at hc
 ·rw[Ask.fc]at hc;obtain⟨l,hl,he⟩:=map_some hc;cases he;exact⟨l,rfl,h.afF lk (OL h hl hd ho)⟩
def aXD:SV→Bool
 | .sl _ _| .slice _ _ _ _| .rd _ _ _ _| .vw _ _ _ _ _| .vb _ _ _ _ _ _=>true
 | .gm (.slice none 0 0)=>true
 |_=>false
def l5(t:Ty):List SV→Ask (List SV×List Nat)
 | []=>.ret ([],[])
 |s::r=>if aXD s=true then(aro t s).bind fun y=>match y with
   |some (s',b1)=>(l5 t r).map fun(l,b)=>(s'::l,b1++b)
   |none=>(l5 t r).map fun(l,b)=>(s::l,b)
  else(l5 t r).map fun(l,b)=>(s::l,b)
theorem Dh(h:cN W bP β₀ β hp w){f:ur}{βc:Env}{L':Nat→Option Kd}(Oa:si f β βc (kd hp) L' false){own:Nat→Prop}{t:Ty}(hl:∀v l,OJ β own w v t l→βc.rd false v t l):
  ∀ {l l':List SV} {lids:List Nat} {vs:List Value},(l5 t l).val hp=(l',lids)→dc β (kd hp) l vs→
   (∀b,own b→∃i x,hp[i]? =some (some x)∧dM β x i b∧i∉lids)→dc βc L' (l'.map (SV.dD f)) vs
 | [],l',lids,_,hc,hd,_=>by
  cases hd;have uK:(([]:List SV),([]:List Nat))=(l',lids):=hc;cases uK;exact .nil
 |s::r,l',lids,_,hc,.cons (vs:=vs) h1 h2,ho=>by
  have same:∀ {l':List SV} {lids:List Nat},((l5 t r).map fun(l,b)=>(s::l,b)).val hp=(l',lids)→(∀b,own b→∃i x,hp[i]? =some (some x)∧dM β x i b∧i∉lids)→dc βc L' (l'.map (SV.dD f)) (vs++_):=fun {l' lids} hc ho=>by
   rw[Ask.fc]at hc;have e1:l'=s::((l5 t r).val hp).1:=(congrArg Prod.fst hc).symm;have e2:lids=((l5 t r).val hp).2:=(congrArg Prod.snd hc).symm;subst e1;rw[e2]at ho;have ih:=Dh h Oa hl (l:=r) (l':=((l5 t r).val hp).1) (lids:=((l5 t r).val hp).2) rfl h2 ho;have hs:dc βc L' ([s].map (SV.dD f)) (vs++ []):=dc.Gf Oa (by simp) (cI.cons h1 cI.nil);rw[List.append_nil]at hs;exact hs.append ih
  simp only[l5]at hc;split at hc
  ·rename_i ru;rw[Ask.gC]at hc;split at hc
   ·rename_i s' b1 hs;rw[Ask.fc]at hc;have e1:l'=s'::((l5 t r).val hp).1:=(congrArg Prod.fst hc).symm;have e2:lids=b1++((l5 t r).val hp).2:=(congrArg Prod.snd hc).symm;subst e1;rw[e2]at ho;have hna:∀t n l,s≠ .arr t n l:=fun _ _ _ e=>(by subst e;cases ru);obtain⟨v,rfl,hv⟩:=SV.lj h1 hna
    obtain⟨l2,rfl,h3⟩:=Xb h hs hv (own:=own) fun b hb=>by
     obtain⟨i,x,k1,k2,k3⟩:=ho b hb;exact⟨i,x,k1,k2,fun hm=>k3 (List.mem_append_left _ hm)⟩
    refine .cons (vs:= [v]) ⟨v,rfl,SV.dn hv,(fun e=>by cases e),.inr (.inl ⟨rfl,hl _ _ h3⟩)⟩ (Dh h Oa hl (l:=r) (l':=((l5 t r).val hp).1) (lids:=((l5 t r).val hp).2) rfl h2 fun b hb=>?_);obtain⟨i,x,k1,k2,k3⟩:=ho b hb;exact⟨i,x,k1,k2,fun hm=>k3 (List.mem_append_right _ hm)⟩
   ·exact same hc ho
  ·exact same hc ho
def iE:List (Option Ty)→List LV→Ask (Option (List LV×List Nat))
 |_,[]=>.ret (some ([],[]))
 | [],x::xs=>(iE [] xs).map (·.map fun(l,b)=>(x::l,b))
 |none::ts,x::xs=>(iE ts xs).map (·.map fun(l,b)=>(x::l,b))
 |some t::ts,.one (.sc s)::xs=>(aro t s).bind fun y=>match y with
  |some (s',b1)=>(iE ts xs).map (·.map fun(l,b)=>(.one (.sc s')::l,b1++b))
  |none=>.ret none
 |some t::ts,.one (.agg l)::xs=>(l5 t l).bind fun y=>(iE ts xs).map (·.map fun(r,b)=>(.one (.agg y.1)::r,y.2++b))
 |some _::_,_=>.ret none
theorem l7(h:cN W bP β₀ β hp w){f:ur}{βc:Env}{L':Nat→Option Kd}(Oa:si f β βc (kd hp) L' false){own:Nat→Prop}:
  ∀ {ts:List (Option Ty)} {xs cs:List LV} {lids:List Nat} {vs:List Value},(iE ts xs).val hp=some (cs,lids)→dC (LV.den β (kd hp)) xs vs→
   (∀t,some t∈ts→∀v l,OJ β own w v t l→βc.rd false v t l)→
   (∀b,own b→∃i x,hp[i]? =some (some x)∧dM β x i b∧i∉lids)→dC (LV.den βc L') (cs.map (LV.dD f)) vs
 |ts,[],cs,lids,_,hc,hd,_,_=>by
  cases hd;have uK:some (([]:List LV),([]:List Nat))=some (cs,lids):=by
   cases ts with
   |nil=>exact hc
   |cons a b=>cases a<;>exact hc
  cases uK;exact .nil
 | [],x::xs,_,_,_,hc,.cons h1 h2,hl,ho=>by
  simp only[iE]at hc;rw[Ask.fc]at hc;obtain⟨⟨l,b⟩,uK,he⟩:=map_some hc;cases he;exact .cons (LV.gD Oa (by simp) h1) (l7 h Oa uK h2 hl ho)
 |none::ts,x::xs,_,_,_,hc,.cons h1 h2,hl,ho=>by
  simp only[iE]at hc;rw[Ask.fc]at hc;obtain⟨⟨l,b⟩,uK,he⟩:=map_some hc;cases he;exact .cons (LV.gD Oa (by simp) h1) (l7 h Oa uK h2 (fun t ht=>hl t (List.mem_cons_of_mem _ ht)) ho)
 |some t::ts,x::xs,_,_,_,hc,.cons h1 h2,hl,ho=>by
  cases x with
  |one x=>
   cases x with
   |sc s=>
    simp only[iE]at hc;rw[Ask.gC]at hc;split at hc
    ·rename_i s' b1 hs;rw[Ask.fc]at hc;obtain⟨⟨l,b⟩,uK,he⟩:=map_some hc;cases he
     obtain⟨l',rfl,h3⟩:=Xb h hs h1 (own:=own) fun b hb=>by
      obtain⟨i,x,k1,k2,k3⟩:=ho b hb;exact⟨i,x,k1,k2,fun hm=>k3 (List.mem_append_left _ hm)⟩
     refine .cons ⟨SV.dn h1,(fun e=>by cases e),.inr (.inl ⟨rfl,hl t (by simp) _ _ h3⟩)⟩ (l7 h Oa uK h2 (fun t ht=>hl t (List.mem_cons_of_mem _ ht)) fun b hb=>?_);obtain⟨i,x,k1,k2,k3⟩:=ho b hb;exact⟨i,x,k1,k2,fun hm=>k3 (List.mem_append_right _ hm)⟩
    ·simp[Ask.val]at hc
   |agg l=>
    simp only[iE]at hc;rw[Ask.gC,Ask.fc]at hc;obtain⟨⟨l',b⟩,uK,he⟩:=map_some hc;cases he;obtain⟨cells,rfl,h3⟩:=h1;refine .cons ⟨cells,rfl,Dh h Oa (fun v l h=>hl t (by simp) v l h) (l:=l) (l':=((l5 t l).val hp).1) (lids:=((l5 t l).val hp).2) rfl h3 fun b hb=>?_⟩ (l7 h Oa uK h2 (fun t ht=>hl t (List.mem_cons_of_mem _ ht)) fun b hb=>?_)
    ·obtain⟨i,x,k1,k2,k3⟩:=ho b hb;exact⟨i,x,k1,k2,fun hm=>k3 (List.mem_append_left _ hm)⟩
    ·obtain⟨i,x,k1,k2,k3⟩:=ho b hb;exact⟨i,x,k1,k2,fun hm=>k3 (List.mem_append_right _ hm)⟩
  |dB l=>simp[iE,Ask.val]at hc
  |dT=>simp[iE,Ask.val]at hc
theorem dM.dD{f:ur}{u:Nat→Nat}{β β':Env}{x:bE}{i j b:Nat}(hb:β'.b j=β.b i)(hh:β'.h j=β.h i):dM β' (x.dD f u) j b↔dM β x i b:=by
 cases x<;>simp only[bE.dD,dM,hb,hh]
def rF(ids:List Nat)(xs:List bE)(i:Nat):Nat:=match lA ids i with
 |some j=>match xs[j]? with
  |some x=>x.ver
  |none=>0
 |none=>0
abbrev we(ids:List Nat)(xs:List bE):ur:=.fwd (lA ids) (rF ids xs)
def gR(ids:List Nat)(xs:List bE):Hp:=xs.map fun x=>some (x.dD (we ids xs) fun _=>0)
theorem ky{roots ids:List Nat}{xs:List bE}(hr:Reached hp roots ids xs []){j:Nat}{y:bE}(h:(gR ids xs)[j]? =some (some y)):∃i x,ids[j]? =some i∧hp[i]? =some (some x)∧xs[j]? =some x∧y=x.dD (we ids xs) fun _=>0:=by
 unfold gR at h;rw[List.getElem?_map]at h;obtain⟨x,hx,he⟩:=map_some h;simp at he;subst he;have hj:j<ids.length:=by rw[hr.len];exact(List.getElem?_eq_some_iff.1 hx).1
 have hi:ids[j]? =some ids[j]:=List.getElem?_eq_getElem hj;exact⟨_,x,hi,cf (hr.at_ _ _ _ hi hx),hx,rfl⟩
theorem za{roots ids:List Nat}{xs:List bE}(hr:Reached hp roots ids xs []){i j:Nat}(h:ids[j]? =some i):∃x,hp[i]? =some (some x)∧xs[j]? =some x∧(gR ids xs)[j]? =some (some (x.dD (we ids xs) fun _=>0)):=by
 have hj:j<xs.length:=by rw[← hr.len];exact(List.getElem?_eq_some_iff.1 h).1
 have hx:xs[j]? =some xs[j]:=List.getElem?_eq_getElem hj;refine⟨_,cf (hr.at_ _ _ _ h hx),hx,?_⟩;unfold gR;rw[List.getElem?_map,hx];rfl
theorem Im{roots ids:List Nat}{xs:List bE}(hr:Reached hp roots ids xs []){i j:Nat}(h:ids[j]? =some i){x:bE}(hx:hp[i]? =some (some x)):rF ids xs i=x.ver:=by
 obtain⟨y,h1,h2,_⟩:=za hr h;rw[hx]at h1;cases h1;simp only[rF,kv hr.nodup h,h2]
def pL(hp:Hp)(β:Env)(ids:List Nat)(b:Nat):Prop:=∃i x,hp[i]? =some (some x)∧dM β x i b∧i∈ids
theorem fv{l:List Nat}{j i:Nat}(h:l[j]? =some i):l.getD j 0=i:=by rw[List.getD_eq_getElem?_getD,h];rfl
theorem tq{roots ids:List Nat}{xs:List bE}(hr:Reached hp roots ids xs []){own:Nat→Prop}{lent:Bool}{b:Nat}(h:fb (gR ids xs) (β.can own w lent ids) b):pL hp β ids b:=by
 obtain⟨j,y,hj,ho⟩:=h;obtain⟨i,x,h1,h2,_,rfl⟩:=ky hr hj;refine⟨i,x,h2,?_,List.mem_of_getElem? h1⟩;exact(dM.dD (by show β.b _=_;rw[fv h1]) (by show β.h _=_;rw[fv h1])).1 ho
theorem Di{roots ids:List Nat}{xs:List bE}(hr:Reached hp roots ids xs []){own:Nat→Prop}{lent:Bool}:si (we ids xs) β (β.can own w lent ids) (kd hp) (kd (gR ids xs)) false:=by
 refine⟨fun b j hj hb=>?_,fun i j c hj hi=>?_,fun v t l h=>h,fun _ v t l h=>.inl h⟩
 ·have h1:=jz hj;obtain⟨x,h2,h3,h4⟩:=za hr h1;refine⟨?_,by show β.b _=_;rw[fv h1]⟩;rw[fM h2]at hb;rw[fM h4,bE.mQ,Option.some.inj hb];rfl
 ·have h1:=jz hj;obtain⟨x,h2,h3,h4⟩:=za hr h1;rw[fM h2]at hi;have hk:=Option.some.inj hi;refine⟨0,?_,by show β.h _=_;rw[fv h1],fun v v' _ hv=>?_⟩
  ·rw[fM h4,bE.mQ,hk];rfl
  ·have hv':(if v=rF ids xs i then some 0 else none)=some v':=hv;split at hv'
   ·rename_i e;cases hv';refine⟨Nat.le_refl _,fun _=>?_⟩;rw[e,Im hr h1 h2];cases x with
    |cK _ _=>cases hk
    |own _ _ _=>cases hk;rfl
    |gone _=>cases hk;rfl
    |qn _ _ _=>cases hk
   ·cases hv'
theorem arp(h:cN W bP β₀ β hp w){roots ids:List Nat}{xs:List bE}(hr:Reached hp roots ids xs []){lent:Bool}:cN w (gR ids xs) (β.can (pL hp β ids) w lent ids) (β.can (pL hp β ids) w lent ids) (gR ids xs) w:=by
 have lk:∀b,pL hp β ids b→fb hp β b:=fun b ⟨i,x,h1,h2,_⟩=>⟨i,x,h1,h2⟩;refine⟨fun j y hj=>?_,fun j k y z b hj hk h1 h2=>?_,dx.refl _ _,fun i x b hi ho=>.inr ⟨x,hi,ho⟩,rfl,rfl,Nat.le_refl _,fun _ _ _=>rfl,fun pm v t l mN=>?_,fun pm v t l b h1 h2=>.inr ⟨pm,v,t,l,id,h1,h2⟩⟩
 ·obtain⟨i,x,h1,h2,_,rfl⟩:=ky hr hj;refine gb.Gf (Di hr) (by simp) (fun _=>?_) ?_ (h.items i x h2)
  ·show β.b _=_;rw[fv h1]
  ·show β.h _=_;rw[fv h1]
 ·obtain⟨i1,x1,a1,a2,_,rfl⟩:=ky hr hj;obtain⟨i2,x2,b1,b2,_,rfl⟩:=ky hr hk;have e:=h.inj i1 i2 x1 x2 b a2 b2 ((dM.dD (by show β.b _=_;rw[fv a1]) (by show β.h _=_;rw[fv a1])).1 h1) ((dM.dD (by show β.b _=_;rw[fv b1]) (by show β.h _=_;rw[fv b1])).1 h2);subst e;have e1:=kv hr.nodup a1;have e2:=kv hr.nodup b1;rw[e1]at e2;exact Option.some.inj e2
 ·have aMB:∀pm v t l,β.rd pm v t l→(β.can (pL hp β ids) w lent ids).rd pm v t l:=by
   intro pm v t l hr;cases pm with
   |true=>exact hr
   |false=>exact .inl hr
  have hold:∀pm v t l,β.rd pm v t l→dw (β.can (pL hp β ids) w lent ids) pm w v t l∧∀b,inBlock v b→b<w.heap.size∧¬fb (gR ids xs) (β.can (pL hp β ids) w lent ids) b:=by
   intro pm v t l mN;obtain⟨h1,h2⟩:=h.reads _ _ _ _ mN;exact⟨h1.mono aMB,fun b hb=>⟨(h2 b hb).1,fun k=>(h2 b hb).2 (lk b (tq hr k))⟩⟩
  cases pm with
  |true=>exact hold true v t l mN
  |false=>
   rcases mN with mN|⟨hl,h1,h2⟩
   ·exact hold false v t l mN
   ·refine⟨h1.mono fun pm v t l hr=>?_,fun b hb=>⟨(h2 b hb).1,fun k=>(h2 b hb).2 (tq hr k)⟩⟩;cases pm with
    |true=>exact hr
    |false=>exact .inr ⟨hl,h.afF lk hr⟩
end
abbrev bE.bk(g vb:Nat→Nat)(j:Nat)(x:bE):bE:=x.dD (.bwd g vb) (· +vb (g j))
def Io(g vb:Nat→Nat)(d:List (Nat×bE)):List (Nat×bE):=d.map fun(j,x)=>(g j,x.bk g vb j)
theorem OO{g vb:Nat→Nat}{d:List (Nat×bE)}{i:Nat}{y:bE}:(i,y)∈Io g vb d↔∃j x,(j,x)∈d∧i=g j∧y=x.bk g vb j:=by
 unfold Io;rw[List.mem_map];constructor
 ·rintro⟨⟨j,x⟩,h,e⟩;simp at e;exact⟨j,x,h,e.1.symm,e.2.symm⟩
 ·rintro⟨j,x,h,rfl,rfl⟩;exact⟨(j,x),h,rfl⟩
structure Mir (g vb:Nat→Nat) (J U:Nat→Prop) (lent:Bool) (Gb hpc hp:Hp):Prop where
 live:∀ (j:Nat) (y:bE),hpc[j]? =some (some y)→J j
 fwd:∀ (j:Nat) (y:bE),hpc[j]? =some (some y)→hp[g j]? =some (some (y.bk g vb j))
 bwd:∀ (i:Nat) (x:bE),hp[i]? =some (some x)→(∃ (j:Nat) (y:bE),hpc[j]? =some (some y)∧g j=i)∨(Gb[i]? =some (some x)∧U i)
 nr:lent=true→∀ (j:Nat) (y:bE),hpc[j]? =some (some y)→y.nr=true
theorem GN{g vb:Nat→Nat}{J U:Nat→Prop}{lent:Bool}{Gb:Hp}(arq:∀j k,J j→J k→g j=g k→j=k):
  ∀ (d:List (Nat×bE)) {hpc hp:Hp},(∀j x,(j,x)∈d→J j)→(lent=true→d.all (fun p=>p.2.nr)=true)→Mir g vb J U lent Gb hpc hp→Mir g vb J U lent Gb (cq d hpc) (cq (Io g vb d) hp)
 | [],_,_,_,_,h=>h
 |(j,x)::d,hpc,hp,hJ,hn,h=>by
  refine GN arq d (hpc:=cL hpc j x) (hp:=cL hp (g j) (x.bk g vb j)) (fun j' x' hm=>hJ j' x' (List.mem_cons_of_mem _ hm)) (fun e=>by have:=hn e;simp only[List.all_cons,Bool.and_eq_true]at this;exact this.2) ?_;have hj:J j:=hJ j x (by simp);refine⟨fun k y hk=>?_,fun k y hk=>?_,fun i z hi=>?_,fun e k y hk=>?_⟩
  ·by_cases hkj:k=j
   ·exact hkj▸hj
   ·exact h.live k y ((eh hpc j x k y hkj).1 hk)
  ·by_cases hkj:k=j
   ·subst hkj;rw[fR]at hk;simp at hk;subst hk;exact fR _ _ _
   ·have px:=(eh hpc j x k y hkj).1 hk;have ko:g k≠g j:=fun e=>hkj (arq k j (h.live k y px) hj e);exact(eh hp (g j) _ (g k) _ ko).2 (h.fwd k y px)
  ·by_cases hij:i=g j
   ·subst hij;exact .inl ⟨j,x,fR _ _ _,rfl⟩
   ·rcases h.bwd i z ((eh hp (g j) _ i z hij).1 hi)with⟨k,y,hk,e⟩|k
    ·refine .inl ⟨k,y,(eh hpc j x k y fun e'=>hij ?_).2 hk,e⟩;rw[← e,e']
    ·exact .inr k
  ·by_cases hkj:k=j
   ·subst hkj;rw[fR]at hk;simp at hk;subst hk;have:=hn e;simp only[List.all_cons,Bool.and_eq_true]at this;exact this.1
   ·exact h.nr e k y ((eh hpc j x k y hkj).1 hk)
structure bT where
 tys:List (Option Ty)
 run:List LV→Hp→Out
def lB(P:Program)(f:FuncId)(args:List LV)(hp:Hp)(R:LV→Hp→Prop):Prop:=∀ (β:Env) (w:World) (vals:List Value),cN w hp β β hp w→dC (LV.den β (kd hp)) args vals→ab5 P f vals.toArray w fun e w'=>∃val β' r dZ,e= .returned val∧R r dZ∧r.den β' (kd dZ) val∧cN w hp β β' dZ w'
theorem il.done{P:Program}{f:FuncId}(he:oT P f){args:List LV}{hp:Hp}{R:LV→Hp→Prop}(h:il P f args hp R):lB P f args hp R:=fun β w vals hh ha=>.inr ⟨he,h β w vals hh ha⟩
structure bT.Ok (P:Program) (f:FuncId) (e:bT):Prop where
 calls:∀args hp Q,(e.run args hp).holds Q→lB P f args hp fun v dZ=>∃d,Q v d∧dZ=cq d hp
def Out.back(g vb:Nat→Nat)(lent:Bool):Out→Out
 | .bN q v d=>if lent=true∧(v.nr&&d.all fun p=>p.2.nr)=false then .fail else .bN q (v.dD (.bwd g vb)) (Io g vb d)
 | .ite b x y=>.ite b (x.back g vb lent) (y.back g vb lent)
 | .fail=>.fail
theorem uP{g vb:Nat→Nat}{lent:Bool}{id:Nat}{hp:Hp}{Q:LV→List (Nat×bE)→Prop}:∀ {o:Out},(o.back g vb lent).fresh id hp→(o.back g vb lent).holds Q→
  o.holds fun v d=>(lent=true→v.nr=true∧(d.all fun p=>p.2.nr)=true)∧W6 id hp (Io g vb d)∧Q (v.dD (.bwd g vb)) (Io g vb d)
 | .bN q v d,hf,h=>by
  simp only[Out.back]at hf h;split at h
  ·exact h.elim
  ·rename_i hc;rw[if_neg hc]at hf;refine⟨h.1,fun e=>?_,hf,h.2⟩;have:(v.nr&&d.all fun p=>p.2.nr)=true:=by
    cases hx:(v.nr&&d.all fun p=>p.2.nr)with
    |true=>rfl
    |false=>exact absurd ⟨e,hx⟩ hc
   simpa using this
 | .ite b x y,hf,h=>⟨fun e=>uP hf.1 (h.1 e),fun e=>uP hf.2 (h.2 e)⟩
 | .fail,_,h=>h
def An(ids:List Nat)(id j:Nat):Nat:=match ids[j]? with
 |some i=>i
 |none=>id+(j-ids.length)
def Xc(e:bT)(id:Nat)(args:List LV):Ask Out:=(iE e.tys args).bind fun x=>match x with
 |none=>.ret .fail
 |some (OP,lids)=>(mz 1000 (OP.flatMap LV.refs) [] []).bind fun y=>match y with
  |none=>.ret .fail
  |some (ids,xs)=>
   if lids.any (fun i=>decide (i∈ids))=true∨(e.tys.any (·.isSome)=true∧xs.all bE.nr=false)then .ret .fail
   else if xs.all (bE.cur (rF ids xs))=false then .ret .fail
   else .ret ((e.run (OP.map (LV.dD (we ids xs))) (gR ids xs)).back (An ids id) (rF ids xs) (e.tys.any (·.isSome)))
noncomputable section
variable {α:Type}
def uQ(hp:Hp)(ids:List Nat)(id:Nat)(F F0:Nat→α)(i:Nat):α:=match lA ids i with
 |some j=>F j
 |none=>if kd hp i=none∧id≤i then F (ids.length+(i-id))else F0 i
end
theorem afG{P:Program}{f:FuncId}{e:bT}(he:e.Ok P f){id:Nat}{args:List LV}{hp:Hp}(hf:((Xc e id args).val hp).fresh id hp){Q:LV→List (Nat×bE)→Prop}(h:((Xc e id args).val hp).holds Q) {β:Env} {w:World} {vals:List Value} (hh:cN w hp β β hp w) (dt:dC (LV.den β (kd hp)) args vals):ab5 P f vals.toArray w fun e w'=>∃v d val β',Q v d∧e= .returned val∧v.den β' (kd (cq d hp)) val∧cN w hp β β' (cq d hp) w':=by
 unfold Xc at h hf;rw[Ask.gC]at h hf;split at h
 ·exact h.elim
 rename_i OP lids hl;rw[hl]at hf;simp only at hf;rw[Ask.gC]at h hf;split at h
 ·exact h.elim
 rename_i ids xs afH;rw[afH]at hf;simp only at hf;split at h
 ·exact h.elim
 rename_i rC;rw[if_neg rC]at hf;split at h
 ·exact h.elim
 rename_i hcu;rw[if_neg hcu]at hf;have aXH:xs.all (bE.cur (rF ids xs))=true:=by simpa using hcu
 simp only[Ask.val]at h hf;have Sj:∀i∈lids,i∉ids:=fun i hi hm=>rC (.inl (by rw[List.any_eq_true];exact⟨i,hi,by simpa using hm⟩))
 have aXI:e.tys.any (·.isSome)=true→xs.all bE.nr=true:=fun e1=>by
  cases hx:xs.all bE.nr with
  |true=>rfl
  |false=>exact absurd (.inr ⟨e1,hx⟩) rC
 have aMC:∀t,some t∈e.tys→e.tys.any (·.isSome)=true:=fun t ht=>by rw[List.any_eq_true];exact⟨_,ht,rfl⟩
 generalize e.tys.any (·.isSome)=lent at*;have hR:Reached hp (OP.flatMap LV.refs) ids xs []:=wc 1000 _ [] [] ⟨List.nodup_nil,rfl,fun _ _ _ h=>by simp at h,fun _ h=>by simp at h,fun r h=>.inr h⟩ afH;generalize Ip:β.can (pL hp β ids) w lent ids=βc;have aXJ:cN w (gR ids xs) βc βc (gR ids xs) w:=Ip▸arp hh hR;have Ao:si (we ids xs) β βc (kd hp) (kd (gR ids xs)) false:=Ip▸Di hR;have hcb:∀ {j i},ids[j]? =some i→βc.b j=β.b i:=fun hj=>by subst Ip;show β.b _=_;rw[fv hj]
 have hch:∀ {j i},ids[j]? =some i→βc.h j=β.h i:=fun hj=>by subst Ip;show β.h _=_;rw[fv hj]
 have aEd:dC (LV.den βc (kd (gR ids xs))) (OP.map (LV.dD (we ids xs))) vals:=by
  refine l7 hh Ao (own:=pL hp β ids) hl dt (fun t ht v l iZ=>?_) fun b ⟨i,x,h1,h2,h3⟩=>⟨i,x,h1,h2,fun hm=>Sj i hm h3⟩;subst Ip;exact .inr ⟨aMC t ht,iZ⟩
 refine(he.calls _ _ _ (uP hf h) βc w vals aXJ aEd).mono ?_;rintro en w' ⟨val,βr,r,dZ,rfl,⟨d,⟨hnr,aEe,hq⟩,rfl⟩,C3,h'⟩;have AG:∀ {j i},ids[j]? =some i→An ids id j=i:=fun hj=>by simp only[An,hj]
 have OQ:∀ {j:Nat},ids.length≤j→An ids id j=id+(j-ids.length):=by
  intro j hj;have:ids[j]? =none:=List.getElem?_eq_none hj;simp only[An,this]
 have hlen:(gR ids xs).length=ids.length:=by simp[gR,hR.len]
 have ns:∀ {j x},(j,x)∈d→ids.length≤j→kd hp (An ids id j)=none:=fun hm hj=>aEe _ _ (OO.2 ⟨_,_,hm,rfl,rfl⟩) (by rw[OQ hj];omega)
 let J:Nat→Prop:=fun j=>j<ids.length∨∃x,(j,x)∈d
 let U:Nat→Prop:=fun i=>lA ids i=none
 have afI:∀ {j i},ids[j]? =some i→kd hp i≠none:=fun hj e=>by
  obtain⟨x,h1,_⟩:=za hR hj;rw[fM h1]at e;cases e
 have arq:∀j k,J j→J k→An ids id j=An ids id k→j=k:=by
  intro j k hj hk e;by_cases h1:j<ids.length<;>by_cases h2:k<ids.length
  ·have e1:=List.getElem?_eq_getElem h1;have e2:=List.getElem?_eq_getElem h2;rw[AG e1,AG e2]at e;have k1:=kv hR.nodup e1;have k2:=kv hR.nodup e2;rw[e,k2]at k1;exact(Option.some.inj k1).symm
  ·have e1:=List.getElem?_eq_getElem h1;obtain⟨x,hx⟩:=hk.resolve_left h2;exact absurd (by rw[← AG e1,e];exact ns hx (by omega)) (afI e1)
  ·have e2:=List.getElem?_eq_getElem h2;obtain⟨x,hx⟩:=hj.resolve_left h1;exact absurd (by rw[← AG e2,← e];exact ns hx (by omega)) (afI e2)
  ·rw[OQ (by omega),OQ (by omega)]at e;omega
 have aMD:Mir (An ids id) (rF ids xs) J U lent hp (gR ids xs) hp:=by
  refine⟨fun j y hj=>.inl ?_,fun j y hj=>?_,fun i x hi=>?_,fun e1 j y hj=>?_⟩
  ·rw[← hlen];exact(List.getElem?_eq_some_iff.1 hj).1
  ·obtain⟨i,x,h1,h2,h3,rfl⟩:=ky hR hj;have hvb:=Im hR h1 h2;show hp[An ids id j]? =some (some ((x.dD (we ids xs) fun _=>0).dD (.bwd (An ids id) (rF ids xs)) (· +rF ids xs (An ids id j))));rw[AG h1,acd (List.all_eq_true.1 aXH x (List.mem_of_getElem? h3)) hvb fun r hr=>?_]
   ·exact h2
   ·have hm:=(hR.refs x (List.mem_of_getElem? h3) r hr).resolve_right (by simp);obtain⟨k,hk⟩:=Dg hm;exact⟨k,hk,AG (jz hk)⟩
  ·cases lp:lA ids i with
   |none=>exact .inr ⟨hi,lp⟩
   |some j=>
    obtain⟨x',h1,h2,h3⟩:=za hR (jz lp);exact .inl ⟨j,_,h3,AG (jz lp)⟩
  ·obtain⟨i,x,h1,h2,h3,rfl⟩:=ky hR hj;have hx:=aXI e1;rw[List.all_eq_true]at hx;have hx':=hx x (List.mem_of_getElem? h3);cases x with
   |cK cells el=>
    simp only[bE.dD,bE.nr,List.all_map]at hx' ⊢;rw[List.all_eq_true]at hx' ⊢;exact fun s hs=>SV.Xa (hx' s hs)
   |_=>rfl
 have zb:=GN arq d (fun j x hm=>.inr ⟨x,hm⟩) (fun e1=>(hnr e1).2) aMD;generalize aEf:cq (Io (An ids id) (rF ids xs) d) hp=hp2 at*;generalize cq d (gR ids xs)=hp1 at*
 let β2:Env:=⟨uQ hp ids id βr.b β.b,uQ hp ids id βr.h β.h,fun pm v t l=>match pm with
  |true=>βr.rd true v t l
  |false=>if lent=true then β.rd false v t l else βr.rd false v t l⟩
 have uR:∀ {α:Type} (F F0:Nat→α) {j:Nat},J j→uQ hp ids id F F0 (An ids id j)=F j:=by
  intro α F F0 j hj;by_cases h1:j<ids.length
  ·have e1:=List.getElem?_eq_getElem h1;simp only[uQ,AG e1,kv hR.nodup e1]
  ·obtain⟨x,hx⟩:=hj.resolve_left h1;have hn:=ns hx (by omega);have Gb:lA ids (An ids id j)=none:=by
    cases hq:lA ids (An ids id j)with
    |none=>rfl
    |some k=>exact absurd hn (afI (jz hq))
   simp only[uQ,Gb];rw[if_pos ⟨hn,by rw[OQ (by omega)];omega⟩,OQ (by omega)];congr 1;omega
 have zd:∀ {α:Type} (F F0:Nat→α) {i:Nat} {k:Kd},kd hp i=some k→lA ids i=none→uQ hp ids id F F0 i=F0 i:=by
  intro α F F0 i k hi Gb;simp only[uQ,Gb];rw[if_neg (by rw[hi];simp)]
 have Iq:si (.bwd (An ids id) (rF ids xs)) βr β2 (kd hp1) (kd hp2) lent:=by
  refine⟨fun b j hj hb=>?_,fun i j c hj hi=>?_,fun v t l h=>h,fun e1 v t l h=>by show(if lent=true then _ else _:Prop);rw[if_neg (by simp[e1])];exact h⟩
  ·cases hj;obtain⟨y,h1,h2⟩:=jM hb;exact⟨by rw[fM (zb.fwd _ _ h1),bE.mQ,h2];rfl,uR _ _ (zb.live _ _ h1)⟩
  ·cases hj;obtain⟨y,h1,h2⟩:=jM hi;refine⟨c+rF ids xs (An ids id i),by rw[fM (zb.fwd _ _ h1),bE.mQ,h2];rfl,uR _ _ (zb.live _ _ h1),fun v v' hv he=>?_⟩;cases he;exact⟨Nat.add_le_add_right hv _,fun e=>Nat.add_right_cancel e⟩
 have aME:∀pm v t l,β.rd pm v t l→β2.rd pm v t l:=by
  intro pm v t l hr;cases pm with
  |true=>exact h'.first.rd true v t l (Ao.rdt _ _ _ hr)
  |false=>
   show(if lent=true then _ else _:Prop);split
   ·exact hr
   ·exact h'.first.rd false v t l (Ao.rdf rfl _ _ _ hr)
 have Ir:∀ {i x b},hp[i]? =some (some x)→lA ids i=none→dM β x i b→b<w.heap.size∧¬pL hp β ids b:=by
  intro i x b hi Gb ho;refine⟨(hh.items i x hi).lt ho,fun⟨k,y,h1,h2,h3⟩=>?_⟩;have:=hh.inj i k x y b hi h1 ho h2;subst this;exact GL Gb h3
 have Xd:∀ {b},b<w.heap.size→¬pL hp β ids b→w'.heap[b]? =w.heap[b]? :=fun hb hn=>h'.bV _ hb fun k=>hn (tq hR (Ip▸k));have azL:∀ {i x},hp[i]? =some (some x)→lA ids i=none→hp2[i]? =some (some x):=by
  intro i x hi Gb;have:i∉(Io (An ids id) (rF ids xs) d).map (·.1):=by
   intro hm;obtain⟨⟨i',z⟩,h1,h2⟩:=List.mem_map.1 hm;simp at h2;subst h2;obtain⟨j,y,h3,e1,e2⟩:=OO.1 h1;by_cases hj:j<ids.length
   ·have k1:=List.getElem?_eq_getElem hj;have:=GL Gb;exact this (by rw[e1,AG k1];exact List.getElem_mem hj)
   ·have:=ns h3 (by omega);rw[← e1,fM hi]at this;cases this
  rw[← aEf];exact cf (by rw[gJ this];exact tf hi)
 have tY:dx β β2 (kd hp) (kd hp2):=by
  refine⟨fun i hi=>?_,fun i c hi=>?_,aME⟩
  ·obtain⟨x,hx,hk⟩:=jM hi;cases lp:lA ids i with
   |none=>exact⟨by rw[fM (azL hx lp),hk],zd _ _ hi lp⟩
   |some j=>
    have h1:=jz lp;obtain⟨k1,k2⟩:=Ao.cK _ _ lp hi;obtain⟨k3,k4⟩:=h'.first.cK _ k1;obtain⟨k5,k6⟩:=Iq.cK _ _ rfl k3;rw[AG h1]at k5 k6;exact⟨k5,by rw[k6,k4,k2]⟩
  ·obtain⟨x,hx,hk⟩:=jM hi;cases lp:lA ids i with
   |none=>exact⟨c,by rw[fM (azL hx lp),hk],Nat.le_refl _,fun _=>zd _ _ hi lp⟩
   |some j=>
    have h1:=jz lp;have hvb:=Im hR h1 hx;have hck:x.ver=c:=by
     cases x with
     |cK _ _=>cases hk
     |own _ _ _=>cases hk;rfl
     |gone _=>cases hk;rfl
     |qn _ _ _=>cases hk
    obtain⟨y,y1,_,y3⟩:=za hR h1;rw[hx]at y1;cases y1;have k1:kd (gR ids xs) j=some (.own 0):=(by rw[fM y3,bE.mQ,hk];rfl);have k2:βc.h j=β.h i:=hch h1;obtain⟨c',k3,k4,k4'⟩:=h'.first.own _ _ k1;have hg:An ids id j=i:=AG h1;obtain⟨z,z1,z2⟩:=jM k3;have k5:kd hp2 i=some (.own (c'+c)):=by
     have:=zb.fwd _ _ z1;rw[hg]at this;rw[fM this,bE.mQ,z2,hg,hvb,hck];rfl
    have k6:β2.h i=βr.h j:=(by rw[← hg];exact uR _ _ (zb.live _ _ z1));exact⟨c'+c,k5,by omega,fun e1=>by rw[k6,k4' (by omega),k2]⟩
 have hgo:∀ {j y b},hp1[j]? =some (some y)→(dM β2 (y.bk (An ids id) (rF ids xs) j) (An ids id j) b↔dM βr y j b):=fun hj=>dM.dD (uR _ _ (zb.live _ _ hj)) (uR _ _ (zb.live _ _ hj));have huo:∀ {i x b},hp[i]? =some (some x)→lA ids i=none→(dM β2 x i b↔dM β x i b):=fun hi Gb=>dM.congr (zd _ _ (fM hi) Gb) (zd _ _ (fM hi) Gb);have afJ:∀ {j y b},hp1[j]? =some (some y)→dM βr y j b→w.heap.size≤b∨pL hp β ids b:=fun hj ho=>(h'.own _ _ _ hj ho).imp (fun h=>h) fun⟨y,k⟩=>tq (own:=pL hp β ids) (w:=w) (lent:=lent) hR (Ip.symm▸⟨_,y,k⟩);have Dj:∀ {i z},hp2[i]? =some (some z)→(∃j y,hp1[j]? =some (some y)∧i=An ids id j∧z=y.bk (An ids id) (rF ids xs) j)∨(hp[i]? =some (some z)∧lA ids i=none):=by
  intro i z hi;rcases zb.bwd i z hi with⟨j,y,h1,h2⟩|h1
  ·have:=zb.fwd j y h1;rw[h2,hi]at this;exact .inl ⟨j,y,h1,h2.symm,by simpa using this⟩
  ·exact .inr h1
 have Xe:∀ {b},fb hp2 β2 b→fb hp1 βr b∨∃i x,hp[i]? =some (some x)∧lA ids i=none∧dM β x i b:=by
  rintro b ⟨i,z,hi,ho⟩;rcases Dj hi with⟨j,y,h1,rfl,rfl⟩|⟨h1,h2⟩
  ·exact .inl ⟨j,y,h1,(hgo h1).1 ho⟩
  ·exact .inr ⟨i,z,h1,h2,(huo h1 h2).1 ho⟩
 refine⟨r.dD (.bwd (An ids id) (rF ids xs)),Io (An ids id) (rF ids xs) d,val,β2,hq,rfl,?_,?_⟩
 ·rw[aEf];exact LV.gD Iq (fun e1=>(hnr e1).1) C3
 rw[aEf];refine⟨fun i z hi=>?_,fun i k x y b hi hk h1 h2=>?_,tY,fun i z b hi ho=>?_,h'.os,h'.output,h'.size,fun b hb aXL=>?_,fun pm v t l hr=>?_,fun pm v t l b hr hb=>?_⟩
 ·rcases Dj hi with⟨j,y,h1,rfl,rfl⟩|⟨h1,h2⟩
  ·exact gb.Gf Iq (fun e1=>zb.nr e1 _ _ h1) (fun _=>uR _ _ (zb.live _ _ h1)) (uR _ _ (zb.live _ _ h1)) (h'.items j y h1)
  ·exact(hh.items i z h1).of tY (zd _ _ (fM h1) h2) (zd _ _ (fM h1) h2) (fun b ho=>Xd (Ir h1 h2 ho).1 (Ir h1 h2 ho).2) fun v t l b k1 k2 k3=>Xd k3 fun⟨k,x,e1,e2,_⟩=>((hh.reads true v t l k1).2 b k2).2 ⟨k,x,e1,e2⟩
 ·rcases Dj hi with⟨j,y',a1,rfl,rfl⟩|⟨a1,a2⟩<;>rcases Dj hk with⟨j2,y2,b1,rfl,rfl⟩|⟨b1,b2⟩
  ·rw[h'.inj j j2 y' y2 b a1 b1 ((hgo a1).1 h1) ((hgo b1).1 h2)]
  ·have k1:=Ir b1 b2 ((huo b1 b2).1 h2);rcases afJ a1 ((hgo a1).1 h1)with k2|k2
   ·omega
   ·exact absurd k2 k1.2
  ·have k1:=Ir a1 a2 ((huo a1 a2).1 h1);rcases afJ b1 ((hgo b1).1 h2)with k2|k2
   ·omega
   ·exact absurd k2 k1.2
  ·exact hh.inj i k x y b a1 b1 ((huo a1 a2).1 h1) ((huo b1 b2).1 h2)
 ·rcases Dj hi with⟨j,y,a1,rfl,rfl⟩|⟨a1,a2⟩
  ·refine(h'.own _ _ _ a1 ((hgo a1).1 ho)).imp (fun h=>h) fun⟨y2,k1,k2⟩=>?_;obtain⟨i',x',e1,e2,_,rfl⟩:=ky hR k1;rw[AG e1];exact⟨x',e2,(dM.dD (hcb e1) (hch e1)).1 k2⟩
  ·exact .inr ⟨z,a1,(huo a1 a2).1 ho⟩
 ·exact Xd hb fun⟨k,x,k1,k2,_⟩=>aXL ⟨k,x,k1,k2⟩
 ·have azM:∀ {b},(b<w'.heap.size∧¬fb hp1 βr b)→(∀i x,hp[i]? =some (some x)→lA ids i=none→¬dM β x i b)→b<w'.heap.size∧¬fb hp2 β2 b:=by
   rintro b ⟨h1,h2⟩ h3;refine⟨h1,fun k=>?_⟩;rcases Xe k with k|⟨i,x,k1,k2,k3⟩
   ·exact h2 k
   ·exact h3 i x k1 k2 k3
  have aMF:∀ {pm v t l b},(pm=true∨lent=false)→βr.rd pm v t l→inBlock v b→∀i x,hp[i]? =some (some x)→lA ids i=none→¬dM β x i b:=by
   intro pm v t l b Sa hr hb i x hi Gb ho;have iZ:=(hh.items i x hi).lt ho;rcases h'.from_ pm v t l b hr hb with k|⟨nm,v',t',l',k0,k1,k2⟩
   ·omega
   ·have k1':β.rd nm v' t' l':=by
     subst Ip;cases nm with
     |true=>exact k1
     |false=>
      rcases Sa with Sa|Sa
      ·cases k0 Sa
      ·rcases k1 with k1|⟨k1,_⟩
       ·exact k1
       ·rw[Sa]at k1;cases k1
    exact(hh.reads _ _ _ _ k1').2 b k2 |>.2 ⟨i,x,hi,ho⟩
  have aEg:∀ {pm v t l},β.rd pm v t l→dw β2 pm w' v t l∧∀b,inBlock v b→b<w'.heap.size∧¬fb hp2 β2 b:=by
   intro pm v t l hr;obtain⟨h1,h2⟩:=hh.reads _ _ _ _ hr;refine⟨(h1.of fun b hb iZ=>Xd iZ fun⟨k,x,k1,k2,_⟩=>(h2 b hb).2 ⟨k,x,k1,k2⟩).mono aME,fun b hb=>?_⟩;refine⟨Nat.lt_of_lt_of_le (h2 b hb).1 h'.size,fun k=>?_⟩;rcases Xe k with⟨j,y,k1,k2⟩|⟨i,x,k1,k2,k3⟩
   ·rcases afJ k1 k2 with k3|⟨i,x,k3,k4,_⟩
    ·have:=(h2 b hb).1;omega
    ·exact(h2 b hb).2 ⟨i,x,k3,k4⟩
   ·exact(h2 b hb).2 ⟨i,x,k1,k3⟩
  cases pm with
  |true=>
   obtain⟨h1,h2⟩:=h'.reads true v t l hr;refine⟨?_,fun b hb=>azM (h2 b hb) (aMF (.inl rfl) hr hb)⟩;obtain⟨a,n,c,rfl,hn,hc,hz,hrr⟩:=h1;refine⟨a,n,c,rfl,hn,hc,hz,fun h0=>?_⟩;obtain⟨a0,gq,rfl,k1,k2,k3⟩:=hrr h0;exact⟨a0,gq,rfl,k1,k2.imp fun _ _=>t.kx Iq.rdt,k3⟩
  |false=>
   have rL:(if lent=true then β.rd false v t l else βr.rd false v t l):=hr;split at rL
   ·exact aEg rL
   ·rename_i RT;have aEh:lent=false:=(by simpa using RT);obtain⟨h1,h2⟩:=h'.reads false v t l rL;refine⟨h1.mono fun pm v t l hr=>?_,fun b hb=>azM (h2 b hb) (aMF (.inr aEh) rL hb)⟩;cases pm with
    |true=>exact hr
    |false=>show(if lent=true then _ else _:Prop);rw[if_neg RT];exact hr
 ·have azN:∀ {nm v' t' l'},βc.rd nm v' t' l'→(nm=true∨lent=false)→β.rd nm v' t' l':=by
   intro nm v' t' l' k1 Sa;subst Ip;cases nm with
   |true=>exact k1
   |false=>
    rcases k1 with k1|⟨k1,_⟩
    ·exact k1
    ·rcases Sa with Sa|Sa
     ·cases Sa
     ·rw[Sa]at k1;cases k1
  cases pm with
  |true=>
   rcases h'.from_ true v t l b hr hb with k|⟨nm,v',t',l',k0,k1,k2⟩
   ·exact .inl k
   ·exact .inr ⟨nm,v',t',l',k0,azN k1 (.inl (k0 rfl)),k2⟩
  |false=>
   have rL:(if lent=true then β.rd false v t l else βr.rd false v t l):=hr;split at rL
   ·exact .inr ⟨false,v,t,l,(fun h=>h),rL,hb⟩
   ·rename_i RT;have aEh:lent=false:=(by simpa using RT);rcases h'.from_ false v t l b rL hb with k|⟨nm,v',t',l',k0,k1,k2⟩
    ·exact .inl k
    ·exact .inr ⟨nm,v',t',l',k0,azN k1 (.inr aEh),k2⟩
def look(f:FuncId):List (FuncId×bT)→Option bT
 | []=>none
 |(g,e)::l=>if g=f then some e else look f l
def Xf(tab:List (FuncId×bT)):C1:=⟨fun f id args=>match look f tab with
 |some e=>Xc e id args
 |none=>.ret .fail⟩
theorem Xg{P:Program}:∀ {tab:List (FuncId×bT)} {f:FuncId} {e:bT},(∀p∈tab,p.2.Ok P p.1)→look f tab=some e→e.Ok P f
 | [],_,_,_,h=>by cases h
 |(g,e')::l,f,e,hp,h=>by
  simp only[look]at h;split at h
  ·rename_i hg;subst hg;obtain rfl:=Option.some.inj h;exact hp (g,e') (by simp)
  ·exact Xg (fun p hm=>hp p (List.mem_cons_of_mem _ hm)) h
theorem afK{P:Program}{tab:List (FuncId×bT)}(h:∀p∈tab,p.2.Ok P p.1):GOk P (Xf tab):=by
 refine⟨fun f id args hp hf Q hq W bP β₀ β w vals hh dt=>?_⟩;simp only[Xf]at hf hq;split at hq
 ·rename_i e he;rw[he]at hf;have tZ:=Xg h he;refine(afG tZ hf hq hh.self dt).mono ?_;rintro en w' ⟨v,d,val,β',h1,h2,h3,h4⟩;exact⟨v,d,val,β',h1,h2,h3,hh.trans h4,h4.first⟩
 ·exact hq.elim
end Go.Ev
