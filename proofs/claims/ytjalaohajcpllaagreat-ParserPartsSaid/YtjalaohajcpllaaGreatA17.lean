/- What the laws lean on, part 17: a reader of code, plain facts, and what each function gives; no conditions. -/
import Derived.Test.YtjalaohajcpllaaGreatA16
section
set_option linter.unusedVariables false
set_option linter.unusedSimpArgs false
namespace Go.Proofs.YtjalaohajcpllaaGreat
open Go Go.Ev
set_option maxRecDepth 1000000
def A7 (n:Int):Int:=if 2<n then 4+(n-3)%2 else n+1
def prun:List Int→PP→Int→List Int→PP×Int×List Int
 | [],p,n,all=>(p,n,all)
 |b::l,p,n,all=>if (br p b).2.2.2.1=true then prun l (br p b).1 (n+1) (all++(br p b).2.2.1) else prun l (br p b).1 n all
def uz:List Int→PP→Int→Prop
 | [],_,_=>True
 |b::l,p,n=>(p.bad=false∧p.part≠0∧0≤p.len∧p.len<4096∧p.buf.length=4096∧(p.part=4→p.want=4))∧(br p b).2.2.2.2=0∧((br p b).2.2.2.1=true→(br p b).2.2.1≠ []∧(br p b).2.1=A7 n)∧
   ((br p b).1.part=0↔l= [])∧uz l (br p b).1 (if (br p b).2.2.2.1=true then n+1 else n)
theorem aav {p:PP} (b:Int) (h:p.buf.length=4096):(br p b).2.2.1.length≤4096:=by
 unfold br
 split
 ·simp
 ·simp only
  split
  ·simp
  ·split
   ·simp only[List.length_take,List.length_set];omega
   ·simp
def kc (p:PP) (buf:List Int) (w:Int):PP:= {p with buf:=buf,len:=w}
theorem Qp {xs rest:List Int} {w:Nat} (hxs:xs.length=w) (hw:w≤4096): ∀ (m j:Nat) (p:PP) (n:Int) (all:List Int),j+m+1=w→p.len=j→p.buf.take j=xs.take j→p.buf.length=4096→p.bad=false→p.part≠0→p.want=w→(p.part=4→p.want=4)→
  p.part=A7 n→(∀ buf,(bI (kc p buf w) xs).2=true)→(∀ buf,(bI (kc p buf w) xs).1.part=0↔rest= [])→
  ∃ buf:List Int,buf.length=4096∧(uz rest (bI (kc p buf w) xs).1 (n+1)→uz (xs.drop j++rest) p n)∧prun (xs.drop j++rest) p n all=prun rest (bI (kc p buf w) xs).1 (n+1) (all++xs)
 |m,j,p,n,all,h1,h2,h3,h4,h5,h6,h7,h8,h9,Gp,h11=>by
  have hj:j<xs.length:=by omega
  obtain ⟨x,hx⟩: ∃ x,xs.getD j 0=x:=⟨_,rfl⟩
  have hd:xs.drop j=x::xs.drop (j+1):=by rw[gN 0 hj,hx]
  have wl:IntKind.i64.wrap ((j:Int)+1)=((j+1:Nat):Int):=by rw[ar (by omega) (by omega)];omega
  have ht:(p.buf.set j x).take (j+1)=xs.take (j+1):=by
   rw[List.take_add_one,List.take_add_one,List.take_set,List.set_eq_of_length_le (by rw[List.length_take];omega),h3,List.getElem?_set_self (by omega)]
   congr 1
   rw[List.getElem?_eq_getElem hj,← hx,List.getD_eq_getElem?_getD,List.getElem?_eq_getElem hj];rfl
  rw[hd,List.cons_append,prun,uz]
  have Kr: ¬ (p.bad=true∨p.part=0):=by rw[h5];simp[h6]
  have eb:br p x=(let q:PP:=kc p (p.buf.set j x) ((j+1:Nat):Int)
    if ((j+1:Nat):Int)<p.want then (q,0,[],false,0) else
     let r:=bI q (q.buf.take (j+1))
     if r.2=true then (r.1,p.part,q.buf.take (j+1),true,0) else ({r.1 with bad:=true},0,[],false,6)):=by
   unfold br
   rw[if_neg Kr]
   simp only[h2,wl,Int.toNat_natCast]
   rfl
  simp only at eb
  cases m with
  |succ m=>
   rw[if_pos (by omega)] at eb
   obtain ⟨buf,b1,b2,b3⟩:=Qp hxs hw m (j+1) (kc p (p.buf.set j x) ((j+1:Nat):Int)) n all (by omega) rfl ht (by simpa [kc] using h4) h5 h6 h7 h8 h9 Gp h11
   refine ⟨buf,b1,fun hg=>?_,?_⟩
   ·rw[eb]
    refine ⟨⟨h5,h6,by omega,by omega,h4,h8⟩,rfl,fun h=>by simp at h,?_,?_⟩
    ·constructor
     ·intro h;exact absurd h h6
     ·intro h
      have:=congrArg List.length h
      simp at this;omega
    ·simp only[Bool.false_eq_true,if_false]
     exact b2 hg
   ·rw[eb]
    simp only[Bool.false_eq_true,if_false]
    exact b3
  |zero=>
   have hjw:j+1=w:=by omega
   rw[if_neg (by omega)] at eb
   have rr:(kc p (p.buf.set j x) ((j+1:Nat):Int)).buf.take (j+1)=xs:=by
    show (p.buf.set j x).take (j+1)=xs
    rw[ht,List.take_of_length_le (by omega)]
   rw[rr,hjw,if_pos (Gp _)] at eb
   refine ⟨p.buf.set j x,by simpa using h4,fun hg=>?_,?_⟩
   ·rw[eb]
    refine ⟨⟨h5,h6,by omega,by omega,h4,h8⟩,rfl,fun _=>⟨?_,h9⟩,?_,?_⟩
    ·intro h;simp only at h;rw[h] at hj;simp at hj
    ·rw[List.drop_of_length_le (by omega),List.nil_append];exact h11 _
    ·rw[List.drop_of_length_le (by omega),List.nil_append];exact hg
   ·rw[eb]
    simp only[if_true]
    rw[List.drop_of_length_le (by omega),List.nil_append]
structure Rdy (p:PP) (k w:Int):Prop where
 bad:p.bad=false
 part:p.part=k
 len:p.len=0
 want:p.want=w
 buf:p.buf.length=4096
theorem lY {xs rest:List Int} {k:Int} {p:PP} {n:Int} (hr:Rdy p k xs.length) (h1:1≤xs.length) (h2:xs.length≤4096) (hk:k=A7 n) (hk0:k≠0) (h4:k=4→xs.length=4)
  (Gp: ∀ buf,(bI (kc p buf xs.length) xs).2=true) (h11: ∀ buf,(bI (kc p buf xs.length) xs).1.part=0↔rest= []) (all:List Int):
  ∃ buf:List Int,buf.length=4096∧(uz rest (bI (kc p buf xs.length) xs).1 (n+1)→uz (xs++rest) p n)∧prun (xs++rest) p n all=prun rest (bI (kc p buf xs.length) xs).1 (n+1) (all++xs):=by
 have:=Qp (rest:=rest) (xs:=xs) rfl h2 (xs.length-1) 0 p n all (by omega) (by rw[hr.len];rfl) rfl hr.buf hr.bad (by rw[hr.part];exact hk0) hr.want (fun e=>by rw[hr.want];exact_mod_cast h4 (by rw[← hr.part,e])) (by rw[hr.part];exact hk) Gp h11
 simpa using this
theorem aer {n:Int} {k:Nat} (h:n=3+2*k):A7 n=4∧A7 (n+1)=5:=by
 unfold A7
 constructor
 ·rw[if_pos (by omega)];omega
 ·rw[if_pos (by omega)];omega
theorem CR: ∀ (l rest:List Int) (k:Nat) (p:PP) (all:List Int),l≠ []→aB rest→(gf l rest [] []).1=0→Rdy p 4 4→p.block=k→p.blocks=k+l.length→k+l.length≤16→
  ∃ q:PP,uz (j6 l rest).flatten p (3+2*k)∧prun (j6 l rest).flatten p (3+2*k) all=(q,3+2*((k+l.length:Nat):Int),all++(j6 l rest).flatten)∧q.bad=false∧q.part=0
 | [],_,_,_,_,h,_,_,_,_,_,_=>absurd rfl h
 |x::l,rest,k,p,all,_,hb,hm,hr,hk,hks,h16=>by
  rw[gf] at hm
  split at hm
  ·rename_i c;exact absurd hm c
  rename_i c
  have c:(au (rest.take x.toNat)).1=0:=by simpa using c
  have hB:aB (rest.take x.toNat):=fun z hz=>hb z (List.mem_of_mem_take hz)
  obtain ⟨f1,f2,f3⟩:=gF hB c
  obtain ⟨u1,u2,u3,u4,u5,u6⟩:=pO hB f1
  rw[List.length_cons] at hks h16
  obtain ⟨k1,k2⟩:=aer (n:=3+2*(k:Int)) (k:=k) rfl
  generalize hR:(j6 l (rest.drop x.toNat)).flatten=R
  generalize hS: [((cJ (rest.take x.toNat)).2.length:Int)%256,((cJ (rest.take x.toNat)).2.length:Int)/256,((rest.take x.toNat).length:Int)%256,((rest.take x.toNat).length:Int)/256]=S at*
  generalize hQ:(cJ (rest.take x.toNat)).2=Q at*
  have eF:(j6 (x::l) rest).flatten=S++(Q++R):=by rw[j6,List.flatten_cons,f3,hR,List.append_assoc]
  have hS4:S.length=4:=by rw[← hS];rfl
  have al3:dx S=true∧two S 0=Q.length:=by
   obtain ⟨_,a2,a3⟩:=rn (p:=(Q.length:Int)) (n:=(rest.take x.toNat).length) (q:=Q) (more:= []) rfl (by omega) (by omega) (by omega) (by omega)
   have t0:two S 0=Q.length:=by rw[← hS];exact lW (x:=0) (y:=0) rfl rfl (by omega) (by omega)
   have t2:two S 2=(rest.take x.toNat).length:=by rw[← hS];exact lW (x:=0) (y:=0) rfl rfl (by omega) (by omega)
   exact ⟨by unfold dx;rw[t0,t2];exact decide_eq_true ⟨by omega,by omega,by omega,by omega⟩,t0⟩
  have n1: ∀ buf,bI (kc p buf S.length) S=({p with buf:=buf,part:=5,len:=0,want:=Q.length},true):=fun buf=>by
   unfold bI kc
   simp[hr.part,al3.1,al3.2]
  obtain ⟨buf,b1,b2,b3⟩:=lY (xs:=S) (rest:=Q++R) (k:=4) (n:=3+2*(k:Int)) (p:=p) (by rw[hS4];exact hr) (by omega) (by omega) k1.symm (by decide) (fun _=>hS4) (fun buf=>by rw[n1])
   (fun buf=>by rw[n1];simp only;constructor
                · intro h;exact absurd h (by decide)
                · intro h;have:=congrArg List.length h;rw[List.length_append,List.length_nil] at this;omega) all
  rw[n1] at b2 b3
  rw[eF]
  generalize J9:({p with buf:=buf,part:=5,len:=0,want:=(Q.length:Int)}:PP)=p1 at*
  have r1:Rdy p1 5 Q.length:=by rw[← J9];exact ⟨hr.bad,rfl,rfl,rfl,b1⟩
  have hk1:p1.block=k∧p1.blocks=k+(l.length+1:Nat)∧p1.part=5∧p1.bad=false:=by rw[← J9];exact ⟨hk,hks,rfl,hr.bad⟩
  have wb:IntKind.i64.wrap ((k:Int)+1)=k+1:=ar (by omega) (by omega)
  have n2: ∀ buf,bI (kc p1 buf Q.length) Q=(cG {p1 with buf:=buf,len:=Q.length,block:=k+1},true):=fun buf=>by
   unfold bI kc
   simp[hk1.2.2.1,hk1.1,wb]
  cases l with
  |nil=>
   have hR0:R= []:=by rw[← hR];rfl
   have n3: ∀ buf,cG {p1 with buf:=buf,len:=Q.length,block:=k+1}= {p1 with buf:=buf,block:=k+1,part:=0,len:=0,want:=0}:=fun buf=>by
    unfold cG
    rw[if_neg (by simp only[hk1.2.1];simp)]
   obtain ⟨aih,d1,d2,d3⟩:=lY (xs:=Q) (rest:=R) (k:=5) (n:=3+2*(k:Int)+1) (p:=p1) r1 (by omega) (by omega) k2.symm (by decide) (fun h=>absurd h (by decide)) (fun buf=>by rw[n2])
    (fun buf=>by rw[n2,n3];simp[hR0]) (all++S)
   rw[n2,n3] at d2 d3
   refine ⟨{p1 with buf:=aih,block:=k+1,part:=0,len:=0,want:=0},b2 (d2 (by rw[hR0];trivial)),?_,hk1.2.2.2,rfl⟩
   have en:(3:Int)+2*(k:Int)+1+1=3+2*((k+ [x].length:Nat):Int):=by simp only[List.length_cons,List.length_nil];omega
   rw[b3,d3,hR0,prun,en]
   simp only[List.append_nil,List.append_assoc]
  |cons y l=>
   have n3: ∀ buf,cG {p1 with buf:=buf,len:=Q.length,block:=k+1}= {p1 with buf:=buf,block:=k+1,part:=4,len:=0,want:=4}:=fun buf=>by
    unfold cG
    rw[if_pos (by simp only[hk1.2.1,List.length_cons];omega)]
   have hRn:R≠ []:=by
    rw[← hR,j6,List.flatten_cons]
    intro h
    have hm':(gf (y::l) (rest.drop x.toNat) [] []).1=0:=by rw[oQ _ _ [] [] _ _];exact hm
    rw[gf] at hm'
    split at hm'
    ·rename_i c;exact absurd hm' c
    rename_i c2
    have c2:(au ((rest.drop x.toNat).take y.toNat)).1=0:=by simpa using c2
    have hB2:aB ((rest.drop x.toNat).take y.toNat):=fun z hz=>hb z (List.mem_of_mem_drop (List.mem_of_mem_take hz))
    have:=(gF hB2 c2).2.2
    rw[this] at h
    simp at h
   obtain ⟨aih,d1,d2,d3⟩:=lY (xs:=Q) (rest:=R) (k:=5) (n:=3+2*(k:Int)+1) (p:=p1) r1 (by omega) (by omega) k2.symm (by decide) (fun h=>absurd h (by decide)) (fun buf=>by rw[n2])
    (fun buf=>by rw[n2,n3];simp only;exact ⟨fun h=>absurd h (by decide),fun h=>absurd h hRn⟩) (all++S)
   rw[n2,n3] at d2 d3
   obtain ⟨q,e1,e2,e3,e4⟩:=CR (y::l) (rest.drop x.toNat) (k+1) {p1 with buf:=aih,block:=k+1,part:=4,len:=0,want:=4} (all++S++Q) (by simp) (fun z hz=>hb z (List.mem_of_mem_drop hz)) (by rw[oQ _ _ [] [] _ _];exact hm)
    ⟨hk1.2.2.2,rfl,rfl,rfl,d1⟩ (by simp) (by simp only[hk1.2.1,List.length_cons];omega) (by omega)
   rw[hR] at e1 e2
   have en:(3:Int)+2*(k:Int)+1+1=3+2*((k+1:Nat):Int):=by omega
   rw[en] at d2 d3
   refine ⟨q,b2 (d2 e1),?_,e3,e4⟩
   have en2:k+1+(y::l).length=k+(x::y::l).length:=by simp only[List.length_cons];omega
   rw[b3,d3,e2,en2]
   simp only[List.append_assoc]
end Go.Proofs.YtjalaohajcpllaaGreat
end
section
set_option linter.unusedVariables false
set_option linter.unusedSimpArgs false
namespace Go.Proofs.YtjalaohajcpllaaGreat
open Go Go.Ev
set_option maxRecDepth 1000000
theorem aaw {a b:Int} (h1:0≤a) (h2:a<8) (h3:1≤b) (h4:b≤16):dC [66,74,75,49,a,b,0,0]=((a,b),true):=by
 have e:dO a b= [66,74,75,49,a,b,0,0]:=by unfold dO;rw[if_pos ⟨h1,h2,h3,h4⟩]
 have wa:IntKind.i64.wrap a=a:=ar (by omega) (by omega)
 have wb:IntKind.i64.wrap b=b:=ar (by omega) (by omega)
 unfold dC
 have g4:([66,74,75,49,a,b,0,0]:List Int).getD 4 0=a:=rfl
 have g5:([66,74,75,49,a,b,0,0]:List Int).getD 5 0=b:=rfl
 rw[g4,g5,wa,wb,e,if_pos ⟨rfl,by simp[cX]⟩]
theorem aax:Rdy zP 1 8:=⟨rfl,rfl,rfl,rfl,by simp[zP,wO]⟩
theorem aay {s:List Int} {p:b9} {d:List Int} (hd:aB d) (hm:(bw s p d).1=0):
  ∃ q:PP,uz (bw s p d).2 zP 0∧prun (bw s p d).2 zP 0 []=(q,3+2*(p.2.2.2.length:Int),(bw s p d).2)∧q.bad=false∧q.part=0:=by
 obtain ⟨k1,k2,k3⟩:=xQ hm
 obtain ⟨m1,m2,m3,m4,m5,m6,m7⟩:=uh k1
 obtain ⟨l1,l2,l3,l4⟩:=F9 (s:=s) (L:=((j6 p.2.2.2 d).map bE).flatten) k1
 have jF:(((j6 p.2.2.2 d).map bE).flatten).length=64*p.2.2.2.length:=by rw[ui,xR]
 have apj: ∃ B:List Int,B.length=216∧AO s p d (((j6 p.2.2.2 d).map bE).flatten)= [66,74,75,49,p.1,p.2.2.2.length,0,0]++B:=by
  refine ⟨iT p.2.1 p.2.2.1 d.length (bE ((j6 p.2.2.2 d).map bE).flatten) (bE d)++(np s FV (pS (og (dO p.1 p.2.2.2.length) (iT p.2.1 p.2.2.1 d.length (bE ((j6 p.2.2.2 d).map bE).flatten) (bE d)) F8))).1.take 64,?_,?_⟩
  ·rw[List.length_append,List.length_take,l3,(JK _ _).1];rfl
  ·unfold AO
   rw[og,if_neg (by rw[l3,l1];simp),List.append_assoc,← l1]
 obtain ⟨B,hB,hlb⟩:=apj
 rw[k3,hlb]
 generalize hLL:((j6 p.2.2.2 d).map bE).flatten=LL at*
 have Oh:p.2.2.2≠ []:=by intro h;rw[h] at m3;simp at m3
 generalize hFF:(j6 p.2.2.2 d).flatten=FF at*
 generalize hH:([66,74,75,49,p.1,p.2.2.2.length,0,0]:List Int)=H at*
 have hH8:H.length=8:=by rw[← hH];rfl
 have hg:dC H=((p.1,(p.2.2.2.length:Int)),true):=by rw[← hH];exact aaw m1 m2 (by omega) (by omega)
 have wl:IntKind.i64.wrap (64*(p.2.2.2.length:Int))=LL.length:=by rw[ar (by omega) (by omega),jF];omega
 have n1: ∀ buf,bI (kc zP buf H.length) H=(⟨p.2.2.2.length,0,2,0,216,buf,false⟩,true):=fun buf=>by
  unfold bI kc zP
  simp[hg]
 obtain ⟨b1,c1,c2,c3⟩:=lY (xs:=H) (rest:=B++(LL++FF)) (k:=1) (n:=0) (p:=zP) (by rw[hH8];exact aax) (by omega) (by omega) rfl (by decide) (fun h=>absurd h (by decide)) (fun buf=>by rw[n1])
  (fun buf=>by rw[n1];simp only
               constructor
               · intro h;exact absurd h (by decide)
               · intro h;have:=congrArg List.length h;rw[List.length_append,List.length_nil] at this;omega) []
 rw[n1] at c2 c3
 have n2: ∀ buf,bI (kc ⟨p.2.2.2.length,0,2,0,216,b1,false⟩ buf B.length) B=(⟨p.2.2.2.length,0,3,0,LL.length,buf,false⟩,true):=fun buf=>by
  unfold bI kc
  simp[wl]
 obtain ⟨b2,d1,d2,d3⟩:=lY (xs:=B) (rest:=LL++FF) (k:=2) (n:=0+1) (p:=⟨p.2.2.2.length,0,2,0,216,b1,false⟩) ⟨rfl,rfl,rfl,by rw[hB];rfl,c1⟩ (by omega) (by omega) rfl (by decide) (fun h=>absurd h (by decide)) (fun buf=>by rw[n2])
  (fun buf=>by rw[n2];simp only
               constructor
               · intro h;exact absurd h (by decide)
               · intro h;have:=congrArg List.length h;rw[List.length_append,List.length_nil] at this;omega) ([]++H)
 rw[n2] at d2 d3
 have n3: ∀ buf,bI (kc ⟨p.2.2.2.length,0,3,0,LL.length,b2,false⟩ buf LL.length) LL=(⟨p.2.2.2.length,0,4,0,4,buf,false⟩,true):=fun buf=>by
  unfold bI kc cG
  have:(0:Int)<p.2.2.2.length:=by omega
  simp only
  rw[if_neg (by decide),if_neg (by decide),if_neg (by decide),if_neg (by decide),if_pos this]
 have hF0:FF≠ []:=by
  obtain ⟨x,l,hx⟩: ∃ x l,p.2.2.2=x::l:=by
   cases h:p.2.2.2 with
   |nil=>exact absurd h Oh
   |cons x l=>exact ⟨x,l,rfl⟩
  rw[hx] at k2 hFF
  rw[gf] at k2
  split at k2
  ·rename_i c;exact absurd k2 c
  rename_i c
  have c:(au (d.take x.toNat)).1=0:=by simpa using c
  have hq:=(gF (fun z hz=>hd z (List.mem_of_mem_take hz)) c).2.2
  rw[j6,List.flatten_cons,hq] at hFF
  intro h
  rw[h] at hFF
  simp at hFF
 obtain ⟨b3,e1,e2,e3⟩:=lY (xs:=LL) (rest:=FF) (k:=3) (n:=0+1+1) (p:=⟨p.2.2.2.length,0,3,0,LL.length,b2,false⟩) ⟨rfl,rfl,rfl,rfl,d1⟩ (by omega) (by omega) rfl (by decide) (fun h=>absurd h (by decide)) (fun buf=>by rw[n3])
  (fun buf=>by rw[n3];simp only;exact ⟨fun h=>absurd h (by decide),fun h=>absurd h hF0⟩) ([]++H++B)
 rw[n3] at e2 e3
 obtain ⟨q,f1,f2,f3,f4⟩:=CR p.2.2.2 d 0 ⟨p.2.2.2.length,0,4,0,4,b3,false⟩ ([]++H++B++LL) Oh hd k2 ⟨rfl,rfl,rfl,rfl,e1⟩ rfl (by simp) (by omega)
 rw[hFF] at f1 f2
 refine ⟨q,?_,?_,f3,f4⟩
 ·rw[List.append_assoc]
  exact c2 (d2 (e2 f1))
 ·rw[List.append_assoc]
  refine c3.trans (d3.trans (e3.trans (f2.trans ?_)))
  simp
noncomputable abbrev N3:ao:=agJ
theorem JT:N3.Ok Tryz.prog 10:=Pv
abbrev jPP:ba Ev.Item PP:=Bq 72 cPP
abbrev oR:Type:=(List Int)×Int×Int×Int×Int×Int×(List Int)×PP×(List Int)
noncomputable abbrev lZ:ba St oR:=(bG (jk 4 (aj (ai (aP (0) (0))) (jk 3 (ae (ai (eS true false (Ty.int IntKind.u8))) (jk
 1 (aj (ai (aP (1) (0))) (ae (ai (ax IntKind.i64)) (aj (ai (wX (2) (0))) (ae (ai (ax IntKind.i64)) (jk 139 ag))))))))))
 (ae (gX (26) ((ae (ax IntKind.i64) (ae (ax IntKind.u64) (ae (ax IntKind.u64) (ae (eS false false (Ty.int IntKind.i64))
 ag)))))) (ae (dt jPP) (ae (eE (0) (Ty.int IntKind.u8)) ag)))).qk (fun y=>(y.1.1,y.1.2.1,y.1.2.2.1,y.2.1.1,y.2.1.2.1,y.2.1.2.2.1,
 y.2.1.2.2.2.1,y.2.2.1,y.2.2.2.1)) (fun x=>((x.1,(x.2.1,(x.2.2.1,()))),((x.2.2.2.1,(x.2.2.2.2.1,(x.2.2.2.2.2.1,(x.2.2.2.2.2.2.1,())))),
 (x.2.2.2.2.2.2.2.1,(x.2.2.2.2.2.2.2.2,()))))) (fun _=>rfl)
abbrev uA:List Wk:= [.cC 12 u8,.fr (dA 153 [(4,.aq),(8,.aq),(10,.aq),(11,.aq),(12,.aq),(13,.aq)]),.syms,.auto,
 .aD]
abbrev JU:Exit→List Wk:=Dy uA 0 [.cC 12 u8,.fr (dA 153 [(4,.aq),(8,.aq),(10,.aq),(11,.aq),(12,.aq)]),.syms,
 .auto,.aD] [.cC 12 u8,.fr (dA 153 [(6,.aq)]),.syms,.auto,.aD]
noncomputable def fg (b:List Int) (i:Int) (pp:PP) (all:List Int):Nat:=all.length+(br pp (b.getD i.toNat 0)).snd.snd.fst.length
noncomputable def pZ (b:List Int) (n:Int) (i:Int) (pk:Int) (pv:Int) (pf:Int) (z:List Int) (pp:PP) (all:List Int):Int:=
 (↑b.length:Int)
abbrev CS:Type:=Bool
noncomputable abbrev p9 (x:CS):Exit×St:=(Exit.ret,⟨(ir 6 (LV.one (VV.sc (SV.bool (SB.sym x)))::(ir 146 []))),[]⟩)
abbrev CT:Type:=(List Int)×Int×Int×Int×Int×(List Int)×PP×(List Int)
noncomputable abbrev qa (x:CT):Exit×St:=(Exit.exit 0,⟨(ir 4 (LV.one (VV.sc (SV.ptr 0 0))::(ir 3 (LV.one (VV.sc (SV.rd true
 false (Ty.int IntKind.u8) x.1))::(ir 1 (LV.one (VV.sc (SV.ptr 1 0))::(LV.one (VV.sc (SV.int IntKind.i64 (SI.sym x.2.1)))::(LV.one (VV.sc (SV.sl
 2 0))::(ir 140 []))))))))),[some (Item.aZ [SV.int IntKind.i64 (SI.sym x.2.2.1),SV.int IntKind.u64 (SI.sym x.2.2.2.1),SV.int IntKind.u64 (SI.sym
 x.2.2.2.2.1),SV.rd false false (Ty.int IntKind.i64) x.2.2.2.2.2.1] 26),some (jPP.wr x.2.2.2.2.2.2.1),some (Item.own 0 (Ty.int IntKind.u8)
 x.2.2.2.2.2.2.2)]⟩)
noncomputable def l6 (b:List Int) (n:Int) (i:Int) (pk:Int) (pv:Int) (pf:Int) (z:List Int) (pp:PP) (all:List Int):Tr (oR
 ⊕(CS⊕CT)):=(.ite (decide (i<pZ b n i pk pv pf z pp all)) (.need (0≤i∧i<(↑b.length:Int)) (.need (pp.bad=false→
 ¬pp.part=0→0≤pp.len∧pp.len<4096∧pp.buf.length=4096∧(pp.part=4→pp.want=4)) (.ite (((br pp (b.getD i.toNat 0)).snd.snd.snd.snd
 !=0)==false) (.ite ((br pp (b.getD i.toNat 0)).snd.snd.snd.fst==true) (.ite (((↑(br pp (b.getD i.toNat 0)).snd.snd.fst.length:Int)==0)
 ==false) (.ite (!((br pp (b.getD i.toNat 0)).fst.part==0)==(i==IntKind.i64.wrap (pZ b n i pk pv pf z pp all-1))) (.ret (.inr (.inl
 (false)))) (.ite (!(br pp (b.getD i.toNat 0)).snd.snd.snd.fst) (.ret (.inl (b,n,IntKind.i64.wrap (i+1),pk,pv,pf,z,(br pp (b.getD i.toNat
 0)).fst,all))) (.ite (decide (2<n)) (.ite ((br pp (b.getD i.toNat 0)).snd.fst !=IntKind.i64.wrap (4+(IntKind.i64.wrap (n-3)).tmod 2)) (.ret
 (.inr (.inl (false)))) (.need (fg b i pp all*1≤70368744177664∧fg b i pp all≤70368744177664) (.ret (.inl (b,IntKind.i64.wrap (n+
 1),IntKind.i64.wrap (i+1),pk,pv,pf,z,(br pp (b.getD i.toNat 0)).fst,all++(br pp (b.getD i.toNat 0)).snd.snd.fst))))) (.ite ((br pp
 (b.getD i.toNat 0)).snd.fst !=IntKind.i64.wrap (n+1)) (.ret (.inr (.inl (false)))) (.need (fg b i pp all*1≤70368744177664∧fg b i
 pp all≤70368744177664) (.ret (.inl (b,IntKind.i64.wrap (n+1),IntKind.i64.wrap (i+1),pk,pv,pf,z,(br pp (b.getD i.toNat 0)).fst,all++
 (br pp (b.getD i.toNat 0)).snd.snd.fst)))))))) (.ret (.inr (.inl (false))))) (.ite (!((br pp (b.getD i.toNat 0)).fst.part==0)==(i==
 IntKind.i64.wrap (pZ b n i pk pv pf z pp all-1))) (.ret (.inr (.inl (false)))) (.ite (!(br pp (b.getD i.toNat 0)).snd.snd.snd.fst) (.ret
 (.inl (b,n,IntKind.i64.wrap (i+1),pk,pv,pf,z,(br pp (b.getD i.toNat 0)).fst,all))) (.ite (decide (2<n)) (.ite ((br pp (b.getD i.toNat
 0)).snd.fst !=IntKind.i64.wrap (4+(IntKind.i64.wrap (n-3)).tmod 2)) (.ret (.inr (.inl (false)))) (.need (fg b i pp all*1≤70368744177664
 ∧fg b i pp all≤70368744177664) (.ret (.inl (b,IntKind.i64.wrap (n+1),IntKind.i64.wrap (i+1),pk,pv,pf,z,(br pp (b.getD i.toNat
 0)).fst,all++(br pp (b.getD i.toNat 0)).snd.snd.fst))))) (.ite ((br pp (b.getD i.toNat 0)).snd.fst !=IntKind.i64.wrap (n+1)) (.ret (.inr
 (.inl (false)))) (.need (fg b i pp all*1≤70368744177664∧fg b i pp all≤70368744177664) (.ret (.inl (b,IntKind.i64.wrap (n+1),
 IntKind.i64.wrap (i+1),pk,pv,pf,z,(br pp (b.getD i.toNat 0)).fst,all++(br pp (b.getD i.toNat 0)).snd.snd.fst))))))))) (.ret (.inr (.inl
 (false))))))) (.ret (.inr (.inr (b,n,pk,pv,pf,z,pp,all)))))
theorem Gk (s:List Int) (p:b9) (d:List Int) (b:List Int) (n:Int) (i:Int) (pk:Int) (pv:Int) (pf:Int) (z:List Int) (pp:PP) (all:List Int):dR Tryz.prog [(8,A5),(9,TA),(11,ab8),(13,E0),(12,Pu),(14,Pr),(10,N3)] [] Tryz.f3 0 ((ag).wr (())) JU (lZ.wr (b,n,i,pk,pv,pf,z,pp,all))=(l6 b n i pk pv pf z pp all).res lZ.wr (Sum.elim p9 qa):=by kernel_rfl
abbrev j4 (b:List Int) (n:Int) (i:Int) (pk:Int) (pv:Int) (pf:Int) (z:List Int) (pp:PP) (all:List Int):Prop:=0≤i∧i≤b.length∧b.length<1000000∧0≤n∧n≤i∧all.length≤4096*i∧uz (b.drop i.toNat) pp n
noncomputable abbrev uB (x_:oR):aU:= .need ((fun (b:List Int) (n:Int) (i:Int) (pk:Int) (pv:Int) (pf:Int) (z:List Int) (pp:PP) (all:List Int)=>j4 b n i pk pv pf z pp all) x_.1 x_.2.1 x_.2.2.1 x_.2.2.2.1 x_.2.2.2.2.1 x_.2.2.2.2.2.1 x_.2.2.2.2.2.2.1 x_.2.2.2.2.2.2.2.1 x_.2.2.2.2.2.2.2.2) (.ite ((fun (b:List Int) (n:Int) (i:Int) (pk:Int) (pv:Int) (pf:Int) (z:List Int) (pp:PP) (all:List Int)=>false) x_.1 x_.2.1 x_.2.2.1 x_.2.2.2.1 x_.2.2.2.2.1 x_.2.2.2.2.2.1 x_.2.2.2.2.2.2.1 x_.2.2.2.2.2.2.2.1 x_.2.2.2.2.2.2.2.2) (.leaf (p9 ((fun (b:List Int) (n:Int) (i:Int) (pk:Int) (pv:Int) (pf:Int) (z:List Int) (pp:PP) (all:List Int)=>false) x_.1 x_.2.1 x_.2.2.1 x_.2.2.2.1 x_.2.2.2.2.1 x_.2.2.2.2.2.1 x_.2.2.2.2.2.2.1 x_.2.2.2.2.2.2.2.1 x_.2.2.2.2.2.2.2.2)).1 (p9 ((fun (b:List Int) (n:Int) (i:Int) (pk:Int) (pv:Int) (pf:Int) (z:List Int) (pp:PP) (all:List Int)=>false) x_.1 x_.2.1 x_.2.2.1 x_.2.2.2.1 x_.2.2.2.2.1 x_.2.2.2.2.2.1 x_.2.2.2.2.2.2.1 x_.2.2.2.2.2.2.2.1 x_.2.2.2.2.2.2.2.2)).2) (.leaf (qa ((fun (b:List Int) (n:Int) (i:Int) (pk:Int) (pv:Int) (pf:Int) (z:List Int) (pp:PP) (all:List Int)=>(b,(prun (b.drop i.toNat) pp n all).2.1,pk,pv,pf,z,(prun (b.drop i.toNat) pp n all).1,(prun (b.drop i.toNat) pp n all).2.2)) x_.1 x_.2.1 x_.2.2.1 x_.2.2.2.1 x_.2.2.2.2.1 x_.2.2.2.2.2.1 x_.2.2.2.2.2.2.1 x_.2.2.2.2.2.2.2.1 x_.2.2.2.2.2.2.2.2)).1 (qa ((fun (b:List Int) (n:Int) (i:Int) (pk:Int) (pv:Int) (pf:Int) (z:List Int) (pp:PP) (all:List Int)=>(b,(prun (b.drop i.toNat) pp n all).2.1,pk,pv,pf,z,(prun (b.drop i.toNat) pp n all).1,(prun (b.drop i.toNat) pp n all).2.2)) x_.1 x_.2.1 x_.2.2.1 x_.2.2.2.1 x_.2.2.2.2.1 x_.2.2.2.2.2.1 x_.2.2.2.2.2.2.1 x_.2.2.2.2.2.2.2.1 x_.2.2.2.2.2.2.2.2)).2))
theorem N5 (b:List Int) (n:Int) (i:Int) (pk:Int) (pv:Int) (pf:Int) (z:List Int) (pp:PP) (all:List Int) (h_:j4 b n i pk pv pf z pp all):dq (fun x_:oR=>l6 x_.1 x_.2.1 x_.2.2.1 x_.2.2.2.1 x_.2.2.2.2.1 x_.2.2.2.2.2.1 x_.2.2.2.2.2.2.1 x_.2.2.2.2.2.2.2.1 x_.2.2.2.2.2.2.2.2) (b,n,i,pk,pv,pf,z,pp,all) (bif false then .inl (false) else .inr ((b,(prun (b.drop i.toNat) pp n all).2.1,pk,pv,pf,z,(prun (b.drop i.toNat) pp n all).1,(prun (b.drop i.toNat) pp n all).2.2))):=by
 obtain ⟨h1,h2,h3,h4,h5,h6,h7⟩:=h_
 obtain ⟨k,rfl⟩: ∃ k:Nat,i=k:=⟨i.toNat,by omega⟩
 obtain ⟨j,hj⟩: ∃ j:Nat,b.length-k=j:=⟨_,rfl⟩
 rw[Int.toNat_natCast] at h7 ⊢
 have q3: ∀ n k pp all,pZ b n k pk pv pf z pp all=b.length:=fun _ _ _ _=>rfl
 induction j generalizing k n pp all with
 |zero=>
  rw[List.drop_eq_nil_of_le (by omega)]
  refine .stop ?_
  have e:decide ((k:Int)<b.length)=false:=decide_eq_false (by omega)
  simp only[l6,q3,e,aN,al,prun,cond_false]
 |succ j ih=>
  have hk:k<b.length:=by omega
  rw[gN 0 hk] at h7 ⊢
  obtain ⟨x,hx⟩: ∃ x,b.getD k 0=x:=⟨_,rfl⟩
  rw[hx] at h7 ⊢
  obtain ⟨g1,g2,g3,g4,g5⟩:=h7
  have hbl:=aav x g1.2.2.2.2.1
  have q0:fg b (k:Int) pp all=all.length+(br pp x).2.2.1.length:=by unfold fg;rw[Int.toNat_natCast,hx]
  have e:decide ((k:Int)<b.length)=true:=decide_eq_true (by omega)
  have w1:IntKind.i64.wrap ((b.length:Int)-1)=b.length-1:=ar (by omega) (by omega)
  have w2:IntKind.i64.wrap ((k:Int)+1)=((k+1:Nat):Int):=by rw[ar (by omega) (by omega)];omega
  have al5:(!((br pp x).1.part==0)==((k:Int)==(b.length:Int)-1))=false:=by
   have hl:b.drop (k+1)= []↔(k:Int)=b.length-1:=by
    rw[List.drop_eq_nil_iff];omega
   have h0:=g4.trans hl
   by_cases c:(br pp x).1.part=0
   ·rw[c,← h0.1 c];simp
   ·have c2: ¬ (k:Int)=b.length-1:=fun h=>c (h0.2 h)
    rw[beq_eq_false_iff_ne.2 c,beq_eq_false_iff_ne.2 c2];rfl
  have d1:(((0:Int)!=0)==false)=true:=rfl
  have gZ:pp.bad=false→ ¬pp.part=0→0≤pp.len∧pp.len<4096∧pp.buf.length=4096∧(pp.part=4→pp.want=4):=fun _ _=>g1.2.2
  rw[prun]
  cases kZ:(br pp x).2.2.2.1 with
  |false=>
   rw[kZ] at g5
   simp only[Bool.false_eq_true,if_false] at g5 ⊢
   refine .go ?_ (ih n (br pp x).1 all h4 (k+1) (by omega) (by omega) (by omega) (by omega) g5 (by omega))
   have d2:(false==true)=false:=rfl
   simp only[l6,q3,e,aK,an,Int.toNat_natCast,hx,g2,d1,kZ,d2,aN,w1,w2,al5,Bool.not_false,al]
   exact ⟨⟨by omega,by omega⟩,gZ,trivial⟩
  |true=>
   rw[kZ] at g5
   simp only[if_true] at g5 ⊢
   obtain ⟨t1,t2⟩:=g3 kZ
   have hbn:(((br pp x).2.2.1.length:Int)==0)=false:=by
    rw[beq_eq_false_iff_ne]
    intro h
    exact t1 (List.length_eq_zero_iff.1 (by omega))
   have w3:IntKind.i64.wrap (n+1)=n+1:=ar (by omega) (by omega)
   refine .go ?_ (ih (n+1) (br pp x).1 (all++(br pp x).2.2.1) (by omega) (k+1) (by omega) (by omega) (by omega) (by rw[List.length_append];omega) g5 (by omega))
   have d2:(true==true)=true:=rfl
   have d3:(false==false)=true:=rfl
   simp only[l6,q3,q0,e,aK,an,Int.toNat_natCast,hx,g2,d1,kZ,d2,d3,hbn,aN,w1,w2,w3,al5,Bool.not_true,al]
   refine ⟨⟨by omega,by omega⟩,gZ,?_⟩
   rw[t2]
   unfold A7
   by_cases c:2<n
   ·have w4:IntKind.i64.wrap (n-3)=n-3:=ar (by omega) (by omega)
    have w5:(n-3).tmod 2=(n-3)%2:=Int.tmod_eq_emod_of_nonneg (by omega)
    have w6:IntKind.i64.wrap (4+(n-3)%2)=4+(n-3)%2:=ar (by omega) (by omega)
    have d4:(4+(n-3)%2!=4+(n-3)%2)=false:=by simp
    rw[if_pos c,decide_eq_true c,w4,w5,w6,d4]
    simp only[aK,aN,an,al]
    exact ⟨⟨by omega,by omega⟩,trivial⟩
   ·have d4:(n+1!=n+1)=false:=by simp
    rw[if_neg c,decide_eq_false c,d4]
    simp only[aN,an,al]
    exact ⟨⟨by omega,by omega⟩,trivial⟩
theorem JV (s:List Int) (p:b9) (d:List Int): ∀ x:oR,Ex Tryz.prog ((ag).wr (())) (.loop (aW Tryz.f3 0)) (lZ.wr x) (uB x):=
 db mixed ((ak A6 (ak AP (ak Mu (ak zO (ak E3 (ak E2 (ak JT aF)))))))) (ws:=JU) (aQ.nil _) (E:=Sum.elim p9 qa) (L:=fun x_=>l6 x_.1 x_.2.1 x_.2.2.1 x_.2.2.2.1 x_.2.2.2.2.1 x_.2.2.2.2.2.1 x_.2.2.2.2.2.2.1 x_.2.2.2.2.2.2.2.1 x_.2.2.2.2.2.2.2.2) (pre:=fun x_=>(fun (b:List Int) (n:Int) (i:Int) (pk:Int) (pv:Int) (pf:Int) (z:List Int) (pp:PP) (all:List Int)=>j4 b n i pk pv pf z pp all) x_.1 x_.2.1 x_.2.2.1 x_.2.2.2.1 x_.2.2.2.2.1 x_.2.2.2.2.2.1 x_.2.2.2.2.2.2.1 x_.2.2.2.2.2.2.2.1 x_.2.2.2.2.2.2.2.2) (sp:=fun x_=>bif (fun (b:List Int) (n:Int) (i:Int) (pk:Int) (pv:Int) (pf:Int) (z:List Int) (pp:PP) (all:List Int)=>false) x_.1 x_.2.1 x_.2.2.1 x_.2.2.2.1 x_.2.2.2.2.1 x_.2.2.2.2.2.1 x_.2.2.2.2.2.2.1 x_.2.2.2.2.2.2.2.1 x_.2.2.2.2.2.2.2.2 then .inl ((fun (b:List Int) (n:Int) (i:Int) (pk:Int) (pv:Int) (pf:Int) (z:List Int) (pp:PP) (all:List Int)=>false) x_.1 x_.2.1 x_.2.2.1 x_.2.2.2.1 x_.2.2.2.2.1 x_.2.2.2.2.2.1 x_.2.2.2.2.2.2.1 x_.2.2.2.2.2.2.2.1 x_.2.2.2.2.2.2.2.2) else .inr ((fun (b:List Int) (n:Int) (i:Int) (pk:Int) (pv:Int) (pf:Int) (z:List Int) (pp:PP) (all:List Int)=>(b,(prun (b.drop i.toNat) pp n all).2.1,pk,pv,pf,z,(prun (b.drop i.toNat) pp n all).1,(prun (b.drop i.toNat) pp n all).2.2)) x_.1 x_.2.1 x_.2.2.1 x_.2.2.2.1 x_.2.2.2.2.1 x_.2.2.2.2.2.1 x_.2.2.2.2.2.2.1 x_.2.2.2.2.2.2.2.1 x_.2.2.2.2.2.2.2.2)) (fun x_=>Gk s p d x_.1 x_.2.1 x_.2.2.1 x_.2.2.2.1 x_.2.2.2.2.1 x_.2.2.2.2.2.1 x_.2.2.2.2.2.2.1 x_.2.2.2.2.2.2.2.1 x_.2.2.2.2.2.2.2.2) (fun z=>by cases z<;>(intro e;cases e)) qO (fun x_ h=>N5 x_.1 x_.2.1 x_.2.2.1 x_.2.2.2.1 x_.2.2.2.2.1 x_.2.2.2.2.2.1 x_.2.2.2.2.2.2.1 x_.2.2.2.2.2.2.2.1 x_.2.2.2.2.2.2.2.2 h)
noncomputable def l7 (p:Int×Int×Int×List Int):Int×Int×Int×List Int:=p
noncomputable def eY (s:List Int) (p:Int×Int×Int×List Int) (d:List Int):PP×Int×List Int:=prun (List.drop 0 (bw s (l7
 p) d).snd) {blocks:=0,block:=0,part:=1,len:=0,want:=8,buf:=wO 4096,bad:=false} 0 []
noncomputable def eZ (s:List Int) (p:Int×Int×Int×List Int) (d:List Int):PP×Int×List Int×Bool×Int:=br (eY s p
 d).fst 0
noncomputable def j5 (s:List Int) (p:Int×Int×Int×List Int) (d:List Int):PP×Int×List Int×Bool×Int:=br (eZ s p
 d).fst 0
abbrev Gl:Type:=Bool
noncomputable abbrev Gm (x:Gl):LV:=LV.one (VV.sc (SV.bool (SB.sym x)))
noncomputable abbrev Gn (x:Gl):List (Nat×Ev.Item):= []
noncomputable def xV (s:List Int) (p:Int×Int×Int×List Int) (d:List Int):Tr (Gl):=(.ite (decide (16<(↑p.snd.snd.snd.length:
 Int))==false) (.ite (decide (600<(↑d.length:Int))) (.ret (true)) (.need (mY s (l7 p) d) (.ite ((bw s (l7 p) d).fst !=0) (.ret
 (true)) (.need (j4 (bw s (l7 p) d).snd 0 0 p.fst p.snd.fst p.snd.snd.fst p.snd.snd.snd {blocks:=0,block:=0,part:=1,len:=0,want:=8,buf:=wO 4096,bad:=false}
 []) (.ite (false) (.ret (false)) (.need ((eY s p d).fst.bad=false→ ¬(eY s p d).fst.part=0→0≤(eY s p d).fst.len∧(eY s
 p d).fst.len<4096∧(eY s p d).fst.buf.length=4096∧((eY s p d).fst.part=4→(eY s p d).fst.want=4)) (.need ((eZ s p
 d).fst.bad=false→ ¬(eZ s p d).fst.part=0→0≤(eZ s p d).fst.len∧(eZ s p d).fst.len<4096∧(eZ s p d).fst.buf.length
 =4096∧((eZ s p d).fst.part=4→(eZ s p d).fst.want=4)) (.ite (cX (eY s p d).snd.snd (bw s (l7 p) d).snd==true)
 (.ite (((eY s p d).snd.fst==IntKind.i64.wrap (3+IntKind.i64.wrap (2*(↑p.snd.snd.snd.length:Int))))==true) (.ite (((eZ s p
 d).snd.snd.snd.snd==6)==true) (.ite (((j5 s p d).snd.snd.snd.snd==6)==true) (.ite (((if (j5 s p d).fst.bad=true then 0 else
 IntKind.i64.wrap ((j5 s p d).fst.want-(j5 s p d).fst.len))==0)==true) (.ret ((j5 s p d).fst.part==0)) (.ret (false))) (.ret
 (false))) (.ret (false))) (.ret (false))) (.ret (false)))))))))) (.ret (true)))
theorem JW (s:List Int) (p:b9) (d:List Int):aS Tryz.prog [(8,A5),(9,TA),(11,ab8),(13,E0),(12,Pu),(14,Pr),(10,N3)] [(0,bM lZ ((ag).wr (())) uA (uB))] Tryz.f3 ((oP).wr (s,p,d,())) ((ag).wr (())) [.cC 12 u8,.fr [.sym],.syms,.auto,.aD]=(xV s p d).end Gm Gn ((ag).wr (())):=by kernel_rfl
theorem N6 (s:List Int) (p:b9) (d:List Int):aQ Tryz.prog ((ag).wr (())) [(0,bM lZ ((ag).wr (())) uA (uB))] (aJ Tryz.f3):=(aQ.cO (nx (by kernel_rfl) (cz (hp:=(ag).wr (())) (JV s p d)) pc))
abbrev wh (s:List Int) (p:b9) (d:List Int):Prop:=s.length=32∧aB d∧0≤p.2.1∧p.2.1<18446744073709551616∧0≤p.2.2.1∧p.2.2.1<18446744073709551616
noncomputable def aes:ao:=ao.bS [none,some (.int .i64),some u8] (oP) (ag) fun x_ y_=> .leaf (some ((fun (s:List Int) (p:b9) (d:List Int)=>wh s p d) x_.1 x_.2.1 x_.2.2.1)) (Gm ((fun (s:List Int) (p:b9) (d:List Int)=>true) x_.1 x_.2.1 x_.2.2.1)) (Gn ((fun (s:List Int) (p:b9) (d:List Int)=>true) x_.1 x_.2.1 x_.2.2.1))
theorem TJ (s:List Int) (p:b9) (d:List Int) (h_:wh s p d):(xV s p d).Is (true):=by
 obtain ⟨h1,h2,h5,h6,h7,h8⟩:=h_
 have e1:l7 p=p:=rfl
 simp only[xV,e1]
 by_cases c1:16<(p.2.2.2.length:Int)
 ·have d:(decide (16<(p.2.2.2.length:Int))==false)=false:=by simpa using c1
  simp only[d,aN,al]
 ·have d1:(decide (16<(p.2.2.2.length:Int))==false)=true:=by simpa using c1
  simp only[d1,aK]
  by_cases c2:600<(d.length:Int)
  ·have d:decide (600<(d.length:Int))=true:=decide_eq_true c2
   simp only[d,aK,al]
  ·have d2:decide (600<(d.length:Int))=false:=decide_eq_false c2
   simp only[d2,aN,an]
   have p1:mY s p d:=⟨h1,h2,by omega,by omega,h5,h6,h7,h8⟩
   refine ⟨p1,?_⟩
   by_cases hm:(bw s p d).1=0
   ·have d3:((bw s p d).1!=0)=false:=by rw[hm];rfl
    simp only[d3,aN,an]
    obtain ⟨q,g1,g2,g3,g4⟩:=aay (s:=s) h2 hm
    have hl:=AQ hm
    obtain ⟨f1,f2⟩:=Gf p.2.2.2 d h2 (xQ hm).2.1
    have q2:eY s p d=prun (bw s p d).2 zP 0 []:=rfl
    have q7:eZ s p d=br (eY s p d).1 0:=rfl
    have q9:j5 s p d=br (eZ s p d).1 0:=rfl
    rw[g2] at q2
    rw[q2] at q7
    have b1:br q 0=({q with bad:=true},0,[],false,6):=by unfold br;rw[if_pos (.inr g4)]
    have q7:eZ s p d=({q with bad:=true},0,[],false,6):=by rw[q7];exact b1
    rw[q7] at q9
    have q9:j5 s p d=({q with bad:=true},0,[],false,6):=by rw[q9];unfold br;rw[if_pos (.inl rfl)]
    have p2:j4 (bw s p d).2 0 0 p.1 p.2.1 p.2.2.1 p.2.2.2 zP []:=⟨by omega,by omega,by omega,by omega,by omega,by simp,by simpa using g1⟩
    have w1:IntKind.i64.wrap (2*(p.2.2.2.length:Int))=2*p.2.2.2.length:=ar (by omega) (by omega)
    have w2:IntKind.i64.wrap (3+2*(p.2.2.2.length:Int))=3+2*p.2.2.2.length:=ar (by omega) (by omega)
    have es: ∀ l,(cX l l==true)=true:=fun l=>by simp[cX]
    have d4:(((6:Int)==6)==true)=true:=rfl
    have d5:(((0:Int)==0)==true)=true:=rfl
    simp only[q2,q7,q9,w1,w2,es,d4,d5,g4,beq_self_eq_true,if_true,aK,an,al]
    exact ⟨p2,fun _ h=>absurd trivial h,fun h=>by simp at h,trivial⟩
   ·have d3:((bw s p d).1!=0)=true:=by simpa using hm
    simp only[d3,aK,al]
theorem TK:aes.Ok Tryz.prog 3:=
 cg (tys:= [none,some (.int .i64),some u8]) (A:=oP) (H:=ag) (LT:=fun x_ y_=>(fun (s:List Int) (p:b9) (d:List Int)=> [(0,bM lZ ((ag).wr (())) uA (uB))]) x_.1 x_.2.1 x_.2.2.1) (ks:= [.cC 12 u8,.fr [.sym],.syms,.auto,.aD]) (V:=Gm) (D:=Gn) (T:=fun x_ y_=>xV x_.1 x_.2.1 x_.2.2.1) (pre:=fun x_ y_=>(fun (s:List Int) (p:b9) (d:List Int)=>wh s p d) x_.1 x_.2.1 x_.2.2.1) (sp:=fun x_ y_=>(fun (s:List Int) (p:b9) (d:List Int)=>true) x_.1 x_.2.1 x_.2.2.1) mixed ((ak A6 (ak AP (ak Mu (ak zO (ak E3 (ak E2 (ak JT aF)))))))) Tryz.func3 (by kernel_rfl) Tryz.call3 (fun x_ y_=>N6 x_.1 x_.2.1 x_.2.2.1) (fun x_ y_=>JW x_.1 x_.2.1 x_.2.2.1) (fun x_ y_ h=>TJ x_.1 x_.2.1 x_.2.2.1 h)
end Go.Proofs.YtjalaohajcpllaaGreat
end
