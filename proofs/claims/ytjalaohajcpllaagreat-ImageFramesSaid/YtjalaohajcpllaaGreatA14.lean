/- What the laws lean on, part 14: a reader of code, plain facts, and what each function gives; no conditions. -/
import Derived.Laws.Externs
import Derived.Test.YtjalaohajcpllaaGreatA13
section
set_option linter.unusedVariables false
set_option linter.unusedSimpArgs false
namespace Go.Proofs.YtjalaohajcpllaaGreat
open Go Go.Ev
set_option maxRecDepth 100000
def kX:List Int→Int
 | []=>0
 |x::l=>IntKind.u64.wrap (IntKind.u64.wrap (kX l*256)+IntKind.u64.wrap x)
abbrev nbC:a9 (List LV) (List Int×Int×Int×Unit):=ae (ah (dB false false u8)) (jk 2 (ae (ah (ay .u64)) (ae (ah (ay .i64)) (jk 16 ag))))
abbrev nbE:a9 (List LV) (Int×Unit):=jk 3 (ae (ah (ay .u64)) (jk 17 ag))
abbrev nbK:List Wk:= [.fr (cK 21 [(0,.an),(3,.sym),(4,.sym)])]
abbrev nbX:List Wk:= [.fr (cK 21 [(3,.sym)])]
noncomputable abbrev aog:Func:=Tryz.f66
theorem aoh (l:List Int) (n i:Int):c8 Tryz.prog [] [] aog 0 [] (wsE nbK 0 nbX) ((bH nbC ag).wr ((l,n,i,()),()))=
 a6.ite (decide ((0:Int)≤i)) (a6.need ((0:Int)≤i∧i<(↑l.length:Int)) (a6.leaf Exit.normal {fr:= [LV.one (VV.sc (SV.rd false false (Ty.int IntKind.u8) l)),LV.bl,LV.bl,LV.one (VV.sc (SV.int IntKind.u64 (SI.sym (IntKind.u64.wrap (IntKind.u64.wrap (n*(256:Int))+IntKind.u64.wrap (l.getD i.toNat (0:Int))))))),LV.one (VV.sc (SV.int IntKind.i64 (SI.sym (IntKind.i64.wrap (i-(1:Int)))))),LV.bl,LV.bl,LV.bl,LV.bl,LV.bl,LV.bl,LV.bl,LV.bl,LV.bl,LV.bl,LV.bl,LV.bl,LV.bl,LV.bl,LV.bl,LV.bl],hp:= []}))
 (a6.leaf (Exit.exit (0:Nat)) {fr:= [LV.bl,LV.bl,LV.bl,LV.one (VV.sc (SV.int IntKind.u64 (SI.sym n))),LV.bl,LV.bl,LV.bl,LV.bl,LV.bl,LV.bl,LV.bl,LV.bl,LV.bl,LV.bl,LV.bl,LV.bl,LV.bl,LV.bl,LV.bl,LV.bl,LV.bl],hp:= []}):=by kernel_rfl
noncomputable def nbF (x:(List Int×Int×Int×Unit)×Unit):a6:=
 .need (x.1.2.1=0∧x.1.2.2.1=IntKind.i64.wrap (x.1.1.length-1)∧x.1.1.length≤70368744177664) (.leaf (.exit 0) ((bH nbE ag).wr ((kX x.1.1,()),())))
theorem ajs (x):Ex Tryz.prog [] (.loop (aU aog 0)) ((bH nbC ag).wr x) (nbF x):=by
 obtain ⟨⟨l,n,i,_⟩,_⟩:=x
 refine Ex.need fun ⟨h1,h2,h3⟩=>?_
 simp only at h1 h2 h3
 rw[aq (by omega) (by omega)] at h2
 subst h1 h2
 have key:=Ei mixed aD (aP.nil _) (fun j=>j) (fun j:Nat=>(bH nbC ag).wr ((l,kX (l.drop j),(j:Int)-1,()),())) (fun j=>j≤l.length)
  (fun j=> .leaf (.exit 0) ((bH nbE ag).wr ((kX l,()),()))) (fun j _=>aoh l _ _) (fun j R hj hs=>?_) l.length (Nat.le_refl _)
 ·simp only[List.drop_length] at key
  exact key
 ·refine ⟨fun hb=>?_,fun hb=>?_⟩
  ·have fq:0<j:=by simp at hb;omega
   obtain ⟨k,rfl⟩: ∃ k,j=k+1:=⟨j-1,by omega⟩
   refine ⟨⟨by omega,by omega⟩,.inl ⟨rfl,k,?_,by omega,by omega,hs⟩⟩
   have e1:IntKind.i64.wrap (((k+1:Nat):Int)-1-1)=(k:Int)-1:=by rw[aq (by omega) (by omega)];omega
   have e2:(((k+1:Nat):Int)-1).toNat=k:=by omega
   rw[e1,e2,qF (show k<l.length by omega)]
   rfl
  ·have:j=0:=by simp at hb;omega
   subst this
   exact .inr ⟨by simp,hs⟩
noncomputable abbrev arV:eW:= [(0,fw (bH nbC ag) 0 nbK nbF)]
noncomputable def amm:au:=au.bV [some u8] bA ag fun x _=> .leaf (some (x.1.length≤70368744177664)) (nU (kX x.1)) []
theorem ajt (l:List Int):aY Tryz.prog [] arV aog (bA.wr (l,())) [] [.auto]=
 End.need ((0:Int)=(0:Int)∧IntKind.i64.wrap ((↑l.length:Int)-(1:Int))=IntKind.i64.wrap ((↑l.length:Int)-(1:Int))∧l.length≤
 (70368744177664:Nat)) (End.leaf (LV.one (VV.sc (SV.int IntKind.u64 (SI.sym (kX l))))) []):=by kernel_rfl
theorem arW:amm.Ok Tryz.prog 66:=by
 refine (au.bE Tryz.call66 fun x y Q h=>?_).sym
 obtain ⟨l,_⟩:=x
 obtain ⟨hl,hq⟩:=h
 have hl:l.length≤70368744177664:=hl
 refine (aG mixed aD Tryz.func66 rfl (LT:=arV) (ks:= [.auto]) (aP.cy (jr rfl (c5 (hp:= []) ajs) jH))).use (D:= []) ?_ hq
 show (aY _ _ _ _ (bA.wr (l,())) [] _).sat _
 rw[ajt]
 exact ⟨⟨rfl,rfl,hl⟩,rfl,rfl⟩
theorem lB {l:List Int} (h:aC l) (i:Nat):By (l.getD i 0):=by
 rw[List.getD_eq_getElem?_getD]
 cases he:l[i]? with
 |none=>exact ⟨by simp,by simp⟩
 |some z=>exact h z (List.mem_of_getElem? he)
end Go.Proofs.YtjalaohajcpllaaGreat
end
section
set_option linter.unusedVariables false
set_option linter.unusedSimpArgs false
namespace Go.Proofs.YtjalaohajcpllaaGreat
open Go Go.Ev
set_option maxRecDepth 100000
def iC (l:List Int) (i:Nat):Int:=IntKind.i64.wrap (kX ((l.drop i).take 2))
theorem Lv (l:List Int):aY Tryz.prog [(66,amm)] [] Tryz.f39 (bA.wr (l,())) [] [.fr [.sym],.auto]=
 End.need ((0:Int)≤(0:Int)∧(0:Int)≤(2:Int)∧(2:Int)≤(↑l.length:Int)) (End.need ((List.take (2:Nat) (List.drop (0:Nat)
 l)).length≤(70368744177664:Nat)) (End.need ((0:Int)≤(2:Int)∧(2:Int)≤(4:Int)∧(4:Int)≤(↑l.length:Int)) (End.need ((List.take (2
 :Nat) (List.drop (2:Nat) l)).length≤(70368744177664:Nat)) (End.ite (decide ((1:Int)≤IntKind.i64.wrap (kX (List.take (2:Nat) (List.drop
 (0:Nat) l))))==true) (End.ite (decide (IntKind.i64.wrap (kX (List.take (2:Nat) (List.drop (0:Nat) l)))≤(4096:Int))==true) (End.ite
 (decide ((1:Int)≤IntKind.i64.wrap (kX (List.take (2:Nat) (List.drop (2:Nat) l))))==true) (End.leaf (LV.cV [VV.sc (SV.int IntKind.i64
 (SI.sym (IntKind.i64.wrap (kX (List.take (2:Nat) (List.drop (0:Nat) l)))))),VV.sc (SV.int IntKind.i64 (SI.sym (IntKind.i64.wrap (kX (List.take
 (2:Nat) (List.drop (2:Nat) l)))))),VV.sc (SV.bool (SB.sym (decide (IntKind.i64.wrap (kX (List.take (2:Nat) (List.drop (2:Nat) l)))≤(8192:
 Int)))))]) []) (End.leaf (LV.cV [VV.sc (SV.int IntKind.i64 (SI.sym (IntKind.i64.wrap (kX (List.take (2:Nat) (List.drop (0:Nat) l)))))),VV.sc
 (SV.int IntKind.i64 (SI.sym (IntKind.i64.wrap (kX (List.take (2:Nat) (List.drop (2:Nat) l)))))),VV.sc (SV.bool (SB.sym false))]) [])) (End.leaf
 (LV.cV [VV.sc (SV.int IntKind.i64 (SI.sym (IntKind.i64.wrap (kX (List.take (2:Nat) (List.drop (0:Nat) l)))))),VV.sc (SV.int IntKind.i64 (SI.sym
 (IntKind.i64.wrap (kX (List.take (2:Nat) (List.drop (2:Nat) l)))))),VV.sc (SV.bool (SB.sym false))]) [])) (End.leaf (LV.cV [VV.sc (SV.int
 IntKind.i64 (SI.sym (IntKind.i64.wrap (kX (List.take (2:Nat) (List.drop (0:Nat) l)))))),VV.sc (SV.int IntKind.i64 (SI.sym (IntKind.i64.wrap
 (kX (List.take (2:Nat) (List.drop (2:Nat) l)))))),VV.sc (SV.bool (SB.sym false))]) []))))):=by kernel_rfl
def nX (l:List Int):Bool:=decide (1≤iC l 0∧iC l 0≤4096∧1≤iC l 2∧iC l 2≤8192)
noncomputable def Uz:au:=au.bV [some u8] bA ag fun x _=> .leaf (some (4≤x.1.length)) (.cV [.sc (.int .i64 (.sym (iC x.1 0))),.sc (.int .i64 (.sym (iC x.1 2))),.sc (.bool (.sym (nX x.1)))]) []
theorem XK:Uz.Ok Tryz.prog 39:=by
 refine (au.bE Tryz.call39 fun x y Q h=>?_).sym
 obtain ⟨l,_⟩:=x
 obtain ⟨hl,hq⟩:=h
 have hl:4≤l.length:=hl
 refine (aG mixed (ao arW aD) Tryz.func39 rfl (LT:= []) (ks:= [.fr [.sym],.auto]) (aP.nil _)).use (D:= []) ?_ hq
 show (aY _ _ _ _ (bA.wr (l,())) [] _).sat _
 rw[Lv]
 have key: ∀ {b:Bool},b=nX l→LV.cV [.sc (.int .i64 (.sym (iC l 0))),.sc (.int .i64 (.sym (iC l 2))),.sc (.bool (.sym b))]=LV.cV [.sc (.int .i64 (.sym (iC l 0))),.sc (.int .i64 (.sym (iC l 2))),.sc (.bool (.sym (nX l)))]:=fun h=>by rw[h]
 have e0:iC l 0=IntKind.i64.wrap (kX ((l.drop 0).take 2)):=rfl
 have e2:iC l 2=IntKind.i64.wrap (kX ((l.drop 2).take 2)):=rfl
 rw[← e0,← e2]
 refine ⟨by omega,by simp;omega,by omega,by simp;omega,fun h1=>⟨fun h2=>⟨fun h3=>⟨key ?_,rfl⟩,fun h3=>⟨key ?_,rfl⟩⟩,fun h2=>⟨key ?_,rfl⟩⟩,fun h1=>⟨key ?_,rfl⟩⟩<;>simp_all[nX]<;>omega
end Go.Proofs.YtjalaohajcpllaaGreat
end
section
set_option linter.unusedVariables false
set_option linter.unusedSimpArgs false
namespace Go.Proofs.YtjalaohajcpllaaGreat
open Go Go.Ev
set_option maxRecDepth 100000
abbrev cd:a9 LV Unit:=ah (aJ 1 0)
end Go.Proofs.YtjalaohajcpllaaGreat
end
section
set_option linter.unusedVariables false
set_option linter.unusedSimpArgs false
namespace Go.Proofs.YtjalaohajcpllaaGreat
open Go Go.Ev
set_option maxRecDepth 100000
theorem aoi {m:Nat} {x y:Int} (xa:0≤x) (hx:x%(2 ^ m:Nat)=0) (AL:0≤y) (hy:y<(2 ^ m:Nat)) (h64:x+y<9223372036854775808):bD .i64 x y=x+y:=by
 unfold bD
 have e:(2 ^ 64:Nat)=18446744073709551616:=by decide
 have h:=NG (n:=64) xa (by omega) hx AL hy (by omega)
 show IntKind.i64.wrap ((BitVec.ofInt 64 x|||BitVec.ofInt 64 y).toNat:Int)=_
 rw[h];exact aq (by omega) (by omega)
theorem H9 {l:List Int} {i:Nat} (h0:By (l.getD i 0)) (h1:By (l.getD (i+1) 0)):two l i=l.getD i 0+256*l.getD (i+1) 0:=by
 unfold two
 unfold By at h0 h1
 generalize l.getD i 0=a at*
 generalize l.getD (i+1) 0=b at*
 rw[aq (by omega) (by omega),aq (by omega) (by omega)]
 have e1:shl .i64 b 8=b*256:=by
  have:=ia .i64 b 8 (by simp[IntKind.bits])
  rw[show ((8:Nat):Int)=8 from rfl] at this
  rw[this,aq (by omega) (by omega)]
  rfl
 rw[e1,js,aoi (m:=8) (by omega) (by omega) (by omega) (by omega) (by omega)]
 omega
theorem Ia {l:List Int} {i:Nat} (hl:i+1<l.length) (h0:By (l.getD i 0)) (h1:By (l.getD (i+1) 0)):iC l i=l.getD i 0+256*l.getD (i+1) 0:=by
 unfold iC
 rw[qF (show i<l.length by omega),qF hl]
 unfold By at h0 h1
 generalize l.getD i 0=a at*
 generalize l.getD (i+1) 0=b at*
 simp only[List.take_succ_cons,List.take_zero,kX]
 have e0:IntKind.u64.wrap (0*256)=0:=rfl
 rw[e0,Int.zero_add,wrap_u64 (n:=b) (by omega) (by omega),wrap_u64 (n:=b) (by omega) (by omega),wrap_u64 (n:=b*256) (by omega) (by omega),wrap_u64 (n:=a) (by omega) (by omega),wrap_u64 (by omega) (by omega),aq (by omega) (by omega)]
 omega
theorem aeE {l:List Int} (h: ∀ z∈l,By z) (hl:4≤l.length):iC l 0=two l 0∧nX l=iA l:=by
 have e0:iC l 0=two l 0:=by rw[Ia (by omega) (lB h 0) (lB h 1),H9 (lB h 0) (lB h 1)]
 have e2:iC l 2=two l 2:=by rw[Ia (by omega) (lB h 2) (lB h 3),H9 (lB h 2) (lB h 3)]
 exact ⟨e0,by unfold nX iA;rw[e0,e2]⟩
end Go.Proofs.YtjalaohajcpllaaGreat
end
section
set_option linter.unusedVariables false
set_option linter.unusedSimpArgs false
namespace Go.Proofs.YtjalaohajcpllaaGreat
open Go Go.Ev
set_option maxRecDepth 1000000
def cL (b:List Int) (plain:Int):Int×List Int:=if (aT b plain).1≠0 then ((aT b plain).1,[]) else (0,dO (aT b plain).2)
theorem wm {b:List Int} {plain:Int}:(aT b plain).2.length<1099511627776:=by
 unfold aT
 by_cases hp:plain<0∨8192<plain
 ·rw[if_pos hp];simp
 ·rw[if_neg hp]
  have k:=(gA 200000 plain 0 b (0,4294967295,4) Zj (bx 8) (bx 8) (bx 6) [] an0 (fun x h=>by simp at h) (by omega) (by simp)).2
  have k:((eL b plain).1.length:Int)≤max plain 0:=k
  split
  ·simp only;omega
  ·simp
abbrev Cu:Type:=Int
noncomputable abbrev Cv (x:Cu):LV:=LV.cV [VV.sc (SV.gz (Value.slice none 0 0)),VV.sc (SV.int IntKind.i64 (SI.sym x))]
noncomputable abbrev Cw (x:Cu):List (Nat×Ev.Item):= []
abbrev Cx:Type:=Int×(List Int)
noncomputable abbrev Cy (x:Cx):LV:=LV.cV [VV.sc (SV.sl 0 0),VV.sc (SV.int IntKind.i64 (SI.sym x.1))]
noncomputable abbrev Cz (x:Cx):List (Nat×Ev.Item):= [(0,Item.own 0 (Ty.int IntKind.u8) x.2)]
noncomputable def rF (b:List Int) (plain:Int):Tr (Cu⊕Cx):=(.ite (decide ¬(aT b plain).fst=0) (.need (ja b
 plain) (.ite ((aT b plain).fst !=0) (.ret (.inl ((aT b plain).fst))) (.need (mK []) (.ret (.inr (0,dO [])))))) (.need (ja
 b plain) (.ite ((0:Int)!=0) (.ret (.inl (0))) (.need (mK (aT b plain).snd) (.ret (.inr (0,dO (aT b plain).snd)))))))
theorem Lw (b:List Int) (plain:Int):aY Tryz.prog [(23,T9),(24,TF)] [] Tryz.f38 (((ae (ah (dB false false u8)) (ae (ah (ay .i64)) ag))).wr (b,plain,())) ((ag).wr (())) [.fr [.sym],.syms,.auto,.ax]=(rF b plain).end (Sum.elim Cv Cy) (Sum.elim Cw Cz) ((ag).wr (())):=by kernel_rfl
theorem QO (b:List Int) (plain:Int):aP Tryz.prog ((ag).wr (())) [] (aH Tryz.f38):=(aP.nil _)
abbrev jc (b:List Int) (plain:Int):Prop:=aC b∧b.length<1099511627776
noncomputable def UA:au:=au.bV [some u8,none] ((ae (ah (dB false false u8)) (ae (ah (ay .i64)) ag))) (ag) fun x_ y_=> .ite ((fun (b:List Int) (plain:Int)=>decide ((cL b plain).1≠0)) x_.1 x_.2.1) (.leaf (some ((fun (b:List Int) (plain:Int)=>jc b plain) x_.1 x_.2.1)) (Cv ((fun (b:List Int) (plain:Int)=>(cL b plain).1) x_.1 x_.2.1)) (Cw ((fun (b:List Int) (plain:Int)=>(cL b plain).1) x_.1 x_.2.1))) (.leaf (some ((fun (b:List Int) (plain:Int)=>jc b plain) x_.1 x_.2.1)) (Cy ((fun (b:List Int) (plain:Int)=>(0,(cL b plain).2)) x_.1 x_.2.1)) (Cz ((fun (b:List Int) (plain:Int)=>(0,(cL b plain).2)) x_.1 x_.2.1)))
theorem XM (b:List Int) (plain:Int) (h_:jc b plain):(decide ((cL b plain).1≠0)=true→(rF b plain).Is (.inl ((cL b plain).1)))∧(decide ((cL b plain).1≠0)=false→(rF b plain).Is (.inr ((0,(cL b plain).2)))):=by
 have hl:=wm (b:=b) (plain:=plain)
 have p0:ja b plain:=h_
 by_cases c:(aT b plain).1=0
 ·have e:cL b plain=(0,dO (aT b plain).2):=by unfold cL;rw[if_neg (by simpa using c)]
  simp only[e,rF,bI,ai,aj]
  simp[c];exact ⟨p0,hl⟩
 ·have e:cL b plain=((aT b plain).1,[]):=by unfold cL;rw[if_pos c]
  simp only[e,rF,bI,ai,aj]
  simp[c];exact p0
theorem XN:UA.Ok Tryz.prog 38:=
 lR (tys:= [some u8,none]) (A:=(ae (ah (dB false false u8)) (ae (ah (ay .i64)) ag))) (H:=ag) (LT:=fun x_ y_=>(fun (b:List Int) (plain:Int)=> []) x_.1 x_.2.1) (ks:= [.fr [.sym],.syms,.auto,.ax]) (V:=Cv) (D:=Cw) (V':=Cy) (D':=Cz) (T:=fun x_ y_=>rF x_.1 x_.2.1) (pre:=fun x_ y_=>(fun (b:List Int) (plain:Int)=>jc b plain) x_.1 x_.2.1) (c:=fun x_ y_=>(fun (b:List Int) (plain:Int)=>decide ((cL b plain).1≠0)) x_.1 x_.2.1) (sp:=fun x_ y_=>(fun (b:List Int) (plain:Int)=>(cL b plain).1) x_.1 x_.2.1) (sp':=fun x_ y_=>(fun (b:List Int) (plain:Int)=>(0,(cL b plain).2)) x_.1 x_.2.1) mixed ((ao Xe (ao Wq aD))) Tryz.func38 (by kernel_rfl) Tryz.call38 (fun x_ y_=>QO x_.1 x_.2.1) (fun x_ y_=>Lw x_.1 x_.2.1) (fun x_ y_ h=>XM x_.1 x_.2.1 h)
def aw (b:List Int):Int×List Int×Int:=
 if b.length<4 then (16,[],0)
 else if iA b=false then (6,[],0)
 else if (b.length:Int)<4+two b 0 then (16,[],0)
 else if (cL ((b.drop 4).take (two b 0).toNat) (two b 2)).1≠0 then ((cL ((b.drop 4).take (two b 0).toNat) (two b 2)).1,[],0)
 else (0,(cL ((b.drop 4).take (two b 0).toNat) (two b 2)).2,4+two b 0)
theorem UB {b:List Int} (h:aC b) (n m:Nat):aC ((b.drop n).take m):=fun z hz=>h z (List.mem_of_mem_drop (List.mem_of_mem_take hz))
theorem Lx {b:List Int} (h:iA b=true):1≤two b 0∧two b 0≤4096:=by
 have:=of_decide_eq_true h;omega
noncomputable def yd (b:List Int):Int×List Int:=cL (List.take (IntKind.i64.wrap (4+two b 0)-4).toNat (List.drop 4 b)) (two b 2)
noncomputable def QP (b:List Int):Int:=(↑b.length:Int)
abbrev QQ:Type:=Int×Int
noncomputable abbrev QR (x:QQ):LV:=LV.cV [VV.sc (SV.gz (Value.slice none 0 0)),VV.sc (SV.int IntKind.i64 (SI.sym x.1)),VV.sc (SV.int
 IntKind.i64 (SI.sym x.2))]
noncomputable abbrev QS (x:QQ):List (Nat×Ev.Item):= []
abbrev QT:Type:=Int×Int×(List Int)
noncomputable abbrev QU (x:QT):LV:=LV.cV [VV.sc (SV.sl 0 0),VV.sc (SV.int IntKind.i64 (SI.sym x.1)),VV.sc (SV.int IntKind.i64 (SI.sym
 x.2.1))]
noncomputable abbrev QV (x:QT):List (Nat×Ev.Item):= [(0,Item.own 0 (Ty.int IntKind.u8) x.2.2)]
noncomputable def yX (b:List Int):Tr (QQ⊕QT):=(.ite (decide (QP b<4)) (.ret (.inl (0,16))) (.need (4≤b.length) (.ite
 (!iA b) (.ret (.inl (0,6))) (.ite (decide (IntKind.i64.wrap (QP b-4)<two b 0)) (.ret (.inl (0,16))) (.need ((0:Int)≤4∧4≤
 IntKind.i64.wrap (4+two b 0)∧IntKind.i64.wrap (4+two b 0)≤(↑b.length:Int)) (.ite (decide ¬(yd b).fst=0) (.need (jc (List.take
 (IntKind.i64.wrap (4+two b 0)-4).toNat (List.drop 4 b)) (two b 2)) (.ite ((yd b).fst !=0) (.ret (.inl (0,(yd b).fst))) (.ret (.inl
 (IntKind.i64.wrap (4+two b 0),0))))) (.need (jc (List.take (IntKind.i64.wrap (4+two b 0)-4).toNat (List.drop 4 b)) (two b 2)) (.ite ((0:
 Int)!=0) (.ret (.inl (0,0))) (.ret (.inr (IntKind.i64.wrap (4+two b 0),0,(yd b).snd)))))))))))
theorem XO (b:List Int):aY Tryz.prog [(37,Ux),(38,UA)] [] Tryz.f19 (((ae (ah (dB false false u8)) ag)).wr (b,())) ((ag).wr (())) [.fr [.sym],.syms,.auto,.ax]=(yX b).end (Sum.elim QR QU) (Sum.elim QS QV) ((ag).wr (())):=by kernel_rfl
theorem aeF (b:List Int):aP Tryz.prog ((ag).wr (())) [] (aH Tryz.f19):=(aP.nil _)
abbrev eu (b:List Int):Prop:=aC b∧b.length<1099511627776
noncomputable def aeG:au:=au.bV [some u8] ((ae (ah (dB false false u8)) ag)) (ag) fun x_ y_=> .ite ((fun (b:List Int)=>decide ((aw b).1≠0)) x_.1) (.leaf (some ((fun (b:List Int)=>eu b) x_.1)) (QR ((fun (b:List Int)=>(0,(aw b).1)) x_.1)) (QS ((fun (b:List Int)=>(0,(aw b).1)) x_.1))) (.leaf (some ((fun (b:List Int)=>eu b) x_.1)) (QU ((fun (b:List Int)=>((aw b).2.2,0,(aw b).2.1)) x_.1)) (QV ((fun (b:List Int)=>((aw b).2.2,0,(aw b).2.1)) x_.1)))
theorem aju (b:List Int) (h_:eu b):(decide ((aw b).1≠0)=true→(yX b).Is (.inl ((0,(aw b).1))))∧(decide ((aw b).1≠0)=false→(yX b).Is (.inr (((aw b).2.2,0,(aw b).2.1)))):=by
 obtain ⟨h1,h2⟩:=h_
 have nF:QP b=(b.length:Int):=rfl
 by_cases c1:b.length<4
 ·have e:aw b=(16,[],0):=by unfold aw;rw[if_pos c1]
  have e1:decide ((b.length:Int)<4)=true:=decide_eq_true (by omega)
  simp only[e,yX,nF,e1,aS,aj]
  simp
 ·have e1:decide ((b.length:Int)<4)=false:=decide_eq_false (by omega)
  cases c2:iA b with
  |false=>
   have e:aw b=(6,[],0):=by unfold aw;rw[if_neg c1,if_pos c2]
   simp only[e,yX,nF,e1,c2,aS,a7,ai,aj,Bool.not_false]
   simp;omega
  |true=>
   obtain ⟨s1,s2⟩:=Lx c2
   have w1:IntKind.i64.wrap ((b.length:Int)-4)=b.length-4:=aq (by omega) (by omega)
   have w2:IntKind.i64.wrap (4+two b 0)=4+two b 0:=aq (by omega) (by omega)
   have w3:(4+two b 0-4).toNat=(two b 0).toNat:=by omega
   by_cases c3:(b.length:Int)<4+two b 0
   ·have e:aw b=(16,[],0):=by unfold aw;rw[if_neg c1,if_neg (by rw[c2];simp),if_pos c3]
    have e3:decide ((b.length:Int)-4<two b 0)=true:=decide_eq_true (by omega)
    simp only[e,yX,nF,e1,c2,w1,e3,aS,a7,ai,aj,Bool.not_true]
    simp;omega
   ·have e3:decide ((b.length:Int)-4<two b 0)=false:=decide_eq_false (by omega)
    have sC:yd b=cL ((b.drop 4).take (two b 0).toNat) (two b 2):=by unfold yd;rw[w2,w3]
    have p0:jc ((b.drop 4).take (two b 0).toNat) (two b 2):=⟨UB h1 _ _,by rw[List.length_take];omega⟩
    simp only[yX,nF,e1,c2,w1,w2,w3,e3,sC,aS,a7,ai,aj,Bool.not_true]
    by_cases c4:(cL ((b.drop 4).take (two b 0).toNat) (two b 2)).1=0
    ·have e:aw b=(0,(cL ((b.drop 4).take (two b 0).toNat) (two b 2)).2,4+two b 0):=by
      unfold aw;rw[if_neg c1,if_neg (by rw[c2];simp),if_neg c3,if_neg (by simpa using c4)]
     have e4:decide ¬(cL ((b.drop 4).take (two b 0).toNat) (two b 2)).1=0=false:=by simpa using c4
     have e5:((0:Int)!=0)=false:=rfl
     simp only[e,e4,e5,a7,ai,aj]
     simp
     exact ⟨by omega,⟨by omega,by omega⟩,p0⟩
    ·have e:aw b=((cL ((b.drop 4).take (two b 0).toNat) (two b 2)).1,[],0):=by
      unfold aw;rw[if_neg c1,if_neg (by rw[c2];simp),if_neg c3,if_pos c4]
     have e4:decide ¬(cL ((b.drop 4).take (two b 0).toNat) (two b 2)).1=0=true:=by simpa using c4
     have e5:((cL ((b.drop 4).take (two b 0).toNat) (two b 2)).1!=0)=true:=by simpa using c4
     simp only[e,e4,e5,aS,ai,aj]
     simp[c4]
     exact ⟨by omega,⟨by omega,by omega⟩,p0⟩
theorem UC:aeG.Ok Tryz.prog 19:=
 lR (tys:= [some u8]) (A:=(ae (ah (dB false false u8)) ag)) (H:=ag) (LT:=fun x_ y_=>(fun (b:List Int)=> []) x_.1) (ks:= [.fr [.sym],.syms,.auto,.ax]) (V:=QR) (D:=QS) (V':=QU) (D':=QV) (T:=fun x_ y_=>yX x_.1) (pre:=fun x_ y_=>(fun (b:List Int)=>eu b) x_.1) (c:=fun x_ y_=>(fun (b:List Int)=>decide ((aw b).1≠0)) x_.1) (sp:=fun x_ y_=>(fun (b:List Int)=>(0,(aw b).1)) x_.1) (sp':=fun x_ y_=>(fun (b:List Int)=>((aw b).2.2,0,(aw b).2.1)) x_.1) mixed ((ao XJ (ao XN aD))) Tryz.func19 (by kernel_rfl) Tryz.call19 (fun x_ y_=>aeF x_.1) (fun x_ y_=>XO x_.1) (fun x_ y_ h=>aju x_.1 h)
theorem aeH {b:List Int} (h: ∀ z∈b,By z) (hl:4≤b.length):iC b 2=two b 2:=by
 have hb: ∀ i,By (b.getD i 0):=fun i=>aC.getD h i
 rw[Ia (by omega) (hb 2) (hb 3),H9 (hb 2) (hb 3)]
noncomputable def sR (b:List Int):Int×List (Int×Int×Int):=aT (List.take (IntKind.i64.wrap (4+iC b 0)-4).toNat (List.drop 4
 b)) (iC b 2)
noncomputable def QW (b:List Int):Int:=(↑b.length:Int)
abbrev QX:Type:=Int×Int
noncomputable abbrev QY (x:QX):LV:=LV.cV [VV.sc (SV.gz (Value.slice none 0 0)),VV.sc (SV.int IntKind.i64 (SI.sym x.1)),VV.sc (SV.int
 IntKind.i64 (SI.sym x.2))]
noncomputable abbrev QZ (x:QX):List (Nat×Ev.Item):= []
abbrev Q0:Type:=Int×Int×(List Int)
noncomputable abbrev Q1 (x:Q0):LV:=LV.cV [VV.sc (SV.sl 0 0),VV.sc (SV.int IntKind.i64 (SI.sym x.1)),VV.sc (SV.int IntKind.i64 (SI.sym
 x.2.1))]
noncomputable abbrev Q2 (x:Q0):List (Nat×Ev.Item):= [(0,Item.own 0 (Ty.int IntKind.u8) x.2.2)]
noncomputable def yY (b:List Int):Tr (QX⊕Q0):=(.ite (decide (QW b<4)) (.ret (.inl (0,16))) (.need (4≤b.length) (.ite
 (!nX b) (.ret (.inl (0,6))) (.ite (decide (QW b<IntKind.i64.wrap (4+iC b 0))) (.ret (.inl (0,16))) (.need ((0:Int)≤4∧4≤
 IntKind.i64.wrap (4+iC b 0)∧IntKind.i64.wrap (4+iC b 0)≤(↑b.length:Int)) (.ite (decide ¬(sR b).fst=0) (.need (sM (List.take
 (IntKind.i64.wrap (4+iC b 0)-4).toNat (List.drop 4 b)) (iC b 2)) (.ite ((sR b).fst !=0) (.ret (.inl (0,(sR b).fst))) (.need
 (iZ []) (.ret (.inr (IntKind.i64.wrap (4+iC b 0),0,dO [])))))) (.need (sM (List.take (IntKind.i64.wrap (4+iC b 0)-4).toNat
 (List.drop 4 b)) (iC b 2)) (.ite ((0:Int)!=0) (.ret (.inl (0,0))) (.need (iZ (sR b).snd) (.ret (.inr (IntKind.i64.wrap (4+iC b
 0),0,dO (sR b).snd))))))))))))
theorem XP (b:List Int):aY Tryz.prog [(39,Uz),(40,arF),(41,zN)] [] Tryz.f20 (((ae (ah (dB false false u8)) ag)).wr (b,())) ((ag).wr (())) [.fr [.sym],.syms,.auto,.ax]=(yY b).end (Sum.elim QY Q1) (Sum.elim QZ Q2) ((ag).wr (())):=by kernel_rfl
theorem aeI (b:List Int):aP Tryz.prog ((ag).wr (())) [] (aH Tryz.f20):=(aP.nil _)
abbrev j5 (b:List Int):Prop:=aC b∧b.length<1099511627776
noncomputable def amn:au:=au.bV [some u8] ((ae (ah (dB false false u8)) ag)) (ag) fun x_ y_=> .ite ((fun (b:List Int)=>decide ((aw b).1≠0)) x_.1) (.leaf (some ((fun (b:List Int)=>j5 b) x_.1)) (QY ((fun (b:List Int)=>(0,(aw b).1)) x_.1)) (QZ ((fun (b:List Int)=>(0,(aw b).1)) x_.1))) (.leaf (some ((fun (b:List Int)=>j5 b) x_.1)) (Q1 ((fun (b:List Int)=>((aw b).2.2,0,(aw b).2.1)) x_.1)) (Q2 ((fun (b:List Int)=>((aw b).2.2,0,(aw b).2.1)) x_.1)))
theorem ajv (b:List Int) (h_:j5 b):(decide ((aw b).1≠0)=true→(yY b).Is (.inl ((0,(aw b).1))))∧(decide ((aw b).1≠0)=false→(yY b).Is (.inr (((aw b).2.2,0,(aw b).2.1)))):=by
 obtain ⟨h1,h2⟩:=h_
 have nF:QW b=(b.length:Int):=rfl
 by_cases c1:b.length<4
 ·have e:aw b=(16,[],0):=by unfold aw;rw[if_pos c1]
  have e1:decide ((b.length:Int)<4)=true:=decide_eq_true (by omega)
  simp only[e,yY,nF,e1,aS,aj]
  simp
 ·have e1:decide ((b.length:Int)<4)=false:=decide_eq_false (by omega)
  obtain ⟨r1,r2⟩:=aeE h1 (by omega)
  have r3:=aeH h1 (by omega)
  have sC:sR b=aT (List.take (IntKind.i64.wrap (4+two b 0)-4).toNat (b.drop 4)) (two b 2):=by unfold sR;rw[r1,r3]
  cases c2:iA b with
  |false=>
   have e:aw b=(6,[],0):=by unfold aw;rw[if_neg c1,if_pos c2]
   simp only[e,yY,nF,e1,r2,c2,aS,a7,ai,aj,Bool.not_false]
   simp;omega
  |true=>
   obtain ⟨s1,s2⟩:=Lx c2
   have w2:IntKind.i64.wrap (4+two b 0)=4+two b 0:=aq (by omega) (by omega)
   have w3:(4+two b 0-4).toNat=(two b 0).toNat:=by omega
   by_cases c3:(b.length:Int)<4+two b 0
   ·have e:aw b=(16,[],0):=by unfold aw;rw[if_neg c1,if_neg (by rw[c2];simp),if_pos c3]
    have e3:decide ((b.length:Int)<4+two b 0)=true:=decide_eq_true c3
    simp only[e,yY,nF,e1,r1,r2,c2,w2,e3,aS,a7,ai,aj,Bool.not_true]
    simp;omega
   ·have e3:decide ((b.length:Int)<4+two b 0)=false:=decide_eq_false c3
    rw[w2,w3] at sC
    have p0:sM ((b.drop 4).take (two b 0).toNat) (two b 2):=⟨UB h1 _ _,by rw[List.length_take];omega⟩
    have hl:=wm (b:=(b.drop 4).take (two b 0).toNat) (plain:=two b 2)
    simp only[yY,nF,e1,r1,r2,r3,c2,w2,w3,e3,sC,aS,a7,ai,aj,Bool.not_true]
    generalize hu:aT ((b.drop 4).take (two b 0).toNat) (two b 2)=u at*
    by_cases c4:u.1=0
    ·have e:aw b=(0,dO u.2,4+two b 0):=by
      unfold aw cL;rw[hu,if_neg c1,if_neg (by rw[c2];simp),if_neg c3,if_neg (show ¬ u.1≠0 by simpa using c4),if_neg (by simp)]
     have e4:decide ¬u.1=0=false:=by simpa using c4
     have e5:((0:Int)!=0)=false:=rfl
     simp only[e,e4,e5,a7,ai,aj]
     simp
     exact ⟨by omega,⟨by omega,by omega⟩,p0,hl⟩
    ·have e:aw b=(u.1,[],0):=by
      unfold aw cL;rw[hu,if_neg c1,if_neg (by rw[c2];simp),if_neg c3,if_pos (show u.1≠0 from c4),if_pos (by exact c4)]
     have e4:decide ¬u.1=0=true:=by simpa using c4
     have e5:(u.1!=0)=true:=by simpa using c4
     simp only[e,e4,e5,aS,ai,aj]
     simp[c4]
     exact ⟨by omega,⟨by omega,by omega⟩,p0⟩
theorem ajw:amn.Ok Tryz.prog 20:=
 lR (tys:= [some u8]) (A:=(ae (ah (dB false false u8)) ag)) (H:=ag) (LT:=fun x_ y_=>(fun (b:List Int)=> []) x_.1) (ks:= [.fr [.sym],.syms,.auto,.ax]) (V:=QY) (D:=QZ) (V':=Q1) (D':=Q2) (T:=fun x_ y_=>yY x_.1) (pre:=fun x_ y_=>(fun (b:List Int)=>j5 b) x_.1) (c:=fun x_ y_=>(fun (b:List Int)=>decide ((aw b).1≠0)) x_.1) (sp:=fun x_ y_=>(fun (b:List Int)=>(0,(aw b).1)) x_.1) (sp':=fun x_ y_=>(fun (b:List Int)=>((aw b).2.2,0,(aw b).2.1)) x_.1) mixed ((ao XK (ao an7 (ao xH aD)))) Tryz.func20 (by kernel_rfl) Tryz.call20 (fun x_ y_=>aeI x_.1) (fun x_ y_=>XP x_.1) (fun x_ y_ h=>ajv x_.1 h)
end Go.Proofs.YtjalaohajcpllaaGreat
end
section
set_option linter.unusedVariables false
set_option linter.unusedSimpArgs false
namespace Go.Proofs.YtjalaohajcpllaaGreat
open Go Go.Ev
set_option maxRecDepth 100000
abbrev uiC:a9 (List LV) (Int×Int×Unit):=ae (ah (ay .u64)) (ae (ah (ay .i64)) ag)
abbrev u3C:a9 (List LV) (Int×Int×Int×Unit):=ae (ah (ay .u64)) (ae (ah (ay .u64)) (ae (ah (ay .u64)) ag))
abbrev XQ:a9 (List LV) (Int×Int×Int×Int×Unit):=ae (ah (ay .u64)) (ae (ah (ay .i64)) (ae (ah (ay .i64)) (ae (ah (ay .i64)) ag)))
def UD (x k:Int):Int:=bD .u64 (shl .u64 x (bg .u64 (IntKind.u64.wrap k) 63)) (shr .u64 x (IntKind.u64.wrap (64-bg .u64 (IntKind.u64.wrap k) 63)))
theorem amo (k:Int):bg .u64 (IntKind.u64.wrap k) 63=k%64:=by
 rw[tN (m:=6) (by decide) _ _ (by decide),mB]
 exact Int.emod_emod_of_dvd _ (by decide)
def ye (x n:Int):Int:=bD .u64 (shl .u64 x (64-n)) (shr .u64 x n)
theorem aeJ {x n:Int} (h0:0<n) (h1:n<64):UD x (IntKind.i64.wrap (0-n))=ye x n:=by
 unfold UD ye
 have e:bg .u64 (IntKind.u64.wrap (IntKind.i64.wrap (0-n))) 63=64-n:=by
  rw[amo,wrap_i64 (by omega) (by omega)];omega
 rw[e,wrap_u64 (by omega) (by omega),show (64:Int)-(64-n)=n from by omega]
noncomputable def amp:au:=au.bV [] (uiC) (ag) fun x_ y_=>(fun (x k:Int)=> .leaf none (nU (UD x k)) []) x_.1 x_.2.1
theorem XS (x k:Int):aY Tryz.prog [] [] Tryz.f179 ((uiC).wr (x,k,())) ((ag).wr ()) [.fr [.sym],.auto]=
 End.need ((0:Int)≤bg IntKind.u64 (IntKind.u64.wrap k) (63:Int)) (End.need ((0:Int)≤IntKind.u64.wrap ((64:Int)-bg IntKind.u64
 (IntKind.u64.wrap k) (63:Int))) (End.leaf (LV.one (VV.sc (SV.int IntKind.u64 (SI.sym (bD IntKind.u64 (shl IntKind.u64 x (bg IntKind.u64
 (IntKind.u64.wrap k) (63:Int))) (shr IntKind.u64 x (IntKind.u64.wrap ((64:Int)-bg IntKind.u64 (IntKind.u64.wrap k) (63:Int))))))))) [])):=by kernel_rfl
theorem ajx:amp.Ok Tryz.prog 179:=by
 refine (au.bE Tryz.call179 fun x_ y_ Q H_=>?_).sym
 obtain ⟨x,k,_⟩:=x_
 have hq:=H_.2
 refine (aG mixed aD Tryz.func179 rfl (LT:= []) (ks:= [.fr [.sym],.auto]) (aP.nil _)).use (D:= []) ?_ hq
 show (aY _ _ _ _ ((uiC).wr (x,k,())) ((ag).wr ()) _).sat _
 rw[XS]
 have e:=amo k
 refine ⟨by omega,by rw[e,wrap_u64 (by omega) (by omega)];omega,rfl,rfl⟩
noncomputable def aeK:au:=au.bV [] (uiC) (ag) fun x_ y_=>(fun (x k:Int)=> .leaf (some (0<k∧k<64)) (nU (ye x k)) []) x_.1 x_.2.1
theorem XT (x k:Int):aY Tryz.prog [(179,amp)] [] Tryz.f172 ((uiC).wr (x,k,())) ((ag).wr ()) [.fr [.sym],.auto]=
 End.leaf (LV.one (VV.sc (SV.int IntKind.u64 (SI.sym (UD x (IntKind.i64.wrap ((0:Int)-k.tmod (64:Int)))))))) []:=by kernel_rfl
theorem UE:aeK.Ok Tryz.prog 172:=by
 refine (au.bE Tryz.call172 fun x_ y_ Q H_=>?_).sym
 obtain ⟨x,k,_⟩:=x_
 obtain ⟨hn,hq⟩:=H_
 have hn:0<k∧k<64:=hn
 refine (aG mixed ((ao ajx aD)) Tryz.func172 rfl (LT:= []) (ks:= [.fr [.sym],.auto]) (aP.nil _)).use (D:= []) ?_ hq
 show (aY _ _ _ _ ((uiC).wr (x,k,())) ((ag).wr ()) _).sat _
 rw[XT]
 have e:k.tmod 64=k:=by rw[Int.tmod_eq_emod_of_nonneg (by omega)];omega
 rw[e,aeJ hn.1 hn.2]
 exact ⟨rfl,rfl⟩
def chF (x y z:Int):Int:=eR .u64 (bg .u64 x y) (bg .u64 (eR .u64 18446744073709551615 x) z)
def aoj (x y z:Int):Int:=eR .u64 (eR .u64 (bg .u64 x y) (bg .u64 x z)) (bg .u64 y z)
noncomputable def chE:au:=au.bV [] (u3C) (ag) fun x_ y_=>(fun (x y z:Int)=> .leaf none (nU (chF x y z)) []) x_.1 x_.2.1 x_.2.2.1
theorem ajy (x y z:Int):aY Tryz.prog [] [] Tryz.f148 ((u3C).wr (x,y,z,())) ((ag).wr ()) [.fr [.sym],.auto]=
 End.leaf (LV.one (VV.sc (SV.int IntKind.u64 (SI.sym (eR IntKind.u64 (bg IntKind.u64 x y) (bg IntKind.u64 (eR IntKind.u64
 (18446744073709551615:Int) x) z)))))) []:=by kernel_rfl
theorem arX:chE.Ok Tryz.prog 148:=by
 refine (au.bE Tryz.call148 fun x_ y_ Q H_=>?_).sym
 obtain ⟨x,y,z,_⟩:=x_
 have hq:=H_.2
 refine (aG mixed aD Tryz.func148 rfl (LT:= []) (ks:= [.fr [.sym],.auto]) (aP.nil _)).use (D:= []) ?_ hq
 show (aY _ _ _ _ ((u3C).wr (x,y,z,())) ((ag).wr ()) _).sat _
 rw[ajy]
 exact ⟨rfl,rfl⟩
noncomputable def arY:au:=au.bV [] (u3C) (ag) fun x_ y_=>(fun (x y z:Int)=> .leaf none (nU (aoj x y z)) []) x_.1 x_.2.1 x_.2.2.1
theorem aeL (x y z:Int):aY Tryz.prog [] [] Tryz.f149 ((u3C).wr (x,y,z,())) ((ag).wr ()) [.fr [.sym],.auto]=
 End.leaf (LV.one (VV.sc (SV.int IntKind.u64 (SI.sym (eR IntKind.u64 (eR IntKind.u64 (bg IntKind.u64 x y) (bg IntKind.u64 x z)) (bg
 IntKind.u64 y z)))))) []:=by kernel_rfl
theorem aok:arY.Ok Tryz.prog 149:=by
 refine (au.bE Tryz.call149 fun x_ y_ Q H_=>?_).sym
 obtain ⟨x,y,z,_⟩:=x_
 have hq:=H_.2
 refine (aG mixed aD Tryz.func149 rfl (LT:= []) (ks:= [.fr [.sym],.auto]) (aP.nil _)).use (D:= []) ?_ hq
 show (aY _ _ _ _ ((u3C).wr (x,y,z,())) ((ag).wr ()) _).sat _
 rw[aeL]
 exact ⟨rfl,rfl⟩
def CA (x a b d:Int):Int:=eR .u64 (eR .u64 (ye x a) (ye x b)) (shr .u64 x d)
def yf (x a b d:Int):Int:=eR .u64 (eR .u64 (ye x a) (ye x b)) (ye x d)
noncomputable def aeM:au:=au.bV [] (XQ) (ag) fun x_ y_=>(fun (x a b d:Int)=> .leaf (some (0<a∧a<64∧0<b∧b<64∧0≤d)) (nU (CA x a b d)) []) x_.1 x_.2.1 x_.2.2.1 x_.2.2.2.1
theorem Q4 (x a b d:Int):aY Tryz.prog [(172,aeK)] [] Tryz.f171 ((XQ).wr (x,a,b,d,())) ((ag).wr ()) [.fr [.sym],.auto]=
 End.need ((0:Int)<a∧a<(64:Int)) (End.need ((0:Int)<b∧b<(64:Int)) (End.need ((0:Int)≤d) (End.leaf (LV.one (VV.sc (SV.int
 IntKind.u64 (SI.sym (eR IntKind.u64 (eR IntKind.u64 (ye x a) (ye x b)) (shr IntKind.u64 x d)))))) []))):=by kernel_rfl
theorem aeN:aeM.Ok Tryz.prog 171:=by
 refine (au.bE Tryz.call171 fun x_ y_ Q H_=>?_).sym
 obtain ⟨x,a,b,d,_⟩:=x_
 obtain ⟨hn,hq⟩:=H_
 have hn:0<a∧a<64∧0<b∧b<64∧0≤d:=hn
 refine (aG mixed ((ao UE aD)) Tryz.func171 rfl (LT:= []) (ks:= [.fr [.sym],.auto]) (aP.nil _)).use (D:= []) ?_ hq
 show (aY _ _ _ _ ((XQ).wr (x,a,b,d,())) ((ag).wr ()) _).sat _
 rw[Q4]
 exact ⟨⟨hn.1,hn.2.1⟩,⟨hn.2.2.1,hn.2.2.2.1⟩,hn.2.2.2.2,rfl,rfl⟩
noncomputable def aeO:au:=au.bV [] (XQ) (ag) fun x_ y_=>(fun (x a b d:Int)=> .leaf (some (0<a∧a<64∧0<b∧b<64∧0<d∧d<64)) (nU (yf x a b d)) []) x_.1 x_.2.1 x_.2.2.1 x_.2.2.2.1
theorem Q5 (x a b d:Int):aY Tryz.prog [(172,aeK)] [] Tryz.f147 ((XQ).wr (x,a,b,d,())) ((ag).wr ()) [.fr [.sym],.auto]=
 End.need ((0:Int)<a∧a<(64:Int)) (End.need ((0:Int)<b∧b<(64:Int)) (End.need ((0:Int)<d∧d<(64:Int)) (End.leaf (LV.one
 (VV.sc (SV.int IntKind.u64 (SI.sym (eR IntKind.u64 (eR IntKind.u64 (ye x a) (ye x b)) (ye x d)))))) []))):=by kernel_rfl
theorem aeP:aeO.Ok Tryz.prog 147:=by
 refine (au.bE Tryz.call147 fun x_ y_ Q H_=>?_).sym
 obtain ⟨x,a,b,d,_⟩:=x_
 obtain ⟨hn,hq⟩:=H_
 have hn:0<a∧a<64∧0<b∧b<64∧0<d∧d<64:=hn
 refine (aG mixed ((ao UE aD)) Tryz.func147 rfl (LT:= []) (ks:= [.fr [.sym],.auto]) (aP.nil _)).use (D:= []) ?_ hq
 show (aY _ _ _ _ ((XQ).wr (x,a,b,d,())) ((ag).wr ()) _).sat _
 rw[Q5]
 exact ⟨⟨hn.1,hn.2.1⟩,⟨hn.2.2.1,hn.2.2.2.1⟩,hn.2.2.2.2,rfl,rfl⟩
end Go.Proofs.YtjalaohajcpllaaGreat
end
section
set_option linter.unusedVariables false
set_option linter.unusedSimpArgs false
namespace Go.Proofs.YtjalaohajcpllaaGreat
open Go Go.Ev
set_option maxRecDepth 100000
def lC:List Int:= [4794697086780616226,8158064640168781261,13096744586834688815,16840607885511220156,4131703408338449720,6480981068601479193,10538285296894168987,12329834152419229976,15566598209576043074,1334009975649890238,2608012711638119052,6128411473006802146,8268148722764581231,9286055187155687089,11230858885718282805,13951009754708518548,16472876342353939154,17275323862435702243,1135362057144423861,2597628984639134821,3308224258029322869,5365058923640841347,6679025012923562964,8573033837759648693,10970295158949994411,12119686244451234320,12683024718118986047,13788192230050041572,14330467153632333762,15395433587784984357,489312712824947311,1452737877330783856,2861767655752347644,3322285676063803686,5560940570517711597,5996557281743188959,7280758554555802590,8532644243296465576,9350256976987008742,10552545826968843579,11727347734174303076,12113106623233404929,14000437183269869457,14369950271660146224,15101387698204529176,15463397548674623760,17586052441742319658,1182934255886127544,1847814050463011016,2177327727835720531,2830643537854262169,3796741975233480872,4115178125766777443,5681478168544905931,6601373596472566643,7507060721942968483,8399075790359081724,8693463985226723168,9568029438360202098,10144078919501101548,10430055236837252648,11840083180663258601,13761210420658862357,14299343276471374635,14566680578165727644,15097957966210449927,16922976911328602910,17689382322260857208,500013540394364858,748580250866718886,1242879168328830382,1977374033974150939,2944078676154940804,3659926193048069267,4368137639120453308,4836135668995329356,5532061633213252278,6448918945643986474,6902733635092675308,7801388544844847127]
def CB:List Int:= [7640891576956012808,13503953896175478587,4354685564936845355,11912009170470909681,5840696475078001361,11170449401992604703,2270897969802886507,6620516959819538809]
noncomputable def aeQ:au:=au.bV [] ag ag fun _ _=> .leaf none (jI .u64 8 CB) []
noncomputable def UF:au:=au.bV [] ag ag fun _ _=> .leaf none (jI .u64 80 lC) []
theorem Q6:aY Tryz.prog [] [] Tryz.f72 (ag.wr ()) (ag.wr ()) [.fr [.sym],.lN 0 0 8 .u64,.auto]= .leaf (jI .u64 8 CB) []:=by kernel_rfl
theorem Ly:aY Tryz.prog [] [] Tryz.f145 (ag.wr ()) (ag.wr ()) [.fr [.sym],.auto]= .leaf (jI .u64 80 lC) []:=by kernel_rfl
theorem aeR:aeQ.Ok Tryz.prog 72:=by
 refine (au.bE Tryz.call72 fun x_ y_ Q h=>?_).sym
 refine (aG mixed aD Tryz.func72 rfl (LT:= []) (ks:= [.fr [.sym],.lN 0 0 8 .u64,.auto]) (aP.nil _)).use (D:= []) ?_ h.2
 show (aY _ _ _ _ (ag.wr ()) (ag.wr ()) _).sat _
 rw[Q6]
 exact ⟨rfl,rfl⟩
theorem XU:UF.Ok Tryz.prog 145:=by
 refine (au.bE Tryz.call145 fun x_ y_ Q h=>?_).sym
 refine (aG mixed aD Tryz.func145 rfl (LT:= []) (ks:= [.fr [.sym],.auto]) (aP.nil _)).use (D:= []) ?_ h.2
 show (aY _ _ _ _ (ag.wr ()) (ag.wr ()) _).sat _
 rw[Ly]
 exact ⟨rfl,rfl⟩
def UG (b:List Int) (k:Nat) (m:List Int):List Int:=m.set (k/8) (bD .u64 (shl .u64 (m.getD (k/8) 0) 8) (IntKind.u64.wrap (b.getD k 0)))
def pV (b:List Int):List Int:=upto (UG b) 0 128 (List.replicate 16 0)
theorem Ib (b:List Int) (k:Nat) (m:List Int):(UG b k m).length=m.length:=by simp[UG]
noncomputable abbrev arZ:Func:=Tryz.f110
abbrev woC:a9 (List LV) (List Int×Int×Int×Unit):=(jk 2 (ak (ah (aJ 0 0)) (jk 1 (ak (ah (aJ 1 0)) (jk 6 (ae (ah (dB false false u8)) (ae (ah (ay .i64)) (ae (ah (ay .i64)) (jk 17 ag)))))))))
abbrev ar1:Wk:= .fr (cK 31 [(2,.an),(4,.an),(11,.an),(12,.sym),(13,.sym)])
abbrev woX:a9 (List LV) (Unit):=(jk 2 (ak (ah (aJ 0 0)) (jk 1 (ak (ah (aJ 1 0)) (jk 26 ag)))))
abbrev avV:Wk:= .fr (cK 31 [(2,.an),(4,.an)])
abbrev woH:a9 Hp (List Int×List Int×Unit):=ae (rM 172 .u64 16) (ae (rM 172 .u64 16) ag)
def woW:Exit→List Wk
 | .normal=> [ar1,.gC 0 0 16 .u64,.gC 1 0 16 .u64,.auto]
 | .exit 0=> [avV,.auto]
 |_=> []
theorem aol (b:List Int) (n i:Int) (r m:List Int):c8 Tryz.prog [] [] arZ 0 [] woW ((bH woC woH).wr ((b,n,i,()),(r,m,())))=
 a6.ite (decide (i<n)) (a6.need ((0:Int)≤i∧i<(↑b.length:Int)) (a6.need ((0:Int)≤IntKind.i64.wrap (i.tdiv (8:Int))∧
 IntKind.i64.wrap (i.tdiv (8:Int))<(16:Int)) (a6.need ((0:Int)≤IntKind.i64.wrap (i.tdiv (8:Int))∧IntKind.i64.wrap (i.tdiv (8:Int))<
 (16:Int)) (a6.leaf Exit.normal ((bH woC woH).wr ((b,n,IntKind.i64.wrap (i+(1:Int)),PUnit.unit),r,m.set ((0:Nat)+(IntKind.i64.wrap
 (i.tdiv (8:Int))).toNat) (bD IntKind.u64 (shl IntKind.u64 ((List.take (16:Nat) (List.drop (0:Nat) m)).getD (IntKind.i64.wrap (i.tdiv (8:
 Int))).toNat (0:Int)) (8:Int)) (IntKind.u64.wrap (b.getD i.toNat (0:Int)))),PUnit.unit)))))) (a6.leaf (Exit.exit (0:Nat)) ((bH woX woH).wr
 (PUnit.unit,r,m,PUnit.unit))):=by kernel_rfl
noncomputable def woF (x:(List Int×Int×Int×Unit)×List Int×List Int×Unit):a6:=
 .need (x.1.1.length=128∧x.1.2.1=128∧x.1.2.2.1=0∧x.2.2.1=List.replicate 16 0) (.leaf (.exit 0) ((bH woX woH).wr ((),(x.2.1,pV x.1.1,()))))
theorem ajz (x):Ex Tryz.prog [] (.loop (aU arZ 0)) ((bH woC woH).wr x) (woF x):=by
 obtain ⟨⟨b,n,i,_⟩,r,m,_⟩:=x
 refine Ex.need fun ⟨h1,h2,h3,h4⟩=>?_
 simp only at h1 h2 h3 h4
 subst h2 h3 h4
 refine hZ (ws:=woW) (hp:= []) mixed aD (aP.nil _) 128 (fun k m=>(bH woC woH).wr ((b,128,(k:Int),()),(r,m,()))) (fun m=>(bH woX woH).wr ((),(r,m,()))) (UG b) (fun _ m=>m.length=16)
  (fun k m R hk hm hn hx=>?_) (fun k m _ hm=>by rw[Ib];exact hm) 0 (List.replicate 16 0) (by omega) (by simp)
 rw[aol]
 refine ⟨fun hb=>?_,fun hb=>?_⟩
 ·have fq:k<128:=by have:=of_decide_eq_true hb;omega
  have e:IntKind.i64.wrap ((k:Int).tdiv 8)=((k/8:Nat):Int):=ko k 8 (by omega)
  rw[e,cn hm,eB k (by omega)]
  simp only[Int.toNat_natCast,Nat.zero_add]
  exact ⟨by omega,by omega,by omega,hn fq⟩
 ·have:k=128:=by have:=of_decide_eq_false hb;omega
  exact hx this
noncomputable abbrev ar2:eW:= [(0,fw (bH woC woH) 0 [ar1,.gC 0 0 16 .u64,.gC 1 0 16 .u64,.auto] woF)]
noncomputable def aeS:au:=au.bV [some u8] (bA) (ag) fun x_ y_=>(fun (b:List Int)=> .leaf (some (b.length=128)) (.cV [.agg [.arr (.int .u64) 16 (pV b)],.sc (.bool (.sym true))]) []) x_.1
theorem Q7 (b:List Int):aY Tryz.prog [] ar2 Tryz.f110 ((bA).wr (b,())) ((ag).wr ()) [.fr [.sym],.lN 0 0 16 .u64,.auto]=
 End.ite ((↑b.length:Int)!=(128:Int)) (End.leaf (LV.cV [VV.agg [SV.arr (Ty.int IntKind.u64) (16:Nat) [(0:Int),(0:Int),(0:Int),(0:
 Int),(0:Int),(0:Int),(0:Int),(0:Int),(0:Int),(0:Int),(0:Int),(0:Int),(0:Int),(0:Int),(0:Int),(0:Int)]],VV.sc
 (SV.bool (SB.sym false))]) []) (End.need (b.length=(128:Nat)∧(↑b.length:Int)=(128:Int)∧(0:Int)=(0:Int)∧ [(0:Int),(0:Int),(0
 :Int),(0:Int),(0:Int),(0:Int),(0:Int),(0:Int),(0:Int),(0:Int),(0:Int),(0:Int),(0:Int),(0:Int),(0:Int),(0:Int)]
 =List.replicate (16:Nat) (0:Int)) (End.leaf (LV.cV [VV.agg [SV.arr (Ty.int IntKind.u64) (16:Nat) (pV b)],VV.sc (SV.bool (SB.sym true))])
 [])):=by kernel_rfl
theorem aeT:aeS.Ok Tryz.prog 110:=by
 refine (au.bE Tryz.call110 fun x_ y_ Q H_=>?_).sym
 obtain ⟨b,_⟩:=x_
 obtain ⟨hn,hq⟩:=H_
 have hn:b.length=128:=hn
 refine (aG mixed aD Tryz.func110 rfl (LT:=ar2) (ks:= [.fr [.sym],.lN 0 0 16 .u64,.auto]) (aP.cy (jr rfl (c5 (hp:= []) ajz) jH))).use (D:= []) ?_ hq
 show (aY _ _ _ _ ((bA).wr (b,())) ((ag).wr ()) _).sat _
 rw[Q7]
 refine ⟨fun h=>?_,fun h=>⟨⟨hn,by omega,rfl,rfl⟩,rfl,rfl⟩⟩
 simp[hn] at h
def Q8 (t:Nat) (w:List Int):List Int:=w.set t (IntKind.u64.wrap (IntKind.u64.wrap (IntKind.u64.wrap (CA (w.getD (t-2) 0) 19 61 6+w.getD (t-7) 0)+CA (w.getD (t-15) 0) 1 8 7)+w.getD (t-16) 0))
def jd (m:List Int):List Int:=upto Q8 16 64 (m++List.replicate 64 0)
noncomputable abbrev ar3:Func:=Tryz.f146
abbrev scA:a9 (List LV) (List Int×Unit):=ae (ND .u64 16) ag
abbrev scC:a9 (List LV) (Int×Unit):=(jk 2 (ak (ah (aJ 0 0)) (ak (ah (aJ 1 0)) (ae (ah (ay .i64)) (jk 31 ag)))))
abbrev ar5:Wk:= .fr (cK 36 [(2,.an),(3,.an),(4,.sym)])
abbrev scX:a9 (List LV) (Unit):=(jk 2 (ak (ah (aJ 0 0)) (ak (ah (aJ 1 0)) (jk 32 ag))))
abbrev avY:Wk:= .fr (cK 36 [(2,.an),(3,.an)])
abbrev scH:a9 Hp (List Int×List Int×Unit):=ae (rM 205 .u64 80) (ae (rM 205 .u64 80) ag)
noncomputable abbrev aeU:List (FuncId×au):= [(171,aeM)]
theorem Lz: ∀ p∈aeU,p.2.Ok Tryz.prog p.1:=ao aeN aD
def scW:Exit→List Wk
 | .normal=> [ar5,.auto]
 | .exit 0=> [avY,.auto]
 |_=> []
theorem aom (t:Int) (r w:List Int):c8 Tryz.prog aeU [] ar3 0 [] scW ((bH scC scH).wr ((t,()),(r,w,())))=
 a6.ite (decide (t<(80:Int))) (a6.need ((0:Int)≤IntKind.i64.wrap (t-(2:Int))∧IntKind.i64.wrap (t-(2:Int))<(80:Int)) (a6.need
 ((0:Int)<(19:Int)∧(19:Int)<(64:Int)∧(0:Int)<(61:Int)∧(61:Int)<(64:Int)∧(0:Int)≤(6:Int)) (a6.need ((0:Int)≤
 IntKind.i64.wrap (t-(7:Int))∧IntKind.i64.wrap (t-(7:Int))<(80:Int)) (a6.need ((0:Int)≤IntKind.i64.wrap (t-(15:Int))∧
 IntKind.i64.wrap (t-(15:Int))<(80:Int)) (a6.need ((0:Int)<(1:Int)∧(1:Int)<(64:Int)∧(0:Int)<(8:Int)∧(8:Int)<(64:
 Int)∧(0:Int)≤(7:Int)) (a6.need ((0:Int)≤IntKind.i64.wrap (t-(16:Int))∧IntKind.i64.wrap (t-(16:Int))<(80:Int)) (a6.need ((0
 :Int)≤t∧t<(80:Int)) (a6.leaf Exit.normal ((bH scC scH).wr ((IntKind.i64.wrap (t+(1:Int)),PUnit.unit),r,w.set ((0:Nat)+t.toNat)
 (IntKind.u64.wrap (IntKind.u64.wrap (IntKind.u64.wrap (CA ((List.take (80:Nat) (List.drop (0:Nat) w)).getD (IntKind.i64.wrap (t-(2:
 Int))).toNat (0:Int)) (19:Int) (61:Int) (6:Int)+(List.take (80:Nat) (List.drop (0:Nat) w)).getD (IntKind.i64.wrap (t-(7:Int))).toNat
 (0:Int))+CA ((List.take (80:Nat) (List.drop (0:Nat) w)).getD (IntKind.i64.wrap (t-(15:Int))).toNat (0:Int)) (1:Int) (8:Int) (7:
 Int))+(List.take (80:Nat) (List.drop (0:Nat) w)).getD (IntKind.i64.wrap (t-(16:Int))).toNat (0:Int))),PUnit.unit)))))))))) (a6.leaf
 (Exit.exit (0:Nat)) ((bH scX scH).wr (PUnit.unit,r,w,PUnit.unit))):=by kernel_rfl
noncomputable def scF (x:(Int×Unit)×List Int×List Int×Unit):a6:=
 .need (x.1.1=16∧x.2.2.1.length=80) (.leaf (.exit 0) ((bH scX scH).wr ((),(x.2.1,upto Q8 16 64 x.2.2.1,()))))
theorem yZ (t:Nat) (w:List Int):(Q8 t w).length=w.length:=by simp[Q8]
theorem ajA (x):Ex Tryz.prog [] (.loop (aU ar3 0)) ((bH scC scH).wr x) (scF x):=by
 obtain ⟨⟨i,_⟩,r,w,_⟩:=x
 refine Ex.need fun ⟨h1,h2⟩=>?_
 simp only at h1 h2
 subst h1
 refine hZ (ws:=scW) (hp:= []) mixed Lz (aP.nil _) 80 (fun k w=>(bH scC scH).wr (((k:Int),()),(r,w,()))) (fun w=>(bH scX scH).wr ((),(r,w,()))) Q8 (fun k w=>16≤k∧w.length=80)
  (fun k w R hk hm hn hx=>?_) (fun k m _ hm=>⟨by omega,by rw[yZ];exact hm.2⟩) 16 w (by omega) ⟨by omega,h2⟩
 obtain ⟨h16,hm⟩:=hm
 rw[aom]
 refine ⟨fun hb=>?_,fun hb=>?_⟩
 ·have fq:k<80:=by have:=of_decide_eq_true hb;omega
  have e2:IntKind.i64.wrap ((k:Int)-2)=((k-2:Nat):Int):=tO k 2 (by omega) (by omega)
  have e7:IntKind.i64.wrap ((k:Int)-7)=((k-7:Nat):Int):=tO k 7 (by omega) (by omega)
  have e15:IntKind.i64.wrap ((k:Int)-15)=((k-15:Nat):Int):=tO k 15 (by omega) (by omega)
  have e16:IntKind.i64.wrap ((k:Int)-16)=((k-16:Nat):Int):=tO k 16 (by omega) (by omega)
  rw[e2,e7,e15,e16,cn hm,eB k (by omega)]
  simp only[Int.toNat_natCast,Nat.zero_add]
  exact ⟨by omega,by decide,by omega,by omega,by decide,by omega,by omega,hn fq⟩
 ·have:k=80:=by have:=of_decide_eq_false hb;omega
  exact hx this
noncomputable abbrev ar6:eW:= [(0,fw (bH scC scH) 0 [ar5,.auto] scF)]
noncomputable def aeV:au:=au.bV [] (scA) (ag) fun x_ y_=>(fun (m:List Int)=> .leaf (some (m.length=16)) (jI .u64 80 (jd m)) []) x_.1
theorem Q9 (m:List Int):aY Tryz.prog aeU ar6 Tryz.f146 ((scA).wr (m,())) ((ag).wr ()) [.fr [.sym],.auto]=
 End.need ((0:Int)≤(0:Int)∧(0:Int)≤(80:Int)∧(80:Int)≤(80:Int)) (End.need ((0:Int)≤(0:Int)∧(0:Int)≤(16:Int)∧(16:
 Int)≤(16:Int)) (End.need ((16:Int)=(16:Int)∧(List.take (0:Nat) (List.replicate (80:Nat) (0:Int))++(List.take (80:Nat) (List.take
 (16:Nat) (List.drop (0:Nat) m))++List.drop ((0:Nat)+if (80:Nat)≤(List.take (16:Nat) (List.drop (0:Nat) m)).length then (80:Nat)
 else (List.take (16:Nat) (List.drop (0:Nat) m)).length) (List.replicate (80:Nat) (0:Int)))).length=(80:Nat)) (End.leaf (LV.one (VV.agg
 [SV.arr (Ty.int IntKind.u64) (80:Nat) (upto Q8 (16:Nat) (64:Nat) (List.take (0:Nat) (List.replicate (80:Nat) (0:Int))++(List.take (80:
 Nat) (List.take (16:Nat) (List.drop (0:Nat) m))++List.drop ((0:Nat)+if (80:Nat)≤(List.take (16:Nat) (List.drop (0:Nat) m)).length
 then (80:Nat) else (List.take (16:Nat) (List.drop (0:Nat) m)).length) (List.replicate (80:Nat) (0:Int)))))])) []))):=by kernel_rfl
theorem aeW:aeV.Ok Tryz.prog 146:=by
 refine (au.bE Tryz.call146 fun x_ y_ Q H_=>?_).sym
 obtain ⟨m,_⟩:=x_
 obtain ⟨hn,hq⟩:=H_
 have hn:m.length=16:=hn
 refine (aG mixed Lz Tryz.func146 rfl (LT:=ar6) (ks:= [.fr [.sym],.auto]) (aP.cy (jr rfl (c5 (hp:= []) ajA) jH))).use (D:= []) ?_ hq
 show (aY _ _ _ _ ((scA).wr (m,())) ((ag).wr ()) _).sat _
 rw[Q9]
 have e:List.take 0 (List.replicate 80 (0:Int))++(List.take 80 (List.take 16 (List.drop 0 m))++List.drop (0+if 80≤(List.take 16 (List.drop 0 m)).length then 80 else (List.take 16 (List.drop 0 m)).length) (List.replicate 80 0))=m++List.replicate 64 0:=by
  rw[cn hn,hn]
  simp[List.take_of_length_le (show m.length≤80 by omega)]
 rw[e]
 refine ⟨by omega,by omega,⟨rfl,by simp[hn]⟩,rfl,rfl⟩
def ar7 (w:List Int) (t:Nat) (x:List Int):Int:=
 IntKind.u64.wrap (IntKind.u64.wrap (IntKind.u64.wrap (IntKind.u64.wrap (x.getD 7 0+yf (x.getD 4 0) 14 18 41)+chF (x.getD 4 0) (x.getD 5 0) (x.getD 6 0))+lC.getD t 0)+w.getD t 0)
def avZ (x:List Int):Int:=IntKind.u64.wrap (yf (x.getD 0 0) 28 34 39+aoj (x.getD 0 0) (x.getD 1 0) (x.getD 2 0))
def ar8 (w:List Int) (t:Nat) (x:List Int):List Int:=
 [IntKind.u64.wrap (ar7 w t x+avZ x),x.getD 0 0,x.getD 1 0,x.getD 2 0,IntKind.u64.wrap (x.getD 3 0+ar7 w t x),x.getD 4 0,x.getD 5 0,x.getD 6 0]
def av0 (x s:List Int):List Int:=(List.range 8).map fun i=>IntKind.u64.wrap (x.getD i 0+s.getD i 0)
def DR (w x:List Int):List Int:=upto (ar8 w) 0 80 x
def CC (s m:List Int):List Int:=av0 (DR (jd m) s) s
theorem Ic {m:List Int} (h:m.length=16):(jd m).length=80:=by
 unfold jd
 exact mA (f:=Q8) (n:=80) (fun (_:Nat) (w:List Int)=>w.length=80) (fun t w _ h=>by rw[yZ];exact h) 64 16 (m++List.replicate 64 0) (by omega) (by simp[h])
noncomputable abbrev ar9:Func:=Tryz.f111
abbrev spC:a9 (List LV) (Int×Unit):=(jk 2 (ak (ah (aJ 0 0)) (jk 1 (ak (ah (aJ 1 0)) (ak (ah (aJ 2 0)) (ak (ah (aJ 3 0)) (ak (ah (aJ 4 0)) (jk 8 (ae (ah (ay .i64)) (jk 69 ag))))))))))
abbrev asb:Wk:= .fr (cK 86 [(2,.an),(4,.an),(5,.an),(6,.an),(7,.an),(16,.sym)])
abbrev spX:a9 (List LV) (Unit):=(jk 2 (ak (ah (aJ 0 0)) (jk 1 (ak (ah (aJ 1 0)) (jk 2 (ak (ah (aJ 2 0)) (jk 78 ag)))))))
abbrev av2:Wk:= .fr (cK 86 [(2,.an),(4,.an),(7,.an)])
abbrev aon:a9 Hp (List Int×List Int×List Int×Unit):=ae (rM 122 .u64 8) (ae (aao 122 .u64 8) (ae (aao 122 .u64 8) ag))
abbrev spH:a9 Hp (List Int×List Int×List Int×List Int×List Int×Unit):=ae (rM 122 .u64 8) (ae (rM 122 .u64 8) (ae (rM 205 .u64 80) (ae (rM 205 .u64 80) (ae (rM 122 .u64 8) ag))))
noncomputable abbrev aeX:List (FuncId×au):= [(145,UF),(146,aeV),(147,aeO),(148,chE),(149,arY)]
theorem LA: ∀ p∈aeX,p.2.Ok Tryz.prog p.1:=ao XU (ao aeW (ao aeP (ao arX (ao aok aD))))
def spW:Exit→List Wk
 | .normal=> [asb,.gC 4 0 8 .u64,.auto]
 | .exit 0=> [av2,.auto,.Tb 1,.Tb 2]
 |_=> []
theorem aoo (t:Int) (s r k w x:List Int):c8 Tryz.prog aeX [] ar9 0 [] spW ((bH spC spH).wr ((t,()),(s,r,k,w,x,())))=
 a6.ite (decide (t<(80:Int))) (a6.need ((0:Int)<(14:Int)∧(14:Int)<(64:Int)∧(0:Int)<(18:Int)∧(18:Int)<(64:Int)∧(0:
 Int)<(41:Int)∧(41:Int)<(64:Int)) (a6.need ((0:Int)≤t∧t<(80:Int)) (a6.need ((0:Int)≤t∧t<(80:Int)) (a6.need ((0:Int)
 <(28:Int)∧(28:Int)<(64:Int)∧(0:Int)<(34:Int)∧(34:Int)<(64:Int)∧(0:Int)<(39:Int)∧(39:Int)<(64:Int)) (a6.leaf
 Exit.normal ((bH spC spH).wr ((IntKind.i64.wrap (t+(1:Int)),PUnit.unit),s,r,k,w,[IntKind.u64.wrap (IntKind.u64.wrap (IntKind.u64.wrap
 (IntKind.u64.wrap (IntKind.u64.wrap (x.getD (7:Nat) (0:Int)+yf (x.getD (4:Nat) (0:Int)) (14:Int) (18:Int) (41:Int))+chF (x.getD
 (4:Nat) (0:Int)) (x.getD (5:Nat) (0:Int)) (x.getD (6:Nat) (0:Int)))+(List.take (80:Nat) (List.drop (0:Nat) k)).getD t.toNat (0:
 Int))+(List.take (80:Nat) (List.drop (0:Nat) w)).getD t.toNat (0:Int))+IntKind.u64.wrap (yf (x.getD (0:Nat) (0:Int)) (28:Int) (34:
 Int) (39:Int)+aoj (x.getD (0:Nat) (0:Int)) (x.getD (1:Nat) (0:Int)) (x.getD (2:Nat) (0:Int)))),x.getD (0:Nat) (0:Int),x.getD (1
 :Nat) (0:Int),x.getD (2:Nat) (0:Int),IntKind.u64.wrap (x.getD (3:Nat) (0:Int)+IntKind.u64.wrap (IntKind.u64.wrap (IntKind.u64.wrap
 (IntKind.u64.wrap (x.getD (7:Nat) (0:Int)+yf (x.getD (4:Nat) (0:Int)) (14:Int) (18:Int) (41:Int))+chF (x.getD (4:Nat) (0:
 Int)) (x.getD (5:Nat) (0:Int)) (x.getD (6:Nat) (0:Int)))+(List.take (80:Nat) (List.drop (0:Nat) k)).getD t.toNat (0:Int))+(List.take
 (80:Nat) (List.drop (0:Nat) w)).getD t.toNat (0:Int))),x.getD (4:Nat) (0:Int),x.getD (5:Nat) (0:Int),x.getD (6:Nat) (0:Int)],
 PUnit.unit))))))) (a6.leaf (Exit.exit (0:Nat)) ((bH spX aon).wr (PUnit.unit,s,[r.getD (nat_lit 0) (0:Int),r.getD (nat_lit 1) (0:Int),
 r.getD (nat_lit 2) (0:Int),r.getD (nat_lit 3) (0:Int),r.getD (nat_lit 4) (0:Int),r.getD (nat_lit 5) (0:Int),r.getD (nat_lit 6) (0:Int),
 r.getD (nat_lit 7) (0:Int)],[x.getD (nat_lit 0) (0:Int),x.getD (nat_lit 1) (0:Int),x.getD (nat_lit 2) (0:Int),x.getD (nat_lit 3) (0:Int),
 x.getD (nat_lit 4) (0:Int),x.getD (nat_lit 5) (0:Int),x.getD (nat_lit 6) (0:Int),x.getD (nat_lit 7) (0:Int)],PUnit.unit))):=by kernel_rfl
noncomputable def spF (x:(Int×Unit)×List Int×List Int×List Int×List Int×List Int×Unit):a6:=
 .need (x.1.1=0∧x.2.2.2.1=lC∧x.2.2.2.2.1.length=80∧x.2.2.2.2.2.1.length=8) (.leaf (.exit 0) ((bH spX aon).wr ((),(x.2.1,x.2.2.1,DR x.2.2.2.2.1 x.2.2.2.2.2.1,()))))
theorem ajB (x):Ex Tryz.prog [] (.loop (aU ar9 0)) ((bH spC spH).wr x) (spF x):=by
 obtain ⟨⟨i,_⟩,s,r,k,w,x,_⟩:=x
 refine Ex.need fun ⟨h1,h2,h3,h4⟩=>?_
 simp only at h1 h2 h3 h4
 subst h1 h2
 refine hZ (ws:=spW) (hp:= []) mixed LA (aP.nil _) 80 (fun j x=>(bH spC spH).wr (((j:Int),()),(s,r,lC,w,x,()))) (fun x=>(bH spX aon).wr ((),(s,r,x,()))) (ar8 w) (fun _ x=>x.length=8)
  (fun j x R hk hm hn hx=>?_) (fun k m _ hm=>rfl) 0 x (by omega) h4
 rw[aoo]
 refine ⟨fun hb=>?_,fun hb=>?_⟩
 ·have fq:j<80:=by have:=of_decide_eq_true hb;omega
  rw[cn h3,cn (l:=lC) (n:=80) rfl,eB j (by omega)]
  simp only[Int.toNat_natCast]
  exact ⟨by decide,by omega,by omega,by decide,hn fq⟩
 ·have:j=80:=by have:=of_decide_eq_false hb;omega
  exact hx this
noncomputable abbrev asd:eW:= [(0,fw (bH spC spH) 0 [asb,.auto,.gC 1 0 8 .u64,.gC 4 0 8 .u64] spF)]
abbrev stA:a9 (List LV) (List Int×List Int×Unit):=ae (ND .u64 8) (ae (ND .u64 16) ag)
noncomputable def ams:au:=au.bV [] (stA) (ag) fun x_ y_=>(fun (s m:List Int)=> .leaf (some (s.length=8∧m.length=16)) (jI .u64 8 (CC s m)) []) x_.1 x_.2.1
theorem XV (s m:List Int):aY Tryz.prog aeX asd Tryz.f111 ((stA).wr (s,m,())) ((ag).wr ()) [.fr [.sym],.lN 0 0 8 .u64,.auto]=
 End.need (m.length=(16:Nat)) (End.need ((0:Int)=(0:Int)∧lC=lC∧(jd m).length=(80:Nat)∧s.length=(8:Nat))
 (End.leaf (LV.one (VV.agg [SV.arr (Ty.int IntKind.u64) (8:Nat) [IntKind.u64.wrap ((DR (jd m) s).getD (nat_lit 0) (0:Int)+s.getD (0:Nat)
 (0:Int)),IntKind.u64.wrap ((DR (jd m) s).getD (nat_lit 1) (0:Int)+s.getD (1:Nat) (0:Int)),IntKind.u64.wrap ((DR (jd m) s).getD
 (nat_lit 2) (0:Int)+s.getD (2:Nat) (0:Int)),IntKind.u64.wrap ((DR (jd m) s).getD (nat_lit 3) (0:Int)+s.getD (3:Nat) (0:Int)),
 IntKind.u64.wrap ((DR (jd m) s).getD (nat_lit 4) (0:Int)+s.getD (4:Nat) (0:Int)),IntKind.u64.wrap ((DR (jd m) s).getD (nat_lit 5)
 (0:Int)+s.getD (5:Nat) (0:Int)),IntKind.u64.wrap ((DR (jd m) s).getD (nat_lit 6) (0:Int)+s.getD (6:Nat) (0:Int)),
 IntKind.u64.wrap ((DR (jd m) s).getD (nat_lit 7) (0:Int)+s.getD (7:Nat) (0:Int))]])) [])):=by kernel_rfl
theorem ajC:ams.Ok Tryz.prog 111:=by
 refine (au.bE Tryz.call111 fun x_ y_ Q H_=>?_).sym
 obtain ⟨s,m,_⟩:=x_
 obtain ⟨hn,hq⟩:=H_
 have hn:s.length=8∧m.length=16:=hn
 refine (aG mixed LA Tryz.func111 rfl (LT:=asd) (ks:= [.fr [.sym],.lN 0 0 8 .u64,.auto]) (aP.cy (jr rfl (c5 (hp:= []) ajB) jH))).use (D:= []) ?_ hq
 show (aY _ _ _ _ ((stA).wr (s,m,())) ((ag).wr ()) _).sat _
 rw[XV]
 exact ⟨hn.2,⟨rfl,rfl,Ic hn.2,hn.1⟩,rfl,rfl⟩
theorem LB (s m:List Int):(CC s m).length=8:=rfl
end Go.Proofs.YtjalaohajcpllaaGreat
end
section
set_option linter.unusedVariables false
set_option linter.unusedSimpArgs false
namespace Go.Proofs.YtjalaohajcpllaaGreat
open Go Go.Ev
set_option maxRecDepth 100000
end Go.Proofs.YtjalaohajcpllaaGreat
end
section
set_option linter.unusedVariables false
set_option linter.unusedSimpArgs false
namespace Go.Proofs.YtjalaohajcpllaaGreat
open Go Go.Ev
set_option maxRecDepth 100000
structure HH where
 begun:Bool
 s:List Int
 n:Int
 wait:List Int
abbrev cHH:a9 (List SV) HH:=(ae Td (ae (tM (.int .u64) 8) (ae (ay .i64) (ae (tM u8 128) ag)))).jQ (fun x=>⟨x.1,x.2.1,x.2.2.1,x.2.2.2.1⟩) (fun h=>(h.begun,h.s,h.n,h.wait,())) (fun _=>rfl)
abbrev hI (h:HH):Ev.Item:= .a8 (cHH.wr h) 126
abbrev rS:a9 Hp (HH×Unit):=ae (dN 126 cHH) ag
abbrev hV (h:HH):LV:= .one (.agg (cHH.wr h))
abbrev CD:Wk:= .a8 0 [.sym,.an,.sym,.an]
def LC:HH:=⟨true,CB,0,List.replicate 128 0⟩
noncomputable def amt:au:=au.bV [] (ag) (ag) fun x_ y_=> .leaf none (.one (.sc (.ptr 0 0))) [(0,hI LC)]
theorem XW:aY Tryz.prog [(72,aeQ)] [] Tryz.f42 ((ag).wr ()) ((ag).wr ()) [.gC 0 1 8 .u64,CD,.auto]=
 End.leaf (LV.one (VV.sc (SV.ptr (0:Nat) (0:Nat)))) [some (Item.a8 [SV.bool (SB.sym true),SV.arr (Ty.int IntKind.u64) (8:Nat) CB,SV.int
 IntKind.i64 (SI.sym (0:Int)),SV.arr (Ty.int IntKind.u8) (128:Nat) (List.replicate (128:Nat) (0:Int))] (126:Nat))]:=by kernel_rfl
theorem ajD:amt.Ok Tryz.prog 42:=by
 refine (au.bE Tryz.call42 fun x_ y_ Q H_=>?_).sym
 have hq:=H_.2
 refine (aG mixed ((ao aeR aD)) Tryz.func42 rfl (LT:= []) (ks:= [.gC 0 1 8 .u64,CD,.auto]) (aP.nil _)).use (D:= [(0,hI LC)]) ?_ hq
 show (aY _ _ _ _ ((ag).wr ()) ((ag).wr ()) _).sat _
 rw[XW]
 exact ⟨rfl,rfl⟩
noncomputable def aop:au:=au.bV [] ((ak p0 ag)) (rS) fun x_ y_=>(fun (h:HH)=> .leaf (some (h.begun=true)) (hV h) []) y_.1
theorem aeY (h:HH):aY Tryz.prog [] [] Tryz.f73 (((ak p0 ag)).wr ()) ((rS).wr (h,())) [.auto]=
 End.ite (!h.begun) End.fail (End.leaf (LV.one (VV.agg [SV.bool (SB.sym h.begun),SV.arr (Ty.int IntKind.u64) (8:Nat) h.s,SV.int IntKind.i64 (SI.sym
 h.n),SV.arr (Ty.int IntKind.u8) (128:Nat) h.wait])) [some (Item.a8 [SV.bool (SB.sym h.begun),SV.arr (Ty.int IntKind.u64) (8:Nat) h.s,SV.int
 IntKind.i64 (SI.sym h.n),SV.arr (Ty.int IntKind.u8) (128:Nat) h.wait] (126:Nat))]):=by kernel_rfl
theorem aeZ:aop.Ok Tryz.prog 73:=by
 refine (au.bE Tryz.call73 fun x_ y_ Q H_=>?_).sym
 obtain ⟨h,_⟩:=y_
 obtain ⟨hn,hq⟩:=H_
 have hn:h.begun=true:=hn
 refine (aG mixed aD Tryz.func73 rfl (LT:= []) (ks:= [.auto]) (aP.nil _)).use (D:= []) ?_ hq
 show (aY _ _ _ _ (((ak p0 ag)).wr ()) ((rS).wr (h,())) _).sat _
 rw[aeY]
 exact ⟨fun e=>(by rw[hn] at e;cases e),fun _=>⟨rfl,rfl⟩⟩
def lD (h:HH) (c:Int):HH:=if (h.n+1)%128=0 then ⟨h.begun,CC h.s (pV (h.wait.set (h.n%128).toNat c)),h.n+1,h.wait.set (h.n%128).toNat c⟩ else ⟨h.begun,h.s,h.n+1,h.wait.set (h.n%128).toNat c⟩
def cR (h:HH) (b:List Int):HH:=b.foldl lD h
structure sS (h:HH):Prop where
 begun:h.begun=true
 n:0≤h.n
 s:h.s.length=8
 wait:h.wait.length=128
theorem Ie (h:HH) (c:Int):(lD h c).n=h.n+1:=by unfold lD;split<;>rfl
theorem CE {h:HH} (hh:sS h) (c:Int):sS (lD h c):=by
 obtain ⟨h1,h2,h3,h4⟩:=hh
 unfold lD
 split
 ·exact ⟨h1,by simp only;omega,LB _ _,by simp[h4]⟩
 ·exact ⟨h1,by simp only;omega,h3,by simp[h4]⟩
theorem pW: ∀ (b:List Int) (h:HH),(cR h b).n=h.n+b.length
 | [],h=>by simp[cR]
 |c::b,h=>by
  show (cR (lD h c) b).n=_
  rw[pW b,Ie,List.length_cons];omega
theorem nY: ∀ (b:List Int) {h:HH},sS h→sS (cR h b)
 | [],_,hh=>hh
 |c::b,_,hh=>nY b (CE hh c)
theorem LD (h:HH) (a b:List Int):cR h (a++b)=cR (cR h a) b:=by simp[cR]
theorem CF {σ:Type} (g:σ→Int→σ) (b:List Int): ∀ (m k:Nat) (s:σ),k+m=b.length→upto (fun k s=>g s (b.getD k 0)) k m s=(b.drop k).foldl g s
 |0,k,s,h=>by rw[List.drop_eq_nil_of_le (by omega)];rfl
 |m+1,k,s,h=>by
  rw[qF (show k<b.length by omega)]
  exact CF g b m (k+1) _ (by omega)
noncomputable abbrev aoq:Func:=Tryz.f74
abbrev puC:a9 (List LV) (List Int×Int×Int×Unit):=(ak (ah (aJ 0 0)) (jk 7 (ae (ah (dB false false u8)) (ae (ah (ay .i64)) (ae (ah (ay .i64)) (jk 44 ag))))))
abbrev ase:Wk:= .fr (cK 55 [(0,.an),(8,.an),(9,.sym),(10,.sym)])
abbrev puX:a9 (List LV) (Unit):=(jk 55 ag)
abbrev av5:Wk:= .fr (cK 55 [])
noncomputable abbrev ae0:List (FuncId×au):= [(110,aeS),(111,ams)]
def puW:Exit→List Wk
 | .normal=> [ase,CD,.auto]
 | .exit 0=> [av5,CD,.auto]
 |_=> []
theorem aor (h0 h:HH) (b:List Int) (n i:Int):c8 Tryz.prog ae0 [] aoq 0 (rS.wr (h0,())) puW ((bH puC rS).wr ((b,n,i,()),(h,())))=
 a6.ite (decide (i<n)) (a6.need ((0:Int)≤i∧i<(↑b.length:Int)) (a6.need ((0:Int)≤h.n.tmod (128:Int)∧h.n.tmod (128:Int)<(128:
 Int)) (a6.ite ((IntKind.i64.wrap (h.n+(1:Int))).tmod (128:Int)==(0:Int)) (a6.need ((0:Int)≤(0:Int)∧(0:Int)≤(128:Int)∧(128:
 Int)≤(128:Int)) (a6.need ((List.take (128:Nat) (List.drop (0:Nat) (h.wait.set ((0:Nat)+(h.n.tmod (128:Int)).toNat) (b.getD i.toNat (0:
 Int))))).length=(128:Nat)) (a6.need (h.s.length=(8:Nat)∧(16:Nat)=(16:Nat)) (a6.leaf Exit.normal ((bH puC rS).wr ((b,n,
 IntKind.i64.wrap (i+(1:Int)),PUnit.unit),{begun:=h.begun,s:=CC h.s (pV (List.take (128:Nat) (List.drop (0:Nat) (h.wait.set ((0:Nat)+(h.n.tmod (128:Int)).toNat) (b.getD i.toNat (0:Int)))))),n:=IntKind.i64.wrap (h.n+(1:Int)),wait:=h.wait.set ((0:Nat)+(h.n.tmod (128:Int)).toNat) (b.getD i.toNat (0:Int))},
 PUnit.unit)))))) (a6.leaf Exit.normal ((bH puC rS).wr ((b,n,IntKind.i64.wrap (i+(1:Int)),PUnit.unit),{begun:=h.begun,s:=h.s,n:=IntKind.i64.wrap (h.n+(1:Int)),wait:=h.wait.set ((0:Nat)+(h.n.tmod (128:Int)).toNat) (b.getD i.toNat (0:Int))},
 PUnit.unit)))))) (a6.leaf (Exit.exit (0:Nat)) ((bH puX rS).wr (PUnit.unit,h,PUnit.unit))):=by kernel_rfl
theorem LF: ∀ p∈ae0,p.2.Ok Tryz.prog p.1:=ao aeT (ao ajC aD)
noncomputable def puF (x:(List Int×Int×Int×Unit)×HH×Unit):a6:=
 .need (sS x.2.1∧x.1.2.1=x.1.1.length∧x.1.2.2.1=0∧x.2.1.n+x.1.1.length<2305843009213693952) (.leaf (.exit 0) ((bH puX rS).wr ((),(cR x.2.1 x.1.1,()))))
theorem ajE (h0:HH) (x):Ex Tryz.prog (rS.wr (h0,())) (.loop (aU aoq 0)) ((bH puC rS).wr x) (puF x):=by
 obtain ⟨⟨b,n,i,_⟩,h,_⟩:=x
 refine Ex.need fun ⟨h1,h2,h3,h4⟩=>?_
 simp only at h1 h2 h3 h4
 subst h2 h3
 have azJ:(b.length:Int)<2305843009213693952:=by have:=h1.n;omega
 have key:=hZ (fn:=aoq) (id:=0) (j:=0) (ws:=puW) (hp:=rS.wr (h0,())) mixed LF (aP.nil _) b.length (fun k h=>(bH puC rS).wr ((b,(b.length:Int),(k:Int),()),(h,()))) (fun h=>(bH puX rS).wr ((),(h,()))) (fun k h=>lD h (b.getD k 0)) (fun k h=>sS h∧h.n+(b.length-k:Nat)<2305843009213693952)
  (fun k h R hk hm hn hx=>?_) (fun k h _ hh=>⟨CE hh.1 _,by rw[Ie];have:=hh.2;omega⟩) 0 h (by omega) ⟨h1,by simpa using h4⟩
 ·rw[Nat.sub_zero,CF lD b _ _ _ (by omega)] at key;exact key
 obtain ⟨hh,fq⟩:=hm
 obtain ⟨g1,g2,g3,g4⟩:=hh
 rw[aor]
 refine ⟨fun hb=>?_,fun hb=>?_⟩
 ·have oq:k<b.length:=by have:=of_decide_eq_true hb;omega
  have e1:IntKind.i64.wrap (h.n+1)=h.n+1:=aq (by omega) (by omega)
  have e2:h.n.tmod 128=h.n%128:=Int.tmod_eq_emod_of_nonneg g2
  have e3:(h.n+1).tmod 128=(h.n+1)%128:=Int.tmod_eq_emod_of_nonneg (by omega)
  have e4: ∀ c,List.take 128 (List.drop 0 (h.wait.set (h.n%128).toNat c))=h.wait.set (h.n%128).toNat c:=fun c=>cn (by simp[g4])
  rw[e1,e2,e3,eB k (by omega)]
  simp only[Int.toNat_natCast,Nat.zero_add]
  rw[e4]
  have AN:=hn oq
  refine ⟨⟨by omega,by omega⟩,by omega,fun hz=>?_,fun hz=>?_⟩
  ·have M6:(h.n+1)%128=0:=by simpa using hz
   rw[lD,if_pos M6] at AN
   exact ⟨by omega,by simp[g4],⟨g3,trivial⟩,AN⟩
  ·have M6: ¬ (h.n+1)%128=0:=by simpa using hz
   rw[lD,if_neg M6] at AN
   exact AN
 ·have:k=b.length:=by have:=of_decide_eq_false hb;omega
  exact hx this
noncomputable abbrev asf:eW:= [(0,fw (bH puC rS) 1 [ase,CD,.auto] puF)]
abbrev hbA:a9 (List LV) (List Int×Unit):=ak p0 (ae (ah (dB false false u8)) ag)
noncomputable def ae1:au:=au.bV [none,some u8] (hbA) (rS) fun x_ y_=>(fun (b:List Int) (h:HH)=> .leaf (some (sS h∧h.n+b.length<2305843009213693952)) (.cV []) [(0,hI (cR h b))]) x_.1 y_.1
theorem XX (b:List Int) (h:HH):aY Tryz.prog ae0 asf Tryz.f74 ((hbA).wr (b,())) ((rS).wr (h,())) [CD,.auto]=
 End.need (sS h∧(↑b.length:Int)=(↑b.length:Int)∧(0:Int)=(0:Int)∧h.n+(↑b.length:Int)<(2305843009213693952:Int)) (End.leaf
 (LV.cV []) [some (Item.a8 [SV.bool (SB.sym (cR h b).begun),SV.arr (Ty.int IntKind.u64) (8:Nat) (cR h b).s,SV.int IntKind.i64 (SI.sym (cR h
 b).n),SV.arr (Ty.int IntKind.u8) (128:Nat) (cR h b).wait] (126:Nat))]):=by kernel_rfl
theorem UH:ae1.Ok Tryz.prog 74:=by
 refine (au.bE Tryz.call74 fun x_ y_ Q H_=>?_).sym
 obtain ⟨b,_⟩:=x_
 obtain ⟨h,_⟩:=y_
 obtain ⟨hn,hq⟩:=H_
 have hn:sS h∧h.n+b.length<2305843009213693952:=hn
 refine (aG mixed LF Tryz.func74 rfl (LT:=asf) (ks:= [CD,.auto]) (aP.cy (jr rfl (c5 (hp:=rS.wr (h,())) (ajE h)) jH))).use (D:= [(0,hI (cR h b))]) ?_ hq
 show (aY _ _ _ _ ((hbA).wr (b,())) ((rS).wr (h,())) _).sat _
 rw[XX]
 exact ⟨⟨hn.1,rfl,rfl,hn.2⟩,rfl,rfl⟩
noncomputable def ae2:au:=au.bV [none,some u8] (hbA) (rS) fun x_ y_=>(fun (b:List Int) (h:HH)=> .leaf (some (sS h∧h.n+b.length<2305843009213693952)) (.cV []) [(0,hI (cR h b))]) x_.1 y_.1
theorem Ra (b:List Int) (h:HH):aY Tryz.prog [(73,aop),(74,ae1)] [] Tryz.f43 ((hbA).wr (b,())) ((rS).wr (h,())) [CD,.auto]=
 End.need (h.begun=true) (End.need (sS h∧h.n+(↑b.length:Int)<(2305843009213693952:Int)) (End.leaf (LV.cV []) [some (Item.a8 [SV.bool
 (SB.sym (cR h b).begun),SV.arr (Ty.int IntKind.u64) (8:Nat) (cR h b).s,SV.int IntKind.i64 (SI.sym (cR h b).n),SV.arr (Ty.int IntKind.u8)
 (128:Nat) (cR h b).wait] (126:Nat))])):=by kernel_rfl
theorem ae3:ae2.Ok Tryz.prog 43:=by
 refine (au.bE Tryz.call43 fun x_ y_ Q H_=>?_).sym
 obtain ⟨b,_⟩:=x_
 obtain ⟨h,_⟩:=y_
 obtain ⟨hn,hq⟩:=H_
 have hn:sS h∧h.n+b.length<2305843009213693952:=hn
 refine (aG mixed ((ao aeZ (ao UH aD))) Tryz.func43 rfl (LT:= []) (ks:= [CD,.auto]) (aP.nil _)).use (D:= [(0,hI (cR h b))]) ?_ hq
 show (aY _ _ _ _ ((hbA).wr (b,())) ((rS).wr (h,())) _).sat _
 rw[Ra]
 exact ⟨hn.1.begun,hn,rfl,rfl⟩
def dP (x:Int):List Int:=(List.range 8).map fun i=>IntKind.u8.wrap (shr .u64 x ((56-8*i:Nat):Int))
noncomputable def Rb:au:=au.bV [] ((ae (ah (ay .u64)) ag)) (ag) fun x_ y_=>(fun (x:Int)=> .leaf none (.one (.sc (.sl 0 0))) [(0,.own 0 u8 (dP x))]) x_.1
theorem Rc (x:Int):aY Tryz.prog [] [] Tryz.f75 (((ae (ah (ay .u64)) ag)).wr (x,())) ((ag).wr ()) [.auto,.ax]=
 End.need ((1:Nat)≤(70368744177664:Nat)∧(1:Nat)≤(70368744177664:Nat)) (End.need ((2:Nat)≤(70368744177664:Nat)∧(2:Nat)≤
 (70368744177664:Nat)) (End.need ((3:Nat)≤(70368744177664:Nat)∧(3:Nat)≤(70368744177664:Nat)) (End.need ((4:Nat)≤(70368744177664:
 Nat)∧(4:Nat)≤(70368744177664:Nat)) (End.need ((5:Nat)≤(70368744177664:Nat)∧(5:Nat)≤(70368744177664:Nat)) (End.need ((6:Nat)≤
 (70368744177664:Nat)∧(6:Nat)≤(70368744177664:Nat)) (End.need ((7:Nat)≤(70368744177664:Nat)∧(7:Nat)≤(70368744177664:Nat))
 (End.need ((8:Nat)≤(70368744177664:Nat)∧(8:Nat)≤(70368744177664:Nat)) (End.leaf (LV.one (VV.sc (SV.sl (0:Nat) (0:Nat)))) [some
 (Item.own (0:Nat) (Ty.int IntKind.u8) ([IntKind.u8.wrap (shr IntKind.u64 x (56:Int))]++ [IntKind.u8.wrap (shr IntKind.u64 x (48:Int))]++
 [IntKind.u8.wrap (shr IntKind.u64 x (40:Int))]++ [IntKind.u8.wrap (shr IntKind.u64 x (32:Int))]++ [IntKind.u8.wrap (shr IntKind.u64 x (24:
 Int))]++ [IntKind.u8.wrap (shr IntKind.u64 x (16:Int))]++ [IntKind.u8.wrap (shr IntKind.u64 x (8:Int))]++ [IntKind.u8.wrap (shr IntKind.u64 x (0
 :Int))]))])))))))):=by kernel_rfl
theorem LG:Rb.Ok Tryz.prog 75:=by
 refine (au.bE Tryz.call75 fun x_ y_ Q H_=>?_).sym
 obtain ⟨x,_⟩:=x_
 have hq:=H_.2
 refine (aG mixed aD Tryz.func75 rfl (LT:= []) (ks:= [.auto,.ax]) (aP.nil _)).use (D:= [(0,.own 0 u8 (dP x))]) ?_ hq
 show (aY _ _ _ _ (((ae (ah (ay .u64)) ag)).wr (x,())) ((ag).wr ()) _).sat _
 rw[Rc]
 exact ⟨by omega,by omega,by omega,by omega,by omega,by omega,by omega,by omega,rfl,rfl⟩
def kG (s:List Int):List Int:=(List.range 8).foldl (fun a i=>a++dP (s.getD i 0)) []
noncomputable def LH:au:=au.bV [] ((ak p0 ag)) (rS) fun x_ y_=>(fun (h:HH)=> .leaf none (.one (.sc (.sl 1 0))) [(1,.own 0 u8 (kG h.s))]) y_.1
theorem Ig (h:HH):aY Tryz.prog [(75,Rb)] [] Tryz.f76 (((ak p0 ag)).wr ()) ((rS).wr (h,())) [.auto,.ax]=
 End.need ((8:Nat)≤(70368744177664:Nat)∧(8:Nat)≤(70368744177664:Nat)) (End.need ((16:Nat)≤(70368744177664:Nat)∧(16:Nat)≤
 (70368744177664:Nat)) (End.need ((24:Nat)≤(70368744177664:Nat)∧(24:Nat)≤(70368744177664:Nat)) (End.need ((32:Nat)≤(70368744177664:
 Nat)∧(32:Nat)≤(70368744177664:Nat)) (End.need ((40:Nat)≤(70368744177664:Nat)∧(40:Nat)≤(70368744177664:Nat)) (End.need ((48:Nat)
 ≤(70368744177664:Nat)∧(48:Nat)≤(70368744177664:Nat)) (End.need ((56:Nat)≤(70368744177664:Nat)∧(56:Nat)≤(70368744177664:Nat))
 (End.need ((64:Nat)≤(70368744177664:Nat)∧(64:Nat)≤(70368744177664:Nat)) (End.leaf (LV.one (VV.sc (SV.sl (1:Nat) (0:Nat)))) [some
 (Item.a8 [SV.bool (SB.sym h.begun),SV.arr (Ty.int IntKind.u64) (8:Nat) h.s,SV.int IntKind.i64 (SI.sym h.n),SV.arr (Ty.int IntKind.u8) (128:Nat)
 h.wait] (126:Nat)),some (Item.own (0:Nat) (Ty.int IntKind.u8) (dP (h.s.getD (0:Nat) (0:Int))++dP (h.s.getD (1:Nat) (0:Int))++
 dP (h.s.getD (2:Nat) (0:Int))++dP (h.s.getD (3:Nat) (0:Int))++dP (h.s.getD (4:Nat) (0:Int))++dP (h.s.getD (5:Nat)
 (0:Int))++dP (h.s.getD (6:Nat) (0:Int))++dP (h.s.getD (7:Nat) (0:Int))))])))))))):=by kernel_rfl
theorem Rd:LH.Ok Tryz.prog 76:=by
 refine (au.bE Tryz.call76 fun x_ y_ Q H_=>?_).sym
 obtain ⟨h,_⟩:=y_
 have hq:=H_.2
 refine (aG mixed ((ao LG aD)) Tryz.func76 rfl (LT:= []) (ks:= [.auto,.ax]) (aP.nil _)).use (D:= [(1,.own 0 u8 (kG h.s))]) ?_ hq
 show (aY _ _ _ _ (((ak p0 ag)).wr ()) ((rS).wr (h,())) _).sat _
 rw[Ig]
 exact ⟨by omega,by omega,by omega,by omega,by omega,by omega,by omega,by omega,rfl,rfl⟩
end Go.Proofs.YtjalaohajcpllaaGreat
end
section
set_option linter.unusedVariables false
set_option linter.unusedSimpArgs false
namespace Go.Proofs.YtjalaohajcpllaaGreat
open Go Go.Ev
set_option maxRecDepth 100000
noncomputable abbrev asg:Func:=Tryz.f44
noncomputable abbrev ae4:List (FuncId×au):= [(73,aop),(74,ae1),(75,Rb),(76,LH)]
theorem LI: ∀ p∈ae4,p.2.Ok Tryz.prog p.1:=ao aeZ (ao UH (ao LG (ao Rd aD)))
abbrev Ih:a9 Hp (HH×List Int×HH×Unit):=ae (dN 126 cHH) (ae (rM 51 .u8 64) (ae (dN 126 cHH) ag))
abbrev ae5:Wk:= .a8 2 [.sym,.an,.sym,.an]
abbrev suC:a9 (List LV) (Int×Unit):=(jk 2 (ak (ah (aJ 1 0)) (ak (ah (aJ 2 0)) (ae (ah (ay .u64)) (jk 24 ag)))))
abbrev aos:Wk:= .fr (cK 29 [(2,.an),(3,.an),(4,.sym)])
def suW:Exit→List Wk
 | .normal=> [aos,ae5,.auto]
 | .exit 0=> [aos,ae5,.auto]
 |_=> []
theorem aot (h0:HH) (g:HH) (r:List Int) (h:HH) (n:Int):c8 Tryz.prog ae4 [] asg 0 (rS.wr (h0,())) suW ((bH suC Ih).wr ((n,()),(g,r,h,())))=
 a6.ite (h.n.tmod (128:Int)!=(112:Int)) (a6.need (sS h∧h.n+(1:Int)<(2305843009213693952:Int)) (a6.leaf Exit.normal ((bH suC
 Ih).wr ((n,PUnit.unit),g,r,cR h [(0:Int)],PUnit.unit)))) (a6.leaf (Exit.exit (0:Nat)) ((bH suC Ih).wr ((n,PUnit.unit),g,r,h,
 PUnit.unit))):=by kernel_rfl
def nZ (h:HH):HH:=cR h (List.replicate ((112-h.n)%128).toNat 0)
theorem XY {h:HH} (hz: ¬ h.n%128=112):nZ (cR h [0])=nZ h∧((112-(cR h [0]).n)%128).toNat<((112-h.n)%128).toNat:=by
 have e1:(cR h [0]).n=h.n+1:=by rw[pW];rfl
 have e2:((112-h.n)%128).toNat=((112-(cR h [0]).n)%128).toNat+1:=by rw[e1];omega
 refine ⟨?_,by omega⟩
 unfold nZ
 rw[e2,List.replicate_succ]
 rfl
theorem ae6 {h:HH} (hz:h.n%128=112):nZ h=h:=by
 have e:((112-h.n)%128).toNat=0:=by omega
 unfold nZ;rw[e];rfl
noncomputable def suF (x:(Int×Unit)×HH×List Int×HH×Unit):a6:=
 .need (sS x.2.2.2.1∧x.2.2.2.1.n+128<2305843009213693952) (.leaf (.exit 0) ((bH suC Ih).wr (x.1,(x.2.1,x.2.2.1,nZ x.2.2.2.1,()))))
theorem ajG (h0:HH) (x):Ex Tryz.prog (rS.wr (h0,())) (.loop (aU asg 0)) ((bH suC Ih).wr x) (suF x):=by
 obtain ⟨⟨n,_⟩,g,r,h,_⟩:=x
 refine Ex.need fun ⟨h1,h2⟩=>?_
 simp only at h1 h2
 refine Ei mixed LI (LT:= []) (ws:=suW) (hp:=rS.wr (h0,())) (aP.nil _) (fun h:HH=>((112-h.n)%128).toNat) (fun h:HH=>(bH suC Ih).wr ((n,()),(g,r,h,()))) (fun h=>sS h∧h.n+(112-h.n)%128<2305843009213693952)
  (fun h=> .leaf (.exit 0) ((bH suC Ih).wr ((n,()),(g,r,nZ h,())))) (fun h _=>aot h0 g r h n) (fun h R hh hs=>?_) h ⟨h1,by omega⟩
 obtain ⟨hh,fq⟩:=hh
 have e:h.n.tmod 128=h.n%128:=Int.tmod_eq_emod_of_nonneg hh.n
 rw[e]
 refine ⟨fun hb=>?_,fun hb=>?_⟩
 ·have kU: ¬ h.n%128=112:=by simpa using hb
  obtain ⟨k1,k2⟩:=XY kU
  have e1:(cR h [0]).n=h.n+1:=by rw[pW];rfl
  refine ⟨⟨hh,by omega⟩,.inl ⟨rfl,cR h [0],rfl,⟨nY _ hh,by rw[e1];omega⟩,k2,?_⟩⟩
  show (a6.leaf (.exit 0) ((bH suC Ih).wr ((n,()),(g,r,nZ (cR h [0]),())))).sat R
  rw[k1];exact hs
 ·have kU:h.n%128=112:=by simpa using hb
  rw[ae6 kU] at hs
  exact .inr ⟨by simp,hs⟩
noncomputable abbrev ash:eW:= [(0,fw (bH suC Ih) 1 [aos,ae5,.auto] suF)]
def asi (h:HH) (n:Int):HH:=cR (cR (nZ (cR h [128])) (dP (shr .u64 n 61))) (dP (shl .u64 n 3))
def aou (h:HH):List Int:=kG (asi h (IntKind.u64.wrap h.n)).s
theorem Ii (x:Int):(dP x).length=8:=rfl
theorem CG (s:List Int):(kG s).length=64:=rfl
noncomputable def asj:au:=au.bV [] ((ak p0 ag)) (rS) fun x_ y_=>(fun (h:HH)=> .leaf (some (sS h∧h.n<1152921504606846976)) (jI .u8 64 (aou h)) []) y_.1
theorem ae7 (h:HH):aY Tryz.prog ae4 ash Tryz.f44 (((ak p0 ag)).wr ()) ((rS).wr (h,())) [.fr [.sym],CD,.auto]=
 End.need (h.begun=true) (End.need (sS h∧h.n+(1:Int)<(2305843009213693952:Int)) (End.need (sS (cR h [(128:Int)])∧(cR h [(128:
 Int)]).n+(128:Int)<(2305843009213693952:Int)) (End.need (sS (nZ (cR h [(128:Int)]))∧(nZ (cR h [(128:Int)])).n+(8:Int)<
 (2305843009213693952:Int)) (End.need (sS (cR (nZ (cR h [(128:Int)])) (dP (shr IntKind.u64 (IntKind.u64.wrap h.n) (61:Int))))∧(cR
 (nZ (cR h [(128:Int)])) (dP (shr IntKind.u64 (IntKind.u64.wrap h.n) (61:Int)))).n+(8:Int)<(2305843009213693952:Int)) (End.need ((64
 :Nat)≤(64:Nat)) (End.need ((64:Nat)≤(64:Nat)) (End.leaf (LV.one (VV.agg [SV.arr (Ty.int IntKind.u8) (64:Nat) (List.take (64:Nat)
 (List.drop (0:Nat) (kG (cR (cR (nZ (cR h [(128:Int)])) (dP (shr IntKind.u64 (IntKind.u64.wrap h.n) (61:Int)))) (dP (shl
 IntKind.u64 (IntKind.u64.wrap h.n) (3:Int)))).s)))])) [some (Item.a8 [SV.bool (SB.sym h.begun),SV.arr (Ty.int IntKind.u64) (8:Nat) h.s,SV.int
 IntKind.i64 (SI.sym h.n),SV.arr (Ty.int IntKind.u8) (128:Nat) h.wait] (126:Nat))]))))))):=by kernel_rfl
theorem aov:asj.Ok Tryz.prog 44:=by
 refine (au.bE Tryz.call44 fun x_ y_ Q H_=>?_).sym
 obtain ⟨h,_⟩:=y_
 obtain ⟨hn,hq⟩:=H_
 have hn:sS h∧h.n<1152921504606846976:=hn
 refine (aG mixed LI Tryz.func44 rfl (LT:=ash) (ks:= [.fr [.sym],CD,.auto]) (aP.cy (jr rfl (c5 (hp:=rS.wr (h,())) (ajG h)) jH))).use (D:= []) ?_ hq
 show (aY _ _ _ _ (((ak p0 ag)).wr ()) ((rS).wr (h,())) _).sat _
 rw[ae7]
 obtain ⟨g1,g2⟩:=hn
 have g3:=g1.n
 have e1:(cR h [128]).n=h.n+1:=by rw[pW];rfl
 have k1:sS (cR h [128]):=nY _ g1
 have k2:sS (nZ (cR h [128])):=nY _ k1
 have e2:(nZ (cR h [128])).n≤h.n+128:=by unfold nZ;rw[pW,e1,List.length_replicate];omega
 have k3:sS (cR (nZ (cR h [128])) (dP (shr .u64 (IntKind.u64.wrap h.n) 61))):=nY _ k2
 have e3:(cR (nZ (cR h [128])) (dP (shr .u64 (IntKind.u64.wrap h.n) 61))).n≤h.n+136:=by rw[pW,Ii];omega
 have e4: ∀ s,List.take 64 (List.drop 0 (kG s))=kG s:=fun s=>cn (CG s)
 rw[e4]
 exact ⟨g1.begun,⟨g1,by omega⟩,⟨k1,by omega⟩,⟨k2,by omega⟩,⟨k3,by omega⟩,by omega,by omega,rfl,rfl⟩
noncomputable abbrev ofFn:Func:=Tryz.f22
noncomputable abbrev cy:List (FuncId×au):= [(42,amt),(43,ae2),(44,asj)]
abbrev rrA:a9 (List LV) (List (List Int)×Unit):=ae (ah (dB false false (.sl u8))) ag
abbrev ofC:a9 (List LV) (List (List Int)×Int×Int×Unit):=(jk 2 (ak (ah (aJ 0 0)) (ak (ah (aJ 1 0)) (jk 3 (ae (ah (dB false false (.sl u8))) (ae (ah (ay .i64)) (ae (ah (ay .i64)) (jk 9 ag))))))))
abbrev asm:Wk:= .fr (cK 19 [(2,.an),(3,.an),(7,.an),(8,.sym),(9,.sym)])
abbrev ofX:a9 (List LV) (Unit):=(jk 2 (ak (ah (aJ 0 0)) (ak (ah (aJ 1 0)) (jk 15 ag))))
abbrev av7:Wk:= .fr (cK 19 [(2,.an),(3,.an)])
abbrev LJ:a9 Hp (List Int×HH×Unit):=ae (rM 51 .u8 64) (ae (dN 126 cHH) ag)
abbrev ae8:Wk:= .a8 1 [.sym,.an,.sym,.an]
def ofW:Exit→List Wk
 | .normal=> [asm,ae8,.auto]
 | .exit 0=> [av7,ae8,.auto]
 |_=> []
theorem aow (l:List (List Int)) (n i:Int) (r:List Int) (h:HH):c8 Tryz.prog cy [] ofFn 0 [] ofW ((bH ofC LJ).wr ((l,n,i,()),(r,h,())))=
 a6.ite (decide (i<n)) (a6.need ((0:Int)≤i∧i<(↑l.length:Int)) (a6.need (sS h∧h.n+(↑(List.length (l.getD i.toNat [])):Int)<
 (2305843009213693952:Int)) (a6.leaf Exit.normal ((bH ofC LJ).wr ((l,n,IntKind.i64.wrap (i+(1:Int)),PUnit.unit),r,cR h (l.getD i.toNat
 []),PUnit.unit))))) (a6.leaf (Exit.exit (0:Nat)) ((bH ofX LJ).wr (PUnit.unit,r,h,PUnit.unit))):=by kernel_rfl
theorem LK: ∀ p∈cy,p.2.Ok Tryz.prog p.1:=ao ajD (ao ae3 (ao aov aD))
theorem EM {σ:Type} (g:σ→List Int→σ) (b:List (List Int)): ∀ (m k:Nat) (s:σ),k+m=b.length→upto (fun k s=>g s (b.getD k [])) k m s=(b.drop k).foldl g s
 |0,k,s,h=>by rw[List.drop_eq_nil_of_le (by omega)];rfl
 |m+1,k,s,h=>by
  have e:b.drop k=b.getD k []::b.drop (k+1):=by
   rw[List.drop_eq_getElem_cons (by omega:k<b.length),List.getD_eq_getElem?_getD,List.getElem?_eq_getElem (by omega:k<b.length)];rfl
  rw[e]
  exact EM g b m (k+1) _ (by omega)
theorem EN: ∀ (l:List (List Int)) (h:HH),l.foldl cR h=cR h l.flatten
 | [],h=>rfl
 |b::l,h=>by rw[List.foldl_cons,EN l,List.flatten_cons,LD]
noncomputable def asn (x:(List (List Int)×Int×Int×Unit)×List Int×HH×Unit):a6:=
 .need (sS x.2.2.1∧x.1.2.1=x.1.1.length∧x.1.2.2.1=0∧x.1.1.length<2305843009213693952∧x.2.2.1.n+x.1.1.flatten.length<2305843009213693952) (.leaf (.exit 0) ((bH ofX LJ).wr ((),(x.2.1,cR x.2.2.1 x.1.1.flatten,()))))
theorem ajH (x):Ex Tryz.prog [] (.loop (aU ofFn 0)) ((bH ofC LJ).wr x) (asn x):=by
 obtain ⟨⟨l,n,i,_⟩,r,h,_⟩:=x
 refine Ex.need fun ⟨h1,h2,h3,h4,h5⟩=>?_
 simp only at h1 h2 h3 h4 h5
 subst h2 h3
 have key:=hZ (fn:=ofFn) (id:=0) (j:=0) (ws:=ofW) (hp:= []) mixed LK (aP.nil _) l.length (fun k h=>(bH ofC LJ).wr ((l,(l.length:Int),(k:Int),()),(r,h,()))) (fun h=>(bH ofX LJ).wr ((),(r,h,()))) (fun k h=>cR h (l.getD k [])) (fun k h=>sS h∧h.n+(l.drop k).flatten.length<2305843009213693952)
  (fun k h R hk hm hn hx=>?_) (fun k h hk hh=>⟨nY _ hh.1,?_⟩) 0 h (by omega) ⟨h1,h5⟩
 ·rw[Nat.sub_zero,EM cR l _ _ _ (by omega),EN] at key;exact key
 ·obtain ⟨hh,fq⟩:=hm
  rw[aow]
  refine ⟨fun hb=>?_,fun hb=>?_⟩
  ·have oq:k<l.length:=by have:=of_decide_eq_true hb;omega
   have e:l.drop k=l.getD k []::l.drop (k+1):=by
    rw[List.drop_eq_getElem_cons oq,List.getD_eq_getElem?_getD,List.getElem?_eq_getElem oq];rfl
   rw[e,List.flatten_cons,List.length_append] at fq
   rw[eB k (by omega)]
   simp only[Int.toNat_natCast]
   exact ⟨by omega,⟨hh,by omega⟩,hn oq⟩
  ·have:k=l.length:=by have:=of_decide_eq_false hb;omega
   exact hx this
 ·have e:l.drop k=l.getD k []::l.drop (k+1):=by
   rw[List.drop_eq_getElem_cons hk,List.getD_eq_getElem?_getD,List.getElem?_eq_getElem hk];rfl
  have h2:=hh.2
  rw[e,List.flatten_cons,List.length_append] at h2
  rw[pW]
  omega
noncomputable abbrev ofLT:eW:= [(0,fw (bH ofC LJ) 0 [asm,ae8,.auto] asn)]
theorem Ij:sS LC:=⟨rfl,by decide,rfl,rfl⟩
def cT (b:List Int):List Int:=aou (cR LC b)
theorem gd (b:List Int):(cT b).length=64:=rfl
noncomputable def ofE:au:=au.bV [some (.sl u8)] (rrA) (ag) fun x_ y_=>(fun (l:List (List Int))=> .leaf (some (l.length<2305843009213693952∧l.flatten.length<1152921504606846976)) (jI .u8 64 (cT l.flatten)) []) x_.1
theorem ajI (l:List (List Int)):aY Tryz.prog cy ofLT Tryz.f22 ((rrA).wr (l,())) ((ag).wr ()) [.fr [.sym],.auto]=
 End.need (sS {begun:=true,s:= [(7640891576956012808:Int),(13503953896175478587:Int),(4354685564936845355:Int),(11912009170470909681:Int),(5840696475078001361:Int),(11170449401992604703:Int),(2270897969802886507:Int),(6620516959819538809:Int)],n:=(0:Int),wait:=List.replicate (128:Nat) (0:Int)}
 ∧(↑l.length:Int)=(↑l.length:Int)∧(0:Int)=(0:Int)∧l.length<(2305843009213693952:Nat)∧(0:Int)+(↑l.flatten.length:Int)<
 (2305843009213693952:Int)) (End.need (sS (cR {begun:=true,s:= [(7640891576956012808:Int),(13503953896175478587:Int),(4354685564936845355:Int),(11912009170470909681:Int),(5840696475078001361:Int),(11170449401992604703:Int),(2270897969802886507:Int),(6620516959819538809:Int)],n:=(0:Int),wait:=List.replicate (128:Nat) (0:Int)}
 l.flatten)∧(cR {begun:=true,s:= [(7640891576956012808:Int),(13503953896175478587:Int),(4354685564936845355:Int),(11912009170470909681:Int),(5840696475078001361:Int),(11170449401992604703:Int),(2270897969802886507:Int),(6620516959819538809:Int)],n:=(0:Int),wait:=List.replicate (128:Nat) (0:Int)}
 l.flatten).n<(1152921504606846976:Int)) (End.leaf (LV.one (VV.agg [SV.arr (Ty.int IntKind.u8) (64:Nat) (aou (cR {begun:=true,s:= [(7640891576956012808:Int),(13503953896175478587:Int),(4354685564936845355:Int),(11912009170470909681:Int),(5840696475078001361:Int),(11170449401992604703:Int),(2270897969802886507:Int),(6620516959819538809:Int)],n:=(0:Int),wait:=List.replicate (128:Nat) (0:Int)}
 l.flatten))])) [])):=by kernel_rfl
theorem amu:ofE.Ok Tryz.prog 22:=by
 refine (au.bE Tryz.call22 fun x_ y_ Q H_=>?_).sym
 obtain ⟨l,_⟩:=x_
 obtain ⟨hn,hq⟩:=H_
 have hn:l.length<2305843009213693952∧l.flatten.length<1152921504606846976:=hn
 refine (aG mixed LK Tryz.func22 rfl (LT:=ofLT) (ks:= [.fr [.sym],.auto]) (aP.cy (jr rfl (c5 (hp:= []) ajH) jH))).use (D:= []) ?_ hq
 show (aY _ _ _ _ ((rrA).wr (l,())) ((ag).wr ()) _).sat _
 rw[ajI]
 have e:(cR LC l.flatten).n=l.flatten.length:=by rw[pW];show (0:Int)+_=_;omega
 exact ⟨⟨Ij,rfl,rfl,hn.1,by omega⟩,⟨nY _ Ij,by show (cR LC l.flatten).n<_;rw[e];omega⟩,rfl,rfl⟩
end Go.Proofs.YtjalaohajcpllaaGreat
end
section
set_option linter.unusedVariables false
set_option linter.unusedSimpArgs false
namespace Go.Proofs.YtjalaohajcpllaaGreat
open Go Go.Ev
set_option maxRecDepth 100000
def wo (b:List Int):List Int:=cT (b.take 160)
noncomputable def Ik:au:=au.bV [some u8] (bA) (ag) fun x_ y_=>(fun (b:List Int)=> .leaf (some (b.length<1152921504606846976)) (jI .u8 64 (wo b)) []) x_.1
theorem LL (b:List Int):aY Tryz.prog [(22,ofE)] [] Tryz.f28 ((bA).wr (b,())) ((ag).wr ()) [.fr [.sym],.auto]=
 End.need ((0:Int)≤(0:Int)∧((0:Int)≤if (160:Int)<(↑b.length:Int) then (160:Int) else (↑b.length:Int))∧(if (160:Int)<
 (↑b.length:Int) then (160:Int) else (↑b.length:Int))≤(↑b.length:Int)) (End.need ((1:Nat)<(2305843009213693952:Nat)∧ [List.take ((if
 (160:Int)<(↑b.length:Int) then (160:Int) else (↑b.length:Int))-(0:Int)).toNat (List.drop (0:Nat) b)].flatten.length<
 (1152921504606846976:Nat)) (End.leaf (LV.one (VV.agg [SV.arr (Ty.int IntKind.u8) (64:Nat) (cT [List.take ((if (160:Int)<(↑b.length:Int)
 then (160:Int) else (↑b.length:Int))-(0:Int)).toNat (List.drop (0:Nat) b)].flatten)])) [])):=by kernel_rfl
theorem EO:Ik.Ok Tryz.prog 28:=by
 refine (au.bE Tryz.call28 fun x_ y_ Q H_=>?_).sym
 obtain ⟨b,_⟩:=x_
 obtain ⟨hn,hq⟩:=H_
 have hn:b.length<1152921504606846976:=hn
 refine (aG mixed ((ao amu aD)) Tryz.func28 rfl (LT:= []) (ks:= [.fr [.sym],.auto]) (aP.nil _)).use (D:= []) ?_ hq
 show (aY _ _ _ _ ((bA).wr (b,())) ((ag).wr ()) _).sat _
 rw[LL]
 have e:List.take ((if (160:Int)<b.length then (160:Int) else b.length)-0).toNat (List.drop 0 b)=b.take 160:=by
  rw[List.drop_zero]
  split
  ·rfl
  ·rw[List.take_of_length_le (by omega),List.take_of_length_le (by omega)]
 rw[e,List.flatten_singleton]
 refine ⟨⟨by omega,by split<;>omega,by split<;>omega⟩,⟨by omega,by simp;omega⟩,rfl,rfl⟩
end Go.Proofs.YtjalaohajcpllaaGreat
end
section
set_option linter.unusedVariables false
set_option linter.unusedSimpArgs false
namespace Go.Proofs.YtjalaohajcpllaaGreat
open Go Go.Ev
set_option maxRecDepth 100000
def wq:Nat→List Int→List Int→List Int
 |0,s,_=>s
 |k+1,s,b=>wq k (CC s (pV (b.take 128))) (b.drop 128)
def ae9 (s b:List Int):List Int:=wq (b.length/128) s b
end Go.Proofs.YtjalaohajcpllaaGreat
end
section
set_option linter.unusedVariables false
set_option linter.unusedSimpArgs false
namespace Go.Proofs.YtjalaohajcpllaaGreat
open Go Go.Ev
set_option maxRecDepth 100000
theorem kH (k:Nat) (s b:List Int):wq (k+1) s b=wq k (CC s (pV (b.take 128))) (b.drop 128):=rfl
theorem CH (s b:List Int):wq 0 s b=s:=rfl
theorem sT: ∀ (k:Nat) (s b c:List Int),b.take (128*k)=c.take (128*k)→128*k≤b.length→128*k≤c.length→wq k s b=wq k s c
 |0,_,_,_,_,_,_=>rfl
 |k+1,s,b,c,h,hb,hc=>by
  have e1:b.take 128=c.take 128:=by
   have:=congrArg (List.take 128) h
   rw[List.take_take,List.take_take,Nat.min_eq_left (by omega)] at this
   exact this
  have e2:(b.drop 128).take (128*k)=(c.drop 128).take (128*k):=by
   have:=congrArg (List.drop 128) h
   rw[List.drop_take,List.drop_take,show 128*(k+1)-128=128*k from by omega] at this
   exact this
  rw[kH,kH,e1]
  exact sT k _ _ _ e2 (by rw[List.length_drop];omega) (by rw[List.length_drop];omega)
theorem CI: ∀ (k:Nat) (s a b:List Int),a.length=128*k→b.length=128→wq (k+1) s (a++b)=CC (wq k s a) (pV b)
 |0,s,a,b,ha,hb=>by
  have:a= []:=List.eq_nil_of_length_eq_zero (by omega)
  subst this
  rw[kH,CH,CH,List.nil_append,List.take_of_length_le (by omega)]
 |k+1,s,a,b,ha,hb=>by
  rw[kH (k+1),kH k s a,List.take_append_of_le_length (by omega),List.drop_append_of_le_length (by omega)]
  exact CI k _ (a.drop 128) b (by rw[List.length_drop];omega) hb
structure HP (h:HH) (row:List Int):Prop where
 ok:sS h
 n:h.n=row.length
 s:h.s=ae9 CB row
 wait:h.wait.take (row.length%128)=row.drop (row.length/128*128)
theorem HP.byte {h:HH} {row:List Int} (hp:HP h row) (c:Int):HP (lD h c) (row++ [c]):=by
 obtain ⟨h0,h1,h2,h3⟩:=hp
 have hw:=h0.wait
 have hn:(h.n%128).toNat=row.length%128:=by rw[h1];omega
 have sd:(h.wait.set (row.length%128) c).take (row.length%128+1)=row.drop (row.length/128*128)++ [c]:=by
  rw[List.take_add_one,List.take_set_of_le (Nat.le_refl _),h3]
  simp[show row.length%128<h.wait.length by omega]
 refine ⟨CE h0 c,?_,?_,?_⟩
 ·rw[Ie,h1];simp
 ·unfold lD
  by_cases hz:(h.n+1)%128=0
  ·rw[if_pos hz,hn]
   simp only
   have hl:row.length%128=127:=by omega
   have aso:h.wait.set (row.length%128) c=row.drop (row.length/128*128)++ [c]:=by
    rw[← sd,List.take_of_length_le (by simp;omega)]
   have hk:(row++ [c]).length/128=row.length/128+1:=by simp;omega
   rw[aso,h2]
   unfold ae9
   rw[hk]
   have e:row++ [c]=row.take (row.length/128*128)++(row.drop (row.length/128*128)++ [c]):=by rw[← List.append_assoc,List.take_append_drop]
   rw[e,CI _ _ _ _ (by rw[List.length_take];omega) (by simp;omega)]
   congr 1
   exact sT _ _ _ _ (by rw[List.take_take];congr 1;omega) (by omega) (by rw[List.length_take];omega)
  ·rw[if_neg hz]
   simp only
   have hk:(row++ [c]).length/128=row.length/128:=by simp;omega
   rw[h2]
   unfold ae9
   rw[hk]
   exact sT _ _ _ _ (by rw[List.take_append_of_le_length (by omega)]) (by omega) (by simp;omega)
 ·have hwb:(lD h c).wait=h.wait.set (row.length%128) c:=by unfold lD;split<;>simp only[hn]
  rw[hwb]
  by_cases hz:(row.length+1)%128=0
  ·have e1:(row++ [c]).length%128=0:=by simpa using hz
   have e2:(row++ [c]).length/128*128=(row++ [c]).length:=by omega
   rw[e1,e2,List.drop_length];rfl
  ·have e1:(row++ [c]).length%128=row.length%128+1:=by simp;omega
   have e2:(row++ [c]).length/128*128=row.length/128*128:=by simp;omega
   rw[e1,e2,sd,List.drop_append_of_le_length (by omega)]
theorem HP.put: ∀ (b:List Int) {h:HH} {row:List Int},HP h row→HP (cR h b) (row++b)
 | [],h,row,hp=>by simpa [cR] using hp
 |c::b,h,row,hp=>by
  have:=HP.put b (hp.byte c)
  rw[List.append_assoc] at this
  exact this
theorem HP.new:HP LC []:=⟨Ij,rfl,rfl,rfl⟩
theorem HP.of (b:List Int):HP (cR LC b) b:=by simpa using HP.new.put b
end Go.Proofs.YtjalaohajcpllaaGreat
end
section
set_option linter.unusedVariables false
set_option linter.unusedSimpArgs false
namespace Go.Proofs.YtjalaohajcpllaaGreat
open Go Go.Ev
set_option maxRecDepth 100000
end Go.Proofs.YtjalaohajcpllaaGreat
end
section
set_option linter.unusedVariables false
set_option linter.unusedSimpArgs false
namespace Go.Ev
open Go
def Vec (α:Type):Nat→Type
 |0=>Unit
 |n+1=>α×Vec α n
namespace Vec
variable {α β γ:Type}
def toList: {n:Nat}→Vec α n→List α
 |0,_=> []
 |_+1,v=>v.1::toList v.2
def map (f:α→β): {n:Nat}→Vec α n→Vec β n
 |0,_=>()
 |_+1,v=>(f v.1,map f v.2)
def zip (f:α→β→γ): {n:Nat}→Vec α n→Vec β n→Vec γ n
 |0,_,_=>()
 |_+1,v,u=>(f v.1 u.1,zip f v.2 u.2)
def ofFn:(n:Nat)→(Nat→α)→Vec α n
 |0,_=>()
 |n+1,f=>(f 0,ofFn n fun i=>f (i+1))
def get [Inhabited α]: {n:Nat}→Vec α n→Nat→α
 |0,_,_=>default
 |_+1,v,0=>v.1
 |_+1,v,i+1=>get v.2 i
theorem ee: {n:Nat}→(v:Vec α n)→v.toList.length=n
 |0,_=>rfl
 |_+1,v=>by simp[toList,ee v.2]
theorem toList_inj: {n:Nat}→ {v u:Vec α n}→v.toList=u.toList→v=u
 |0,_,_,_=>rfl
 |n+1,v,u,h=>by
  simp only[toList,List.cons.injEq] at h
  exact Prod.ext h.1 (toList_inj h.2)
end Vec
def je {α:Type} (f:Nat→α→α):Nat→α→α
 |0,a=>a
 |k+1,a=>f k (je f k a)
theorem yg {α:Type} (f:Nat→α→α) (a:α): ∀ n,upto f 0 n a=je f n a
 |0=>rfl
 |n+1=>by rw[Ej,yg f a n,Nat.zero_add];rfl
def bB (x y c:Int):Int×Int:=((((x.toNat+y.toNat+c.toNat)%2 ^ 64:Nat):Int),(((x.toNat+y.toNat+c.toNat)/2 ^ 64:Nat):Int))
def mW (x y b:Int):Int×Int:=((((x.toNat+2 ^ 64-y.toNat-b.toNat)%2 ^ 64:Nat):Int),if x.toNat<y.toNat+b.toNat then 1 else 0)
def av9 (p:Prop):Option Prop→Option Prop
 |none=>some p
 |some q=>some (p∧q)
abbrev cU3:a9 (List LV) (Int×Int×Int×Unit):=ae (ah (ay .u64)) (ae (ah (ay .u64)) (ae (ah (ay .u64)) ag))
def lE (g:Int→Int→Int→Int×Int):au:=au.of [] cU3 ag fun x _=> .leaf (some (0≤x.2.2.1∧x.2.2.1≤1)) (.cV [.sc (.int .u64 (.sym (g x.1 x.2.1 x.2.2.1).1)),.sc (.int .u64 (.sym (g x.1 x.2.1 x.2.2.1).2))]) []
theorem UI {P:Program} {f:FuncId} {g:Int→Int→Int→Int×Int} (h: ∀ (a b c:Int) (w:World),0≤c→c≤1→(callFunc f #[.int .u64 a,.int .u64 b,.int .u64 c]).run P w= .ok (.value (.tuple #[.int .u64 (g a b c).1,.int .u64 (g a b c).2])) w):
  (lE g).Ok P f:=by
 refine ⟨fun args hp Q hq=>?_⟩
 simp only[lE,au.of] at hq
 split at hq
 ·rename_i x y hx hy
  rw[cU3.ok hx]
  obtain ⟨a,b,c,_⟩:=x
  obtain ⟨⟨h0,h1⟩,hq⟩:=hq
  intro β w vals hh dG
  cases dG with
  |cons e1 dG=>cases dG with
   |cons e2 dG=>cases dG with
    |cons e3 dG=>
     cases dG
     simp only[LV.den,VV.den,SV.den,ah,ay,SI.val] at e1 e2 e3
     subst e1 e2 e3
     exact .inl ⟨_,h a b c w h0 h1,_,β,_,hp,rfl,⟨[],hq,rfl⟩,⟨_,rfl,.cons rfl (.cons rfl .nil)⟩,hh⟩
 ·exact hq.elim
theorem EP {P:Program} (n:String) (a b c:Int) (w:World) (hc: ¬ c.toNat>1):
  (Extern.MathBitsCarry.three n #[.int .u64 a,.int .u64 b,.int .u64 c]).run P w= .ok (a.toNat,b.toNat,c.toNat) w:=by
 have e:Extern.MathBitsCarry.three n #[.int .u64 a,.int .u64 b,.int .u64 c]=(do
  let c:=(← asInt (.int .u64 c)).toNat
  if c>1 then unsupported (.noEntry ("extern/math/bits."++n++": a carry that is neither 0 nor 1"))
  pure ((← asInt (.int .u64 a)).toNat,(← asInt (.int .u64 b)).toNat,c)):=rfl
 rw[e]
 have se: ¬ 1<c.toNat:=hc
 simp[asInt,asIntOf]
 omega
theorem Re {P:Program} {f:FuncId} {fn:Func} (hf:P.funcs[f]? =some fn) (afa:(fn.name=="runtime.NumGoroutine")=false) (hb:fn.body.isNone=true) (hn:Extern.findNext fn=none)
  {e:Array Value→Sem Value} (he:Extern.find fn=some e) (hee:e=(Extern.MathBitsCarry.rows.getD 0 ("",fun _=>pure undef)).2):(lE bB).Ok P f:=by
 refine UI fun a b c w h0 h1=>?_
 rw[run_callFunc_extern hf afa hb hn he,hee]
 have hc: ¬ c.toNat>1:=by omega
 simp[Extern.MathBitsCarry.rows,EP _ _ _ _ _ hc,Extern.MathBitsCarry.pair,Extern.MathBitsCarry.m64,bB]
theorem Rf {P:Program} {f:FuncId} {fn:Func} (hf:P.funcs[f]? =some fn) (afa:(fn.name=="runtime.NumGoroutine")=false) (hb:fn.body.isNone=true) (hn:Extern.findNext fn=none)
  {e:Array Value→Sem Value} (he:Extern.find fn=some e) (hee:e=(Extern.MathBitsCarry.rows.getD 1 ("",fun _=>pure undef)).2):(lE mW).Ok P f:=by
 refine UI fun a b c w h0 h1=>?_
 rw[run_callFunc_extern hf afa hb hn he,hee]
 have hc: ¬ c.toNat>1:=by omega
 simp[Extern.MathBitsCarry.rows,EP _ _ _ _ _ hc,Extern.MathBitsCarry.pair,Extern.MathBitsCarry.m64,mW]
 split<;>rfl
def Rg (k:IntKind) {Y:Type} (r:a9 (List SV) Y):(n:Nat)→a9 (List SV) (Vec Int n×Y)
 |0=>r.jQ (fun y=>((),y)) (fun p=>p.2) (fun _=>rfl)
 |n+1=>(ae (ay k) (Rg k r n)).jQ (fun p=>((p.1,p.2.1),p.2.2)) (fun p=>(p.1.1,(p.1.2,p.2))) (fun _=>rfl)
def kY (k:IntKind):(n:Nat)→a9 (List SV) (Vec Int n)
 |0=>ag
 |n+1=>ae (ay k) (kY k n)
def As (l:List Int):Vec Int 32:=Vec.ofFn 32 fun i=>l.getD i 0
end Go.Ev
end
