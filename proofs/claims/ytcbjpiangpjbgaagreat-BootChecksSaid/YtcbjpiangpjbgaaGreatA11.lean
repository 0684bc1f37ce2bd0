/- What the laws lean on, part 11: a reader of code, plain facts, and what each function gives; no conditions. -/
import Derived.Test.YtcbjpiangpjbgaaGreatA10
set_option linter.unusedVariables false
set_option linter.unusedSimpArgs false
noncomputable section
namespace Go.Proofs.YtcbjpiangpjbgaaGreat
open Go Go.Ev Go.Proofs.Tryz
open Go.IntKind (i64 signed u32 u64 wrap wrap_u32)
set_option maxRecDepth 1000000
abbrev axu:Func:=f104
abbrev vaC:aY (List LV) (Int×List Int×Int×Int×Unit):=(jk 3 (ag (ah (aC .u64)) (jk 3 (ag (ah (fR false false u8)) (ag (ah (aC .i64)) (ag (ah (aC .i64)) (jk 13 ae)))))))
abbrev aCV:Wk:=.fr (cC 23 [(3,.sym),(7,.al),(8,.sym),(9,.sym)])
abbrev vaX:aY (List LV) (Int×Unit):=(jk 3 (ag (ah (aC .u64)) (jk 19 ae)))
abbrev aHG:Wk:=.fr (cC 23 [(3,.sym)])
def vaW:Exit→List Wk
 | .normal=> [aCV,.auto]
 | .exit 0=> [aHG,.auto]
 |_=> []
theorem axv(x:Int)(l:List Int)(n i:Int):cY Tryz.prog [] [] axu 0 [] vaW ((bg vaC ae).wr ((x,l,n,i,()),()))=
 aW.ite (decide (i<n)) (aW.need ((0:Int)≤i∧i<(↑l.length:Int)) (aW.need ((0:Int)≤i64.wrap ((8:Int)*i)) (aW.leaf
 Exit.normal ((bg vaC ae).wr ((bq u64 x (shl u64 (u64.wrap (l.getD i.toNat (0:Int))) (i64.wrap ((8:Int)*
 i))),l,n,i64.wrap (i+(1:Int)),PUnit.unit),PUnit.unit))))) (aW.leaf (Exit.exit (0:Nat)) ((bg vaX ae).wr ((x,PUnit.unit),
 PUnit.unit))):=by kernel_rfl
def vaF(x:(Int×List Int×Int×Int×Unit)×Unit):aW:=
 .need (x.1.1=0∧x.1.2.1.length=8∧ax x.1.2.1∧x.1.2.2.1=x.1.2.1.length∧x.1.2.2.2.1=0) (.leaf (.exit 0) ((bg vaX ae).wr ((aZ x.1.2.1,()),())))
theorem aty{l:List Int}{k:Nat}(hl:ax l)(h8:l.length=8)(hk:k<8):
  bq .u64 (aZ (l.take k)) (shl .u64 (u64.wrap (l.getD k 0)) (i64.wrap (8*(k:Int))))=aZ (l.take (k+1)):=by
 have hc:By (l.getD k 0):=ane hl k
 have e0:l.take (k+1)=l.take k++ [l.getD k 0]:=by
  rw[List.take_add_one];simp[List.getD_eq_getElem?_getD,List.getElem?_eq_getElem (show k<l.length by omega)]
 have hlen:(l.take k).length=k:=by rw[List.length_take];omega
 obtain⟨r1,r2,_⟩:=cP (hl.take k) (by omega);rw[hlen]at r2;obtain⟨Rh,hc1⟩:=hc;have e1:i64.wrap (8*(k:Int))=((8*k:Nat):Int):=by rw[ar (by omega) (by omega)];omega
 have hpw:((2 ^ (8*k):Nat):Int)=256 ^ k:=by rw[Nat.pow_mul,Int.natCast_pow];rfl
 have hle:(256:Int) ^ k≤256 ^ 7:=by
  have:(256:Nat) ^ k≤256 ^ 7:=Nat.pow_le_pow_right (by omega) (by omega)
  exact_mod_cast this
 have h7:(256:Int) ^ 7=72057594037927936:=by decide
 have jn:(0:Int)<256 ^ k:=Int.pow_pos (by omega);have hmul:l.getD k 0*256 ^ k≤255*256 ^ k:=Int.mul_le_mul_of_nonneg_right (by omega) (by omega);have aCW:0≤l.getD k 0*256 ^ k:=Int.mul_nonneg Rh (by omega)
 rw[e0,B2 (hl.take k) ⟨Rh,hc1⟩ (by omega),hlen,e1,wrap_u64 Rh (by omega),iE .u64 _ _ (by show 8*k≤64;omega),hpw,wrap_u64 (by omega) (by omega),eK,
  nw (m:=8*k) aCW (by rw[hpw];exact Int.mul_emod_left _ _) r1 (by rw[hpw];exact r2) (by omega)]
 omega
theorem aog(x):Ex Tryz.prog [] (.loop (a9 axu 0)) ((bg vaC ae).wr x) (vaF x):=by
 obtain⟨⟨y,l,n,i,_⟩,_⟩:=x;refine Ex.need fun⟨h1,h2,h3,h4,h5⟩=>?_;simp only at h1 h2 h3 h4 h5;subst h1 h4 h5
 have key:=dP (fn:=axu) (id:=0) (j:=0) (ws:=vaW) (hp:= []) mixed aw (aJ.nil _) 8 (fun k (_:Unit)=>(bg vaC ae).wr ((aZ (l.take k),l,(l.length:Int),(k:Int),()),())) (fun _=>(bg vaX ae).wr ((aZ (l.take 8),()),())) (fun _ u=>u) (fun _ _=>True)
  (fun k u R hk _ hn hx=>?_) (fun _ _ _ _=>trivial) 0 () (by omega) trivial
 ·rw[List.take_of_length_le (show l.length≤8 by omega)]at key;exact key
 rw[axv];refine⟨fun hb=>?_,fun hb=>?_⟩
 ·have jl:k<8:=by have:=of_decide_eq_true hb;omega
  have e:=aty h3 h2 jl;rw[Int.toNat_natCast,e,cS k (by omega)];refine⟨by omega,?_,hn jl⟩;rw[ar (by omega) (by omega)];omega
 ·have:k=8:=by have:=of_decide_eq_false hb;omega
  subst this;exact hx rfl
abbrev aCX:dL:= [(0,dx (bg vaC ae) 0 [aCV,.auto] vaF)]
def afr:ao:=ao.cH [some u8] (bA) (ae) fun x_ y_=>(fun(l:List Int)=>.leaf (some (8≤l.length∧ax l)) (nU (aZ (l.take 8))) []) x_.1
theorem Oh(l:List Int):aN Tryz.prog [] aCX f104 ((bA).wr (l,())) ((ae).wr ()) [.fr [.sym],.auto]=
 End.need ((0:Int)≤(0:Int)∧(0:Int)≤(8:Int)∧(8:Int)≤(↑l.length:Int)) (End.need ((0:Int)=(0:Int)∧(List.take (8:Nat)
 (List.drop (0:Nat) l)).length=(8:Nat)∧ax (List.take (8:Nat) (List.drop (0:Nat) l))∧(↑(List.take (8:Nat) (List.drop (0:Nat)
 l)).length:Int)=(↑(List.take (8:Nat) (List.drop (0:Nat) l)).length:Int)∧(0:Int)=(0:Int)) (End.leaf (LV.one (VV.sc (SV.int u64
 (SI.sym (aZ (List.take (8:Nat) (List.drop (0:Nat) l))))))) [])):=by kernel_rfl
theorem afs:afr.Ok Tryz.prog 104:=by
 refine(ao.ba call104 fun x_ y_ Q H_=>?_).sym;obtain⟨l,_⟩:=x_;obtain⟨hn,hq⟩:=H_;have hn:8≤l.length∧ax l:=hn;refine(au mixed aw func104 rfl (LT:=aCX) (ks:= [.fr [.sym],.auto]) (aJ.bW (jc rfl (bQ (hp:= []) aog) jh))).use (D:= []) ?_ hq;show(aN _ _ _ _ ((bA).wr (l,())) ((ae).wr ()) _).sat _;rw[Oh];obtain⟨h1,h2⟩:=hn;rw[List.drop_zero];exact⟨by omega,⟨rfl,by simp;omega,h2.take 8,rfl,rfl⟩,rfl,rfl⟩
structure MM where
 ver:Int
 lu:Int
 len:Int
 list:List Int
 plain:List Int
abbrev cMM:aY (List SV) MM:=(Eb ae).kB (fun x=>⟨x.1,x.2.1,x.2.2.1,x.2.2.2.1,x.2.2.2.2.1⟩) (fun m=>(m.ver,m.lu,m.len,m.list,m.plain,())) (fun _=>rfl)
def mm0:MM:=⟨0,0,0,List.replicate 64 0,List.replicate 64 0⟩
abbrev aCY(r:MM×Bool):LV:=.cG [.agg (cMM.wr r.1),.sc (.bool (.sym r.2))]
def dy(b:List Int):MM:=⟨aZ (b.take 8),aZ ((b.drop 8).take 8),aZ ((b.drop 16).take 8),(b.drop 24).take 64,(b.drop 88).take 64⟩
def gL(b:List Int):MM×Bool:=
 if b.length=152∧eG (dy b).ver (dy b).lu (dy b).len=true then(dy b,true)else(mm0,false)
def aoh:ao:=ao.cH [some u8] (bA) (ae) fun x_ y_=>(fun(b:List Int)=>.leaf (some (ax b)) (aCY (gL b)) []) x_.1
theorem afu(b:List Int):aN Tryz.prog [(104,afr),(47,zK)] [] f74 ((bA).wr (b,())) ((ae).wr ()) [.fr [.sym],.auto]=
 End.ite (((↑b.length:Int)!=(152:Int))==false) (End.need ((0:Int)≤(16:Int)∧(16:Int)≤(↑b.length:Int)∧(↑b.length:Int)≤
 (↑b.length:Int)) (End.need ((8:Nat)≤(List.take ((↑b.length:Int)-(16:Int)).toNat (List.drop (16:Nat) b)).length∧ax (List.take
 ((↑b.length:Int)-(16:Int)).toNat (List.drop (16:Nat) b))) (End.ite (decide ((131072:Int)<aZ (List.take (8:Nat) (List.take ((↑b.length:
 Int)-(16:Int)).toNat (List.drop (16:Nat) b))))) (End.leaf (LV.cG [VV.agg [SV.int u64 (SI.sym (0:Int)),SV.int u64 (SI.sym (0:
 Int)),SV.int i64 (SI.sym (0:Int)),SV.arr (Ty.int IntKind.u8) (64:Nat) (List.replicate (64:Nat) (0:Int)),SV.arr (Ty.int IntKind.u8)
 (64:Nat) (List.replicate (64:Nat) (0:Int))],VV.sc (SV.bool (SB.sym false))]) []) (End.need ((8:Nat)≤b.length∧ax b) (End.need ((0:Int)
 ≤(8:Int)∧(8:Int)≤(↑b.length:Int)∧(↑b.length:Int)≤(↑b.length:Int)) (End.need ((8:Nat)≤(List.take ((↑b.length:Int)-(8:
 Int)).toNat (List.drop (8:Nat) b)).length∧ax (List.take ((↑b.length:Int)-(8:Int)).toNat (List.drop (8:Nat) b))) (End.need ((0:Int)≤
 (16:Int)∧(16:Int)≤(↑b.length:Int)∧(↑b.length:Int)≤(↑b.length:Int)) (End.need ((8:Nat)≤(List.take ((↑b.length:Int)-(16:
 Int)).toNat (List.drop (16:Nat) b)).length∧ax (List.take ((↑b.length:Int)-(16:Int)).toNat (List.drop (16:Nat) b))) (End.need ((0:Int)
 ≤(24:Int)∧(24:Int)≤(↑b.length:Int)∧(↑b.length:Int)≤(↑b.length:Int)) (End.need ((64:Nat)≤(List.take ((↑b.length:Int)-(24:
 Int)).toNat (List.drop (24:Nat) b)).length) (End.need ((64:Nat)≤(List.take ((↑b.length:Int)-(24:Int)).toNat (List.drop (24:Nat)
 b)).length) (End.need ((0:Int)≤(88:Int)∧(88:Int)≤(↑b.length:Int)∧(↑b.length:Int)≤(↑b.length:Int)) (End.need ((64:Nat)≤
 (List.take ((↑b.length:Int)-(88:Int)).toNat (List.drop (88:Nat) b)).length) (End.need ((64:Nat)≤(List.take ((↑b.length:Int)-(88:
 Int)).toNat (List.drop (88:Nat) b)).length) (End.ite (!eG (aZ (List.take (8:Nat) b)) (aZ (List.take (8:Nat) (List.take ((↑b.length:Int)
 -(8:Int)).toNat (List.drop (8:Nat) b)))) (i64.wrap (aZ (List.take (8:Nat) (List.take ((↑b.length:Int)-(16:Int)).toNat (List.drop
 (16:Nat) b)))))) (End.leaf (LV.cG [VV.agg [SV.int u64 (SI.sym (0:Int)),SV.int u64 (SI.sym (0:Int)),SV.int i64 (SI.sym
 (0:Int)),SV.arr (Ty.int IntKind.u8) (64:Nat) (List.replicate (64:Nat) (0:Int)),SV.arr (Ty.int IntKind.u8) (64:Nat) (List.replicate (64:
 Nat) (0:Int))],VV.sc (SV.bool (SB.sym false))]) []) (End.leaf (LV.cG [VV.agg [SV.int u64 (SI.sym (aZ (List.take (8:Nat) b))),SV.int
 u64 (SI.sym (aZ (List.take (8:Nat) (List.take ((↑b.length:Int)-(8:Int)).toNat (List.drop (8:Nat) b))))),SV.int i64 (SI.sym
 (i64.wrap (aZ (List.take (8:Nat) (List.take ((↑b.length:Int)-(16:Int)).toNat (List.drop (16:Nat) b)))))),SV.arr (Ty.int
 IntKind.u8) (64:Nat) (List.take (64:Nat) (List.drop (0:Nat) (List.take ((↑b.length:Int)-(24:Int)).toNat (List.drop (24:Nat) b)))),SV.arr
 (Ty.int IntKind.u8) (64:Nat) (List.take (64:Nat) (List.drop (0:Nat) (List.take ((↑b.length:Int)-(88:Int)).toNat (List.drop (88:Nat)
 b))))],VV.sc (SV.bool (SB.sym true))]) [])))))))))))))))) (End.leaf (LV.cG [VV.agg [SV.int u64 (SI.sym (0:Int)),SV.int u64 (SI.sym
 (0:Int)),SV.int i64 (SI.sym (0:Int)),SV.arr (Ty.int IntKind.u8) (64:Nat) (List.replicate (64:Nat) (0:Int)),SV.arr (Ty.int
 IntKind.u8) (64:Nat) (List.replicate (64:Nat) (0:Int))],VV.sc (SV.bool (SB.sym false))]) []):=by kernel_rfl
theorem axx:aoh.Ok Tryz.prog 74:=by
 refine(ao.ba call74 fun x_ y_ Q H_=>?_).sym;obtain⟨b,_⟩:=x_;obtain⟨hn,hq⟩:=H_;have hn:ax b:=hn;refine(au mixed ((aj afs (aj Iz aw))) func74 rfl (LT:= []) (ks:= [.fr [.sym],.auto]) (aJ.nil _)).use (D:= []) ?_ hq;show(aN _ _ _ _ ((bA).wr (b,())) ((ae).wr ()) _).sat _;rw[afu];refine⟨fun h0=>?_,fun h0=>?_⟩
 ·have hl:b.length=152:=by have:((b.length:Int)!=152)=false:=by simpa using h0
                           simp at this;omega
  have e:∀k:Nat,k≤152→List.take ((b.length:Int)-(k:Int)).toNat (List.drop k b)=b.drop k:=fun k hk=>by rw[List.take_of_length_le (by rw[List.length_drop];omega)]
  have e8:List.take ((b.length:Int)-8).toNat (List.drop 8 b)=b.drop 8:=e 8 (by omega);have e16:List.take ((b.length:Int)-16).toNat (List.drop 16 b)=b.drop 16:=e 16 (by omega);have e24:List.take ((b.length:Int)-24).toNat (List.drop 24 b)=b.drop 24:=e 24 (by omega);have e88:List.take ((b.length:Int)-88).toNat (List.drop 88 b)=b.drop 88:=e 88 (by omega);rw[e8,e16,e24,e88];obtain⟨r1,r2,_⟩:=cP ((hn.drop 16).take 8) (by rw[List.length_take];omega);refine⟨by omega,⟨by simp;omega,hn.drop 16⟩,fun h1=>?_,fun h1=>?_⟩
  ·have h1:=of_decide_eq_true h1
   have eg:gL b=(mm0,false):=if_neg fun⟨_,hr⟩=>by
    have:=(kC hr).2;simp only[dy]at this;omega
   rw[eg];exact⟨rfl,rfl⟩
  ·have h1:=of_decide_eq_false h1;have ew:i64.wrap (aZ ((b.drop 16).take 8))=aZ ((b.drop 16).take 8):=ar (by omega) (by omega);rw[ew];refine⟨⟨by omega,hn⟩,by omega,⟨by simp;omega,hn.drop 8⟩,by omega,⟨by simp;omega,hn.drop 16⟩,by omega,by simp;omega,by simp;omega,by omega,by simp;omega,by simp;omega,fun h2=>?_,fun h2=>?_⟩
   ·have eg:gL b=(mm0,false):=if_neg fun⟨_,hr⟩=>by
     have ov:eG (aZ (b.take 8)) (aZ ((b.drop 8).take 8)) (aZ ((b.drop 16).take 8))=true:=hr;rw[ov]at h2;cases h2
    rw[eg];exact⟨rfl,rfl⟩
   ·have h2':eG (aZ (b.take 8)) (aZ ((b.drop 8).take 8)) (aZ ((b.drop 16).take 8))=true:=(by simpa using h2);have eg:gL b=(dy b,true):=if_pos ⟨hl,h2'⟩;rw[eg];exact⟨rfl,rfl⟩
 ·have hl:¬b.length=152:=fun e=>by rw[e]at h0;simp at h0
  have eg:gL b=(mm0,false):=if_neg fun⟨h,_⟩=>hl h;rw[eg];exact⟨rfl,rfl⟩
abbrev axy:Func:=f84
abbrev rgC:aY (List LV) (List Int×Int×Unit):=(ag (ah (fR false false u8)) (jk 1 (aq (ah (aU 0 0)) (jk 1 (aq (ah (aU 1 0)) (ag (ah (aC .i64)) (jk 43 ae)))))))
abbrev aC0:Wk:=.fr (cC 49 [(0,.al),(2,.al),(4,.al),(5,.sym)])
abbrev rgX:aY (List LV) (List Int×Unit):=(ag (ah (fR false false u8)) (jk 1 (aq (ah (aU 0 0)) (jk 1 (aq (ah (aU 1 0)) (jk 44 ae))))))
abbrev aHJ:Wk:=.fr (cC 49 [(0,.al),(2,.al),(4,.al)])
abbrev rgH:aY Hp (MM×MM×Unit):=ag (kY 39 cMM) (ag (kY 39 cMM) ae)
abbrev WW(i:Nat):Wk:=.bH i [.sym,.sym,.sym,.al,.al]
def rgW:Exit→List Wk
 | .normal=> [aC0,WW 0,WW 1,.auto]
 | .exit 0=> [aHJ,WW 0,WW 1,.auto]
 |_=> []
theorem axz(b:List Int)(i:Int)(r m:MM):cY Tryz.prog [] [] axy 0 [] rgW ((bg rgC rgH).wr ((b,i,()),(r,m,())))=
 aW.ite (decide (i<(64:Int))) (aW.need ((0:Int)≤i64.wrap ((24:Int)+i)∧i64.wrap ((24:Int)+i)<(↑b.length:Int))
 (aW.need ((0:Int)≤i∧i<(64:Int)) (aW.need ((0:Int)≤i64.wrap ((88:Int)+i)∧i64.wrap ((88:Int)+i)<(↑b.length:
 Int)) (aW.need ((0:Int)≤i∧i<(64:Int)) (aW.leaf Exit.normal ((bg rgC rgH).wr ((b,i64.wrap (i+(1:Int)),PUnit.unit),r,{ver:=m.ver,lu:=m.lu,len:=m.len,list:=m.list.set ((0:Nat)+i.toNat) (b.getD (i64.wrap ((24:Int)+i)).toNat (0:Int)),plain:=m.plain.set ((0:Nat)+i.toNat) (b.getD (i64.wrap ((88:Int)+i)).toNat (0:Int))},
 PUnit.unit))))))) (aW.leaf (Exit.exit (0:Nat)) ((bg rgX rgH).wr ((b,PUnit.unit),r,m,PUnit.unit))):=by kernel_rfl
def rgS(b:List Int)(m:MM):MM:= {m with list:=(b.drop 24).take 64,plain:=(b.drop 88).take 64}
def rgF(x:(List Int×Int×Unit)×MM×MM×Unit):aW:=
 .need (x.1.1.length=152∧x.1.2.1=0∧x.2.2.1.list.length=64∧x.2.2.1.plain.length=64) (.leaf (.exit 0) ((bg rgX rgH).wr ((x.1.1,()),(x.2.1,rgS x.1.1 x.2.2.1,()))))
theorem aoi(x):Ex Tryz.prog [] (.loop (a9 axy 0)) ((bg rgC rgH).wr x) (rgF x):=by
 obtain⟨⟨b,i,_⟩,r,m,_⟩:=x;refine Ex.need fun⟨h1,h2,h3,h4⟩=>?_;simp only at h1 h2 h3 h4;subst h2
 have key:=dP (fn:=axy) (id:=0) (j:=0) (ws:=rgW) (hp:= []) mixed aw (aJ.nil _) 64 (fun k (o:List Int×List Int)=>(bg rgC rgH).wr ((b,(k:Int),()),(r,{m with list:=o.1,plain:=o.2},()))) (fun(o:List Int×List Int)=>(bg rgX rgH).wr ((b,()),(r,{m with list:=o.1,plain:=o.2},())))
  (fun k (o:List Int×List Int)=>(o.1.set k (b.getD (24+k) 0),o.2.set k (b.getD (88+k) 0))) (fun _ o=>o.1.length=64∧o.2.length=64)
  (fun k o R hk hm hn hx=>?_) (fun k o hk hh=>by simpa using hh) 0 (m.list,m.plain) (by omega) ⟨h3,h4⟩
 ·rw[Nat.sub_zero,vE (fun k (o:List Int)=>o.set k (b.getD (24+k) 0)) (fun k (o:List Int)=>o.set k (b.getD (88+k) 0)),jx (fun k=>b.getD (24+k) 0) h3,jx (fun k=>b.getD (88+k) 0) h4,gU (by omega),gU (by omega)]at key;exact key
 rw[axz];refine⟨fun hb=>?_,fun hb=>?_⟩
 ·have jl:k<64:=by have:=of_decide_eq_true hb;omega
  have e1:i64.wrap (24+(k:Int))=((24+k:Nat):Int):=by rw[ar (by omega) (by omega)];omega
  have e2:i64.wrap (88+(k:Int))=((88+k:Nat):Int):=by rw[ar (by omega) (by omega)];omega
  rw[e1,e2,cS k (by omega)];simp only[Int.toNat_natCast,Nat.zero_add];exact⟨by omega,by omega,by omega,by omega,hn jl⟩
 ·have:k=64:=by have:=of_decide_eq_false hb;omega
  exact hx this
abbrev aC1:dL:= [(0,dx (bg rgC rgH) 0 [aC0,WW 0,WW 1,.auto] rgF)]
abbrev atA:List (FuncId×ao):= [(121,B3),(32,ac2)]
theorem afv:∀p∈atA,p.2.Ok Tryz.prog p.1:=aj tq (aj Ss aw)
theorem Jp:∀ {l:List Int},ax l→l.length≤8→bT l.length (aZ l)=l
 | [],_,_=>rfl
 |x::l,hb,hl=>by
  simp only[List.length_cons]at hl;have gR:ax l:=fun z hz=>hb z (by simp[hz]);obtain⟨h1,h2,h3⟩:=cP gR (by omega);have hx:By x:=hb x (by simp);have e:=h3 x hx (by omega);obtain⟨x0,x1⟩:=hx;show aZ (x::l)%256::bT l.length (aZ (x::l)/256)=x::l;rw[show aZ (x::l)%256=x from by omega,show aZ (x::l)/256=aZ l from by omega,Jp gR (by omega)]
theorem aoj{b:List Int}(hb:ax b)(hl:b.length=152):k8 (dy b).ver (dy b).lu (dy b).len (dy b).list (dy b).plain=if eG (dy b).ver (dy b).lu (dy b).len=true then b else []:=by
 unfold k8
 split
 ·have k:∀n,n+8≤152→bT 8 (aZ ((b.drop n).take 8))=(b.drop n).take 8:=fun n hn=>by
   have:=Jp ((hb.drop n).take 8) (by rw[List.length_take];omega);rwa [show((b.drop n).take 8).length=8 from by rw[List.length_take,List.length_drop];omega]at this
  have k0:=k 0 (by omega);rw[List.drop_zero]at k0;simp only[dy];rw[k0,k 8 (by omega),k 16 (by omega),List.take_take,List.take_take,Nat.min_self];have e1:b=b.take 8++b.drop 8:=(List.take_append_drop 8 b).symm
  have e2:b.drop 8=(b.drop 8).take 8++b.drop 16:=by
   have:=(List.take_append_drop 8 (b.drop 8)).symm;rwa [List.drop_drop]at this
  have e3:b.drop 16=(b.drop 16).take 8++b.drop 24:=by
   have:=(List.take_append_drop 8 (b.drop 16)).symm;rwa [List.drop_drop]at this
  have e4:b.drop 24=(b.drop 24).take 64++b.drop 88:=by
   have:=(List.take_append_drop 64 (b.drop 24)).symm;rwa [List.drop_drop]at this
  have e5:(b.drop 88).take 64=b.drop 88:=List.take_of_length_le (by rw[List.length_drop];omega);rw[e5,List.append_assoc,List.append_assoc,List.append_assoc,← e4,← e3,← e2,← e1]
 ·rfl
theorem WX{n:Nat}(h:n≤8):(256:Int) ^ n≤18446744073709551616:=by
 rcases(show n=0∨n=1∨n=2∨n=3∨n=4∨n=5∨n=6∨n=7∨n=8 by omega)with rfl|rfl|rfl|rfl|rfl|rfl|rfl|rfl|rfl<;>decide
theorem B7{b:List Int}(h:0<b.length):cV [] b=false:=by
 cases e:cV [] b with
 |false=>rfl
 |true=>have:=mS e;simp at this;omega
theorem aok{b:List Int}(hb:ax b)(hl:b.length=152):
  cV (k8 (dy b).ver (dy b).lu (i64.wrap (dy b).len) (dy b).list (dy b).plain) b=eG (dy b).ver (dy b).lu (dy b).len∧(eG (dy b).ver (dy b).lu (dy b).len=true→i64.wrap (dy b).len=(dy b).len):=by
 have hln:((b.drop 16).take 8).length=8:=by rw[List.length_take,List.length_drop];omega
 obtain⟨r1,r2,_⟩:=cP ((hb.drop 16).take 8) (by omega);rw[hln]at r2;have h8:(256:Int) ^ 8=18446744073709551616:=by decide
 have hlen:(dy b).len=aZ ((b.drop 16).take 8):=rfl;rw[← hlen]at r1 r2
 by_cases h:(dy b).len<9223372036854775808
 ·have e:i64.wrap (dy b).len=(dy b).len:=ar (by omega) (by omega);rw[e,aoj hb hl];refine⟨?_,fun _=>rfl⟩
  cases eG (dy b).ver (dy b).lu (dy b).len with
  |true=>exact Ny b
  |false=>exact B7 (by omega)
 ·have e:eG (dy b).ver (dy b).lu (dy b).len=false:=by simp only[eG];exact decide_eq_false (by omega)
  have ew:i64.wrap (dy b).len<0:=by rw[IntKind.wrap_i64];omega
  have e2:eG (dy b).ver (dy b).lu (i64.wrap (dy b).len)=false:=by simp only[eG];exact decide_eq_false (by omega)
  have e3:k8 (dy b).ver (dy b).lu (i64.wrap (dy b).len) (dy b).list (dy b).plain= []:=by unfold k8;rw[e2];rfl
  rw[e3,e];exact⟨B7 (by omega),fun h=>(by cases h)⟩
def atB:ao:=ao.cH [some u8] (bA) (ae) fun x_ y_=>(fun(b:List Int)=>.leaf (some (ax b)) (aCY (gL b)) []) x_.1
theorem WY(b:List Int):aN Tryz.prog atA aC1 f84 ((bA).wr (b,())) ((ae).wr ()) [.fr [.sym],.auto]=
 End.ite ((↑b.length:Int)!=(152:Int)) (End.leaf (LV.cG [VV.agg [SV.int u64 (SI.sym (0:Int)),SV.int u64 (SI.sym (0:Int)),
 SV.int i64 (SI.sym (0:Int)),SV.arr (Ty.int IntKind.u8) (64:Nat) (List.replicate (64:Nat) (0:Int)),SV.arr (Ty.int IntKind.u8) (64:
 Nat) (List.replicate (64:Nat) (0:Int))],VV.sc (SV.bool (SB.sym false))]) []) (End.need ((0:Int)≤(0:Int)∧(0:Int)≤(8:Int)∧(8:Int)
 ≤(↑b.length:Int)) (End.need ((List.take (8:Nat) (List.drop (0:Nat) b)).length≤(70368744177664:Nat)) (End.need ((0:Int)≤(8:Int)∧(8:
 Int)≤(16:Int)∧(16:Int)≤(↑b.length:Int)) (End.need ((List.take (8:Nat) (List.drop (8:Nat) b)).length≤(70368744177664:Nat)) (End.need
 ((0:Int)≤(16:Int)∧(16:Int)≤(24:Int)∧(24:Int)≤(↑b.length:Int)) (End.need ((List.take (8:Nat) (List.drop (16:Nat) b)).length≤
 (70368744177664:Nat)) (End.need (b.length=(152:Nat)∧(0:Int)=(0:Int)∧(64:Nat)=(64:Nat)∧(64:Nat)=(64:Nat)) (End.need ((0:
 Int)≤aZ (List.take (8:Nat) (List.drop (0:Nat) b))∧aZ (List.take (8:Nat) (List.drop (0:Nat) b))<(18446744073709551616:Int)∧(0:
 Int)≤aZ (List.take (8:Nat) (List.drop (8:Nat) b))∧aZ (List.take (8:Nat) (List.drop (8:Nat) b))<(18446744073709551616:Int)) (End.ite
 (!cV (k8 (aZ (List.take (8:Nat) (List.drop (0:Nat) b))) (aZ (List.take (8:Nat) (List.drop (8:Nat) b))) (i64.wrap (aZ
 (List.take (8:Nat) (List.drop (16:Nat) b)))) (List.take (64:Nat) (List.drop (24:Nat) b)) (List.take (64:Nat) (List.drop (88:Nat) b))) b)
 (End.leaf (LV.cG [VV.agg [SV.int u64 (SI.sym (0:Int)),SV.int u64 (SI.sym (0:Int)),SV.int i64 (SI.sym (0:Int)),SV.arr
 (Ty.int IntKind.u8) (64:Nat) (List.replicate (64:Nat) (0:Int)),SV.arr (Ty.int IntKind.u8) (64:Nat) (List.replicate (64:Nat) (0:Int))],
 VV.sc (SV.bool (SB.sym false))]) []) (End.leaf (LV.cG [VV.agg [SV.int u64 (SI.sym (aZ (List.take (8:Nat) (List.drop (0:Nat) b)))),
 SV.int u64 (SI.sym (aZ (List.take (8:Nat) (List.drop (8:Nat) b)))),SV.int i64 (SI.sym (i64.wrap (aZ (List.take (8:
 Nat) (List.drop (16:Nat) b))))),SV.arr (Ty.int IntKind.u8) (64:Nat) (List.take (64:Nat) (List.drop (24:Nat) b)),SV.arr (Ty.int IntKind.u8)
 (64:Nat) (List.take (64:Nat) (List.drop (88:Nat) b))],VV.sc (SV.bool (SB.sym true))]) [])))))))))):=by kernel_rfl
theorem aol:atB.Ok Tryz.prog 84:=by
 refine(ao.ba call84 fun x_ y_ Q H_=>?_).sym;obtain⟨b,_⟩:=x_;obtain⟨hn,hq⟩:=H_;have hn:ax b:=hn;refine(au mixed afv func84 rfl (LT:=aC1) (ks:= [.fr [.sym],.auto]) (aJ.bW (jc rfl (bQ (hp:= []) aoi) jh))).use (D:= []) ?_ hq;show(aN _ _ _ _ ((bA).wr (b,())) ((ae).wr ()) _).sat _;rw[WY];refine⟨fun h0=>?_,fun h0=>?_⟩
 ·have hl:¬b.length=152:=fun e=>by rw[e]at h0;simp at h0
  have eg:gL b=(mm0,false):=if_neg fun⟨h,_⟩=>hl h;rw[eg];exact⟨rfl,rfl⟩
 ·have hl:b.length=152:=by have:((b.length:Int)!=152)=false:=by simpa using h0
                           simp at this;omega
  have hr:∀k:Nat,0≤aZ ((b.drop k).take 8)∧aZ ((b.drop k).take 8)<18446744073709551616:=fun k=>by
   obtain⟨r1,r2,_⟩:=cP ((hn.drop k).take 8) (by rw[List.length_take];omega);exact⟨r1,Int.lt_of_lt_of_le r2 (WX (by rw[List.length_take];omega))⟩
  obtain⟨m1,m2⟩:=aok hn hl;have m1':cV (k8 (aZ (b.take 8)) (aZ ((b.drop 8).take 8)) (i64.wrap (aZ ((b.drop 16).take 8))) ((b.drop 24).take 64) ((b.drop 88).take 64)) b=eG (dy b).ver (dy b).lu (dy b).len:=m1;have h0':=hr 0;rw[List.drop_zero]at h0' ⊢;rw[m1'];refine⟨by omega,by simp;omega,by omega,by simp;omega,by omega,by simp;omega,⟨hl,rfl,rfl,rfl⟩,⟨h0'.1,h0'.2,(hr 8).1,(hr 8).2⟩,fun h2=>?_,fun h2=>?_⟩
  ·have eg:gL b=(mm0,false):=if_neg fun⟨_,hr⟩=>(by rw[hr]at h2;cases h2);rw[eg];exact⟨rfl,rfl⟩
  ·have h2':eG (dy b).ver (dy b).lu (dy b).len=true:=(by simpa using h2);have eg:gL b=(dy b,true):=if_pos ⟨hl,h2'⟩;have ew:i64.wrap (aZ ((b.drop 16).take 8))=aZ ((b.drop 16).take 8):=m2 h2';rw[eg,ew];exact⟨rfl,rfl⟩
def Jq:ao:=ao.cH [some u8] (bA) (ae) fun x_ y_=>(fun(b:List Int)=>.leaf (some (b.length<4294967296)) (dQ .u8 64 (fD b)) []) x_.1
theorem EM(b:List Int):aN Tryz.prog [(31,axs)] [] f83 ((bA).wr (b,())) ((ae).wr ()) [.fr [.sym],.auto]=
 End.ite (decide ((160:Int)<(↑b.length:Int))) (End.need ((0:Int)≤(0:Int)∧(0:Int)≤(160:Int)∧(160:Int)≤(↑b.length:Int))
 (End.need ((List.take (160:Nat) (List.drop (0:Nat) b)).length≤(17592186044416:Nat)) (End.leaf (LV.one (VV.agg [SV.arr (Ty.int IntKind.u8) (64:
 Nat) (ko (List.take (160:Nat) (List.drop (0:Nat) b)))])) []))) (End.need (b.length≤(17592186044416:Nat)) (End.leaf (LV.one (VV.agg [SV.arr
 (Ty.int IntKind.u8) (64:Nat) (ko b)])) [])):=by kernel_rfl
theorem Oi:Jq.Ok Tryz.prog 83:=by
 refine(ao.ba call83 fun x_ y_ Q H_=>?_).sym;obtain⟨b,_⟩:=x_;obtain⟨hn,hq⟩:=H_;have hn:b.length<4294967296:=hn;refine(au mixed ((aj afq aw)) func83 rfl (LT:= []) (ks:= [.fr [.sym],.auto]) (aJ.nil _)).use (D:= []) ?_ hq;show(aN _ _ _ _ ((bA).wr (b,())) ((ae).wr ()) _).sat _;rw[EM];rw[List.drop_zero];refine⟨fun h=>?_,fun h=>?_⟩
 ·have h:=of_decide_eq_true h;rw[← Og (by simp;omega)];exact⟨by omega,by simp;omega,rfl,rfl⟩
 ·have h:=of_decide_eq_false h;rw[← Og (by omega)];have e:fD b=la b:=by unfold fD;rw[List.take_of_length_le (by omega)]
  rw[e];exact⟨by omega,rfl,rfl⟩
abbrev S8:Type:=List Int
abbrev atC(x:S8):LV:=LV.one (VV.sc (SV.rd true false (Ty.int IntKind.u8) x))
abbrev atD(x:S8):List (Nat×Ev.Item):= []
def afw(x:Int):Tr (S8):=(.need (1≤70368744177664∧1≤70368744177664) (.need (2≤70368744177664∧2≤70368744177664)
 (.need (3≤70368744177664∧3≤70368744177664) (.need (4≤70368744177664∧4≤70368744177664) (.need (5≤70368744177664∧5≤70368744177664)
 (.need (6≤70368744177664∧6≤70368744177664) (.need (7≤70368744177664∧7≤70368744177664) (.need (8≤70368744177664∧8≤70368744177664)
 (.ret ([IntKind.u8.wrap (shr u64 x 0)]++ [IntKind.u8.wrap (shr u64 x 8)]++ [IntKind.u8.wrap (shr u64 x 16)]++
 [IntKind.u8.wrap (shr u64 x 24)]++ [IntKind.u8.wrap (shr u64 x 32)]++ [IntKind.u8.wrap (shr u64 x 40)]++ [IntKind.u8.wrap
 (shr u64 x 48)]++ [IntKind.u8.wrap (shr u64 x 56)]))))))))))
theorem WZ(x:Int):aN Tryz.prog [] [] f228 (((ag (ah (aC .u64)) ae)).wr (x,())) ((ae).wr (())) [.nt,.fr [.rd true u8],.fr [.sym],.syms,.auto,.aE]=(afw x).end atC atD ((ae).wr (())):=by kernel_rfl
theorem afx(x:Int):aJ Tryz.prog ((ae).wr (())) [] (aD f228):=(aJ.nil _)
abbrev fE(x:Int):Prop:=0≤x∧x<18446744073709551616
abbrev afy(x:Int):S8:=bT 8 x
def afz:ao:=cd [] ((ag (ah (aC .u64)) ae)) (ae) (fun x_ y_=>fE x_.1) (fun x_ y_=>afy x_.1) atC atD
theorem aom(x:Int)(h_:fE x):(afw x).Is (afy x):=by
 delta afy;obtain⟨h1,h2⟩:=h_
 have e:∀i:Nat,i<8→IntKind.u8.wrap (shr .u64 x (8*i:Nat))=x/256 ^ i%256:=by
  intro i hi;have e1:((2 ^ (8*i):Nat):Int)=256 ^ i:=by rw[Nat.pow_mul,Int.natCast_pow];rfl
  rw[ee .u64 x (8*i) (by simp[IntKind.bits];omega),wrap_u8,e1]
 simp only[afw,ai,ak];refine⟨by omega,by omega,by omega,by omega,by omega,by omega,by omega,by omega,?_⟩;rw[k7,← List.map_congr_left (fun i hi=>e i (by simpa using hi))];rfl
theorem S9:afz.Ok Tryz.prog 228:=
 br mixed aw func228 (by kernel_rfl) call228 (fun x_ y_=>afx x_.1) (fun x_ y_=>WZ x_.1) (fun x_ y_ h=>aom x_.1 h)
abbrev Jr:Type:=Int×(List Int)×Int×Int
abbrev Js:aY St Jr:=(bg (jk 3 (ag (ah (aC u64)) (jk 3 (ag (ah (fR false false (Ty.int IntKind.u8)))
 (ag (ah (aC i64)) (ag (ah (aC i64)) (jk 13 ae))))))) ae).kB (fun y=>(y.1.1,y.1.2.1,y.1.2.2.1,y.1.2.2.2.1)) (fun
 x=>((x.1,(x.2.1,(x.2.2.1,(x.2.2.2,())))),())) (fun _=>rfl)
abbrev afA:List Wk:= [.fr (cC 23 [(3,.al),(7,.al),(8,.al),(9,.al)]),.syms,.auto,.aE]
abbrev atE:Exit→List Wk:=w6 afA 0 [.fr (cC 23 [(3,.al)]),.syms,.auto,.aE] [.fr (cC 23 [(2,.al)]),.syms,.auto,.aE]
abbrev afB:Type:=Int
abbrev atF(x:afB):Exit×St:=(Exit.exit 0,⟨(ir 3 (LV.one (VV.sc (SV.int u64 (SI.sym x)))::(ir 19 []))),[]⟩)
def Ta(x:Int)(l:List Int)(n:Int)(i:Int):Tr (Jr⊕(afB)):=(.ite (decide (i<n)) (.need (0≤i∧i<(↑l.length:
 Int)) (.need (0≤i64.wrap (8*i)) (.ret (.inl (bq u64 x (shl u64 (u64.wrap (l.getD i.toNat 0)) (i64.wrap
 (8*i))),l,n,i64.wrap (i+1)))))) (.ret (.inr (x))))
theorem W0(b:List Int)(x:Int)(l:List Int)(n:Int)(i:Int):cY Tryz.prog [] [] f207 0 ((ae).wr (())) atE (Js.wr (x,l,n,i))=(Ta x l n i).res Js.wr atF:=by kernel_rfl
abbrev EN(x:Int)(l:List Int)(n:Int)(i:Int):Prop:=l.length=8∧ax l∧n=l.length∧0≤i∧i≤8∧x=aZ (l.take i.toNat)
abbrev afC(x:Int)(l:List Int)(n:Int)(i:Int):afB:=aZ l
abbrev afD:Jr→aW:=eS (fun x_=>EN x_.1 x_.2.1 x_.2.2.1 x_.2.2.2) (fun x_=>afC x_.1 x_.2.1 x_.2.2.1 x_.2.2.2) atF
theorem aon(x:Int)(l:List Int)(n:Int)(i:Int)(h_:EN x l n i):dV (fun x_:Jr=>Ta x_.1 x_.2.1 x_.2.2.1 x_.2.2.2) (x,l,n,i) (afC x l n i):=by
 delta afC;obtain⟨h1,h2,rfl,h4,h5,rfl⟩:=h_;obtain⟨k,rfl⟩:∃m:Nat,i=m:=⟨i.toNat,by omega⟩;obtain⟨j,hj⟩:∃j,8-k=j:=⟨_,rfl⟩;rw[Int.toNat_natCast]
 induction j generalizing k with
 |zero=>
  refine .stop ?_;have c:¬ (k:Int)<l.length:=by omega
  rw[List.take_of_length_le (by omega)];simp[Ta,c,aA,ak]
 |succ j ih=>
  have c:(k:Int)<l.length:=by omega
  refine .go ?_ (ih (k+1) (by omega) (by omega) (by omega));have e:=aty h2 h1 (show k<8 by omega);simp only[Ta,c,Int.toNat_natCast,e,ai,aH,aS,bb,aP,ay,aG,aT,aM,aQ,bl,bf,aK,aF,ak]
  try simp only[aA,ai,aH,aS,bb,aP,ay,aG,aT,aM,aQ,bl,bf,aK,aF,ak]
  rw[ar (n:=(k:Int)+1) (by omega) (by omega),ar (by omega) (by omega)];simp;omega
theorem afE(b:List Int):∀x:Jr,Ex Tryz.prog ((ae).wr (())) (.loop (a9 f207 0)) (Js.wr x) (afD x):=
 cQ mixed aw (ws:=atE) (aJ.nil _) (fun x_=>W0 b x_.1 x_.2.1 x_.2.2.1 x_.2.2.2) (fun z e=>by cases e) eY (fun x_ h=>aon x_.1 x_.2.1 x_.2.2.1 x_.2.2.2 h)
abbrev Tb:Type:=Int
abbrev atG(x:Tb):LV:=LV.one (VV.sc (SV.int u64 (SI.sym x)))
abbrev atH(x:Tb):List (Nat×Ev.Item):= []
def afF(b:List Int):Tr (Tb):=(.need ((0:Int)≤0∧(0:Int)≤8∧8≤(↑b.length:Int)) (.need (EN 0 (List.take 8
 (List.drop 0 b)) (↑(List.take 8 (List.drop 0 b)).length:Int) 0) (.ret (aZ (List.take 8 (List.drop 0 b))))))
theorem W1(b:List Int):aN Tryz.prog [] [(0,cg Js ((ae).wr (())) afA (afD))] f207 ((bA).wr (b,())) ((ae).wr (())) [.fr [.sym],.syms,.auto,.aE]=(afF b).end atG atH ((ae).wr (())):=by kernel_rfl
theorem afG(b:List Int):aJ Tryz.prog ((ae).wr (())) [(0,cg Js ((ae).wr (())) afA (afD))] (aD f207):=(aJ.bW (jc (by kernel_rfl) (ck (hp:=(ae).wr (())) (afE b)) jh))
abbrev tz(b:List Int):Prop:=8≤b.length∧ax b
abbrev afH(b:List Int):Tb:=aZ (b.take 8)
def afI:ao:=cd [some u8] (bA) (ae) (fun x_ y_=>tz x_.1) (fun x_ y_=>afH x_.1) atG atH
theorem aoo(b:List Int)(h_:tz b):(afF b).Is (afH b):=by
 delta afH;obtain⟨h1,h2⟩:=h_;simp only[afF,ai,ak,List.drop_zero];simp;have hl:(b.take 8).length=8:=by rw[List.length_take];omega
 exact⟨by omega,hl,h2.take 8,by rw[List.length_take],by omega,by omega,rfl⟩
theorem Tc:afI.Ok Tryz.prog 207:=
 br mixed aw func207 (by kernel_rfl) call207 (fun x_ y_=>afG x_.1) (fun x_ y_=>W1 x_.1) (fun x_ y_ h=>aoo x_.1 h)
abbrev Td:Type:=Int
abbrev atI(x:Td):LV:=LV.one (VV.sc (SV.int i64 (SI.sym x)))
abbrev atJ(x:Td):List (Nat×Ev.Item):= []
def afJ(b:List Int):Tr (Td):=(.need (tz b) (.ite (decide (aZ (List.take 8 b)≤2147483647)) (.ret (i64.wrap
 (aZ (List.take 8 b)))) (.ret ((-1)))))
theorem W2(b:List Int):aN Tryz.prog [(207,afI)] [] f208 ((bA).wr (b,())) ((ae).wr (())) [.fr [.sym],.syms,.auto,.aE]=(afJ b).end atI atJ ((ae).wr (())):=by kernel_rfl
theorem afK(b:List Int):aJ Tryz.prog ((ae).wr (())) [] (aD f208):=(aJ.nil _)
abbrev Te:Type:=Bool
abbrev atK(x:Te):LV:=LV.one (VV.sc (SV.bool (SB.sym x)))
abbrev atL(x:Te):List (Nat×Ev.Item):= []
def afL(n:Int):Tr (Te):=(.ite (decide (0≤n)==true) (.ret (decide (n≤2147483647))) (.ret (false)))
theorem W3(n:Int):aN Tryz.prog [] [] f227 ((G6).wr (n,())) ((ae).wr (())) [.fr [.sym],.syms,.auto,.aE]=(afL n).end atK atL ((ae).wr (())):=by kernel_rfl
theorem afM(n:Int):aJ Tryz.prog ((ae).wr (())) [] (aD f227):=(aJ.nil _)
abbrev tA(n:Int):Prop:=True
abbrev afN(n:Int):Te:=decide (0≤n∧n≤2147483647)
def afO:ao:=cd [] (G6) (ae) (fun x_ y_=>tA x_.1) (fun x_ y_=>afN x_.1) atK atL
theorem aop(n:Int)(h_:tA n):(afL n).Is (afN n):=by
 delta afN;simp only[afL,ai,aH,aS,bb,aP,ay,aG,aT,aM,aQ,bl,bf,aK,aF,ak]
 try simp only[aA,ai,aH,aS,bb,aP,ay,aG,aT,aM,aQ,bl,bf,aK,aF,ak]
 grind [ar]
theorem Tf:afO.Ok Tryz.prog 227:=
 br mixed aw func227 (by kernel_rfl) call227 (fun x_ y_=>afM x_.1) (fun x_ y_=>W3 x_.1) (fun x_ y_ h=>aop x_.1 h)
def nE(b:List Int):Int:=if aZ (b.take 8)≤2147483647 then aZ (b.take 8)else-1
abbrev tB(b:List Int):Prop:=8≤b.length∧ax b
abbrev afP(b:List Int):Td:=nE b
def afQ:ao:=cd [some u8] (bA) (ae) (fun x_ y_=>tB x_.1) (fun x_ y_=>afP x_.1) atI atJ
theorem aoq(b:List Int)(h_:tB b):(afJ b).Is (afP b):=by
 delta afP;have h:8≤b.length∧ax b:=h_;have hr:=(cP (h.2.take 8) (by rw[List.length_take];omega)).1;simp only[afJ,nE,ai,aH,aS,bb,aP,ay,aG,aT,aM,aQ,bl,bf,aK,aF,ak]
 try simp only[aA,ai,aH,aS,bb,aP,ay,aG,aT,aM,aQ,bl,bf,aK,aF,ak]
 grind [ar]
theorem Tg:afQ.Ok Tryz.prog 208:=
 br mixed ((aj Tc aw)) func208 (by kernel_rfl) call208 (fun x_ y_=>afK x_.1) (fun x_ y_=>W2 x_.1) (fun x_ y_ h=>aoq x_.1 h)
abbrev Cm:Type:=Int×Int×Int×Int×List Int
abbrev cCm{Y:Type}(r:aY (List SV) Y):aY (List SV) (Int×Int×Int×Int×List Int×Y):=ag (aC .i64) (ag (aC .u64) (ag (aC .u64) (ag (aC .i64) (ag (tc u8 64) r))))
abbrev cmA:aY (List LV) (Cm×Unit):=ag (iD ((cCm ae).kB (fun x=>(x.1,x.2.1,x.2.2.1,x.2.2.2.1,x.2.2.2.2.1)) (fun y=>(y.1,y.2.1,y.2.2.1,y.2.2.2.1,y.2.2.2.2,())) (fun _=>rfl))) ae
def qf(c:Int×Int×Int×Int×List Int):List Int:= [bT 8 (u64.wrap c.fst),bT 8 c.snd.fst,bT 8
 c.snd.snd.fst,bT 8 (u64.wrap c.snd.snd.snd.fst),List.take 64 (List.drop 0 c.snd.snd.snd.snd)].flatten
abbrev EO:Type:=List Int
abbrev afR(x:EO):LV:=LV.one (VV.sc (SV.rd true false (Ty.int IntKind.u8) x))
abbrev afS(x:EO):List (Nat×Ev.Item):= []
def Oj(c:Int×Int×Int×Int×List Int):Tr (EO):=(.ite (decide (c.fst<0)==false) (.ite (decide (1<c.fst)==
 false) (.need (tA c.snd.snd.snd.fst) (.ite (!decide (0≤c.snd.snd.snd.fst∧c.snd.snd.snd.fst≤2147483647)) (.ret ([])) (.need (fE
 (u64.wrap c.fst)) (.need (fE c.snd.fst) (.need (fE c.snd.snd.fst) (.need (fE (u64.wrap c.snd.snd.snd.fst)) (.need ((0:
 Int)≤0∧(0:Int)≤64∧(64:Int)≤64) (.need ((qf c).length≤70368744177664∧5≤140737488355328) (.ret (qf c)))))))))) (.ret ([])))
 (.ret ([])))
theorem Ol(c:Cm):aN Tryz.prog [(227,afO),(228,afz),(48,Iv)] [] f209 ((cmA).wr (c,())) ((ae).wr (())) [.nt,.fr [.rd true u8],.fr [.sym],.syms,.auto,.aE]=(Oj c).end afR afS ((ae).wr (())):=by kernel_rfl
theorem W4(c:Cm):aJ Tryz.prog ((ae).wr (())) [] (aD f209):=(aJ.nil _)
abbrev Bm(c:Cm):Prop:=0≤c.1∧c.1≤1∧0≤c.2.2.2.1∧c.2.2.2.1≤2147483647
def vN(c:Cm):List Int:=if Bm c then bT 8 c.1++(bT 8 c.2.1++(bT 8 c.2.2.1++(bT 8 c.2.2.2.1++c.2.2.2.2.take 64)))else []
abbrev xn(x:Int):Prop:=0≤x∧x<18446744073709551616
abbrev tC(c:Cm):Prop:=xn c.2.1∧xn c.2.2.1
abbrev Om(c:Cm):EO:=vN c
def afT:ao:=cd [] (cmA) (ae) (fun x_ y_=>tC x_.1) (fun x_ y_=>Om x_.1) afR afS
theorem afU(c:Cm)(h_:tC c):(Oj c).Is (Om c):=by
 delta Om;obtain⟨h1,h2⟩:=h_;have e1:Bm c→u64.wrap c.1=c.1:=fun h=>by rw[wrap_u64 (by omega) (by omega)]
 have e2:Bm c→u64.wrap c.2.2.2.1=c.2.2.2.1:=fun h=>by rw[wrap_u64 (by omega) (by omega)]
 have hl:(qf c).length≤96:=by
  unfold qf;simp only[List.flatten_cons,List.flatten_nil,List.append_nil,List.length_append,List.length_take,dk];omega
 have ea:Bm c→qf c=bT 8 c.1++(bT 8 c.2.1++(bT 8 c.2.2.1++(bT 8 c.2.2.2.1++c.2.2.2.2.take 64))):=fun h=>by
  unfold qf;rw[e1 h,e2 h];simp
 simp only[Oj,vN,ai,aH,bb,ak];grind
theorem afV:afT.Ok Tryz.prog 209:=
 br mixed ((aj Tf (aj S9 (aj rN aw)))) func209 (by kernel_rfl) call209 (fun x_ y_=>W4 x_.1) (fun x_ y_=>Ol x_.1) (fun x_ y_ h=>afU x_.1 h)
def vO(b:List Int):Cm:=(b.getD 0 0,aZ ((b.drop 8).take 8),aZ ((b.drop 16).take 8),nE (b.drop 24),(b.drop 32).take 64)
def xp:Cm:=(0,0,0,0,List.replicate 64 0)
def iq(b:List Int):Cm×Bool:=if b.length=96∧cV (vN (vO b)) b=true then(vO b,true)else(xp,false)
def x9(b:List Int):Int×Int×Int×Int×List Int:=(i64.wrap (b.getD 0 0),aZ (List.take 8 (List.take ((↑b.length
 :Int)-8).toNat (List.drop 8 b))),aZ (List.take 8 (List.take ((↑b.length:Int)-16).toNat (List.drop 16 b))),nE (List.take ((↑b.length:Int)
 -24).toNat (List.drop 24 b)),List.take 64 (List.drop 0 (List.take ((↑b.length:Int)-32).toNat (List.drop 32 b))))
abbrev EP:Type:=Int×Int×Int×Int×(List Int)×Bool
abbrev afW(x:EP):LV:=LV.cG [VV.agg [SV.int i64 (SI.sym x.1),SV.int u64 (SI.sym x.2.1),SV.int u64
 (SI.sym x.2.2.1),SV.int i64 (SI.sym x.2.2.2.1),SV.arr (Ty.int IntKind.u8) 64 x.2.2.2.2.1],VV.sc (SV.bool (SB.sym x.2.2.2.2.2))]
abbrev afX(x:EP):List (Nat×Ev.Item):= []
def On(b:List Int):Tr (EP):=(.ite ((↑b.length:Int)!=96) (.ret (0,0,0,0,List.replicate 64 (0:Int),false)) (.need
 ((0:Int)≤0∧0<(↑b.length:Int)) (.need ((0:Int)≤8∧8≤(↑b.length:Int)∧(↑b.length:Int)≤(↑b.length:Int)) (.need (tz
 (List.take ((↑b.length:Int)-8).toNat (List.drop 8 b))) (.need ((0:Int)≤16∧16≤(↑b.length:Int)∧(↑b.length:Int)≤(↑b.length:Int))
 (.need (tz (List.take ((↑b.length:Int)-16).toNat (List.drop 16 b))) (.need ((0:Int)≤24∧24≤(↑b.length:Int)∧(↑b.length:Int)≤
 (↑b.length:Int)) (.need (tB (List.take ((↑b.length:Int)-24).toNat (List.drop 24 b))) (.need ((0:Int)≤32∧32≤(↑b.length:Int)∧
 (↑b.length:Int)≤(↑b.length:Int)) (.need (64≤(List.take ((↑b.length:Int)-32).toNat (List.drop 32 b)).length) (.need (64≤(List.take
 ((↑b.length:Int)-32).toNat (List.drop 32 b)).length) (.need (tC (x9 b)) (.ite (!cV (vN (x9 b)) b) (.ret (0,0,0,0,
 List.replicate 64 (0:Int),false)) (.ret (i64.wrap (b.getD 0 0),aZ (List.take 8 (List.take ((↑b.length:Int)-8).toNat (List.drop 8
 b))),aZ (List.take 8 (List.take ((↑b.length:Int)-16).toNat (List.drop 16 b))),nE (List.take ((↑b.length:Int)-24).toNat (List.drop 24 b)),
 List.take 64 (List.drop 0 (List.take ((↑b.length:Int)-32).toNat (List.drop 32 b))),true)))))))))))))))
theorem Oo(b:List Int):aN Tryz.prog [(207,afI),(208,afQ),(95,zM),(209,afT)] [] f176 ((bA).wr (b,())) ((ae).wr (())) [.fr [.sym],.syms,.auto,.aE]=(On b).end afW afX ((ae).wr (())):=by kernel_rfl
theorem W5(b:List Int):aJ Tryz.prog ((ae).wr (())) [] (aD f176):=(aJ.nil _)
theorem jB{α:Type}(b:List α){n:Nat}{k:Int}(h:k.toNat=n):List.take ((b.length:Int)-k).toNat (b.drop n)=b.drop n:=List.take_of_length_le (by rw[List.length_drop];omega)
abbrev cmT(x:Cm×Bool):Int×Int×Int×Int×List Int×Bool:=(x.1.1,x.1.2.1,x.1.2.2.1,x.1.2.2.2.1,x.1.2.2.2.2,x.2)
theorem kD(b:List Int):xn (aZ b):=by
 cases b with
 |nil=>exact⟨by decide,by decide⟩
 |cons x l=>rw[aZ,jy];exact⟨by omega,by omega⟩
abbrev tD(b:List Int):Prop:=ax b∧b.length<1099511627776
abbrev Oq(b:List Int):EP:=cmT (iq b)
def afY:ao:=cd [some u8] (bA) (ae) (fun x_ y_=>tD x_.1) (fun x_ y_=>Oq x_.1) afW afX
theorem afZ(b:List Int)(h_:tD b):(On b).Is (Oq b):=by
 delta Oq;obtain⟨h1,h2⟩:=h_;have b0:=h1.getD 0;have w0:i64.wrap (b.getD 0 0)=b.getD 0 0:=by unfold By at b0;rw[ar (by omega) (by omega)]
 have hd:∀n,(b.drop n).length=b.length-n:=fun n=>List.length_drop;have ha:∀n,ax (b.drop n):=fun n=>h1.drop n;have e0:x9 b=vO b:=by unfold x9 vO;simp only[w0,jB,List.drop_zero,Int.reduceToNat]
 have hp:tC (vO b):=⟨kD _,kD _⟩;simp only[On,e0,w0,jB,Int.reduceToNat,ai,aG,aF,ak,List.drop_zero];unfold iq cmT;have ec:vO b=(b.getD 0 0,aZ ((b.drop 8).take 8),aZ ((b.drop 16).take 8),nE (b.drop 24),(b.drop 32).take 64):=rfl;have h8:=hd 8;have G5:=hd 16;have h24:=hd 24;have h32:=hd 32;have a8:=ha 8;have a16:=ha 16;have a24:=ha 24;clear hd ha
 by_cases c:b.length=96
 ·cases c2:cV (vN (vO b)) b<;>grind [xp]
 ·have c':¬ (b.length:Int)=96:=by omega
  simp[c,c',xp]
theorem af0:afY.Ok Tryz.prog 176:=
 br mixed ((aj Tc (aj Tg (aj tm (aj afV aw))))) func176 (by kernel_rfl) call176 (fun x_ y_=>W5 x_.1) (fun x_ y_=>Oo x_.1) (fun x_ y_ h=>afZ x_.1 h)
def gH(x:Int)(b:List Int):Int:=b.foldl (fun x c=>bq .u64 (shl .u64 x 8) (u64.wrap c)) x
abbrev Jt:Type:=Int×(List Int)×Int×Int
abbrev Ju:aY St Jt:=(bg (jk 3 (ag (ah (aC u64)) (jk 3 (ag (ah (fR false false (Ty.int IntKind.u8)))
 (ag (ah (aC i64)) (ag (ah (aC i64)) (jk 10 ae))))))) ae).kB (fun y=>(y.1.1,y.1.2.1,y.1.2.2.1,y.1.2.2.2.1)) (fun
 x=>((x.1,(x.2.1,(x.2.2.1,(x.2.2.2,())))),())) (fun _=>rfl)
abbrev af1:List Wk:= [.fr (cC 20 [(3,.al),(7,.al),(8,.al),(9,.al)]),.syms,.auto,.aE]
abbrev atM:Exit→List Wk:=w6 af1 0 [.fr (cC 20 [(3,.al)]),.syms,.auto,.aE] [.fr (cC 20 [(2,.al)]),.syms,.auto,.aE]
abbrev af2:Type:=Int
abbrev atN(x:af2):Exit×St:=(Exit.exit 0,⟨(ir 3 (LV.one (VV.sc (SV.int u64 (SI.sym x)))::(ir 16 []))),[]⟩)
def Th(x:Int)(l:List Int)(n:Int)(i:Int):Tr (Jt⊕(af2)):=(.ite (decide (i<n)) (.need (0≤i∧i<(↑l.length:
 Int)) (.ret (.inl (bq u64 (shl u64 x 8) (u64.wrap (l.getD i.toNat 0)),l,n,i64.wrap (i+1))))) (.ret (.inr (x))))
theorem W6(b:List Int)(x:Int)(l:List Int)(n:Int)(i:Int):cY Tryz.prog [] [] f235 0 ((ae).wr (())) atM (Ju.wr (x,l,n,i))=(Th x l n i).res Ju.wr atN:=by kernel_rfl
abbrev ER(x:Int)(l:List Int)(n:Int)(i:Int):Prop:=0≤i∧i≤n∧n=l.length∧n<1099511627776
abbrev af3(x:Int)(l:List Int)(n:Int)(i:Int):af2:=gH x (l.drop i.toNat)
abbrev af4:Jt→aW:=eS (fun x_=>ER x_.1 x_.2.1 x_.2.2.1 x_.2.2.2) (fun x_=>af3 x_.1 x_.2.1 x_.2.2.1 x_.2.2.2) atN
theorem aor(x:Int)(l:List Int)(n:Int)(i:Int)(h_:ER x l n i):dV (fun x_:Jt=>Th x_.1 x_.2.1 x_.2.2.1 x_.2.2.2) (x,l,n,i) (af3 x l n i):=by
 delta af3;obtain⟨h1,h2,rfl,h4⟩:=h_;obtain⟨k,rfl⟩:∃m:Nat,i=m:=⟨i.toNat,by omega⟩;obtain⟨j,hj⟩:∃j,l.length-k=j:=⟨_,rfl⟩;rw[Int.toNat_natCast]
 induction j generalizing k x with
 |zero=>
  refine .stop ?_;have c:¬ (k:Int)<l.length:=by omega
  rw[List.drop_of_length_le (by omega)];simp[Th,c,aA,ak,gH]
 |succ j ih=>
  have c:(k:Int)<l.length:=by omega
  have w:=ih (bq .u64 (shl .u64 x 8) (u64.wrap (l.getD k 0))) (k+1) (by omega) (by omega) (by omega);rw[bY 0 (by omega),gH,List.foldl_cons];refine .go ?_ w;simp only[Th,c,Int.toNat_natCast,ai,aH,aS,bb,aP,ay,aG,aT,aM,aQ,bl,bf,aK,aF,ak]
  try simp only[aA,ai,aH,aS,bb,aP,ay,aG,aT,aM,aQ,bl,bf,aK,aF,ak]
  rw[ar (by omega) (by omega)];simp
theorem af5(b:List Int):∀x:Jt,Ex Tryz.prog ((ae).wr (())) (.loop (a9 f235 0)) (Ju.wr x) (af4 x):=
 cQ mixed aw (ws:=atM) (aJ.nil _) (fun x_=>W6 b x_.1 x_.2.1 x_.2.2.1 x_.2.2.2) (fun z e=>by cases e) eY (fun x_ h=>aor x_.1 x_.2.1 x_.2.2.1 x_.2.2.2 h)
abbrev Ti:Type:=Int
abbrev atO(x:Ti):LV:=LV.one (VV.sc (SV.int u64 (SI.sym x)))
abbrev atP(x:Ti):List (Nat×Ev.Item):= []
def af6(b:List Int):Tr (Ti):=(.need ((0:Int)≤0∧(0:Int)≤8∧8≤(↑b.length:Int)) (.need (ER 0 (List.take 8
 (List.drop 0 b)) (↑(List.take 8 (List.drop 0 b)).length:Int) 0) (.ret (gH 0 (List.drop 0 (List.take 8 (List.drop 0 b)))))))
theorem W7(b:List Int):aN Tryz.prog [] [(0,cg Ju ((ae).wr (())) af1 (af4))] f235 ((bA).wr (b,())) ((ae).wr (())) [.fr [.sym],.syms,.auto,.aE]=(af6 b).end atO atP ((ae).wr (())):=by kernel_rfl
theorem af7(b:List Int):aJ Tryz.prog ((ae).wr (())) [(0,cg Ju ((ae).wr (())) af1 (af4))] (aD f235):=(aJ.bW (jc (by kernel_rfl) (ck (hp:=(ae).wr (())) (af5 b)) jh))
abbrev fF(b:List Int):Prop:=8≤b.length
abbrev af8(b:List Int):Ti:=gH 0 (b.take 8)
def af9:ao:=cd [some u8] (bA) (ae) (fun x_ y_=>fF x_.1) (fun x_ y_=>af8 x_.1) atO atP
theorem aos(b:List Int)(h_:fF b):(af6 b).Is (af8 b):=by
 delta af8;have h:8≤b.length:=h_;have hl:(b.take 8).length=8:=by rw[List.length_take];omega
 simp only[af6,ai,ak,List.drop_zero];exact⟨by omega,⟨by omega,by omega,rfl,by omega⟩,trivial⟩
theorem Tj:af9.Ok Tryz.prog 235:=
 br mixed aw func235 (by kernel_rfl) call235 (fun x_ y_=>af7 x_.1) (fun x_ y_=>W7 x_.1) (fun x_ y_ h=>aos x_.1 h)
abbrev jHq:aY Ev.Item HH:=oT 76 cHH
abbrev Jv:Type:=(List Int)×(List Int)×Int×Int×HH
abbrev Jw:aY St Jv:=(bg (ag (ah (fR false false (Ty.int IntKind.u8))) (jk 3 (aq (ah (aU (0) (0))) (jk 25 (ag
 (ah (fR false false (Ty.int IntKind.u8))) (ag (ah (aC i64)) (ag (ah (aC i64)) (jk 28 ae)))))))) (ag (eV jHq)
 ae)).kB (fun y=>(y.1.1,y.1.2.1,y.1.2.2.1,y.1.2.2.2.1,y.2.1)) (fun x=>((x.1,(x.2.1,(x.2.2.1,(x.2.2.2.1,())))),(x.2.2.2.2,()))) (fun _
 =>rfl)
abbrev aga:List Wk:= [.db 0 1 8 .u64,.fr (cC 61 [(0,.al),(4,.al),(30,.al),(31,.al),(32,.al)]),.syms,.auto,.aE]
abbrev atQ:Exit→List Wk:=w6 aga 0 [.db 0 1 8 .u64,.fr (cC 61 [(0,.al),(4,.al)]),.syms,.auto,.aE] [.db 0 1 8 .u64,.fr (cC
 61 [(2,.al),(3,.al)]),.syms,.auto,.aE]
abbrev Ot:Type:=Bool
abbrev agb(x:Ot):Exit×St:=(Exit.ret,⟨(ir 2 (LV.one (VV.sc (SV.fO (Value.pointer none)))::(LV.one (VV.sc (SV.bool
 (SB.sym x)))::(ir 57 [])))),[]⟩)
abbrev Ou:Type:=(List Int)×HH
abbrev agc(x:Ou):Exit×St:=(Exit.exit 0,⟨(LV.one (VV.sc (SV.rd false false (Ty.int IntKind.u8) x.1))::(ir 3 (LV.one
 (VV.sc (SV.ptr 0 0))::(ir 56 [])))),[some (jHq.wr x.2)]⟩)
def Jx(b:List Int)(l:List Int)(n:Int)(i:Int)(h:HH):Tr (Jv⊕(Ot⊕Ou)):=(.ite (decide (i<n)) (.need (0
 ≤i∧i<(↑l.length:Int)) (.ite (l.getD i.toNat (0:Int)!=0) (.ret (.inr (.inl (false)))) (.ret (.inl (b,l,n,i64.wrap (i+1),h)))))
 (.ret (.inr (.inr (b,h)))))
theorem W8(b':List Int)(b:List Int)(l:List Int)(n:Int)(i:Int)(h:HH):cY Tryz.prog [(235,af9)] [] f229 0 ((ae).wr (())) atQ (Jw.wr (b,l,n,i,h))=(Jx b l n i h).res Jw.wr (Sum.elim agb agc):=by kernel_rfl
abbrev tE(b:List Int)(l:List Int)(n:Int)(i:Int)(h:HH):Prop:=0≤i∧i≤n∧n=l.length∧n<1099511627776
abbrev agd(b:List Int)(l:List Int)(n:Int)(i:Int)(h:HH):Bool:= !(l.drop i.toNat).all (· ==0)
abbrev age(b:List Int)(l:List Int)(n:Int)(i:Int)(h:HH):Ot:=false
abbrev agf(b:List Int)(l:List Int)(n:Int)(i:Int)(h:HH):Ou:=(b,h)
abbrev agh:Jv→aW:=rL (fun x_=>tE x_.1 x_.2.1 x_.2.2.1 x_.2.2.2.1 x_.2.2.2.2) (fun x_=>agd x_.1 x_.2.1 x_.2.2.1 x_.2.2.2.1 x_.2.2.2.2) (fun x_=>age x_.1 x_.2.1 x_.2.2.1 x_.2.2.2.1 x_.2.2.2.2) (fun x_=>agf x_.1 x_.2.1 x_.2.2.1 x_.2.2.2.1 x_.2.2.2.2) agb agc
theorem aot(b:List Int)(l:List Int)(n:Int)(i:Int)(h:HH)(h_:tE b l n i h):dV (fun x_:Jv=>Jx x_.1 x_.2.1 x_.2.2.1 x_.2.2.2.1 x_.2.2.2.2) (b,l,n,i,h) (bif agd b l n i h then .inl (age b l n i h)else .inr (agf b l n i h)):=by
 delta agd age agf;obtain⟨h1,h2,rfl,h4⟩:=h_;obtain⟨k,rfl⟩:∃m:Nat,i=m:=⟨i.toNat,by omega⟩;obtain⟨j,hj⟩:∃j,l.length-k=j:=⟨_,rfl⟩;rw[Int.toNat_natCast]
 induction j generalizing k with
 |zero=>
  refine .stop ?_;have c:¬ (k:Int)<l.length:=by omega
  rw[List.drop_of_length_le (by omega)];simp[Jx,c,aA,ak]
 |succ j ih=>
  have c:(k:Int)<l.length:=by omega
  rw[bY 0 (by omega)]
  by_cases c2:l.getD k 0=0
  ·have w:=ih (k+1) (by omega) (by omega) (by omega);have e1:((l.getD k 0::l.drop (k+1)).all (· ==0))=(l.drop (k+1)).all (· ==0):=(by rw[List.all_cons,c2];rfl);rw[e1];refine .go ?_ w;simp only[Jx,c,Int.toNat_natCast,c2,ai,aH,aS,bb,aP,ay,aG,aT,aM,aQ,bl,bf,aK,aF,ak]
   try simp only[aA,ai,aH,aS,bb,aP,ay,aG,aT,aM,aQ,bl,bf,aK,aF,ak]
   grind [ar]
  ·refine .stop ?_;have e1:((l.getD k 0::l.drop (k+1)).all (· ==0))=false:=(by rw[List.all_cons,beq_eq_false_iff_ne.2 c2];rfl);rw[e1];simp only[Jx,c,Int.toNat_natCast,c2,ai,aH,aS,bb,aP,ay,aG,aT,aM,aQ,bl,bf,aK,aF,ak]
   try simp only[aA,ai,aH,aS,bb,aP,ay,aG,aT,aM,aQ,bl,bf,aK,aF,ak]
   grind
theorem agi(b':List Int):∀x:Jv,Ex Tryz.prog ((ae).wr (())) (.loop (a9 f229 0)) (Jw.wr x) (agh x):=
 cQ mixed ((aj Tj aw)) (ws:=atQ) (aJ.nil _) (fun x_=>W8 b' x_.1 x_.2.1 x_.2.2.1 x_.2.2.2.1 x_.2.2.2.2) (fun z=>by cases z<;>(intro e;cases e)) vF (fun x_ h=>aot x_.1 x_.2.1 x_.2.2.1 x_.2.2.2.1 x_.2.2.2.2 h)
def Jy:List Int:= [0,0,0,0,0,0,0,0]
def rh(b:List Int):Int:=i64.wrap (72+(i64.wrap (gH 0 (List.take 8 (List.take ((↑b.length:Int)-64).toNat
 (List.drop 64 b))))).tmod 128)
abbrev Tk:Type:=Bool
abbrev atS(x:Tk):LV:=LV.cG [VV.sc (SV.fO (Value.pointer none)),VV.sc (SV.bool (SB.sym x))]
abbrev atT(x:Tk):List (Nat×Ev.Item):= []
abbrev Tl:Type:=Bool×HH
abbrev atU(x:Tl):LV:=LV.cG [VV.sc (SV.ptr 0 0),VV.sc (SV.bool (SB.sym x.1))]
abbrev atV(x:Tl):List (Nat×Ev.Item):= [(0,jHq.wr x.2)]
def aou(b:List Int):Tr (Tk⊕Tl):=(.ite (((↑b.length:Int)!=200)==false) (.need ((0:Int)≤64∧64≤(↑b.length:
 Int)∧(↑b.length:Int)≤(↑b.length:Int)) (.need (fF (List.take ((↑b.length:Int)-64).toNat (List.drop 64 b))) (.ite (decide
 (1152921504606846976<gH 0 (List.take 8 (List.take ((↑b.length:Int)-64).toNat (List.drop 64 b))))) (.ret (.inl (false))) (.need ((0:Int)≤64
 ∧64≤(↑b.length:Int)∧(↑b.length:Int)≤(↑b.length:Int)) (.need (fF (List.take ((↑b.length:Int)-64).toNat (List.drop 64 b))) (.need
 (0≤rh b∧rh b≤(↑b.length:Int)∧(↑b.length:Int)≤(↑b.length:Int)) (.need (tE b (List.take ((↑b.length:Int)-rh b).toNat
 (List.drop (rh b).toNat b)) (↑(List.take ((↑b.length:Int)-rh b).toNat (List.drop (rh b).toNat b)).length:Int) 0 {begun:=true,s:=Jy,n:=i64.wrap (gH 0 (List.take 8 (List.take ((↑b.length:Int)-64).toNat (List.drop 64 b)))),wait:=List.replicate 128 (0:Int)})
 (.ite (!(List.drop 0 (List.take ((↑b.length:Int)-rh b).toNat (List.drop (rh b).toNat b))).all fun x=>x==0) (.ret (.inl (false))) (.need
 ((0:Int)≤0∧0≤(↑b.length:Int)∧(↑b.length:Int)≤(↑b.length:Int)) (.need (fF (List.take ((↑b.length:Int)-0).toNat (List.drop 0
 b))) (.need ((0:Int)≤8∧8≤(↑b.length:Int)∧(↑b.length:Int)≤(↑b.length:Int)) (.need (fF (List.take ((↑b.length:Int)-8).toNat
 (List.drop 8 b))) (.need ((0:Int)≤16∧16≤(↑b.length:Int)∧(↑b.length:Int)≤(↑b.length:Int)) (.need (fF (List.take ((↑b.length:
 Int)-16).toNat (List.drop 16 b))) (.need ((0:Int)≤24∧24≤(↑b.length:Int)∧(↑b.length:Int)≤(↑b.length:Int)) (.need (fF (List.take
 ((↑b.length:Int)-24).toNat (List.drop 24 b))) (.need ((0:Int)≤32∧32≤(↑b.length:Int)∧(↑b.length:Int)≤(↑b.length:Int)) (.need
 (fF (List.take ((↑b.length:Int)-32).toNat (List.drop 32 b))) (.need ((0:Int)≤40∧40≤(↑b.length:Int)∧(↑b.length:Int)≤(↑b.length
 :Int)) (.need (fF (List.take ((↑b.length:Int)-40).toNat (List.drop 40 b))) (.need ((0:Int)≤48∧48≤(↑b.length:Int)∧(↑b.length:
 Int)≤(↑b.length:Int)) (.need (fF (List.take ((↑b.length:Int)-48).toNat (List.drop 48 b))) (.need ((0:Int)≤56∧56≤(↑b.length:Int)
 ∧(↑b.length:Int)≤(↑b.length:Int)) (.need (fF (List.take ((↑b.length:Int)-56).toNat (List.drop 56 b))) (.need ((0:Int)≤0∧(0:Int)
 ≤128∧(128:Int)≤128) (.need ((0:Int)≤72∧72≤(↑b.length:Int)∧(↑b.length:Int)≤(↑b.length:Int)) (.ret (.inr (true,{begun:=true,s:=(((((((Jy.set 0 (gH 0 (List.take 8 (List.take ((↑b.length:Int)-0).toNat (List.drop 0 b))))).set 1 (gH 0 (List.take 8 (List.take ((↑b.length:Int)-8).toNat (List.drop 8 b))))).set 2 (gH 0 (List.take 8 (List.take ((↑b.length:Int)-16).toNat (List.drop 16 b))))).set 3 (gH 0 (List.take 8 (List.take ((↑b.length:Int)-24).toNat (List.drop 24 b))))).set 4 (gH 0 (List.take 8 (List.take ((↑b.length:Int)-32).toNat (List.drop 32 b))))).set 5 (gH 0 (List.take 8 (List.take ((↑b.length:Int)-40).toNat (List.drop 40 b))))).set 6 (gH 0 (List.take 8 (List.take ((↑b.length:Int)-48).toNat (List.drop 48 b))))).set 7 (gH 0 (List.take 8 (List.take ((↑b.length:Int)-56).toNat (List.drop 56 b)))),n:=i64.wrap (gH 0 (List.take 8 (List.take ((↑b.length:Int)-64).toNat (List.drop 64 b)))),wait:=gq (List.replicate 128 (0:Int)) 0 128 (List.take ((↑b.length:Int)-72).toNat (List.drop 72 b))})))))))))))))))))))))))))))))
 (.ret (.inl (false))))
theorem agj(b:List Int):aN Tryz.prog [(235,af9)] [(0,cg Jw ((ae).wr (())) aga (agh))] f229 ((bA).wr (b,())) ((ae).wr (())) [.db 0 1 8 .u64,.fr [.sym],.syms,.auto,.aE]=(aou b).end (Sum.elim atS atU) (Sum.elim atT atV) ((ae).wr (())):=by kernel_rfl
theorem aov(b:List Int):aJ Tryz.prog ((ae).wr (())) [(0,cg Jw ((ae).wr (())) aga (agh))] (aD f229):=(aJ.bW (jc (by kernel_rfl) (ck (hp:=(ae).wr (())) (agi b)) jh))
abbrev gw(b:List Int):Int:=gH 0 ((b.drop 64).take 8)
def gk(b:List Int):Bool:=decide (b.length=200∧gw b≤1152921504606846976)&&(b.drop (72+(gw b%128).toNat)).all (· ==0)
def aow(b:List Int):HH:=⟨true,(List.range 8).map fun i=>gH 0 ((b.drop (8*i)).take 8),gw b,b.drop 72⟩
theorem z4:∀ (b:List Int) (x:Int),xn x→xn (gH x b)
 | [],_,h=>h
 |c::b,x,h=>by
  rw[gH,List.foldl_cons];exact z4 b _ (by unfold bq;rw[IntKind.wrap_u64];exact⟨by omega,by omega⟩)
abbrev ES(b:List Int):Prop:=ax b∧b.length<1099511627776
abbrev aox(b:List Int):Bool:= !gk b
abbrev axA(b:List Int):Tk:=false
abbrev axB(b:List Int):Tl:=(true,aow b)
def aC2:ao:=BX [some u8] (bA) (ae) (fun x_ y_=>ES x_.1) (fun x_ y_=>aox x_.1) (fun x_ y_=>axA x_.1) (fun x_ y_=>axB x_.1) atS atT atU atV
theorem axC(b:List Int)(h_:ES b):(aox b=true→(aou b).Is (.inl (axA b)))∧(aox b=false→(aou b).Is (.inr (axB b))):=by
 delta aox axA axB;obtain⟨h1,h2⟩:=h_;have hu:=z4 ((b.drop 64).take 8) 0 ⟨by decide,by decide⟩;have hd:∀n,(b.drop n).length=b.length-n:=fun n=>List.length_drop;simp only[aou,jB,Int.reduceToNat,ai,aM,ay,aF,ak,List.drop_zero]
 by_cases c1:b.length=200
 ·have c1':(b.length:Int)=200:=by omega
  have hn:gH 0 (List.take 8 (List.drop 64 b))=gw b:=rfl;simp only[hn]at hu ⊢
  by_cases c2:1152921504606846976<gw b
  ·have e:gk b=false:=(by unfold gk;rw[decide_eq_false (by omega)];rfl);simp[c1',c2,e,hd,c1]
  ·have w:i64.wrap (gw b)=gw b:=ar (by omega) (by omega)
   have t:rh b=72+gw b%128:=by
    unfold rh;simp only[jB,Int.reduceToNat,hn,w];rw[Int.tmod_eq_emod_of_nonneg hu.1,ar (by omega) (by omega)]
   have t2:(72+gw b%128).toNat=72+(gw b%128).toNat:=(by omega);have t3:List.take ((b.length:Int)-(72+gw b%128)).toNat (List.drop (72+(gw b%128).toNat) b)=b.drop (72+(gw b%128).toNat):=List.take_of_length_le (by rw[List.length_drop];omega);have e:gk b=(b.drop (72+(gw b%128).toNat)).all (· ==0):=(by unfold gk;rw[decide_eq_true (by omega)];rfl);have h7:=hd (72+(gw b%128).toNat);rw[e];simp only[t,t2,t3,w,hd];have hH:∀v,v=aow b→v=aow b:=fun _ h=>h
   cases c3:(b.drop (72+(gw b%128).toNat)).all (· ==0)with
   |true=>
    have t0:List.take ((b.length:Int)-0).toNat b=b:=List.take_of_length_le (by omega)
    have t8:gq (List.replicate 128 0) 0 128 (b.drop 72)=b.drop 72:=by
     have h72:=hd 72;have e1:List.take 128 (b.drop 72)=b.drop 72:=List.take_of_length_le (by omega);unfold gq;rw[e1,h72,c1];simp
    have q:∀k,k≤192→fF (b.drop k):=fun k hk=>(by show 8≤_;rw[hd];omega);have q0:fF b:=(by show 8≤_;omega);have em:(⟨true,(((((((Jy.set 0 (gH 0 (b.take 8))).set 1 (gH 0 ((b.drop 8).take 8))).set 2 (gH 0 ((b.drop 16).take 8))).set 3 (gH 0 ((b.drop 24).take 8))).set 4 (gH 0 ((b.drop 32).take 8))).set 5 (gH 0 ((b.drop 40).take 8))).set 6 (gH 0 ((b.drop 48).take 8))).set 7 (gH 0 ((b.drop 56).take 8)),gw b,b.drop 72⟩:HH)=aow b:=rfl;have ho:tE b (b.drop (72+(gw b%128).toNat)) ((b.length-(72+(gw b%128).toNat):Nat):Int) 0 ⟨true,Jy,gw b,List.replicate 128 0⟩:=⟨by omega,by omega,by rw[h7],by omega⟩;simp only[t0,t8,em];clear hd e w t t2 t3 hn hH t0 t8 em;refine⟨fun h=>absurd h (by decide),fun _=>⟨fun _=>⟨by omega,q _ (by decide),fun h=>absurd h c2,fun _=>⟨by omega,q _ (by decide),by omega,ho,?_⟩⟩,fun h=>absurd c1' h⟩⟩;simp only[true_implies,Bool.true_eq_false,false_implies,and_true];exact⟨by omega,q0,by omega,q _ (by decide),by omega,q _ (by decide),by omega,q _ (by decide),by omega,q _ (by decide),by omega,q _ (by decide),by omega,q _ (by decide),by omega,q _ (by decide),by omega,by omega⟩
   |false=>
    have ho:tE b (b.drop (72+(gw b%128).toNat)) ((b.length-(72+(gw b%128).toNat):Nat):Int) 0 ⟨true,Jy,gw b,List.replicate 128 0⟩:=⟨by omega,by omega,by rw[h7],by omega⟩;have q:∀k,k≤192→fF (b.drop k):=fun k hk=>(by show 8≤_;rw[hd];omega);refine⟨fun _=>⟨fun _=>⟨by omega,q _ (by decide),fun h=>absurd h c2,fun _=>⟨by omega,q _ (by decide),by omega,ho,?_⟩⟩,fun h=>absurd c1' h⟩,fun h=>absurd h (by decide)⟩;simp
 ·have c1':¬ (b.length:Int)=200:=by omega
  have e:gk b=false:=by unfold gk;rw[decide_eq_false (by omega)];rfl
  simp[c1',e]
theorem axD:aC2.Ok Tryz.prog 229:=
 zw mixed ((aj Tj aw)) func229 (by kernel_rfl) call229 (fun x_ y_=>aov x_.1) (fun x_ y_=>agj x_.1) (fun x_ y_ h=>axC x_.1 h)
abbrev Ck:Type:=Int×Int×Int×Int×List Int×List Int
abbrev cCk{Y:Type}(m:aY SV (List Int))(r:aY (List SV) Y):aY (List SV) (Int×Int×Int×Int×List Int×List Int×Y):=ag (aC .i64) (ag (aC .i64) (ag (aC .i64) (ag (aC .i64) (ag (tc u8 8) (ag m r)))))
abbrev aC3:aY (List LV) (Ck×Unit):=ag (iD ((cCk (fR false false u8) ae).kB (fun x=>(x.1,x.2.1,x.2.2.1,x.2.2.2.1,x.2.2.2.2.1,x.2.2.2.2.2.1)) (fun y=>(y.1,y.2.1,y.2.2.1,y.2.2.2.1,y.2.2.2.2.1,y.2.2.2.2.2,())) (fun _=>rfl))) ae
def ya(c:Int×Int×Int×Int×List Int×List Int):Int:=bq u64 (u64.wrap c.fst) (shl u64
 (u64.wrap c.snd.fst) 8)
def lM(c:Int×Int×Int×Int×List Int×List Int):List Int:= [bT 8 (ya c),bT 8 (u64.wrap c.snd.snd.fst),
 bT 8 (u64.wrap c.snd.snd.snd.fst),List.take 8 (List.drop 0 c.snd.snd.snd.snd.fst),c.snd.snd.snd.snd.snd].flatten
abbrev ET:Type:=List Int
abbrev agk(x:ET):LV:=LV.one (VV.sc (SV.rd true false (Ty.int IntKind.u8) x))
abbrev agl(x:ET):List (Nat×Ev.Item):= []
def Ov(c:Int×Int×Int×Int×List Int×List Int):Tr (ET):=(.ite (decide (c.fst<0)==false) (.ite (decide (1<
 c.fst)==false) (.ite (decide (c.snd.fst<0)==false) (.ite (decide (16<c.snd.fst)==false) (.need (tA c.snd.snd.fst) (.ite ((!decide (0≤
 c.snd.snd.fst∧c.snd.snd.fst≤2147483647))==false) (.need (tA c.snd.snd.snd.fst) (.ite (!decide (0≤c.snd.snd.snd.fst∧c.snd.snd.snd.fst≤
 2147483647)) (.ret ([])) (.ite (!gk c.snd.snd.snd.snd.snd) (.need (ES c.snd.snd.snd.snd.snd) (.ite (!false) (.ret ([])) (.need (fE (ya
 c)) (.need (fE (u64.wrap c.snd.snd.fst)) (.need (fE (u64.wrap c.snd.snd.snd.fst)) (.need ((0:Int)≤0∧(0:Int)≤8∧(8
 :Int)≤8) (.need ((lM c).length≤70368744177664∧5≤140737488355328) (.ret (lM c))))))))) (.need (ES c.snd.snd.snd.snd.snd) (.ite
 (!true) (.ret ([])) (.need (fE (ya c)) (.need (fE (u64.wrap c.snd.snd.fst)) (.need (fE (u64.wrap
 c.snd.snd.snd.fst)) (.need ((0:Int)≤0∧(0:Int)≤8∧(8:Int)≤8) (.need ((lM c).length≤70368744177664∧5≤140737488355328) (.ret
 (lM c)))))))))))) (.ret ([])))) (.ret ([]))) (.ret ([]))) (.ret ([]))) (.ret ([])))
theorem Ow(c:Ck):aN Tryz.prog [(227,afO),(228,afz),(48,Iv),(229,aC2)] [] f210 ((aC3).wr (c,())) ((ae).wr (())) [.nt,.fr [.rd true u8],.fr [.sym],.syms,.auto,.aE]=(Ov c).end agk agl ((ae).wr (())):=by kernel_rfl
theorem W9(c:Ck):aJ Tryz.prog ((ae).wr (())) [] (aD f210):=(aJ.nil _)
abbrev vP(c:Ck):Prop:=0≤c.1∧c.1≤1∧0≤c.2.1∧c.2.1≤16∧0≤c.2.2.1∧c.2.2.1≤2147483647∧0≤c.2.2.2.1∧c.2.2.2.1≤2147483647∧gk c.2.2.2.2.2=true
def tF(c:Ck):List Int:=if vP c then bT 8 (c.1+256*c.2.1)++(bT 8 c.2.2.1++(bT 8 c.2.2.2.1++(c.2.2.2.2.1.take 8++c.2.2.2.2.2)))else []
theorem Xa{b:List Int}(h:gk b=true):b.length=200:=by
 unfold gk at h;simp only[Bool.and_eq_true,decide_eq_true_eq]at h;exact h.1.1
theorem aoy{x y:Int}(h1:0≤x)(h2:x≤1)(h3:0≤y)(h4:y≤16):bq .u64 (u64.wrap x) (shl .u64 (u64.wrap y) 8)=x+256*y:=by
 have e:=iE .u64 y 8 (by decide)
 rw[wrap_u64 h1 (by omega),wrap_u64 h3 (by omega),show(8:Int)=((8:Nat):Int)from rfl,e,wrap_u64 (by simp;omega) (by simp;omega),eK,
  nw (m:=8) (by simp;omega) (by simp) h1 (by simp;omega) (by simp;omega)]
 simp;omega
abbrev tG(c:Ck):Prop:=ax c.2.2.2.2.2∧c.2.2.2.2.2.length<1099511627776
abbrev Ox(c:Ck):ET:=tF c
def agm:ao:=cd [some u8] (aC3) (ae) (fun x_ y_=>tG x_.1) (fun x_ y_=>Ox x_.1) agk agl
theorem agn(c:Ck)(h_:tG c):(Ov c).Is (Ox c):=by
 delta Ox;obtain⟨h1,h2⟩:=h_;have e0:vP c→ya c=c.1+256*c.2.1:=fun h=>aoy h.1 h.2.1 h.2.2.1 h.2.2.2.1;have e1:vP c→u64.wrap c.2.2.1=c.2.2.1:=fun h=>by rw[wrap_u64 (by omega) (by omega)]
 have e2:vP c→u64.wrap c.2.2.2.1=c.2.2.2.1:=fun h=>by rw[wrap_u64 (by omega) (by omega)]
 have hl:vP c→(lM c).length≤232:=fun h=>by
  have:=Xa h.2.2.2.2.2.2.2.2;unfold lM;simp only[List.flatten_cons,List.flatten_nil,List.append_nil,List.length_append,List.length_take,dk,List.length_cons,List.length_nil];omega
 have ea:vP c→lM c=bT 8 (c.1+256*c.2.1)++(bT 8 c.2.2.1++(bT 8 c.2.2.2.1++(c.2.2.2.2.1.take 8++c.2.2.2.2.2))):=fun h=>by
  unfold lM;rw[e0 h,e1 h,e2 h];simp only[List.flatten_cons,List.flatten_nil,List.append_nil,List.drop_zero]
 simp only[Ov,tF,ai,aH,bb,aP,aF,ak]
 by_cases c0:vP c
 ·have hm:=c0.2.2.2.2.2.2.2.2;have hs:fE (c.1+256*c.2.1):=⟨by omega,by omega⟩;have hs1:fE c.2.2.1:=⟨by omega,by omega⟩;have hs2:fE c.2.2.2.1:=⟨by omega,by omega⟩;have h5:=hl c0;rw[if_pos c0,e0 c0,e1 c0,e2 c0,← ea c0];clear ea e0 e1 e2 hl;grind
 ·rw[if_neg c0];clear ea e0 e1 e2 hl
  by_cases hm:gk c.2.2.2.2.2=true
  ·have c1:¬ (0≤c.1∧c.1≤1∧0≤c.2.1∧c.2.1≤16∧0≤c.2.2.1∧c.2.2.1≤2147483647∧0≤c.2.2.2.1∧c.2.2.2.1≤2147483647):=fun h=>c0 ⟨h.1,h.2.1,h.2.2.1,h.2.2.2.1,h.2.2.2.2.1,h.2.2.2.2.2.1,h.2.2.2.2.2.2.1,h.2.2.2.2.2.2.2,hm⟩;simp only[hm]at*;grind
  ·simp only[hm]at*;grind
theorem ago:agm.Ok Tryz.prog 210:=
 br mixed ((aj Tf (aj S9 (aj rN (aj axD aw))))) func210 (by kernel_rfl) call210 (fun x_ y_=>W9 x_.1) (fun x_ y_=>Ow x_.1) (fun x_ y_ h=>agn x_.1 h)
def rR(b:List Int):Ck:=(b.getD 0 0,b.getD 1 0,nE (b.drop 8),nE (b.drop 16),(b.drop 24).take 8,b.drop 32)
def vQ:Ck:=(0,0,0,0,List.replicate 8 0,[])
def mT(b:List Int):Ck×Bool:=if b.length=232∧cV (tF (rR b)) b=true then(rR b,true)else(vQ,false)
def yb(b:List Int):Int×Int×Int×Int×List Int×List Int:=(i64.wrap (b.getD 0 0),i64.wrap (b.getD 1
 0),nE (List.take ((↑b.length:Int)-8).toNat (List.drop 8 b)),nE (List.take ((↑b.length:Int)-16).toNat (List.drop 16 b)),List.take 8
 (List.drop 0 (List.take ((↑b.length:Int)-24).toNat (List.drop 24 b))),List.take ((↑b.length:Int)-32).toNat (List.drop 32 b))
abbrev EU:Type:=Int×Int×Int×Int×(List Int)×(List Int)×Bool
abbrev agp(x:EU):LV:=LV.cG [VV.agg [SV.int i64 (SI.sym x.1),SV.int i64 (SI.sym x.2.1),SV.int i64
 (SI.sym x.2.2.1),SV.int i64 (SI.sym x.2.2.2.1),SV.arr (Ty.int IntKind.u8) 8 x.2.2.2.2.1,SV.rd true false (Ty.int IntKind.u8) x.2.2.2.2.2.1],
 VV.sc (SV.bool (SB.sym x.2.2.2.2.2.2))]
abbrev agq(x:EU):List (Nat×Ev.Item):= []
def Oy(b:List Int):Tr (EU):=(.ite ((↑b.length:Int)!=232) (.ret (0,0,0,0,[0,0,0,0,0,0,0,0],[],false))
 (.need ((0:Int)≤0∧0<(↑b.length:Int)) (.need ((0:Int)≤1∧1<(↑b.length:Int)) (.need ((0:Int)≤8∧8≤(↑b.length:Int)∧
 (↑b.length:Int)≤(↑b.length:Int)) (.need (tB (List.take ((↑b.length:Int)-8).toNat (List.drop 8 b))) (.need ((0:Int)≤16∧16≤
 (↑b.length:Int)∧(↑b.length:Int)≤(↑b.length:Int)) (.need (tB (List.take ((↑b.length:Int)-16).toNat (List.drop 16 b))) (.need ((0:
 Int)≤24∧24≤(↑b.length:Int)∧(↑b.length:Int)≤(↑b.length:Int)) (.need (8≤(List.take ((↑b.length:Int)-24).toNat (List.drop 24
 b)).length) (.need (8≤(List.take ((↑b.length:Int)-24).toNat (List.drop 24 b)).length) (.need ((0:Int)≤32∧32≤(↑b.length:Int)∧
 (↑b.length:Int)≤(↑b.length:Int)) (.need ((List.take ((↑b.length:Int)-32).toNat (List.drop 32 b)).length≤70368744177664) (.need (tG
 (yb b)) (.ite (!cV (tF (yb b)) b) (.ret (0,0,0,0,[0,0,0,0,0,0,0,0],[],false)) (.ret (i64.wrap (b.getD 0 0),
 i64.wrap (b.getD 1 0),nE (List.take ((↑b.length:Int)-8).toNat (List.drop 8 b)),nE (List.take ((↑b.length:Int)-16).toNat
 (List.drop 16 b)),List.take 8 (List.drop 0 (List.take ((↑b.length:Int)-24).toNat (List.drop 24 b))),List.take ((↑b.length:Int)-32).toNat
 (List.drop 32 b),true))))))))))))))))
theorem Oz(b:List Int):aN Tryz.prog [(208,afQ),(95,zM),(210,agm),(92,rK)] [] f177 ((bA).wr (b,())) ((ae).wr (())) [.fQ 0 4 8 .u8,.nt,.fr [.rd true u8],.fr [.sym],.syms,.auto,.aE]=(Oy b).end agp agq ((ae).wr (())):=by kernel_rfl
theorem Xb(b:List Int):aJ Tryz.prog ((ae).wr (())) [] (aD f177):=(aJ.nil _)
abbrev ckT(x:Ck×Bool):Int×Int×Int×Int×List Int×List Int×Bool:=(x.1.1,x.1.2.1,x.1.2.2.1,x.1.2.2.2.1,x.1.2.2.2.2.1,x.1.2.2.2.2.2,x.2)
abbrev tH(b:List Int):Prop:=ax b∧b.length<1099511627776
abbrev OA(b:List Int):EU:=ckT (mT b)
def agr:ao:=cd [some u8] (bA) (ae) (fun x_ y_=>tH x_.1) (fun x_ y_=>OA x_.1) agp agq
theorem ags(b:List Int)(h_:tH b):(Oy b).Is (OA b):=by
 delta OA;obtain⟨h1,h2⟩:=h_;have b0:=h1.getD 0;have b1:=h1.getD 1;have w0:i64.wrap (b.getD 0 0)=b.getD 0 0:=by unfold By at b0;rw[ar (by omega) (by omega)]
 have w1:i64.wrap (b.getD 1 0)=b.getD 1 0:=by unfold By at b1;rw[ar (by omega) (by omega)]
 have h8:(b.drop 8).length=b.length-8:=List.length_drop;have G5:(b.drop 16).length=b.length-16:=List.length_drop;have h24:(b.drop 24).length=b.length-24:=List.length_drop;have h32:(b.drop 32).length=b.length-32:=List.length_drop;have a8:=h1.drop 8;have a16:=h1.drop 16;have a32:=h1.drop 32;have e0:yb b=rR b:=by unfold yb rR;simp only[w0,w1,jB,List.drop_zero,Int.reduceToNat]
 have hp:b.length=232→tG (rR b):=fun h=>⟨a32,by show(b.drop 32).length<_;omega⟩;simp only[Oy,e0,w0,w1,jB,Int.reduceToNat,ai,aG,aF,ak,List.drop_zero];unfold mT ckT;have ec:rR b=(b.getD 0 0,b.getD 1 0,nE (b.drop 8),nE (b.drop 16),(b.drop 24).take 8,b.drop 32):=rfl;have ez:([0,0,0,0,0,0,0,0]:List Int)=List.replicate 8 0:=rfl;rw[ez]
 by_cases c:b.length=232
 ·have hp:=hp c
  cases c2:cV (tF (rR b)) b<;>grind [vQ]
 ·have c':¬ (b.length:Int)=232:=by omega
  simp[c,c',vQ]
theorem agt:agr.Ok Tryz.prog 177:=
 br mixed ((aj Tg (aj tm (aj ago (aj mP aw))))) func177 (by kernel_rfl) call177 (fun x_ y_=>Xb x_.1) (fun x_ y_=>Oz x_.1) (fun x_ y_ h=>ags x_.1 h)
abbrev Sg:Type:=Cm×Bool×Ck
abbrev aHP(m:aY SV (List Int)):aY (List SV) Sg:=(cCm (ag jX (cCk m ae))).kB (fun x=>((x.1,x.2.1,x.2.2.1,x.2.2.2.1,x.2.2.2.2.1),x.2.2.2.2.2.1,(x.2.2.2.2.2.2.1,x.2.2.2.2.2.2.2.1,x.2.2.2.2.2.2.2.2.1,x.2.2.2.2.2.2.2.2.2.1,x.2.2.2.2.2.2.2.2.2.2.1,x.2.2.2.2.2.2.2.2.2.2.2.1))) (fun y=>(y.1.1,y.1.2.1,y.1.2.2.1,y.1.2.2.2.1,y.1.2.2.2.2,y.2.1,y.2.2.1,y.2.2.2.1,y.2.2.2.2.1,y.2.2.2.2.2.1,y.2.2.2.2.2.2.1,y.2.2.2.2.2.2.2,())) (fun _=>rfl)
abbrev cSg:aY (List SV) Sg:=aHP (fR true false u8)
abbrev Tm:Type:=Int×Int×Int×Int×(List Int)×Bool×Int×Int×Int×Int×(List Int)×(List Int)
abbrev atW(x:Tm):LV:=LV.one (VV.agg [SV.int i64 (SI.sym x.1),SV.int u64 (SI.sym x.2.1),SV.int u64
 (SI.sym x.2.2.1),SV.int i64 (SI.sym x.2.2.2.1),SV.arr (Ty.int IntKind.u8) 64 x.2.2.2.2.1,SV.bool (SB.sym x.2.2.2.2.2.1),SV.int i64
 (SI.sym x.2.2.2.2.2.2.1),SV.int i64 (SI.sym x.2.2.2.2.2.2.2.1),SV.int i64 (SI.sym x.2.2.2.2.2.2.2.2.1),SV.int i64 (SI.sym
 x.2.2.2.2.2.2.2.2.2.1),SV.arr (Ty.int IntKind.u8) 8 x.2.2.2.2.2.2.2.2.2.2.1,SV.rd true false (Ty.int IntKind.u8) x.2.2.2.2.2.2.2.2.2.2.2])
abbrev atX(x:Tm):List (Nat×Ev.Item):= []
def atY:Tr (Tm):=(.ret ((-1),0,0,0,List.replicate 64 (0:Int),false,0,0,0,0,[0,0,0,0,0,0,0,0],[]))
theorem Xc:aN Tryz.prog [] [] f91 ((ae).wr (())) ((ae).wr (())) [.fQ 0 10 8 .u8,.fr [.rd true u8],.fr [.sym],.syms,.auto,.aE]=(atY).end atW atX ((ae).wr (())):=by kernel_rfl
theorem agu:aJ Tryz.prog ((ae).wr (())) [] (aD f91):=(aJ.nil _)
abbrev Jz:Type:=Int×Int×Int×Int×(List Int)×Bool×Int×Int×Int×Int×(List Int)×(List Int)
abbrev atZ(x:Jz):LV:=LV.one (VV.agg [SV.int i64 (SI.sym x.1),SV.int u64 (SI.sym x.2.1),SV.int u64
 (SI.sym x.2.2.1),SV.int i64 (SI.sym x.2.2.2.1),SV.arr (Ty.int IntKind.u8) 64 x.2.2.2.2.1,SV.bool (SB.sym x.2.2.2.2.2.1),SV.int i64
 (SI.sym x.2.2.2.2.2.2.1),SV.int i64 (SI.sym x.2.2.2.2.2.2.2.1),SV.int i64 (SI.sym x.2.2.2.2.2.2.2.2.1),SV.int i64 (SI.sym
 x.2.2.2.2.2.2.2.2.2.1),SV.arr (Ty.int IntKind.u8) 8 x.2.2.2.2.2.2.2.2.2.2.1,SV.rd true false (Ty.int IntKind.u8) x.2.2.2.2.2.2.2.2.2.2.2])
abbrev at0(x:Jz):List (Nat×Ev.Item):= []
def agv(s:(Int×Int×Int×Int×List Int)×Bool×Int×Int×Int×Int×List Int×List Int)(x:Int×Int×List Int):Tr
 (Jz):=(.ite (x.fst==2) (.need (tD x.snd.snd) (.ite ((iq x.snd.snd).snd) (.ret ((iq x.snd.snd).fst.fst,(iq x.snd.snd).fst.snd.fst,
 if(iq x.snd.snd).fst.snd.snd.fst<s.fst.snd.snd.fst then s.fst.snd.snd.fst else(iq x.snd.snd).fst.snd.snd.fst,(iq
 x.snd.snd).fst.snd.snd.snd.fst,(iq x.snd.snd).fst.snd.snd.snd.snd,false,0,0,0,0,[0,0,0,0,0,0,0,0],[])) (.ret (s.fst.fst,
 s.fst.snd.fst,s.fst.snd.snd.fst,s.fst.snd.snd.snd.fst,s.fst.snd.snd.snd.snd,s.snd.fst,s.snd.snd.fst,s.snd.snd.snd.fst,s.snd.snd.snd.snd.fst,
 s.snd.snd.snd.snd.snd.fst,s.snd.snd.snd.snd.snd.snd.fst,s.snd.snd.snd.snd.snd.snd.snd)))) (.ite (x.fst==3) (.need (tH x.snd.snd) (.ite ((mT
 x.snd.snd).snd) (.ret (s.fst.fst,s.fst.snd.fst,s.fst.snd.snd.fst,s.fst.snd.snd.snd.fst,s.fst.snd.snd.snd.snd,true,(mT x.snd.snd).fst.fst,(mT
 x.snd.snd).fst.snd.fst,(mT x.snd.snd).fst.snd.snd.fst,(mT x.snd.snd).fst.snd.snd.snd.fst,(mT x.snd.snd).fst.snd.snd.snd.snd.fst,(mT
 x.snd.snd).fst.snd.snd.snd.snd.snd)) (.ret (s.fst.fst,s.fst.snd.fst,s.fst.snd.snd.fst,s.fst.snd.snd.snd.fst,s.fst.snd.snd.snd.snd,s.snd.fst,
 s.snd.snd.fst,s.snd.snd.snd.fst,s.snd.snd.snd.snd.fst,s.snd.snd.snd.snd.snd.fst,s.snd.snd.snd.snd.snd.snd.fst,s.snd.snd.snd.snd.snd.snd.snd))))
 (.ite (x.fst==4) (.ret (s.fst.fst,s.fst.snd.fst,s.fst.snd.snd.fst,s.fst.snd.snd.snd.fst,s.fst.snd.snd.snd.snd,false,0,0,0,0,[0,0,0,0,0,
 0,0,0],[])) (.ret (s.fst.fst,s.fst.snd.fst,s.fst.snd.snd.fst,s.fst.snd.snd.snd.fst,s.fst.snd.snd.snd.snd,s.snd.fst,s.snd.snd.fst,
 s.snd.snd.snd.fst,s.snd.snd.snd.snd.fst,s.snd.snd.snd.snd.snd.fst,s.snd.snd.snd.snd.snd.snd.fst,s.snd.snd.snd.snd.snd.snd.snd)))))
theorem Xd(s:Sg)(x:Int×Int×List Int):aN Tryz.prog [(176,afY),(177,agr)] [] f127 (((ag (iD cSg) (ag (iD ((ag (aC .i64) (ag (aC .i64) (ag (fR false false u8) ae))).kB (fun x=>(x.1,x.2.1,x.2.2.1)) (fun y=>(y.1,y.2.1,y.2.2,())) (fun _=>rfl))) ae))).wr (s,x,())) ((ae).wr (())) [.fQ 0 10 8 .u8,.fr [.rd true u8],.fr [.sym],.syms,.auto,.aE]=(agv s x).end atZ at0 ((ae).wr (())):=by kernel_rfl
theorem agw(s:Sg)(x:Int×Int×List Int):aJ Tryz.prog ((ae).wr (())) [] (aD f127):=(aJ.nil _)
def sgT(s:Sg):Jz:=(s.1.1,s.1.2.1,s.1.2.2.1,s.1.2.2.2.1,s.1.2.2.2.2,s.2.1,s.2.2.1,s.2.2.2.1,s.2.2.2.2.1,s.2.2.2.2.2.1,s.2.2.2.2.2.2.1,s.2.2.2.2.2.2.2)
def iZ:Sg:=((-1,0,0,0,List.replicate 64 0),false,vQ)
abbrev EV:Prop:=True
abbrev agx:Tm:=sgT iZ
def agy:ao:=cd [] (ae) (ae) (fun _ _=>EV) (fun _ _=>agx) atW atX
theorem aoz(h_:EV):(atY).Is (agx):=by
 delta agx;exact rfl
theorem Tn:agy.Ok Tryz.prog 91:=
 br mixed aw func91 (by kernel_rfl) call91 (fun x_ y_=>agu) (fun x_ y_=>Xc) (fun x_ y_ h=>aoz h)
def tI(s:Sg)(x:Int×Int×List Int):Sg:=
 if x.1=2 then(if(iq x.2.2).2=true then(((iq x.2.2).1.1,(iq x.2.2).1.2.1,(if(iq x.2.2).1.2.2.1<s.1.2.2.1 then s.1.2.2.1 else(iq x.2.2).1.2.2.1),(iq x.2.2).1.2.2.2.1,(iq x.2.2).1.2.2.2.2),false,vQ)else s)
 else if x.1=3 then(if(mT x.2.2).2=true then(s.1,true,(mT x.2.2).1)else s)
 else if x.1=4 then(s.1,false,vQ)
 else s
abbrev EW(s:Sg)(x:Int×Int×List Int):Prop:=ax x.2.2∧x.2.2.length<1099511627776
abbrev agz(s:Sg)(x:Int×Int×List Int):Jz:=sgT (tI s x)
def agA:ao:=cd [none,some u8] ((ag (iD cSg) (ag (iD ((ag (aC .i64) (ag (aC .i64) (ag (fR false false u8) ae))).kB (fun x=>(x.1,x.2.1,x.2.2.1)) (fun y=>(y.1,y.2.1,y.2.2,())) (fun _=>rfl))) ae))) (ae) (fun x_ y_=>EW x_.1 x_.2.1) (fun x_ y_=>agz x_.1 x_.2.1) atZ at0
theorem aoA(s:Sg)(x:Int×Int×List Int)(h_:EW s x):(agv s x).Is (agz s x):=by
 delta agz;have h:ax x.2.2∧x.2.2.length<1099511627776:=h_;have hc:tD x.2.2:=h;have hk:tH x.2.2:=h;simp only[agv,ai,aK,ak];simp only[aA,aK,ak,tI];refine⟨fun c1=>⟨hc,?_,?_⟩,fun c1=>⟨fun c2=>⟨hk,?_,?_⟩,fun c2=>⟨fun c3=>?_,fun c3=>?_⟩⟩⟩
 ·intro c;rw[if_pos c1,if_pos c];rfl
 ·intro c;rw[if_pos c1,if_neg (by rw[c];decide)];rfl
 ·intro c;rw[if_neg c1,if_pos c2,if_pos c];rfl
 ·intro c;rw[if_neg c1,if_pos c2,if_neg (by rw[c];decide)];rfl
 ·rw[if_neg c1,if_neg c2,if_pos c3];rfl
 ·rw[if_neg c1,if_neg c2,if_neg c3];rfl
theorem To:agA.Ok Tryz.prog 127:=
 br mixed ((aj af0 (aj agt aw))) func127 (by kernel_rfl) call127 (fun x_ y_=>agw x_.1 x_.2.1) (fun x_ y_=>Xd x_.1 x_.2.1) (fun x_ y_ h=>aoA x_.1 x_.2.1 h)
abbrev jSg:aY Ev.Item Sg:=oT 103 cSg
abbrev Tp:aY (List LV) (List (Int×Int×List Int)×Unit):=ag (ah (fR false false (.pair (.int .i64) (.pair (.int .i64) (.sl u8))))) ae
abbrev JA:Type:=(List (Int×Int×List Int))×Int×Int×((Int×Int×Int×Int×List Int)×Bool×Int×Int×Int×Int×List Int×List
 Int)×((Int×Int×Int×Int×List Int)×Bool×Int×Int×Int×Int×List Int×List Int)
abbrev JB:aY St JA:=(bg (jk 2 (aq (ah (aU (0) (0))) (aq (ah (aU (1) (0))) (jk 3 (ag (ah (fR false false
 ((Ty.int i64).pair ((Ty.int i64).pair (Ty.int IntKind.u8).sl)))) (ag (ah (aC i64)) (ag (ah (aC i64)) (jk
 8 ae)))))))) (ag (eV jSg) (ag (eV jSg) ae))).kB (fun y=>(y.1.1,y.1.2.1,y.1.2.2.1,y.2.1,y.2.2.1)) (fun x=>((x.1,(x.2.1,
 (x.2.2.1,()))),(x.2.2.2.1,(x.2.2.2.2,())))) (fun _=>rfl)
abbrev agB:List Wk:= [.db 0 10 8 .u8,.db 1 10 8 .u8,.bH 0 [.sym,.sym,.sym,.sym,.al,.sym,.sym,.sym,.sym,.sym,.al,.rd true
 u8],.bH 1 [.sym,.sym,.sym,.sym,.al,.sym,.sym,.sym,.sym,.sym,.al,.rd true u8],.fr (cC 18 [(2,.al),(3,.al),(7,.al),(8,
 .al),(9,.al)]),.syms,.auto,.aE]
abbrev at3:Exit→List Wk:=w6 agB 0 [.db 0 10 8 .u8,.db 1 10 8 .u8,.bH 0 [.sym,.sym,.sym,.sym,.al,.sym,.sym,.sym,.sym,.sym,
 .al,.rd true u8],.bH 1 [.sym,.sym,.sym,.sym,.al,.sym,.sym,.sym,.sym,.sym,.al,.rd true u8],.fr (cC 18 [(2,.al),(3,.al)]),
 .syms,.auto,.aE] [.db 0 10 8 .u8,.db 1 10 8 .u8,.bH 0 [.sym,.sym,.sym,.sym,.al,.sym,.sym,.sym,.sym,.sym,.al,.rd true u8],
 .bH 1 [.sym,.sym,.sym,.sym,.al,.sym,.sym,.sym,.sym,.sym,.al,.rd true u8],.fr (cC 18 [(2,.al)]),.syms,.auto,.aE]
def OB(l:List (Int×Int×List Int))(i:Int):Int×Int×List Int:=l.getD i.toNat (0,0,[])
def OC(s:(Int×Int×Int×Int×List Int)×Bool×Int×Int×Int×Int×List Int×List Int):(Int×Int×Int×Int×List
 Int)×Bool×Int×Int×Int×Int×List Int×List Int:=s
abbrev agC:Type:=((Int×Int×Int×Int×List Int)×Bool×Int×Int×Int×Int×List Int×List Int)×((Int×Int×Int×Int×List Int)
 ×Bool×Int×Int×Int×Int×List Int×List Int)
abbrev at4(x:agC):Exit×St:=(Exit.exit 0,⟨(ir 2 (LV.one (VV.sc (SV.ptr 0 0))::(LV.one (VV.sc (SV.ptr 1 0))::(ir 14
 [])))),[some (jSg.wr x.1),some (jSg.wr x.2)]⟩)
def Tq(l:List (Int×Int×List Int))(n:Int)(i:Int)(z:(Int×Int×Int×Int×List Int)×Bool×Int×Int×Int×Int×
 List Int×List Int) (s:(Int×Int×Int×Int×List Int)×Bool×Int×Int×Int×Int×List Int×List Int):Tr (JA⊕(agC)):=(.ite
 (decide (i<n)) (.need (0≤i∧i<(↑l.length:Int)) (.need (EW (OC s) (OB l i)) (.ret (.inl (l,n,i64.wrap (i+1),z,tI
 (OC s) (OB l i)))))) (.ret (.inr (z,s))))
theorem Xe(l':List (Int×Int×List Int))(l:List (Int×Int×List Int))(n:Int)(i:Int)(z:(Int×Int×Int×Int×List Int)×Bool×Int×Int×Int×Int×List Int×List Int)(s:(Int×Int×Int×Int×List Int)×Bool×Int×Int×Int×Int×List Int×List Int):cY Tryz.prog [(91,agy),(127,agA)] [] f89 0 ((ae).wr (())) at3 (JB.wr (l,n,i,z,s))=(Tq l n i z s).res JB.wr at4:=by kernel_rfl
def nF(l:List (Int×Int×List Int)):Prop:=∀k:Nat,k<l.length→ax (l.getD k (0,0,[])).2.2∧(l.getD k (0,0,[])).2.2.length<1099511627776
def bE(s:Sg)(l:List (Int×Int×List Int)):Sg:=l.foldl tI s
abbrev EX(l:List (Int×Int×List Int))(n:Int)(i:Int)(z:(Int×Int×Int×Int×List Int)×Bool×Int×Int×Int×Int×List Int×List Int)(s:(Int×Int×Int×Int×List Int)×Bool×Int×Int×Int×Int×List Int×List Int):Prop:=0≤i∧i≤n∧n=l.length∧n<1099511627776∧nF l
abbrev agD(l:List (Int×Int×List Int))(n:Int)(i:Int)(z:(Int×Int×Int×Int×List Int)×Bool×Int×Int×Int×Int×List Int×List Int)(s:(Int×Int×Int×Int×List Int)×Bool×Int×Int×Int×Int×List Int×List Int):agC:=(z,bE s (l.drop i.toNat))
abbrev agE:JA→aW:=eS (fun x_=>EX x_.1 x_.2.1 x_.2.2.1 x_.2.2.2.1 x_.2.2.2.2) (fun x_=>agD x_.1 x_.2.1 x_.2.2.1 x_.2.2.2.1 x_.2.2.2.2) at4
theorem aoB(l:List (Int×Int×List Int))(n:Int)(i:Int)(z:(Int×Int×Int×Int×List Int)×Bool×Int×Int×Int×Int×List Int×List Int)(s:(Int×Int×Int×Int×List Int)×Bool×Int×Int×Int×Int×List Int×List Int)(h_:EX l n i z s):dV (fun x_:JA=>Tq x_.1 x_.2.1 x_.2.2.1 x_.2.2.2.1 x_.2.2.2.2) (l,n,i,z,s) (agD l n i z s):=by
 delta agD;obtain⟨h1,h2,rfl,h4,h5⟩:=h_;obtain⟨k,rfl⟩:∃m:Nat,i=m:=⟨i.toNat,by omega⟩;obtain⟨j,hj⟩:∃j,l.length-k=j:=⟨_,rfl⟩;rw[Int.toNat_natCast]
 induction j generalizing k s with
 |zero=>
  refine .stop ?_;have c:¬ (k:Int)<l.length:=by omega
  rw[List.drop_of_length_le (by omega)];simp[Tq,c,aA,ak,bE]
 |succ j ih=>
  have c:(k:Int)<l.length:=by omega
  have w:=ih (tI s (l.getD k (0,0,[]))) (k+1) (by omega) (by omega) (by omega);rw[bY (0,0,[]) (by omega),bE,List.foldl_cons];refine .go ?_ w;have hx:=h5 k (by omega);simp only[Tq,OB,OC,c,ay,ai,ak,Int.toNat_natCast];exact⟨fun _=>⟨⟨by omega,trivial⟩,hx,by rw[ar (by omega) (by omega)];rfl⟩,fun h=>absurd trivial h⟩
theorem agF(l':List (Int×Int×List Int)):∀x:JA,Ex Tryz.prog ((ae).wr (())) (.loop (a9 f89 0)) (JB.wr x) (agE x):=
 cQ mixed ((aj Tn (aj To aw))) (ws:=at3) (aJ.nil _) (fun x_=>Xe l' x_.1 x_.2.1 x_.2.2.1 x_.2.2.2.1 x_.2.2.2.2) (fun z e=>by cases e) eY (fun x_ h=>aoB x_.1 x_.2.1 x_.2.2.1 x_.2.2.2.1 x_.2.2.2.2 h)
def iJ:(Int×Int×Int×Int×List Int)×Bool×Int×Int×Int×Int×List Int×List Int:=((iZ.fst.fst,0,0,0,
 iZ.fst.snd.snd.snd.snd),iZ.snd.fst,0,0,0,0,iZ.snd.snd.snd.snd.snd.snd)
abbrev Ts:Type:=Int×Int×Int×Int×(List Int)×Bool×Int×Int×Int×Int×(List Int)×(List Int)
abbrev at5(x:Ts):LV:=LV.one (VV.agg [SV.int i64 (SI.sym x.1),SV.int u64 (SI.sym x.2.1),SV.int u64
 (SI.sym x.2.2.1),SV.int i64 (SI.sym x.2.2.2.1),SV.arr (Ty.int IntKind.u8) 64 x.2.2.2.2.1,SV.bool (SB.sym x.2.2.2.2.2.1),SV.int i64
 (SI.sym x.2.2.2.2.2.2.1),SV.int i64 (SI.sym x.2.2.2.2.2.2.2.1),SV.int i64 (SI.sym x.2.2.2.2.2.2.2.2.1),SV.int i64 (SI.sym
 x.2.2.2.2.2.2.2.2.2.1),SV.arr (Ty.int IntKind.u8) 8 x.2.2.2.2.2.2.2.2.2.2.1,SV.rd true false (Ty.int IntKind.u8) x.2.2.2.2.2.2.2.2.2.2.2])
abbrev at6(x:Ts):List (Nat×Ev.Item):= []
def agG(l:List (Int×Int×List Int)):Tr (Ts):=(.need (EV) (.need (EX l (↑l.length:Int) 0 ((0,0,0,0,
 List.replicate 64 (0:Int)),false,0,0,0,0,[0,0,0,0,0,0,0,0],[]) iJ) (.ret ((bE iJ (List.drop 0 l)).fst.fst,(bE iJ
 (List.drop 0 l)).fst.snd.fst,(bE iJ (List.drop 0 l)).fst.snd.snd.fst,(bE iJ (List.drop 0 l)).fst.snd.snd.snd.fst,(bE iJ
 (List.drop 0 l)).fst.snd.snd.snd.snd,(bE iJ (List.drop 0 l)).snd.fst,(bE iJ (List.drop 0 l)).snd.snd.fst,(bE iJ (List.drop 0
 l)).snd.snd.snd.fst,(bE iJ (List.drop 0 l)).snd.snd.snd.snd.fst,(bE iJ (List.drop 0 l)).snd.snd.snd.snd.snd.fst,(bE iJ
 (List.drop 0 l)).snd.snd.snd.snd.snd.snd.fst,(bE iJ (List.drop 0 l)).snd.snd.snd.snd.snd.snd.snd))))
theorem Xf(l:List (Int×Int×List Int)):aN Tryz.prog [(91,agy),(127,agA)] [(0,cg JB ((ae).wr (())) agB (agE))] f89 ((Tp).wr (l,())) ((ae).wr (())) [.db 0 10 8 .u8,.db 1 10 8 .u8,.bH 0 [.sym,.sym,.sym,.sym,.al,.sym,.sym,.sym,.sym,.sym,.al,.rd true u8],.bH 1 [.sym,.sym,.sym,.sym,.al,.sym,.sym,.sym,.sym,.sym,.al,.rd true u8],.fr [.sym],.syms,.auto,.aE]=(agG l).end at5 at6 ((ae).wr (())):=by kernel_rfl
theorem agH(l:List (Int×Int×List Int)):aJ Tryz.prog ((ae).wr (())) [(0,cg JB ((ae).wr (())) agB (agE))] (aD f89):=(aJ.bW (jc (by kernel_rfl) (ck (hp:=(ae).wr (())) (agF l)) jh))
abbrev yc(l:List (Int×Int×List Int)):Prop:=nF l∧l.length<1099511627776
abbrev agI(l:List (Int×Int×List Int)):Ts:=sgT (bE iZ l)
def at7:ao:=cd [some (.pair (.int .i64) (.pair (.int .i64) (.sl u8)))] (Tp) (ae) (fun x_ y_=>yc x_.1) (fun x_ y_=>agI x_.1) at5 at6
theorem aoC(l:List (Int×Int×List Int))(h_:yc l):(agG l).Is (agI l):=by
 delta agI;obtain⟨h1,h2⟩:=h_;have e:iJ=iZ:=rfl;simp only[agG,ai,ak,e,List.drop_zero];exact⟨trivial,⟨by omega,by omega,rfl,by omega,h1⟩,rfl⟩
theorem aoD:at7.Ok Tryz.prog 89:=
 br mixed ((aj Tn (aj To aw))) func89 (by kernel_rfl) call89 (fun x_ y_=>agH x_.1) (fun x_ y_=>Xf x_.1) (fun x_ y_ h=>aoC x_.1 h)
end Go.Proofs.YtcbjpiangpjbgaaGreat
end
