/- What the laws lean on, part 10: a reader of code, plain facts, and what each function gives; no conditions. -/
import Derived.Test.YtmhcoaflmgajhaaGreatA9
set_option linter.unusedVariables false
set_option linter.unusedSimpArgs false
noncomputable section
namespace Go.Proofs.YtmhcoaflmgajhaaGreat
open Go Go.Ev BJ Go.Proofs.Tryz
open Go.IntKind (i64 signed u32 u64 wrap wrap_u32)
set_option maxRecDepth 1000000
abbrev cW:aH LV (List Int):=Ae .u64 8
abbrev wA:aH (List LV) (List Int×Unit):=ab cW ae
abbrev XC:aH (List LV) (List Int×List Int×Unit):=ab cW (ab cW ae)
abbrev iW:aH (Option Ev.Item) (List Int):=jV 248 .u64 8
abbrev iB:aH (Option Ev.Item) (List Int):=jV 52 .u8 32
abbrev kM(i:Nat):Wk:=.dx i 0 8 .u64
abbrev nPW(r:List Int×Int):LV:=.bV [.agg [.arr (.int .u64) 8 r.1],.sc (.int .u64 (.sym r.2))]
def okW(w:List Int):Prop:=w.length=8∧eu 18446744073709551616 w
def okB(b:List Int):Prop:=b.length=32∧aA b
theorem Ds{w:List Int}(h:okW w):List.take 8 (List.drop 0 w)=w:=bM h.1
def eWW(g:List Int→List Int→List Int):al:=al.cl [] XC ae fun x _=>.leaf (some (okW x.1∧okW x.2.1)) (fX .u64 8 (g x.1 x.2.1)) []
def yC(g:List Int→List Int→List Int×Int):al:=al.cl [] XC ae fun x _=>.leaf (some (okW x.1∧okW x.2.1)) (nPW (g x.1 x.2.1)) []
abbrev wiA:aH (List LV) (List Int×Int×Unit):=ab cW (ab (ak (ay .i64)) ae)
def ZT(g:List Int→Int→Int):al:=al.cl [] wiA ae fun x _=>.leaf (some (okW x.1∧0≤x.2.1∧x.2.1<512)) (nU (g x.1 x.2.1)) []
def ZU(c:List Int):al:=al.cl [] ae ae fun _ _=>.leaf none (fX .u64 8 c) []
def XD(g:List Int→List Int):al:=al.cl [] wA ae fun x _=>.leaf (some (okW x.1)) (fX .u8 32 (g x.1)) []
def U8(g:List Int→List Int):al:=al.cl [some u8] bA ae fun x _=>.leaf (some (aA x.1∧x.1.length≤64)) (fX .u64 8 (g x.1)) []
abbrev Pa:Func:=f177
abbrev ZV:aH (List LV) (List Int×Int×Int×Unit):=(jk 2 (aq (ak (a6 0 0)) (aq (ak (a6 1 0)) (jk 2 (ab (ak (g9 false false u8)) (ab (ak (ay .i64)) (ab (ak (ay .i64)) (jk 18 ae))))))))
abbrev ZW:Wk:=.fr (cR 27 [(2,.ao),(3,.ao),(6,.ao),(7,.sym),(8,.sym)])
abbrev soX:aH (List LV) (Unit):=(jk 2 (aq (ak (a6 0 0)) (aq (ak (a6 1 0)) (jk 23 ae))))
abbrev ae4:Wk:=.fr (cR 27 [(2,.ao),(3,.ao)])
abbrev RM:aH Hp (List Int×List Int×Unit):=ab iW (ab iW ae)
def soW:Exit→List Wk
 | .normal=> [ZW,kM 0,kM 1,.auto]
 | .exit 0=> [ae4,kM 0,kM 1,.auto]
 |_=> []
theorem U9(b:List Int)(n i:Int)(r m:List Int):gV Tryz.prog [] [] Pa 0 [] soW ((bq ZV RM).wr ((b,n,i,()),(r,m,())))=
 aV.ite (decide (i<n)) (aV.need ((0:Int)≤i∧i<(↑b.length:Int)) (aV.need ((0:Int)≤i64.wrap (i.tdiv (8:Int))∧
 i64.wrap (i.tdiv (8:Int))<(8:Int)) (aV.need ((0:Int)≤i64.wrap (i.tmod (8:Int)*(8:Int))) (aV.need ((0:Int)≤
 i64.wrap (i.tdiv (8:Int))∧i64.wrap (i.tdiv (8:Int))<(8:Int)) (aV.leaf Exit.normal ((bq ZV RM).wr ((b,n,i64.wrap
 (i+(1:Int)),PUnit.unit),r,m.set ((0:Nat)+(i64.wrap (i.tdiv (8:Int))).toNat) (bf u64 ((List.take (8:Nat) (List.drop (0
 :Nat) m)).getD (i64.wrap (i.tdiv (8:Int))).toNat (0:Int)) (shl u64 (u64.wrap (b.getD i.toNat (0:Int))) (i64.wrap
 (i.tmod (8:Int)*(8:Int))))),PUnit.unit))))))) (aV.leaf (Exit.exit (0:Nat)) ((bq soX RM).wr (PUnit.unit,r,m,PUnit.unit))):=by kernel_rfl
def ZX(g:List Int→List Int)(x:(List Int×Int×Int×Unit)×List Int×List Int×Unit):aV:=.need (aA x.1.1∧x.1.1.length≤64∧x.1.2.1=x.1.1.length∧x.1.2.2.1=0∧x.2.2.1=List.replicate 8 0) (.leaf (.exit 0) ((bq soX RM).wr ((),(x.2.1,g x.1.1,()))))
theorem RN(k:Nat):i64.wrap ((k:Int).tmod 8*8)=((k%8*8:Nat):Int):=by
 rw[show(k:Int).tmod 8=((k%8:Nat):Int)from RK k 8,ar (by omega) (by omega)];omega
theorem Pb:pr []=List.replicate 8 0:=Dn bw 8
theorem Pc(x):Ex Tryz.prog [] (.loop (aY Pa 0)) ((bq ZV RM).wr x) (ZX pr x):=by
 obtain⟨⟨b,n,i,_⟩,r,m,_⟩:=x;refine Ex.need fun⟨h1,h2,h3,h4,h5⟩=>?_;simp only at h1 h2 h3 h4 h5;subst h3 h4 h5
 have key:=eQ (fn:=Pa) (id:=0) (j:=0) (ws:=soW) (hp:= []) mixed aw (aS.nil _) b.length (fun k (_:Unit)=>(bq ZV RM).wr ((b,(b.length:Int),(k:Int),()),(r,pr (b.take k),()))) (fun _=>(bq soX RM).wr ((),(r,pr b,()))) (fun _ u=>u) (fun _ _=>True)
  (fun k o R hk _ hn hx=>?_) (fun _ _ _ _=>trivial) 0 () (by omega) trivial
 ·rw[List.take_zero,Pb]at key;exact key
 rw[U9];refine⟨fun hb=>?_,fun hb=>?_⟩
 ·have jv:k<b.length:=by have:=of_decide_eq_true hb;omega
  have e1:i64.wrap ((k:Int).tdiv 8)=((k/8:Nat):Int):=fZ k 8 (by omega);rw[e1,RN,bM (JS _).1,Int.toNat_natCast,Int.toNat_natCast,Nat.zero_add,O6 h1 h2 jv,db k (by omega)];exact⟨by omega,by omega,by omega,by omega,hn jv⟩
 ·have:k=b.length:=by have:=of_decide_eq_false hb;omega
  subst this;have:=hx rfl;rw[List.take_length];exact this
abbrev ZY(g:List Int→List Int):dd:= [(0,dA (bq ZV RM) 0 [ZW,kM 0,kM 1,.auto] (ZX g))]
abbrev ae5:al:=U8 pr
theorem JT(g:List Int→List Int)(b:List Int):bc Tryz.prog [] (ZY g) Pa (bA.wr (b,())) [] [.fr [.sym],.gU 0 0 8 .u64,.auto]=
 End.need (aA b∧b.length≤(64:Nat)∧(↑b.length:Int)=(↑b.length:Int)∧(0:Int)=(0:Int)∧ [(0:Int),(0:Int),(0:Int),(0:
 Int),(0:Int),(0:Int),(0:Int),(0:Int)]=List.replicate (8:Nat) (0:Int)) (End.leaf (LV.one (VV.agg [SV.arr (Ty.int u64) (8:
 Nat) (g b)])) []):=by kernel_rfl
theorem JU:ae5.Ok Tryz.prog 177:=by
 refine(al.bb call177 fun x_ y_ Q H_=>?_).sym;obtain⟨b,_⟩:=x_;obtain⟨hn,hq⟩:=H_;have hn:aA b∧b.length≤64:=hn;refine(au mixed aw func177 rfl (LT:=ZY pr) (ks:= [.fr [.sym],.gU 0 0 8 .u64,.auto]) (aS.bW (kQ rfl (b7 (hp:= []) Pc) ly))).use (D:= []) ?_ hq;show(bc _ _ _ _ (bA.wr (b,())) [] _).sat _;rw[JT];exact⟨⟨hn.1,hn.2,rfl,rfl,rfl⟩,rfl,rfl⟩
abbrev Pd:Func:=f243
abbrev ZZ:aH (List LV) (Int×Unit):=(jk 1 (aq (ak (a6 0 0)) (aq (ak (a6 1 0)) (aq (ak (a6 2 0)) (jk 1 (ab (ak (ay .i64)) (jk 15 ae)))))))
abbrev Z0:Wk:=.fr (cR 21 [(1,.ao),(2,.ao),(3,.ao),(5,.sym)])
abbrev byX:aH (List LV) (Unit):=(jk 2 (aq (ak (a6 1 0)) (aq (ak (a6 2 0)) (jk 17 ae))))
abbrev ae7:Wk:=.fr (cR 21 [(2,.ao),(3,.ao)])
abbrev RO:aH Hp (List Int×List Int×List Int×Unit):=ab iW (ab iB (ab iB ae))
def byW:Exit→List Wk
 | .normal=> [Z0,kM 0,.dx 1 0 32 .u8,.dx 2 0 32 .u8,.auto]
 | .exit 0=> [ae7,kM 0,.dx 1 0 32 .u8,.dx 2 0 32 .u8]
 |_=> []
theorem Va(i:Int)(w r o:List Int):gV Tryz.prog [] [] Pd 0 [] byW ((bq ZZ RO).wr ((i,()),(w,r,o,())))=
 aV.ite (decide (i<(32:Int))) (aV.need ((0:Int)≤i64.wrap (i.tdiv (8:Int))∧i64.wrap (i.tdiv (8:Int))<(8:Int))
 (aV.need ((0:Int)≤i64.wrap (i.tmod (8:Int)*(8:Int))) (aV.need ((0:Int)≤i∧i<(32:Int)) (aV.leaf Exit.normal ((bq ZZ
 RO).wr ((i64.wrap (i+(1:Int)),PUnit.unit),w,r,o.set ((0:Nat)+i.toNat) (IntKind.u8.wrap (shr u64 ((List.take (8:Nat)
 (List.drop (0:Nat) w)).getD (i64.wrap (i.tdiv (8:Int))).toNat (0:Int)) (i64.wrap (i.tmod (8:Int)*(8:Int))))),
 PUnit.unit)))))) (aV.leaf (Exit.exit (0:Nat)) ((bq byX RO).wr (PUnit.unit,w,r,o,PUnit.unit))):=by kernel_rfl
def Z1(g:List Int→List Int)(x:(Int×Unit)×List Int×List Int×List Int×Unit):aV:=.need (x.1.1=0∧okW x.2.1∧x.2.2.2.1.length=32) (.leaf (.exit 0) ((bq byX RO).wr ((),(x.2.1,x.2.2.1,g x.2.1,()))))
theorem Pe(x):Ex Tryz.prog [] (.loop (aY Pd 0)) ((bq ZZ RO).wr x) (Z1 n9 x):=by
 obtain⟨⟨i,_⟩,w,r,o,_⟩:=x;refine Ex.need fun⟨h1,h2,h3⟩=>?_;simp only at h1 h2 h3;subst h1
 have key:=eQ (fn:=Pd) (id:=0) (j:=0) (ws:=byW) (hp:= []) mixed aw (aS.nil _) 32 (fun k o=>(bq ZZ RO).wr (((k:Int),()),(w,r,o,()))) (fun o=>(bq byX RO).wr ((),(w,r,o,()))) (fun k o=>o.set k (vd qq w/256 ^ k%256)) (fun _ _=>True)
  (fun k o R hk _ hn hx=>?_) (fun _ _ _ _=>trivial) 0 o (by omega) trivial
 ·rw[Nat.sub_zero,EU (fun k=>vd qq w/256 ^ k%256) h3,U7 (by decide)]at key;exact key
 rw[Va];refine⟨fun hb=>?_,fun hb=>?_⟩
 ·have jv:k<32:=by have:=of_decide_eq_true hb;omega
  have e1:i64.wrap ((k:Int).tdiv 8)=((k/8:Nat):Int):=fZ k 8 (by omega);rw[e1,RN,Ds h2,Int.toNat_natCast,Int.toNat_natCast,Nat.zero_add,JP h2.2 h2.1 (by omega),db k (by omega)];exact⟨by omega,by omega,by omega,hn jv⟩
 ·have:k=32:=by have:=of_decide_eq_false hb;omega
  exact hx this
abbrev Z2(g:List Int→List Int):dd:= [(0,dA (bq ZZ RO) 0 [Z0,kM 0,.dx 1 0 32 .u8,.dx 2 0 32 .u8,.auto] (Z1 g))]
abbrev Pf:al:=XD n9
theorem yD(g:List Int→List Int)(w:List Int):bc Tryz.prog [] (Z2 g) Pd (wA.wr (w,())) [] kR=
 End.need ((0:Int)=(0:Int)∧okW w∧(32:Nat)=(32:Nat)) (End.leaf (LV.one (VV.agg [SV.arr (Ty.int IntKind.u8) (32:Nat) (g w)])) []):=by kernel_rfl
theorem F5:Pf.Ok Tryz.prog 243:=by
 refine(al.bb call243 fun x_ y_ Q H_=>?_).sym;obtain⟨w,_⟩:=x_;obtain⟨hn,hq⟩:=H_;have hn:okW w:=hn;refine(au mixed aw func243 rfl (LT:=Z2 n9) (ks:=kR) (aS.bW (kQ rfl (b7 (hp:= []) Pe) ly))).use (D:= []) ?_ hq;show(bc _ _ _ _ (wA.wr (w,())) [] _).sat _;rw[yD];exact⟨⟨rfl,hn,rfl⟩,rfl,rfl⟩
abbrev leFn:Func:=f178
abbrev Z3:aH (List LV) (Int×Int×Unit):=(jk 2 (aq (ak (a6 0 0)) (aq (ak (a6 1 0)) (aq (ak (a6 2 0)) (jk 1 (ab (ak (ay .u64)) (jk 1 (ab (ak (ay .i64)) (jk 18 ae)))))))))
abbrev Z4:Wk:=.fr (cR 27 [(2,.ao),(3,.ao),(4,.ao),(6,.sym),(8,.sym)])
abbrev leX:aH (List LV) (Int×Unit):=(jk 2 (aq (ak (a6 0 0)) (jk 1 (aq (ak (a6 2 0)) (jk 1 (ab (ak (ay .u64)) (jk 20 ae)))))))
abbrev ae9:Wk:=.fr (cR 27 [(2,.ao),(4,.ao),(6,.sym)])
abbrev zB:aH Hp (List Int×List Int×List Int×Unit):=ab iW (ab iW (ab iW ae))
def leW:Exit→List Wk
 | .normal=> [Z4,kM 0,kM 1,kM 2,.auto]
 | .exit 0=> [ae9,kM 0,kM 1,kM 2]
 |_=> []
theorem Vb(sb:Int→Int→Int→Int×Int)(c i:Int)(w x r:List Int):gV Tryz.prog [(217,(iC sb).sym)] [] leFn 0 [] leW ((bq Z3 zB).wr ((c,i,()),(w,x,r,())))=
 aV.ite (decide (i<(8:Int))) (aV.need ((0:Int)≤i∧i<(8:Int)) (aV.need ((0:Int)≤i∧i<(8:Int)) (aV.need ((0:Int)≤c∧c≤(1
 :Int)) (aV.need ((0:Int)≤i∧i<(8:Int)) (aV.leaf Exit.normal ((bq Z3 zB).wr (((sb ((List.take (8:Nat) (List.drop (0:Nat) w)).getD
 i.toNat (0:Int)) ((List.take (8:Nat) (List.drop (0:Nat) x)).getD i.toNat (0:Int)) c).snd,i64.wrap (i+(1:Int)),PUnit.unit),w.set
 ((0:Nat)+i.toNat) (sb ((List.take (8:Nat) (List.drop (0:Nat) w)).getD i.toNat (0:Int)) ((List.take (8:Nat) (List.drop (0:Nat) x)).getD
 i.toNat (0:Int)) c).fst,x,r,PUnit.unit))))))) (aV.leaf (Exit.exit (0:Nat)) ((bq leX zB).wr ((c,PUnit.unit),w,x,r,PUnit.unit))):=by kernel_rfl
def Z5(g:List Int→List Int→List Int×Int)(x:(Int×Int×Unit)×List Int×List Int×List Int×Unit):aV:=.need (x.1.1=0∧x.1.2.1=0∧okW x.2.1∧okW x.2.2.1) (.leaf (.exit 0) ((bq leX zB).wr (((g x.2.1 x.2.2.1).2,()),((g x.2.1 x.2.2.1).1,x.2.2.1,x.2.2.2.1,()))))
abbrev Vc:al:=(iC iA).sym
theorem JV:Vc.Ok Tryz.prog 217:=(AO func217 (by kernel_rfl) (by kernel_rfl) (by kernel_rfl) (by kernel_rfl) rfl).sym
theorem yE:∀p∈ [(217,(iC iA).sym)],p.2.Ok Tryz.prog p.1:=aj JV aw
theorem Pg(x):Ex Tryz.prog [] (.loop (aY leFn 0)) ((bq Z3 zB).wr x) (Z5 dL x):=by
 obtain⟨⟨c,i,_⟩,w,x,r,_⟩:=x;refine Ex.need fun⟨h1,h2,h3,h4⟩=>?_;simp only at h1 h2 h3 h4;subst h1 h2
 have key:=eQ (fn:=leFn) (id:=0) (j:=0) (ws:=leW) (hp:= []) mixed yE (aS.nil _) 8 (fun k (o:List Int×Int)=>(bq Z3 zB).wr ((o.2,(k:Int),()),(o.1,x,r,()))) (fun(o:List Int×Int)=>(bq leX zB).wr ((o.2,()),(o.1,x,r,()))) (s7 iA x) (Dp w x)
  (fun k o R hk hi hn hx=>?_) (fun k o hk hi=>s8 h3.2 h4.2 h3.1 h4.1 hk hi) 0 (w,0) (by omega) ⟨⟨h3.1,h3.2,fun _ _=>rfl⟩,.inl rfl,by simp[vd]⟩
 ·rw[Nat.sub_zero,JQ h3.2 h4.2 h3.1 h4.1]at key;exact key
 rw[Vb iA];refine⟨fun hb=>?_,fun hb=>?_⟩
 ·have jv:k<8:=by have:=of_decide_eq_true hb;omega
  rw[bM hi.1.len,Ds h4,Int.toNat_natCast,Nat.zero_add,db k (by omega)];exact⟨by omega,by omega,(by rcases hi.2.1 with e|e<;>rw[e]<;>decide),by omega,hn jv⟩
 ·have:k=8:=by have:=of_decide_eq_false hb;omega
  exact hx this
abbrev Z6(g:List Int→List Int→List Int×Int):dd:= [(0,dA (bq Z3 zB) 0 [Z4,kM 0,kM 1,kM 2,.auto] (Z5 g))]
abbrev Vd:al:=yC dL
theorem Bi(sb:Int→Int→Int→Int×Int)(g:List Int→List Int→List Int×Int)(w x:List Int):bc Tryz.prog [(217,(iC sb).sym)] (Z6 g) leFn (XC.wr (w,x,())) [] [.fr [.sym],.gU 0 0 8 .u64,.auto]=
 End.need ((0:Int)=(0:Int)∧(0:Int)=(0:Int)∧okW w∧okW x) (End.leaf (LV.bV [VV.agg [SV.arr (Ty.int u64) (8:Nat) (g w x).fst],
 VV.sc (SV.int u64 (SI.sym (g w x).snd))]) []):=by kernel_rfl
theorem yF:Vd.Ok Tryz.prog 178:=by
 refine(al.bb call178 fun x_ y_ Q H_=>?_).sym;obtain⟨w,x,_⟩:=x_;obtain⟨hn,hq⟩:=H_;have hn:okW w∧okW x:=hn;refine(au mixed yE func178 rfl (LT:=Z6 dL) (ks:= [.fr [.sym],.gU 0 0 8 .u64,.auto]) (aS.bW (kQ rfl (b7 (hp:= []) Pg) ly))).use (D:= []) ?_ hq;show(bc _ _ _ _ (XC.wr (w,x,())) [] _).sat _;rw[Bi iA];exact⟨⟨rfl,rfl,hn.1,hn.2⟩,rfl,rfl⟩
abbrev Ph:Func:=f241
abbrev Z7:aH (List LV) (Int×Int×Unit):=(jk 2 (aq (ak (a6 0 0)) (aq (ak (a6 1 0)) (aq (ak (a6 2 0)) (ab (ak (ay .u64)) (jk 1 (ab (ak (ay .i64)) (jk 17 ae))))))))
abbrev Z8:Wk:=.fr (cR 25 [(2,.ao),(3,.ao),(4,.ao),(5,.sym),(7,.sym)])
abbrev anX:aH (List LV) (Unit):=(jk 2 (aq (ak (a6 0 0)) (jk 1 (aq (ak (a6 2 0)) (jk 20 ae)))))
abbrev afb:Wk:=.fr (cR 25 [(2,.ao),(4,.ao)])
def anW:Exit→List Wk
 | .normal=> [Z8,kM 0,kM 1,kM 2,.auto]
 | .exit 0=> [afb,kM 0,kM 1,kM 2]
 |_=> []
theorem Ve(ad:Int→Int→Int→Int×Int)(c i:Int)(w x r:List Int):gV Tryz.prog [(253,(iC ad).sym)] [] Ph 0 [] anW ((bq Z7 zB).wr ((c,i,()),(w,x,r,())))=
 aV.ite (decide (i<(8:Int))) (aV.need ((0:Int)≤i∧i<(8:Int)) (aV.need ((0:Int)≤i∧i<(8:Int)) (aV.need ((0:Int)≤c∧c≤(1
 :Int)) (aV.need ((0:Int)≤i∧i<(8:Int)) (aV.leaf Exit.normal ((bq Z7 zB).wr (((ad ((List.take (8:Nat) (List.drop (0:Nat) w)).getD
 i.toNat (0:Int)) ((List.take (8:Nat) (List.drop (0:Nat) x)).getD i.toNat (0:Int)) c).snd,i64.wrap (i+(1:Int)),PUnit.unit),w.set
 ((0:Nat)+i.toNat) (ad ((List.take (8:Nat) (List.drop (0:Nat) w)).getD i.toNat (0:Int)) ((List.take (8:Nat) (List.drop (0:Nat) x)).getD
 i.toNat (0:Int)) c).fst,x,r,PUnit.unit))))))) (aV.leaf (Exit.exit (0:Nat)) ((bq anX zB).wr (PUnit.unit,w,x,r,PUnit.unit))):=by kernel_rfl
def Z9(g:List Int→List Int→List Int)(x:(Int×Int×Unit)×List Int×List Int×List Int×Unit):aV:=.need (x.1.1=0∧x.1.2.1=0∧okW x.2.1∧okW x.2.2.1) (.leaf (.exit 0) ((bq anX zB).wr ((),(g x.2.1 x.2.2.1,x.2.2.1,x.2.2.2.1,()))))
theorem yG:∀p∈ [(253,(iC cr).sym)],p.2.Ok Tryz.prog p.1:=aj yb aw
theorem Pj(x):Ex Tryz.prog [] (.loop (aY Ph 0)) ((bq Z7 zB).wr x) (Z9 iE x):=by
 obtain⟨⟨c,i,_⟩,w,x,r,_⟩:=x;refine Ex.need fun⟨h1,h2,h3,h4⟩=>?_;simp only at h1 h2 h3 h4;subst h1 h2
 have key:=eQ (fn:=Ph) (id:=0) (j:=0) (ws:=anW) (hp:= []) mixed yG (aS.nil _) 8 (fun k (o:List Int×Int)=>(bq Z7 zB).wr ((o.2,(k:Int),()),(o.1,x,r,()))) (fun(o:List Int×Int)=>(bq anX zB).wr ((),(o.1,x,r,()))) (s9 cr x) (O7 w x)
  (fun k o R hk hi hn hx=>?_) (fun k o hk hi=>yy h3.2 h4.2 h3.1 h4.1 hk hi) 0 (w,0) (by omega) ⟨⟨h3.1,h3.2,fun _ _=>rfl⟩,.inl rfl,by simp[vd]⟩
 ·rw[Nat.sub_zero,O8 h3.2 h4.2 h3.1 h4.1]at key;exact key
 rw[Ve cr];refine⟨fun hb=>?_,fun hb=>?_⟩
 ·have jv:k<8:=by have:=of_decide_eq_true hb;omega
  rw[bM hi.1.len,Ds h4,Int.toNat_natCast,Nat.zero_add,db k (by omega)];exact⟨by omega,by omega,(by rcases hi.2.1 with e|e<;>rw[e]<;>decide),by omega,hn jv⟩
 ·have:k=8:=by have:=of_decide_eq_false hb;omega
  exact hx this
abbrev aaa(g:List Int→List Int→List Int):dd:= [(0,dA (bq Z7 zB) 0 [Z8,kM 0,kM 1,kM 2,.auto] (Z9 g))]
abbrev aab:al:=eWW iE
theorem F6(ad:Int→Int→Int→Int×Int)(g:List Int→List Int→List Int)(w x:List Int):bc Tryz.prog [(253,(iC ad).sym)] (aaa g) Ph (XC.wr (w,x,())) [] [.fr [.sym],.gU 0 0 8 .u64,.auto]=
 End.need ((0:Int)=(0:Int)∧(0:Int)=(0:Int)∧okW w∧okW x) (End.leaf (LV.one (VV.agg [SV.arr (Ty.int u64) (8:Nat) (g w x)]))
 []):=by kernel_rfl
theorem Pk:aab.Ok Tryz.prog 241:=by
 refine(al.bb call241 fun x_ y_ Q H_=>?_).sym;obtain⟨w,x,_⟩:=x_;obtain⟨hn,hq⟩:=H_;have hn:okW w∧okW x:=hn;refine(au mixed yG func241 rfl (LT:=aaa iE) (ks:= [.fr [.sym],.gU 0 0 8 .u64,.auto]) (aS.bW (kQ rfl (b7 (hp:= []) Pj) ly))).use (D:= []) ?_ hq;show(bc _ _ _ _ (XC.wr (w,x,())) [] _).sat _;rw[F6 cr];exact⟨⟨rfl,rfl,hn.1,hn.2⟩,rfl,rfl⟩
abbrev Vf:al:=ZT iZ
theorem Bj(w:List Int)(i:Int):bc Tryz.prog [] [] f242 (wiA.wr (w,i,())) [] kK=
 End.need ((0:Int)≤i64.wrap (i.tdiv (64:Int))∧i64.wrap (i.tdiv (64:Int))<(8:Int)) (End.need ((0:Int)≤i.tmod (64:
 Int)) (End.leaf (LV.one (VV.sc (SV.int u64 (SI.sym (bl u64 (shr u64 ((List.take (8:Nat) (List.drop (0:Nat) w)).getD
 (i64.wrap (i.tdiv (64:Int))).toNat (0:Int)) (i.tmod (64:Int))) (1:Int)))))) [])):=by kernel_rfl
theorem JW:Vf.Ok Tryz.prog 242:=by
 refine(al.bb call242 fun x_ y_ Q H_=>?_).sym;obtain⟨w,i,_⟩:=x_;obtain⟨hn,hq⟩:=H_;have hn:okW w∧0≤i∧i<512:=hn;refine(au mixed aw func242 rfl (LT:= []) (ks:=kK) (aS.nil _)).use (D:= []) ?_ hq;show(bc _ _ _ _ (wiA.wr (w,i,())) [] _).sat _;rw[Bj];obtain⟨hw,h0,h1⟩:=hn;obtain⟨k,rfl⟩:=Int.eq_ofNat_of_zero_le h0;have hk:k<512:=by omega
 have e1:i64.wrap ((k:Int).tdiv 64)=((k/64:Nat):Int):=fZ k 64 (by omega);rw[e1,show(k:Int).tmod 64=((k%64:Nat):Int)from RK k 64,Ds hw,Int.toNat_natCast,F4 hw.2 hw.1 hk];exact⟨by omega,by omega,rfl,rfl⟩
abbrev Pm:al:=ZU cO
theorem yH:bc Tryz.prog [] [] f179 [] [] [.fr [.sym],.gU 0 0 8 .u64,.auto]= .leaf (fX .u64 8 cO) []:=by kernel_rfl
theorem tc:Pm.Ok Tryz.prog 179:=by
 refine(al.bb call179 fun x_ y_ Q H_=>?_).sym;refine(au mixed aw func179 rfl (LT:= []) (ks:= [.fr [.sym],.gU 0 0 8 .u64,.auto]) (aS.nil _)).use (D:= []) ?_ H_.2;show(bc _ _ _ _ [] [] _).sat _;rw[yH];exact⟨rfl,rfl⟩
abbrev Po:Func:=f220
abbrev XE:aH (List LV) (Int×Unit):=(jk 1 (aq (ak (a6 0 0)) (aq (ak (a6 1 0)) (aq (ak (a6 2 0)) (ab (ak (ay .i64)) (jk 27 ae))))))
abbrev aac:Wk:=.fr (cR 32 [(1,.ao),(2,.ao),(3,.ao),(4,.sym)])
abbrev reX:aH (List LV) (Unit):=(jk 2 (aq (ak (a6 1 0)) (aq (ak (a6 2 0)) (jk 28 ae))))
abbrev afd:Wk:=.fr (cR 32 [(2,.ao),(3,.ao)])
abbrev Pp:aH Hp (List Int×List Int×List Int×Unit):=ab iW (ab iB (ab iW ae))
def reW:Exit→List Wk
 | .normal=> [aac,kM 0,.dx 1 0 32 .u8,kM 2,.auto]
 | .exit 0=> [afd,kM 0,.dx 1 0 32 .u8,kM 2]
 |_=> []
abbrev JX(and:List Int→List Int→List Int)(less:List Int→List Int→List Int×Int)(bit:List Int→Int→Int)(o:List Int):List (FuncId×al):= [(241,eWW and),(242,ZT bit),(178,yC less),(179,ZU o)]
theorem Vg(and:List Int→List Int→List Int)(less:List Int→List Int→List Int×Int)(bit:List Int→Int→Int)(o:List Int)(i:Int)(w b r:List Int):gV Tryz.prog (JX and less bit o) [] Po 0 [] reW ((bq XE Pp).wr ((i,()),(w,b,r,())))=
 aV.ite (decide ((0:Int)≤i)) (aV.need (okW r∧okW r) (aV.need (okW w∧(0:Int)≤i∧i<(512:Int)) (aV.need (okW ((and r r).set (0:Nat)
 (bf u64 ((and r r).getD (0:Nat) (0:Int)) (bit w i)))∧okW o) (aV.ite ((less ((and r r).set (0:Nat) (bf u64 ((and r
 r).getD (0:Nat) (0:Int)) (bit w i))) o).snd==(0:Int)) (aV.leaf Exit.normal ((bq XE Pp).wr ((i64.wrap (i-(1:Int)),PUnit.unit),
 w,b,(less ((and r r).set (0:Nat) (bf u64 ((and r r).getD (0:Nat) (0:Int)) (bit w i))) o).fst,PUnit.unit))) (aV.leaf Exit.normal
 ((bq XE Pp).wr ((i64.wrap (i-(1:Int)),PUnit.unit),w,b,(and r r).set (0:Nat) (bf u64 ((and r r).getD (0:Nat) (0:
 Int)) (bit w i)),PUnit.unit))))))) (aV.leaf (Exit.exit (0:Nat)) ((bq reX Pp).wr (PUnit.unit,w,b,r,PUnit.unit))):=by kernel_rfl
theorem yI:∀p∈JX iE dL iZ cO,p.2.Ok Tryz.prog p.1:=aj Pk (aj JW (aj yF (aj tc aw)))
def aad(g:List Int→List Int)(x:(Int×Unit)×List Int×List Int×List Int×Unit):aV:=.need (x.1.1=511∧okW x.2.1∧x.2.2.2.1=List.replicate 8 0) (.leaf (.exit 0) ((bq reX Pp).wr ((),(x.2.1,x.2.2.1,g x.2.1,()))))
def yJ(w:List Int):List Int:=dg qq 8 (vd qq w%ll)
def dt(V:Int)(k:Nat):List Int:=dg qq 8 (V/2 ^ (512-k)%ll)
theorem F7(V:Int)(k:Nat)(hk:k<512)(b:Int)(hb:0≤b∧b<2):okW (dt V k)∧okW (gZ (iE (dt V k) (dt V k)) b):=by
 refine⟨⟨bY _ _,mR bw _ _⟩,?_⟩;have hR:0≤V/2 ^ (512-k)%ll∧V/2 ^ (512-k)%ll<ll:=⟨Int.emod_nonneg _ (by have:=ke;omega),Int.emod_lt_of_pos _ ke⟩
 have es:iE (dt V k) (dt V k)=dg qq 8 (V/2 ^ (512-k)%ll+V/2 ^ (512-k)%ll):=by
  unfold iE dt;rw[mT bw,Int.emod_eq_of_lt hR.1 (Int.lt_of_lt_of_le (Int.lt_trans (by omega) yA) ZS)]
 rw[es,Dq hR hb];exact⟨bY _ _,mR bw _ _⟩
theorem Pq(x):Ex Tryz.prog [] (.loop (aY Po 0)) ((bq XE Pp).wr x) (aad yJ x):=by
 obtain⟨⟨i,_⟩,w,b,r,_⟩:=x;refine Ex.need fun⟨h1,h2,h3⟩=>?_;simp only at h1 h2 h3;subst h1 h3;have X4:=dy bw h2.2;have hw1:=mS bw h2.2;rw[h2.1]at hw1
 have key:=eQ (fn:=Po) (id:=0) (j:=0) (ws:=reW) (hp:= []) mixed yI (aS.nil _) 512 (fun k (_:Unit)=>(bq XE Pp).wr ((511-(k:Int),()),(w,b,dt (vd qq w) k,()))) (fun _=>(bq reX Pp).wr ((),(w,b,yJ w,()))) (fun _ u=>u) (fun _ _=>True)
  (fun k o R hk _ hn hx=>?_) (fun _ _ _ _=>trivial) 0 () (by omega) trivial
 ·have e:dt (vd qq w) 0=List.replicate 8 0:=by
   unfold dt;have e:qq ^ 8=2 ^ 512:=(by decide+kernel);rw[Nat.sub_zero,Int.ediv_eq_zero_of_lt X4 (by rw[← e];exact hw1),Int.zero_emod,Dn bw]
  rw[e]at key;exact key
 rw[Vg];refine⟨fun hb=>?_,fun hb=>?_⟩
 ·have jv:k<512:=by have:=of_decide_eq_true hb;omega
  have e3:i64.wrap ((511-(k:Int))-1)=511-((k+1:Nat):Int):=by rw[ar (by omega) (by omega)];omega
  obtain⟨g1,g2⟩:=F7 (vd qq w) k jv (iZ w (511-(k:Int))) (O9 _ _);have hs:Bh iE dL iZ cO w k (dt (vd qq w) k)=dt (vd qq w) (k+1):=JR rfl jv;have rP:=hn jv;rw[e3];refine⟨⟨g1,g1⟩,⟨h2,by omega,by omega⟩,⟨g2,yz⟩,fun hc=>?_,fun hc=>?_⟩
  ·have:Bh iE dL iZ cO w k (dt (vd qq w) k)=(dL (gZ (iE (dt (vd qq w) k) (dt (vd qq w) k)) (iZ w (511-(k:Int)))) cO).1:=by
    have lb:((dL (gZ (iE (dt (vd qq w) k) (dt (vd qq w) k)) (iZ w (511-(k:Int)))) cO).2==0)=true:=hc;unfold Bh;rw[lb];rfl
   rw[← hs,this]at rP;exact rP
  ·have:Bh iE dL iZ cO w k (dt (vd qq w) k)=gZ (iE (dt (vd qq w) k) (dt (vd qq w) k)) (iZ w (511-(k:Int))):=by
    have lb:((dL (gZ (iE (dt (vd qq w) k) (dt (vd qq w) k)) (iZ w (511-(k:Int)))) cO).2==0)=false:=hc;unfold Bh;rw[lb];rfl
   rw[← hs,this]at rP;exact rP
 ·have:k=512:=by have:=of_decide_eq_false hb;omega
  subst this;have:=hx rfl;have e:dt (vd qq w) 512=yJ w:=by unfold dt yJ;rw[Nat.sub_self,Int.pow_zero,Int.ediv_one]
  rw[e];exact this
abbrev aae(g:List Int→List Int):dd:= [(0,dA (bq XE Pp) 0 [aac,kM 0,.dx 1 0 32 .u8,kM 2,.auto] (aad g))]
abbrev aaf:al:=XD yB
abbrev JY(and:List Int→List Int→List Int)(less:List Int→List Int→List Int×Int)(bit:List Int→Int→Int)(o:List Int)(OU:List Int→List Int):List (FuncId×al):=(243,XD OU)::JX and less bit o
theorem F8:∀p∈JY iE dL iZ cO n9,p.2.Ok Tryz.prog p.1:=aj F5 yI
theorem F9(and:List Int→List Int→List Int)(less:List Int→List Int→List Int×Int)(bit:List Int→Int→Int)(o:List Int)(OU:List Int→List Int)(g:List Int→List Int)(w:List Int):bc Tryz.prog (JY and less bit o OU) (aae g) Po (wA.wr (w,())) [] kR=
 End.need ((511:Int)=(511:Int)∧okW w∧ [(0:Int),(0:Int),(0:Int),(0:Int),(0:Int),(0:Int),(0:Int),(0:Int)]=List.replicate
 (8:Nat) (0:Int)) (End.need (okW (g w)) (End.leaf (LV.one (VV.agg [SV.arr (Ty.int IntKind.u8) (32:Nat) (OU (g w))])) [])):=by kernel_rfl
theorem Pr(w:List Int):okW (yJ w):=⟨bY _ _,mR bw _ _⟩
theorem Vh(w:List Int):n9 (yJ w)=yB w:=by
 unfold n9 yB yJ;rw[mT bw,Int.emod_eq_of_lt (Int.emod_nonneg _ (by have:=ke;omega)) (Int.lt_of_lt_of_le (Int.lt_trans (Int.emod_lt_of_pos _ ke) (by have:=yA;have:=ke;omega)) ZS)]
theorem Ps:aaf.Ok Tryz.prog 220:=by
 refine(al.bb call220 fun x_ y_ Q H_=>?_).sym;obtain⟨w,_⟩:=x_;obtain⟨hn,hq⟩:=H_;have hn:okW w:=hn;refine(au mixed F8 func220 rfl (LT:=aae yJ) (ks:=kR) (aS.bW (kQ rfl (b7 (hp:= []) Pq) ly))).use (D:= []) ?_ hq;show(bc _ _ _ _ (wA.wr (w,())) [] _).sat _;rw[F9];refine⟨⟨rfl,hn,rfl⟩,Pr w,?_,rfl⟩;rw[Vh]
abbrev Vi:aH (List LV) (List Int×Unit):=ab (Ae .u8 64) ae
def u7(b:List Int):Bool:=decide (vd 256 b<ll)
def yK(b:List Int):List Int:=dg 256 32 (vd 256 b%ll)
def eBB(g:List Int→Bool):al:=al.cl [] mN ae fun x _=>.leaf (some (okB x.1)) (nB (g x.1)) []
def Pu(g:List Int→List Int):al:=al.cl [] Vi ae fun x _=>.leaf (some (x.1.length=64∧aA x.1)) (fX .u8 32 (g x.1)) []
theorem JZ(b:List Int):okW (pr b):=JS b
theorem okB.val{b:List Int}(h:okB b):vd qq (pr b)=vd 256 b:=Dr h.2 (by rw[h.1];decide)
theorem okB.range{b:List Int}(h:okB b):0≤vd 256 b∧vd 256 b<2 ^ 256:=by
 have h1:=dy (by decide) (show eu 256 b from h.2);have h2:=mS (by decide) (show eu 256 b from h.2);have e:(256:Int) ^ 32=2 ^ 256:=by decide+kernel
 rw[h.1,e]at h2;exact⟨h1,h2⟩
abbrev Pv:al:=eBB u7
theorem yL(o:List Int)(of:List Int→List Int)(less:List Int→List Int→List Int×Int)(b:List Int):bc Tryz.prog [(179,ZU o),(177,U8 of),(178,yC less)] [] f139 ((mN).wr (b,())) [] kK=
 End.need ((0:Int)≤(0:Int)∧(0:Int)≤(32:Int)∧(32:Int)≤(32:Int)) (End.need (aA (List.take (32:Nat) (List.drop (0:Nat) b))∧
 (List.take (32:Nat) (List.drop (0:Nat) b)).length≤(64:Nat)) (End.need (okW (of (List.take (32:Nat) (List.drop (0:Nat) b)))∧okW o)
 (End.leaf (LV.one (VV.sc (SV.bool (SB.sym ((less (of (List.take (32:Nat) (List.drop (0:Nat) b))) o).snd==(1:Int)))))) []))):=by kernel_rfl
theorem yM:∀p_∈([(179,ZU cO),(177,U8 pr),(178,yC dL)]:List (FuncId×al)),p_.2.Ok Tryz.prog p_.1:=(aj tc (aj JU (aj yF aw)))
theorem Ga:Pv.Ok Tryz.prog 139:=by
 refine(al.bb call139 fun x_ y_ Q H_=>?_).sym;obtain⟨b,_⟩:=x_;obtain⟨hn,hq⟩:=H_;have hn:okB b:=hn;refine(au (tab:= [(179,ZU cO),(177,U8 pr),(178,yC dL)]) mixed yM func139 rfl (LT:= []) (ks:=kK) (aS.nil _)).use (D:= []) ?_ hq;show(bc _ _ _ _ ((mN).wr (b,())) [] _).sat _;rw[yL cO pr dL];rw[bM hn.1];refine⟨by decide,⟨hn.2,by rw[hn.1];decide⟩,⟨JZ b,yz⟩,?_,rfl⟩
 have:((dL (pr b) cO).2==1)=u7 b:=by
  unfold dL u7;rw[hn.val,ta]
  by_cases h:vd 256 b<ll
  ·rw[if_pos h,decide_eq_true h];rfl
  ·rw[if_neg h,decide_eq_false h];rfl
 rw[this]
abbrev J0:al:=Pu yK
theorem u9(of:List Int→List Int)(red:List Int→List Int)(b:List Int):bc Tryz.prog [(177,U8 of),(220,XD red)] [] f185 ((Vi).wr (b,())) [] kR=
 End.need ((0:Int)≤(0:Int)∧(0:Int)≤(64:Int)∧(64:Int)≤(64:Int)) (End.need (aA (List.take (64:Nat) (List.drop (0:Nat) b))∧
 (List.take (64:Nat) (List.drop (0:Nat) b)).length≤(64:Nat)) (End.need (okW (of (List.take (64:Nat) (List.drop (0:Nat) b)))) (End.leaf
 (LV.one (VV.agg [SV.arr (Ty.int IntKind.u8) (32:Nat) (red (of (List.take (64:Nat) (List.drop (0:Nat) b))))])) []))):=by kernel_rfl
theorem vf:∀p_∈([(177,U8 pr),(220,XD yB)]:List (FuncId×al)),p_.2.Ok Tryz.prog p_.1:=(aj JU (aj Ps aw))
theorem Bk:J0.Ok Tryz.prog 185:=by
 refine(al.bb call185 fun x_ y_ Q H_=>?_).sym;obtain⟨b,_⟩:=x_;obtain⟨hn,hq⟩:=H_;have hn:b.length=64∧aA b:=hn;refine(au (tab:= [(177,U8 pr),(220,XD yB)]) mixed vf func185 rfl (LT:= []) (ks:=kR) (aS.nil _)).use (D:= []) ?_ hq;show(bc _ _ _ _ ((Vi).wr (b,())) [] _).sat _;rw[u9 pr yB];rw[bM hn.1];refine⟨by decide,⟨hn.2,by rw[hn.1];decide⟩,JZ b,?_,rfl⟩;have:yB (pr b)=yK b:=by unfold yB yK;rw[Dr hn.2 (by rw[hn.1];decide)]
 rw[this]
def J1(g:List Int→List Int):al:=al.cl [some (.sl u8)] rrA ae fun x _=>.leaf (some (x.1.length<2305843009213693952∧x.1.flatten.length<1152921504606846976)) (fX .u8 64 (g x.1.flatten)) []
theorem aah:ofE=J1 kL:=by kernel_rfl
theorem Vj:(J1 kL).Ok Tryz.prog 118:=aah▸Rv
def Gb:List Int:= [83,105,103,69,100,50,53,53,49,57,32,110,111,32,69,100,50,53,53,49,57,32,99,111,108,108,105,115,105,111,110,115]
def oX(c:List Int):List Int:=if c.length≤255 then Gb++([1,(c.length:Int)]++c)else []
def Pw(g:List Int→List Int):al:=al.cl [some u8] bA ae fun x _=>.leaf none (.one (.sc (.sl 0 0))) [(0,.own 0 u8 (g x.1))]
abbrev afe:al:=Pw oX
theorem yN(c:List Int):bc Tryz.prog [(78,N4)] [] f186 (bA.wr (c,())) [] [.mo 0 u8,.auto,.ba]=
 End.ite (decide ((255:Int)<(↑c.length:Int))) (End.leaf (LV.one (VV.sc (SV.sl (0:Nat) (0:Nat)))) [some (Item.own (0:Nat) (Ty.int IntKind.u8)
 [])]) (End.need ([[(83:Int),(105:Int),(103:Int),(69:Int),(100:Int),(50:Int),(53:Int),(53:Int),(49:Int),(57:Int),(32:
 Int),(110:Int),(111:Int),(32:Int),(69:Int),(100:Int),(50:Int),(53:Int),(53:Int),(49:Int),(57:Int),(32:Int),(99:
 Int),(111:Int),(108:Int),(108:Int),(105:Int),(115:Int),(105:Int),(111:Int),(110:Int),(115:Int)],[(1:Int),IntKind.u8.wrap
 (↑c.length:Int)],c].flatten.length≤(70368744177664:Nat)∧(3:Nat)≤(140737488355328:Nat)) (End.leaf (LV.one (VV.sc (SV.sl (0:Nat) (0:
 Nat)))) [some (Item.own (0:Nat) (Ty.int IntKind.u8) [[(83:Int),(105:Int),(103:Int),(69:Int),(100:Int),(50:Int),(53:Int),(53:
 Int),(49:Int),(57:Int),(32:Int),(110:Int),(111:Int),(32:Int),(69:Int),(100:Int),(50:Int),(53:Int),(53:Int),(49:
 Int),(57:Int),(32:Int),(99:Int),(111:Int),(108:Int),(108:Int),(105:Int),(115:Int),(105:Int),(111:Int),(110:Int),(115
 :Int)],[(1:Int),IntKind.u8.wrap (↑c.length:Int)],c].flatten)])):=by kernel_rfl
theorem Vk:afe.Ok Tryz.prog 186:=by
 refine(al.bb call186 fun x_ y_ Q H_=>?_).sym;obtain⟨c,_⟩:=x_;refine(au mixed (aj lA aw) func186 rfl (LT:= []) (ks:= [.mo 0 u8,.auto,.ba]) (aS.nil _)).use (D:= [(0,.own 0 u8 (oX c))]) ?_ H_.2;show(bc _ _ _ _ (bA.wr (c,())) [] _).sat _;rw[yN];refine⟨fun h=>?_,fun h=>?_⟩
 ·have h:=of_decide_eq_true h;have e:oX c= []:=if_neg (by omega);rw[e];exact⟨rfl,rfl⟩
 ·have h:=of_decide_eq_false h;have e:oX c=Gb++([1,(c.length:Int)]++c):=if_pos (by omega);have ew:IntKind.u8.wrap (c.length:Int)=c.length:=by rw[wrap_u8];omega
  rw[e,ew];refine⟨⟨by simp;omega,by decide⟩,rfl,?_⟩;have e2:ax [(0,Ev.Item.own 0 u8 (Gb++([1,(c.length:Int)]++c)))] (ae.wr y_)= [some (Ev.Item.own 0 u8 (Gb++([1,(c.length:Int)]++c)))]:=rfl;rw[e2];simp[Gb]
abbrev J2:aH LV (List Int):=Ae .u8 64
abbrev chA:aH (List LV) (List Int×List Int×List Int×List Int×Unit):=ab (ak (g9 false false u8)) (ab cB (ab cB (ab J2 ae)))
def eCh(g:List Int→List Int→List Int→List Int→List Int):al:=al.cl [some u8,none,none,none] chA ae fun x _=>.leaf (some (x.2.1.length=32∧x.2.2.1.length=32∧x.2.2.2.1.length=64)) (fX .u8 32 (g x.1 x.2.1 x.2.2.1 x.2.2.2.1)) []
def mW(c r p m:List Int):List Int:=yK (kL (oX c++(r++(p++m))))
theorem J3(x:Int):aA (cw x):=fun z hz=>by
 obtain⟨i,_,rfl⟩:=List.mem_map.1 hz;rw[wrap_u8];unfold By;omega
theorem Vl(b:List Int):aA (kL b):=by
 have key:∀ (l:List Nat) (s a:List Int),aA a→aA (l.foldl (fun a i=>a++cw (s.getD i 0)) a):=by
  intro l s
  induction l with
  |nil=>exact fun a h=>h
  |cons i l ih=>exact fun a h=>ih _ (h.append (J3 _))
 exact key _ _ [] (fun z hz=>by cases hz)
theorem Px(b:List Int):okB (yK b):=⟨bY _ _,mR (by decide) _ _⟩
theorem Py(c:List Int):(oX c).length≤289:=by unfold oX Gb;split<;>simp;omega
abbrev aaj:al:=eCh mW
theorem Gc(sha pre red:List Int→List Int)(c r p m:List Int):bc Tryz.prog [(118,J1 sha),(186,Pw pre),(185,Pu red)] [] f141 ((chA).wr (c,r,p,m,())) [] kK=
 End.need ((0:Int)≤(0:Int)∧(0:Int)≤(32:Int)∧(32:Int)≤(32:Int)) (End.need ((0:Int)≤(0:Int)∧(0:Int)≤(32:Int)∧(32:
 Int)≤(32:Int)) (End.need ((0:Int)≤(0:Int)∧(0:Int)≤(64:Int)∧(64:Int)≤(64:Int)) (End.need ((4:Nat)<(2305843009213693952:
 Nat)∧ [pre c,List.take (32:Nat) (List.drop (0:Nat) r),List.take (32:Nat) (List.drop (0:Nat) p),List.take (64:Nat) (List.drop (0:Nat)
 m)].flatten.length<(1152921504606846976:Nat)) (End.need ((sha [pre c,List.take (32:Nat) (List.drop (0:Nat) r),List.take (32:Nat) (List.drop
 (0:Nat) p),List.take (64:Nat) (List.drop (0:Nat) m)].flatten).length=(64:Nat)∧aA (sha [pre c,List.take (32:Nat) (List.drop (0:Nat)
 r),List.take (32:Nat) (List.drop (0:Nat) p),List.take (64:Nat) (List.drop (0:Nat) m)].flatten)) (End.leaf (LV.one (VV.agg [SV.arr (Ty.int
 IntKind.u8) (32:Nat) (red (sha [pre c,List.take (32:Nat) (List.drop (0:Nat) r),List.take (32:Nat) (List.drop (0:Nat) p),List.take (64:
 Nat) (List.drop (0:Nat) m)].flatten))])) []))))):=by kernel_rfl
theorem Gd:∀p_∈([(118,J1 kL),(186,Pw oX),(185,Pu yK)]:List (FuncId×al)),p_.2.Ok Tryz.prog p_.1:=(aj Vj (aj Vk (aj Bk aw)))
theorem Pz:aaj.Ok Tryz.prog 141:=by
 refine(al.bb call141 fun x_ y_ Q H_=>?_).sym;obtain⟨c,r,p,m,_⟩:=x_;obtain⟨hn,hq⟩:=H_;have hn:r.length=32∧p.length=32∧m.length=64:=hn;refine(au (tab:= [(118,J1 kL),(186,Pw oX),(185,Pu yK)]) mixed Gd func141 rfl (LT:= []) (ks:=kK) (aS.nil _)).use (D:= []) ?_ hq;show(bc _ _ _ _ ((chA).wr (c,r,p,m,())) [] _).sat _;rw[Gc kL oX yK];rw[bM hn.1,bM hn.2.1,bM hn.2.2];have h1:=Py c;have e: [oX c,r,p,m].flatten=oX c++(r++(p++m)):=by simp
 rw[e];refine⟨by decide,by decide,by decide,⟨by decide,by simp;omega⟩,⟨AH _,Vl _⟩,rfl,rfl⟩
theorem J4(c r p m:List Int):okB (mW c r p m):=by unfold mW;exact Px _
abbrev veA:aH (List LV) (List Int×List Int×List Int×List Int×Unit):=ab cB (ab (ak (g9 false false u8)) (ab J2 (ab J2 ae)))
def eVe(g:List Int→List Int→List Int→List Int→Bool):al:=al.cl [none,some u8,none,none] veA ae fun x _=>.leaf (some (x.1.length=32∧x.2.2.1.length=64∧x.2.2.2.1.length=64∧aA x.2.2.2.1)) (nB (g x.1 x.2.1 x.2.2.1 x.2.2.2.1)) []
theorem Dt:∃f:List Int→List Int→List Int→List Int→Bool,∀ (p c m g:List Int),f p c m g=((et p).2&&(decide (c.length≤255)&&(u7 (g.drop 32)&&decide (fI (u5 (mW c (g.take 32) p m) (qZ (et p).1) (g.drop 32))=g.take 32)))):=⟨fun p c m g=>(et p).2&&(decide (c.length≤255)&&(u7 (g.drop 32)&&decide (fI (u5 (mW c (g.take 32) p m) (qZ (et p).1) (g.drop 32))=g.take 32))),fun _ _ _ _=>rfl⟩
def rp:List Int→List Int→List Int→List Int→Bool:=Classical.choose Dt
theorem PA(p c m g:List Int):rp p c m g=((et p).2&&(decide (c.length≤255)&&(u7 (g.drop 32)&&decide (fI (u5 (mW c (g.take 32) p m) (qZ (et p).1) (g.drop 32))=g.take 32)))):=Classical.choose_spec Dt p c m g
theorem J5{l:List Int}(h:l.length=32):List.take 32 (List.drop 0 l)=l:=bM h
theorem vg(de:List Int→Pt×Bool)(can:List Int→Bool)(two:List Int→Pt→List Int→Pt)(ch:List Int→List Int→List Int→List Int→List Int)(neg:Pt→Pt)(en:Pt→List Int)(p c m g:List Int):bc Tryz.prog [(138,ZJ de),(139,eBB can),(140,ZN two),(141,eCh ch),(142,uU neg),(143,ZI en)] [] f103 (veA.wr (p,c,m,g,())) [] kK=
 End.need ((0:Int)≤(0:Int)∧(0:Int)≤(32:Int)∧(32:Int)≤(64:Int)) (End.need ((32:Nat)≤(List.take (32:Nat) (List.drop (0:Nat)
 g)).length) (End.need ((32:Nat)≤(List.take (32:Nat) (List.drop (0:Nat) g)).length) (End.need ((0:Int)≤(32:Int)∧(32:Int)≤(64:Int)
 ∧(64:Int)≤(64:Int)) (End.need ((32:Nat)≤(List.take (32:Nat) (List.drop (32:Nat) g)).length) (End.need ((32:Nat)≤(List.take (32:
 Nat) (List.drop (32:Nat) g)).length) (End.need (p.length=(32:Nat)) (End.ite ((!(de p).snd)==false) (End.ite (decide ((255:Int)<(↑c.length:
 Int))==false) (End.need (okB (List.take (32:Nat) (List.drop (0:Nat) (List.take (32:Nat) (List.drop (32:Nat) g))))) (End.ite (!can (List.take
 (32:Nat) (List.drop (0:Nat) (List.take (32:Nat) (List.drop (32:Nat) g))))) (End.leaf (LV.one (VV.sc (SV.bool (SB.sym false)))) []) (End.need
 ((List.take (32:Nat) (List.drop (0:Nat) (List.take (32:Nat) (List.drop (0:Nat) g)))).length=(32:Nat)∧p.length=(32:Nat)∧m.length=
 (64:Nat)) (End.need ((ch c (List.take (32:Nat) (List.drop (0:Nat) (List.take (32:Nat) (List.drop (0:Nat) g)))) p m).length=(32:Nat)∧
 (List.take (32:Nat) (List.drop (0:Nat) (List.take (32:Nat) (List.drop (32:Nat) g)))).length=(32:Nat)) (End.leaf (LV.one (VV.sc (SV.bool
 (SB.sym (decide (en (two (ch c (List.take (32:Nat) (List.drop (0:Nat) (List.take (32:Nat) (List.drop (0:Nat) g)))) p m) (neg (de p).fst)
 (List.take (32:Nat) (List.drop (0:Nat) (List.take (32:Nat) (List.drop (32:Nat) g)))))=List.take (32:Nat) (List.drop (0:Nat) (List.take
 (32:Nat) (List.drop (0:Nat) g))))))))) []))))) (End.leaf (LV.one (VV.sc (SV.bool (SB.sym false)))) [])) (End.leaf (LV.one (VV.sc (SV.bool (SB.sym
 false)))) [])))))))):=by kernel_rfl
theorem Bl(de:List Int→Pt×Bool)(can:List Int→Bool)(two:List Int→Pt→List Int→Pt)(ch:List Int→List Int→List Int→List Int→List Int)(neg:Pt→Pt)(en:Pt→List Int){p c m g:List Int}(h1:p.length=32)(h2:m.length=64)(h3:g.length=64)(h4:aA g)(h5:∀a b c d,(ch a b c d).length=32):
  ∃t_:Ev.End,bc Tryz.prog [(138,ZJ de),(139,eBB can),(140,ZN two),(141,eCh ch),(142,uU neg),(143,ZI en)] [] f103 (veA.wr (p,c,m,g,())) [] kK=t_∧t_.sat fun v cS=>v=nB ((de p).2&&(decide (c.length≤255)&&(can (g.drop 32)&&decide (en (two (ch c (g.take 32) p m) (neg (de p).1) (g.drop 32))=g.take 32))))∧cS= []:=by
 refine⟨_,vg ..,?_⟩;have l1:(g.take 32).length=32:=by rw[List.length_take,h3];decide
 have l2:(g.drop 32).length=32:=by rw[List.length_drop,h3]
 have e1:List.take 32 (List.drop 32 g)=g.drop 32:=List.take_of_length_le (by omega);have e2:List.take 32 (List.drop 0 g)=g.take 32:=by rw[List.drop_zero]
 rw[e1,e2,J5 l1,J5 l2];have hb:aA (g.drop 32):=h4.drop 32;generalize de p=d at*;generalize g.take 32=r at*;generalize g.drop 32=s at*;obtain⟨a,ok⟩:=d;refine⟨by decide,by omega,by omega,by decide,by omega,by omega,h1,?_⟩
 cases ok
 ·exact⟨fun h=>(by cases h),fun _=>⟨rfl,rfl⟩⟩
 ·refine⟨fun _=>⟨fun h=>⟨⟨l2,hb⟩,fun h'=>?_,fun h'=>⟨⟨l1,h1,h2⟩,⟨h5 _ _ _ _,l2⟩,?_,rfl⟩⟩,fun h=>?_⟩,fun h=>(by cases h)⟩
  ·have h':can s=false:=(by simpa using h');rw[h'];simp;exact⟨rfl,rfl⟩
  ·have h':can s=true:=(by simpa using h');have h:c.length≤255:=(by simp at h;omega);rw[h',decide_eq_true h];simp
  ·have h:¬c.length≤255:=(by simp at h;omega);rw[decide_eq_false h];simp;exact⟨rfl,rfl⟩
abbrev PB:al:=eVe rp
theorem yO:∀p_∈([(138,ZJ et),(139,eBB u7),(140,ZN u5),(141,eCh mW),(142,uU qZ),(143,ZI fI)]:List (FuncId×al)),p_.2.Ok Tryz.prog p_.1:=(aj Bd (aj Ga (aj O3 (aj Pz (aj OR (aj Bc aw))))))
theorem Ge:PB.Ok Tryz.prog 103:=by
 refine(al.bb call103 fun x_ y_ Q H_=>?_).sym;obtain⟨p,c,m,g,_⟩:=x_;obtain⟨hn,hq⟩:=H_;have hn:p.length=32∧m.length=64∧g.length=64∧aA g:=hn;have hc_:fW Tryz.prog 103 ((veA).wr (p,c,m,g,())) [] (bc Tryz.prog [(138,ZJ et),(139,eBB u7),(140,ZN u5),(141,eCh mW),(142,uU qZ),(143,ZI fI)] [] f103 ((veA).wr (p,c,m,g,())) [] kK):=au mixed yO func103 rfl (aS.nil _);obtain⟨t_,ht_,hs_⟩:=Bl et u7 u5 mW qZ fI hn.1 hn.2.1 hn.2.2.1 hn.2.2.2 (fun a b c d=>(J4 a b c d).1);rw[← PA p c m g]at hs_;rw[ht_]at hc_;exact hc_.use (D:= []) hs_ hq
end Go.Proofs.YtmhcoaflmgajhaaGreat
end
noncomputable section
namespace BJ
end BJ
namespace Go.Proofs.YtmhcoaflmgajhaaGreat
open Go Go.Ev BJ Go.Proofs.Tryz
open Go.IntKind (i64 signed u32 u64 wrap wrap_u32)
end Go.Proofs.YtmhcoaflmgajhaaGreat
end
noncomputable section
namespace Go.Proofs.YtmhcoaflmgajhaaGreat
open Go Go.Ev BJ Go.Proofs.Tryz
open Go.IntKind (i64 signed u32 u64 wrap wrap_u32)
set_option maxRecDepth 1000000
abbrev ckA:aH (List LV) (List (List Int)×List Int×Unit):=ab (ak (g9 false false (.arr u8 32))) (ab (ak (g9 false false u8)) ae)
structure zC where
 key:Int
 blocks:Int
 cI:MM
 sign:List Int
def ja:zC:=⟨0,0,Zo,List.replicate 64 0⟩
abbrev afg:aH (List SV) zC:=(xO (uE (ab (mq u8 64) ae))).jl (fun x=>⟨x.1,x.2.1,⟨x.2.2.1,x.2.2.2.1,x.2.2.2.2.1,x.2.2.2.2.2.1,x.2.2.2.2.2.2.1⟩,x.2.2.2.2.2.2.2.1⟩) (fun l=>(l.key,l.blocks,l.cI.ver,l.cI.qS,l.cI.len,l.cI.list,l.cI.plain,l.sign,())) (fun _=>rfl)
abbrev PC(r:zC×Int):LV:=.bV [.agg (afg.wr r.1),.sc (.int .i64 (.sym r.2))]
def J6:List Int:= [98,111,111,116,106,97,99,107]
def k0:List Int:=List.replicate 32 0
def RP(b:List Int):zC:=⟨(aX (b.take 8)).1.1,(aX (b.take 8)).1.2,(gX ((b.drop 8).take 152)).1,b.drop 160⟩
def cx(ver:List Int→List Int→List Int→List Int→Bool)(ks:List (List Int))(b:List Int):zC×Int:=
 if b.length=224∧(aX (b.take 8)).2=true then
  (if(ks.length:Int)≤(aX (b.take 8)).1.1 then(ja,15)
   else if ver (ks.getD (aX (b.take 8)).1.1.toNat k0) J6 (iT b) (b.drop 160)=true then
     (if(gX ((b.drop 8).take 152)).2=true then(RP b,0)else(ja,6))
   else(ja,8))
 else(ja,6)
def vh(ks:List (List Int)):Prop:=∀k:Nat,k<ks.length→(ks.getD k k0).length=32
def eCk(g:List (List Int)→List Int→zC×Int):al:=al.cl [some (.arr u8 32),some u8] ckA ae fun x _=>.leaf (some (aA x.2.1∧x.2.1.length<1152921504606846976∧vh x.1)) (PC (g x.1 x.2.1)) []
theorem yP{l:List Int}:0≤(aX l).1.1∧(aX l).1.1<8:=by
 unfold aX
 split
 ·rename_i h;simp only;have h2:=h.2;have:(kV (i64.wrap (l.getD 4 0)) (i64.wrap (l.getD 5 0))).length=8:=by rw[nY h2,h.1]
  unfold kV at this
  split at this
  ·omega
  ·simp at this
 ·exact⟨by decide,by decide⟩
theorem oa{r r':zC×Int}(h:r=r'):PC r=PC r':=by rw[h]
theorem yQ(ver:List Int→List Int→List Int→List Int→Bool)(ks:List (List Int))(b:List Int):bc Tryz.prog [(102,mI),(103,eVe ver),(104,Oi),(105,po),(106,On)] [] f73 (ckA.wr (ks,b,())) [] [.fr [.sym],.auto]=
 End.ite ((↑b.length:Int)!=(224:Int)) (End.leaf (LV.bV [VV.agg [SV.int i64 (SI.sym (0:Int)),SV.int i64 (SI.sym (0:Int)),
 SV.int u64 (SI.sym (0:Int)),SV.int u64 (SI.sym (0:Int)),SV.int i64 (SI.sym (0:Int)),SV.arr (Ty.int IntKind.u8) (64:
 Nat) (List.replicate (64:Nat) (0:Int)),SV.arr (Ty.int IntKind.u8) (64:Nat) (List.replicate (64:Nat) (0:Int)),SV.arr (Ty.int IntKind.u8) (64
 :Nat) (List.replicate (64:Nat) (0:Int))],VV.sc (SV.int i64 (SI.sym (6:Int)))]) []) (End.need ((0:Int)≤(0:Int)∧(0:Int)≤(8:
 Int)∧(8:Int)≤(↑b.length:Int)) (End.ite (!(aX (List.take (8:Nat) (List.drop (0:Nat) b))).snd) (End.leaf (LV.bV [VV.agg [SV.int
 i64 (SI.sym (0:Int)),SV.int i64 (SI.sym (0:Int)),SV.int u64 (SI.sym (0:Int)),SV.int u64 (SI.sym (0:Int)),
 SV.int i64 (SI.sym (0:Int)),SV.arr (Ty.int IntKind.u8) (64:Nat) (List.replicate (64:Nat) (0:Int)),SV.arr (Ty.int IntKind.u8) (64:
 Nat) (List.replicate (64:Nat) (0:Int)),SV.arr (Ty.int IntKind.u8) (64:Nat) (List.replicate (64:Nat) (0:Int))],VV.sc (SV.int i64
 (SI.sym (6:Int)))]) []) (End.ite (decide ((↑ks.length:Int)≤(aX (List.take (8:Nat) (List.drop (0:Nat) b))).fst.fst)) (End.leaf (LV.bV
 [VV.agg [SV.int i64 (SI.sym (0:Int)),SV.int i64 (SI.sym (0:Int)),SV.int u64 (SI.sym (0:Int)),SV.int u64
 (SI.sym (0:Int)),SV.int i64 (SI.sym (0:Int)),SV.arr (Ty.int IntKind.u8) (64:Nat) (List.replicate (64:Nat) (0:Int)),SV.arr (Ty.int
 IntKind.u8) (64:Nat) (List.replicate (64:Nat) (0:Int)),SV.arr (Ty.int IntKind.u8) (64:Nat) (List.replicate (64:Nat) (0:Int))],VV.sc
 (SV.int i64 (SI.sym (15:Int)))]) []) (End.need ((0:Int)≤(160:Int)∧(160:Int)≤(↑b.length:Int)∧(↑b.length:Int)≤(↑b.length:
 Int)) (End.need ((64:Nat)≤(List.take ((↑b.length:Int)-(160:Int)).toNat (List.drop (160:Nat) b)).length) (End.need ((64:Nat)≤(List.take
 ((↑b.length:Int)-(160:Int)).toNat (List.drop (160:Nat) b)).length) (End.need ((0:Int)≤(aX (List.take (8:Nat) (List.drop (0:Nat)
 b))).fst.fst∧(aX (List.take (8:Nat) (List.drop (0:Nat) b))).fst.fst<(↑ks.length:Int)) (End.need (b.length<(1152921504606846976:
 Nat)) (End.need (List.length (ks.getD (aX (List.take (8:Nat) (List.drop (0:Nat) b))).fst.fst.toNat (List.replicate (32:Nat) (0:Int)))=
 (32:Nat)∧(64:Nat)=(64:Nat)∧(List.take (64:Nat) (List.drop (0:Nat) (List.take ((↑b.length:Int)-(160:Int)).toNat (List.drop (160:
 Nat) b)))).length=(64:Nat)∧aA (List.take (64:Nat) (List.drop (0:Nat) (List.take ((↑b.length:Int)-(160:Int)).toNat (List.drop (160:
 Nat) b))))) (End.ite (!ver (ks.getD (aX (List.take (8:Nat) (List.drop (0:Nat) b))).fst.fst.toNat (List.replicate (32:Nat) (0:Int))) [(98
 :Int),(111:Int),(111:Int),(116:Int),(106:Int),(97:Int),(99:Int),(107:Int)] (iT b) (List.take (64:Nat) (List.drop (0:Nat)
 (List.take ((↑b.length:Int)-(160:Int)).toNat (List.drop (160:Nat) b))))) (End.leaf (LV.bV [VV.agg [SV.int i64 (SI.sym (0:Int)),
 SV.int i64 (SI.sym (0:Int)),SV.int u64 (SI.sym (0:Int)),SV.int u64 (SI.sym (0:Int)),SV.int i64 (SI.sym (0:
 Int)),SV.arr (Ty.int IntKind.u8) (64:Nat) (List.replicate (64:Nat) (0:Int)),SV.arr (Ty.int IntKind.u8) (64:Nat) (List.replicate (64:Nat) (0
 :Int)),SV.arr (Ty.int IntKind.u8) (64:Nat) (List.replicate (64:Nat) (0:Int))],VV.sc (SV.int i64 (SI.sym (8:Int)))]) []) (End.need
 ((0:Int)≤(8:Int)∧(8:Int)≤(160:Int)∧(160:Int)≤(↑b.length:Int)) (End.need (aA (List.take (152:Nat) (List.drop (8:Nat) b)))
 (End.ite (!(gX (List.take (152:Nat) (List.drop (8:Nat) b))).snd) (End.leaf (LV.bV [VV.agg [SV.int i64 (SI.sym (0:Int)),SV.int
 i64 (SI.sym (0:Int)),SV.int u64 (SI.sym (0:Int)),SV.int u64 (SI.sym (0:Int)),SV.int i64 (SI.sym (0:Int)),
 SV.arr (Ty.int IntKind.u8) (64:Nat) (List.replicate (64:Nat) (0:Int)),SV.arr (Ty.int IntKind.u8) (64:Nat) (List.replicate (64:Nat) (0:
 Int)),SV.arr (Ty.int IntKind.u8) (64:Nat) (List.replicate (64:Nat) (0:Int))],VV.sc (SV.int i64 (SI.sym (6:Int)))]) []) (End.leaf
 (LV.bV [VV.agg [SV.int i64 (SI.sym (aX (List.take (8:Nat) (List.drop (0:Nat) b))).fst.fst),SV.int i64 (SI.sym (aX
 (List.take (8:Nat) (List.drop (0:Nat) b))).fst.snd),SV.int u64 (SI.sym (gX (List.take (152:Nat) (List.drop (8:Nat) b))).fst.ver),
 SV.int u64 (SI.sym (gX (List.take (152:Nat) (List.drop (8:Nat) b))).fst.qS),SV.int i64 (SI.sym (gX (List.take (152:Nat)
 (List.drop (8:Nat) b))).fst.len),SV.arr (Ty.int IntKind.u8) (64:Nat) (gX (List.take (152:Nat) (List.drop (8:Nat) b))).fst.list,SV.arr
 (Ty.int IntKind.u8) (64:Nat) (gX (List.take (152:Nat) (List.drop (8:Nat) b))).fst.plain,SV.arr (Ty.int IntKind.u8) (64:Nat) (List.take (64:
 Nat) (List.drop (0:Nat) (List.take ((↑b.length:Int)-(160:Int)).toNat (List.drop (160:Nat) b))))],VV.sc (SV.int i64 (SI.sym (0:
 Int)))]) [])))))))))))))):=by kernel_rfl
theorem Gf{ver:List Int→List Int→List Int→List Int→Bool}{ks:List (List Int)}{b:List Int}(hb:aA b)(hl:b.length<1152921504606846976)(hk:vh ks):
  ∃t_:Ev.End,bc Tryz.prog [(102,mI),(103,eVe ver),(104,Oi),(105,po),(106,On)] [] f73 (ckA.wr (ks,b,())) [] [.fr [.sym],.auto]=t_∧t_.sat fun v cS=>v=PC (cx ver ks b)∧cS= []:=by
 refine⟨_,yQ ..,?_⟩;have e0:List.drop 0 b=b:=rfl;rw[e0];refine⟨fun h=>?_,fun h=>?_⟩
 ·have hn:¬ (b.length=224∧(aX (b.take 8)).2=true):=fun⟨h',_⟩=>by rw[h']at h;simp at h
  exact⟨oa (r:=(ja,6)) (by unfold cx;rw[if_neg hn]),rfl⟩
 have hl':b.length=224:=by have:((b.length:Int)!=224)=false:=h
                           simp at this;omega
 have e1:List.take ((b.length:Int)-160).toNat (List.drop 160 b)=b.drop 160:=List.take_of_length_le (by rw[List.length_drop];omega);have e2:List.take 64 (List.drop 0 (b.drop 160))=b.drop 160:=by rw[List.drop_zero];exact List.take_of_length_le (by rw[List.length_drop];omega)
 have l1:(b.drop 160).length=64:=by rw[List.length_drop,hl']
 rw[e1,e2];obtain⟨k1,k2⟩:=yP (l:=b.take 8);have by1:=hb.drop 160;have by2:aA (List.take 152 (List.drop 8 b)):=(hb.drop 8).take 152;refine⟨by omega,fun h1=>?_,fun h1=>?_⟩
 ·have hn:¬ (b.length=224∧(aX (b.take 8)).2=true):=fun⟨_,h'⟩=>by rw[h']at h1;simp at h1
  exact⟨oa (r:=(ja,6)) (by unfold cx;rw[if_neg hn]),rfl⟩
 have hp:b.length=224∧(aX (b.take 8)).2=true:=⟨hl',by simpa using h1⟩;refine⟨fun h2=>?_,fun h2=>?_⟩
 ·have h2:=of_decide_eq_true h2;exact⟨oa (r:=(ja,15)) (by unfold cx;rw[if_pos hp,if_pos h2]),rfl⟩
 have h2:=of_decide_eq_false h2;refine⟨by omega,by omega,by omega,by omega,by omega,⟨hk _ (by omega),rfl,l1,by1⟩,fun h3=>?_,fun h3=>?_⟩
 ·have h3:¬ver (ks.getD (aX (b.take 8)).1.1.toNat k0) J6 (iT b) (b.drop 160)=true:=fun h'=>by
   have Gw:(!ver (ks.getD (aX (b.take 8)).1.1.toNat k0) J6 (iT b) (b.drop 160))=true:=h3;rw[h']at Gw;cases Gw
  exact⟨oa (r:=(ja,8)) (by unfold cx;rw[if_pos hp,if_neg h2,if_neg h3]),rfl⟩
 have Gw:ver (ks.getD (aX (b.take 8)).1.1.toNat k0) J6 (iT b) (b.drop 160)=true:=by
  have Gw:(!ver (ks.getD (aX (b.take 8)).1.1.toNat k0) J6 (iT b) (b.drop 160))=false:=h3;simpa using Gw
 refine⟨by omega,by2,fun h4=>?_,fun h4=>?_⟩
 ·have h4:¬ (gX ((b.drop 8).take 152)).2=true:=fun h'=>by rw[h']at h4;cases h4
  exact⟨oa (r:=(ja,6)) (by unfold cx;rw[if_pos hp,if_neg h2,if_pos Gw,if_neg h4]),rfl⟩
 ·have h4:(gX ((b.drop 8).take 152)).2=true:=by simpa using h4
  exact⟨oa (r:=(RP b,0)) (by unfold cx;rw[if_pos hp,if_neg h2,if_pos Gw,if_pos h4]),rfl⟩
theorem J7:(eCk (cx rp)).Ok Tryz.prog 73:=by
 refine(al.bb call73 fun x_ y_ Q h=>?_).sym;obtain⟨ks,b,_⟩:=x_;obtain⟨hn,hq⟩:=h;have hc:fW Tryz.prog 73 (ckA.wr (ks,b,())) [] (bc Tryz.prog [(102,mI),(103,eVe rp),(104,Oi),(105,po),(106,On)] [] f73 (ckA.wr (ks,b,())) [] [.fr [.sym],.auto]):=au mixed (aj AL (aj Ge (aj Uw (aj Fk (aj Uz aw))))) func73 rfl (aS.nil _);obtain⟨t,ht,hs⟩:=Gf (ver:=rp) hn.1 hn.2.1 hn.2.2;rw[ht]at hc;exact hc.use (D:= []) hs hq
end Go.Proofs.YtmhcoaflmgajhaaGreat
end
noncomputable section
namespace Go.Proofs.YtmhcoaflmgajhaaGreat
open Go Go.Ev Go.Proofs.Tryz
open Go.IntKind (i64 signed u32 u64 wrap wrap_u32)
set_option maxRecDepth 1000000
theorem head_range{l:List Int}(h:(aX l).2=true):1≤(aX l).1.2∧(aX l).1.2≤16:=by
 unfold aX at h ⊢
 split at h
 ·rename_i hc;rw[if_pos hc];have hlen:=nY hc.2;rw[hc.1]at hlen;simp only;unfold kV at hlen
  split at hlen
  ·rename_i hr;exact⟨hr.2.2.1,hr.2.2.2⟩
  ·simp at hlen
 ·cases h
theorem vk{m:Nat}{x y:Int}(Ch:0≤x)(hx:x%(2 ^ m:Nat)=0)(MO:0≤y)(hy:y<(2 ^ m:Nat))(h64:x+y<9223372036854775808):bf .i64 x y=x+y:=by
 unfold bf;have e:(2 ^ 64:Nat)=18446744073709551616:=by decide
 have h:=HD (n:=64) Ch (by omega) hx MO hy (by omega);show i64.wrap ((BitVec.ofInt 64 x|||BitVec.ofInt 64 y).toNat:Int)=_;rw[h];exact ar (by omega) (by omega)
def two(l:List Int)(i:Nat):Int:=bf .i64 (i64.wrap (l.getD i 0)) (shl .i64 (i64.wrap (l.getD (i+1) 0)) 8)
theorem Vm{l:List Int}{i:Nat}(h0:By (l.getD i 0))(h1:By (l.getD (i+1) 0)):two l i=l.getD i 0+256*l.getD (i+1) 0:=by
 unfold two;unfold By at h0 h1;generalize l.getD i 0=a at*;generalize l.getD (i+1) 0=b at*;rw[ar (by omega) (by omega),ar (by omega) (by omega)]
 have e1:shl .i64 b 8=b*256:=by
  have:=mu .i64 b 8 (by simp[IntKind.bits]);rw[show((8:Nat):Int)=8 from rfl]at this;rw[this,ar (by omega) (by omega)];rfl
 rw[e1,fY,vk (m:=8) (by omega) (by omega) (by omega) (by omega) (by omega)];omega
theorem J8:∃f:List (List Int)→List Int→zC×Int,∀ (ks:List (List Int)) (b:List Int),f ks b=(cx rp ks b):=⟨fun ks b=>cx rp ks b,fun _ _=>rfl⟩
def nw:List (List Int)→List Int→zC×Int:=Classical.choose J8
theorem Vn(ks:List (List Int))(b:List Int):nw ks b=(cx rp ks b):=Classical.choose_spec J8 ks b
theorem RQ:cx rp=nw:=by funext ks b;exact(Vn ks b).symm
theorem J9{l:List Int}(h:(gX l).2=true):0≤(gX l).1.len∧(gX l).1.len≤131072:=by
 unfold gX at*
 split at h
 ·rename_i c;rw[if_pos c];have:=iS c.2;exact⟨show 0≤(xR l).len by omega,show(xR l).len≤_ by omega⟩
 ·cases h
theorem yR(l:List Int):0≤bH l∧bH l<18446744073709551616:=by
 cases l with
 |nil=>exact⟨by decide,by decide⟩
 |cons x l=>rw[bH,ky];omega
def yS(m:MM):Prop:=0≤m.ver∧m.ver<18446744073709551616∧0≤m.qS∧m.qS<18446744073709551616
theorem Gg(ver:List Int→List Int→List Int→List Int→Bool)(ks:List (List Int))(b:List Int):yS (cx ver ks b).1.cI:=by
 have h0:yS ja.cI:=⟨by decide,by decide,by decide,by decide⟩
 have h1:∀l,yS (gX l).1:=fun l=>by
  unfold gX
  split
  ·have a:=yR (l.take 8);have b:=yR ((l.drop 8).take 8);exact⟨a.1,a.2,b.1,b.2⟩
  ·exact⟨by decide,by decide,by decide,by decide⟩
 unfold cx
 repeat' split
 all_goals first|exact h0|exact h1 _
theorem Gh{ver:List Int→List Int→List Int→List Int→Bool}{ks:List (List Int)}{b:List Int}(h:(cx ver ks b).2=0):1≤(cx ver ks b).1.blocks∧(cx ver ks b).1.blocks≤16∧0≤(cx ver ks b).1.cI.len∧(cx ver ks b).1.cI.len≤131072∧(cx ver ks b).1.key=(aX (b.take 8)).1.1∧(cx ver ks b).1.blocks=(aX (b.take 8)).1.2:=by
 unfold cx at*
 split at h
 ·rename_i c1
  split at h
  ·cases h
  ·rename_i c2
   split at h
   ·rename_i c3
    split at h
    ·rename_i c4;rw[if_pos c1,if_neg c2,if_pos c3,if_pos c4];obtain⟨g1,g2⟩:=J9 c4;obtain⟨k1,k2⟩:=head_range c1.2;exact⟨k1,k2,g1,g2,rfl,rfl⟩
    ·cases h
   ·cases h
 ·cases h
abbrev aam:al:=eCk nw
theorem Vo:aam.Ok Tryz.prog 73:=by rw[aam,← RQ];exact J7
def cm(ks:List (List Int))(fl rm:Int)(b:List Int):zC×Int:=
 if(nw ks b).2≠0 then(ja,(nw ks b).2)else if rm<(nw ks b).1.cI.len then(ja,10)else if(nw ks b).1.cI.ver<fl then(ja,9)else((nw ks b).1,0)
def Vp(x:zC×Int):Int×Int×Int×Int×Int×List Int×List Int×List Int×Int:=(x.1.key,x.1.blocks,x.1.cI.ver,x.1.cI.qS,x.1.cI.len,x.1.cI.list,x.1.cI.plain,x.1.sign,x.2)
theorem aan(e:Int):Vp (ja,e)=(0,0,0,0,0,List.replicate 64 0,List.replicate 64 0,List.replicate 64 0,e):=rfl
theorem aao(x:zC)(e:Int):Vp (x,e)=(x.key,x.blocks,x.cI.ver,x.cI.qS,x.cI.len,x.cI.list,x.cI.plain,x.sign,e):=rfl
theorem Bm(c v s:Int)(a b:List Int):(qQ c v s a b).length≤152:=by
 unfold qQ
 split
 ·simp only[List.length_append,List.length_take,fk];omega
 ·simp
theorem PD{ks:List (List Int)}{fl rm:Int}{b:List Int}(h:(cm ks fl rm b).2=0):cm ks fl rm b=((nw ks b).1,0)∧(nw ks b).2=0∧1≤(nw ks b).1.blocks∧(nw ks b).1.blocks≤16∧0≤(nw ks b).1.cI.len∧(nw ks b).1.cI.len≤rm∧yS (nw ks b).1.cI:=by
 have hc:=Gh (ver:=rp) (ks:=ks) (b:=b);have hv:=Gg rp ks b;rw[RQ]at hc hv;unfold cm at h ⊢;grind
abbrev smA:aH (List LV) (HH×(Int×Int)×Int×Unit):=ab (fy Ob) (ab (fy cRg) (ab (ak (ay .i64)) ae))
abbrev Du:Type:=Int×Int×Int×Int×Int×(List Int)×(List Int)×(List Int)×Int
abbrev aap(x:Du):LV:=LV.bV [VV.agg [SV.int i64 (SI.sym x.1),SV.int i64 (SI.sym x.2.1),SV.int u64
 (SI.sym x.2.2.1),SV.int u64 (SI.sym x.2.2.2.1),SV.int i64 (SI.sym x.2.2.2.2.1),SV.arr (Ty.int IntKind.u8) 64 x.2.2.2.2.2.1,SV.arr
 (Ty.int IntKind.u8) 64 x.2.2.2.2.2.2.1,SV.arr (Ty.int IntKind.u8) 64 x.2.2.2.2.2.2.2.1],VV.sc (SV.int i64 (SI.sym x.2.2.2.2.2.2.2.2))]
abbrev aaq(x:Du):List (Nat×Ev.Item):= []
def RR(c:List (List Int)×Int)(fl:Int)(b:List Int):Tr (Du):=(.need (aA b∧b.length<1152921504606846976∧vh
 c.fst) (.ite ((nw c.fst b).snd !=0) (.ret (0,0,0,0,0,List.replicate 64 (0:Int),List.replicate 64 (0:Int),List.replicate 64 (0:Int),(nw
 c.fst b).snd)) (.need (qI c) (.ite (decide (bC c<(nw c.fst b).fst.cI.len)) (.ret (0,0,0,0,0,List.replicate 64 (0:Int),
 List.replicate 64 (0:Int),List.replicate 64 (0:Int),10)) (.ite (decide ((nw c.fst b).fst.cI.ver<fl)) (.ret (0,0,0,0,0,List.replicate 64
 (0:Int),List.replicate 64 (0:Int),List.replicate 64 (0:Int),9)) (.ret ((nw c.fst b).fst.key,(nw c.fst b).fst.blocks,(nw c.fst
 b).fst.cI.ver,(nw c.fst b).fst.cI.qS,(nw c.fst b).fst.cI.len,(nw c.fst b).fst.cI.list,(nw c.fst b).fst.cI.plain,(nw c.fst b).fst.sign,
 0)))))))
abbrev vl(c:List (List Int)×Int)(fl:Int)(b:List Int):Prop:=aA b∧b.length<4294967296∧vh c.1
abbrev Ka(c:List (List Int)×Int)(fl:Int)(b:List Int):Du:=Vp (cm c.1 fl (bC c) b)
def aar:al:=bD [some (.arr u8 32),none,some u8] ((ab (fy NV) (ab (ak (ay .u64)) (ab (ak (g9 false false u8)) ae)))) (ae) (q0∘q3 vl) (q0∘q3 Ka) aap aaq
theorem PE(c:List (List Int)×Int)(fl:Int)(b:List Int)(h_:vl c fl b):(RR c fl b).Is (Ka c fl b):=by
 delta Ka;simp only[RR,cm,ah,aI,aL,aU,aJ,aC,aE,aM,aK,aN,a7,a9,aG,aD,ai]
 try simp only[az,ah,aI,aL,aU,aJ,aC,aE,aM,aK,aN,a7,a9,aG,aD,ai]
 generalize nw c.1 b=x;grind [aan,aao]
theorem PF:aar.Ok Tryz.prog 52:=
 a5 mixed ((aj Vo (aj Ik aw))) func52 (by kernel_rfl) call52 (ks:=fH) (fun _ _=>aS.nil _) (fun _ _=>by kernel_rfl) fun x_ y_ h=>PE x_.1 x_.2.1 x_.2.2.1 h
abbrev jHs:aH Ev.Item HH:=ix 115 Ob
abbrev jRg:aH Ev.Item (Int×Int):=ix 100 cRg
abbrev Kb:Type:=Int×Int×((Int×List Int)×Bool×Bool×Int)×(List Int)×(List Int)×HH×(Int×Int)×(List Int)
abbrev aas:aH St Kb:=(bq (jk 2 (ab (ak (ay i64)) (aq (ak (a6 (3) (0))) (aq (ak (a6 (4) (0))) (jk 1
 (aq (ak (a6 (5) (0))) (jk 1 (ab (ak (ay i64)) (jk 25 ae))))))))) (ab (cj TP) (ab (dq (0) (Ty.int IntKind.u8))
 (ab (dq (0) (Ty.int i64)) (ab (cj jHs) (ab (cj jRg) (ab (kJ (31) ((ab (mq (Ty.int IntKind.u8) (64)) ae)))
 ae))))))).jl (fun y=>(y.1.1,y.1.2.1,y.2.1,y.2.2.1,y.2.2.2.1,y.2.2.2.2.1,y.2.2.2.2.2.1,y.2.2.2.2.2.2.1.1)) (fun x=>((x.1,(x.2.1,())),
 (x.2.2.1,(x.2.2.2.1,(x.2.2.2.2.1,(x.2.2.2.2.2.1,(x.2.2.2.2.2.2.1,((x.2.2.2.2.2.2.2,()),())))))))) (fun _=>rfl)
abbrev aat:List Wk:= [.fr (cR 34 [(2,.ao),(3,.ao),(4,.ao),(6,.ao),(8,.ao)]),.syms,.auto,.ba]
abbrev afh:Exit→List Wk:=zy aat 0 [.fr (cR 34 [(3,.ao),(6,.ao)]),.syms,.auto,.ba] [.fr (cR 34 [(6,.ao),(7,.ao)]),.syms,
 .auto,.ba]
def td(n:Int)(at_:Int)(f:(Int×List Int)×Bool×Bool×Int)(b:List Int)(er:List Int)(h:HH)(r:Int×Int)(z:
 List Int):Int:=if i64.wrap (n-at_)<1024 then i64.wrap (n-at_)else 1024
def te(n:Int)(at_:Int)(f:(Int×List Int)×Bool×Bool×Int)(b:List Int)(er:List Int)(h:HH)(r:Int×Int)(z:
 List Int):List Int×Int:=if f.snd.fst=true then([],5)else if 0≤i64.wrap (2048+at_)∧0≤td n at_ f b er h r z∧
 i64.wrap (2048+at_)+td n at_ f b er h r z≤1024*r.snd then(bJ b (1024*r.fst+i64.wrap (2048+at_)) (td n at_ f b er
 h r z),0)else([],2)
abbrev Kc:Type:=Int×((Int×List Int)×Bool×Bool×Int)×(List Int)×(List Int)×(List Int)
abbrev aau(x:Kc):Exit×St:=(Exit.ret,⟨(jt 6 (LV.one (VV.sc (SV.ptr 3 0))::(LV.one (VV.sc (SV.int i64 (SI.sym
 x.1)))::(jt 26 [])))),[some (TP.wr x.2.1),some (Item.own 0 (Ty.int IntKind.u8) x.2.2.1),some (Item.own 0 (Ty.int i64) x.2.2.2.1),some
 (Item.aZ [SV.arr (Ty.int IntKind.u8) 64 x.2.2.2.2] 31)]⟩)
abbrev Ke:Type:=((Int×List Int)×Bool×Bool×Int)×(List Int)×(List Int)×HH×(List Int)
abbrev aav(x:Ke):Exit×St:=(Exit.exit 0,⟨(jt 3 (LV.one (VV.sc (SV.ptr 3 0))::(jt 2 (LV.one (VV.sc (SV.ptr 4 0))::(jt
 27 []))))),[some (TP.wr x.1),some (Item.own 0 (Ty.int IntKind.u8) x.2.1),some (Item.own 0 (Ty.int i64) x.2.2.1),some (jHs.wr x.2.2.2.1),
 some (Item.aZ [SV.arr (Ty.int IntKind.u8) 64 x.2.2.2.2] 31)]⟩)
def Kf(n:Int)(at_:Int)(f:(Int×List Int)×Bool×Bool×Int)(b:List Int)(er:List Int)(h:HH)(r:Int×Int)(z:
 List Int):Tr (Kb⊕(Kc⊕Ke)):=(.ite (decide (at_<n)) (.need (dU r (i64.wrap (2048+at_)) (td n at_ f b er h r z) f b
 er) (.ite ((te n at_ f b er h r z).snd !=0) (.ret (.inr (.inl ((te n at_ f b er h r z).snd,f,b,er,List.replicate 64 (0:Int))))) (.need
 (jy h∧h.n+(↑(te n at_ f b er h r z).fst.length:Int)<2305843009213693952) (.ret (.inl (n,i64.wrap (at_+1024),f,b,er,bu h
 (te n at_ f b er h r z).fst,r,z)))))) (.ret (.inr (.inr (f,b,er,h,z)))))
abbrev vm(n:Int)(at_:Int)(f:(Int×List Int)×Bool×Bool×Int)(b:List Int)(er:List Int)(h:HH)(r:Int×Int)(z:List Int):Prop:=iy b er∧uh r er∧0≤at_∧0≤n∧2048+n≤1024*r.2∧jy h∧h.n+(n-at_)<1152921504606846976
abbrev Vq(n:Int)(at_:Int)(f:(Int×List Int)×Bool×Bool×Int)(b:List Int)(er:List Int)(h:HH)(r:Int×Int)(z:List Int):Bool:=decide (at_<n∧f.2.1=true)
abbrev Vr(n:Int)(at_:Int)(f:(Int×List Int)×Bool×Bool×Int)(b:List Int)(er:List Int)(h:HH)(r:Int×Int)(z:List Int):Kc:=(5,f,b,er,List.replicate 64 0)
abbrev Vs(n:Int)(at_:Int)(f:(Int×List Int)×Bool×Bool×Int)(b:List Int)(er:List Int)(h:HH)(r:Int×Int)(z:List Int):Ke:=(f,b,er,bu h (bJ b (1024*r.1+2048+at_) (n-at_)),z)
abbrev aaw:Kb→aV:=qA (fun x_=>vm x_.1 x_.2.1 x_.2.2.1 x_.2.2.2.1 x_.2.2.2.2.1 x_.2.2.2.2.2.1 x_.2.2.2.2.2.2.1 x_.2.2.2.2.2.2.2) (fun x_=>Vq x_.1 x_.2.1 x_.2.2.1 x_.2.2.2.1 x_.2.2.2.2.1 x_.2.2.2.2.2.1 x_.2.2.2.2.2.2.1 x_.2.2.2.2.2.2.2) (fun x_=>Vr x_.1 x_.2.1 x_.2.2.1 x_.2.2.2.1 x_.2.2.2.2.1 x_.2.2.2.2.2.1 x_.2.2.2.2.2.2.1 x_.2.2.2.2.2.2.2) (fun x_=>Vs x_.1 x_.2.1 x_.2.2.1 x_.2.2.2.1 x_.2.2.2.2.1 x_.2.2.2.2.2.1 x_.2.2.2.2.2.2.1 x_.2.2.2.2.2.2.2) aau aav
theorem Vt(n:Int)(at_:Int)(f:(Int×List Int)×Bool×Bool×Int)(b:List Int)(er:List Int)(h:HH)(r:Int×Int)(z:List Int)(h_:vm n at_ f b er h r z):dB (fun x_:Kb=>Kf x_.1 x_.2.1 x_.2.2.1 x_.2.2.2.1 x_.2.2.2.2.1 x_.2.2.2.2.2.1 x_.2.2.2.2.2.2.1 x_.2.2.2.2.2.2.2) (n,at_,f,b,er,h,r,z) (bif Vq n at_ f b er h r z then .inl (Vr n at_ f b er h r z)else .inr (Vs n at_ f b er h r z)):=by
 delta Vq Vr Vs;obtain⟨⟨a1,a2,a3⟩,⟨b1,b2,b3⟩,h3,h4,h5,h6,h7⟩:=h_;obtain⟨j,hj⟩:∃j:Nat,(n-at_).toNat≤1024*j:=⟨(n-at_).toNat,by omega⟩
 induction j generalizing at_ h with
 |zero=>
  have c:¬at_<n:=by omega
  refine .stop ?_;rw[nR b _ (by omega)];simp[Kf,c,az,ai,bu]
 |succ j ih=>
  by_cases c:at_<n
  ·by_cases c2:f.2.1=true
   ·refine .stop ?_;simp only[Kf,td,te,ah,aI,aL,aU,aJ,aC,aE,aM,aK,aN,a7,a9,aG,aD,ai]
    try simp only[az,ah,aI,aL,aU,aJ,aC,aE,aM,aK,aN,a7,a9,aG,aD,ai]
    grind [ar]
   ·obtain⟨m,hm,m1,m2⟩:∃m,(if n-at_<1024 then n-at_ else 1024)=m∧0≤m∧m≤n-at_:=⟨_,rfl,by split<;>omega,by split<;>omega⟩
    have e2:bJ b (1024*r.1+2048+at_) (n-at_)=bJ b (1024*r.1+2048+at_) m++bJ b (1024*r.1+2048+(at_+1024)) (n-(at_+1024)):=by
     by_cases c3:n-at_<1024
     ·rw[nR b _ (by omega:n-(at_+1024)≤0),List.append_nil,← hm,if_pos c3]
     ·rw[if_neg c3]at hm;subst hm;rw[show n-at_=1024+(n-(at_+1024)) by omega,H3 b (by omega) (by omega) (by omega)]
      congr 2<;>omega
    have l2:=j0 (b:=b) (p:=1024*r.1+2048+at_) (m:=m) ⟨by omega,by omega,by omega⟩;have n2:=gb (bJ b (1024*r.1+2048+at_) m) h;have o2:=eV (bJ b (1024*r.1+2048+at_) m) h6;have w:=ih (at_+1024) (bu h (bJ b (1024*r.1+2048+at_) m)) (by omega) o2 (by split at hm<;>omega) (by omega);rw[← j5,← e2]at w;have c3:decide (at_+1024<n∧f.2.1=true)=decide (at_<n∧f.2.1=true):=(by grind);rw[c3]at w;refine .go ?_ w;have e3:i64.wrap (n-at_)=n-at_:=ar (by omega) (by omega);have e4:i64.wrap (2048+at_)=2048+at_:=ar (by omega) (by omega);have e5:1024*r.1+(2048+at_)=1024*r.1+2048+at_:=(by omega);simp only[Kf,td,te,e3,e4,e5,hm,ah,aI,aL,aU,aJ,aC,aE,aM,aK,aN,a7,a9,aG,aD,ai]
    try simp only[az,ah,aI,aL,aU,aJ,aC,aE,aM,aK,aN,a7,a9,aG,aD,ai]
    grind [ar]
  ·refine .stop ?_;rw[nR b _ (by omega)];simp[Kf,c,az,ai,bu]
theorem PG(y_):∀x:Kb,Ex Tryz.prog ((oV).wr y_) (.loop (aY f53 0)) (aas.wr x) (aaw x):=
 cJ mixed ((aj kA (aj mF (aj AG aw)))) (ws:=afh) (aS.nil _) (fun _=>by kernel_rfl) (fun z=>by cases z<;>(intro e;cases e)) tX (fun x_ h=>Vt x_.1 x_.2.1 x_.2.2.1 x_.2.2.2.1 x_.2.2.2.2.1 x_.2.2.2.2.2.1 x_.2.2.2.2.2.2.1 x_.2.2.2.2.2.2.2 h)
def Dv(h:HH)(r:Int×Int)(n:Int)(b:List Int):HH:=bu h (bJ b (1024*r.fst+(2048:Int)+0) (n-0))
abbrev PH:Type:=(List Int)×Int
abbrev afi(x:PH):LV:=LV.bV [VV.agg [SV.arr (Ty.int IntKind.u8) 64 x.1],VV.sc (SV.int i64 (SI.sym x.2))]
abbrev afj(x:PH):List (Nat×Ev.Item):= []
def aax(h:HH)(r:Int×Int)(n:Int)(f:(Int×List Int)×Bool×Bool×Int)(b:List Int)(er:List Int):Tr (PH):=
 (.need (vm n 0 f b er h r (List.replicate 64 (0:Int))) (.ite (decide (0<n∧f.snd.fst=true)) (.ret (List.replicate 64 (0:Int),5)) (.need
 (jy (Dv h r n b)∧(Dv h r n b).n<1152921504606846976) (.ret (AF (Dv h r n b),0)))))
def Gi(f:Fl)(b:List Int)(h:HH)(r:Int×Int)(n:Int):List Int×Int:=if 0<n∧f.2.1=true then(List.replicate 64 0,5)else(AF (bu h (bJ b (1024*r.1+2048) n)),0)
abbrev rq(h:HH)(r:Int×Int)(n:Int)(f:Fl)(b er:List Int):Prop:=iy b er∧uh r er∧0≤n∧2048+n≤1024*r.2∧jy h∧h.n+n<1152921504606846976
abbrev Vu(h:HH)(r:Int×Int)(n:Int)(f:Fl)(b er:List Int):PH:=Gi f b h r n
def afk:al:=bD [] (smA) (oV) (q3∘q3 rq) (q3∘q3 Vu) afi afj
theorem Vv(h:HH)(r:Int×Int)(n:Int)(f:Fl)(b er:List Int)(h_:rq h r n f b er):(aax h r n f b er).Is (Vu h r n f b er):=by
 delta Vu;obtain⟨h1,h2,h4,h5,h6,h7⟩:=h_;have p0:vm n 0 f b er h r (List.replicate 64 0):=⟨h1,h2,by omega,h4,h5,h6,by omega⟩;have l2:((bJ b (1024*r.1+2048) n).length:Int)=n:=j0 ⟨by omega,by omega,by omega⟩;have n2:=gb (bJ b (1024*r.1+2048) n) h;have o2:=eV (bJ b (1024*r.1+2048) n) h6;simp only[aax,Dv,Gi,Int.sub_zero,Int.add_zero,ah,aI,aL,aU,aJ,aC,aE,aM,aK,aN,a7,a9,aG,aD,ai]
 try simp only[az,ah,aI,aL,aU,aJ,aC,aE,aM,aK,aN,a7,a9,aG,aD,ai]
 refine⟨p0,?_⟩;grind
theorem Vw:afk.Ok Tryz.prog 53:=
 a5 mixed ((aj kA (aj mF (aj AG aw)))) func53 (by kernel_rfl) call53 (LT:=fun _ y_=> [(0,fh aas ((oV).wr y_) aat aaw)]) (ks:=fH) (fun _ y_=>aS.bW (kQ (by kernel_rfl) (b8 (PG y_)) ly)) (fun _ _=>by kernel_rfl) fun x_ y_ h=>Vv x_.1 x_.2.1 x_.2.2.1 y_.1 y_.2.1 y_.2.2.1 h
def g8(f:(Int×List Int)×Bool×Bool×Int):(Int×List Int)×Bool×Bool×Int:=f
def bp(c:List (List Int)×Int)(slot:Int)(fl:Int)(f:(Int×List Int)×Bool×Bool×Int)(b:List Int)(er:List Int)
 :List Int×Int:=if f.snd.fst=true then([],5)else if(0:Int)≤0∧(0:Int)≤224∧(224:Int)≤1024*c.snd then(bJ b (1024*(2+
 slot*c.snd)+0) 224,0)else([],2)
def mX(c:List (List Int)×Int)(slot:Int)(fl:Int)(f:(Int×List Int)×Bool×Bool×Int)(b:List Int)(er:List Int)
 :List Int×Int:=Gi (g8 f) b {begun:=true,s:=j4,n:=0,wait:=List.replicate 128 (0:Int)} (2+slot*c.snd,c.snd) (cm
 c.fst fl (bC c) (bp c slot fl f b er).fst).fst.cI.len
def gL(c:List (List Int)×Int)(slot:Int)(fl:Int)(f:(Int×List Int)×Bool×Bool×Int)(b:List Int)(er:List Int)
 :List Int:=qQ (cm c.fst fl (bC c) (bp c slot fl f b er).fst).fst.cI.ver (cm c.fst fl (bC c) (bp c slot fl f b
 er).fst).fst.cI.qS (cm c.fst fl (bC c) (bp c slot fl f b er).fst).fst.cI.len (cm c.fst fl (bC c) (bp c slot fl f b
 er).fst).fst.cI.list (cm c.fst fl (bC c) (bp c slot fl f b er).fst).fst.cI.plain
def vn(c:List (List Int)×Int)(slot:Int)(fl:Int)(f:(Int×List Int)×Bool×Bool×Int)(b:List Int)(er:List Int)
 :HH:=bu {begun:=true,s:=j4,n:=0,wait:=List.replicate 128 (0:Int)} (gL c slot fl f b er)
def mY(c:List (List Int)×Int)(slot:Int)(fl:Int)(f:(Int×List Int)×Bool×Bool×Int)(b:List Int)(er:List Int)
 :List Int×Int:=Gi (g8 f) b (vn c slot fl f b er) (2+slot*c.snd,c.snd) (cm c.fst fl (bC c) (bp c slot fl f b
 er).fst).fst.cI.len
abbrev yT:Type:=Int×Int×Int×Int×Int×(List Int)×(List Int)×(List Int)×(List Int)×Int
abbrev aay(x:yT):LV:=LV.bV [VV.agg [SV.int i64 (SI.sym x.1),SV.int i64 (SI.sym x.2.1),SV.int u64
 (SI.sym x.2.2.1),SV.int u64 (SI.sym x.2.2.2.1),SV.int i64 (SI.sym x.2.2.2.2.1),SV.arr (Ty.int IntKind.u8) 64 x.2.2.2.2.2.1,SV.arr
 (Ty.int IntKind.u8) 64 x.2.2.2.2.2.2.1,SV.arr (Ty.int IntKind.u8) 64 x.2.2.2.2.2.2.2.1],VV.agg [SV.arr (Ty.int IntKind.u8) 64 x.2.2.2.2.2.2.2.2.1],
 VV.sc (SV.int i64 (SI.sym x.2.2.2.2.2.2.2.2.2))]
abbrev aaz(x:yT):List (Nat×Ev.Item):= []
def RS(c:List (List Int)×Int)(slot:Int)(fl:Int)(f:(Int×List Int)×Bool×Bool×Int)(b:List Int)(er:List Int):
 Tr (yT):=(.ite (!decide (((1≤c.fst.length∧c.fst.length≤8∧3≤c.snd∧c.snd≤100)∧(2:Int)+2*c.snd≤(↑er.length:Int))∧0≤slot
 ∧slot<2)) (.need (ga c slot (g8 f) b er) (.ret (0,0,0,0,0,List.replicate 64 (0:Int),List.replicate 64 (0:Int),List.replicate 64
 (0:Int),List.replicate 64 (0:Int),1))) (.need (ga c slot (g8 f) b er) (.need (dU (2+slot*c.snd,c.snd) 0 224 (g8 f) b
 er) (.ite ((bp c slot fl f b er).snd !=0) (.ret (0,0,0,0,0,List.replicate 64 (0:Int),List.replicate 64 (0:Int),List.replicate 64 (0:
 Int),List.replicate 64 (0:Int),(bp c slot fl f b er).snd)) (.need (vl c fl (bp c slot fl f b er).fst) (.ite ((cm c.fst fl (bC
 c) (bp c slot fl f b er).fst).snd !=0) (.ret (0,0,0,0,0,List.replicate 64 (0:Int),List.replicate 64 (0:Int),List.replicate 64 (0:
 Int),List.replicate 64 (0:Int),(cm c.fst fl (bC c) (bp c slot fl f b er).fst).snd)) (.need (rq {begun:=true,s:=j4,n:=0,wait:=List.replicate 128 (0:Int)}
 (2+slot*c.snd,c.snd) (cm c.fst fl (bC c) (bp c slot fl f b er).fst).fst.cI.len (g8 f) b er) (.ite ((mX c slot fl f b er).snd
 !=0) (.ret (0,0,0,0,0,List.replicate 64 (0:Int),List.replicate 64 (0:Int),List.replicate 64 (0:Int),List.replicate 64 (0:Int),
 (mX c slot fl f b er).snd)) (.ite (!decide ((mX c slot fl f b er).fst=(cm c.fst fl (bC c) (bp c slot fl f b
 er).fst).fst.cI.plain)) (.ret (0,0,0,0,0,List.replicate 64 (0:Int),List.replicate 64 (0:Int),List.replicate 64 (0:Int),List.replicate 64
 (0:Int),7)) (.need (0≤(cm c.fst fl (bC c) (bp c slot fl f b er).fst).fst.cI.ver∧(cm c.fst fl (bC c) (bp c slot fl f b
 er).fst).fst.cI.ver<18446744073709551616∧0≤(cm c.fst fl (bC c) (bp c slot fl f b er).fst).fst.cI.qS∧(cm c.fst fl (bC c)
 (bp c slot fl f b er).fst).fst.cI.qS<18446744073709551616) (.need (jy {begun:=true,s:=j4,n:=0,wait:=List.replicate 128 (0:Int)}
 ∧0+(↑(gL c slot fl f b er).length:Int)<2305843009213693952) (.need (rq (vn c slot fl f b er) (2+slot*c.snd,c.snd) (cm c.fst
 fl (bC c) (bp c slot fl f b er).fst).fst.cI.len (g8 f) b er) (.ite ((mY c slot fl f b er).snd !=0) (.ret (0,0,0,0,0,
 List.replicate 64 (0:Int),List.replicate 64 (0:Int),List.replicate 64 (0:Int),List.replicate 64 (0:Int),(mY c slot fl f b er).snd))
 (.ret ((cm c.fst fl (bC c) (bp c slot fl f b er).fst).fst.key,(cm c.fst fl (bC c) (bp c slot fl f b er).fst).fst.blocks,(cm
 c.fst fl (bC c) (bp c slot fl f b er).fst).fst.cI.ver,(cm c.fst fl (bC c) (bp c slot fl f b er).fst).fst.cI.qS,(cm c.fst fl
 (bC c) (bp c slot fl f b er).fst).fst.cI.len,(cm c.fst fl (bC c) (bp c slot fl f b er).fst).fst.cI.list,(cm c.fst fl (bC c)
 (bp c slot fl f b er).fst).fst.cI.plain,(cm c.fst fl (bC c) (bp c slot fl f b er).fst).fst.sign,(mY c slot fl f b er).fst,
 0)))))))))))))))
def Bn(f:Fl)(b er:List Int)(c:List (List Int)×Int)(slot fl:Int):zC×List Int×Int:=
 if ¬ (j1 c er∧0≤slot∧slot<2)then(ja,List.replicate 64 0,1)
 else if f.2.1=true then(ja,List.replicate 64 0,5)
 else if(cm c.1 fl (bC c) (bJ b (1024*(2+slot*c.2)) 224)).2≠0 then(ja,List.replicate 64 0,(cm c.1 fl (bC c) (bJ b (1024*(2+slot*c.2)) 224)).2)
 else(fun(l:zC) (d:List Int)=>if kL d≠l.cI.plain then(ja,List.replicate 64 0,7)else(l,kL (qQ l.cI.ver l.cI.qS l.cI.len l.cI.list l.cI.plain++d),0))
  (cm c.1 fl (bC c) (bJ b (1024*(2+slot*c.2)) 224)).1 (bJ b (1024*(2+slot*c.2)+2048) (cm c.1 fl (bC c) (bJ b (1024*(2+slot*c.2)) 224)).1.cI.len)
def aaA(x:zC×List Int×Int):yT:=(x.1.key,x.1.blocks,x.1.cI.ver,x.1.cI.qS,x.1.cI.len,x.1.cI.list,x.1.cI.plain,x.1.sign,x.2.1,x.2.2)
theorem Dw(m:List Int)(e:Int):aaA (ja,m,e)=(0,0,0,0,0,List.replicate 64 0,List.replicate 64 0,List.replicate 64 0,m,e):=rfl
abbrev pt(c:List (List Int)×Int)(slot fl:Int)(f:Fl)(b er:List Int):Prop:=iy b er∧aA b∧vh c.1
abbrev Kg(c:List (List Int)×Int)(slot fl:Int)(f:Fl)(b er:List Int):yT:=aaA (Bn f b er c slot fl)
def aaB:al:=bD [none,some (.arr u8 32),none,none] ((aq (ak (a6 0 0)) (ab (fy NV) (ab (ak (ay .i64)) (ab (ak (ay .u64)) ae))))) (oV) (q3∘q3 pt) (q3∘q3 Kg) aay aaz
theorem PI(c:List (List Int)×Int)(slot fl:Int)(f:Fl)(b er:List Int)(h_:pt c slot fl f b er):(RS c slot fl f b er).Is (Kg c slot fl f b er):=by
 delta Kg;obtain⟨h1,h2,h3⟩:=h_
 have hr:(j1 c er∧0≤slot∧slot<2)→uh (2+slot*c.2,c.2) er:=fun⟨⟨⟨a,b,c1,d⟩,e⟩,h,i⟩=>by
  rcases(by omega:slot=0∨slot=1)with rfl|rfl<;>exact⟨by simp only;omega,by simp only;omega,by simp only;omega⟩
 simp only[RS,g8,aU,ah,aE,ai];refine⟨fun c1=>⟨h1,by rw[Bn,if_pos c1];exact(Dw _ _).symm⟩,fun c1=>⟨h1,⟨h1,hr c1⟩,?_⟩⟩;obtain⟨r1,r2,r3⟩:=hr c1;simp only at r1 r2 r3;rw[Bn,if_neg (fun h=>h c1)]
 cases c2:f.2.1 with
 |true=>
  have Vx:bp c slot fl f b er=([],5):=by unfold bp;rw[if_pos c2]
  rw[Vx,if_pos rfl];exact⟨fun h=>by simp at h,fun _=>(Dw _ _).symm⟩
 |false=>
  rw[if_neg (by decide)]
  have Vx:bp c slot fl f b er=(bJ b (1024*(2+slot*c.2)) 224,0):=by
   unfold bp;rw[if_neg (by rw[c2];decide),if_pos (by omega),Int.add_zero]
  have l1:=j0 (b:=b) (p:=1024*(2+slot*c.2)) (m:=224) (by omega);have e12:∀d,vn c slot fl f b er=bu rX (gL c slot fl f b er)∧AF (bu (bu rX (gL c slot fl f b er)) d)=kL (gL c slot fl f b er++d):=fun d=>⟨rfl,by rw[← j5];rfl⟩;have e14:∀h n,Gi f b h (2+slot*c.2,c.2) n=(AF (bu h (bJ b (1024*(2+slot*c.2)+2048) n)),0):=fun h n=>by unfold Gi;rw[if_neg (by rw[c2];simp)]
  have e11:mX c slot fl f b er=(kL (bJ b (1024*(2+slot*c.2)+2048) (cm c.1 fl (bC c) (bJ b (1024*(2+slot*c.2)) 224)).1.cI.len),0):=by unfold mX g8;rw[e14,Vx];rfl
  have e15:mY c slot fl f b er=(kL (gL c slot fl f b er++bJ b (1024*(2+slot*c.2)+2048) (cm c.1 fl (bC c) (bJ b (1024*(2+slot*c.2)) 224)).1.cI.len),0):=by
   unfold mY g8;rw[e14,Vx,(e12 []).1,(e12 _).2]
  have e16:=Bm (cm c.1 fl (bC c) (bJ b (1024*(2+slot*c.2)) 224)).1.cI.ver (cm c.1 fl (bC c) (bJ b (1024*(2+slot*c.2)) 224)).1.cI.qS (cm c.1 fl (bC c) (bJ b (1024*(2+slot*c.2)) 224)).1.cI.len (cm c.1 fl (bC c) (bJ b (1024*(2+slot*c.2)) 224)).1.cI.list (cm c.1 fl (bC c) (bJ b (1024*(2+slot*c.2)) 224)).1.cI.plain;have e17:gL c slot fl f b er=qQ (cm c.1 fl (bC c) (bJ b (1024*(2+slot*c.2)) 224)).1.cI.ver (cm c.1 fl (bC c) (bJ b (1024*(2+slot*c.2)) 224)).1.cI.qS (cm c.1 fl (bC c) (bJ b (1024*(2+slot*c.2)) 224)).1.cI.len (cm c.1 fl (bC c) (bJ b (1024*(2+slot*c.2)) 224)).1.cI.list (cm c.1 fl (bC c) (bJ b (1024*(2+slot*c.2)) 224)).1.cI.plain:=by unfold gL;rw[Vx]
  rw[e15,e11,(e12 []).1,e17,Vx];have hf:=PD (ks:=c.1) (fl:=fl) (rm:=bC c) (b:=bJ b (1024*(2+slot*c.2)) 224);have hb:=pc h2 (1024*(2+slot*c.2)) 224;have hm:bC c=1024*(c.2-2):=if_pos c1.1.1;clear Vx e11 e12 e14 e15 e17;generalize bJ b (1024*(2+slot*c.2)) 224=x at*;generalize cm c.1 fl (bC c) x=y at*
  have hs:∀h:HH,y.2=0→jy h→h.n≤1024→rq h (2+slot*c.2,c.2) y.1.cI.len f b er:=fun h h0 h5 h6=>by
   obtain⟨g1,g2,g3,g4,g5,g6,g7⟩:=hf h0;rw[g1];exact⟨h1,⟨by simp only;omega,by simp only;omega,by simp only;omega⟩,g5,by simp only;omega,h5,by simp only;omega⟩
  have ho:=eV (qQ y.1.cI.ver y.1.cI.qS y.1.cI.len y.1.cI.list y.1.cI.plain) mG;have hn:=gb (qQ y.1.cI.ver y.1.cI.qS y.1.cI.len y.1.cI.list y.1.cI.plain) rX;have o6:rX.n=0:=rfl;refine⟨fun _=>⟨⟨hb,by simp only;omega,h3⟩,fun c3=>?_,fun c3=>?_⟩,fun h=>absurd rfl h⟩
  ·rw[if_neg (by simpa using c3)];obtain⟨g1,g2,g3,g4,g5,g6,g7⟩:=hf c3;have g7:yS y.1.cI:=(by rw[g1];exact g7);refine⟨hs _ c3 mG (by decide),fun _=>⟨fun c4=>?_,fun c4=>⟨g7,⟨mG,by omega⟩,hs _ c3 ho (by omega),fun _=>?_,fun h=>absurd rfl h⟩⟩,fun h=>absurd rfl h⟩
   ·simp only;rw[if_pos c4];exact(Dw _ _).symm
   ·simp only;rw[if_neg (by simpa using c4)];rfl
  ·rw[if_pos c3];exact(Dw _ _).symm
theorem Dx:aaB.Ok Tryz.prog 35:=
 a5 mixed ((aj xx (aj kA (aj PF (aj C1 (aj Vw (aj Uv (aj mF aw)))))))) func35 (by kernel_rfl) call35 (ks:=fH) (fun _ _=>aS.nil _) (fun _ _=>by kernel_rfl) fun x_ y_ h=>PI x_.1 x_.2.1 x_.2.2.1 y_.1 y_.2.1 y_.2.2.1 h
end Go.Proofs.YtmhcoaflmgajhaaGreat
end
