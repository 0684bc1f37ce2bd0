/- What the laws lean on, part 9: a reader of code, plain facts, and what each function gives; no conditions. -/
import Derived.Test.YtnbkagglkajbkaaGreatB8
set_option linter.unusedVariables false
set_option linter.unusedSimpArgs false
noncomputable section
namespace Go.Proofs.YtnbkagglkajbkaaGreat
open Go Go.Ev Go.Proofs.Tryz
open Go.IntKind (i64 signed u16 u64 wrap)
set_option maxRecDepth 1000000
noncomputable section
abbrev JD:Func:=f42
abbrev JE:aW (List LV) (List (List Int)×Int×List (List Int)×Int×Int×Unit):=ae (ah (e9 false false (.sl u8))) (jk 2 (ae (ah (ay .i64)) (jk 5 (ae (ah (e9 false false (.sl u8))) (ae (ah (ay .i64)) (ae (ah (ay .i64)) (jk 24 ag)))))))
abbrev akW:List Wk:= [.fr (dK 36 [(0,.an),(3,.sym),(9,.an),(10,.sym),(11,.sym)])]
abbrev aaL:aW (List LV) (List (List Int)×Int×Unit):=ae (ah (e9 false false (.sl u8))) (jk 2 (ae (ah (ay .i64)) (jk 32 ag)))
abbrev aqD:List Wk:= [.fr (dK 36 [(0,.an),(3,.sym)])]
theorem aaM(l0 ls:List (List Int))(s n i:Int):ee Tryz.prog [] [] JD 0 [] (wsE akW 0 aqD) ((bD JE ag).wr ((l0,s,ls,n,i,()),()))=
  .ite (decide (i<n)) (.need (0≤i∧i<ls.length) (.ite (decide (i64.wrap (s+(ls.getD i.toNat []).length)<0)) .fail
   (.leaf .normal ((bD JE ag).wr ((l0,i64.wrap (s+(ls.getD i.toNat []).length),ls,n,i64.wrap (i+1),()),())))))
   (.leaf (.exit 0) ((bD aaL ag).wr ((l0,s,()),()))):=by kernel_rfl
theorem Dq(ls:List (List Int))(i:Nat)(h:i<ls.length):(ls.take (i+1)).flatten=(ls.take i).flatten++ls.getD i []:=by
 rw[List.take_add_one,List.flatten_append,List.getD_eq_getElem?_getD,List.getElem?_eq_getElem h];simp
theorem F3(ls:List (List Int))(i:Nat):(ls.take i).flatten.length≤ls.flatten.length:=by
 have:ls.flatten=(ls.take i).flatten++(ls.drop i).flatten:=by rw[← List.flatten_append,List.take_append_drop]
 rw[this,List.length_append];omega
def akX(x:(List (List Int)×Int×List (List Int)×Int×Int×Unit)×Unit):aZ:=
 .need (x.1.2.1=0∧x.1.2.2.2.1=x.1.2.2.1.length∧x.1.2.2.2.2.1=0∧x.1.2.2.1.flatten.length≤140737488355328∧x.1.2.2.1.length≤140737488355328) (.leaf (.exit 0) ((bD aaL ag).wr ((x.1.1,(x.1.2.2.1.flatten.length:Int),()),())))
theorem VE(x):Ex Tryz.prog [] (.loop (aV JD 0)) ((bD JE ag).wr x) (akX x):=by
 obtain⟨⟨l0,s,ls,n,i,_⟩,_⟩:=x;refine Ex.need fun⟨h1,h2,h3,h4,h5⟩=>?_;simp only at h1 h2 h3 h4 h5;subst h1 h2 h3
 refine Rw mixed aE (aO.nil _) (fun k=>ls.length-k) (fun k:Nat=>(bD JE ag).wr ((l0,((ls.take k).flatten.length:Int),ls,(ls.length:Int),(k:Int),()),())) (fun k=>k≤ls.length)
  (fun k=>.leaf (.exit 0) ((bD aaL ag).wr ((l0,(ls.flatten.length:Int),()),()))) (fun k _=>aaM l0 ls _ _ _) (fun k R hk hs=>?_) 0 (Nat.zero_le _)
 ·have hle:=F3 ls k;refine⟨fun hb=>?_,fun hb=>?_⟩
  ·have eV:k<ls.length:=(by simpa using hb);have hft:=Dq ls k eV;have auU:=F3 ls (k+1);have hlen:((ls.take (k+1)).flatten.length:Int)=(ls.take k).flatten.length+(ls.getD k []).length:=(by rw[hft,List.length_append];omega);refine⟨⟨by omega,by omega⟩,fun v9=>?_,fun _=>.inl ⟨rfl,k+1,?_,eV,by omega,hs⟩⟩
   ·rw[ax (by omega) (by simp only[Int.toNat_natCast];omega)]at v9;simp at v9;omega
   ·rw[ax (by omega) (by simp only[Int.toNat_natCast];omega),ax (by omega) (by omega)];simp only[Int.toNat_natCast];rw[← hlen];rfl
  ·have hge:k=ls.length:=(by simp at hb;omega);subst hge;rw[List.take_length];exact .inr ⟨by simp,hs⟩
abbrev JF:aW (List LV) (List (List Int)×Int×Int×Unit):=jk 6 (ak (ah (tJ 0 0)) (jk 18 (ae (ah (e9 false false (.sl u8))) (ae (ah (ay .i64)) (ae (ah (ay .i64)) (jk 8 ag))))))
abbrev akY:List Wk:= [.fr (dK 36 [(6,.an),(25,.an),(26,.sym),(27,.sym)]),.auto,.aN]
abbrev aaN:aW (List LV) Unit:=jk 6 (ak (ah (tJ 0 0)) (jk 29 ag))
abbrev aqE:List Wk:= [.fr (dK 36 [(6,.an)]),.auto,.aN]
abbrev JG:aW Hp (List Int×Unit):=ae (eG 0 u8) ag
theorem aaO(ls:List (List Int))(acc:List Int)(n i:Int):ee Tryz.prog [] [] JD 2 [] (wsE akY 2 aqE) ((bD JF JG).wr ((ls,n,i,()),(acc,())))=
  .ite (decide (i<n)) (.need (0≤i∧i<ls.length) (.need ((acc.length+(ls.getD i.toNat []).length)*1≤70368744177664∧acc.length+(ls.getD i.toNat []).length≤70368744177664)
   (.leaf .normal ((bD JF JG).wr ((ls,n,i64.wrap (i+1),()),(acc++ls.getD i.toNat [],()))))))
   (.leaf (.exit 2) ((bD aaN JG).wr ((),(acc,())))):=by kernel_rfl
def akZ(x:(List (List Int)×Int×Int×Unit)×List Int×Unit):aZ:=
 .need (x.1.2.1=x.1.1.length∧x.1.2.2.1=0∧x.2.1= []∧x.1.1.flatten.length≤70368744177664∧x.1.1.length≤140737488355328) (.leaf (.exit 2) ((bD aaN JG).wr ((),(x.1.1.flatten,()))))
theorem VF(x):Ex Tryz.prog [] (.loop (aV JD 2)) ((bD JF JG).wr x) (akZ x):=by
 obtain⟨⟨ls,n,i,_⟩,acc,_⟩:=x;refine Ex.need fun⟨h2,h3,h1,h4,h5⟩=>?_;simp only at h1 h2 h3 h4 h5;subst h1 h2 h3
 refine Rw mixed aE (aO.nil _) (fun k=>ls.length-k) (fun k:Nat=>(bD JF JG).wr ((ls,(ls.length:Int),(k:Int),()),((ls.take k).flatten,()))) (fun k=>k≤ls.length)
  (fun k=>.leaf (.exit 2) ((bD aaN JG).wr ((),(ls.flatten,())))) (fun k _=>aaO ls _ _ _) (fun k R hk hs=>?_) 0 (Nat.zero_le _)
 refine⟨fun hb=>?_,fun hb=>?_⟩
 ·have eV:k<ls.length:=by simpa using hb
  have hft:=Dq ls k eV;have auU:=F3 ls (k+1);have hlen:(ls.take (k+1)).flatten.length=(ls.take k).flatten.length+(ls.getD k []).length:=by rw[hft,List.length_append]
  refine⟨⟨by omega,by omega⟩,⟨by simp only[Int.toNat_natCast];omega,by simp only[Int.toNat_natCast];omega⟩,.inl ⟨rfl,k+1,?_,eV,by omega,hs⟩⟩;rw[ax (by omega) (by omega)];simp only[Int.toNat_natCast];rw[← hft];rfl
 ·have hge:k=ls.length:=by simp at hb;omega
  subst hge;rw[List.take_length];exact .inr ⟨by simp,hs⟩
abbrev am2:aW (List LV) (List (List Int)×Unit):=ae (ah (e9 false false (.sl u8))) ag
def F4:ar:=ar.dx [some (.sl u8)] am2 ag fun x _=>.leaf (some (x.1.flatten.length≤70368744177664∧x.1.length≤140737488355328)) (.one (.sc (.sl 0 0))) [(0,.own 0 u8 x.1.flatten)]
abbrev ak0:fq:= [(0,fF (bD JE ag) 0 akW akX),(2,fF (bD JF JG) 0 akY akZ)]
theorem aaP(ls:List (List Int)):aT Tryz.prog [(85,aaK)] ak0 JD (am2.wr (ls,())) [] [.auto,.aN]=
  .need ((0:Int)=0∧(ls.length:Int)=ls.length∧(0:Int)=0∧ls.flatten.length≤140737488355328∧ls.length≤140737488355328) (.need (0≤(ls.flatten.length:Int)∧(ls.flatten.length:Int)≤140737488355328)
   (.need ((ls.length:Int)=ls.length∧(0:Int)=0∧([]:List Int)= []∧ls.flatten.length≤70368744177664∧ls.length≤140737488355328) (.leaf (.one (.sc (.sl 0 0))) [some (.own 0 u8 ls.flatten)]))):=by kernel_rfl
theorem pG:F4.Ok Tryz.prog 42:=by
 refine(ar.br call42 fun x y Q h=>?_).sym;obtain⟨ls,_⟩:=x;obtain⟨⟨h1,h2⟩,hq⟩:=h;refine(aA mixed (aj ag7 aE) func42 rfl (LT:=ak0) (ks:= [.auto,.aN]) (aO.cU (nJ rfl (cN (hp:= []) VE) (nJ rfl (cN (hp:= []) VF) oI)))).use (D:= [(0,.own 0 u8 ls.flatten)]) ?_ hq;show(aT _ _ _ _ (am2.wr (ls,())) [] _).sat _;rw[aaP];simp only at h1 h2;exact⟨⟨rfl,rfl,rfl,by omega,by omega⟩,⟨by omega,by omega⟩,⟨rfl,rfl,rfl,h1,h2⟩,rfl,rfl⟩
end
def gL:Nat→Int→List Int
 |0,_=> []
 |k+1,x=>x%256::gL k (x/256)
theorem eu:∀ (k:Nat) (x:Int),(gL k x).length=k
 |0,_=>rfl
 |k+1,x=>by simp[gL,eu k]
theorem div_pow(x:Int)(i:Nat):x/256/256 ^ i=x/256 ^ (i+1):=by
 rw[Int.pow_succ,Int.mul_comm,Int.ediv_ediv_of_nonneg (by omega)]
theorem wQ:∀ (i:Nat) (x:Int),gL (i+1) x=gL i x++ [x/256 ^ i%256]
 |0,x=>by simp[gL]
 |i+1,x=>by
  rw[gL,wQ i,gL,List.cons_append,div_pow]
theorem JH:∀ (k:Nat) (x:Int),gL k x=(List.range k).map fun i=>x/256 ^ i%256
 |0,_=>rfl
 |k+1,x=>by rw[wQ,JH k,List.range_succ,List.map_append];rfl
theorem JI(x:Int):aT Tryz.prog [] [] f56 (aW.wr (ae (ah (ay .u64)) ag) (x,())) [] [.auto,.aN]=
 End.need ((1:Nat)≤(70368744177664:Nat)∧(1:Nat)≤(70368744177664:Nat)) (End.need ((2:Nat)≤(70368744177664:Nat)∧(2:Nat)≤
 (70368744177664:Nat)) (End.need ((3:Nat)≤(70368744177664:Nat)∧(3:Nat)≤(70368744177664:Nat)) (End.need ((4:Nat)≤(70368744177664:
 Nat)∧(4:Nat)≤(70368744177664:Nat)) (End.need ((5:Nat)≤(70368744177664:Nat)∧(5:Nat)≤(70368744177664:Nat)) (End.need ((6:Nat)≤
 (70368744177664:Nat)∧(6:Nat)≤(70368744177664:Nat)) (End.need ((7:Nat)≤(70368744177664:Nat)∧(7:Nat)≤(70368744177664:Nat))
 (End.need ((8:Nat)≤(70368744177664:Nat)∧(8:Nat)≤(70368744177664:Nat)) (End.leaf (LV.one (VV.sc (SV.sl (0:Nat) (0:Nat)))) [some
 (Item.own (0:Nat) (Ty.int IntKind.u8) ([IntKind.u8.wrap (shr u64 x (0:Int))]++ [IntKind.u8.wrap (shr u64 x (8:Int))]++
 [IntKind.u8.wrap (shr u64 x (16:Int))]++ [IntKind.u8.wrap (shr u64 x (24:Int))]++ [IntKind.u8.wrap (shr u64 x (32:
 Int))]++ [IntKind.u8.wrap (shr u64 x (40:Int))]++ [IntKind.u8.wrap (shr u64 x (48:Int))]++ [IntKind.u8.wrap (shr u64 x
 (56:Int))]))])))))))):=by kernel_rfl
def aaQ:ar:=ar.dx [] (ae (ah (ay .u64)) ag) ag fun x _=>.leaf (some (0≤x.1∧x.1<18446744073709551616)) (.one (.sc (.sl 0 0))) [(0,.own 0 u8 (gL 8 x.1))]
theorem am3:aaQ.Ok Tryz.prog 56:=by
 refine(ar.br call56 fun x y Q h=>?_).sym;obtain⟨x,_⟩:=x;obtain⟨⟨h1,h2⟩,hq⟩:=h;simp only at h1 h2;refine(aA mixed aE func56 rfl (LT:= []) (ks:= [.auto,.aN]) (aO.nil _)).use (D:= [(0,.own 0 u8 (gL 8 x))]) ?_ hq;show(aT _ _ _ _ (aW.wr (ae (ah (ay .u64)) ag) (x,())) [] _).sat _;rw[JI]
 have e:∀i:Nat,i<8→IntKind.u8.wrap (shr .u64 x (8*i:Nat))=x/256 ^ i%256:=by
  intro i hi;have e1:((2 ^ (8*i):Nat):Int)=256 ^ i:=by rw[Nat.pow_mul,Int.natCast_pow];rfl
  rw[ft .u64 x (8*i) (by simp[IntKind.bits];omega),wrap_u8,e1]
 refine⟨by omega,by omega,by omega,by omega,by omega,by omega,by omega,by omega,rfl,?_⟩;show _= [some (Item.own 0 u8 (gL 8 x))];rw[JH,← List.map_congr_left (fun i hi=>e i (by simpa using hi))];rfl
abbrev pH{Y:Type}(r:aW (List SV) Y):aW (List SV) (Int×Int×Y):=ae (ay .i64) (ae (ay .i64) r)
abbrev uC{Y:Type}(r:aW (List SV) Y):aW (List SV) (Int×Int×Int×List Int×List Int×Y):=ae (ay .u64) (ae (ay .u64) (ae (ay .i64) (ae (se u8 64) (ae (se u8 64) r))))
abbrev aaR:aW (List LV) ((Int×Int×Unit)×Unit):=ae (si (pH ag)) ag
abbrev VG:aW (List LV) ((Int×Int×Int×List Int×List Int×Unit)×Unit):=ae (si (uC ag)) ag
abbrev am4:aW (List LV) ((Int×Int×Int×Int×Int×List Int×List Int×List Int×Unit)×Unit):=ae (si (pH (uC (ae (se u8 64) ag)))) ag
def bN(a b:Int):List Int:=if 0≤a∧a<8∧1≤b∧b≤16 then [66,74,75,49,a,b,0,0]else []
def hZ(c v s:Int):Bool:=decide (v≤c∧1≤s∧s≤131072)
def aaS:ar:=ar.dx [] aaR ag fun x _=>.leaf none (.one (.sc (.sl 0 0))) [(0,.own 0 u8 (bN x.1.1 x.1.2.1))]
def Oh:ar:=ar.dx [] VG ag fun x _=>.leaf none (nB (hZ x.1.1 x.1.2.1 x.1.2.2.1)) []
theorem F5(a b:Int):aT Tryz.prog [(42,F4)] [] f84 (aaR.wr ((a,b,()),())) [] [.eW 0 u8,.auto,.aN]=
 End.ite (decide (a<(0:Int))==false) (End.ite (decide ((8:Int)≤a)==false) (End.ite (decide (b<(1:Int))==false) (End.ite (decide ((16:
 Int)<b)) (End.leaf (LV.one (VV.sc (SV.sl (0:Nat) (0:Nat)))) [some (Item.own (0:Nat) (Ty.int IntKind.u8) [])]) (End.need ((8:Nat)≤
 (70368744177664:Nat)∧(2:Nat)≤(140737488355328:Nat)) (End.leaf (LV.one (VV.sc (SV.sl (0:Nat) (0:Nat)))) [some (Item.own (0:Nat) (Ty.int
 IntKind.u8) [[(66:Int),(74:Int),(75:Int),(49:Int)],[IntKind.u8.wrap a,IntKind.u8.wrap b,(0:Int),(0:Int)]].flatten)]))) (End.leaf
 (LV.one (VV.sc (SV.sl (0:Nat) (0:Nat)))) [some (Item.own (0:Nat) (Ty.int IntKind.u8) [])])) (End.leaf (LV.one (VV.sc (SV.sl (0:Nat) (0:
 Nat)))) [some (Item.own (0:Nat) (Ty.int IntKind.u8) [])])) (End.leaf (LV.one (VV.sc (SV.sl (0:Nat) (0:Nat)))) [some (Item.own (0:Nat) (Ty.int
 IntKind.u8) [])]):=by kernel_rfl
theorem Oi(c v s:Int)(a b:List Int):aT Tryz.prog [] [] f55 (VG.wr ((c,v,s,a,b,()),())) [] [.fr [.sym],.auto]=
 End.ite (decide (v≤c)==true) (End.ite (decide ((1:Int)≤s)==true) (End.leaf (LV.one (VV.sc (SV.bool (SB.sym (decide (s≤(131072:Int)))))))
 []) (End.leaf (LV.one (VV.sc (SV.bool (SB.sym false)))) [])) (End.leaf (LV.one (VV.sc (SV.bool (SB.sym false)))) []):=by kernel_rfl
theorem aaT(c v s:Int)(a b:List Int):aT Tryz.prog [(55,Oh),(56,aaQ),(42,F4)] [] f23 (VG.wr ((c,v,s,a,b,()),())) [] [.eW 0 u8,.auto,.aN]=
 End.ite (!hZ c v s) (End.leaf (LV.one (VV.sc (SV.sl (0:Nat) (0:Nat)))) [some (Item.own (0:Nat) (Ty.int IntKind.u8) [])]) (End.need ((0:Int)
 ≤c∧c<(18446744073709551616:Int)) (End.need ((0:Int)≤v∧v<(18446744073709551616:Int)) (End.need ((0:Int)≤u64.wrap s∧
 u64.wrap s<(18446744073709551616:Int)) (End.need ((0:Int)≤(0:Int)∧(0:Int)≤(64:Int)∧(64:Int)≤(64:Int)) (End.need ((0:
 Int)≤(0:Int)∧(0:Int)≤(64:Int)∧(64:Int)≤(64:Int)) (End.need ([gL (8:Nat) c,gL (8:Nat) v,gL (8:Nat) (u64.wrap
 s),List.take (64:Nat) (List.drop (0:Nat) a),List.take (64:Nat) (List.drop (0:Nat) b)].flatten.length≤(70368744177664:Nat)∧(5:Nat)≤
 (140737488355328:Nat)) (End.leaf (LV.one (VV.sc (SV.sl (0:Nat) (0:Nat)))) [some (Item.own (0:Nat) (Ty.int IntKind.u8) [gL (8:Nat) c,gL
 (8:Nat) v,gL (8:Nat) (u64.wrap s),List.take (64:Nat) (List.drop (0:Nat) a),List.take (64:Nat) (List.drop (0:Nat)
 b)].flatten)]))))))):=by kernel_rfl
theorem mq{l m:List Int}(h:l=m): [some (Item.own 0 u8 l)]=aF [(0,Item.own 0 u8 m)] []:=by rw[h];rfl
theorem So:aaS.Ok Tryz.prog 84:=by
 refine(ar.br call84 fun x y Q h=>?_).sym;obtain⟨⟨a,b,_⟩,_⟩:=x;refine(aA mixed (aj pG aE) func84 rfl (LT:= []) (ks:= [.eW 0 u8,.auto,.aN]) (aO.nil _)).use (D:= [(0,.own 0 u8 (bN a b))]) ?_ h.2;show(aT _ _ _ _ (aaR.wr ((a,b,()),())) [] _).sat _;rw[F5]
 refine⟨fun h1=>⟨fun h2=>⟨fun h3=>⟨fun h4=>⟨rfl,mq ?_⟩,fun h4=>⟨by omega,rfl,mq ?_⟩⟩,fun h3=>⟨rfl,mq ?_⟩⟩,fun h2=>⟨rfl,mq ?_⟩⟩,fun h1=>⟨rfl,mq ?_⟩⟩<;>
  simp at* <;>unfold bN<;>first|(rw[if_neg (by omega)])|(rw[if_pos (by omega),wrap_u8,wrap_u8,Int.emod_eq_of_lt (by omega) (by omega),Int.emod_eq_of_lt (by omega) (by omega)])
theorem aaU{b c:Bool}(h:b=c):nB b=nB c:=by rw[h]
theorem JJ:Oh.Ok Tryz.prog 55:=by
 refine(ar.br call55 fun x y Q h=>?_).sym;obtain⟨⟨c,v,s,a,b,_⟩,_⟩:=x;refine(aA mixed aE func55 rfl (LT:= []) (ks:= [.fr [.sym],.auto]) (aO.nil _)).use (D:= []) ?_ h.2;show(aT _ _ _ _ (VG.wr ((c,v,s,a,b,()),())) [] _).sat _;rw[Oi];refine⟨fun h1=>⟨fun h2=>⟨aaU ?_,rfl⟩,fun h2=>⟨aaU ?_,rfl⟩⟩,fun h1=>⟨aaU ?_,rfl⟩⟩<;>simp_all[hZ]<;>omega
def cG(c v s:Int)(a b:List Int):List Int:=if hZ c v s=true then gL 8 c++gL 8 v++gL 8 s++a.take 64++b.take 64 else []
theorem ku{c v s:Int}(h:hZ c v s=true):1≤s∧s≤131072:=by simp[hZ]at h;omega
def VH:ar:=ar.dx [] VG ag fun x _=>.leaf (some (0≤x.1.1∧x.1.1<18446744073709551616∧0≤x.1.2.1∧x.1.2.1<18446744073709551616)) (.one (.sc (.sl 0 0))) [(0,.own 0 u8 (cG x.1.1 x.1.2.1 x.1.2.2.1 x.1.2.2.2.1 x.1.2.2.2.2.1))]
theorem AW:VH.Ok Tryz.prog 23:=by
 refine(ar.br call23 fun x y Q h=>?_).sym;obtain⟨⟨c,v,s,a,b,_⟩,_⟩:=x;obtain⟨⟨h1,h2,h3,h4⟩,hq⟩:=h;simp only at h1 h2 h3 h4;refine(aA mixed (aj JJ (aj am3 (aj pG aE))) func23 rfl (LT:= []) (ks:= [.eW 0 u8,.auto,.aN]) (aO.nil _)).use (D:= [(0,.own 0 u8 (cG c v s a b))]) ?_ hq;show(aT _ _ _ _ (VG.wr ((c,v,s,a,b,()),())) [] _).sat _;rw[aaT];refine⟨fun hb=>⟨rfl,mq ?_⟩,fun hb=>?_⟩
 ·simp at hb;simp[cG,hb]
 ·simp at hb;obtain⟨r1,r2⟩:=ku hb;have e:=wrap_u64 (n:=s) (by omega) (by omega);rw[e];refine⟨⟨h1,h2⟩,⟨h3,h4⟩,⟨by omega,by omega⟩,⟨by omega,by omega,by omega⟩,⟨by omega,by omega,by omega⟩,⟨?_,by omega⟩,rfl,mq ?_⟩
  ·simp[eu];omega
  ·simp[cG,hb]
def lD(hd mn sg:List Int):List Int:=if hd.length=0∨mn.length=0 then []else hd++mn++sg.take 64
theorem CI(a b c v s:Int)(x y z:List Int):aT Tryz.prog [(84,aaS),(23,VH),(42,F4)] [] f41 (am4.wr ((a,b,c,v,s,x,y,z,()),())) [] [.eW 0 u8,.auto,.aN]=
 End.need ((0:Int)≤c∧c<(18446744073709551616:Int)∧(0:Int)≤v∧v<(18446744073709551616:Int)) (End.ite (((↑(bN a b).length:Int)
 ==(0:Int))==false) (End.ite ((↑(cG c v s x y).length:Int)==(0:Int)) (End.leaf (LV.one (VV.sc (SV.sl (0:Nat) (0:Nat)))) [some (Item.own
 (0:Nat) (Ty.int IntKind.u8) [])]) (End.need ((0:Int)≤(0:Int)∧(0:Int)≤(64:Int)∧(64:Int)≤(64:Int)) (End.need ([bN a b,cG c
 v s x y,List.take (64:Nat) (List.drop (0:Nat) z)].flatten.length≤(70368744177664:Nat)∧(3:Nat)≤(140737488355328:Nat)) (End.leaf (LV.one
 (VV.sc (SV.sl (0:Nat) (0:Nat)))) [some (Item.own (0:Nat) (Ty.int IntKind.u8) [bN a b,cG c v s x y,List.take (64:Nat) (List.drop (0:
 Nat) z)].flatten)])))) (End.leaf (LV.one (VV.sc (SV.sl (0:Nat) (0:Nat)))) [some (Item.own (0:Nat) (Ty.int IntKind.u8) [])])):=by kernel_rfl
theorem Dr(a b:Int):(bN a b).length≤8:=by unfold bN;split<;>simp
theorem aaV(c v s:Int)(a b:List Int):(cG c v s a b).length≤152:=by unfold cG;split<;>simp[eu];omega
def am5:ar:=ar.dx [] am4 ag fun x _=>.leaf (some (0≤x.1.2.2.1∧x.1.2.2.1<18446744073709551616∧0≤x.1.2.2.2.1∧x.1.2.2.2.1<18446744073709551616)) (.one (.sc (.sl 0 0)))
 [(0,.own 0 u8 (lD (bN x.1.1 x.1.2.1) (cG x.1.2.2.1 x.1.2.2.2.1 x.1.2.2.2.2.1 x.1.2.2.2.2.2.1 x.1.2.2.2.2.2.2.1) x.1.2.2.2.2.2.2.2.1))]
theorem aaW:am5.Ok Tryz.prog 41:=by
 refine(ar.br call41 fun x y Q h=>?_).sym;obtain⟨⟨a,b,c,v,s,x,y,z,_⟩,_⟩:=x;obtain⟨hr,hq⟩:=h;simp only at hr;refine(aA mixed (aj So (aj AW (aj pG aE))) func41 rfl (LT:= []) (ks:= [.eW 0 u8,.auto,.aN]) (aO.nil _)).use (D:= [(0,.own 0 u8 (lD (bN a b) (cG c v s x y) z))]) ?_ hq;show(aT _ _ _ _ (am4.wr ((a,b,c,v,s,x,y,z,()),())) [] _).sat _;rw[CI];have h1:=Dr a b;have h2:=aaV c v s x y;generalize bN a b=hd at*;generalize cG c v s x y=mn at*;refine⟨hr,fun hb=>⟨fun hc=>⟨rfl,mq ?_⟩,fun hc=>⟨by omega,⟨?_,by omega⟩,rfl,mq ?_⟩⟩,fun hb=>⟨rfl,mq ?_⟩⟩
 ·simp at hb hc;simp[lD,hc]
 ·simp;omega
 ·simp at hb hc;simp[lD,hc,hb]
 ·simp at hb;simp[lD,hb]
abbrev bbA:aW (List LV) (List Int×List Int×Unit):=ae (ah (e9 false false u8)) (ae (ah (e9 false false u8)) ag)
theorem Oj(a b:List Int):aT Tryz.prog [] [] f227 (bbA.wr (a,b,())) [] []=
 End.leaf (LV.one (VV.sc (SV.bool (SB.sym (fD a b))))) []:=by kernel_rfl
theorem F6:aT Tryz.prog [] [] f39 [] [] [.auto,.aN]=
 End.leaf (LV.one (VV.sc (SV.sl (0:Nat) (0:Nat)))) [some (Item.own (0:Nat) (Ty.int IntKind.u8) [(98:Int),(111:Int),(111:Int),(116:Int),
 (106:Int),(97:Int),(99:Int),(107:Int)])]:=by kernel_rfl
def Ol:ar:=ar.dx [some u8,some u8] bbA ag fun x _=>.leaf none (nB (fD x.1 x.2.1)) []
theorem JK:Ol.Ok Tryz.prog 227:=by
 refine(ar.br call227 fun x y Q h=>?_).sym;obtain⟨a,b,_⟩:=x;refine(aA mixed aE func227 rfl (LT:= []) (ks:= []) (aO.nil _)).use (D:= []) ?_ h.2;show(aT _ _ _ _ (bbA.wr (a,b,())) [] _).sat _;rw[Oj];exact⟨rfl,rfl⟩
def VI:ar:=ar.of [] ag ag fun _ _=>.leaf none (.one (.sc (.sl 0 0))) [(0,.own 0 u8 [98,111,111,116,106,97,99,107])]
theorem Om:VI.Ok Tryz.prog 39:=by
 refine ar.br call39 fun x y Q h=>?_;refine(aA mixed aE func39 rfl (LT:= []) (ks:= [.auto,.aN]) (aO.nil _)).use (D:= [(0,.own 0 u8 [98,111,111,116,106,97,99,107])]) ?_ h.2;show(aT _ _ _ _ [] [] _).sat _;rw[F6];exact⟨rfl,rfl⟩
theorem F7(l:List Int):aT Tryz.prog [(84,aaS),(227,Ol)] [] f155 (bA.wr (l,())) [] [.fr [.sym],.auto]=
 End.ite ((↑l.length:Int)!=(8:Int)) (End.leaf (LV.cT [VV.agg [SV.int i64 (SI.sym (0:Int)),SV.int i64 (SI.sym (0:Int))],
 VV.sc (SV.bool (SB.sym false))]) []) (End.need ((0:Int)≤(4:Int)∧(4:Int)<(↑l.length:Int)) (End.need ((0:Int)≤(5:Int)∧(5:Int)<
 (↑l.length:Int)) (End.ite (!fD (bN (i64.wrap (l.getD (4:Nat) (0:Int))) (i64.wrap (l.getD (5:Nat) (0:Int)))) l)
 (End.leaf (LV.cT [VV.agg [SV.int i64 (SI.sym (0:Int)),SV.int i64 (SI.sym (0:Int))],VV.sc (SV.bool (SB.sym false))]) [])
 (End.leaf (LV.cT [VV.agg [SV.int i64 (SI.sym (i64.wrap (l.getD (4:Nat) (0:Int)))),SV.int i64 (SI.sym (i64.wrap
 (l.getD (5:Nat) (0:Int))))],VV.sc (SV.bool (SB.sym true))]) [])))):=by kernel_rfl
def aU(l:List Int):(Int×Int)×Bool:=
 if l.length=8∧fD (bN (i64.wrap (l.getD 4 0)) (i64.wrap (l.getD 5 0))) l=true then((i64.wrap (l.getD 4 0),i64.wrap (l.getD 5 0)),true)else((0,0),false)
def AX(r:(Int×Int)×Bool):LV:=.cT [.agg [.int .i64 (.sym r.1.1),.int .i64 (.sym r.1.2)],.sc (.bool (.sym r.2))]
def pI:ar:=ar.dx [some u8] bA ag fun x _=>.leaf none (AX (aU x.1)) []
theorem xQ{l:List Int}(h:¬ (l.length=8∧fD (bN (i64.wrap (l.getD 4 0)) (i64.wrap (l.getD 5 0))) l=true)):LV.cT [.agg [.int .i64 (.sym 0),.int .i64 (.sym 0)],.sc (.bool (.sym false))]=AX (aU l):=by
 unfold aU;rw[if_neg h];rfl
theorem F8{l:List Int}(h:l.length=8∧fD (bN (i64.wrap (l.getD 4 0)) (i64.wrap (l.getD 5 0))) l=true):
  LV.cT [.agg [.int .i64 (.sym (i64.wrap (l.getD 4 0))),.int .i64 (.sym (i64.wrap (l.getD 5 0)))],.sc (.bool (.sym true))]=AX (aU l):=by
 unfold aU;rw[if_pos h];rfl
theorem AY:pI.Ok Tryz.prog 155:=by
 refine(ar.br call155 fun x y Q h=>?_).sym;obtain⟨l,_⟩:=x;refine(aA mixed (aj So (aj JK aE)) func155 rfl (LT:= []) (ks:= [.fr [.sym],.auto]) (aO.nil _)).use (D:= []) ?_ h.2;show(aT _ _ _ _ (bA.wr (l,())) [] _).sat _;rw[F7];refine⟨fun h1=>⟨xQ ?_,rfl⟩,fun h1=>?_⟩
 ·intro h;rw[h.1]at h1;cases h1
 ·have h1':(l.length:Int)=8:=bne_eq_false_iff_eq.1 h1;refine⟨⟨by omega,by omega⟩,⟨by omega,by omega⟩,fun h2=>⟨xQ ?_,rfl⟩,fun h2=>⟨F8 ⟨by omega,?_⟩,rfl⟩⟩
  ·intro h;rw[h.2]at h2;cases h2
  ·revert h2;cases fD _ _<;>simp
theorem AZ(l:List Int):fD l l=true:=by simp[fD]
abbrev F9:Type:=RH×(List Int)×(List Int)×(List Int)
abbrev aaX(x:F9):LV:=LV.one (VV.sc (SV.ptr 0 0))
abbrev aaY(x:F9):List (Nat×Ev.Item):= [(0,jRd.wr x.1),(1,jT2.wr ()),(2,Item.own 0 (Ty.int u16) x.2.1),(3,
 jT4.wr ()),(4,Item.own 0 (Ty.int u16) x.2.2.1),(5,jT6.wr ()),(6,Item.own 0 (Ty.int u16) x.2.2.2)]
def aaZ:Tr (F9):=(.need (qT) (.ret ({cs:= [1024,1024],bh:=0,part:=0,node:=1,t:=(0,0,0)},ca 8,ca
 8,ca 6)))
theorem On:aT Tryz.prog [(126,yw)] [] f316 ((ag).wr (())) ((ag).wr (())) [.fr [.sym],.syms,.auto,.aN,.j7 0 0 2 .i64]=(aaZ).end aaX aaY ((ag).wr (())):=by kernel_rfl
theorem VJ:aO Tryz.prog ((ag).wr (())) [] (aG f316):=(aO.nil _)
abbrev A0:Prop:=True
abbrev Oo:F9:=(⟨[1024,1024],0,0,1,(0,0,0)⟩,ca 8,ca 8,ca 6)
def Oq:ar:=dm [] (ag) (ag) (fun _ _=>A0) (fun _ _=>Oo) aaX aaY
theorem aa0(h_:A0):(aaZ).Is (Oo):=by
 delta Oo;exact⟨trivial,rfl⟩
theorem JL:Oq.Ok Tryz.prog 316:=
 bY mixed ((aj wJ aE)) func316 (by kernel_rfl) call316 (fun x_ y_=>VJ) (fun x_ y_=>On) (fun x_ y_ h=>aa0 h)
abbrev auW:aW Ev.Item RH:=wz 385 (cRH 2 4 6)
abbrev jT3:=jT 3
abbrev jT5:=jT 5
abbrev jT7:=jT 7
def dE:Nat→Int→Int→List Int→Dc→RH→List Int→List Int→List Int→List dc→List dc×Bool
 |0,_,_,_,_,_,_,_,_,_=>([],false)
 |n+1,plain,made,b,d,r,p1,p2,p3,out=>
  let f:=cL b d
  if f.1=true then
   if made=plain then(out,true)
   else
    let x:=fI r p1 p2 p3 f.2.2
    if x.1.2=true then
     if kt x.1.1 made=true∧bG x.1.1≤plain-made then dE n plain (made+bG x.1.1) f.2.1 x.2.2.2.2.2 x.2.1 x.2.2.1 x.2.2.2.1 x.2.2.2.2.1 (out++ [x.1.1])
     else([],false)
    else dE n plain made f.2.1 x.2.2.2.2.2 x.2.1 x.2.2.1 x.2.2.2.1 x.2.2.2.2.1 out
  else([],false)
theorem wR{p:List Int}(h:gU p)(n b:Int):gU (dA p n b):=by
 intro i;have ha:=pj (p.getD n.toNat 0) b;unfold dA
 split
 ·rw[wD];split
  ·omega
  ·exact h i
 ·exact h i
theorem aa1{c w:Int}(h1:0≤c)(h2:c≤w)(h3:65536≤w)(h4:w<4294967296):xO (AG c w):=by
 unfold AG
 split
 ·exact⟨h1,by simp only;omega,by simp only;omega,.inr (.inl ⟨rfl,by simp only;omega⟩)⟩
 ·exact⟨h1,by simp only;omega,h4,.inl ⟨rfl,by simp only;omega⟩⟩
theorem JM{d:Dc}(h:xO d){x y:Int}(hx:65536≤x∧x<4294967296)(hy:65536≤y∧y<4294967296)(eV:d.1≤x+y):xO (iJ d x y).2:=by
 have h1:=h.1;unfold iJ
 split
 ·exact aa1 h1 (by omega) hx.1 hx.2
 ·exact aa1 (by omega) (by omega) hy.1 hy.2
theorem uD{d:Dc}(h:xO d)(p:Int):xO (bF p d).2.2:=by
 unfold bF
 split
 ·rename_i hm;have hb:=im p h.2.1 h.2.2.1;have hm':=(uo d).1 hm;have:=h.2.2.1;exact JM h ⟨by omega,by omega⟩ ⟨by omega,by omega⟩ (by omega)
 ·exact h
theorem VK{d:Dc}(h:xO d):xO (dy d).2:=by
 unfold dy
 split
 ·rename_i hm;have hm':=(uo d).1 hm;have h1:=h.2.1;have h2:=h.2.2.1;exact JM h ⟨by omega,by omega⟩ ⟨by omega,by omega⟩ (by omega)
 ·exact h
theorem am6{r:RH}{p1 p2 p3:List Int}{d:Dc}(h1:gU p1)(h2:gU p2)(h3:gU p3)(h:xO d):
  let x:=(gW r p1 p2 p3 d).2.2
  gU x.1∧gU x.2.1∧gU x.2.2.1∧xO x.2.2.2:=by
 unfold gW
 split
 ·exact⟨h1,h2,h3,uD h _⟩
 ·split
  ·exact⟨h1,h2,h3,VK h⟩
  ·split
   ·exact⟨wR h1 _ _,h2,h3,uD h _⟩
   ·split
    ·exact⟨h1,wR h2 _ _,h3,uD h _⟩
    ·exact⟨h1,h2,wR h3 _ _,uD h _⟩
theorem Ot(r:RH)(p1 p2 p3:List Int)(d:Dc):(fI r p1 p2 p3 d).2.2=(gW r p1 p2 p3 d).2.2:=by
 unfold fI;simp only
 split
 ·rfl
 ·split<;>rfl
def muR(r:RH):Nat:=(if r.part=0 then 21 else if r.part=1 then 8 else if r.part=2 then 20 else if r.part=3 then 12 else 6)-r.node.toNat.log2
theorem aa2(n b:Int)(h:1≤n)(h0:0≤b)(h1:b≤1):(2*n+b).toNat.log2=n.toNat.log2+1:=by
 have e:(2*n+b).toNat/2=n.toNat:=by omega
 rw[Nat.log2_def,if_pos (by omega),e]
theorem ag9{n:Int}{k:Nat}(h:1≤n)(h1:n<2 ^ k):n.toNat.log2<k:=by
 rw[Nat.log2_lt (by omega)];have:((2 ^ k:Nat):Int)=2 ^ k:=by exact_mod_cast rfl
 omega
theorem aha{r:RH}(h:ROk r)(p1 p2 p3:List Int)(d:Dc)(hw:(fI r p1 p2 p3 d).1.2=false):muR (fI r p1 p2 p3 d).2.1<muR r:=by
 obtain⟨b1,b2,b3,b4,b5,b6,b7⟩:=wO r p1 p2 p3 d;obtain⟨k1,k2,k3,k4,k5,k6,k7⟩:=h;have hl:=aa2 r.node (gW r p1 p2 p3 d).1 k4.1 b6 b7
 have Cz:r.node.toNat.log2<(if r.part=0 then 1 else if r.part=1∨r.part=2 then 8 else 6):=by
  refine ag9 k4.1 ?_;have:=k4.2;unfold kW at this
  split at this
  ·rename_i e;rw[if_pos e];simpa using this
  ·rename_i e
   split at this
   ·rename_i e1;rw[if_neg e,if_pos e1];simpa using this
   ·rename_i e1;rw[if_neg e,if_neg e1];simpa using this
 unfold fI at hw ⊢;simp only at hw ⊢;have l1:(1:Int).toNat.log2=0:=by decide
 split
 ·rename_i e;unfold muR;simp only[hl]
  split at Cz
  ·rename_i e1;simp only[e1,if_true];omega
  ·rename_i e1;simp only[e1,if_false]
   split at Cz
   ·rename_i e2;rcases e2 with e2|e2
    ·simp only[e2,if_true];omega
    ·simp only[e2];simp;omega
   ·rename_i e2;rw[if_neg (fun h=>e2 (.inl h)),if_neg (fun h=>e2 (.inr h))]
    split<;>omega
 ·rename_i e;rw[if_neg e]at hw
  split
  ·rename_i hy;rw[if_pos hy]at hw;cases hw
  ·rename_i hy;unfold iK at hy ⊢;simp only at hy ⊢;unfold muR
   by_cases c0:r.part=0
   ·rw[if_pos c0]at Cz;simp only[c0,if_true,l1]at hy ⊢
    split<;>simp<;>omega
   ·by_cases c1:r.part=1
    ·simp[c1]at hy
    ·by_cases c2:r.part=2
     ·rw[if_neg c0,if_pos (.inr c2)]at Cz;simp[c2,l1];omega
     ·by_cases c3:r.part=3
      ·rw[if_neg c0,if_neg (by omega)]at Cz;simp[c3,l1];omega
      ·simp[c0,c1,c2,c3]at hy
abbrev A1:Type:=(List Int)×Int×Int×(Int×Int×Int)×RH×(List Int)×(List Int)×(List Int)×(List (Int×Int×Int))
abbrev A2:aW St A1:=(bD (ae (ah (e9 false false (Ty.int IntKind.u8))) (ae (ah (ay i64)) (jk 4 (ak
 (ah (aP (0) (0))) (ak (ah (aP (1) (0))) (ak (ah (tJ (8) (0))) (ae (ah (ay i64)) (jk 45 ag)))))))) (ae (dF NM)
 (ae (dF auW) (ak (dF jT3) (ae (eG (0) (Ty.int u16)) (ak (dF jT5) (ae (eG (0) (Ty.int u16)) (ak (dF
 jT7) (ae (eG (0) (Ty.int u16)) (ae (eG (0) ((Ty.int i64).pair ((Ty.int i64).pair (Ty.int IntKind.u8))))
 ag)))))))))).nH (fun y=>(y.1.1,y.1.2.1,y.1.2.2.1,y.2.1,y.2.2.1,y.2.2.2.1,y.2.2.2.2.1,y.2.2.2.2.2.1,y.2.2.2.2.2.2.1)) (fun x=>((x.1,
 (x.2.1,(x.2.2.1,()))),(x.2.2.2.1,(x.2.2.2.2.1,(x.2.2.2.2.2.1,(x.2.2.2.2.2.2.1,(x.2.2.2.2.2.2.2.1,(x.2.2.2.2.2.2.2.2,())))))))) (fun _=>rfl)
abbrev Ou:List Wk:= [.eW 8 nO,.eW 4 nO,.fr (dK 55 [(0,.an),(1,.an),(6,.an),(7,.an),(8,.an),(9,.an)]),.syms,
 .auto,.aN]
abbrev aa3:Exit→List Wk:=Di Ou 0 [.eW 8 nO,.eW 4 nO,.fr (dK 55 [(4,.an),(5,.an)]),.syms,.auto,.aN] [.eW 8 nO,
 .eW 4 nO,.fr (dK 55 [(4,.an),(5,.an)]),.syms,.auto,.aN]
def Ga(b':List Int)(d:Int×Int×Int):Int×Int×Int:=(cL b' d).snd.snd
def fX(b':List Int)(d:Int×Int×Int)(r:RH)(p1:List Int)(p2:List Int)(p3:List Int):((Int×Int×Int)×Bool)×
 RH×List Int×List Int×List Int×Int×Int×Int:=fI r p1 p2 p3 (Ga b' d)
def nQ(b':List Int)(d:Int×Int×Int)(r:RH)(p1:List Int)(p2:List Int)(p3:List Int):Int×Int×Int:=(fX
 b' d r p1 p2 p3).fst.fst
abbrev Ov:Type:=Bool×(List (Int×Int×Int))
abbrev aa4(x:Ov):Exit×St:=(Exit.ret,⟨(jK 4 (LV.one (VV.sc (SV.sl 0 0))::(LV.one (VV.sc (SV.bool (SB.sym x.1)))::
 (jK 49 [])))),[some (Item.own 0 ((Ty.int i64).pair ((Ty.int i64).pair (Ty.int IntKind.u8))) x.2)]⟩)
def sr(b':List Int)(pl:Int)(made:Int)(d:Int×Int×Int)(r:RH)(p1:List Int)(p2:List Int)(p3:List Int)(out:
 List (Int×Int×Int)):Tr (A1⊕(Ov)):=(.need (FY b' d) (.ite (!(cL b' d).fst) (.ret (.inr (false,[]))) (.ite (made==pl) (.ret
 (.inr (true,out))) (.need (wP r p1 p2 p3 (Ga b' d)) (.ite (!(fX b' d r p1 p2 p3).fst.snd) (.ret (.inl ((cL b' d).snd.fst,pl,
 made,(fX b' d r p1 p2 p3).snd.snd.snd.snd.snd,(fX b' d r p1 p2 p3).snd.fst,(fX b' d r p1 p2 p3).snd.snd.fst,(fX b' d r p1 p2
 p3).snd.snd.snd.fst,(fX b' d r p1 p2 p3).snd.snd.snd.snd.fst,out))) (.need (yp (nQ b' d r p1 p2 p3) made) (.ite ((!kt (nQ b' d
 r p1 p2 p3) made)==false) (.need (jL (nQ b' d r p1 p2 p3)) (.ite (decide (i64.wrap (pl-made)<bG (nQ b' d r p1 p2 p3)))
 (.ret (.inr (false,[]))) (.need (jL (nQ b' d r p1 p2 p3)) (.need ((out.length+1)*24≤70368744177664∧out.length+1≤70368744177664)
 (.ret (.inl ((cL b' d).snd.fst,pl,i64.wrap (made+bG (nQ b' d r p1 p2 p3)),(fX b' d r p1 p2 p3).snd.snd.snd.snd.snd,
 (fX b' d r p1 p2 p3).snd.fst,(fX b' d r p1 p2 p3).snd.snd.fst,(fX b' d r p1 p2 p3).snd.snd.snd.fst,(fX b' d r p1 p2
 p3).snd.snd.snd.snd.fst,out++ [(fX b' d r p1 p2 p3).fst.fst]))))))) (.ret (.inr (false,[]))))))))))
theorem Ow(b:List Int)(plain:Int)(b':List Int)(pl:Int)(made:Int)(d:Int×Int×Int)(r:RH)(p1:List Int)(p2:List Int)(p3:List Int)(out:List (Int×Int×Int)):ee Tryz.prog [(316,Oq),(315,Z9),(317,akV),(318,Sn),(180,RN),(130,wF)] [] f287 0 ((ag).wr (())) aa3 (A2.wr (b',pl,made,d,r,p1,p2,p3,out))=(sr b' pl made d r p1 p2 p3 out).res A2.wr aa4:=by kernel_rfl
theorem aa5{b:List Int}{d:Dc}(h:xO d)(hb:al b):xO (cL b d).2.2∧al (cL b d).2.1∧(cL b d).2.1.length≤b.length:=by
 obtain⟨h1,h2,h3,_⟩:=Jx b d h hb;unfold cL
 split
 ·exact⟨h1,h2,h3⟩
 ·exact⟨h1,al.nil,by simp⟩
theorem aa6(r:RH):muR r≤21:=by unfold muR;split<;>(try split)<;>(try split)<;>(try split)<;>omega
abbrev A3(b':List Int)(pl:Int)(made:Int)(d:Int×Int×Int)(r:RH)(p1:List Int)(p2:List Int)(p3:List Int)(out:List (Int×Int×Int)):Prop:=xO d∧al b'∧b'.length<1099511627776∧ROk r∧gU p1∧gU p2∧gU p3∧0≤made∧made≤pl∧pl≤8192∧out.length≤made
abbrev Ox(b':List Int)(pl:Int)(made:Int)(d:Int×Int×Int)(r:RH)(p1:List Int)(p2:List Int)(p3:List Int)(out:List (Int×Int×Int)):Ov:=((dE 200000 pl made b' d r p1 p2 p3 out).2,(dE 200000 pl made b' d r p1 p2 p3 out).1)
abbrev Oy:A1→aZ:=hY (fun x_=>A3 x_.1 x_.2.1 x_.2.2.1 x_.2.2.2.1 x_.2.2.2.2.1 x_.2.2.2.2.2.1 x_.2.2.2.2.2.2.1 x_.2.2.2.2.2.2.2.1 x_.2.2.2.2.2.2.2.2) (fun x_=>Ox x_.1 x_.2.1 x_.2.2.1 x_.2.2.2.1 x_.2.2.2.2.1 x_.2.2.2.2.2.1 x_.2.2.2.2.2.2.1 x_.2.2.2.2.2.2.2.1 x_.2.2.2.2.2.2.2.2) aa4
theorem aa7(b':List Int)(pl:Int)(made:Int)(d:Int×Int×Int)(r:RH)(p1:List Int)(p2:List Int)(p3:List Int)(out:List (Int×Int×Int))(h_:A3 b' pl made d r p1 p2 p3 out):dO (fun x_:A1=>sr x_.1 x_.2.1 x_.2.2.1 x_.2.2.2.1 x_.2.2.2.2.1 x_.2.2.2.2.2.1 x_.2.2.2.2.2.2.1 x_.2.2.2.2.2.2.2.1 x_.2.2.2.2.2.2.2.2) (b',pl,made,d,r,p1,p2,p3,out) (Ox b' pl made d r p1 p2 p3 out):=by
 delta Ox;obtain⟨h1,h2,h3,h4,h5,h6,h7,h8,h9,h10,h11⟩:=h_;obtain⟨m,hm⟩:∃m:Nat,(pl-made).toNat*22+muR r<m:=⟨_,Nat.lt_succ_self _⟩
 have hf:m≤200000∨((pl-made).toNat*22+muR r<200000):=by
  have:=aa6 r;right;omega
 obtain⟨n,hn1,hn2⟩:∃n:Nat,n=200000∧(pl-made).toNat*22+muR r<n:=⟨200000,rfl,by have:=aa6 r;omega⟩;rw[← hn1];clear hf hm hn1;clear m
 induction n generalizing made b' d r p1 p2 p3 out with
 |zero=>omega
 |succ n ih=>
  obtain⟨f1,f2,f3⟩:=aa5 h1 h2;have ea0:Ga b' d=(cL b' d).2.2:=rfl;rw[dE];simp only
  by_cases oN:(cL b' d).1=true
  ·rw[if_pos oN]
   by_cases he:made=pl
   ·rw[if_pos he];refine .stop ?_;simp only[sr,ao,fU,fT,aq];exact⟨⟨h1,h2,h3⟩,fun _=>⟨fun _=>trivial,fun h=>absurd he h⟩,fun h=>by rw[oN]at h;cases h⟩
   ·rw[if_neg he];have Ma:fX b' d r p1 p2 p3=fI r p1 p2 p3 (cL b' d).2.2:=rfl;have ea2:nQ b' d r p1 p2 p3=(fI r p1 p2 p3 (cL b' d).2.2).1.1:=rfl;have n1:=JA h4 p1 p2 p3 (cL b' d).2.2;have n2:=Ot r p1 p2 p3 (cL b' d).2.2;have n3:=am6 (r:=r) h5 h6 h7 f1;rw[← n2]at n3;have n4:=aha h4 p1 p2 p3 (cL b' d).2.2;generalize hx:fI r p1 p2 p3 (cL b' d).2.2=x at*;obtain⟨o1,o2,o3,o4⟩:=n3
    cases hw:x.1.2 with
    |false=>
     have n4:=n4 hw;rw[if_neg (by simp)];have Dj:=ih _ _ _ _ _ _ _ _ o4 f2 (by omega) n1 o1 o2 o3 h8 h9 h11 (by omega);refine .go ?_ Dj;simp only[sr,ao,fU,fT,aq,ea0,Ma,hw,oN];exact⟨⟨h1,h2,h3⟩,fun _=>⟨fun h=>absurd h he,fun _=>⟨⟨h4,h5,h6,h7,f1⟩,fun h=>by simp at h,fun _=>trivial⟩⟩,fun h=>by simp at h⟩
    |true=>
     rw[if_pos rfl];have w1:i64.wrap (pl-made)=pl-made:=ax (by omega) (by omega)
     by_cases hc:kt x.1.1 made=true∧bG x.1.1≤pl-made
     ·rw[if_pos hc];have Ms:=kS hc.1;have hmu:=aa6 x.2.1;have w2:i64.wrap (made+bG x.1.1)=made+bG x.1.1:=ax (by omega) (by omega);have Dj:=ih _ (made+bG x.1.1) _ _ _ _ _ (out++ [x.1.1]) o4 f2 (by omega) n1 o1 o2 o3 (by omega) (by omega) (by simp;omega) (by omega);refine .go ?_ Dj;simp only[sr,ao,fU,fT,bl,aq,ea0,Ma,ea2,hw,oN,hc.1,w1,w2];have e1:(made==pl)=false:=(by simp[he]);have e2:decide (pl-made<bG x.1.1)=false:=(by simp;omega);simp only[e1,e2,cf,bx,ao,aq,fU,Bool.not_true,cO];exact⟨⟨h1,h2,h3⟩,fun _=>⟨fun h=>absurd h he,fun _=>⟨⟨h4,h5,h6,h7,f1⟩,fun _=>⟨trivial,fun _=>⟨trivial,fun h=>by simp at h,fun _=>⟨trivial,⟨by omega,by omega⟩,trivial⟩⟩,fun h=>by simp at h⟩,fun h=>by simp at h⟩⟩,fun h=>by simp at h⟩
     ·rw[if_neg hc];refine .stop ?_;simp only[sr,ao,fU,fT,bl,aq,ea0,Ma,ea2,hw,oN,w1];refine⟨⟨h1,h2,h3⟩,fun _=>⟨fun h=>absurd h he,fun _=>⟨⟨h4,h5,h6,h7,f1⟩,fun _=>⟨trivial,?_⟩,fun h=>by simp at h⟩⟩,fun h=>by simp at h⟩
      cases hmy:kt x.1.1 made with
      |true=>
       simp only[Bool.not_true,beq_self_eq_true,bx,ao,bl,aq];exact⟨trivial,fun _=>trivial,fun h=>absurd ⟨hmy,by omega⟩ hc⟩
      |false=>simp[cO,aq]
  ·rw[if_neg oN];refine .stop ?_;simp only[sr,ao,fU,aq];exact⟨⟨h1,h2,h3⟩,fun h=>absurd h oN,fun _=>trivial⟩
theorem VL(b:List Int)(plain:Int):∀x:A1,Ex Tryz.prog ((ag).wr (())) (.loop (aV f287 0)) (A2.wr x) (Oy x):=
 du mixed ((aj JL (aj R7 (aj ag5 (aj VB (aj Ff (aj pA aE))))))) (ws:=aa3) (aO.nil _) (fun x_=>Ow b plain x_.1 x_.2.1 x_.2.2.1 x_.2.2.2.1 x_.2.2.2.2.1 x_.2.2.2.2.2.1 x_.2.2.2.2.2.2.1 x_.2.2.2.2.2.2.2.1 x_.2.2.2.2.2.2.2.2) (fun z e=>by cases e) iH (fun x_ h=>aa7 x_.1 x_.2.1 x_.2.2.1 x_.2.2.2.1 x_.2.2.2.2.1 x_.2.2.2.2.2.1 x_.2.2.2.2.2.2.1 x_.2.2.2.2.2.2.2.1 x_.2.2.2.2.2.2.2.2 h)
def r0H:RH:=⟨[1024,1024],0,0,1,(0,0,0)⟩
def iq(b:List Int)(plain:Int):List dc×Bool:=dE 200000 plain 0 b (0,4294967295,4) r0H (ca 8) (ca 8) (ca 6) []
def aa8:RH:= {cs:= [1024,1024],bh:=0,part:=0,node:=1,t:=(0,0,0)}
def aa9(b:List Int)(plain:Int):List (Int×Int×Int)×Bool:=dE 200000 plain 0 b (0,4294967295,4) aa8 (ca 8)
 (ca 8) (ca 6) []
abbrev Sp:Type:=Bool×(List (Int×Int×Int))
abbrev ak1(x:Sp):LV:=LV.cT [VV.sc (SV.sl 0 0),VV.sc (SV.bool (SB.sym x.1))]
abbrev ak2(x:Sp):List (Nat×Ev.Item):= [(0,Item.own 0 ((Ty.int i64).pair ((Ty.int i64).pair (Ty.int
 IntKind.u8))) x.2)]
def aba(b:List Int)(plain:Int):Tr (Sp):=(.need (FF) (.need (A0) (.need (A3 b plain 0 (0,4294967295,4)
 aa8 (ca 8) (ca 8) (ca 6) []) (.ret ((aa9 b plain).snd,(aa9 b plain).fst)))))
theorem VM(b:List Int)(plain:Int):aT Tryz.prog [(316,Oq),(315,Z9)] [(0,cV A2 ((ag).wr (())) Ou (Oy))] f287 (((ae (ah (e9 false false u8)) (ae (ah (ay .i64)) ag))).wr (b,plain,())) ((ag).wr (())) [.eW 4 nO,.eW 8 nO,.fr [.sym],.syms,.auto,.aN]=(aba b plain).end ak1 ak2 ((ag).wr (())):=by kernel_rfl
theorem abb(b:List Int)(plain:Int):aO Tryz.prog ((ag).wr (())) [(0,cV A2 ((ag).wr (())) Ou (Oy))] (aG f287):=(aO.cU (nJ (by kernel_rfl) (cJ (hp:=(ag).wr (())) (VL b plain)) oI))
theorem A4(k:Nat)(h:k≤8):gU (ca k):=(kT k h).1.2.2.1
theorem auX:xO (0,4294967295,4):=by
 exact⟨by decide,by decide,by decide,.inr (.inr (by decide))⟩
theorem am7:ROk r0H:=⟨rfl,.inl rfl,by decide,by decide,by decide,by decide,by decide⟩
abbrev yF(b:List Int)(plain:Int):Prop:=al b∧b.length<1099511627776∧0≤plain∧plain≤8192
abbrev abc(b:List Int)(plain:Int):Sp:=((iq b plain).2,(iq b plain).1)
def ak3:ar:=dm [] ((ae (ah (e9 false false u8)) (ae (ah (ay .i64)) ag))) (ag) (fun x_ y_=>yF x_.1 x_.2.1) (fun x_ y_=>abc x_.1 x_.2.1) ak1 ak2
theorem ahc(b:List Int)(plain:Int)(h_:yF b plain):(aba b plain).Is (abc b plain):=by
 delta abc;obtain⟨h1,h2,h3,h4⟩:=h_;simp only[aba,ao,aq];exact⟨trivial,trivial,⟨auX,h1,h2,am7,A4 8 (by omega),A4 8 (by omega),A4 6 (by omega),by omega,h3,h4,by simp⟩,rfl⟩
theorem gw:ak3.Ok Tryz.prog 287:=
 bY mixed ((aj JL (aj R7 aE))) func287 (by kernel_rfl) call287 (fun x_ y_=>abb x_.1 x_.2.1) (fun x_ y_=>VM x_.1 x_.2.1) (fun x_ y_ h=>ahc x_.1 x_.2.1 h)
theorem abd(r:RH)(p1 p2 p3:List Int)(d:Dc)(h:(fI r p1 p2 p3 d).1.2=true):(fI r p1 p2 p3 d).1.1=(fI r p1 p2 p3 d).2.1.t:=by
 unfold fI at h ⊢;simp only at h ⊢
 split at h
 ·cases h
 ·rename_i e;rw[if_neg e]at*
  split at h
  ·rename_i e1;rw[if_pos e1]
  ·cases h
theorem gS:∀ (n:Nat) (pl made:Int) (b:List Int) (d:Dc) (r:RH) (p1 p2 p3:List Int) (out:List dc),ROk r→uh out→made≤pl→(out.length:Int)≤made→
  uh (dE n pl made b d r p1 p2 p3 out).1∧((dE n pl made b d r p1 p2 p3 out).1.length:Int)≤max pl 0
 |0,_,_,_,_,_,_,_,_,_,_,_,_,_=>⟨fun x h=>by simp[dE]at h,by simp[dE];omega⟩
 |n+1,pl,made,b,d,r,p1,p2,p3,out,h1,h2,h3,h4=>by
  have nil:uh (([],false):List dc×Bool).1∧((([],false):List dc×Bool).1.length:Int)≤max pl 0:=⟨fun x h=>by simp at h,by simp;omega⟩;rw[dE];simp only
  split
  ·split
   ·exact⟨h2,by simp only;omega⟩
   ·have n1:=JA h1 p1 p2 p3 (cL b d).2.2;have n2:=abd r p1 p2 p3 (cL b d).2.2;generalize fI r p1 p2 p3 (cL b d).2.2=x at*
    split
    ·rename_i hw
     split
     ·rename_i hc;have:=kS hc.1;refine gS n _ _ _ _ _ _ _ _ _ n1 ?_ (by omega) (by simp;omega);intro t ht;rw[List.mem_append]at ht;rcases ht with ht|ht
      ·exact h2 t ht
      ·have:t=x.1.1:=(by simpa using ht);rw[this,n2 hw];exact n1.tb
     ·exact nil
    ·exact gS n _ _ _ _ _ _ _ _ _ n1 h2 h3 h4
  ·exact nil
def cn(b:List Int)(plain:Int):Int×List dc:=
 if plain<0∨8192<plain then(1,[])else if(iq b plain).2=true∧fD (ef (iq b plain).1) b=true then(0,(iq b plain).1)else(11,[])
abbrev uE:Type:=Int
abbrev JN(x:uE):LV:=LV.cT [VV.sc (SV.g9 (Value.slice none 0 0)),VV.sc (SV.int i64 (SI.sym x))]
abbrev JO(x:uE):List (Nat×Ev.Item):= []
abbrev uF:Type:=Int×(List (Int×Int×Int))
abbrev JP(x:uF):LV:=LV.cT [VV.sc (SV.sl 0 0),VV.sc (SV.int i64 (SI.sym x.1))]
abbrev JQ(x:uF):List (Nat×Ev.Item):= [(0,Item.own 0 ((Ty.int i64).pair ((Ty.int i64).pair (Ty.int
 IntKind.u8))) x.2)]
def nR(b:List Int)(plain:Int):Tr (uE⊕uF):=(.ite (decide (plain<0)==false) (.ite (decide (8192<plain))
 (.ret (.inl (1))) (.need (yF b plain) (.ite ((!(iq b plain).snd)==false) (.need (kU (iq b plain).fst) (.ite (!fD (ef (iq b
 plain).fst) b) (.ret (.inl (11))) (.ret (.inr (0,(iq b plain).fst))))) (.ret (.inl (11)))))) (.ret (.inl (1))))
theorem JR(b:List Int)(plain:Int):aT Tryz.prog [(287,ak3),(74,NL),(227,Ol)] [] f228 (((ae (ah (e9 false false u8)) (ae (ah (ay .i64)) ag))).wr (b,plain,())) ((ag).wr (())) [.eW 4 nO,.eW 6 nO,.fr [.sym],.syms,.auto,.aN]=(nR b plain).end (Sum.elim JN JP) (Sum.elim JO JQ) ((ag).wr (())):=by kernel_rfl
theorem Oz(b:List Int)(plain:Int):aO Tryz.prog ((ag).wr (())) [] (aG f228):=(aO.nil _)
abbrev m8(b:List Int)(plain:Int):Prop:=al b∧b.length<1099511627776
abbrev yG(b:List Int)(plain:Int):Bool:=decide ((cn b plain).1≠0)
abbrev Gb(b:List Int)(plain:Int):uE:=(cn b plain).1
abbrev Gc(b:List Int)(plain:Int):uF:=(0,(cn b plain).2)
def Sq:ar:=Ab [some u8,none] ((ae (ah (e9 false false u8)) (ae (ah (ay .i64)) ag))) (ag) (fun x_ y_=>m8 x_.1 x_.2.1) (fun x_ y_=>yG x_.1 x_.2.1) (fun x_ y_=>Gb x_.1 x_.2.1) (fun x_ y_=>Gc x_.1 x_.2.1) JN JO JP JQ
theorem VN(b:List Int)(plain:Int)(h_:m8 b plain):(yG b plain=true→(nR b plain).Is (.inl (Gb b plain)))∧(yG b plain=false→(nR b plain).Is (.inr (Gc b plain))):=by
 delta yG Gb Gc;obtain⟨h1,h2⟩:=h_
 by_cases hp:plain<0∨8192<plain
 ·have e:cn b plain=(1,[]):=by unfold cn;rw[if_pos hp]
  simp only[e,nR,cO,bl,aq];grind
 ·obtain⟨k1,k2⟩:=gS 200000 plain 0 b (0,4294967295,4) r0H (ca 8) (ca 8) (ca 6) [] am7 (fun x h=>by simp at h) (by omega) (by simp);have k3:kU (iq b plain).1:=⟨by show(dE _ _ _ _ _ _ _ _ _ _).1.length<_;omega,k1⟩;have k4:yF b plain:=⟨h1,h2,by omega,by omega⟩;have d1:(decide (plain<0)==false)=true:=by simp;omega
  have d2:decide (8192<plain)=false:=by simp;omega
  cases hr:(iq b plain).2 with
  |false=>
   have e:cn b plain=(11,[]):=(by unfold cn;rw[if_neg hp,hr];simp);simp only[e,nR,hr,d1,d2,bx,cf,ao,cO,aq];simp;exact k4
  |true=>
   by_cases hb:fD (ef (iq b plain).1) b=true
   ·have e:cn b plain=(0,(iq b plain).1):=(by unfold cn;rw[if_neg hp,hr,if_pos ⟨rfl,hb⟩]);have e1:fD (ef (iq b plain).1) b=true:=hb;simp only[e,nR,hr,d1,d2,e1,bx,cf,ao,cO,aq];simp;exact⟨k4,k3⟩
   ·have e:cn b plain=(11,[]):=(by unfold cn;rw[if_neg hp,if_neg (fun h=>hb h.2)]);have e1:fD (ef (iq b plain).1) b=false:=(by simpa using hb);simp only[e,nR,hr,d1,d2,e1,bx,cf,ao,cO,aq];simp;exact⟨k4,k3⟩
theorem VO:Sq.Ok Tryz.prog 228:=
 wx mixed ((aj gw (aj Jl (aj JK aE)))) func228 (by kernel_rfl) call228 (fun x_ y_=>Oz x_.1 x_.2.1) (fun x_ y_=>JR x_.1 x_.2.1) (fun x_ y_ h=>VN x_.1 x_.2.1 h)
structure RB where
 b:List Int
 cs:List Int
 mD:Int
 bad:Bool
def cE(r:RB)(d:Dc):RB×Dc:=if r.bad=true then(r,d)else(⟨(cQ r.b d).2.1,r.cs,r.mD,!(cQ r.b d).1||xP (cQ r.b d).2.2⟩,(cQ r.b d).2.2)
def gk:Nat→Int→RB→Dc→List Int→Int×RB×Dc×List Int
 |0,node,r,d,p=>(node,r,d,p)
 |k+1,node,r,d,p=>
  let x:=bF (kf p node) d
  gk k (2*node+x.1) (cE r x.2.2).1 (cE r x.2.2).2 (dA p node x.1)
def gG:Nat→Int→RB→Dc→Int×RB×Dc
 |0,di,r,d=>(di,r,d)
 |k+1,di,r,d=>gG k (2*di+(dy d).1) (cE r (dy d).2).1 (cE r (dy d).2).2
def VP(r:RB)(d:Dc):Int×RB×Dc:=
 let x:=bF (r.cs.getD r.mD.toNat 0) d
 let m:=cE ⟨r.b,r.cs.set r.mD.toNat x.2.1,x.1,r.bad⟩ x.2.2
 (x.1,m.1,m.2)
def rF(r:RB)(d:Dc)(p1 p2 p3:List Int):dc×RB×Dc×List Int×List Int×List Int:=
 let m:=VP r d
 if m.1=0 then
  let y:=gk 8 1 m.2.1 m.2.2 p1
  ((0,0,y.1-256),y.2.1,y.2.2.1,y.2.2.2,p2,p3)
 else
  let y:=gk 8 1 m.2.1 m.2.2 p2
  let z:=gk 6 1 y.2.1 y.2.2.1 p3
  let h:=gG 6 (z.1-64) z.2.1 z.2.2.1
  ((y.1-256+2,h.1+1,0),h.2.1,h.2.2,p1,y.2.2.2,z.2.2.2)
structure KOk (r:RB) (d:Dc) (p1 p2 p3:List Int):Prop where
 d:xO d
 b:al r.b
 n:r.b.length<1099511627776
 cs:r.cs.length=2
 mD:r.mD=0∨r.mD=1
 l1:p1.length=256
 l2:p2.length=256
 l3:p3.length=64
theorem jN(r:RB)(d:Dc):(cE r d).1.cs=r.cs∧(cE r d).1.mD=r.mD:=by unfold cE;split<;>exact⟨rfl,rfl⟩
def VQ:Nat→Int→Int→RB→Dc→List Int→List Int→List Int→List dc→RB×Dc×List Int×List Int×List Int×List dc
 |0,_,_,r,d,p1,p2,p3,l=>(r,d,p1,p2,p3,l)
 |k+1,pl,n,r,d,p1,p2,p3,l=>
  if n<pl∧r.bad=false then
   let x:=rF r d p1 p2 p3
   VQ k pl (n+bG x.1) x.2.1 x.2.2.1 x.2.2.2.1 x.2.2.2.2.1 x.2.2.2.2.2 (l++ [x.1])
  else(r,d,p1,p2,p3,l)
theorem qY(b:List Int)(cs:List Int)(mD:Int)(d:Dc):
  (cE ⟨b,cs,mD,false⟩ d).1.bad= !(cL b d).1∧((cL b d).1=true→(cL b d).2.1=(cE ⟨b,cs,mD,false⟩ d).1.b∧(cL b d).2.2=(cE ⟨b,cs,mD,false⟩ d).2):=by
 unfold cE cL;rw[if_neg (by simp)]
 cases(cQ b d).1<;>simp
theorem wS{r:RB}(h:r.bad=true)(d:Dc):cE r d=(r,d):=by unfold cE;rw[if_pos h]
theorem kH:∀ (k:Nat) (n:Int) {r:RB} (d:Dc) (p:List Int),r.bad=true→(gk k n r d p).2.1.bad=true
 |0,_,_,_,_,h=>h
 |k+1,n,r,d,p,h=>by rw[gk];exact kH k _ _ _ (by rw[wS h];exact h)
theorem m9:∀ (k:Nat) (n:Int) {r:RB} (d:Dc),r.bad=true→(gG k n r d).2.1.bad=true
 |0,_,_,_,h=>h
 |k+1,n,r,d,h=>by rw[gG];exact m9 k _ _ (by rw[wS h];exact h)
theorem xR:∀ (k:Nat) (n m:Int) (r:RB) (d:Dc),gG k n r d=((gG k m r d).1+2 ^ k*(n-m),(gG k m r d).2)
 |0,n,m,r,d=>by simp[gG];omega
 |k+1,n,m,r,d=>by
  rw[gG,gG,xR k _ (2*m+(dy d).1)]
  congr 1
  rw[Int.pow_succ,show 2*n+(dy d).1-(2*m+(dy d).1)=2*(n-m)from by omega,Int.mul_assoc]
abbrev Q3:Type:=List Int×List Int×List Int
def oL(part:Int)(q:Q3):List Int:=if part=1 then q.1 else if part=2 then q.2.1 else q.2.2
def uG(part:Int)(q:Q3)(p:List Int):Q3:=if part=1 then(p,q.2.1,q.2.2)else if part=2 then(q.1,p,q.2.2)else(q.1,q.2.1,p)
theorem ahd(part:Int)(q:Q3)(p:List Int):oL part (uG part q p)=p:=by
 unfold oL uG;split
 ·rfl
 ·split<;>rfl
theorem ahe(part:Int)(q:Q3)(p p':List Int):uG part (uG part q p) p'=uG part q p':=by
 unfold uG;split
 ·rfl
 ·split<;>rfl
def Cr(n:Nat)(pl made:Int)(b:List Int)(d:Dc)(r:RH)(q:Q3)(out:List dc):List dc×Bool:=dE n pl made b d r q.1 q.2.1 q.2.2 out
def su(n:Nat)(pl made:Int)(b:List Int)(d:Dc)(r:RH)(v:Int)(q:Q3)(out:List dc):List dc×Bool:=
 let y:=iK r v
 if y.1=true then if kt y.2.t made=true∧bG y.2.t≤pl-made then Cr n pl (made+bG y.2.t) b d y.2 q (out++ [y.2.t])else([],false)
 else Cr n pl made b d y.2 q out
theorem Gd{n:Nat}{pl made:Int}{b:List Int}{d:Dc}{r:RH}{q:Q3}{out:List dc}(h:(cL b d).1=false):Cr (n+1) pl made b d r q out=([],false):=by
 unfold Cr;rw[dE];simp only;rw[if_neg (by rw[h];simp)]
theorem Ge{n:Nat}{pl made:Int}{b:List Int}{d:Dc}{r:RH}{q:Q3}{out:List dc}(h:(cL b d).1=true)(hm:made≠pl):
  Cr (n+1) pl made b d r q out=
   (let x:=gW r q.1 q.2.1 q.2.2 (cL b d).2.2
    if 2*r.node+x.1<kW r.part then Cr n pl made (cL b d).2.1 x.2.2.2.2.2 ⟨x.2.1.cs,r.bh,r.part,2*r.node+x.1,r.t⟩ (x.2.2.1,x.2.2.2.1,x.2.2.2.2.1) out
    else su n pl made (cL b d).2.1 x.2.2.2.2.2 ⟨x.2.1.cs,r.bh,r.part,1,r.t⟩ (2*r.node+x.1-kW r.part) (x.2.2.1,x.2.2.2.1,x.2.2.2.2.1) out):=by
 unfold Cr;rw[dE];simp only;rw[if_pos h,if_neg hm];unfold fI;simp only
 split
 ·rw[if_neg (by simp)]
 ·unfold su Cr;simp only
  split
  ·rw[if_pos rfl]
  ·rw[if_neg (by simp)]
theorem abe{r:RH}(h:1≤r.part∧r.part≤3)(q:Q3)(d:Dc):
  gW r q.1 q.2.1 q.2.2 d=((bF (kf (oL r.part q) r.node) d).1,r,(uG r.part q (dA (oL r.part q) r.node (bF (kf (oL r.part q) r.node) d).1)).1,(uG r.part q (dA (oL r.part q) r.node (bF (kf (oL r.part q) r.node) d).1)).2.1,(uG r.part q (dA (oL r.part q) r.node (bF (kf (oL r.part q) r.node) d).1)).2.2,(bF (kf (oL r.part q) r.node) d).2.2):=by
 unfold gW oL uG;rw[if_neg (by omega),if_neg (by omega)]
 split
 ·rfl
 ·split<;>rfl
theorem uH{pl made:Int}(hm:made≠pl)(cs:List Int)(mD:Int)(out:List dc):∀ (k j n:Nat) (b:List Int) (d:Dc) (r:RH) (q:Q3),1≤r.part∧r.part≤3→kW r.part=2 ^ (j+(k+1))→2 ^ j≤r.node→r.node<2 ^ (j+1)→
  let m:=cE ⟨b,cs,mD,false⟩ d
  let T:=gk (k+1) r.node m.1 m.2 (oL r.part q)
  (T.2.1.bad=true∧Cr (n+(k+1)) pl made b d r q out=([],false))∨
  ∃b' d',cE ⟨b',cs,mD,false⟩ d'=(T.2.1,T.2.2.1)∧Cr (n+(k+1)) pl made b d r q out=su n pl made b' d' ⟨r.cs,r.bh,r.part,1,r.t⟩ (T.1-kW r.part) (uG r.part q T.2.2.2) out
 |k,j,n,b,d,r,q,h1,h2,h3,h4=>by
  obtain⟨f1,f2⟩:=qY b cs mD d;obtain⟨c1,c2⟩:=jN ⟨b,cs,mD,false⟩ d;generalize hmm:cE ⟨b,cs,mD,false⟩ d=m at*;simp only
  cases hf:(cL b d).1 with
  |false=>
   rw[hf]at f1;exact .inl ⟨kH _ _ _ _ f1,by rw[← Nat.add_assoc];exact Gd hf⟩
  |true=>
   obtain⟨f3,f4⟩:=f2 hf;rw[hf]at f1
   have em:m.1=⟨m.1.b,cs,mD,false⟩:=by
    obtain⟨⟨a1,a2,a3,a4⟩,a5⟩:=m;simp only at c1 c2 f1 ⊢;rw[c1,c2,f1];rfl
   have hb:=qX (kf (oL r.part q) r.node) m.2;rw[← Nat.add_assoc,Ge hf hm,f3,f4,abe h1];simp only;rw[gk];generalize bF (kf (oL r.part q) r.node) m.2=x at*
   cases k with
   |zero=>
    have hp:(2:Int) ^ (j+1)=2*2 ^ j:=(by rw[Int.pow_succ,Int.mul_comm]);rw[Nat.zero_add]at h2;rw[if_neg (by omega),gk];refine .inr ⟨m.1.b,x.2.2,?_,rfl⟩;rw[← em]
   |succ k=>
    have hp:(2:Int) ^ (j+1)=2*2 ^ j:=(by rw[Int.pow_succ,Int.mul_comm]);have XS:(2:Int) ^ (j+1+1)=2*2 ^ (j+1):=(by rw[Int.pow_succ,Int.mul_comm]);have hp2:(2:Int) ^ (j+1+1)≤2 ^ (j+(k+1+1)):=E8 (by omega);rw[if_pos (by omega)];have ih:=uH hm cs mD out k (j+1) n m.1.b x.2.2 ⟨r.cs,r.bh,r.part,2*r.node+x.1,r.t⟩ (uG r.part q (dA (oL r.part q) r.node x.1)) h1 (by rw[h2];congr 1;omega) (by simp only;omega) (by simp only;omega);simp only[ahd,ahe]at ih;rw[← em]at ih;exact ih
theorem JS{pl made:Int}(hm:made≠pl)(cs:List Int)(mD:Int)(out:List dc):∀ (k j n:Nat) (b:List Int) (d:Dc) (r:RH) (q:Q3),r.part=4→kW r.part=2 ^ (j+(k+1))→2 ^ j≤r.node→r.node<2 ^ (j+1)→
  let m:=cE ⟨b,cs,mD,false⟩ d
  let T:=gG (k+1) r.node m.1 m.2
  (T.2.1.bad=true∧Cr (n+(k+1)) pl made b d r q out=([],false))∨
  ∃b' d',cE ⟨b',cs,mD,false⟩ d'=(T.2.1,T.2.2)∧Cr (n+(k+1)) pl made b d r q out=su n pl made b' d' ⟨r.cs,r.bh,r.part,1,r.t⟩ (T.1-kW r.part) q out
 |k,j,n,b,d,r,q,h1,h2,h3,h4=>by
  obtain⟨f1,f2⟩:=qY b cs mD d;obtain⟨c1,c2⟩:=jN ⟨b,cs,mD,false⟩ d;generalize hmm:cE ⟨b,cs,mD,false⟩ d=m at*;simp only
  cases hf:(cL b d).1 with
  |false=>
   rw[hf]at f1;exact .inl ⟨m9 _ _ _ f1,by rw[← Nat.add_assoc];exact Gd hf⟩
  |true=>
   obtain⟨f3,f4⟩:=f2 hf;rw[hf]at f1
   have em:m.1=⟨m.1.b,cs,mD,false⟩:=by
    obtain⟨⟨a1,a2,a3,a4⟩,a5⟩:=m;simp only at c1 c2 f1 ⊢;rw[c1,c2,f1];rfl
   have hb:=Jz m.2
   have am8:gW r q.1 q.2.1 q.2.2 m.2=((dy m.2).1,r,q.1,q.2.1,q.2.2,(dy m.2).2):=by
    unfold gW;rw[if_neg (by omega),if_pos h1]
   rw[← Nat.add_assoc,Ge hf hm,f3,f4,am8];simp only;rw[gG];generalize dy m.2=x at*
   cases k with
   |zero=>
    have hp:(2:Int) ^ (j+1)=2*2 ^ j:=(by rw[Int.pow_succ,Int.mul_comm]);rw[Nat.zero_add]at h2;rw[if_neg (by omega),gG];refine .inr ⟨m.1.b,x.2,?_,rfl⟩;rw[← em]
   |succ k=>
    have hp:(2:Int) ^ (j+1)=2*2 ^ j:=(by rw[Int.pow_succ,Int.mul_comm]);have XS:(2:Int) ^ (j+1+1)=2*2 ^ (j+1):=(by rw[Int.pow_succ,Int.mul_comm]);have hp2:(2:Int) ^ (j+1+1)≤2 ^ (j+(k+1+1)):=E8 (by omega);rw[if_pos (by omega)];have ih:=JS hm cs mD out k (j+1) n m.1.b x.2 ⟨r.cs,r.bh,r.part,2*r.node+x.1,r.t⟩ q h1 (by rw[h2];congr 1;omega) (by simp only;omega) (by simp only;omega);simp only at ih;rw[← em]at ih;exact ih
theorem ahf{pl made:Int}(hm:made≠pl)(n:Nat)(b:List Int)(d:Dc)(r:RH)(q:Q3)(out:List dc)(h0:r.part=0)(h1:r.node=1)(hq:r.bh=0∨r.bh=1):
  let m:=cE ⟨b,r.cs,r.bh,false⟩ d
  let X:=rF m.1 m.2 q.1 q.2.1 q.2.2
  (X.2.1.bad=true∧Cr (n+21) pl made b d r q out=([],false))∨
  ∃n' b' d' r',n≤n'∧r'.part=0∧r'.node=1∧(r'.bh=0∨r'.bh=1)∧cE ⟨b',r'.cs,r'.bh,false⟩ d'=(X.2.1,X.2.2.1)∧
   Cr (n+21) pl made b d r q out=if kt X.1 made=true∧bG X.1≤pl-made then Cr n' pl (made+bG X.1) b' d' r' X.2.2.2 (out++ [X.1])else([],false):=by
 obtain⟨f1,f2⟩:=qY b r.cs r.bh d;obtain⟨c1,c2⟩:=jN ⟨b,r.cs,r.bh,false⟩ d;generalize hmm:cE ⟨b,r.cs,r.bh,false⟩ d=m at*;simp only;simp only at c1 c2
 cases hf:(cL b d).1 with
 |false=>
  rw[hf]at f1;have hc:(VP m.1 m.2).2.1.bad=true:=by unfold VP;simp only;rw[wS (by exact f1)];exact f1
  refine .inl ⟨?_,Gd hf⟩;unfold rF;simp only
  split
  ·exact kH _ _ _ _ hc
  ·exact m9 _ _ _ (kH _ _ _ _ (kH _ _ _ _ hc))
 |true=>
  obtain⟨f3,f4⟩:=f2 hf;rw[hf]at f1;have hb:=qX (r.cs.getD r.bh.toNat 0) m.2
  have am8:gW r q.1 q.2.1 q.2.2 m.2=((bF (r.cs.getD r.bh.toNat 0) m.2).1,⟨r.cs.set r.bh.toNat (bF (r.cs.getD r.bh.toNat 0) m.2).2.1,r.bh,r.part,r.node,r.t⟩,q.1,q.2.1,q.2.2,(bF (r.cs.getD r.bh.toNat 0) m.2).2.2):=by
   unfold gW;rw[if_pos h0]
  have auY:VP m.1 m.2=((bF (r.cs.getD r.bh.toNat 0) m.2).1,cE ⟨m.1.b,r.cs.set r.bh.toNat (bF (r.cs.getD r.bh.toNat 0) m.2).2.1,(bF (r.cs.getD r.bh.toNat 0) m.2).1,false⟩ (bF (r.cs.getD r.bh.toNat 0) m.2).2.2):=by
   unfold VP;simp only;rw[c1,c2,f1];rfl
  generalize bF (r.cs.getD r.bh.toNat 0) m.2=x at*;have auZ:kW r.part=2:=by rw[h0];rfl
  have erd:Cr (n+21) pl made b d r q out=Cr (n+20) pl made m.1.b x.2.2 ⟨r.cs.set r.bh.toNat x.2.1,x.1,if x.1=1 then 2 else 1,1,(0,0,0)⟩ q out:=by
   rw[show n+21=(n+20)+1 from rfl,Ge hf hm,f3,f4,am8];simp only;rw[auZ,h1,if_neg (by omega)];unfold su iK;simp only;rw[if_pos h0];simp only;rw[if_neg (by simp),show 2*1+x.1-2=x.1 from by omega]
  rw[erd];generalize hcs:r.cs.set r.bh.toNat x.2.1=cs at*;unfold rF;rw[auY];simp only
  by_cases hx:x.1=0
  ·simp only[hx,if_true];rw[if_neg (show ¬ (0:Int)=1 by omega)];have hs:=uH hm cs 0 out 7 0 (n+12) m.1.b x.2.2 ⟨cs,0,1,1,(0,0,0)⟩ q (by simp) (by simp only;decide) (by simp) (by simp);simp only[show oL 1 q=q.1 from rfl,Nat.reduceAdd]at hs;rw[show n+12+8=n+20 from rfl]at hs;generalize gk 8 1 (cE ⟨m.1.b,cs,0,false⟩ x.2.2).1 (cE ⟨m.1.b,cs,0,false⟩ x.2.2).2 q.1=T at*;rcases hs with⟨s1,s2⟩|⟨b',d',s1,s2⟩
   ·exact .inl ⟨s1,s2⟩
   ·refine .inr ⟨n+12,b',d',⟨cs,0,0,1,(0,0,T.1-256)⟩,by omega,rfl,rfl,.inl rfl,s1,?_⟩;rw[s2];rfl
  ·have CZ:x.1=1:=(by omega);simp only[CZ,if_true];rw[if_neg (show ¬ (1:Int)=0 by omega)];have hs:=uH hm cs 1 out 7 0 (n+12) m.1.b x.2.2 ⟨cs,1,2,1,(0,0,0)⟩ q (by simp) (by simp only;decide) (by simp) (by simp);simp only[show oL 2 q=q.2.1 from rfl,Nat.reduceAdd]at hs;rw[show n+12+8=n+20 from rfl]at hs;simp only[CZ,if_neg (show ¬ (1:Int)=0 by omega)];generalize gk 8 1 (cE ⟨m.1.b,cs,1,false⟩ x.2.2).1 (cE ⟨m.1.b,cs,1,false⟩ x.2.2).2 q.2.1=T at*;rcases hs with⟨s1,s2⟩|⟨b',d',s1,s2⟩
   ·exact .inl ⟨m9 _ _ _ (kH _ _ _ _ s1),s2⟩
   ·have e2:su (n+12) pl made b' d' ⟨cs,1,2,1,(0,0,0)⟩ (T.1-kW 2) (uG 2 q T.2.2.2) out=Cr (n+12) pl made b' d' ⟨cs,1,3,1,(T.1-256+2,0,0)⟩ (q.1,T.2.2.2,q.2.2) out:=rfl;rw[e2]at s2;have hs:=uH hm cs 1 out 5 0 (n+6) b' d' ⟨cs,1,3,1,(T.1-256+2,0,0)⟩ (q.1,T.2.2.2,q.2.2) (by simp) (by simp only;decide) (by simp) (by simp);simp only[show oL 3 (q.1,T.2.2.2,q.2.2)=q.2.2 from rfl,Nat.reduceAdd,s1]at hs;rw[show n+6+6=n+12 from rfl]at hs;generalize gk 6 1 T.2.1 T.2.2.1 q.2.2=U at*;rcases hs with⟨u1,u2⟩|⟨b2,d2,u1,u2⟩
    ·exact .inl ⟨m9 _ _ _ u1,s2.trans u2⟩
    ·have e3:su (n+6) pl made b2 d2 ⟨cs,1,3,1,(T.1-256+2,0,0)⟩ (U.1-kW 3) (uG 3 (q.1,T.2.2.2,q.2.2) U.2.2.2) out=Cr (n+6) pl made b2 d2 ⟨cs,1,4,1,(T.1-256+2,(U.1-64)*64,0)⟩ (q.1,T.2.2.2,U.2.2.2) out:=rfl;rw[e3]at u2;have hs:=JS hm cs 1 out 5 0 n b2 d2 ⟨cs,1,4,1,(T.1-256+2,(U.1-64)*64,0)⟩ (q.1,T.2.2.2,U.2.2.2) rfl (by simp only;decide) (by simp) (by simp);simp only[Nat.reduceAdd,u1]at hs;rw[xR 6 (U.1-64) 1];generalize gG 6 1 U.2.1 U.2.2.1=V at*;rcases hs with⟨v1,v2⟩|⟨b3,d3,v1,v2⟩
     ·exact .inl ⟨v1,s2.trans (u2.trans v2)⟩
     ·refine .inr ⟨n,b3,d3,⟨cs,1,0,1,(T.1-256+2,(U.1-64)*64+(V.1-64+1),0)⟩,Nat.le_refl _,rfl,rfl,.inr rfl,v1,?_⟩;rw[s2,u2,v2]
      have et:V.1+2 ^ 6*(U.1-64-1)+1=(U.1-64)*64+(V.1-64+1):=by
       rw[show(2:Int) ^ 6=64 from by decide];omega
      simp only[et];rfl
def cj:List dc→Int
 | []=>0
 |t::l=>bG t+cj l
theorem gA:∀ (l m:List dc),cj (l++m)=cj l+cj m
 | [],m=>by simp[cj]
 |t::l,m=>by rw[List.cons_append,cj,cj,gA l m];omega
theorem gB:∀ (l m:List dc) (made:Int),bE made (l++m)=(bE made l&&bE (made+cj l) m)
 | [],m,made=>by simp[cj,bE]
 |t::l,m,made=>by
  rw[List.cons_append,bE,bE,cj,gB l m,Int.add_assoc];simp only[Bool.and_assoc]
theorem A5:∀ (l:List dc) (made:Int) (o:List Int),bE made l=true→(o.length:Int)=made→((eN o l).length:Int)=made+cj l
 | [],made,o,_,h=>by rw[eN,cj,h,Int.add_zero]
 |t::l,made,o,hr,h=>by
  rw[bE,Bool.and_eq_true,Bool.and_eq_true]at hr;have:=I7 (o:=o) hr.1.1;rw[eN,cj,A5 l (made+bG t) (Fl o t) hr.2 (by omega)];omega
theorem OA{l:List dc}(h:bE 0 l=true):((nP l).length:Int)=cj l:=by
 unfold nP;rw[if_pos h,A5 l 0 [] h rfl,Int.zero_add]
def Gf(u:RB×Dc×List Int×List Int×List Int×List dc):List dc:=u.2.2.2.2.2
theorem pJ{k:Nat}{pl n:Int}{r:RB}{d:Dc}{p1 p2 p3:List Int}{l:List dc}(h:¬ (n<pl∧r.bad=false)):VQ k pl n r d p1 p2 p3 l=(r,d,p1,p2,p3,l):=by
 cases k with
 |zero=>rfl
 |succ k=>rw[VQ,if_neg h]
theorem Sr:∀ (k:Nat) (pl n:Int) (r:RB) (d:Dc) (p1 p2 p3:List Int) (l:List dc),∃m,Gf (VQ k pl n r d p1 p2 p3 l)=l++m
 |0,_,_,_,_,_,_,_,l=>⟨[],by simp[VQ,Gf]⟩
 |k+1,pl,n,r,d,p1,p2,p3,l=>by
  rw[VQ];simp only
  split
  ·obtain⟨m,hm⟩:=Sr k pl (n+bG (rF r d p1 p2 p3).1) (rF r d p1 p2 p3).2.1 (rF r d p1 p2 p3).2.2.1 (rF r d p1 p2 p3).2.2.2.1 (rF r d p1 p2 p3).2.2.2.2.1 (rF r d p1 p2 p3).2.2.2.2.2 (l++ [(rF r d p1 p2 p3).1]);exact⟨(rF r d p1 p2 p3).1::m,by rw[hm];simp⟩
  ·exact⟨[],by simp[Gf]⟩
theorem abf{pl:Int}(Q5:pl≤8192):∀ (m k n:Nat) (made:Int) (b:List Int) (d:Dc) (r:RH) (q:Q3) (out:List dc),(pl-made).toNat≤m→m<k→21*m+1≤n→r.part=0→r.node=1→(r.bh=0∨r.bh=1)→made≤pl→bE 0 out=true→cj out=made→
  let M:=cE ⟨b,r.cs,r.bh,false⟩ d
  let U:=VQ k pl made M.1 M.2 q.1 q.2.1 q.2.2 out
  Cr n pl made b d r q out=if U.1.bad=false∧bE 0 (Gf U)=true∧cj (Gf U)=pl then(Gf U,true)else([],false)
 |m,k,n,made,b,d,r,q,out,h1,h2,h3,h4,h5,h6,h7,h8,h9=>by
  have hts:=fun hm n0=>ahf (pl:=pl) (made:=made) hm n0 b d r q out h4 h5 h6;obtain⟨f1,f2⟩:=qY b r.cs r.bh d;simp only at hts ⊢;generalize cE ⟨b,r.cs,r.bh,false⟩ d=M at*;obtain⟨n,rfl⟩:∃n0,n=n0+1:=⟨n-1,by omega⟩
  cases hf:(cL b d).1 with
  |false=>
   rw[hf]at f1;have f1:M.1.bad=true:=f1;rw[Gd hf,pJ (by rw[f1];simp),if_neg (by simp[f1])]
  |true=>
   rw[hf]at f1;have f1:M.1.bad=false:=f1
   by_cases hm:made=pl
   ·rw[pJ (by omega)];rw[if_pos ⟨f1,h8,h9.trans hm⟩];unfold Cr;rw[dE];simp only;rw[if_pos hf,if_pos hm];rfl
   ·obtain⟨m,rfl⟩:∃m0,m=m0+1:=⟨m-1,by omega⟩;obtain⟨k,rfl⟩:∃k0,k=k0+1:=⟨k-1,by omega⟩;obtain⟨n,rfl⟩:∃n0,n=n0+20:=⟨n-20,by omega⟩;have hs:=hts hm n
    have eU:VQ (k+1) pl made M.1 M.2 q.1 q.2.1 q.2.2 out=(let x:=rF M.1 M.2 q.1 q.2.1 q.2.2
      VQ k pl (made+bG x.1) x.2.1 x.2.2.1 x.2.2.2.1 x.2.2.2.2.1 x.2.2.2.2.2 (out++ [x.1])):=by
     rw[VQ,if_pos ⟨by omega,f1⟩]
    rw[eU,show n+20+1=n+21 from rfl];simp only;generalize rF M.1 M.2 q.1 q.2.1 q.2.2=X at*;rcases hs with⟨s1,s2⟩|⟨n',b',d',r',s1,s2,s3,s4,s5,s6⟩
    ·rw[s2,pJ (by rw[s1];simp),if_neg (by simp[s1])]
    ·rw[s6]
     by_cases hc:kt X.1 made=true∧bG X.1≤pl-made
     ·rw[if_pos hc];have hl:=kS hc.1
      have ih:=abf Q5 m k n' (made+bG X.1) b' d' r' X.2.2.2 (out++ [X.1]) (by omega) (by omega) (by omega) s2 s3 s4 (by omega)
       (by rw[gB,h8,h9,Int.zero_add,bE,bE,hc.1];simp;omega) (by rw[gA,h9];simp[cj])
      simp only[s5]at ih;exact ih
     ·rw[if_neg hc,if_neg]
      rintro⟨u1,u2,u3⟩
      obtain⟨z,hz⟩:=Sr k pl (made+bG X.1) X.2.1 X.2.2.1 X.2.2.2.1 X.2.2.2.2.1 X.2.2.2.2.2 (out++ [X.1])
      have OB:kt X.1 made=true:=by
       rw[hz,List.append_assoc,gB,h9,Int.zero_add,List.cons_append,bE]at u2;simp only[Bool.and_eq_true]at u2;exact u2.2.1.1
      have ay9:pl<made+bG X.1:=Int.not_le.1 fun hh=>hc ⟨OB,by omega⟩;rw[pJ (by omega)]at u3;simp only[Gf,gA,cj]at u3;omega
def jc(l:List Int):Int:=l.foldl (fun a x=>a*256+x) 0
theorem kv(l:List Int)(x:Int):jc (l++ [x])=jc l*256+x:=by simp[jc]
theorem qZ:∀ (m l:List Int),jc (l++m)=jc l*256 ^ m.length+jc m
 | [],l=>by simp[jc]
 |x::m,l=>by
  have e:l++x::m=(l++ [x])++m:=by simp
  have h2:jc (x::m)=jc [x]*256 ^ m.length+jc m:=qZ m [x];have e1:jc [x]=x:=by simp[jc]
  rw[e,qZ m (l++ [x]),kv,h2,e1,List.length_cons,Int.pow_succ,Int.add_mul,Int.mul_assoc,Int.mul_comm 256,Int.add_assoc]
theorem ahg(x:Int)(m:List Int):jc (x::m)=x*256 ^ m.length+jc m:=by
 have:=qZ m [x];have e1:jc [x]=x:=by simp[jc]
 rw[e1]at this;exact this
theorem A6(k:Nat):(0:Int)<256 ^ k:=Int.pow_pos (by decide)
theorem na:∀ {l:List Int},al l→0≤jc l∧jc l<256 ^ l.length
 | [],_=>by simp[jc]
 |x::m,h=>by
  obtain⟨h1,h2⟩:=na (l:=m) fun z hz=>h z (List.mem_cons_of_mem _ hz);obtain⟨h3,h4⟩:=h x List.mem_cons_self;have hp:=A6 m.length;rw[ahg,List.length_cons,Int.pow_succ];generalize (256:Int) ^ m.length=P at*;have a1:0≤x*P:=Int.mul_nonneg h3 (by omega);have a2:x*P≤255*P:=Int.mul_le_mul_of_nonneg_right (by omega) (by omega);omega
theorem JT:∀ (k:Nat) (a r:List Int) (n:Int),a.length=k→0≤n→al a→jc a+n<256 ^ k→∃a',fa k n (a++r)=a'++r∧a'.length=k∧jc a'=jc a+n
 |0,a,r,n,h1,h2,h3,h4=>by
  have:a= []:=List.length_eq_zero_iff.1 h1;subst this;refine⟨[],rfl,rfl,?_⟩;simp[jc]at h4 ⊢;omega
 |k+1,a,r,n,h1,h2,h3,h4=>by
  have gv:a≠ []:=by intro e;rw[e]at h1;simp at h1
  obtain⟨a0,x,rfl⟩:∃a0 x,a=a0++ [x]:=⟨a.dropLast,a.getLast gv,(List.dropLast_concat_getLast gv).symm⟩;rw[fa]
  split
  ·have hk:a0.length=k:=(by simp at h1;omega);have hx:=h3 x (by simp);obtain⟨CZ,Mn⟩:=hx
   have eg:(a0++ [x]++r).getD k 0=x:=by
    rw[← hk,List.append_assoc,List.getD_eq_getElem?_getD,List.getElem?_append_right (Nat.le_refl _)];simp
   have es:∀y,(a0++ [x]++r).set k y=a0++(y::r):=fun y=>by
    rw[← hk,List.append_assoc,List.set_append_right _ _ (Nat.le_refl _)];simp
   rw[eg,es];rw[kv,Int.pow_succ]at h4;obtain⟨a',q1,q2,q3⟩:=JT k a0 ((n+x)%256::r) ((n+x)/256) hk (by omega) (fun z hz=>h3 z (by simp[hz])) (by omega);refine⟨a'++ [(n+x)%256],by rw[q1];simp,by simp[q2],?_⟩;rw[kv,kv,q3];omega
  ·exact⟨a0++ [x],rfl,h1,by omega⟩
theorem q6{l:List Int}{n:Int}(h2:0≤n)(h3:al l)(h4:jc l+n<256 ^ l.length):jc (fa l.length n l)=jc l+n:=by
 obtain⟨a',q1,q2,q3⟩:=JT l.length l [] n rfl h2 h3 h4;rw[List.append_nil,List.append_nil]at q1;rw[q1,q3]
def nS(w:Int)(o:List Int):Prop:=tU w o∧jc o+w≤256 ^ o.length
def Fin(F:List Int)(w:Int)(o:List Int):Prop:=o.length≤F.length∧jc o*256 ^ (F.length-o.length)≤jc F∧jc F<(jc o+w)*256 ^ (F.length-o.length)
structure Sy (F:List Int) (w:Int) (o:List Int) (r:RB) (d:Dc):Prop where
 d:d=(jc (F.take o.length)-jc o,w,0)
 b:r.b=F.drop o.length
 bad:r.bad=false
theorem kX{F:List Int}{w:Int}{o:List Int}(hF:al F)(h:Fin F w o):jc o≤jc (F.take o.length)∧jc (F.take o.length)<jc o+w:=by
 obtain⟨h1,h2,h3⟩:=h;have e:=qZ (F.drop o.length) (F.take o.length);rw[List.take_append_drop]at e;have hr:=na (l:=F.drop o.length) fun z hz=>hF z (List.mem_of_mem_drop hz);rw[List.length_drop]at e hr;rw[e]at h2 h3;have hp:=A6 (F.length-o.length);generalize (256:Int) ^ (F.length-o.length)=P at*;generalize jc (F.take o.length)=T at*;generalize jc (F.drop o.length)=R at*;constructor
 ·have:jc o*P<(T+1)*P:=by rw[Int.add_mul];omega
  have:=Int.lt_of_mul_lt_mul_right this (by omega);omega
 ·have:T*P<(jc o+w)*P:=by omega
  exact Int.lt_of_mul_lt_mul_right this (by omega)
theorem jO{F:List Int}{w:Int}{o:List Int}(h:Fin F (c5 w o).1 (c5 w o).2):Fin F w o:=by
 unfold c5 at h
 split at h
 ·obtain⟨h1,h2,h3⟩:=h;simp only[List.length_append,List.length_cons,List.length_nil]at h1 h2 h3;obtain⟨m,hm⟩:∃m,F.length-o.length=m+1:=⟨F.length-o.length-1,by omega⟩;have e:F.length-(o.length+(0+1))=m:=by omega
  rw[e,kv,Int.add_zero]at h2;rw[e,kv,Int.add_zero]at h3;refine⟨by omega,?_,?_⟩
  ·rw[hm,Int.pow_succ,← Int.mul_assoc,Int.mul_right_comm];exact h2
  ·rw[hm,Int.pow_succ,← Int.mul_assoc,Int.mul_right_comm,Int.add_mul (jc o)];exact h3
 ·exact h
theorem yH{F:List Int}{w w1:Int}{o o1:List Int}(hl:o1.length=o.length)(h1:jc o≤jc o1)(h2:jc o1+w1≤jc o+w)(h:Fin F w1 o1):Fin F w o:=by
 obtain⟨k1,k2,k3⟩:=h;rw[hl]at k1 k2 k3;unfold Fin;have hp:=A6 (F.length-o.length);generalize (256:Int) ^ (F.length-o.length)=P at*;have a1:=Int.mul_le_mul_of_nonneg_right h1 (Int.le_of_lt hp);have a2:=Int.mul_le_mul_of_nonneg_right h2 (Int.le_of_lt hp);exact⟨k1,by omega,by omega⟩
theorem uI{w:Int}{o:List Int}(h1:65536≤w)(h2:w<4294967296)(h3:al o)(h4:o.length<1099511627775)(h:jc o+w≤256 ^ o.length):nS (c5 w o).1 (c5 w o).2:=by
 refine⟨tV h1 h2 h3 h4,?_⟩;unfold c5
 split
 ·simp only[List.length_append,List.length_cons,List.length_nil,kv];rw[show o.length+(0+1)=o.length+1 from rfl,Int.pow_succ];omega
 ·exact h
theorem Gg:∀ (b:List Int) {d:Dc},d.2.2≤0→cQ b d=(true,b,d)
 | [],d,h=>by rw[cQ,decide_eq_true h]
 |x::r,d,h=>by rw[cQ,if_neg (by omega)]
theorem yI{F:List Int}{w1:Int}{o1:List Int}{r:RB}(hF:al F)(hb:r.b=F.drop o1.length)(am9:r.bad=false)(h:Fin F (c5 w1 o1).1 (c5 w1 o1).2):
  Sy F (c5 w1 o1).1 (c5 w1 o1).2 (cE r (AG (jc (F.take o1.length)-jc o1) w1)).1 (cE r (AG (jc (F.take o1.length)-jc o1) w1)).2:=by
 have ht:=kX hF h;unfold cE AG c5 at*;rw[if_neg (show ¬r.bad=true by rw[am9];simp)]
 split at h
 ·rename_i hw;rw[if_pos hw]at ht ⊢;rw[if_pos hw];simp only at*;have hl:o1.length<F.length:=by have:=h.1;simp at this;omega
  have ed:F.drop o1.length=F.getD o1.length 0::F.drop (o1.length+1):=lN 0 hl
  have et:F.take (o1.length+1)=F.take o1.length++ [F.getD o1.length 0]:=by
   rw[List.take_add_one,List.getD_eq_getElem?_getD,List.getElem?_eq_getElem hl];simp
  simp only[List.length_append,List.length_cons,List.length_nil,Nat.zero_add,et,kv,Int.add_zero]at ht ⊢;rw[hb,ed,cQ,if_pos (by simp),Gg _ (by unfold kV;simp)];unfold kV xP;simp only;generalize F.getD o1.length 0=x at*;refine⟨?_,by simp,?_⟩
  ·simp only[List.length_append,List.length_cons,List.length_nil,Nat.zero_add,et,kv,Int.add_zero];rw[if_neg (by omega)];simp;omega
  ·simp;omega
 ·rename_i hw;rw[if_neg hw]at ht ⊢;rw[if_neg hw];simp only at*;rw[Gg _ (by simp)];unfold xP;refine⟨rfl,hb,?_⟩;simp;omega
theorem pK{p b w:Int}{o:List Int}(h:nS w o)(hl:o.length<1099511627775):nS (bV p b w o).1 (bV p b w o).2∧∀F,Fin F (bV p b w o).1 (bV p b w o).2→Fin F w o:=by
 obtain⟨⟨h1,h2,h3,h4⟩,h5⟩:=h;have hb:=im p h1 h2;have hr:=na h3;unfold bV;generalize w/2048*bd p=z at*
 split
 ·exact⟨uI (by omega) (by omega) h3 hl (by omega),fun F h=>yH rfl (Int.le_refl _) (by omega) (jO h)⟩
 ·have ea:=q6 (n:=z) (by omega) h3 (by omega);refine⟨uI (by omega) (by omega) (pq _ _ _ h3) (by rw[b9];exact hl) (by rw[b9,ea];omega),fun F h=>yH (b9 _ _ _) (by rw[ea];omega) (by rw[ea];omega) (jO h)⟩
theorem wT{b w:Int}{o:List Int}(h:nS w o)(hl:o.length<1099511627775):nS (cP b w o).1 (cP b w o).2∧∀F,Fin F (cP b w o).1 (cP b w o).2→Fin F w o:=by
 obtain⟨⟨h1,h2,h3,h4⟩,h5⟩:=h;have hr:=na h3;unfold cP
 split
 ·exact⟨uI (by omega) (by omega) h3 hl (by omega),fun F h=>yH rfl (Int.le_refl _) (by omega) (jO h)⟩
 ·have ea:=q6 (n:=w/2) (by omega) h3 (by omega);refine⟨uI (by omega) (by omega) (pq _ _ _ h3) (by rw[b9];exact hl) (by rw[b9,ea];omega),fun F h=>yH (b9 _ _ _) (by rw[ea];omega) (by rw[ea];omega) (jO h)⟩
theorem abg{F:List Int}{w:Int}{o:List Int}(hF:al F)(h:Fin F w o):FE (jc (F.take o.length)-jc o,w,0)=true:=by
 have:=kX hF h;rw[uo];exact⟨rfl,by simp only;omega⟩
theorem Ss{F:List Int}{p b w:Int}{o:List Int}{r:RB}{d:Dc}(hF:al F)(ana:b=0∨b=1)(h:nS w o)(hl:o.length<1099511627775)(hs:Sy F w o r d)(hf:Fin F (bV p b w o).1 (bV p b w o).2):
  (bF p d).1=b∧(bF p d).2.1=eH p b∧∀cs mD,Sy F (bV p b w o).1 (bV p b w o).2 (cE ⟨r.b,cs,mD,r.bad⟩ (bF p d).2.2).1 (cE ⟨r.b,cs,mD,r.bad⟩ (bF p d).2.2).2:=by
 have hfw:=(pK h hl).2 F hf;have hm:=abg hF hfw;obtain⟨⟨h1,h2,h3,h4⟩,h5⟩:=h;have hb:=im p h1 h2;obtain⟨s1,s2,s3⟩:=hs;rw[s1];unfold bF;rw[if_pos hm];unfold iJ;simp only;rcases ana with rfl|rfl
 ·have e:bV p 0 w o=c5 (w/2048*bd p) o:=by unfold bV;rw[if_pos rfl]
  rw[e]at hf ⊢;have ht:=kX hF (jO hf);rw[if_pos (by omega)];exact⟨rfl,rfl,fun cs mD=>yI hF s2 s3 hf⟩
 ·have hr:=na h3;have e:bV p 1 w o=c5 (w-w/2048*bd p) (fa o.length (w/2048*bd p) o):=by unfold bV;rw[if_neg (by decide)]
  have ea:=q6 (n:=w/2048*bd p) (by omega) h3 (by omega);rw[e]at hf ⊢;have ht:=kX hF (jO hf);rw[b9,ea]at ht;rw[if_neg (by omega)];refine⟨rfl,rfl,fun cs mD=>?_⟩;have:=yI (r:=⟨r.b,cs,mD,r.bad⟩) hF (by rw[b9];exact s2) s3 hf;rw[b9,ea,← Int.sub_sub]at this;exact this
theorem abh{F:List Int}{b w:Int}{o:List Int}{r:RB}{d:Dc}(hF:al F)(ana:b=0∨b=1)(h:nS w o)(hl:o.length<1099511627775)(hs:Sy F w o r d)(hf:Fin F (cP b w o).1 (cP b w o).2):
  (dy d).1=b∧Sy F (cP b w o).1 (cP b w o).2 (cE r (dy d).2).1 (cE r (dy d).2).2:=by
 have hfw:=(wT h hl).2 F hf;have hm:=abg hF hfw;obtain⟨⟨h1,h2,h3,h4⟩,h5⟩:=h;obtain⟨s1,s2,s3⟩:=hs;rw[s1];unfold dy;rw[if_pos hm];unfold iJ;simp only;rcases ana with rfl|rfl
 ·have e:cP 0 w o=c5 (w/2) o:=by unfold cP;rw[if_pos rfl]
  rw[e]at hf ⊢;have ht:=kX hF (jO hf);rw[if_pos (by omega)];exact⟨rfl,yI hF s2 s3 hf⟩
 ·have hr:=na h3;have e:cP 1 w o=c5 (w/2) (fa o.length (w/2) o):=by unfold cP;rw[if_neg (by decide)]
  have ea:=q6 (n:=w/2) (by omega) h3 (by omega);rw[e]at hf ⊢;have ht:=kX hF (jO hf);rw[b9,ea]at ht;rw[if_neg (by omega)];refine⟨rfl,?_⟩;have:=yI (r:=r) hF (by rw[b9];exact s2) s3 hf;rw[b9,ea,← Int.sub_sub]at this;exact this
theorem ir:∀ (k:Nat) (v node w:Int) (o p:List Int),nS w o→o.length+k<1099511627775→
  nS (bC k v node w o p).1 (bC k v node w o p).2.1∧∀F,Fin F (bC k v node w o p).1 (bC k v node w o p).2.1→Fin F w o
 |0,_,_,_,_,_,h,_=>⟨h,fun _ h=>h⟩
 |k+1,v,node,w,o,p,h,hl=>by
  obtain⟨c1,c2⟩:=pK (p:=kf p node) (b:=v/2 ^ k%2) h (by omega);have cl:=gV (kf p node) (v/2 ^ k%2) w o;obtain⟨t1,t2⟩:=ir k v (2*node+v/2 ^ k%2) _ _ (dA p node (v/2 ^ k%2)) c1 (by omega);rw[bC];exact⟨t1,fun F hf=>c2 F (t2 F hf)⟩
theorem nT:∀ (k:Nat) (v w:Int) (o:List Int),nS w o→o.length+k<1099511627775→
  nS (cD k v w o).1 (cD k v w o).2∧∀F,Fin F (cD k v w o).1 (cD k v w o).2→Fin F w o
 |0,_,_,_,h,_=>⟨h,fun _ h=>h⟩
 |k+1,v,w,o,h,hl=>by
  obtain⟨c1,c2⟩:=wT (b:=v/2 ^ k%2) h (by omega);have cl:=mW (v/2 ^ k%2) w o;obtain⟨t1,t2⟩:=nT k v _ _ c1 (by omega);rw[cD];exact⟨t1,fun F hf=>c2 F (t2 F hf)⟩
theorem JU{v:Int}(k:Nat):v%2 ^ (k+1)=2 ^ k*(v/2 ^ k%2)+v%2 ^ k:=by
 have hp:(0:Int)<2 ^ k:=Int.pow_pos (by decide);rw[Int.pow_succ];generalize (2:Int) ^ k=P at*;have e1:=Int.mul_ediv_add_emod v P;have e2:=Int.mul_ediv_add_emod (v/P) 2;have h1:=Int.emod_nonneg v (show P≠0 by omega);have h2:=Int.emod_lt_of_pos v hp
 have e3:v=(P*(v/P%2)+v%P)+P*2*(v/P/2):=by
  rw[Int.mul_assoc];have:P*(2*(v/P/2))+P*(v/P%2)=P*(v/P):=by rw[← Int.mul_add,e2]
  omega
 have h3:0≤P*(v/P%2):=Int.mul_nonneg (by omega) (by omega);have h4:P*(v/P%2)≤P*1:=Int.mul_le_mul_of_nonneg_left (by omega) (by omega)
 have e4:(P*(v/P%2)+v%P+P*2*(v/P/2))%(P*2)=P*(v/P%2)+v%P:=by
  rw[Int.add_mul_emod_self_left];exact Int.emod_eq_of_lt (by omega) (by omega)
 rw[← e3]at e4;exact e4
theorem uJ{F:List Int}(hF:al F):∀ (k:Nat) (v node w:Int) (o p:List Int) (r:RB) (d:Dc),nS w o→o.length+k<1099511627775→Sy F w o r d→Fin F (bC k v node w o p).1 (bC k v node w o p).2.1→
  (gk k node r d p).1=2 ^ k*node+v%2 ^ k∧Sy F (bC k v node w o p).1 (bC k v node w o p).2.1 (gk k node r d p).2.1 (gk k node r d p).2.2.1∧
  (gk k node r d p).2.2.2=(bC k v node w o p).2.2∧(gk k node r d p).2.1.cs=r.cs∧(gk k node r d p).2.1.mD=r.mD
 |0,v,node,w,o,p,r,d,h,hl,hs,hf=>⟨by rw[gk];simp,hs,rfl,rfl,rfl⟩
 |k+1,v,node,w,o,p,r,d,h,hl,hs,hf=>by
  obtain⟨c1,c2⟩:=pK (p:=kf p node) (b:=v/2 ^ k%2) h (by omega);have cl:=gV (kf p node) (v/2 ^ k%2) w o;rw[bC]at hf ⊢;have YA:=(ir k v (2*node+v/2 ^ k%2) _ _ (dA p node (v/2 ^ k%2)) c1 (by omega)).2 F hf;obtain⟨b1,b2,b3⟩:=Ss hF (by omega) h (by omega) hs YA;obtain⟨m1,m2⟩:=jN r (bF (kf p node) d).2.2;have ih:=uJ hF k v (2*node+v/2 ^ k%2) _ _ (dA p node (v/2 ^ k%2)) _ _ c1 (by omega) (b3 r.cs r.mD) hf;rw[gk];simp only[b1];obtain⟨i1,i2,i3,i4,i5⟩:=ih;refine⟨?_,i2,i3,i4.trans m1,i5.trans m2⟩;refine i1.trans ?_;rw[JU,Int.pow_succ,Int.mul_add,Int.mul_assoc];omega
theorem Ds{F:List Int}(hF:al F):∀ (k:Nat) (v di w:Int) (o:List Int) (r:RB) (d:Dc),nS w o→o.length+k<1099511627775→Sy F w o r d→Fin F (cD k v w o).1 (cD k v w o).2→
  (gG k di r d).1=2 ^ k*di+v%2 ^ k∧Sy F (cD k v w o).1 (cD k v w o).2 (gG k di r d).2.1 (gG k di r d).2.2∧(gG k di r d).2.1.cs=r.cs∧(gG k di r d).2.1.mD=r.mD
 |0,v,di,w,o,r,d,h,hl,hs,hf=>⟨by rw[gG];simp,hs,rfl,rfl⟩
 |k+1,v,di,w,o,r,d,h,hl,hs,hf=>by
  obtain⟨c1,c2⟩:=wT (b:=v/2 ^ k%2) h (by omega);have cl:=mW (v/2 ^ k%2) w o;rw[cD]at hf ⊢;have YA:=(nT k v _ _ c1 (by omega)).2 F hf;obtain⟨b1,b3⟩:=abh hF (by omega) h (by omega) hs YA;obtain⟨m1,m2⟩:=jN r (dy d).2;have ih:=Ds hF k v (2*di+v/2 ^ k%2) _ _ _ _ c1 (by omega) b3 hf;rw[gG];simp only[b1];obtain⟨i1,i2,i4,i5⟩:=ih;refine⟨?_,i2,i4.trans m1,i5.trans m2⟩;refine i1.trans ?_;rw[JU,Int.pow_succ,Int.mul_add,Int.mul_assoc];omega
theorem Su(t:dc){s:List Int×Int}{p1 p2 p3:List Int}{w:Int}{o:List Int}(hs:XY s p1 p2 p3)(h:nS w o)(hl:o.length+30<1099511627775):
  let r:=lC t s p1 p2 p3 w o
  nS r.2.2.2.2.1 r.2.2.2.2.2∧∀F,Fin F r.2.2.2.2.1 r.2.2.2.2.2→Fin F w o:=by
 obtain⟨c1,c2⟩:=pK (p:=s.1.getD s.2.toNat 0) (b:=if t.1=0 then 0 else 1) h (by omega);have cl:=gV (s.1.getD s.2.toNat 0) (if t.1=0 then 0 else 1) w o;unfold lC;simp only;generalize bV (s.1.getD s.2.toNat 0) (if t.1=0 then 0 else 1) w o=c at*
 split
 ·rw[hs.l1];obtain⟨t1,t2⟩:=ir 8 t.2.2 1 c.1 c.2 p1 c1 (by omega);exact⟨t1,fun F hf=>c2 F (t2 F hf)⟩
 ·rw[hs.l2,hs.l3];obtain⟨t1,t2⟩:=ir 8 (t.1-2) 1 c.1 c.2 p2 c1 (by omega);have tl:=(fG 8 (t.1-2) 1 c.1 c.2 p2 c1.1 (by omega)).2;generalize bC 8 (t.1-2) 1 c.1 c.2 p2=x at*;obtain⟨u1,u2⟩:=ir 6 ((t.2.1-1)/64) 1 x.1 x.2.1 p3 t1 (by omega);have ul:=(fG 6 ((t.2.1-1)/64) 1 x.1 x.2.1 p3 t1.1 (by omega)).2;generalize bC 6 ((t.2.1-1)/64) 1 x.1 x.2.1 p3=y at*;obtain⟨v1,v2⟩:=nT 6 (t.2.1-1) y.1 y.2.1 u1 (by omega);exact⟨v1,fun F hf=>c2 F (t2 F (u2 F (v2 F hf)))⟩
def ahh(t:dc):Prop:=(t.1=0∧t.2.1=0∧0≤t.2.2∧t.2.2<256)∨(2≤t.1∧t.1≤257∧1≤t.2.1∧t.2.1≤4096∧t.2.2=0)
theorem anb{F:List Int}(hF:al F){t:dc}(ht:ahh t){s:List Int×Int}{p1 p2 p3:List Int}{w:Int}{o:List Int}{r:RB}{d:Dc}(hs:XY s p1 p2 p3)(h:nS w o)(hl:o.length+30<1099511627775)
  (hy:Sy F w o r d) (e1:r.cs=s.1) (e2:r.mD=s.2)
  (hf:Fin F (lC t s p1 p2 p3 w o).2.2.2.2.1 (lC t s p1 p2 p3 w o).2.2.2.2.2):
  let x:=lC t s p1 p2 p3 w o
  let y:=rF r d p1 p2 p3
  y.1=t∧Sy F x.2.2.2.2.1 x.2.2.2.2.2 y.2.1 y.2.2.1∧y.2.1.cs=x.1.1∧y.2.1.mD=x.1.2∧y.2.2.2=(x.2.1,x.2.2.1,x.2.2.2.1):=by
 obtain⟨c1,c2⟩:=pK (p:=s.1.getD s.2.toNat 0) (b:=if t.1=0 then 0 else 1) h (by omega);have cl:=gV (s.1.getD s.2.toNat 0) (if t.1=0 then 0 else 1) w o;have b01:(if t.1=0 then 0 else 1)=(0:Int)∨(if t.1=0 then 0 else 1)=(1:Int):=by split<;>simp
 have cs:=fun hf=>Ss (p:=s.1.getD s.2.toNat 0) hF b01 h (by omega) hy hf;unfold lC at hf ⊢;simp only at hf ⊢;unfold rF VP;rw[e1,e2];simp only;rcases ht with⟨h1,h2,h3,h4⟩|⟨h1,h2,h3,h4,h5⟩
 ·simp only[if_pos h1]at*;rw[hs.l1]at hf ⊢;generalize bV (s.1.getD s.2.toNat 0) 0 w o=c at*;obtain⟨t1,t2⟩:=ir 8 t.2.2 1 c.1 c.2 p1 c1 (by omega);obtain⟨a1,a2,a3⟩:=cs (t2 F hf);have a3:=a3 (s.1.set s.2.toNat (bF (s.1.getD s.2.toNat 0) d).2.1) (bF (s.1.getD s.2.toNat 0) d).1;have mc:=jN ⟨r.b,s.1.set s.2.toNat (bF (s.1.getD s.2.toNat 0) d).2.1,(bF (s.1.getD s.2.toNat 0) d).1,r.bad⟩ (bF (s.1.getD s.2.toNat 0) d).2.2;rw[if_pos a1];generalize cE ⟨r.b,s.1.set s.2.toNat (bF (s.1.getD s.2.toNat 0) d).2.1,(bF (s.1.getD s.2.toNat 0) d).1,r.bad⟩ (bF (s.1.getD s.2.toNat 0) d).2.2=m at*;obtain⟨y1,y2,y3,y4,y5⟩:=uJ hF 8 t.2.2 1 c.1 c.2 p1 m.1 m.2 c1 (by omega) a3 hf;refine⟨?_,y2,?_,?_,?_⟩
  ·have e:(gk 8 1 m.1 m.2 p1).1-256=t.2.2:=(by rw[y1,show(2:Int) ^ 8=256 from by decide];omega);rw[e];obtain⟨ta,tb,tc⟩:=t;simp only at h1 h2 ⊢;rw[h1,h2]
  ·rw[y4,mc.1];simp only;rw[a2]
  ·rw[y5,mc.2];simp only;rw[a1]
  ·simp only[y3]
 ·have hn:¬t.1=0:=by omega
  simp only[if_neg hn]at*;rw[hs.l2,hs.l3]at hf ⊢;generalize bV (s.1.getD s.2.toNat 0) 1 w o=c at*;obtain⟨t1,t2⟩:=ir 8 (t.1-2) 1 c.1 c.2 p2 c1 (by omega);have tl:=(fG 8 (t.1-2) 1 c.1 c.2 p2 c1.1 (by omega)).2;have ts:=fun r d=>uJ (F:=F) hF 8 (t.1-2) 1 c.1 c.2 p2 r d c1 (by omega);generalize bC 8 (t.1-2) 1 c.1 c.2 p2=x at*;obtain⟨u1,u2⟩:=ir 6 ((t.2.1-1)/64) 1 x.1 x.2.1 p3 t1 (by omega);have ul:=(fG 6 ((t.2.1-1)/64) 1 x.1 x.2.1 p3 t1.1 (by omega)).2;have us:=fun r d=>uJ (F:=F) hF 6 ((t.2.1-1)/64) 1 x.1 x.2.1 p3 r d t1 (by omega);generalize bC 6 ((t.2.1-1)/64) 1 x.1 x.2.1 p3=y at*;obtain⟨v1,v2⟩:=nT 6 (t.2.1-1) y.1 y.2.1 u1 (by omega);have vs:=fun di r d=>Ds (F:=F) hF 6 (t.2.1-1) di y.1 y.2.1 r d u1 (by omega);obtain⟨a1,a2,a3⟩:=cs (t2 F (u2 F (v2 F hf)));have a3:=a3 (s.1.set s.2.toNat (bF (s.1.getD s.2.toNat 0) d).2.1) (bF (s.1.getD s.2.toNat 0) d).1;have mc:=jN ⟨r.b,s.1.set s.2.toNat (bF (s.1.getD s.2.toNat 0) d).2.1,(bF (s.1.getD s.2.toNat 0) d).1,r.bad⟩ (bF (s.1.getD s.2.toNat 0) d).2.2;rw[if_neg (by rw[a1];decide)];generalize cE ⟨r.b,s.1.set s.2.toNat (bF (s.1.getD s.2.toNat 0) d).2.1,(bF (s.1.getD s.2.toNat 0) d).1,r.bad⟩ (bF (s.1.getD s.2.toNat 0) d).2.2=m at*;obtain⟨y1,y2,y3,y4,y5⟩:=ts m.1 m.2 a3 (u2 F (v2 F hf));generalize gk 8 1 m.1 m.2 p2=A at*;obtain⟨z1,z2,z3,z4,z5⟩:=us A.2.1 A.2.2.1 y2 (v2 F hf);generalize gk 6 1 A.2.1 A.2.2.1 p3=B at*;obtain⟨k1,k2,k4,k5⟩:=vs (B.1-64) B.2.1 B.2.2.1 z2 hf;generalize gG 6 (B.1-64) B.2.1 B.2.2.1=C at*;refine⟨?_,k2,?_,?_,?_⟩
  ·rw[show(2:Int) ^ 8=256 from by decide]at y1;rw[show(2:Int) ^ 6=64 from by decide]at z1 k1;have e1:A.1-256+2=t.1:=(by omega);have e2:C.1+1=t.2.1:=(by omega);rw[e1,e2];obtain⟨ta,tb,tc⟩:=t;simp only at h5 ⊢;rw[h5]
  ·rw[k4,z4,y4,mc.1];simp only;rw[a2]
  ·rw[k5,z5,y5,mc.2];simp only;rw[a1]
  ·simp only[y3,z3]
theorem uK:∀ (l:List dc) {s:List Int×Int} {p1 p2 p3:List Int} {w:Int} {o:List Int},XY s p1 p2 p3→nS w o→o.length+21*l.length<1099500000000→
  ∀F,Fin F (fH l s p1 p2 p3 w o).1 (fH l s p1 p2 p3 w o).2→Fin F w o
 | [],_,_,_,_,_,_,_,_,_=>fun F h=>h
 |t::l,s,p1,p2,p3,w,o,hs,h,hl=>fun F hf=>by
  rw[List.length_cons]at hl;obtain⟨f1,f2⟩:=Su t hs h (by omega);obtain⟨g1,g2,g3⟩:=AE (t:=t) hs h.1 (by omega);rw[fH]at hf;exact f2 F (uK l g1 f1 (by omega) F hf)
theorem Sv{F:List Int}(hF:al F){pl:Int}:∀ (l:List dc) (k:Nat) (n:Int) (s:List Int×Int) (p1 p2 p3:List Int) (w:Int) (o:List Int) (r:RB) (d:Dc) (out:List dc),XY s p1 p2 p3→nS w o→o.length+21*l.length<1099500000000→
  (∀t∈l,ahh t)→Sy F w o r d→r.cs=s.1→r.mD=s.2→n+cj l=pl→l.length<k→Fin F (fH l s p1 p2 p3 w o).1 (fH l s p1 p2 p3 w o).2→
  (VQ k pl n r d p1 p2 p3 out).1.bad=false∧Gf (VQ k pl n r d p1 p2 p3 out)=out++l
 | [],k,n,s,p1,p2,p3,w,o,r,d,out,hs,h,hl,ht,hy,e1,e2,hn,hk,hf=>by
  simp only[cj]at hn;rw[pJ (by omega)];exact⟨hy.bad,by simp[Gf]⟩
 |t::l,k,n,s,p1,p2,p3,w,o,r,d,out,hs,h,hl,ht,hy,e1,e2,hn,hk,hf=>by
  rw[List.length_cons]at hl hk;obtain⟨k,rfl⟩:∃k0,k=k0+1:=⟨k-1,by omega⟩;obtain⟨f1,f2⟩:=Su t hs h (by omega);obtain⟨g1,g2,g3⟩:=AE (t:=t) hs h.1 (by omega);rw[fH]at hf;have YA:=uK l g1 f1 (by omega) F hf;have htn:=ht t List.mem_cons_self;obtain⟨x1,x2,x3,x4,x5⟩:=anb hF htn hs h (by omega) hy e1 e2 YA
  have iT:1≤bG t:=by
   unfold bG;rcases htn with h'|h'
   ·rw[if_pos h'.1];omega
   ·rw[if_neg (by omega)];omega
  have OC:∀l:List dc,(∀t∈l,ahh t)→0≤cj l:=fun l=>by
   induction l with
   |nil=>intro _;simp[cj]
   |cons t l ih=>
    intro h;have:=ih fun t ht=>h t (List.mem_cons_of_mem _ ht);rw[cj]
    have:0≤bG t:=by
     unfold bG;rcases h t List.mem_cons_self with h'|h'
     ·rw[if_pos h'.1];omega
     ·rw[if_neg (by omega)];omega
    omega
  have Q5:=OC l fun t h=>ht t (List.mem_cons_of_mem _ h);simp only[cj]at hn;rw[VQ,if_pos ⟨by omega,hy.bad⟩];simp only[x1,x5];have:=Sv hF (pl:=pl) l k (n+bG t) _ _ _ _ _ _ _ _ (out++ [t]) g1 f1 (by omega) (fun t h=>ht t (List.mem_cons_of_mem _ h)) x2 x3 x4 (by omega) (by omega) hf;refine⟨this.1,this.2.trans (by simp)⟩
theorem xS:∀ (l:List dc) (made:Int),bE made l=true→made≤8192→made+cj l≤8192∧(l.length:Int)≤cj l
 | [],made,_,h=>by simp[cj];omega
 |t::l,made,hr,h=>by
  rw[bE,Bool.and_eq_true,Bool.and_eq_true]at hr;have h2:=of_decide_eq_true hr.1.2;have h3:=kS hr.1.1;have:=xS l (made+bG t) hr.2 h2;rw[cj,List.length_cons];omega
theorem A7:∀ (l:List dc) (made:Int),bE made l=true→uh l→∀t∈l,ahh t
 | [],_,_,_,t,h=>by simp at h
 |t::l,made,hr,hb,x,hx=>by
  rw[bE,Bool.and_eq_true,Bool.and_eq_true]at hr;rcases List.mem_cons.1 hx with rfl|hx
  ·have hm:=hr.1.1;have:=hb x List.mem_cons_self;unfold kt at hm
   split at hm
   ·exact .inl ⟨by assumption,of_decide_eq_true hm,this⟩
   ·have hm:=of_decide_eq_true hm;exact .inr ⟨hm.2.1,hm.2.2.1,hm.2.2.2.1,hm.2.2.2.2.1,hm.1⟩
  ·exact A7 l _ hr.2 (fun t h=>hb t (List.mem_cons_of_mem _ h)) x hx
theorem abi:nS 4294967295 [0,0,0,0]:=⟨NJ,by decide⟩
theorem sy0{F:List Int}(hF:al F)(h:Fin F 4294967295 [0,0,0,0]):
  Sy F 4294967295 [0,0,0,0] (cE ⟨F,[1024,1024],0,false⟩ (0,4294967295,4)).1 (cE ⟨F,[1024,1024],0,false⟩ (0,4294967295,4)).2:=by
 have ht:=kX hF h;have hl:4≤F.length:=h.1
 match F,hl with
 |x0::x1::x2::x3::F,_=>
  have e:cQ (x0::x1::x2::x3::F) (0,4294967295,4)=(true,F,((((0*256+x0)*256+x1)*256+x2)*256+x3,4294967295,0)):=by
   rw[cQ,if_pos (by decide),cQ,if_pos (by simp[kV]),cQ,if_pos (by simp[kV]),cQ,if_pos (by simp[kV]),Gg _ (by simp[kV])];simp[kV]
  have eb:jc (List.take [(0:Int),0,0,0].length (x0::x1::x2::x3::F))=(((0*256+x0)*256+x1)*256+x2)*256+x3:=by simp[jc]
  have e0:jc [0,0,0,0]=0:=by decide
  rw[eb,e0]at ht;unfold cE;rw[if_neg (by simp)];rw[e];refine⟨by rw[eb,e0];simp only;rw[Int.sub_zero],rfl,?_⟩;unfold xP;simp;omega
theorem JV{l:List dc}(hr:bE 0 l=true)(hb:uh l):cn (ef l) (cj l)=(0,l):=by
 obtain⟨l1,l2⟩:=xS l 0 hr (by omega);have ht:=A7 l 0 hr hb;have ok:=uk l FD NJ (by simp;omega);have hs:=fun F hF=>Sv (F:=F) hF (pl:=cj l) l 9000 0 ([1024,1024],0) (ca 8) (ca 8) (ca 6) 4294967295 [0,0,0,0];have x6:=uK l FD abi (by simp;omega);have ep:ef l=(fH l ([1024,1024],0) (ca 8) (ca 8) (ca 6) 4294967295 [0,0,0,0]).2:=by unfold ef;rw[if_pos hr]
 rw[← ep]at ok x6 hs;generalize (fH l ([1024,1024],0) (ca 8) (ca 8) (ca 6) 4294967295 [0,0,0,0]).1=W at*;generalize hP:ef l=P at*;have hF:al P:=ok.1.2.2.1;have hw:16777216≤W:=ok.1.1;have ahi:Fin P W P:=⟨Nat.le_refl _,by rw[Nat.sub_self];simp,by rw[Nat.sub_self];simp;omega⟩;have hf0:=x6 P ahi;have hy:=sy0 hF hf0;have mc:=jN ⟨P,[1024,1024],0,false⟩ (0,4294967295,4);have hus:=abf (pl:=cj l) (by omega) 8192 9000 200000 0 P (0,4294967295,4) r0H (ca 8,ca 8,ca 6) [] (by omega) (by omega) (by omega) rfl rfl (.inl rfl) (by omega) rfl rfl;have oP:Cr 200000 (cj l) 0 P (0,4294967295,4) r0H (ca 8,ca 8,ca 6) []=iq P (cj l):=rfl;rw[oP]at hus;simp only[show r0H.cs= [1024,1024]from rfl,show r0H.bh=0 from rfl]at hus;obtain⟨b1,b2⟩:=hs P hF _ _ [] FD abi (by simp;omega) ht hy mc.1 mc.2 (by omega) (by omega) ahi;rw[List.nil_append]at b2
 have er:iq P (cj l)=(l,true):=by
  rw[hus,b1,b2,if_pos ⟨rfl,hr,rfl⟩]
 unfold cn;rw[if_neg (by omega),er,if_pos ⟨rfl,by rw[hP];simp[fD]⟩]
end Go.Proofs.YtnbkagglkajbkaaGreat
end
