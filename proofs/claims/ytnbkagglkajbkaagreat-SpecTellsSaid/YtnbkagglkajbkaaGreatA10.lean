/- What the laws lean on, part 10: a reader of code, plain facts, and what each function gives; no conditions. -/
import Derived.Test.YtnbkagglkajbkaaGreatA9
set_option linter.unusedVariables false
set_option linter.unusedSimpArgs false
noncomputable section
namespace Go.Proofs.YtnbkagglkajbkaaGreat
open Go Go.Ev Go.Proofs.Tryz
open Go.IntKind (i64 signed u16 u64 wrap)
set_option maxRecDepth 1000000
noncomputable section
abbrev Mw:Func:=f42
abbrev Mx:aM (List LV) (List (List Int)×Int×List (List Int)×Int×Int×Unit):=ae (ah (fh false false (.sl u8))) (jk 2 (ae (ah (aA .i64)) (jk 5 (ae (ah (fh false false (.sl u8))) (ae (ah (aA .i64)) (ae (ah (aA .i64)) (jk 24 ag)))))))
abbrev ati:List Wk:= [.fr (cu 36 [(0,.al),(3,.sym),(9,.al),(10,.sym),(11,.sym)])]
abbrev ahA:aM (List LV) (List (List Int)×Int×Unit):=ae (ah (fh false false (.sl u8))) (jk 2 (ae (ah (aA .i64)) (jk 32 ag)))
abbrev aAs:List Wk:= [.fr (cu 36 [(0,.al),(3,.sym)])]
theorem ahB(l0 ls:List (List Int))(s n i:Int):cO Tryz.prog [] [] Mw 0 [] (wsE ati 0 aAs) ((aS Mx ag).wr ((l0,s,ls,n,i,()),()))=
  .ite (decide (i<n)) (.need (0≤i∧i<ls.length) (.ite (decide (i64.wrap (s+(ls.getD i.toNat []).length)<0)) .fail
   (.leaf .normal ((aS Mx ag).wr ((l0,i64.wrap (s+(ls.getD i.toNat []).length),ls,n,i64.wrap (i+1),()),())))))
   (.leaf (.exit 0) ((aS ahA ag).wr ((l0,s,()),()))):=by kernel_rfl
theorem Fu(ls:List (List Int))(i:Nat)(h:i<ls.length):(ls.take (i+1)).flatten=(ls.take i).flatten++ls.getD i []:=by
 rw[List.take_add_one,List.flatten_append,List.getD_eq_getElem?_getD,List.getElem?_eq_getElem h];simp
theorem IM(ls:List (List Int))(i:Nat):(ls.take i).flatten.length≤ls.flatten.length:=by
 have:ls.flatten=(ls.take i).flatten++(ls.drop i).flatten:=by rw[← List.flatten_append,List.take_append_drop]
 rw[this,List.length_append];omega
def atj(x:(List (List Int)×Int×List (List Int)×Int×Int×Unit)×Unit):aK:=
 .need (x.1.2.1=0∧x.1.2.2.2.1=x.1.2.2.1.length∧x.1.2.2.2.2.1=0∧x.1.2.2.1.flatten.length≤140737488355328∧x.1.2.2.1.length≤140737488355328) (.leaf (.exit 0) ((aS ahA ag).wr ((x.1.1,(x.1.2.2.1.flatten.length:Int),()),())))
theorem aaL(x):Ex Tryz.prog [] (.loop (aO Mw 0)) ((aS Mx ag).wr x) (atj x):=by
 obtain⟨⟨l0,s,ls,n,i,_⟩,_⟩:=x;refine Ex.need fun⟨h1,h2,h3,h4,h5⟩=>?_;simp only at h1 h2 h3 h4 h5;subst h1 h2 h3
 refine yY mixed ax (aH.nil _) (fun k=>ls.length-k) (fun k:Nat=>(aS Mx ag).wr ((l0,((ls.take k).flatten.length:Int),ls,(ls.length:Int),(k:Int),()),())) (fun k=>k≤ls.length)
  (fun k=>.leaf (.exit 0) ((aS ahA ag).wr ((l0,(ls.flatten.length:Int),()),()))) (fun k _=>ahB l0 ls _ _ _) (fun k R hk hs=>?_) 0 (Nat.zero_le _)
 ·have hle:=IM ls k;refine⟨fun hb=>?_,fun hb=>?_⟩
  ·have dL:k<ls.length:=(by simpa using hb);have hft:=Fu ls k dL;have aE9:=IM ls (k+1);have hlen:((ls.take (k+1)).flatten.length:Int)=(ls.take k).flatten.length+(ls.getD k []).length:=(by rw[hft,List.length_append];omega);refine⟨⟨by omega,by omega⟩,fun uc=>?_,fun _=>.inl ⟨rfl,k+1,?_,dL,by omega,hs⟩⟩
   ·rw[ao (by omega) (by simp only[Int.toNat_natCast];omega)]at uc;simp at uc;omega
   ·rw[ao (by omega) (by simp only[Int.toNat_natCast];omega),ao (by omega) (by omega)];simp only[Int.toNat_natCast];rw[← hlen];rfl
  ·have hge:k=ls.length:=(by simp at hb;omega);subst hge;rw[List.take_length];exact .inr ⟨by simp,hs⟩
abbrev My:aM (List LV) (List (List Int)×Int×Int×Unit):=jk 6 (ai (ah (ke 0 0)) (jk 18 (ae (ah (fh false false (.sl u8))) (ae (ah (aA .i64)) (ae (ah (aA .i64)) (jk 8 ag))))))
abbrev atk:List Wk:= [.fr (cu 36 [(6,.al),(25,.al),(26,.sym),(27,.sym)]),.auto,.aE]
abbrev ahC:aM (List LV) Unit:=jk 6 (ai (ah (ke 0 0)) (jk 29 ag))
abbrev aAt:List Wk:= [.fr (cu 36 [(6,.al)]),.auto,.aE]
abbrev sr:aM Hp (List Int×Unit):=ae (bS 0 u8) ag
theorem ahD(ls:List (List Int))(acc:List Int)(n i:Int):cO Tryz.prog [] [] Mw 2 [] (wsE atk 2 aAt) ((aS My sr).wr ((ls,n,i,()),(acc,())))=
  .ite (decide (i<n)) (.need (0≤i∧i<ls.length) (.need ((acc.length+(ls.getD i.toNat []).length)*1≤70368744177664∧acc.length+(ls.getD i.toNat []).length≤70368744177664)
   (.leaf .normal ((aS My sr).wr ((ls,n,i64.wrap (i+1),()),(acc++ls.getD i.toNat [],()))))))
   (.leaf (.exit 2) ((aS ahC sr).wr ((),(acc,())))):=by kernel_rfl
def atl(x:(List (List Int)×Int×Int×Unit)×List Int×Unit):aK:=
 .need (x.1.2.1=x.1.1.length∧x.1.2.2.1=0∧x.2.1= []∧x.1.1.flatten.length≤70368744177664∧x.1.1.length≤140737488355328) (.leaf (.exit 2) ((aS ahC sr).wr ((),(x.1.1.flatten,()))))
theorem aaM(x):Ex Tryz.prog [] (.loop (aO Mw 2)) ((aS My sr).wr x) (atl x):=by
 obtain⟨⟨ls,n,i,_⟩,acc,_⟩:=x;refine Ex.need fun⟨h2,h3,h1,h4,h5⟩=>?_;simp only at h1 h2 h3 h4 h5;subst h1 h2 h3
 refine yY mixed ax (aH.nil _) (fun k=>ls.length-k) (fun k:Nat=>(aS My sr).wr ((ls,(ls.length:Int),(k:Int),()),((ls.take k).flatten,()))) (fun k=>k≤ls.length)
  (fun k=>.leaf (.exit 2) ((aS ahC sr).wr ((),(ls.flatten,())))) (fun k _=>ahD ls _ _ _) (fun k R hk hs=>?_) 0 (Nat.zero_le _)
 refine⟨fun hb=>?_,fun hb=>?_⟩
 ·have dL:k<ls.length:=by simpa using hb
  have hft:=Fu ls k dL;have aE9:=IM ls (k+1);have hlen:(ls.take (k+1)).flatten.length=(ls.take k).flatten.length+(ls.getD k []).length:=by rw[hft,List.length_append]
  refine⟨⟨by omega,by omega⟩,⟨by simp only[Int.toNat_natCast];omega,by simp only[Int.toNat_natCast];omega⟩,.inl ⟨rfl,k+1,?_,dL,by omega,hs⟩⟩;rw[ao (by omega) (by omega)];simp only[Int.toNat_natCast];rw[← hft];rfl
 ·have hge:k=ls.length:=by simp at hb;omega
  subst hge;rw[List.take_length];exact .inr ⟨by simp,hs⟩
abbrev avR:aM (List LV) (List (List Int)×Unit):=ae (ah (fh false false (.sl u8))) ag
def aoS:an:=an.cl [some (.sl u8)] avR ag fun x _=>.leaf (some (x.1.flatten.length≤70368744177664∧x.1.length≤140737488355328)) (.one (.sc (.sl 0 0))) [(0,.own 0 u8 x.1.flatten)]
abbrev atm:dG:= [(0,dc (aS Mx ag) 0 ati atj),(2,dc (aS My sr) 0 atk atl)]
theorem ahE(ls:List (List Int)):aG Tryz.prog [(85,ahz)] atm Mw (avR.wr (ls,())) [] [.auto,.aE]=
  .need ((0:Int)=0∧(ls.length:Int)=ls.length∧(0:Int)=0∧ls.flatten.length≤140737488355328∧ls.length≤140737488355328) (.need (0≤(ls.flatten.length:Int)∧(ls.flatten.length:Int)≤140737488355328)
   (.need ((ls.length:Int)=ls.length∧(0:Int)=0∧([]:List Int)= []∧ls.flatten.length≤70368744177664∧ls.length≤140737488355328) (.leaf (.one (.sc (.sl 0 0))) [some (.own 0 u8 ls.flatten)]))):=by kernel_rfl
theorem Sv:aoS.Ok Tryz.prog 42:=by
 refine(an.aN call42 fun x y Q h=>?_).sym;obtain⟨ls,_⟩:=x;obtain⟨⟨h1,h2⟩,hq⟩:=h;refine(ar mixed (aj aoR ax) func42 rfl (LT:=atm) (ks:= [.auto,.aE]) (aH.bK (js rfl (bD (hp:= []) aaL) (js rfl (bD (hp:= []) aaM) jt)))).use (D:= [(0,.own 0 u8 ls.flatten)]) ?_ hq;show(aG _ _ _ _ (avR.wr (ls,())) [] _).sat _;rw[ahE];simp only at h1 h2;exact⟨⟨rfl,rfl,rfl,by omega,by omega⟩,⟨by omega,by omega⟩,⟨rfl,rfl,rfl,h1,h2⟩,rfl,rfl⟩
end
def eY:Nat→Int→List Int
 |0,_=> []
 |k+1,x=>x%256::eY k (x/256)
theorem ft:∀ (k:Nat) (x:Int),(eY k x).length=k
 |0,_=>rfl
 |k+1,x=>by simp[eY,ft k]
theorem div_pow(x:Int)(i:Nat):x/256/256 ^ i=x/256 ^ (i+1):=by
 rw[Int.pow_succ,Int.mul_comm,Int.ediv_ediv_of_nonneg (by omega)]
theorem xW:∀ (i:Nat) (x:Int),eY (i+1) x=eY i x++ [x/256 ^ i%256]
 |0,x=>by simp[eY]
 |i+1,x=>by
  rw[eY,xW i,eY,List.cons_append,div_pow]
theorem Mz:∀ (k:Nat) (x:Int),eY k x=(List.range k).map fun i=>x/256 ^ i%256
 |0,_=>rfl
 |k+1,x=>by rw[xW,Mz k,List.range_succ,List.map_append];rfl
theorem ahF(i k:Nat)(x:Int)(h:i<k):(eY i x++List.replicate (k-i) 0).set i (x/256 ^ i%256)=eY (i+1) x++List.replicate (k-(i+1)) 0:=by
 rw[List.set_append_right _ _ (by rw[ft];exact Nat.le_refl _),ft,Nat.sub_self,show k-i=(k-(i+1))+1 from by omega,List.replicate_succ,List.set_cons_zero,xW,List.append_assoc];rfl
theorem CI(i:Nat):(0:Int)<256 ^ i:=Int.pow_pos (by omega)
theorem Fv{x:Int}(i:Nat)(h0:0≤x)(h1:x<18446744073709551616):0≤x/256 ^ i∧x/256 ^ i<18446744073709551616:=
 ⟨Int.ediv_nonneg h0 (Int.le_of_lt (CI i)),Int.lt_of_le_of_lt (Int.ediv_le_self _ h0) h1⟩
abbrev ahG:aM (List LV) (Int×Int×Int×Unit):=ae (ah (aA .u64)) (ae (ah (aA .i64)) (jk 3 (ai (ah (ke 0 0)) (ae (ah (aA .i64)) (jk 16 ag)))))
abbrev aAu:List Wk:= [.fr (cu 23 [(0,.sym),(1,.sym),(5,.al),(6,.sym)]),.auto,.aE]
abbrev aFa:List Wk:= [.fr (cu 23 [(5,.al)]),.auto,.aE]
abbrev ahH:aM (List LV) Unit:=jk 5 (ai (ah (ke 0 0)) (jk 17 ag))
abbrev ahI:Func:=f87
theorem aoT(x k i:Int)(l:List Int):cO Tryz.prog [] [] ahI 0 [] (wsE aAu 0 aFa) ((aS ahG sr).wr ((x,k,i,()),(l,())))=
  .ite (decide (i<k)) (.need (0≤i∧i<l.length) (.leaf .normal ((aS ahG sr).wr ((u64.wrap (x.tdiv 256),k,i64.wrap (i+1),()),(l.set i.toNat (IntKind.u8.wrap (x.tmod 256)),())))))
   (.leaf (.exit 0) ((aS ahH sr).wr ((),(l,())))):=by kernel_rfl
def aAv(y:(Int×Int×Int×Unit)×List Int×Unit):aK:=
 .need (0≤y.1.1∧y.1.1<18446744073709551616∧0≤y.1.2.1∧y.1.2.1≤70368744177664∧y.1.2.2.1=0∧y.2.1=List.replicate y.1.2.1.toNat 0) (.leaf (.exit 0) ((aS ahH sr).wr ((),(eY y.1.2.1.toNat y.1.1,()))))
theorem ahJ(y):Ex Tryz.prog [] (.loop (aO ahI 0)) ((aS ahG sr).wr y) (aAv y):=by
 obtain⟨⟨x,k,i,_⟩,l,_⟩:=y;refine Ex.need fun⟨h1,h2,h3,h4,h5,h6⟩=>?_;simp only at h1 h2 h3 h4 h5 h6;subst h5 h6;obtain⟨k,rfl⟩:=Int.eq_ofNat_of_zero_le h3
 refine yY mixed ax (aH.nil _) (fun i=>k-i) (fun i:Nat=>(aS ahG sr).wr ((x/256 ^ i,(k:Int),(i:Int),()),(eY i x++List.replicate (k-i) 0,()))) (fun i=>i≤k)
  (fun i=>.leaf (.exit 0) ((aS ahH sr).wr ((),(eY k x,())))) (fun i _=>aoT _ _ _ _) (fun i R hi hs=>?_) 0 (Nat.zero_le _) |> (fun h=>by simpa [eY]using h)
 obtain⟨g1,g2⟩:=Fv i h1 h2;refine⟨fun hb=>?_,fun hb=>?_⟩
 ·have dL:i<k:=by simpa using hb
  refine⟨⟨by omega,by simp[ft];omega⟩,.inl ⟨rfl,i+1,?_,dL,by omega,hs⟩⟩
  have e1:u64.wrap ((x/256 ^ i).tdiv 256)=x/256 ^ (i+1):=by
   have e:x/256 ^ i/256=x/256 ^ (i+1):=(by rw[Int.ediv_ediv_of_nonneg (Int.le_of_lt (CI i)),Int.pow_succ]);obtain⟨g3,g4⟩:=Fv (i+1) h1 h2;rw[Int.tdiv_eq_ediv_of_nonneg g1,e,wrap_u64 g3 g4]
  have e2:IntKind.u8.wrap ((x/256 ^ i).tmod 256)=x/256 ^ i%256:=by
   rw[Int.tmod_eq_emod_of_nonneg g1,wrap_u8];omega
  rw[e1,e2,ao (by omega) (by omega),Int.toNat_natCast,ahF i k x dL];rfl
 ·have hge:i=k:=by simp at hb;omega
  subst hge;simp only[Nat.sub_self,List.replicate_zero,List.append_nil];exact .inr ⟨by simp,hs⟩
abbrev ukA:aM (List LV) (Int×Int×Unit):=ae (ah (aA .u64)) (ae (ah (aA .i64)) ag)
def ahK:an:=an.cl [] ukA ag fun x _=>.leaf (some (0≤x.1∧x.1<18446744073709551616∧0≤x.2.1∧x.2.1≤70368744177664)) (.one (.sc (.sl 0 0))) [(0,.own 0 u8 (eY x.2.1.toNat x.1))]
abbrev atn:dG:= [(0,dc (aS ahG sr) 0 aAu aAv)]
theorem ahL(x k:Int):aG Tryz.prog [] atn ahI (ukA.wr (x,k,())) [] [.auto,.aE]=
 End.need (k=k∧(0:Int)≤k∧(1:Int)*k≤(70368744177664:Int)∧k≤(70368744177664:Int)) (End.need ((0:Int)≤x∧x<
 (18446744073709551616:Int)∧(0:Int)≤k∧k≤(70368744177664:Int)∧(0:Int)=(0:Int)∧List.replicate k.toNat (0:Int)=List.replicate
 k.toNat (0:Int)) (End.leaf (LV.one (VV.sc (SV.sl (0:Nat) (0:Nat)))) [some (Item.own (0:Nat) (Ty.int IntKind.u8) (eY k.toNat x))])):=by kernel_rfl
theorem avS:ahK.Ok Tryz.prog 87:=by
 refine(an.aN call87 fun x y Q h=>?_).sym;obtain⟨x,k,_⟩:=x;obtain⟨⟨h1,h2,h3,h4⟩,hq⟩:=h;simp only at h1 h2 h3 h4;refine(ar mixed ax func87 rfl (LT:=atn) (ks:= [.auto,.aE]) (aH.bK (js rfl (bD (hp:= []) ahJ) jt))).use (D:= [(0,.own 0 u8 (eY k.toNat x))]) ?_ hq;show(aG _ _ _ _ (ukA.wr (x,k,())) [] _).sat _;rw[ahL];exact⟨⟨rfl,h3,by omega,h4⟩,⟨h1,h2,h3,h4,rfl,rfl⟩,rfl,rfl⟩
theorem MA(x:Int):aG Tryz.prog [] [] f56 (aM.wr (ae (ah (aA .u64)) ag) (x,())) [] [.auto,.aE]=
 End.need ((1:Nat)≤(70368744177664:Nat)∧(1:Nat)≤(70368744177664:Nat)) (End.need ((2:Nat)≤(70368744177664:Nat)∧(2:Nat)≤
 (70368744177664:Nat)) (End.need ((3:Nat)≤(70368744177664:Nat)∧(3:Nat)≤(70368744177664:Nat)) (End.need ((4:Nat)≤(70368744177664:
 Nat)∧(4:Nat)≤(70368744177664:Nat)) (End.need ((5:Nat)≤(70368744177664:Nat)∧(5:Nat)≤(70368744177664:Nat)) (End.need ((6:Nat)≤
 (70368744177664:Nat)∧(6:Nat)≤(70368744177664:Nat)) (End.need ((7:Nat)≤(70368744177664:Nat)∧(7:Nat)≤(70368744177664:Nat))
 (End.need ((8:Nat)≤(70368744177664:Nat)∧(8:Nat)≤(70368744177664:Nat)) (End.leaf (LV.one (VV.sc (SV.sl (0:Nat) (0:Nat)))) [some
 (Item.own (0:Nat) (Ty.int IntKind.u8) ([IntKind.u8.wrap (shr u64 x (0:Int))]++ [IntKind.u8.wrap (shr u64 x (8:Int))]++
 [IntKind.u8.wrap (shr u64 x (16:Int))]++ [IntKind.u8.wrap (shr u64 x (24:Int))]++ [IntKind.u8.wrap (shr u64 x (32:
 Int))]++ [IntKind.u8.wrap (shr u64 x (40:Int))]++ [IntKind.u8.wrap (shr u64 x (48:Int))]++ [IntKind.u8.wrap (shr u64 x
 (56:Int))]))])))))))):=by kernel_rfl
def ahM:an:=an.cl [] (ae (ah (aA .u64)) ag) ag fun x _=>.leaf (some (0≤x.1∧x.1<18446744073709551616)) (.one (.sc (.sl 0 0))) [(0,.own 0 u8 (eY 8 x.1))]
theorem avT:ahM.Ok Tryz.prog 56:=by
 refine(an.aN call56 fun x y Q h=>?_).sym;obtain⟨x,_⟩:=x;obtain⟨⟨h1,h2⟩,hq⟩:=h;simp only at h1 h2;refine(ar mixed ax func56 rfl (LT:= []) (ks:= [.auto,.aE]) (aH.nil _)).use (D:= [(0,.own 0 u8 (eY 8 x))]) ?_ hq;show(aG _ _ _ _ (aM.wr (ae (ah (aA .u64)) ag) (x,())) [] _).sat _;rw[MA]
 have e:∀i:Nat,i<8→IntKind.u8.wrap (shr .u64 x (8*i:Nat))=x/256 ^ i%256:=by
  intro i hi;have e1:((2 ^ (8*i):Nat):Int)=256 ^ i:=by rw[Nat.pow_mul,Int.natCast_pow];rfl
  rw[c9 .u64 x (8*i) (by simp[IntKind.bits];omega),wrap_u8,e1]
 refine⟨by omega,by omega,by omega,by omega,by omega,by omega,by omega,by omega,rfl,?_⟩;show _= [some (Item.own 0 u8 (eY 8 x))];rw[Mz,← List.map_congr_left (fun i hi=>e i (by simpa using hi))];rfl
abbrev vN{Y:Type}(r:aM (List SV) Y):aM (List SV) (Int×Int×Y):=ae (aA .i64) (ae (aA .i64) r)
abbrev z5{Y:Type}(r:aM (List SV) Y):aM (List SV) (Int×Int×Int×List Int×List Int×Y):=ae (aA .u64) (ae (aA .u64) (ae (aA .i64) (ae (so u8 64) (ae (so u8 64) r))))
abbrev MB:aM (List LV) ((Int×Int×Unit)×Unit):=ae (zh (vN ag)) ag
abbrev EE:aM (List LV) ((Int×Int×Int×List Int×List Int×Unit)×Unit):=ae (zh (z5 ag)) ag
def nK(a b:Int):List Int:=if 0≤a∧a<8∧1≤b∧b≤16 then [66,74,75,49,a,b,0,0]else []
def eC(c v s:Int):Bool:=decide (v≤c∧1≤s∧s≤131072)
def Xd:an:=an.cl [] MB ag fun x _=>.leaf none (.one (.sc (.sl 0 0))) [(0,.own 0 u8 (nK x.1.1 x.1.2.1))]
def CJ:an:=an.cl [] EE ag fun x _=>.leaf none (nB (eC x.1.1 x.1.2.1 x.1.2.2.1)) []
theorem IN(a b:Int):aG Tryz.prog [(42,aoS)] [] f84 (MB.wr ((a,b,()),())) [] [.dh 0 u8,.auto,.aE]=
 End.ite (decide (a<(0:Int))==false) (End.ite (decide ((8:Int)≤a)==false) (End.ite (decide (b<(1:Int))==false) (End.ite (decide ((16:
 Int)<b)) (End.leaf (LV.one (VV.sc (SV.sl (0:Nat) (0:Nat)))) [some (Item.own (0:Nat) (Ty.int IntKind.u8) [])]) (End.need ((8:Nat)≤
 (70368744177664:Nat)∧(2:Nat)≤(140737488355328:Nat)) (End.leaf (LV.one (VV.sc (SV.sl (0:Nat) (0:Nat)))) [some (Item.own (0:Nat) (Ty.int
 IntKind.u8) [[(66:Int),(74:Int),(75:Int),(49:Int)],[IntKind.u8.wrap a,IntKind.u8.wrap b,(0:Int),(0:Int)]].flatten)]))) (End.leaf
 (LV.one (VV.sc (SV.sl (0:Nat) (0:Nat)))) [some (Item.own (0:Nat) (Ty.int IntKind.u8) [])])) (End.leaf (LV.one (VV.sc (SV.sl (0:Nat) (0:
 Nat)))) [some (Item.own (0:Nat) (Ty.int IntKind.u8) [])])) (End.leaf (LV.one (VV.sc (SV.sl (0:Nat) (0:Nat)))) [some (Item.own (0:Nat) (Ty.int
 IntKind.u8) [])]):=by kernel_rfl
theorem EF(a b:Int):aG Tryz.prog [] [] f92 (MB.wr ((a,b,()),())) [] [.dh 0 u8,.auto,.aE]=
 End.ite (decide (a<(0:Int))==false) (End.ite (decide ((8:Int)≤a)==false) (End.ite (decide (b<(1:Int))==false) (End.ite (decide ((16:
 Int)<b)) (End.leaf (LV.one (VV.sc (SV.sl (0:Nat) (0:Nat)))) [some (Item.own (0:Nat) (Ty.int IntKind.u8) [])]) (End.leaf (LV.one (VV.sc (SV.sl
 (0:Nat) (0:Nat)))) [some (Item.own (0:Nat) (Ty.int IntKind.u8) [(66:Int),(74:Int),(75:Int),(49:Int),IntKind.u8.wrap a,
 IntKind.u8.wrap b,(0:Int),(0:Int)])])) (End.leaf (LV.one (VV.sc (SV.sl (0:Nat) (0:Nat)))) [some (Item.own (0:Nat) (Ty.int IntKind.u8)
 [])])) (End.leaf (LV.one (VV.sc (SV.sl (0:Nat) (0:Nat)))) [some (Item.own (0:Nat) (Ty.int IntKind.u8) [])])) (End.leaf (LV.one (VV.sc (SV.sl (0:
 Nat) (0:Nat)))) [some (Item.own (0:Nat) (Ty.int IntKind.u8) [])]):=by kernel_rfl
theorem Sw(c v s:Int)(a b:List Int):aG Tryz.prog [] [] f55 (EE.wr ((c,v,s,a,b,()),())) [] [.fr [.sym],.auto]=
 End.ite (decide (v≤c)==true) (End.ite (decide ((1:Int)≤s)==true) (End.leaf (LV.one (VV.sc (SV.bool (SB.sym (decide (s≤(131072:Int)))))))
 []) (End.leaf (LV.one (VV.sc (SV.bool (SB.sym false)))) [])) (End.leaf (LV.one (VV.sc (SV.bool (SB.sym false)))) []):=by kernel_rfl
theorem MC(c v s:Int)(a b:List Int):aG Tryz.prog [] [] f103 (EE.wr ((c,v,s,a,b,()),())) [] [.fr [.sym],.auto]=
 End.ite (decide (v≤c)==true) (End.ite (decide ((1:Int)≤s)==true) (End.leaf (LV.one (VV.sc (SV.bool (SB.sym (decide (s≤(131072:Int)))))))
 []) (End.leaf (LV.one (VV.sc (SV.bool (SB.sym false)))) [])) (End.leaf (LV.one (VV.sc (SV.bool (SB.sym false)))) []):=by kernel_rfl
theorem ahN(c v s:Int)(a b:List Int):aG Tryz.prog [(55,CJ),(56,ahM),(42,aoS)] [] f23 (EE.wr ((c,v,s,a,b,()),())) [] [.dh 0 u8,.auto,.aE]=
 End.ite (!eC c v s) (End.leaf (LV.one (VV.sc (SV.sl (0:Nat) (0:Nat)))) [some (Item.own (0:Nat) (Ty.int IntKind.u8) [])]) (End.need ((0:Int)
 ≤c∧c<(18446744073709551616:Int)) (End.need ((0:Int)≤v∧v<(18446744073709551616:Int)) (End.need ((0:Int)≤u64.wrap s∧
 u64.wrap s<(18446744073709551616:Int)) (End.need ((0:Int)≤(0:Int)∧(0:Int)≤(64:Int)∧(64:Int)≤(64:Int)) (End.need ((0:
 Int)≤(0:Int)∧(0:Int)≤(64:Int)∧(64:Int)≤(64:Int)) (End.need ([eY (8:Nat) c,eY (8:Nat) v,eY (8:Nat) (u64.wrap
 s),List.take (64:Nat) (List.drop (0:Nat) a),List.take (64:Nat) (List.drop (0:Nat) b)].flatten.length≤(70368744177664:Nat)∧(5:Nat)≤
 (140737488355328:Nat)) (End.leaf (LV.one (VV.sc (SV.sl (0:Nat) (0:Nat)))) [some (Item.own (0:Nat) (Ty.int IntKind.u8) [eY (8:Nat) c,eY
 (8:Nat) v,eY (8:Nat) (u64.wrap s),List.take (64:Nat) (List.drop (0:Nat) a),List.take (64:Nat) (List.drop (0:Nat)
 b)].flatten)]))))))):=by kernel_rfl
theorem aaN(c v s:Int)(a b:List Int):aG Tryz.prog [(103,CJ),(87,ahK)] [] f50 (EE.wr ((c,v,s,a,b,()),())) [] [.dh 0 u8,.auto,.aE]=
 End.ite (!eC c v s) (End.leaf (LV.one (VV.sc (SV.sl (0:Nat) (0:Nat)))) [some (Item.own (0:Nat) (Ty.int IntKind.u8) [])]) (End.need ((0:Int)
 ≤c∧c<(18446744073709551616:Int)∧(0:Int)≤(8:Int)∧(8:Int)≤(70368744177664:Int)) (End.need ((0:Int)≤v∧v<
 (18446744073709551616:Int)∧(0:Int)≤(8:Int)∧(8:Int)≤(70368744177664:Int)) (End.need ((16:Nat)≤(70368744177664:Nat)∧(16:Nat)
 ≤(70368744177664:Nat)) (End.need ((0:Int)≤u64.wrap s∧u64.wrap s<(18446744073709551616:Int)∧(0:Int)≤(8:Int)∧(8:
 Int)≤(70368744177664:Int)) (End.need ((24:Nat)≤(70368744177664:Nat)∧(24:Nat)≤(70368744177664:Nat)) (End.need ((0:Int)≤(0:Int)∧
 (0:Int)≤(64:Int)∧(64:Int)≤(64:Int)) (End.need (((24:Nat)+(List.take (64:Nat) (List.drop (0:Nat) a)).length)*(1:Nat)≤
 (70368744177664:Nat)∧(24:Nat)+(List.take (64:Nat) (List.drop (0:Nat) a)).length≤(70368744177664:Nat)) (End.need ((0:Int)≤(0:Int)
 ∧(0:Int)≤(64:Int)∧(64:Int)≤(64:Int)) (End.need (((eY (8:Nat) c++eY (8:Nat) v++eY (8:Nat) (u64.wrap s)++
 List.take (64:Nat) (List.drop (0:Nat) a)).length+(List.take (64:Nat) (List.drop (0:Nat) b)).length)*(1:Nat)≤(70368744177664:Nat)∧
 (eY (8:Nat) c++eY (8:Nat) v++eY (8:Nat) (u64.wrap s)++List.take (64:Nat) (List.drop (0:Nat) a)).length+(List.take (64:
 Nat) (List.drop (0:Nat) b)).length≤(70368744177664:Nat)) (End.leaf (LV.one (VV.sc (SV.sl (0:Nat) (0:Nat)))) [some (Item.own (0:Nat) (Ty.int
 IntKind.u8) (eY (8:Nat) c++eY (8:Nat) v++eY (8:Nat) (u64.wrap s)++List.take (64:Nat) (List.drop (0:Nat) a)++List.take
 (64:Nat) (List.drop (0:Nat) b)))])))))))))):=by kernel_rfl
theorem ja{l m:List Int}(h:l=m): [some (Item.own 0 u8 l)]=aJ [(0,Item.own 0 u8 m)] []:=by rw[h];rfl
theorem aoU:Xd.Ok Tryz.prog 84:=by
 refine(an.aN call84 fun x y Q h=>?_).sym;obtain⟨⟨a,b,_⟩,_⟩:=x;refine(ar mixed (aj Sv ax) func84 rfl (LT:= []) (ks:= [.dh 0 u8,.auto,.aE]) (aH.nil _)).use (D:= [(0,.own 0 u8 (nK a b))]) ?_ h.2;show(aG _ _ _ _ (MB.wr ((a,b,()),())) [] _).sat _;rw[IN]
 refine⟨fun h1=>⟨fun h2=>⟨fun h3=>⟨fun h4=>⟨rfl,ja ?_⟩,fun h4=>⟨by omega,rfl,ja ?_⟩⟩,fun h3=>⟨rfl,ja ?_⟩⟩,fun h2=>⟨rfl,ja ?_⟩⟩,fun h1=>⟨rfl,ja ?_⟩⟩<;>
  simp at* <;>unfold nK<;>first|(rw[if_neg (by omega)])|(rw[if_pos (by omega),wrap_u8,wrap_u8,Int.emod_eq_of_lt (by omega) (by omega),Int.emod_eq_of_lt (by omega) (by omega)])
theorem ahO:Xd.Ok Tryz.prog 92:=by
 refine(an.aN call92 fun x y Q h=>?_).sym;obtain⟨⟨a,b,_⟩,_⟩:=x;refine(ar mixed ax func92 rfl (LT:= []) (ks:= [.dh 0 u8,.auto,.aE]) (aH.nil _)).use (D:= [(0,.own 0 u8 (nK a b))]) ?_ h.2;show(aG _ _ _ _ (MB.wr ((a,b,()),())) [] _).sat _;rw[EF]
 refine⟨fun h1=>⟨fun h2=>⟨fun h3=>⟨fun h4=>⟨rfl,ja ?_⟩,fun h4=>⟨rfl,ja ?_⟩⟩,fun h3=>⟨rfl,ja ?_⟩⟩,fun h2=>⟨rfl,ja ?_⟩⟩,fun h1=>⟨rfl,ja ?_⟩⟩<;>
  simp at* <;>unfold nK<;>first|(rw[if_neg (by omega)])|(rw[if_pos (by omega),wrap_u8,wrap_u8,Int.emod_eq_of_lt (by omega) (by omega),Int.emod_eq_of_lt (by omega) (by omega)])
theorem CK{b c:Bool}(h:b=c):nB b=nB c:=by rw[h]
theorem MD:CJ.Ok Tryz.prog 55:=by
 refine(an.aN call55 fun x y Q h=>?_).sym;obtain⟨⟨c,v,s,a,b,_⟩,_⟩:=x;refine(ar mixed ax func55 rfl (LT:= []) (ks:= [.fr [.sym],.auto]) (aH.nil _)).use (D:= []) ?_ h.2;show(aG _ _ _ _ (EE.wr ((c,v,s,a,b,()),())) [] _).sat _;rw[Sw];refine⟨fun h1=>⟨fun h2=>⟨CK ?_,rfl⟩,fun h2=>⟨CK ?_,rfl⟩⟩,fun h1=>⟨CK ?_,rfl⟩⟩<;>simp_all[eC]<;>omega
theorem aaO:CJ.Ok Tryz.prog 103:=by
 refine(an.aN call103 fun x y Q h=>?_).sym;obtain⟨⟨c,v,s,a,b,_⟩,_⟩:=x;refine(ar mixed ax func103 rfl (LT:= []) (ks:= [.fr [.sym],.auto]) (aH.nil _)).use (D:= []) ?_ h.2;show(aG _ _ _ _ (EE.wr ((c,v,s,a,b,()),())) [] _).sat _;rw[MC];refine⟨fun h1=>⟨fun h2=>⟨CK ?_,rfl⟩,fun h2=>⟨CK ?_,rfl⟩⟩,fun h1=>⟨CK ?_,rfl⟩⟩<;>simp_all[eC]<;>omega
def lZ(c v s:Int)(a b:List Int):List Int:=if eC c v s=true then eY 8 c++eY 8 v++eY 8 s++a.take 64++b.take 64 else []
theorem la{c v s:Int}(h:eC c v s=true):1≤s∧s≤131072:=by simp[eC]at h;omega
def ahP:an:=an.cl [] EE ag fun x _=>.leaf (some (0≤x.1.1∧x.1.1<18446744073709551616∧0≤x.1.2.1∧x.1.2.1<18446744073709551616)) (.one (.sc (.sl 0 0))) [(0,.own 0 u8 (lZ x.1.1 x.1.2.1 x.1.2.2.1 x.1.2.2.2.1 x.1.2.2.2.2.1))]
theorem avU:ahP.Ok Tryz.prog 23:=by
 refine(an.aN call23 fun x y Q h=>?_).sym;obtain⟨⟨c,v,s,a,b,_⟩,_⟩:=x;obtain⟨⟨h1,h2,h3,h4⟩,hq⟩:=h;simp only at h1 h2 h3 h4;refine(ar mixed (aj MD (aj avT (aj Sv ax))) func23 rfl (LT:= []) (ks:= [.dh 0 u8,.auto,.aE]) (aH.nil _)).use (D:= [(0,.own 0 u8 (lZ c v s a b))]) ?_ hq;show(aG _ _ _ _ (EE.wr ((c,v,s,a,b,()),())) [] _).sat _;rw[ahN];refine⟨fun hb=>⟨rfl,ja ?_⟩,fun hb=>?_⟩
 ·simp at hb;simp[lZ,hb]
 ·simp at hb;obtain⟨r1,r2⟩:=la hb;have e:=wrap_u64 (n:=s) (by omega) (by omega);rw[e];refine⟨⟨h1,h2⟩,⟨h3,h4⟩,⟨by omega,by omega⟩,⟨by omega,by omega,by omega⟩,⟨by omega,by omega,by omega⟩,⟨?_,by omega⟩,rfl,ja ?_⟩
  ·simp[ft];omega
  ·simp[lZ,hb]
theorem Xe:ahP.Ok Tryz.prog 50:=by
 refine(an.aN call50 fun x y Q h=>?_).sym;obtain⟨⟨c,v,s,a,b,_⟩,_⟩:=x;obtain⟨⟨h1,h2,h3,h4⟩,hq⟩:=h;simp only at h1 h2 h3 h4;refine(ar mixed (aj aaO (aj avS ax)) func50 rfl (LT:= []) (ks:= [.dh 0 u8,.auto,.aE]) (aH.nil _)).use (D:= [(0,.own 0 u8 (lZ c v s a b))]) ?_ hq;show(aG _ _ _ _ (EE.wr ((c,v,s,a,b,()),())) [] _).sat _;rw[aaN];refine⟨fun hb=>⟨rfl,ja ?_⟩,fun hb=>?_⟩
 ·simp at hb;simp[lZ,hb]
 ·simp at hb;obtain⟨r1,r2⟩:=la hb;have e:=wrap_u64 (n:=s) (by omega) (by omega);rw[e];refine⟨⟨h1,h2,by omega,by omega⟩,⟨h3,h4,by omega,by omega⟩,⟨by omega,by omega⟩,⟨by omega,by omega,by omega,by omega⟩,⟨by omega,by omega⟩,⟨by omega,by omega,by omega⟩,⟨?_,?_⟩,⟨by omega,by omega,by omega⟩,⟨?_,?_⟩,rfl,ja ?_⟩
  ·simp;omega
  ·simp;omega
  ·simp[ft];omega
  ·simp[ft];omega
  ·simp[lZ,hb]
abbrev bbA:aM (List LV) (List Int×List Int×Unit):=ae (ah (fh false false u8)) (ae (ah (fh false false u8)) ag)
theorem Sx(a b:List Int):aG Tryz.prog [] [] f227 (bbA.wr (a,b,())) [] []=
 End.leaf (LV.one (VV.sc (SV.bool (SB.sym (cV a b))))) []:=by kernel_rfl
theorem IP:aG Tryz.prog [] [] f39 [] [] [.auto,.aE]=
 End.leaf (LV.one (VV.sc (SV.sl (0:Nat) (0:Nat)))) [some (Item.own (0:Nat) (Ty.int IntKind.u8) [(98:Int),(111:Int),(111:Int),(116:Int),
 (106:Int),(97:Int),(99:Int),(107:Int)])]:=by kernel_rfl
def Sy:an:=an.cl [some u8,some u8] bbA ag fun x _=>.leaf none (nB (cV x.1 x.2.1)) []
theorem ME:Sy.Ok Tryz.prog 227:=by
 refine(an.aN call227 fun x y Q h=>?_).sym;obtain⟨a,b,_⟩:=x;refine(ar mixed ax func227 rfl (LT:= []) (ks:= []) (aH.nil _)).use (D:= []) ?_ h.2;show(aG _ _ _ _ (bbA.wr (a,b,())) [] _).sat _;rw[Sx];exact⟨rfl,rfl⟩
def aaP:an:=an.of [] ag ag fun _ _=>.leaf none (.one (.sc (.sl 0 0))) [(0,.own 0 u8 [98,111,111,116,106,97,99,107])]
theorem avV:aaP.Ok Tryz.prog 39:=by
 refine an.aN call39 fun x y Q h=>?_;refine(ar mixed ax func39 rfl (LT:= []) (ks:= [.auto,.aE]) (aH.nil _)).use (D:= [(0,.own 0 u8 [98,111,111,116,106,97,99,107])]) ?_ h.2;show(aG _ _ _ _ [] [] _).sat _;rw[IP];exact⟨rfl,rfl⟩
theorem IQ(l:List Int):aG Tryz.prog [(84,Xd),(227,Sy)] [] f155 (bA.wr (l,())) [] [.fr [.sym],.auto]=
 End.ite ((↑l.length:Int)!=(8:Int)) (End.leaf (LV.cj [VV.agg [SV.int i64 (SI.sym (0:Int)),SV.int i64 (SI.sym (0:Int))],
 VV.sc (SV.bool (SB.sym false))]) []) (End.need ((0:Int)≤(4:Int)∧(4:Int)<(↑l.length:Int)) (End.need ((0:Int)≤(5:Int)∧(5:Int)<
 (↑l.length:Int)) (End.ite (!cV (nK (i64.wrap (l.getD (4:Nat) (0:Int))) (i64.wrap (l.getD (5:Nat) (0:Int)))) l)
 (End.leaf (LV.cj [VV.agg [SV.int i64 (SI.sym (0:Int)),SV.int i64 (SI.sym (0:Int))],VV.sc (SV.bool (SB.sym false))]) [])
 (End.leaf (LV.cj [VV.agg [SV.int i64 (SI.sym (i64.wrap (l.getD (4:Nat) (0:Int)))),SV.int i64 (SI.sym (i64.wrap
 (l.getD (5:Nat) (0:Int))))],VV.sc (SV.bool (SB.sym true))]) [])))):=by kernel_rfl
theorem EG(l:List Int):aG Tryz.prog [(92,Xd)] [] f100 (bA.wr (l,())) [] [.fr [.sym],.auto]=
 End.ite ((↑l.length:Int)!=(8:Int)) (End.leaf (LV.cj [VV.agg [SV.int i64 (SI.sym (0:Int)),SV.int i64 (SI.sym (0:Int))],
 VV.sc (SV.bool (SB.sym false))]) []) (End.need ((0:Int)≤(4:Int)∧(4:Int)<(↑l.length:Int)) (End.need ((0:Int)≤(5:Int)∧(5:Int)<
 (↑l.length:Int)) (End.ite (!cV (nK (i64.wrap (l.getD (4:Nat) (0:Int))) (i64.wrap (l.getD (5:Nat) (0:Int)))) l)
 (End.leaf (LV.cj [VV.agg [SV.int i64 (SI.sym (0:Int)),SV.int i64 (SI.sym (0:Int))],VV.sc (SV.bool (SB.sym false))]) [])
 (End.leaf (LV.cj [VV.agg [SV.int i64 (SI.sym (i64.wrap (l.getD (4:Nat) (0:Int)))),SV.int i64 (SI.sym (i64.wrap
 (l.getD (5:Nat) (0:Int))))],VV.sc (SV.bool (SB.sym true))]) [])))):=by kernel_rfl
def aD(l:List Int):(Int×Int)×Bool:=
 if l.length=8∧cV (nK (i64.wrap (l.getD 4 0)) (i64.wrap (l.getD 5 0))) l=true then((i64.wrap (l.getD 4 0),i64.wrap (l.getD 5 0)),true)else((0,0),false)
def CL(r:(Int×Int)×Bool):LV:=.cj [.agg [.int .i64 (.sym r.1.1),.int .i64 (.sym r.1.2)],.sc (.bool (.sym r.2))]
def km:an:=an.cl [some u8] bA ag fun x _=>.leaf none (CL (aD x.1)) []
theorem mm{l:List Int}(h:¬ (l.length=8∧cV (nK (i64.wrap (l.getD 4 0)) (i64.wrap (l.getD 5 0))) l=true)):LV.cj [.agg [.int .i64 (.sym 0),.int .i64 (.sym 0)],.sc (.bool (.sym false))]=CL (aD l):=by
 unfold aD;rw[if_neg h];rfl
theorem vO{l:List Int}(h:l.length=8∧cV (nK (i64.wrap (l.getD 4 0)) (i64.wrap (l.getD 5 0))) l=true):
  LV.cj [.agg [.int .i64 (.sym (i64.wrap (l.getD 4 0))),.int .i64 (.sym (i64.wrap (l.getD 5 0)))],.sc (.bool (.sym true))]=CL (aD l):=by
 unfold aD;rw[if_pos h];rfl
theorem CM:km.Ok Tryz.prog 155:=by
 refine(an.aN call155 fun x y Q h=>?_).sym;obtain⟨l,_⟩:=x;refine(ar mixed (aj aoU (aj ME ax)) func155 rfl (LT:= []) (ks:= [.fr [.sym],.auto]) (aH.nil _)).use (D:= []) ?_ h.2;show(aG _ _ _ _ (bA.wr (l,())) [] _).sat _;rw[IQ];refine⟨fun h1=>⟨mm ?_,rfl⟩,fun h1=>?_⟩
 ·intro h;rw[h.1]at h1;cases h1
 ·have h1':(l.length:Int)=8:=bne_eq_false_iff_eq.1 h1;refine⟨⟨by omega,by omega⟩,⟨by omega,by omega⟩,fun h2=>⟨mm ?_,rfl⟩,fun h2=>⟨vO ⟨by omega,?_⟩,rfl⟩⟩
  ·intro h;rw[h.2]at h2;cases h2
  ·revert h2;cases cV _ _<;>simp
theorem y5:km.Ok Tryz.prog 100:=by
 refine(an.aN call100 fun x y Q h=>?_).sym;obtain⟨l,_⟩:=x;refine(ar mixed (aj ahO ax) func100 rfl (LT:= []) (ks:= [.fr [.sym],.auto]) (aH.nil _)).use (D:= []) ?_ h.2;show(aG _ _ _ _ (bA.wr (l,())) [] _).sat _;rw[EG];refine⟨fun h1=>⟨mm ?_,rfl⟩,fun h1=>?_⟩
 ·intro h;rw[h.1]at h1;cases h1
 ·have h1':(l.length:Int)=8:=bne_eq_false_iff_eq.1 h1;refine⟨⟨by omega,by omega⟩,⟨by omega,by omega⟩,fun h2=>⟨mm ?_,rfl⟩,fun h2=>⟨vO ⟨by omega,?_⟩,rfl⟩⟩
  ·intro h;rw[h.2]at h2;cases h2
  ·revert h2;cases cV _ _<;>simp
theorem te(l:List Int):cV l l=true:=by simp[cV]
abbrev IS:Type:=RH×(List Int)×(List Int)×(List Int)
abbrev ahQ(x:IS):LV:=LV.one (VV.sc (SV.ptr 0 0))
abbrev ahR(x:IS):List (Nat×Ev.Item):= [(0,jRd.wr x.1),(1,jT2.wr ()),(2,Item.own 0 (Ty.int u16) x.2.1),(3,
 jT4.wr ()),(4,Item.own 0 (Ty.int u16) x.2.2.1),(5,jT6.wr ()),(6,Item.own 0 (Ty.int u16) x.2.2.2)]
def ahS:Tr (IS):=(.need (rH) (.ret ({cs:= [1024,1024],bh:=0,part:=0,node:=1,t:=(0,0,0)},cI 8,cI
 8,cI 6)))
theorem Sz:aG Tryz.prog [(126,zO)] [] f316 ((ag).wr (())) ((ag).wr (())) [.fr [.sym],.syms,.auto,.aE,.eG 0 0 2 .i64]=(ahS).end ahQ ahR ((ag).wr (())):=by kernel_rfl
theorem aaQ:aH Tryz.prog ((ag).wr (())) [] (aF f316):=(aH.nil _)
abbrev CN:Prop:=True
abbrev SA:IS:=(⟨[1024,1024],0,0,1,(0,0,0)⟩,cI 8,cI 8,cI 6)
def SC:an:=cv [] (ag) (ag) (fun _ _=>CN) (fun _ _=>SA) ahQ ahR
theorem ahT(h_:CN):(ahS).Is (SA):=by
 delta SA;exact⟨trivial,rfl⟩
theorem MF:SC.Ok Tryz.prog 316:=
 br mixed ((aj xN ax)) func316 (by kernel_rfl) call316 (fun x_ y_=>aaQ) (fun x_ y_=>Sz) (fun x_ y_ h=>ahT h)
abbrev aFd:aM Ev.Item RH:=mN 385 (cRH 2 4 6)
abbrev jT3:=jT 3
abbrev jT5:=jT 5
abbrev jT7:=jT 7
def dT:Nat→Int→Int→List Int→Dc→RH→List Int→List Int→List Int→List cY→List cY×Bool
 |0,_,_,_,_,_,_,_,_,_=>([],false)
 |n+1,plain,made,b,d,r,p1,p2,p3,out=>
  let f:=cT b d
  if f.1=true then
   if made=plain then(out,true)
   else
    let x:=fQ r p1 p2 p3 f.2.2
    if x.1.2=true then
     if k8 x.1.1 made=true∧b9 x.1.1≤plain-made then dT n plain (made+b9 x.1.1) f.2.1 x.2.2.2.2.2 x.2.1 x.2.2.1 x.2.2.2.1 x.2.2.2.2.1 (out++ [x.1.1])
     else([],false)
    else dT n plain made f.2.1 x.2.2.2.2.2 x.2.1 x.2.2.1 x.2.2.2.1 x.2.2.2.2.1 out
  else([],false)
theorem xX{p:List Int}(h:gZ p)(n b:Int):gZ (b8 p n b):=by
 intro i;have ha:=qf (p.getD n.toNat 0) b;unfold b8
 split
 ·rw[jK];split
  ·omega
  ·exact h i
 ·exact h i
theorem ahU{c w:Int}(h1:0≤c)(h2:c≤w)(h3:65536≤w)(h4:w<4294967296):lJ (vr c w):=by
 unfold vr
 split
 ·exact⟨h1,by simp only;omega,by simp only;omega,.inr (.inl ⟨rfl,by simp only;omega⟩)⟩
 ·exact⟨h1,by simp only;omega,h4,.inl ⟨rfl,by simp only;omega⟩⟩
theorem MG{d:Dc}(h:lJ d){x y:Int}(hx:65536≤x∧x<4294967296)(hy:65536≤y∧y<4294967296)(dL:d.1≤x+y):lJ (iV d x y).2:=by
 have h1:=h.1;unfold iV
 split
 ·exact ahU h1 (by omega) hx.1 hx.2
 ·exact ahU (by omega) (by omega) hy.1 hy.2
theorem fa{d:Dc}(h:lJ d)(p:Int):lJ (a7 p d).2.2:=by
 unfold a7
 split
 ·rename_i hm;have hb:=iF p h.2.1 h.2.2.1;have hm':=(j0 d).1 hm;have:=h.2.2.1;exact MG h ⟨by omega,by omega⟩ ⟨by omega,by omega⟩ (by omega)
 ·exact h
theorem rN{d:Dc}(h:lJ d):lJ (cz d).2:=by
 unfold cz
 split
 ·rename_i hm;have hm':=(j0 d).1 hm;have h1:=h.2.1;have h2:=h.2.2.1;exact MG h ⟨by omega,by omega⟩ ⟨by omega,by omega⟩ (by omega)
 ·exact h
theorem avW{r:RH}{p1 p2 p3:List Int}{d:Dc}(h1:gZ p1)(h2:gZ p2)(h3:gZ p3)(h:lJ d):
  let x:=(g8 r p1 p2 p3 d).2.2
  gZ x.1∧gZ x.2.1∧gZ x.2.2.1∧lJ x.2.2.2:=by
 unfold g8
 split
 ·exact⟨h1,h2,h3,fa h _⟩
 ·split
  ·exact⟨h1,h2,h3,rN h⟩
  ·split
   ·exact⟨xX h1 _ _,h2,h3,fa h _⟩
   ·split
    ·exact⟨h1,xX h2 _ _,h3,fa h _⟩
    ·exact⟨h1,h2,xX h3 _ _,fa h _⟩
theorem SD(r:RH)(p1 p2 p3:List Int)(d:Dc):(fQ r p1 p2 p3 d).2.2=(g8 r p1 p2 p3 d).2.2:=by
 unfold fQ;simp only
 split
 ·rfl
 ·split<;>rfl
def muR(r:RH):Nat:=(if r.part=0 then 21 else if r.part=1 then 8 else if r.part=2 then 20 else if r.part=3 then 12 else 6)-r.node.toNat.log2
theorem ahV(n b:Int)(h:1≤n)(h0:0≤b)(h1:b≤1):(2*n+b).toNat.log2=n.toNat.log2+1:=by
 have e:(2*n+b).toNat/2=n.toNat:=by omega
 rw[Nat.log2_def,if_pos (by omega),e]
theorem aoW{n:Int}{k:Nat}(h:1≤n)(h1:n<2 ^ k):n.toNat.log2<k:=by
 rw[Nat.log2_lt (by omega)];have:((2 ^ k:Nat):Int)=2 ^ k:=by exact_mod_cast rfl
 omega
theorem aoX{r:RH}(h:ROk r)(p1 p2 p3:List Int)(d:Dc)(hw:(fQ r p1 p2 p3 d).1.2=false):muR (fQ r p1 p2 p3 d).2.1<muR r:=by
 obtain⟨b1,b2,b3,b4,b5,b6,b7⟩:=xU r p1 p2 p3 d;obtain⟨k1,k2,k3,k4,k5,k6,k7⟩:=h;have hl:=ahV r.node (g8 r p1 p2 p3 d).1 k4.1 b6 b7
 have Eo:r.node.toNat.log2<(if r.part=0 then 1 else if r.part=1∨r.part=2 then 8 else 6):=by
  refine aoW k4.1 ?_;have:=k4.2;unfold lK at this
  split at this
  ·rename_i e;rw[if_pos e];simpa using this
  ·rename_i e
   split at this
   ·rename_i e1;rw[if_neg e,if_pos e1];simpa using this
   ·rename_i e1;rw[if_neg e,if_neg e1];simpa using this
 unfold fQ at hw ⊢;simp only at hw ⊢;have l1:(1:Int).toNat.log2=0:=by decide
 split
 ·rename_i e;unfold muR;simp only[hl]
  split at Eo
  ·rename_i e1;simp only[e1,if_true];omega
  ·rename_i e1;simp only[e1,if_false]
   split at Eo
   ·rename_i e2;rcases e2 with e2|e2
    ·simp only[e2,if_true];omega
    ·simp only[e2];simp;omega
   ·rename_i e2;rw[if_neg (fun h=>e2 (.inl h)),if_neg (fun h=>e2 (.inr h))]
    split<;>omega
 ·rename_i e;rw[if_neg e]at hw
  split
  ·rename_i hy;rw[if_pos hy]at hw;cases hw
  ·rename_i hy;unfold iX at hy ⊢;simp only at hy ⊢;unfold muR
   by_cases c0:r.part=0
   ·rw[if_pos c0]at Eo;simp only[c0,if_true,l1]at hy ⊢
    split<;>simp<;>omega
   ·by_cases c1:r.part=1
    ·simp[c1]at hy
    ·by_cases c2:r.part=2
     ·rw[if_neg c0,if_pos (.inr c2)]at Eo;simp[c2,l1];omega
     ·by_cases c3:r.part=3
      ·rw[if_neg c0,if_neg (by omega)]at Eo;simp[c3,l1];omega
      ·simp[c0,c1,c2,c3]at hy
abbrev CO:Type:=(List Int)×Int×Int×(Int×Int×Int)×RH×(List Int)×(List Int)×(List Int)×(List (Int×Int×Int))
abbrev CP:aM St CO:=(aS (ae (ah (fh false false (Ty.int IntKind.u8))) (ae (ah (aA i64)) (jk 4 (ai
 (ah (aC (0) (0))) (ai (ah (aC (1) (0))) (ai (ah (ke (8) (0))) (ae (ah (aA i64)) (jk 45 ag)))))))) (ae (bp RK)
 (ae (bp aFd) (ai (bp jT3) (ae (bS (0) (Ty.int u16)) (ai (bp jT5) (ae (bS (0) (Ty.int u16)) (ai (bp
 jT7) (ae (bS (0) (Ty.int u16)) (ae (bS (0) ((Ty.int i64).pair ((Ty.int i64).pair (Ty.int IntKind.u8))))
 ag)))))))))).kE (fun y=>(y.1.1,y.1.2.1,y.1.2.2.1,y.2.1,y.2.2.1,y.2.2.2.1,y.2.2.2.2.1,y.2.2.2.2.2.1,y.2.2.2.2.2.2.1)) (fun x=>((x.1,
 (x.2.1,(x.2.2.1,()))),(x.2.2.2.1,(x.2.2.2.2.1,(x.2.2.2.2.2.1,(x.2.2.2.2.2.2.1,(x.2.2.2.2.2.2.2.1,(x.2.2.2.2.2.2.2.2,())))))))) (fun _=>rfl)
abbrev SE:List Wk:= [.dh 8 kF,.dh 4 kF,.fr (cu 55 [(0,.al),(1,.al),(6,.al),(7,.al),(8,.al),(9,.al)]),.syms,
 .auto,.aE]
abbrev ahW:Exit→List Wk:=xz SE 0 [.dh 8 kF,.dh 4 kF,.fr (cu 55 [(4,.al),(5,.al)]),.syms,.auto,.aE] [.dh 8 kF,
 .dh 4 kF,.fr (cu 55 [(4,.al),(5,.al)]),.syms,.auto,.aE]
def IT(b':List Int)(d:Int×Int×Int):Int×Int×Int:=(cT b' d).snd.snd
def gf(b':List Int)(d:Int×Int×Int)(r:RH)(p1:List Int)(p2:List Int)(p3:List Int):((Int×Int×Int)×Bool)×
 RH×List Int×List Int×List Int×Int×Int×Int:=fQ r p1 p2 p3 (IT b' d)
def oD(b':List Int)(d:Int×Int×Int)(r:RH)(p1:List Int)(p2:List Int)(p3:List Int):Int×Int×Int:=(gf
 b' d r p1 p2 p3).fst.fst
abbrev SF:Type:=Bool×(List (Int×Int×Int))
abbrev ahX(x:SF):Exit×St:=(Exit.ret,⟨(iE 4 (LV.one (VV.sc (SV.sl 0 0))::(LV.one (VV.sc (SV.bool (SB.sym x.1)))::
 (iE 49 [])))),[some (Item.own 0 ((Ty.int i64).pair ((Ty.int i64).pair (Ty.int IntKind.u8))) x.2)]⟩)
def tf(b':List Int)(pl:Int)(made:Int)(d:Int×Int×Int)(r:RH)(p1:List Int)(p2:List Int)(p3:List Int)(out:
 List (Int×Int×Int)):Tr (CO⊕(SF)):=(.need (IJ b' d) (.ite (!(cT b' d).fst) (.ret (.inr (false,[]))) (.ite (made==pl) (.ret
 (.inr (true,out))) (.need (xV r p1 p2 p3 (IT b' d)) (.ite (!(gf b' d r p1 p2 p3).fst.snd) (.ret (.inl ((cT b' d).snd.fst,pl,
 made,(gf b' d r p1 p2 p3).snd.snd.snd.snd.snd,(gf b' d r p1 p2 p3).snd.fst,(gf b' d r p1 p2 p3).snd.snd.fst,(gf b' d r p1 p2
 p3).snd.snd.snd.fst,(gf b' d r p1 p2 p3).snd.snd.snd.snd.fst,out))) (.need (zH (oD b' d r p1 p2 p3) made) (.ite ((!k8 (oD b' d
 r p1 p2 p3) made)==false) (.need (nD (oD b' d r p1 p2 p3)) (.ite (decide (i64.wrap (pl-made)<b9 (oD b' d r p1 p2 p3)))
 (.ret (.inr (false,[]))) (.need (nD (oD b' d r p1 p2 p3)) (.need ((out.length+1)*24≤70368744177664∧out.length+1≤70368744177664)
 (.ret (.inl ((cT b' d).snd.fst,pl,i64.wrap (made+b9 (oD b' d r p1 p2 p3)),(gf b' d r p1 p2 p3).snd.snd.snd.snd.snd,
 (gf b' d r p1 p2 p3).snd.fst,(gf b' d r p1 p2 p3).snd.snd.fst,(gf b' d r p1 p2 p3).snd.snd.snd.fst,(gf b' d r p1 p2
 p3).snd.snd.snd.snd.fst,out++ [(gf b' d r p1 p2 p3).fst.fst]))))))) (.ret (.inr (false,[]))))))))))
theorem SG(b:List Int)(plain:Int)(b':List Int)(pl:Int)(made:Int)(d:Int×Int×Int)(r:RH)(p1:List Int)(p2:List Int)(p3:List Int)(out:List (Int×Int×Int)):cO Tryz.prog [(316,SC),(315,agE),(317,ath),(318,Xc),(180,Wo),(130,HI)] [] f287 0 ((ag).wr (())) ahW (CP.wr (b',pl,made,d,r,p1,p2,p3,out))=(tf b' pl made d r p1 p2 p3 out).res CP.wr ahX:=by kernel_rfl
theorem ahY{b:List Int}{d:Dc}(h:lJ d)(hb:ay b):lJ (cT b d).2.2∧ay (cT b d).2.1∧(cT b d).2.1.length≤b.length:=by
 obtain⟨h1,h2,h3,_⟩:=vK b d h hb;unfold cT
 split
 ·exact⟨h1,h2,h3⟩
 ·exact⟨h1,ay.nil,by simp⟩
theorem ahZ(r:RH):muR r≤21:=by unfold muR;split<;>(try split)<;>(try split)<;>(try split)<;>omega
abbrev CQ(b':List Int)(pl:Int)(made:Int)(d:Int×Int×Int)(r:RH)(p1:List Int)(p2:List Int)(p3:List Int)(out:List (Int×Int×Int)):Prop:=lJ d∧ay b'∧b'.length<1099511627776∧ROk r∧gZ p1∧gZ p2∧gZ p3∧0≤made∧made≤pl∧pl≤8192∧out.length≤made
abbrev SH(b':List Int)(pl:Int)(made:Int)(d:Int×Int×Int)(r:RH)(p1:List Int)(p2:List Int)(p3:List Int)(out:List (Int×Int×Int)):SF:=((dT 200000 pl made b' d r p1 p2 p3 out).2,(dT 200000 pl made b' d r p1 p2 p3 out).1)
abbrev SJ:CO→aK:=eB (fun x_=>CQ x_.1 x_.2.1 x_.2.2.1 x_.2.2.2.1 x_.2.2.2.2.1 x_.2.2.2.2.2.1 x_.2.2.2.2.2.2.1 x_.2.2.2.2.2.2.2.1 x_.2.2.2.2.2.2.2.2) (fun x_=>SH x_.1 x_.2.1 x_.2.2.1 x_.2.2.2.1 x_.2.2.2.2.1 x_.2.2.2.2.2.1 x_.2.2.2.2.2.2.1 x_.2.2.2.2.2.2.2.1 x_.2.2.2.2.2.2.2.2) ahX
theorem ah0(b':List Int)(pl:Int)(made:Int)(d:Int×Int×Int)(r:RH)(p1:List Int)(p2:List Int)(p3:List Int)(out:List (Int×Int×Int))(h_:CQ b' pl made d r p1 p2 p3 out):cX (fun x_:CO=>tf x_.1 x_.2.1 x_.2.2.1 x_.2.2.2.1 x_.2.2.2.2.1 x_.2.2.2.2.2.1 x_.2.2.2.2.2.2.1 x_.2.2.2.2.2.2.2.1 x_.2.2.2.2.2.2.2.2) (b',pl,made,d,r,p1,p2,p3,out) (SH b' pl made d r p1 p2 p3 out):=by
 delta SH;obtain⟨h1,h2,h3,h4,h5,h6,h7,h8,h9,h10,h11⟩:=h_;obtain⟨m,hm⟩:∃m:Nat,(pl-made).toNat*22+muR r<m:=⟨_,Nat.lt_succ_self _⟩
 have hf:m≤200000∨((pl-made).toNat*22+muR r<200000):=by
  have:=ahZ r;right;omega
 obtain⟨n,hn1,hn2⟩:∃n:Nat,n=200000∧(pl-made).toNat*22+muR r<n:=⟨200000,rfl,by have:=ahZ r;omega⟩;rw[← hn1];clear hf hm hn1;clear m
 induction n generalizing made b' d r p1 p2 p3 out with
 |zero=>omega
 |succ n ih=>
  obtain⟨f1,f2,f3⟩:=ahY h1 h2;have yZ:IT b' d=(cT b' d).2.2:=rfl;rw[dT];simp only
  by_cases sk:(cT b' d).1=true
  ·rw[if_pos sk]
   by_cases he:made=pl
   ·rw[if_pos he];refine .stop ?_;simp only[tf,aq,fC,eA,au];exact⟨⟨h1,h2,h3⟩,fun _=>⟨fun _=>trivial,fun h=>absurd he h⟩,fun h=>by rw[sk]at h;cases h⟩
   ·rw[if_neg he];have zk:gf b' d r p1 p2 p3=fQ r p1 p2 p3 (cT b' d).2.2:=rfl;have WD:oD b' d r p1 p2 p3=(fQ r p1 p2 p3 (cT b' d).2.2).1.1:=rfl;have n1:=Mu h4 p1 p2 p3 (cT b' d).2.2;have n2:=SD r p1 p2 p3 (cT b' d).2.2;have n3:=avW (r:=r) h5 h6 h7 f1;rw[← n2]at n3;have n4:=aoX h4 p1 p2 p3 (cT b' d).2.2;generalize hx:fQ r p1 p2 p3 (cT b' d).2.2=x at*;obtain⟨o1,o2,o3,o4⟩:=n3
    cases hw:x.1.2 with
    |false=>
     have n4:=n4 hw;rw[if_neg (by simp)];have lA:=ih _ _ _ _ _ _ _ _ o4 f2 (by omega) n1 o1 o2 o3 h8 h9 h11 (by omega);refine .go ?_ lA;simp only[tf,aq,fC,eA,au,yZ,zk,hw,sk];exact⟨⟨h1,h2,h3⟩,fun _=>⟨fun h=>absurd h he,fun _=>⟨⟨h4,h5,h6,h7,f1⟩,fun h=>by simp at h,fun _=>trivial⟩⟩,fun h=>by simp at h⟩
    |true=>
     rw[if_pos rfl];have w1:i64.wrap (pl-made)=pl-made:=ao (by omega) (by omega)
     by_cases hc:k8 x.1.1 made=true∧b9 x.1.1≤pl-made
     ·rw[if_pos hc];have Ef:=kg hc.1;have hmu:=ahZ x.2.1;have w2:i64.wrap (made+b9 x.1.1)=made+b9 x.1.1:=ao (by omega) (by omega);have lA:=ih _ (made+b9 x.1.1) _ _ _ _ _ (out++ [x.1.1]) o4 f2 (by omega) n1 o1 o2 o3 (by omega) (by omega) (by simp;omega) (by omega);refine .go ?_ lA;simp only[tf,aq,fC,eA,aP,au,yZ,zk,WD,hw,sk,hc.1,w1,w2];have e1:(made==pl)=false:=(by simp[he]);have e2:decide (pl-made<b9 x.1.1)=false:=(by simp;omega);simp only[e1,e2,e9,dP,aq,au,fC,Bool.not_true,bE];exact⟨⟨h1,h2,h3⟩,fun _=>⟨fun h=>absurd h he,fun _=>⟨⟨h4,h5,h6,h7,f1⟩,fun _=>⟨trivial,fun _=>⟨trivial,fun h=>by simp at h,fun _=>⟨trivial,⟨by omega,by omega⟩,trivial⟩⟩,fun h=>by simp at h⟩,fun h=>by simp at h⟩⟩,fun h=>by simp at h⟩
     ·rw[if_neg hc];refine .stop ?_;simp only[tf,aq,fC,eA,aP,au,yZ,zk,WD,hw,sk,w1];refine⟨⟨h1,h2,h3⟩,fun _=>⟨fun h=>absurd h he,fun _=>⟨⟨h4,h5,h6,h7,f1⟩,fun _=>⟨trivial,?_⟩,fun h=>by simp at h⟩⟩,fun h=>by simp at h⟩
      cases hmy:k8 x.1.1 made with
      |true=>
       simp only[Bool.not_true,beq_self_eq_true,dP,aq,aP,au];exact⟨trivial,fun _=>trivial,fun h=>absurd ⟨hmy,by omega⟩ hc⟩
      |false=>simp[bE,au]
  ·rw[if_neg sk];refine .stop ?_;simp only[tf,aq,fC,au];exact⟨⟨h1,h2,h3⟩,fun h=>absurd h sk,fun _=>trivial⟩
theorem aaR(b:List Int)(plain:Int):∀x:CO,Ex Tryz.prog ((ag).wr (())) (.loop (aO f287 0)) (CP.wr x) (SJ x):=
 cy mixed ((aj MF (aj WR (aj aoP (aj aaI (aj HJ (aj BQ ax))))))) (ws:=ahW) (aH.nil _) (fun x_=>SG b plain x_.1 x_.2.1 x_.2.2.1 x_.2.2.2.1 x_.2.2.2.2.1 x_.2.2.2.2.2.1 x_.2.2.2.2.2.2.1 x_.2.2.2.2.2.2.2.1 x_.2.2.2.2.2.2.2.2) (fun z e=>by cases e) eV (fun x_ h=>ah0 x_.1 x_.2.1 x_.2.2.1 x_.2.2.2.1 x_.2.2.2.2.1 x_.2.2.2.2.2.1 x_.2.2.2.2.2.2.1 x_.2.2.2.2.2.2.2.1 x_.2.2.2.2.2.2.2.2 h)
def r0H:RH:=⟨[1024,1024],0,0,1,(0,0,0)⟩
def iJ(b:List Int)(plain:Int):List cY×Bool:=dT 200000 plain 0 b (0,4294967295,4) r0H (cI 8) (cI 8) (cI 6) []
def ah1:RH:= {cs:= [1024,1024],bh:=0,part:=0,node:=1,t:=(0,0,0)}
def ah2(b:List Int)(plain:Int):List (Int×Int×Int)×Bool:=dT 200000 plain 0 b (0,4294967295,4) ah1 (cI 8)
 (cI 8) (cI 6) []
abbrev Xf:Type:=Bool×(List (Int×Int×Int))
abbrev ato(x:Xf):LV:=LV.cj [VV.sc (SV.sl 0 0),VV.sc (SV.bool (SB.sym x.1))]
abbrev atp(x:Xf):List (Nat×Ev.Item):= [(0,Item.own 0 ((Ty.int i64).pair ((Ty.int i64).pair (Ty.int
 IntKind.u8))) x.2)]
def ah3(b:List Int)(plain:Int):Tr (Xf):=(.need (Ip) (.need (CN) (.need (CQ b plain 0 (0,4294967295,4)
 ah1 (cI 8) (cI 8) (cI 6) []) (.ret ((ah2 b plain).snd,(ah2 b plain).fst)))))
theorem aaS(b:List Int)(plain:Int):aG Tryz.prog [(316,SC),(315,agE)] [(0,bZ CP ((ag).wr (())) SE (SJ))] f287 (((ae (ah (fh false false u8)) (ae (ah (aA .i64)) ag))).wr (b,plain,())) ((ag).wr (())) [.dh 4 kF,.dh 8 kF,.fr [.sym],.syms,.auto,.aE]=(ah3 b plain).end ato atp ((ag).wr (())):=by kernel_rfl
theorem ah4(b:List Int)(plain:Int):aH Tryz.prog ((ag).wr (())) [(0,bZ CP ((ag).wr (())) SE (SJ))] (aF f287):=(aH.bK (js (by kernel_rfl) (bP (hp:=(ag).wr (())) (aaR b plain)) jt))
theorem CR(k:Nat)(h:k≤8):gZ (cI k):=(kj k h).1.2.2.1
theorem avX:lJ (0,4294967295,4):=by
 exact⟨by decide,by decide,by decide,.inr (.inr (by decide))⟩
theorem avY:ROk r0H:=⟨rfl,.inl rfl,by decide,by decide,by decide,by decide,by decide⟩
abbrev z6(b:List Int)(plain:Int):Prop:=ay b∧b.length<1099511627776∧0≤plain∧plain≤8192
abbrev ah5(b:List Int)(plain:Int):Xf:=((iJ b plain).2,(iJ b plain).1)
def atq:an:=cv [] ((ae (ah (fh false false u8)) (ae (ah (aA .i64)) ag))) (ag) (fun x_ y_=>z6 x_.1 x_.2.1) (fun x_ y_=>ah5 x_.1 x_.2.1) ato atp
theorem aoZ(b:List Int)(plain:Int)(h_:z6 b plain):(ah3 b plain).Is (ah5 b plain):=by
 delta ah5;obtain⟨h1,h2,h3,h4⟩:=h_;simp only[ah3,aq,au];exact⟨trivial,trivial,⟨avX,h1,h2,avY,CR 8 (by omega),CR 8 (by omega),CR 6 (by omega),by omega,h3,h4,by simp⟩,rfl⟩
theorem gD:atq.Ok Tryz.prog 287:=
 br mixed ((aj MF (aj WR ax))) func287 (by kernel_rfl) call287 (fun x_ y_=>ah4 x_.1 x_.2.1) (fun x_ y_=>aaS x_.1 x_.2.1) (fun x_ y_ h=>aoZ x_.1 x_.2.1 h)
theorem ah6(r:RH)(p1 p2 p3:List Int)(d:Dc)(h:(fQ r p1 p2 p3 d).1.2=true):(fQ r p1 p2 p3 d).1.1=(fQ r p1 p2 p3 d).2.1.t:=by
 unfold fQ at h ⊢;simp only at h ⊢
 split at h
 ·cases h
 ·rename_i e;rw[if_neg e]at*
  split at h
  ·rename_i e1;rw[if_pos e1]
  ·cases h
theorem gW:∀ (n:Nat) (pl made:Int) (b:List Int) (d:Dc) (r:RH) (p1 p2 p3:List Int) (out:List cY),ROk r→sH out→made≤pl→(out.length:Int)≤made→
  sH (dT n pl made b d r p1 p2 p3 out).1∧((dT n pl made b d r p1 p2 p3 out).1.length:Int)≤max pl 0
 |0,_,_,_,_,_,_,_,_,_,_,_,_,_=>⟨fun x h=>by simp[dT]at h,by simp[dT];omega⟩
 |n+1,pl,made,b,d,r,p1,p2,p3,out,h1,h2,h3,h4=>by
  have nil:sH (([],false):List cY×Bool).1∧((([],false):List cY×Bool).1.length:Int)≤max pl 0:=⟨fun x h=>by simp at h,by simp;omega⟩;rw[dT];simp only
  split
  ·split
   ·exact⟨h2,by simp only;omega⟩
   ·have n1:=Mu h1 p1 p2 p3 (cT b d).2.2;have n2:=ah6 r p1 p2 p3 (cT b d).2.2;generalize fQ r p1 p2 p3 (cT b d).2.2=x at*
    split
    ·rename_i hw
     split
     ·rename_i hc;have:=kg hc.1;refine gW n _ _ _ _ _ _ _ _ _ n1 ?_ (by omega) (by simp;omega);intro t ht;rw[List.mem_append]at ht;rcases ht with ht|ht
      ·exact h2 t ht
      ·have:t=x.1.1:=(by simpa using ht);rw[this,n2 hw];exact n1.tb
     ·exact nil
    ·exact gW n _ _ _ _ _ _ _ _ _ n1 h2 h3 h4
  ·exact nil
def bC(b:List Int)(plain:Int):Int×List cY:=
 if plain<0∨8192<plain then(1,[])else if(iJ b plain).2=true∧cV (pj (iJ b plain).1) b=true then(0,(iJ b plain).1)else(11,[])
abbrev vP:Type:=Int
abbrev MH(x:vP):LV:=LV.cj [VV.sc (SV.iM (Value.slice none 0 0)),VV.sc (SV.int i64 (SI.sym x))]
abbrev MI(x:vP):List (Nat×Ev.Item):= []
abbrev vQ:Type:=Int×(List (Int×Int×Int))
abbrev MJ(x:vQ):LV:=LV.cj [VV.sc (SV.sl 0 0),VV.sc (SV.int i64 (SI.sym x.1))]
abbrev MK(x:vQ):List (Nat×Ev.Item):= [(0,Item.own 0 ((Ty.int i64).pair ((Ty.int i64).pair (Ty.int
 IntKind.u8))) x.2)]
def oE(b:List Int)(plain:Int):Tr (vP⊕vQ):=(.ite (decide (plain<0)==false) (.ite (decide (8192<plain))
 (.ret (.inl (1))) (.need (z6 b plain) (.ite ((!(iJ b plain).snd)==false) (.need (u9 (iJ b plain).fst) (.ite (!cV (pj (iJ b
 plain).fst) b) (.ret (.inl (11))) (.ret (.inr (0,(iJ b plain).fst))))) (.ret (.inl (11)))))) (.ret (.inl (1))))
theorem ML(b:List Int)(plain:Int):aG Tryz.prog [(287,atq),(74,agt),(227,Sy)] [] f228 (((ae (ah (fh false false u8)) (ae (ah (aA .i64)) ag))).wr (b,plain,())) ((ag).wr (())) [.dh 4 kF,.dh 6 kF,.fr [.sym],.syms,.auto,.aE]=(oE b plain).end (Sum.elim MH MJ) (Sum.elim MI MK) ((ag).wr (())):=by kernel_rfl
theorem SK(b:List Int)(plain:Int):aH Tryz.prog ((ag).wr (())) [] (aF f228):=(aH.nil _)
abbrev nL(b:List Int)(plain:Int):Prop:=ay b∧b.length<1099511627776
abbrev z7(b:List Int)(plain:Int):Bool:=decide ((bC b plain).1≠0)
abbrev IU(b:List Int)(plain:Int):vP:=(bC b plain).1
abbrev IV(b:List Int)(plain:Int):vQ:=(0,(bC b plain).2)
def Xg:an:=Lx [some u8,none] ((ae (ah (fh false false u8)) (ae (ah (aA .i64)) ag))) (ag) (fun x_ y_=>nL x_.1 x_.2.1) (fun x_ y_=>z7 x_.1 x_.2.1) (fun x_ y_=>IU x_.1 x_.2.1) (fun x_ y_=>IV x_.1 x_.2.1) MH MI MJ MK
theorem aaT(b:List Int)(plain:Int)(h_:nL b plain):(z7 b plain=true→(oE b plain).Is (.inl (IU b plain)))∧(z7 b plain=false→(oE b plain).Is (.inr (IV b plain))):=by
 delta z7 IU IV;obtain⟨h1,h2⟩:=h_
 by_cases hp:plain<0∨8192<plain
 ·have e:bC b plain=(1,[]):=by unfold bC;rw[if_pos hp]
  simp only[e,oE,bE,aP,au];grind
 ·obtain⟨k1,k2⟩:=gW 200000 plain 0 b (0,4294967295,4) r0H (cI 8) (cI 8) (cI 6) [] avY (fun x h=>by simp at h) (by omega) (by simp);have k3:u9 (iJ b plain).1:=⟨by show(dT _ _ _ _ _ _ _ _ _ _).1.length<_;omega,k1⟩;have k4:z6 b plain:=⟨h1,h2,by omega,by omega⟩;have d1:(decide (plain<0)==false)=true:=by simp;omega
  have d2:decide (8192<plain)=false:=by simp;omega
  cases hr:(iJ b plain).2 with
  |false=>
   have e:bC b plain=(11,[]):=(by unfold bC;rw[if_neg hp,hr];simp);simp only[e,oE,hr,d1,d2,dP,e9,aq,bE,au];simp;exact k4
  |true=>
   by_cases hb:cV (pj (iJ b plain).1) b=true
   ·have e:bC b plain=(0,(iJ b plain).1):=(by unfold bC;rw[if_neg hp,hr,if_pos ⟨rfl,hb⟩]);have e1:cV (pj (iJ b plain).1) b=true:=hb;simp only[e,oE,hr,d1,d2,e1,dP,e9,aq,bE,au];simp;exact⟨k4,k3⟩
   ·have e:bC b plain=(11,[]):=(by unfold bC;rw[if_neg hp,if_neg (fun h=>hb h.2)]);have e1:cV (pj (iJ b plain).1) b=false:=(by simpa using hb);simp only[e,oE,hr,d1,d2,e1,dP,e9,aq,bE,au];simp;exact⟨k4,k3⟩
theorem aaU:Xg.Ok Tryz.prog 228:=
 G9 mixed ((aj gD (aj agv (aj ME ax)))) func228 (by kernel_rfl) call228 (fun x_ y_=>SK x_.1 x_.2.1) (fun x_ y_=>ML x_.1 x_.2.1) (fun x_ y_ h=>aaT x_.1 x_.2.1 h)
end Go.Proofs.YtnbkagglkajbkaaGreat
end
