/- What the laws lean on, part 19: a reader of code, plain facts, and what each function gives; no conditions. -/
import Derived.Test.YtcbjpiangpjbgaaGreatA18
set_option linter.unusedVariables false
set_option linter.unusedSimpArgs false
noncomputable section
namespace Go.Proofs.YtcbjpiangpjbgaaGreat
open Go Go.Ev BJ Go.Proofs.Tryz
open Go.IntKind (i64 signed u32 u64 wrap wrap_u32)
set_option maxRecDepth 1000000
theorem ZE:aN Tryz.prog [] [] f82 [] [] [.auto,.aE]=
 End.leaf (LV.one (VV.sc (SV.sl (0:Nat) (0:Nat)))) [some (Item.own (0:Nat) (Ty.int IntKind.u8) [(98:Int),(111:Int),(111:Int),(116:Int),
 (106:Int),(97:Int),(99:Int),(107:Int)])]:=by kernel_rfl
theorem ary:Wd.Ok Tryz.prog 82:=by
 refine ao.ba call82 fun x y Q h=>?_;refine(au mixed aw func82 rfl (LT:= []) (ks:= [.auto,.aE]) (aJ.nil _)).use (D:= [(0,.own 0 u8 [98,111,111,116,106,97,99,107])]) ?_ h.2;show(aN _ _ _ _ [] [] _).sat _;rw[ZE];exact⟨rfl,rfl⟩
abbrev ZF:Func:=f53
abbrev clC:aY (List LV) (List (List Int)×List Int×Int×Unit):=(ag (ah (fR false false (.arr u8 32))) (ag (ah (fR false false u8)) (jk 2 (aq (ah (aU 0 0)) (jk 1 (aq (ah (aU 1 0)) (aq (ah (aU 2 0)) (jk 1 (aq (ah (aU 3 0)) (ag (ah (aC .i64)) (jk 61 ae)))))))))))
abbrev aFq:Wk:=.fr (cC 72 [(0,.al),(1,.al),(4,.al),(6,.al),(7,.al),(9,.al),(10,.sym)])
abbrev clX:aY (List LV) (List (List Int)×List Int×Unit):=(ag (ah (fR false false (.arr u8 32))) (ag (ah (fR false false u8)) (jk 2 (aq (ah (aU 0 0)) (jk 1 (aq (ah (aU 1 0)) (aq (ah (aU 2 0)) (jk 1 (aq (ah (aU 3 0)) (jk 62 ae))))))))))
abbrev aIT:Wk:=.fr (cC 72 [(0,.al),(1,.al),(4,.al),(6,.al),(7,.al),(9,.al)])
abbrev azU:aY (Option Ev.Item) rr:=kY 41 aEG
abbrev clH:aY Hp (rr×rr×(Int×Int×Unit)×rr×Unit):=ag azU (ag azU (ag (kY 36 (zJ ae)) (ag azU ae)))
abbrev azV(i:Nat):Wk:=.bH i [.sym,.sym,.sym,.sym,.sym,.al,.al,.al]
def clW:Exit→List Wk
 | .normal=> [aFq,.auto]
 | .exit 0=> [aIT,.auto]
 |_=> []
theorem azW(ks:List (List Int))(b:List Int)(i:Int)(r n:rr)(x y:Int)(l:rr):cY Tryz.prog [] [] ZF 0 [] clW ((bg clC clH).wr ((ks,b,i,()),(r,n,(x,y,()),l,())))=
 aW.ite (decide (i<(64:Int))) (aW.need ((0:Int)≤i64.wrap ((160:Int)+i)∧i64.wrap ((160:Int)+i)<(↑b.length:Int))
 (aW.need ((0:Int)≤i∧i<(64:Int)) (aW.leaf Exit.normal ((bg clC clH).wr ((ks,b,i64.wrap (i+(1:Int)),PUnit.unit),r,n,(x,y,
 PUnit.unit),{key:=l.key,blocks:=l.blocks,cM:=l.cM,sign:=l.sign.set ((0:Nat)+i.toNat) (b.getD (i64.wrap ((160:Int)+i)).toNat (0:Int))},
 PUnit.unit))))) (aW.leaf (Exit.exit (0:Nat)) ((bg clX clH).wr ((ks,b,PUnit.unit),r,n,(x,y,PUnit.unit),l,PUnit.unit))):=by kernel_rfl
abbrev clT:Type:=(List (List Int)×List Int×Int×Unit)×rr×rr×(Int×Int×Unit)×rr×Unit
def clS(b:List Int)(l:rr):rr:= {l with sign:=b.drop 160}
def aFr(x:clT):aW:=.need (x.1.2.2.1=0∧x.1.2.1.length=224∧x.2.2.2.2.1.sign.length=64) (.leaf (.exit 0) ((bg clX clH).wr ((x.1.1,x.1.2.1,()),(x.2.1,x.2.2.1,x.2.2.2.1,clS x.1.2.1 x.2.2.2.2.1,()))))
theorem arz(x:clT):Ex Tryz.prog [] (.loop (a9 ZF 0)) ((bg clC clH).wr x) (aFr x):=by
 obtain⟨⟨ks,b,i,_⟩,r,n,⟨x,y,_⟩,l,_⟩:=x;refine Ex.need fun⟨h1,h2,h3⟩=>?_;simp only at h1 h2 h3;subst h1
 have key:=dP (fn:=ZF) (id:=0) (j:=0) (ws:=clW) (hp:= []) mixed aw (aJ.nil _) 64 (fun k (o:List Int)=>(bg clC clH).wr ((ks,b,(k:Int),()),(r,n,(x,y,()),{l with sign:=o},()))) (fun(o:List Int)=>(bg clX clH).wr ((ks,b,()),(r,n,(x,y,()),{l with sign:=o},()))) (fun k o=>o.set k (b.getD (160+k) 0)) (fun _ o=>o.length=64)
  (fun k o R hk ho hn hx=>?_) (fun _ _ _ h=>by simpa using h) 0 l.sign (by omega) h3
 ·rw[Nat.sub_zero,jx (fun k=>b.getD (160+k) 0) h3,gU (by omega),List.take_of_length_le (by rw[List.length_drop];omega)]at key;exact key
 rw[azW];refine⟨fun hb=>?_,fun hb=>?_⟩
 ·have jl:k<64:=by have:=of_decide_eq_true hb;omega
  have e1:i64.wrap (160+(k:Int))=((160+k:Nat):Int):=by rw[ar (by omega) (by omega)];omega
  rw[e1,cS k (by omega)];simp only[Int.toNat_natCast,Nat.zero_add];exact⟨by omega,by omega,hn jl⟩
 ·have:k=64:=by have:=of_decide_eq_false hb;omega
  exact hx this
abbrev azX:dL:= [(0,dx (bg clC clH) 0 [aFq,.auto,azV 0,azV 1,.bH 2 [.sym,.sym],azV 3] aFr)]
def xg(ks:List (List Int)):Prop:=∀k:Nat,k<ks.length→okB (ks.getD k k0)
def aFs(g:List (List Int)→List Int→rr×Int):ao:=ao.cH [some (.arr u8 32),some u8] ckA ae fun x _=>.leaf (some (ax x.2.1∧x.2.1.length<4294967296∧xg x.1)) (YE (g x.1 x.2.1)) []
abbrev US(ver:List Int→List Int→List Int→List Int→Bool):List (FuncId×ao):= [(80,mR),(81,aFn ver),(82,Wd),(83,Jq),(84,atB)]
theorem LZ(ver:List Int→List Int→List Int→List Int→Bool)(ks:List (List Int))(b:List Int):aN Tryz.prog (US ver) azX ZF (ckA.wr (ks,b,())) [] [.fr [.sym],.auto]=
 End.ite ((↑b.length:Int)!=(224:Int)) (End.leaf (LV.cG [VV.agg [SV.int i64 (SI.sym (0:Int)),SV.int i64 (SI.sym (0:Int)),
 SV.int u64 (SI.sym (0:Int)),SV.int u64 (SI.sym (0:Int)),SV.int i64 (SI.sym (0:Int)),SV.arr (Ty.int IntKind.u8) (64:
 Nat) (List.replicate (64:Nat) (0:Int)),SV.arr (Ty.int IntKind.u8) (64:Nat) (List.replicate (64:Nat) (0:Int)),SV.arr (Ty.int IntKind.u8) (64
 :Nat) (List.replicate (64:Nat) (0:Int))],VV.sc (SV.int i64 (SI.sym (6:Int)))]) []) (End.need ((0:Int)≤(0:Int)∧(0:Int)≤(8:
 Int)∧(8:Int)≤(↑b.length:Int)) (End.ite (!(bc (List.take (8:Nat) (List.drop (0:Nat) b))).snd) (End.leaf (LV.cG [VV.agg [SV.int
 i64 (SI.sym (0:Int)),SV.int i64 (SI.sym (0:Int)),SV.int u64 (SI.sym (0:Int)),SV.int u64 (SI.sym (0:Int)),
 SV.int i64 (SI.sym (0:Int)),SV.arr (Ty.int IntKind.u8) (64:Nat) (List.replicate (64:Nat) (0:Int)),SV.arr (Ty.int IntKind.u8) (64:
 Nat) (List.replicate (64:Nat) (0:Int)),SV.arr (Ty.int IntKind.u8) (64:Nat) (List.replicate (64:Nat) (0:Int))],VV.sc (SV.int i64
 (SI.sym (6:Int)))]) []) (End.ite (decide ((↑ks.length:Int)≤(bc (List.take (8:Nat) (List.drop (0:Nat) b))).fst.fst)) (End.leaf (LV.cG
 [VV.agg [SV.int i64 (SI.sym (0:Int)),SV.int i64 (SI.sym (0:Int)),SV.int u64 (SI.sym (0:Int)),SV.int u64
 (SI.sym (0:Int)),SV.int i64 (SI.sym (0:Int)),SV.arr (Ty.int IntKind.u8) (64:Nat) (List.replicate (64:Nat) (0:Int)),SV.arr (Ty.int
 IntKind.u8) (64:Nat) (List.replicate (64:Nat) (0:Int)),SV.arr (Ty.int IntKind.u8) (64:Nat) (List.replicate (64:Nat) (0:Int))],VV.sc
 (SV.int i64 (SI.sym (15:Int)))]) []) (End.need ((0:Int)=(0:Int)∧b.length=(224:Nat)∧(64:Nat)=(64:Nat)) (End.need ((0:
 Int)≤(bc (List.take (8:Nat) (List.drop (0:Nat) b))).fst.fst∧(bc (List.take (8:Nat) (List.drop (0:Nat) b))).fst.fst<
 (↑ks.length:Int)) (End.need (b.length<(4294967296:Nat)) (End.need (okB (ks.getD (bc (List.take (8:Nat) (List.drop (0:Nat)
 b))).fst.fst.toNat (List.replicate (32:Nat) (0:Int)))∧(64:Nat)=(64:Nat)∧(List.drop (160:Nat) b).length=(64:Nat)∧ax (List.drop
 (160:Nat) b)) (End.ite (!ver (ks.getD (bc (List.take (8:Nat) (List.drop (0:Nat) b))).fst.fst.toNat (List.replicate (32:Nat) (0:Int)))
 [(98:Int),(111:Int),(111:Int),(116:Int),(106:Int),(97:Int),(99:Int),(107:Int)] (fD b) (List.drop (160:Nat) b)) (End.leaf
 (LV.cG [VV.agg [SV.int i64 (SI.sym (0:Int)),SV.int i64 (SI.sym (0:Int)),SV.int u64 (SI.sym (0:Int)),SV.int
 u64 (SI.sym (0:Int)),SV.int i64 (SI.sym (0:Int)),SV.arr (Ty.int IntKind.u8) (64:Nat) (List.replicate (64:Nat) (0:Int)),
 SV.arr (Ty.int IntKind.u8) (64:Nat) (List.replicate (64:Nat) (0:Int)),SV.arr (Ty.int IntKind.u8) (64:Nat) (List.replicate (64:Nat) (0:
 Int))],VV.sc (SV.int i64 (SI.sym (8:Int)))]) []) (End.need ((0:Int)≤(8:Int)∧(8:Int)≤(160:Int)∧(160:Int)≤(↑b.length:
 Int)) (End.need (ax (List.take (152:Nat) (List.drop (8:Nat) b))) (End.ite (!(gL (List.take (152:Nat) (List.drop (8:Nat) b))).snd)
 (End.leaf (LV.cG [VV.agg [SV.int i64 (SI.sym (0:Int)),SV.int i64 (SI.sym (0:Int)),SV.int u64 (SI.sym (0:Int)),SV.int
 u64 (SI.sym (0:Int)),SV.int i64 (SI.sym (0:Int)),SV.arr (Ty.int IntKind.u8) (64:Nat) (List.replicate (64:Nat) (0:Int)),
 SV.arr (Ty.int IntKind.u8) (64:Nat) (List.replicate (64:Nat) (0:Int)),SV.arr (Ty.int IntKind.u8) (64:Nat) (List.replicate (64:Nat) (0:
 Int))],VV.sc (SV.int i64 (SI.sym (6:Int)))]) []) (End.leaf (LV.cG [VV.agg [SV.int i64 (SI.sym (bc (List.take (8:Nat)
 (List.drop (0:Nat) b))).fst.fst),SV.int i64 (SI.sym (bc (List.take (8:Nat) (List.drop (0:Nat) b))).fst.snd),SV.int u64
 (SI.sym (gL (List.take (152:Nat) (List.drop (8:Nat) b))).fst.ver),SV.int u64 (SI.sym (gL (List.take (152:Nat) (List.drop (8:Nat)
 b))).fst.lu),SV.int i64 (SI.sym (gL (List.take (152:Nat) (List.drop (8:Nat) b))).fst.len),SV.arr (Ty.int IntKind.u8) (64:Nat) (gL
 (List.take (152:Nat) (List.drop (8:Nat) b))).fst.list,SV.arr (Ty.int IntKind.u8) (64:Nat) (gL (List.take (152:Nat) (List.drop (8:Nat)
 b))).fst.plain,SV.arr (Ty.int IntKind.u8) (64:Nat) (List.drop (160:Nat) b)],VV.sc (SV.int i64 (SI.sym (0:Int)))]) [])))))))))))):=by kernel_rfl
theorem QI{ver:List Int→List Int→List Int→List Int→Bool}{ks:List (List Int)}{b:List Int}(hb:ax b)(hl:b.length<4294967296)(hk:xg ks):
  ∃t_:Ev.End,aN Tryz.prog (US ver) azX ZF (ckA.wr (ks,b,())) [] [.fr [.sym],.auto]=t_∧t_.sat fun v dI=>v=YE (c8 ver ks b)∧dI= []:=by
 refine⟨_,LZ ..,?_⟩;have e0:List.drop 0 b=b:=rfl;rw[e0];refine⟨fun h=>?_,fun h=>?_⟩
 ·have hn:¬ (b.length=224∧(bc (b.take 8)).2=true):=fun⟨h',_⟩=>by rw[h']at h;simp at h
  exact⟨kj (r:=(kJ,6)) (by unfold c8;rw[if_neg hn]),rfl⟩
 have Ro:b.length=224:=by have:((b.length:Int)!=224)=false:=h
                          simp at this;omega
 have l1:(b.drop 160).length=64:=by rw[List.length_drop,Ro]
 obtain⟨k1,k2⟩:=xd (l:=b.take 8);have by1:=hb.drop 160;have by2:ax (List.take 152 (List.drop 8 b)):=(hb.drop 8).take 152;refine⟨by omega,fun h1=>?_,fun h1=>?_⟩
 ·have hn:¬ (b.length=224∧(bc (b.take 8)).2=true):=fun⟨_,h'⟩=>by rw[h']at h1;simp at h1
  exact⟨kj (r:=(kJ,6)) (by unfold c8;rw[if_neg hn]),rfl⟩
 have hp:b.length=224∧(bc (b.take 8)).2=true:=⟨Ro,by simpa using h1⟩;refine⟨fun h2=>?_,fun h2=>?_⟩
 ·have h2:=of_decide_eq_true h2;exact⟨kj (r:=(kJ,15)) (by unfold c8;rw[if_pos hp,if_pos h2]),rfl⟩
 have h2:=of_decide_eq_false h2;refine⟨⟨rfl,Ro,rfl⟩,by omega,by omega,⟨hk _ (by omega),rfl,l1,by1⟩,fun h3=>?_,fun h3=>?_⟩
 ·have h3:¬ver (ks.getD (bc (b.take 8)).1.1.toNat k0) F5 (fD b) (b.drop 160)=true:=fun h'=>by
   have Bs:(!ver (ks.getD (bc (b.take 8)).1.1.toNat k0) F5 (fD b) (b.drop 160))=true:=h3;rw[h']at Bs;cases Bs
  exact⟨kj (r:=(kJ,8)) (by unfold c8;rw[if_pos hp,if_neg h2,if_neg h3]),rfl⟩
 have Bs:ver (ks.getD (bc (b.take 8)).1.1.toNat k0) F5 (fD b) (b.drop 160)=true:=by
  have Bs:(!ver (ks.getD (bc (b.take 8)).1.1.toNat k0) F5 (fD b) (b.drop 160))=false:=h3;simpa using Bs
 refine⟨by omega,by2,fun h4=>?_,fun h4=>?_⟩
 ·have h4:¬ (gL ((b.drop 8).take 152)).2=true:=fun h'=>by rw[h']at h4;cases h4
  exact⟨kj (r:=(kJ,6)) (by unfold c8;rw[if_pos hp,if_neg h2,if_pos Bs,if_neg h4]),rfl⟩
 ·have h4:(gL ((b.drop 8).take 152)).2=true:=by simpa using h4
  exact⟨kj (r:=(ajs b,0)) (by unfold c8;rw[if_pos hp,if_neg h2,if_pos Bs,if_pos h4]),rfl⟩
theorem ak8:∀p∈US pI,p.2.Ok Tryz.prog p.1:=aj IA (aj arx (aj ary (aj Oi (aj aol aw))))
theorem ZG:(aFs (c8 pI)).Ok Tryz.prog 53:=by
 refine(ao.ba call53 fun x_ y_ Q h=>?_).sym;obtain⟨ks,b,_⟩:=x_;obtain⟨hn,hq⟩:=h;have hc:gI Tryz.prog 53 (ckA.wr (ks,b,())) [] (aN Tryz.prog (US pI) azX ZF (ckA.wr (ks,b,())) [] [.fr [.sym],.auto]):=au mixed ak8 func53 rfl (aJ.bW (jc rfl (bQ (hp:= []) arz) jh));obtain⟨t,ht,hs⟩:=QI (ver:=pI) hn.1 hn.2.1 hn.2.2;rw[ht]at hc;exact hc.use (D:= []) hs hq
theorem arA{ks:List (List Int)}(h:xg ks):F6 ks:=fun k hk=>(h k hk).1
end Go.Proofs.YtcbjpiangpjbgaaGreat
end
noncomputable section
namespace Go.Proofs.YtcbjpiangpjbgaaGreat
open Go Go.Ev Go.Proofs.Tryz
open Go.IntKind (i64 signed u32 u64 wrap wrap_u32)
set_option maxRecDepth 1000000
theorem ak9{P:Program}{f:FuncId}{X Y:Type}{tys:List (Option Ty)}{A:aY (List LV) X}{H:aY Hp Y}{out aFt:X→Y→Out}(h:(ao.cH tys A H out).Ok P f)(hw:∀x y Q,(aFt x y).holds Q→(out x y).holds Q):(ao.cH tys A H aFt).Ok P f:=by
 refine⟨fun args hp Q hq=>h.calls args hp Q ?_⟩;simp only[ao.cH,ao.sym,ao.of]at hq ⊢
 split at hq
 ·exact hw _ _ _ hq
 ·exact hq.elim
def eRs(g:List Int→List Int):ao:=ao.cH [some u8] bA ae fun x _=>.leaf (some (x.1.length≤1099511627776)) (dQ .u8 64 (g x.1)) []
abbrev avk:ao:=eRs la
theorem arB:avk.Ok Tryz.prog 31:=ak9 (X:=List Int×Unit) (Y:=Unit) UQ fun x y Q h=>by
 have h1:x.1.length≤1099511627776:=h.1;refine⟨by show x.1.length≤_;omega,?_⟩;rw[avi (by omega)];exact h.2
abbrev aFu:ao:=ac2
theorem azY:aFu.Ok Tryz.prog 32:=Ss
abbrev azZ:ao:=aFs mr
theorem az0:azZ.Ok Tryz.prog 53:=by rw[azZ,← ajv];exact ZG
abbrev UT:Type:=Int×Int×Int×Int×Int×(List Int)×(List Int)×(List Int)×Int
abbrev avl(x:UT):LV:=LV.cG [VV.agg [SV.int i64 (SI.sym x.1),SV.int i64 (SI.sym x.2.1),SV.int u64
 (SI.sym x.2.2.1),SV.int u64 (SI.sym x.2.2.2.1),SV.int i64 (SI.sym x.2.2.2.2.1),SV.arr (Ty.int IntKind.u8) 64 x.2.2.2.2.2.1,SV.arr
 (Ty.int IntKind.u8) 64 x.2.2.2.2.2.2.1,SV.arr (Ty.int IntKind.u8) 64 x.2.2.2.2.2.2.2.1],VV.sc (SV.int i64 (SI.sym x.2.2.2.2.2.2.2.2))]
abbrev avm(x:UT):List (Nat×Ev.Item):= []
def ala(ks:List (List Int))(fl:Int)(rm:Int)(b:List Int):Tr (UT):=(.need (ax b∧b.length<4294967296∧xg ks)
 (.ite ((mr ks b).snd !=0) (.ret (0,0,0,0,0,List.replicate 64 (0:Int),List.replicate 64 (0:Int),List.replicate 64 (0:Int),(mr ks
 b).snd)) (.ite (decide (rm<(mr ks b).fst.cM.len)) (.ret (0,0,0,0,0,List.replicate 64 (0:Int),List.replicate 64 (0:Int),List.replicate 64
 (0:Int),10)) (.ite (decide ((mr ks b).fst.cM.ver<fl)) (.ret (0,0,0,0,0,List.replicate 64 (0:Int),List.replicate 64 (0:Int),
 List.replicate 64 (0:Int),9)) (.ret ((mr ks b).fst.key,(mr ks b).fst.blocks,(mr ks b).fst.cM.ver,(mr ks b).fst.cM.lu,(mr ks
 b).fst.cM.len,(mr ks b).fst.cM.list,(mr ks b).fst.cM.plain,(mr ks b).fst.sign,0))))))
theorem ZH(ks:List (List Int))(fl rm:Int)(b:List Int):aN Tryz.prog [(53,azZ)] [] f29 ((aEH).wr (ks,fl,rm,b,())) ((ae).wr (())) [.fr [.sym],.syms,.auto,.aE]=(ala ks fl rm b).end avl avm ((ae).wr (())):=by kernel_rfl
theorem alb(ks:List (List Int))(fl rm:Int)(b:List Int):aJ Tryz.prog ((ae).wr (())) [] (aD f29):=(aJ.nil _)
abbrev GC(ks:List (List Int))(fl rm:Int)(b:List Int):Prop:=ax b∧b.length<4294967296∧xg ks
abbrev alc(ks:List (List Int))(fl rm:Int)(b:List Int):UT:=ajx (b9 ks fl rm b)
def avn:ao:=cd [some (.arr u8 32),none,none,some u8] (aEH) (ae) (fun x_ y_=>GC x_.1 x_.2.1 x_.2.2.1 x_.2.2.2.1) (fun x_ y_=>alc x_.1 x_.2.1 x_.2.2.1 x_.2.2.2.1) avl avm
theorem arC(ks:List (List Int))(fl rm:Int)(b:List Int)(h_:GC ks fl rm b):(ala ks fl rm b).Is (alc ks fl rm b):=by
 delta alc;simp only[ala,aG,ay,ai,ak,b9];refine⟨h_,?_⟩;generalize mr ks b=x
 by_cases c1:x.2=0<;>by_cases c2:rm<x.1.cM.len<;>by_cases c3:x.1.cM.ver<fl<;>simp[c1,c2,c3,ajx]<;>decide
theorem arD:avn.Ok Tryz.prog 29:=
 br mixed ((aj az0 aw)) func29 (by kernel_rfl) call29 (fun x_ y_=>alb x_.1 x_.2.1 x_.2.2.1 x_.2.2.2.1) (fun x_ y_=>ZH x_.1 x_.2.1 x_.2.2.1 x_.2.2.2.1) (fun x_ y_ h=>arC x_.1 x_.2.1 x_.2.2.1 x_.2.2.2.1 h)
def AV(c:List (List Int)×Int):Int:=(↑c.fst.length:Int)
abbrev yA:Type:=Bool
abbrev UU(x:yA):LV:=LV.one (VV.sc (SV.bool (SB.sym x)))
abbrev UW(x:yA):List (Nat×Ev.Item):= []
def GD(c:List (List Int)×Int):Tr (yA):=(.ite (decide (1≤AV c)==true) (.ite (decide (AV c≤8)==true)
 (.ite (decide (3≤c.snd)==true) (.ret (decide (c.snd≤100))) (.ret (false))) (.ret (false))) (.ret (false)))
theorem L0(c:List (List Int)×Int):aN Tryz.prog [] [] f54 ((cfA).wr (c,())) ((ae).wr (())) [.fr [.sym],.syms,.auto,.aE]=(GD c).end UU UW ((ae).wr (())):=by kernel_rfl
theorem QJ(c:List (List Int)×Int):aJ Tryz.prog ((ae).wr (())) [] (aD f54):=(aJ.nil _)
abbrev qJ(c:List (List Int)×Int):Prop:=True
abbrev GF(c:List (List Int)×Int):yA:=decide (DV c)
def GG:ao:=cd [some (.arr u8 32)] (cfA) (ae) (fun x_ y_=>qJ x_.1) (fun x_ y_=>GF x_.1) UU UW
theorem ZI(c:List (List Int)×Int)(h_:qJ c):(GD c).Is (GF c):=by
 delta GF;simp only[GD,AV,ai,aH,aS,bb,aP,ay,aG,aT,aM,aQ,bl,bf,aK,aF,ak]
 try simp only[aA,ai,aH,aS,bb,aP,ay,aG,aT,aM,aQ,bl,bf,aK,aF,ak]
 grind [ar]
theorem CW:GG.Ok Tryz.prog 54:=
 br mixed aw func54 (by kernel_rfl) call54 (fun x_ y_=>QJ x_.1) (fun x_ y_=>L0 x_.1) (fun x_ y_ h=>ZI x_.1 h)
abbrev GH:Type:=Int
abbrev ald(x:GH):LV:=LV.one (VV.sc (SV.int i64 (SI.sym x)))
abbrev ale(x:GH):List (Nat×Ev.Item):= []
def QK(c:List (List Int)×Int):Tr (GH):=(.need (qJ c) (.ite (!decide (1≤c.fst.length∧c.fst.length≤8∧3≤
 c.snd∧c.snd≤100)) (.ret (0)) (.ret (i64.wrap (i64.wrap (c.snd-2)*1024)))))
theorem QL(c:List (List Int)×Int):aN Tryz.prog [(54,GG)] [] f30 ((cfA).wr (c,())) ((ae).wr (())) [.fr [.sym],.syms,.auto,.aE]=(QK c).end ald ale ((ae).wr (())):=by kernel_rfl
theorem ZJ(c:List (List Int)×Int):aJ Tryz.prog ((ae).wr (())) [] (aD f30):=(aJ.nil _)
abbrev AW(c:List (List Int)×Int):Prop:=True
abbrev QM(c:List (List Int)×Int):GH:=bo c
def alf:ao:=cd [some (.arr u8 32)] (cfA) (ae) (fun x_ y_=>AW x_.1) (fun x_ y_=>QM x_.1) ald ale
theorem alg(c:List (List Int)×Int)(h_:AW c):(QK c).Is (QM c):=by
 delta QM;simp only[QK,bo,ai,aH,aS,bb,aP,ay,aG,aT,aM,aQ,bl,bf,aK,aF,ak]
 try simp only[aA,ai,aH,aS,bb,aP,ay,aG,aT,aM,aQ,bl,bf,aK,aF,ak]
 grind [ar]
theorem alh:alf.Ok Tryz.prog 30:=
 br mixed ((aj CW aw)) func30 (by kernel_rfl) call30 (fun x_ y_=>ZJ x_.1) (fun x_ y_=>QL x_.1) (fun x_ y_ h=>alg x_.1 h)
abbrev GI:Type:=Bool
abbrev ali(x:GI):LV:=LV.one (VV.sc (SV.bool (SB.sym x)))
abbrev alj(x:GI):List (Nat×Ev.Item):= []
def QN(c:List (List Int)×Int)(f:Int×Int×Bool)(b:List Int)(er:List Int):Tr (GI):=(.need (qJ c) (.ite
 (decide (1≤c.fst.length∧c.fst.length≤8∧3≤c.snd∧c.snd≤100)==true) (.ret (decide (i64.wrap (2+i64.wrap (2*c.snd))≤
 (↑er.length:Int)))) (.ret (false))))
theorem QO(c:List (List Int)×Int)(f:Fk)(b er:List Int):aN Tryz.prog [(54,GG)] [] f34 ((Bf).wr (c,())) ((gS).wr (f,b,er,())) [.fr [.sym],.syms,.auto,.aE]=(QN c f b er).end ali alj ((gS).wr (f,b,er,())):=by kernel_rfl
theorem ZK(c:List (List Int)×Int)(f:Fk)(b er:List Int):aJ Tryz.prog ((gS).wr (f,b,er,())) [] (aD f34):=(aJ.nil _)
abbrev pM(c:List (List Int)×Int)(f:Fk)(b er:List Int):Prop:=jZ b er
abbrev QP(c:List (List Int)×Int)(f:Fk)(b er:List Int):GI:=decide (rb c er)
def QQ:ao:=cd [none,some (.arr u8 32)] (Bf) (gS) (fun x_ y_=>pM x_.1 y_.1 y_.2.1 y_.2.2.1) (fun x_ y_=>QP x_.1 y_.1 y_.2.1 y_.2.2.1) ali alj
theorem alk(c:List (List Int)×Int)(f:Fk)(b er:List Int)(h_:pM c f b er):(QN c f b er).Is (QP c f b er):=by
 delta QP;obtain⟨h1,h2,h3⟩:=h_;simp only[QN,ai,aH,aS,bb,aP,ay,aG,aT,aM,aQ,bl,bf,aK,aF,ak]
 try simp only[aA,ai,aH,aS,bb,aP,ay,aG,aT,aM,aQ,bl,bf,aK,aF,ak]
 grind [ar]
theorem L1:QQ.Ok Tryz.prog 34:=
 br mixed ((aj CW aw)) func34 (by kernel_rfl) call34 (fun x_ y_=>ZK x_.1 y_.1 y_.2.1 y_.2.2.1) (fun x_ y_=>QO x_.1 y_.1 y_.2.1 y_.2.2.1) (fun x_ y_ h=>alk x_.1 y_.1 y_.2.1 y_.2.2.1 h)
abbrev yB:Type:=Unit
abbrev UX(x:yB):LV:=LV.cG [VV.agg [SV.fO (Value.pointer none),SV.int i64 (SI.lit 0),SV.int i64
 (SI.lit 0)],VV.sc (SV.int i64 (SI.lit 1))]
abbrev UY(x:yB):List (Nat×Ev.Item):= []
abbrev yC:Type:=Int×Int
abbrev UZ(x:yC):LV:=LV.cG [VV.agg [SV.ptr 0 0,SV.int i64 (SI.sym x.1),SV.int i64 (SI.sym x.2)],VV.sc
 (SV.int i64 (SI.lit 0))]
abbrev U0(x:yC):List (Nat×Ev.Item):= []
def wD(c:List (List Int)×Int)(slot:Int)(f:Int×Int×Bool)(b:List Int)(er:List Int):Tr (yB⊕yC):=
 (.need (pM c f b er) (.ite ((!decide ((1≤c.fst.length∧c.fst.length≤8∧3≤c.snd∧c.snd≤100)∧(2:Int)+2*c.snd≤(↑er.length:
 Int)))==false) (.ite ((slot !=0)==true) (.ite (slot !=1) (.ret (.inl ())) (.ite (!decide (1≤c.snd∧0≤i64.wrap (2+i64.wrap
 (slot*c.snd))∧i64.wrap (2+i64.wrap (slot*c.snd))+c.snd≤(↑er.length:Int))) (.need (oX (i64.wrap (2+
 i64.wrap (slot*c.snd))) c.snd f b er) (.ret (.inl ()))) (.need (oX (i64.wrap (2+i64.wrap (slot*c.snd))) c.snd f b er)
 (.ret (.inr (i64.wrap (2+i64.wrap (slot*c.snd)),c.snd)))))) (.ite (!decide (1≤c.snd∧0≤i64.wrap (2+i64.wrap
 (slot*c.snd))∧i64.wrap (2+i64.wrap (slot*c.snd))+c.snd≤(↑er.length:Int))) (.need (oX (i64.wrap (2+
 i64.wrap (slot*c.snd))) c.snd f b er) (.ret (.inl ()))) (.need (oX (i64.wrap (2+i64.wrap (slot*c.snd))) c.snd f b er)
 (.ret (.inr (i64.wrap (2+i64.wrap (slot*c.snd)),c.snd)))))) (.ret (.inl ()))))
theorem QR(c:List (List Int)×Int)(slot:Int)(f:Fk)(b er:List Int):aN Tryz.prog [(34,QQ),(50,awA)] [] f27 ((RY).wr (c,slot,())) ((gS).wr (f,b,er,())) [.auto,.aE]=(wD c slot f b er).end (Sum.elim UX UZ) (Sum.elim UY U0) ((gS).wr (f,b,er,())):=by kernel_rfl
theorem ZL(c:List (List Int)×Int)(slot:Int)(f:Fk)(b er:List Int):aJ Tryz.prog ((gS).wr (f,b,er,())) [] (aD f27):=(aJ.nil _)
abbrev uY(c:List (List Int)×Int)(slot:Int)(f:Fk)(b er:List Int):Prop:=jZ b er
abbrev GJ(c:List (List Int)×Int)(slot:Int)(f:Fk)(b er:List Int):Bool:= !decide (rb c er∧0≤slot∧slot<2)
abbrev QS(c:List (List Int)×Int)(slot:Int)(f:Fk)(b er:List Int):yB:=()
abbrev QT(c:List (List Int)×Int)(slot:Int)(f:Fk)(b er:List Int):yC:=(2+slot*c.2,c.2)
def alm:ao:=BX [none,some (.arr u8 32),none] (RY) (gS) (fun x_ y_=>uY x_.1 x_.2.1 y_.1 y_.2.1 y_.2.2.1) (fun x_ y_=>GJ x_.1 x_.2.1 y_.1 y_.2.1 y_.2.2.1) (fun x_ y_=>QS x_.1 x_.2.1 y_.1 y_.2.1 y_.2.2.1) (fun x_ y_=>QT x_.1 x_.2.1 y_.1 y_.2.1 y_.2.2.1) UX UY UZ U0
theorem aln(c:List (List Int)×Int)(slot:Int)(f:Fk)(b er:List Int)(h_:uY c slot f b er):(GJ c slot f b er=true→(wD c slot f b er).Is (.inl (QS c slot f b er)))∧(GJ c slot f b er=false→(wD c slot f b er).Is (.inr (QT c slot f b er))):=by
 delta GJ QS QT;obtain⟨h1,h2,h3⟩:=h_
 by_cases s0:slot=0
 ·subst s0;simp only[wD,ai,aH,aS,bb,aP,ay,aG,aT,aM,aQ,bl,bf,aK,aF,ak]
  try simp only[aA,ai,aH,aS,bb,aP,ay,aG,aT,aM,aQ,bl,bf,aK,aF,ak]
  grind [ar]
 ·by_cases s1:slot=1
  ·subst s1;simp only[wD,ai,aH,aS,bb,aP,ay,aG,aT,aM,aQ,bl,bf,aK,aF,ak]
   try simp only[aA,ai,aH,aS,bb,aP,ay,aG,aT,aM,aQ,bl,bf,aK,aF,ak]
   grind [ar]
  ·have:¬ (0≤slot∧slot<2):=(by omega);simp only[wD,ai,aH,aS,bb,aP,ay,aG,aT,aM,aQ,bl,bf,aK,aF,ak]
   try simp only[aA,ai,aH,aS,bb,aP,ay,aG,aT,aM,aQ,bl,bf,aK,aF,ak]
   grind [ar]
theorem alo:alm.Ok Tryz.prog 27:=
 zw mixed ((aj L1 (aj acF aw))) func27 (by kernel_rfl) call27 (fun x_ y_=>ZL x_.1 x_.2.1 y_.1 y_.2.1 y_.2.2.1) (fun x_ y_=>QR x_.1 x_.2.1 y_.1 y_.2.1 y_.2.2.1) (fun x_ y_ h=>aln x_.1 x_.2.1 y_.1 y_.2.1 y_.2.2.1 h)
def ct(c:List (List Int)×Int)(slot:Int)(fl:Int)(f:Int×Int×Bool)(b:List Int)(er:List Int):List Int×Int:=
 if f.snd.snd=true then([],5)else if(0:Int)≤0∧(0:Int)≤224∧(224:Int)≤1024*c.snd then(b8 b (1024*(2+slot*c.snd)+0) 224,
 0)else([],2)
def qK(c:List (List Int)×Int)(slot:Int)(fl:Int)(f:Int×Int×Bool)(b:List Int)(er:List Int):List Int:=k8
 (b9 c.fst fl (bo c) (ct c slot fl f b er).fst).fst.cM.ver (b9 c.fst fl (bo c) (ct c slot fl f b er).fst).fst.cM.lu (b9 c.fst
 fl (bo c) (ct c slot fl f b er).fst).fst.cM.len (b9 c.fst fl (bo c) (ct c slot fl f b er).fst).fst.cM.list (b9 c.fst fl (bo c)
 (ct c slot fl f b er).fst).fst.cM.plain
def jO(c:List (List Int)×Int)(slot:Int)(fl:Int)(f:Int×Int×Bool)(b:List Int)(er:List Int):List Int×Int:=
 if f.snd.snd=true then([],5)else if(0:Int)≤2048∧0≤(b9 c.fst fl (bo c) (ct c slot fl f b er).fst).fst.cM.len∧2048+(b9
 c.fst fl (bo c) (ct c slot fl f b er).fst).fst.cM.len≤1024*c.snd then(b8 b (1024*(2+slot*c.snd)+2048) (b9 c.fst fl (bo c)
 (ct c slot fl f b er).fst).fst.cM.len,0)else([],2)
abbrev U1:Type:=Int×Int×Int×Int×Int×(List Int)×(List Int)×(List Int)×(List Int)×Int
abbrev avo(x:U1):LV:=LV.cG [VV.agg [SV.int i64 (SI.sym x.1),SV.int i64 (SI.sym x.2.1),SV.int u64
 (SI.sym x.2.2.1),SV.int u64 (SI.sym x.2.2.2.1),SV.int i64 (SI.sym x.2.2.2.2.1),SV.arr (Ty.int IntKind.u8) 64 x.2.2.2.2.2.1,SV.arr
 (Ty.int IntKind.u8) 64 x.2.2.2.2.2.2.1,SV.arr (Ty.int IntKind.u8) 64 x.2.2.2.2.2.2.2.1],VV.agg [SV.arr (Ty.int IntKind.u8) 64 x.2.2.2.2.2.2.2.2.1],
 VV.sc (SV.int i64 (SI.sym x.2.2.2.2.2.2.2.2.2))]
abbrev avp(x:U1):List (Nat×Ev.Item):= []
def alp(c:List (List Int)×Int)(slot:Int)(fl:Int)(f:Int×Int×Bool)(b:List Int)(er:List Int):Tr (U1):=(.ite
 (!decide (((1≤c.fst.length∧c.fst.length≤8∧3≤c.snd∧c.snd≤100)∧(2:Int)+2*c.snd≤(↑er.length:Int))∧0≤slot∧slot<2)) (.need
 (uY c slot f b er) (.ret (0,0,0,0,0,List.replicate 64 (0:Int),List.replicate 64 (0:Int),List.replicate 64 (0:Int),List.replicate 64
 (0:Int),1))) (.need (uY c slot f b er) (.need (qc (2+slot*c.snd,c.snd) 0 224 f b er) (.ite ((ct c slot fl f b er).snd !=0)
 (.ret (0,0,0,0,0,List.replicate 64 (0:Int),List.replicate 64 (0:Int),List.replicate 64 (0:Int),List.replicate 64 (0:Int),(ct c
 slot fl f b er).snd)) (.need (AW c) (.need (GC c.fst fl (bo c) (ct c slot fl f b er).fst) (.ite ((b9 c.fst fl (bo c) (ct c
 slot fl f b er).fst).snd !=0) (.ret (0,0,0,0,0,List.replicate 64 (0:Int),List.replicate 64 (0:Int),List.replicate 64 (0:Int),
 List.replicate 64 (0:Int),(b9 c.fst fl (bo c) (ct c slot fl f b er).fst).snd)) (.need (qc (2+slot*c.snd,c.snd) 2048 (b9 c.fst
 fl (bo c) (ct c slot fl f b er).fst).fst.cM.len f b er) (.ite ((jO c slot fl f b er).snd !=0) (.ret (0,0,0,0,0,List.replicate 64 (0
 :Int),List.replicate 64 (0:Int),List.replicate 64 (0:Int),List.replicate 64 (0:Int),(jO c slot fl f b er).snd)) (.need ((jO c slot
 fl f b er).fst.length≤1099511627776) (.ite (!decide (la (jO c slot fl f b er).fst=(b9 c.fst fl (bo c) (ct c slot fl f b
 er).fst).fst.cM.plain)) (.ret (0,0,0,0,0,List.replicate 64 (0:Int),List.replicate 64 (0:Int),List.replicate 64 (0:Int),List.replicate 64
 (0:Int),7)) (.need (0≤(b9 c.fst fl (bo c) (ct c slot fl f b er).fst).fst.cM.ver∧(b9 c.fst fl (bo c) (ct c slot fl f b
 er).fst).fst.cM.ver<18446744073709551616∧0≤(b9 c.fst fl (bo c) (ct c slot fl f b er).fst).fst.cM.lu∧(b9 c.fst fl (bo c)
 (ct c slot fl f b er).fst).fst.cM.lu<18446744073709551616) (.need (((qK c slot fl f b er).length+(jO c slot fl f b er).fst.length)
 *1≤70368744177664∧(qK c slot fl f b er).length+(jO c slot fl f b er).fst.length≤70368744177664) (.need ((qK c slot fl f b er++
 (jO c slot fl f b er).fst).length≤1099511627776) (.ret ((b9 c.fst fl (bo c) (ct c slot fl f b er).fst).fst.key,(b9 c.fst fl (bo
 c) (ct c slot fl f b er).fst).fst.blocks,(b9 c.fst fl (bo c) (ct c slot fl f b er).fst).fst.cM.ver,(b9 c.fst fl (bo c) (ct
 c slot fl f b er).fst).fst.cM.lu,(b9 c.fst fl (bo c) (ct c slot fl f b er).fst).fst.cM.len,(b9 c.fst fl (bo c) (ct c slot fl f
 b er).fst).fst.cM.list,(b9 c.fst fl (bo c) (ct c slot fl f b er).fst).fst.cM.plain,(b9 c.fst fl (bo c) (ct c slot fl f b
 er).fst).fst.sign,la (qK c slot fl f b er++(jO c slot fl f b er).fst),0))))))))))))))))
theorem ZM(c:List (List Int)×Int)(slot fl:Int)(f:Fk)(b er:List Int):aN Tryz.prog [(27,alm),(28,Sq),(30,alf),(29,avn),(31,avk),(32,aFu)] [] f10 (((aq (ah (aU 0 0)) (ag (iD ZZ) (ag (ah (aC .i64)) (ag (ah (aC .u64)) ae))))).wr (c,slot,fl,())) ((gS).wr (f,b,er,())) [.fr [.sym],.syms,.auto,.aE]=(alp c slot fl f b er).end avo avp ((gS).wr (f,b,er,())):=by kernel_rfl
theorem alq(c:List (List Int)×Int)(slot fl:Int)(f:Fk)(b er:List Int):aJ Tryz.prog ((gS).wr (f,b,er,())) [] (aD f10):=(aJ.nil _)
abbrev flO(o:Bool):Fl:=(0,o,false,0)
abbrev qM(c:List (List Int)×Int)(slot fl:Int)(f:Fk)(b er:List Int):Prop:=jZ b er∧ax b∧xg c.1
abbrev alr(c:List (List Int)×Int)(slot fl:Int)(f:Fk)(b er:List Int):U1:=azd (qY (flO f.2.2) b er c slot fl)
def als:ao:=cd [none,some (.arr u8 32),none,none] ((aq (ah (aU 0 0)) (ag (iD ZZ) (ag (ah (aC .i64)) (ag (ah (aC .u64)) ae))))) (gS) (fun x_ y_=>qM x_.1 x_.2.1 x_.2.2.1 y_.1 y_.2.1 y_.2.2.1) (fun x_ y_=>alr x_.1 x_.2.1 x_.2.2.1 y_.1 y_.2.1 y_.2.2.1) avo avp
theorem arE(c:List (List Int)×Int)(slot fl:Int)(f:Fk)(b er:List Int)(h_:qM c slot fl f b er):(alp c slot fl f b er).Is (alr c slot fl f b er):=by
 delta alr;obtain⟨h1,h2,h3⟩:=h_
 have hr:(rb c er∧0≤slot∧slot<2)→xl (2+slot*c.2,c.2) er:=fun⟨⟨⟨a,b,c1,d⟩,e⟩,h,i⟩=>by
  rcases(by omega:slot=0∨slot=1)with rfl|rfl<;>exact⟨by simp only;omega,by simp only;omega,by simp only;omega⟩
 simp only[alp,bb,ai,aG,ak];refine⟨fun c1=>⟨h1,by rw[qY,if_pos c1];exact(xe _ _).symm⟩,fun c1=>⟨h1,⟨h1,hr c1⟩,?_⟩⟩;obtain⟨r1,r2,r3⟩:=hr c1;simp only at r1 r2 r3;rw[qY,if_neg (fun h=>h c1)]
 cases c2:f.2.2 with
 |true=>
  have Le:ct c slot fl f b er=([],5):=by unfold ct;rw[if_pos c2]
  rw[Le,if_pos rfl];exact⟨fun h=>by simp at h,fun _=>(xe _ _).symm⟩
 |false=>
  rw[if_neg (by simp)]
  have Le:ct c slot fl f b er=(b8 b (1024*(2+slot*c.2)) 224,0):=by
   unfold ct;rw[if_neg (by rw[c2];decide),if_pos (by omega),Int.add_zero]
  have l1:=iF (b:=b) (p:=1024*(2+slot*c.2)) (m:=224) (by omega);have hm:bo c=1024*(c.2-2):=if_pos c1.1.1;have hf:=Uq (ks:=c.1) (fl:=fl) (rm:=bo c) (b:=b8 b (1024*(2+slot*c.2)) 224)
  have e14:(b9 c.1 fl (bo c) (b8 b (1024*(2+slot*c.2)) 224)).2=0→jO c slot fl f b er=(b8 b (1024*(2+slot*c.2)+2048) (b9 c.1 fl (bo c) (b8 b (1024*(2+slot*c.2)) 224)).1.cM.len,0):=fun h=>by
   have hf:=hf h;unfold jO;rw[Le,if_neg (by rw[c2];decide),if_pos ⟨by omega,by rw[hf.1];exact hf.2.2.2.2.1,by rw[hf.1];have:=hf.2.2.2.2.2.1;simp only;omega⟩]
  have e13:qK c slot fl f b er=k8 (b9 c.1 fl (bo c) (b8 b (1024*(2+slot*c.2)) 224)).1.cM.ver (b9 c.1 fl (bo c) (b8 b (1024*(2+slot*c.2)) 224)).1.cM.lu (b9 c.1 fl (bo c) (b8 b (1024*(2+slot*c.2)) 224)).1.cM.len (b9 c.1 fl (bo c) (b8 b (1024*(2+slot*c.2)) 224)).1.cM.list (b9 c.1 fl (bo c) (b8 b (1024*(2+slot*c.2)) 224)).1.cM.plain:=by unfold qK;rw[Le]
  have e16:=AI (b9 c.1 fl (bo c) (b8 b (1024*(2+slot*c.2)) 224)).1.cM.ver (b9 c.1 fl (bo c) (b8 b (1024*(2+slot*c.2)) 224)).1.cM.lu (b9 c.1 fl (bo c) (b8 b (1024*(2+slot*c.2)) 224)).1.cM.len (b9 c.1 fl (bo c) (b8 b (1024*(2+slot*c.2)) 224)).1.cM.list (b9 c.1 fl (bo c) (b8 b (1024*(2+slot*c.2)) 224)).1.cM.plain;rw[e13,Le];have hb:=ny h2 (1024*(2+slot*c.2)) 224
  have hd:∀n:Int,n≤bo c→(b8 b (1024*(2+slot*c.2)+2048) n).length≤131072:=fun n hn=>by
   unfold b8;rw[List.length_take];have:=c1.1.1.2.2.2;omega
  clear Le e13;generalize b8 b (1024*(2+slot*c.2)) 224=x at*;generalize b9 c.1 fl (bo c) x=y at*;refine⟨fun _=>⟨trivial,⟨hb,by simp only;omega,h3⟩,fun c3=>⟨⟨h1,hr c1⟩,?_⟩,fun c3=>?_⟩,fun h=>absurd rfl h⟩
  ·rw[if_neg (by simpa using c3),e14 c3];obtain⟨g1,g2,g3,g4,g5,g6,g7⟩:=hf c3;have g7:CF y.1.cM:=(by rw[g1];exact g7);have g6:y.1.cM.len≤bo c:=(by rw[g1];exact g6);have hd:=hd _ g6;refine⟨fun _=>⟨by simp only;omega,fun c4=>?_,fun c4=>⟨g7,⟨by simp only;omega,by simp only;omega⟩,by rw[List.length_append];simp only;omega,?_⟩⟩,fun h=>absurd rfl h⟩
   ·simp only;rw[if_pos c4];exact(xe _ _).symm
   ·simp only;rw[if_neg (by simpa using c4)];rfl
  ·rw[if_pos c3];exact(xe _ _).symm
theorem U2:als.Ok Tryz.prog 10:=
 br mixed ((aj alo (aj D9 (aj alh (aj arD (aj arB (aj azY aw))))))) func10 (by kernel_rfl) call10 (fun x_ y_=>alq x_.1 x_.2.1 x_.2.2.1 y_.1 y_.2.1 y_.2.2.1) (fun x_ y_=>ZM x_.1 x_.2.1 x_.2.2.1 y_.1 y_.2.1 y_.2.2.1) (fun x_ y_ h=>arE x_.1 x_.2.1 x_.2.2.1 y_.1 y_.2.1 y_.2.2.1 h)
abbrev aFv:aY Ev.Item Jn:=oT 156 (cJk (u5 5 0))
abbrev jLk:aY Ev.Item Sg:=oT 106 (aq (aU 4 0) cSg)
abbrev QU:Type:=Unit
abbrev GK(x:QU):LV:=LV.cG [VV.sc (SV.fO (Value.pointer none)),VV.sc (SV.int i64 (SI.lit 1))]
abbrev GL(x:QU):List (Nat×Ev.Item):= []
abbrev QV:Type:=Int
abbrev GM(x:QV):LV:=LV.cG [VV.sc (SV.fO (Value.pointer none)),VV.sc (SV.int i64 (SI.sym x))]
abbrev GN(x:QV):List (Nat×Ev.Item):= []
abbrev QW:Type:=((Int×Int×Int×Int×List Int)×Bool×Int×Int×Int×Int×List Int×List Int)×((Int×Int)×Int×Int×Int×
 Bool×Int)×(List (Int×Int×List Int))
abbrev GO(x:QW):LV:=LV.cG [VV.sc (SV.ptr 3 0),VV.sc (SV.int i64 (SI.lit 0))]
abbrev GP(x:QW):List (Nat×Ev.Item):= [(3,jLk.wr x.1),(4,aFv.wr x.2.1),(5,Item.own 0 ((Ty.int i64).pair
 ((Ty.int i64).pair (Ty.int IntKind.u8).sl)) x.2.2)]
def xh(r:Int×Int)(f:Int×Int×Bool)(b:List Int)(er:List Int):Tr (QU⊕QV⊕QW):=(.ite (decide ¬r.snd=
 2) (.need (iS r f b er) (.ret (.inl ()))) (.ite (f.snd.snd) (.need (iS r f b er) (.ite ((5:Int)!=0) (.ret (.inr (.inl (5)))) .fail))
 (.need (iS r f b er) (.need (yr (bn b r).snd) (.ret (.inr (.inr (bE iZ (bn b r).snd,(bn b r).fst,(bn b r).snd))))))))
theorem ZN(r:Int×Int)(f:Fk)(b er:List Int):aN Tryz.prog [(93,avb),(94,au6)] [] f63 ((G7).wr (r,())) ((gS).wr (f,b,er,())) [.auto,.aE,.db 5 11 8 .u8,.bH 5 [.al,.sym,.sym,.sym,.sym,.al,.sym,.sym,.sym,.sym,.sym,.al,.rd true u8]]=(xh r f b er).end (Sum.elim GK (Sum.elim GM GO)) (Sum.elim GL (Sum.elim GN GP)) ((gS).wr (f,b,er,())):=by kernel_rfl
theorem alu(r:Int×Int)(f:Fk)(b er:List Int):aJ Tryz.prog ((gS).wr (f,b,er,())) [] (aD f63):=(aJ.nil _)
abbrev iV(r:Int×Int)(f:Fk)(b er:List Int):Prop:=jZ b er∧ax b∧xl r er
def avq:ao:=ao.cH [] (G7) (gS) fun x_ y_=>.ite ((fun(r:Int×Int) (f:Fk) (b er:List Int)=>decide (r.2≠2)) x_.1 y_.1 y_.2.1 y_.2.2.1) (.leaf (some ((fun(r:Int×Int) (f:Fk) (b er:List Int)=>iV r f b er) x_.1 y_.1 y_.2.1 y_.2.2.1)) (GK ((fun(r:Int×Int) (f:Fk) (b er:List Int)=>()) x_.1 y_.1 y_.2.1 y_.2.2.1)) (GL ((fun(r:Int×Int) (f:Fk) (b er:List Int)=>()) x_.1 y_.1 y_.2.1 y_.2.2.1))) (.ite ((fun(r:Int×Int) (f:Fk) (b er:List Int)=>f.2.2) x_.1 y_.1 y_.2.1 y_.2.2.1) (.leaf (some ((fun(r:Int×Int) (f:Fk) (b er:List Int)=>iV r f b er) x_.1 y_.1 y_.2.1 y_.2.2.1)) (GM ((fun(r:Int×Int) (f:Fk) (b er:List Int)=>5) x_.1 y_.1 y_.2.1 y_.2.2.1)) (GN ((fun(r:Int×Int) (f:Fk) (b er:List Int)=>5) x_.1 y_.1 y_.2.1 y_.2.2.1))) (.leaf (some ((fun(r:Int×Int) (f:Fk) (b er:List Int)=>iV r f b er) x_.1 y_.1 y_.2.1 y_.2.2.1)) (GO ((fun(r:Int×Int) (f:Fk) (b er:List Int)=>(bE iZ (bn b r).2,(bn b r).1,(bn b r).2)) x_.1 y_.1 y_.2.1 y_.2.2.1)) (GP ((fun(r:Int×Int) (f:Fk) (b er:List Int)=>(bE iZ (bn b r).2,(bn b r).1,(bn b r).2)) x_.1 y_.1 y_.2.1 y_.2.2.1))))
theorem GQ(r:Int×Int)(f:Fk)(b er:List Int)(h_:iV r f b er):((decide (r.2≠2))=true→(xh r f b er).Is (.inl (())))∧((decide (r.2≠2))=false→(f.2.2)=true→(xh r f b er).Is (.inr (.inl (5))))∧((decide (r.2≠2))=false→(f.2.2)=false→(xh r f b er).Is (.inr (.inr ((bE iZ (bn b r).2,(bn b r).1,(bn b r).2))))):=by
 have hp:iS r f b er:=h_;obtain⟨h1,h2,h3⟩:=h_
 by_cases c:r.2=2
 ·obtain⟨o1,o2⟩:=TB h1 h2 h3 c;have hl:yr (bn b r).2:=⟨o1,by show(bn b r).2.length<_;omega⟩
  cases c2:f.2.2 with
  |true=>simp[xh,c,c2,aA,ai,ak];exact hp
  |false=>simp[xh,c,c2,aA,ai,ak];exact⟨hp,hl⟩
 ·simp[xh,c,aA,ai,ak];exact hp
theorem arF:avq.Ok Tryz.prog 63:=by
 refine zx (tys:= []) (A:=G7) (H:=gS) (LT:=fun x_ y_=>(fun(r:Int×Int) (f:Fk) (b er:List Int)=> []) x_.1 y_.1 y_.2.1 y_.2.2.1) (ks:= [.auto,.aE,.db 5 11 8 .u8,.bH 5 [.al,.sym,.sym,.sym,.sym,.al,.sym,.sym,.sym,.sym,.sym,.al,.rd true u8]]) (V:=Sum.elim GK (Sum.elim GM GO)) (D:=Sum.elim GL (Sum.elim GN GP)) (T:=fun x_ y_=>xh x_.1 y_.1 y_.2.1 y_.2.2.1) (out:=fun x_ y_=>.ite ((fun(r:Int×Int) (f:Fk) (b er:List Int)=>decide (r.2≠2)) x_.1 y_.1 y_.2.1 y_.2.2.1) (.leaf (some ((fun(r:Int×Int) (f:Fk) (b er:List Int)=>iV r f b er) x_.1 y_.1 y_.2.1 y_.2.2.1)) (GK ((fun(r:Int×Int) (f:Fk) (b er:List Int)=>()) x_.1 y_.1 y_.2.1 y_.2.2.1)) (GL ((fun(r:Int×Int) (f:Fk) (b er:List Int)=>()) x_.1 y_.1 y_.2.1 y_.2.2.1))) (.ite ((fun(r:Int×Int) (f:Fk) (b er:List Int)=>f.2.2) x_.1 y_.1 y_.2.1 y_.2.2.1) (.leaf (some ((fun(r:Int×Int) (f:Fk) (b er:List Int)=>iV r f b er) x_.1 y_.1 y_.2.1 y_.2.2.1)) (GM ((fun(r:Int×Int) (f:Fk) (b er:List Int)=>5) x_.1 y_.1 y_.2.1 y_.2.2.1)) (GN ((fun(r:Int×Int) (f:Fk) (b er:List Int)=>5) x_.1 y_.1 y_.2.1 y_.2.2.1))) (.leaf (some ((fun(r:Int×Int) (f:Fk) (b er:List Int)=>iV r f b er) x_.1 y_.1 y_.2.1 y_.2.2.1)) (GO ((fun(r:Int×Int) (f:Fk) (b er:List Int)=>(bE iZ (bn b r).2,(bn b r).1,(bn b r).2)) x_.1 y_.1 y_.2.1 y_.2.2.1)) (GP ((fun(r:Int×Int) (f:Fk) (b er:List Int)=>(bE iZ (bn b r).2,(bn b r).1,(bn b r).2)) x_.1 y_.1 y_.2.1 y_.2.2.1))))) mixed ((aj aqT (aj aqQ aw))) func63 (by kernel_rfl) call63 (fun x_ y_=>alu x_.1 y_.1 y_.2.1 y_.2.2.1) (fun x_ y_=>ZN x_.1 y_.1 y_.2.1 y_.2.2.1) (fun x_ y_ Q_ h_=>?_)
 cases ou:(fun(r:Int×Int) (f:Fk) (b er:List Int)=>decide (r.2≠2)) x_.1 y_.1 y_.2.1 y_.2.2.1 with
 |true=>exact⟨_,(GQ x_.1 y_.1 y_.2.1 y_.2.2.1 (h_.1 ou).1).1 ou,(h_.1 ou).2⟩
 |false=>
  have yd:=h_.2 ou
  cases qh:(fun(r:Int×Int) (f:Fk) (b er:List Int)=>f.2.2) x_.1 y_.1 y_.2.1 y_.2.2.1 with
  |true=>exact⟨_,(GQ x_.1 y_.1 y_.2.1 y_.2.2.1 (yd.1 qh).1).2.1 ou qh,(yd.1 qh).2⟩
  |false=>exact⟨_,(GQ x_.1 y_.1 y_.2.1 y_.2.2.1 (yd.2 qh).1).2.2 ou qh,(yd.2 qh).2⟩
abbrev QX:Type:=Unit
abbrev GR(x:QX):LV:=LV.cG [VV.sc (SV.fO (Value.pointer none)),VV.sc (SV.int i64 (SI.lit 1))]
abbrev GS(x:QX):List (Nat×Ev.Item):= []
abbrev QY:Type:=Int
abbrev GU(x:QY):LV:=LV.cG [VV.sc (SV.fO (Value.pointer none)),VV.sc (SV.int i64 (SI.sym x))]
abbrev GV(x:QY):List (Nat×Ev.Item):= []
abbrev QZ:Type:=((Int×Int×Int×Int×List Int)×Bool×Int×Int×Int×Int×List Int×List Int)×((Int×Int)×Int×Int×Int×
 Bool×Int)×(List (Int×Int×List Int))
abbrev GW(x:QZ):LV:=LV.cG [VV.sc (SV.ptr 3 0),VV.sc (SV.int i64 (SI.lit 0))]
abbrev GX(x:QZ):List (Nat×Ev.Item):= [(3,jLk.wr x.1),(4,aFv.wr x.2.1),(5,Item.own 0 ((Ty.int i64).pair
 ((Ty.int i64).pair (Ty.int IntKind.u8).sl)) x.2.2)]
def xi(f:Int×Int×Bool)(b:List Int)(er:List Int):Tr (QX⊕QY⊕QZ):=(.ite (!decide ((1:Int)≤2∧(0:
 Int)≤0∧2≤(↑er.length:Int))) (.need (oX 0 2 f b er) (.ret (.inl ()))) (.need (oX 0 2 f b er) (.ite (decide ¬(2:Int)=2) (.need
 (iV (0,2) f b er) (.ret (.inl ()))) (.ite (f.snd.snd) (.need (iV (0,2) f b er) (.ret (.inr (.inl (5))))) (.need (iV (0,2) f b er)
 (.ret (.inr (.inr (bE iZ (bn b (0,2)).snd,(bn b (0,2)).fst,(bn b (0,2)).snd)))))))))
theorem ZO(f:Fk)(b er:List Int):aN Tryz.prog [(50,awA),(63,avq)] [] f35 (((aq (ah (aU 0 0)) ae)).wr (())) ((gS).wr (f,b,er,())) [.auto,.aE,.db 5 11 8 .u8,.bH 5 [.al,.sym,.sym,.sym,.sym,.al,.sym,.sym,.sym,.sym,.sym,.al,.rd true u8]]=(xi f b er).end (Sum.elim GR (Sum.elim GU GW)) (Sum.elim GS (Sum.elim GV GX)) ((gS).wr (f,b,er,())):=by kernel_rfl
theorem alv(f:Fk)(b er:List Int):aJ Tryz.prog ((gS).wr (f,b,er,())) [] (aD f35):=(aJ.nil _)
abbrev iX(f:Fk)(b er:List Int):Prop:=jZ b er∧ax b
def avr:ao:=ao.cH [] ((aq (ah (aU 0 0)) ae)) (gS) fun x_ y_=>.ite ((fun(f:Fk) (b er:List Int)=>decide (er.length<2)) y_.1 y_.2.1 y_.2.2.1) (.leaf (some ((fun(f:Fk) (b er:List Int)=>iX f b er) y_.1 y_.2.1 y_.2.2.1)) (GR ((fun(f:Fk) (b er:List Int)=>()) y_.1 y_.2.1 y_.2.2.1)) (GS ((fun(f:Fk) (b er:List Int)=>()) y_.1 y_.2.1 y_.2.2.1))) (.ite ((fun(f:Fk) (b er:List Int)=>f.2.2) y_.1 y_.2.1 y_.2.2.1) (.leaf (some ((fun(f:Fk) (b er:List Int)=>iX f b er) y_.1 y_.2.1 y_.2.2.1)) (GU ((fun(f:Fk) (b er:List Int)=>5) y_.1 y_.2.1 y_.2.2.1)) (GV ((fun(f:Fk) (b er:List Int)=>5) y_.1 y_.2.1 y_.2.2.1))) (.leaf (some ((fun(f:Fk) (b er:List Int)=>iX f b er) y_.1 y_.2.1 y_.2.2.1)) (GW ((fun(f:Fk) (b er:List Int)=>(fZ b,(bn b (0,2)).1,(bn b (0,2)).2)) y_.1 y_.2.1 y_.2.2.1)) (GX ((fun(f:Fk) (b er:List Int)=>(fZ b,(bn b (0,2)).1,(bn b (0,2)).2)) y_.1 y_.2.1 y_.2.2.1))))
theorem GY(f:Fk)(b er:List Int)(h_:iX f b er):((decide (er.length<2))=true→(xi f b er).Is (.inl (())))∧((decide (er.length<2))=false→(f.2.2)=true→(xi f b er).Is (.inr (.inl (5))))∧((decide (er.length<2))=false→(f.2.2)=false→(xi f b er).Is (.inr (.inr ((fZ b,(bn b (0,2)).1,(bn b (0,2)).2))))):=by
 obtain⟨h1,h2⟩:=h_;have hp:2≤er.length→iV (0,2) f b er:=fun h=>⟨h1,h2,by decide,by decide,by simp only;omega⟩
 by_cases c:er.length<2
 ·have c':¬ (2:Int)≤er.length:=by omega
  simp[xi,c,c',aA,ai,ak];exact h1
 ·have c':(2:Int)≤er.length:=by omega
  cases c2:f.2.2 with
  |true=>simp only[xi,c',c2,aA,ai,ak];simp;exact⟨by omega,fun _=>⟨h1,(hp (by omega)).2⟩⟩
  |false=>simp only[xi,c',c2,aA,ai,ak];simp;exact⟨by omega,fun _=>⟨h1,hp (by omega),rfl⟩⟩
theorem arG:avr.Ok Tryz.prog 35:=by
 refine zx (tys:= []) (A:=(aq (ah (aU 0 0)) ae)) (H:=gS) (LT:=fun x_ y_=>(fun(f:Fk) (b er:List Int)=> []) y_.1 y_.2.1 y_.2.2.1) (ks:= [.auto,.aE,.db 5 11 8 .u8,.bH 5 [.al,.sym,.sym,.sym,.sym,.al,.sym,.sym,.sym,.sym,.sym,.al,.rd true u8]]) (V:=Sum.elim GR (Sum.elim GU GW)) (D:=Sum.elim GS (Sum.elim GV GX)) (T:=fun x_ y_=>xi y_.1 y_.2.1 y_.2.2.1) (out:=fun x_ y_=>.ite ((fun(f:Fk) (b er:List Int)=>decide (er.length<2)) y_.1 y_.2.1 y_.2.2.1) (.leaf (some ((fun(f:Fk) (b er:List Int)=>iX f b er) y_.1 y_.2.1 y_.2.2.1)) (GR ((fun(f:Fk) (b er:List Int)=>()) y_.1 y_.2.1 y_.2.2.1)) (GS ((fun(f:Fk) (b er:List Int)=>()) y_.1 y_.2.1 y_.2.2.1))) (.ite ((fun(f:Fk) (b er:List Int)=>f.2.2) y_.1 y_.2.1 y_.2.2.1) (.leaf (some ((fun(f:Fk) (b er:List Int)=>iX f b er) y_.1 y_.2.1 y_.2.2.1)) (GU ((fun(f:Fk) (b er:List Int)=>5) y_.1 y_.2.1 y_.2.2.1)) (GV ((fun(f:Fk) (b er:List Int)=>5) y_.1 y_.2.1 y_.2.2.1))) (.leaf (some ((fun(f:Fk) (b er:List Int)=>iX f b er) y_.1 y_.2.1 y_.2.2.1)) (GW ((fun(f:Fk) (b er:List Int)=>(fZ b,(bn b (0,2)).1,(bn b (0,2)).2)) y_.1 y_.2.1 y_.2.2.1)) (GX ((fun(f:Fk) (b er:List Int)=>(fZ b,(bn b (0,2)).1,(bn b (0,2)).2)) y_.1 y_.2.1 y_.2.2.1))))) mixed ((aj acF (aj arF aw))) func35 (by kernel_rfl) call35 (fun x_ y_=>alv y_.1 y_.2.1 y_.2.2.1) (fun x_ y_=>ZO y_.1 y_.2.1 y_.2.2.1) (fun x_ y_ Q_ h_=>?_)
 cases ou:(fun(f:Fk) (b er:List Int)=>decide (er.length<2)) y_.1 y_.2.1 y_.2.2.1 with
 |true=>exact⟨_,(GY y_.1 y_.2.1 y_.2.2.1 (h_.1 ou).1).1 ou,(h_.1 ou).2⟩
 |false=>
  have yd:=h_.2 ou
  cases qh:(fun(f:Fk) (b er:List Int)=>f.2.2) y_.1 y_.2.1 y_.2.2.1 with
  |true=>exact⟨_,(GY y_.1 y_.2.1 y_.2.2.1 (yd.1 qh).1).2.1 ou qh,(yd.1 qh).2⟩
  |false=>exact⟨_,(GY y_.1 y_.2.1 y_.2.2.1 (yd.2 qh).1).2.2 ou qh,(yd.2 qh).2⟩
def GZ(c:List (List Int)×Int)(f:Int×Int×Bool)(b:List Int)(er:List Int):rr×List Int×Int:=qY (0,
 f.snd.snd,false,0) b er c ((i64.wrap ((fZ b).fst.fst+1)).tmod 2) (fZ b).fst.snd.snd.fst
def G0(c:List (List Int)×Int)(f:Int×Int×Bool)(b:List Int)(er:List Int):rr×List Int×Int:=qY (0,
 f.snd.snd,false,0) b er c ((i64.wrap ((fZ b).fst.fst+0)).tmod 2) (fZ b).fst.snd.snd.fst
def Q0(f:Int×Int×Bool)(b:List Int)(er:List Int):Bool:=decide (0≤(fZ b).fst.fst)
abbrev U3:Type:=Int×(List Int)×Int
abbrev avs(x:U3):LV:=LV.cG [VV.sc (SV.int i64 (SI.sym x.1)),VV.agg [SV.arr (Ty.int IntKind.u8) 64 x.2.1],VV.sc
 (SV.int i64 (SI.sym x.2.2))]
abbrev avt(x:U3):List (Nat×Ev.Item):= []
def alw(c:List (List Int)×Int)(f:Int×Int×Bool)(b:List Int)(er:List Int):Tr (U3):=(.need (pM c f b er)
 (.ite (!decide ((1≤c.fst.length∧c.fst.length≤8∧3≤c.snd∧c.snd≤100)∧(2:Int)+2*c.snd≤(↑er.length:Int))) (.ret ((-1),
 List.replicate 64 (0:Int),1)) (.ite (decide (er.length<2)) (.need (iX f b er) (.ret ((-1),List.replicate 64 (0:Int),1))) (.ite
 (f.snd.snd) (.need (iX f b er) (.ite ((5:Int)!=0) (.ret ((-1),List.replicate 64 (0:Int),5)) .fail)) (.need (iX f b er) (.ite (Q0
 f b er) (.need (qM c ((i64.wrap ((fZ b).fst.fst+0)).tmod 2) (fZ b).fst.snd.snd.fst f b er) (.ite ((G0 c f b er).snd.snd==0)
 (.ret ((i64.wrap ((fZ b).fst.fst+0)).tmod 2,(G0 c f b er).snd.fst,0)) (.ite (Q0 f b er) (.need (qM c ((i64.wrap
 ((fZ b).fst.fst+1)).tmod 2) (fZ b).fst.snd.snd.fst f b er) (.ite ((GZ c f b er).snd.snd==0) (.ret ((i64.wrap ((fZ b).fst.fst+
 1)).tmod 2,(GZ c f b er).snd.fst,0)) (.ret ((-1),List.replicate 64 (0:Int),13)))) (.ret ((-1),List.replicate 64 (0:Int),13))))) (.ret
 ((-1),List.replicate 64 (0:Int),13))))))))
theorem ZP(c:List (List Int)×Int)(f:Fk)(b er:List Int):aN Tryz.prog [(34,QQ),(35,avr),(10,als)] [] f13 ((Bf).wr (c,())) ((gS).wr (f,b,er,())) [.fr [.sym],.syms,.auto,.aE]=(alw c f b er).end avs avt ((gS).wr (f,b,er,())):=by kernel_rfl
theorem alx(c:List (List Int)×Int)(f:Fk)(b er:List Int):aJ Tryz.prog ((gS).wr (f,b,er,())) [] (aD f13):=(aJ.nil _)
abbrev yD(c:List (List Int)×Int)(f:Fk)(b er:List Int):Prop:=jZ b er∧ax b∧xg c.1
abbrev aly(c:List (List Int)×Int)(f:Fk)(b er:List Int):U3:=uQ (flO f.2.2) b er c
def avu:ao:=cd [none,some (.arr u8 32)] (Bf) (gS) (fun x_ y_=>yD x_.1 y_.1 y_.2.1 y_.2.2.1) (fun x_ y_=>aly x_.1 y_.1 y_.2.1 y_.2.2.1) avs avt
theorem arH(c:List (List Int)×Int)(f:Fk)(b er:List Int)(h_:yD c f b er):(alw c f b er).Is (aly c f b er):=by
 delta aly;obtain⟨h1,h2,h3⟩:=h_;have hs: -1≤(fZ b).1.1∧(fZ b).1.1≤1:=(tR (bn b (0,2)).2 OJ).slot;have hk:∀s g,qM c s g f b er:=fun _ _=>⟨h1,h2,h3⟩;have hf:pM c f b er:=h1;have hl:iX f b er:=⟨h1,h2⟩;simp only[alw,ai,bb,ay,aK,aG,ak,Q0];simp only[aA,decide_eq_true_eq,decide_eq_false_iff_not];refine⟨hf,fun c1=>?_,fun c1=>⟨fun c2=>absurd c2 (by omega),fun _=>⟨fun c3=>⟨hl,fun _=>?_,fun h=>absurd h (by decide)⟩,fun c3=>⟨hl,fun c4=>⟨hk _ _,?_⟩,fun c4=>?_⟩⟩⟩⟩
 ·rw[uQ,gg,if_pos c1];rfl
 ·have e:gg (flO f.2.2) b er c=(xp,5):=by rw[gg,if_neg (fun h=>h c1),if_pos c3]
  rw[uQ,e,if_pos (by decide)];rfl
 ·have k4:0≤(fZ b).1.1:=of_decide_eq_true c4;have e:gg (flO f.2.2) b er c=((fZ b).1,0):=by rw[gg,if_neg (fun h=>h c1),if_neg (by rw[c3];decide)]
  rw[uQ,e,if_neg (fun h=>h rfl),if_neg (by simp only;omega)]
  have w0:(i64.wrap ((fZ b).1.1+0)).tmod 2=(fZ b).1.1:=by
   rw[ar (by omega) (by omega)];rcases(by omega:(fZ b).1.1=0∨(fZ b).1.1=1)with h|h<;>rw[h]<;>rfl
  have w1:(i64.wrap ((fZ b).1.1+1)).tmod 2=1-(fZ b).1.1:=by
   rw[ar (by omega) (by omega)];rcases(by omega:(fZ b).1.1=0∨(fZ b).1.1=1)with h|h<;>rw[h]<;>rfl
  have e0:G0 c f b er=qY (flO f.2.2) b er c (fZ b).1.1 (fZ b).1.2.2.1:=by unfold G0;rw[w0]
  have e1:GZ c f b er=qY (flO f.2.2) b er c (1-(fZ b).1.1) (fZ b).1.2.2.1:=by unfold GZ;rw[w1]
  rw[e0,e1,w0,w1];simp only[xu];refine⟨fun c5=>?_,fun c5=>⟨fun _=>⟨hk _ _,fun c6=>?_,fun c6=>?_⟩,fun h=>by rw[c4]at h;cases h⟩⟩
  ·rw[if_pos (eq_of_beq c5)];rfl
  ·rw[if_neg (ne_of_beq_false c5),if_pos (eq_of_beq c6)];rfl
  ·rw[if_neg (ne_of_beq_false c5),if_neg (ne_of_beq_false c6)];rfl
 ·have k4:¬ 0≤(fZ b).1.1:=of_decide_eq_false c4;have e:gg (flO f.2.2) b er c=((fZ b).1,0):=by rw[gg,if_neg (fun h=>h c1),if_neg (by rw[c3];decide)]
  rw[uQ,e,if_neg (fun h=>h rfl),if_pos (by simp only;omega)];rfl
theorem arI:avu.Ok Tryz.prog 13:=
 br mixed ((aj L1 (aj arG (aj U2 aw)))) func13 (by kernel_rfl) call13 (fun x_ y_=>alx x_.1 y_.1 y_.2.1 y_.2.2.1) (fun x_ y_=>ZP x_.1 y_.1 y_.2.1 y_.2.2.1) (fun x_ y_ h=>arH x_.1 y_.1 y_.2.1 y_.2.2.1 h)
abbrev G1:Type:=Int
abbrev alz(x:G1):LV:=LV.one (VV.sc (SV.int i64 (SI.sym x)))
abbrev alA(x:G1):List (Nat×Ev.Item):= []
def alB(e:Int):Tr (G1):=(.ret (e))
theorem Q1(e:Int):aN Tryz.prog [] [] f11 ((G6).wr (e,())) ((ae).wr (())) [.fr [.sym],.syms,.auto,.aE]=(alB e).end alz alA ((ae).wr (())):=by kernel_rfl
theorem ZQ(e:Int):aJ Tryz.prog ((ae).wr (())) [] (aD f11):=(aJ.nil _)
abbrev nd(e:Int):Prop:=True
abbrev Q2(e:Int):G1:=e
def Q3:ao:=cd [] (G6) (ae) (fun x_ y_=>nd x_.1) (fun x_ y_=>Q2 x_.1) alz alA
theorem alC(e:Int)(h_:nd e):(alB e).Is (Q2 e):=by
 delta Q2;exact rfl
theorem L2:Q3.Ok Tryz.prog 11:=
 br mixed aw func11 (by kernel_rfl) call11 (fun x_ y_=>ZQ x_.1) (fun x_ y_=>Q1 x_.1) (fun x_ y_ h=>alC x_.1 h)
abbrev uZ:Type:=Bool
abbrev L3(x:uZ):LV:=LV.one (VV.sc (SV.bool (SB.sym x)))
abbrev L4(x:uZ):List (Nat×Ev.Item):= []
def AX:Tr (uZ):=(.need (DB 8) (.need (uR ([[1,0,0,0,0,0,0,0,0,0,0,0,0,0,0,0,0,0,0,0,0,0,0,
 0,0,0,0,0,0,0,0,0]],3) (0,false,false,0) (List.replicate 8192 (255:Int)) (List.replicate 8 (0:Int))) (.ite (((-1:Int)==(-1))==
 true) (.need (nd 13) (.ret ((13:Int)==13))) (.ret (false)))))
theorem G2:aN Tryz.prog [(5,awr),(12,ajZ),(11,Q3)] [] Tryz.f4 ((ae).wr (())) ((ae).wr (())) [.fr [.sym],.syms,.auto,.aE]=(AX).end L3 L4 ((ae).wr (())):=by kernel_rfl
theorem L5:aJ Tryz.prog ((ae).wr (())) [] (aD Tryz.f4):=(aJ.nil _)
abbrev sx:Prop:=True
abbrev AY:uZ:=true
def L6:ao:=cd [] (ae) (ae) (fun _ _=>sx) (fun _ _=>AY) L3 L4
theorem Q4(h_:sx):(AX).Is (AY):=by
 delta AY;have h1:jZ (List.replicate 8192 255) (List.replicate 8 0):=⟨by simp,by simp,by simp⟩;have h2:ax (List.replicate 8192 255):=ax.rep 8192 ⟨by decide,by decide⟩
 have h3:F6 [[1,0,0,0,0,0,0,0,0,0,0,0,0,0,0,0,0,0,0,0,0,0,0,0,0,0,0,0,0,0,0,0]]:=fun k hk=>by
  have hk:k<1:=hk;obtain rfl:k=0:=by omega
  rfl
 simp only[AX,ai,aA,ak];exact⟨trivial,⟨h1,h2,h3⟩,fun _=>⟨trivial,rfl⟩,fun h=>by cases h⟩
theorem Q5:L6.Ok Tryz.prog 4:=
 br mixed ((aj abd (aj Ux (aj L2 aw)))) func4 (by kernel_rfl) call4 (fun x_ y_=>L5) (fun x_ y_=>G2) (fun x_ y_ h=>Q4 h)
abbrev az2:aY (List LV) ((List (List Int)×Int)×Int×Int×Int×Int×List Int×List Int×Unit):=(ag (iD ZZ) (ag (ah (aC .i64)) (ag (ah (aC .i64)) (ag (ah (aC .u64)) (ag (ah (aC .i64)) (ag (ah (fR false false u8)) (ag (ah (fR false false u8)) ae)))))))
def AZ(c:List (List Int)×Int)(sec:Int)(slot:Int)(fl:Int)(at_:Int)(x:List Int)(lg:List Int):Int×List Int:=
 if 0≤at_∧0≤(↑x.length:Int)∧at_+(↑x.length:Int)≤(↑(List.replicate (1024*eu sec).toNat (255:Int)).length:Int)then(0,nz
 (List.replicate (1024*eu sec).toNat (255:Int)) at_ x)else(2,List.replicate (1024*eu sec).toNat (255:Int))
def A0(c:List (List Int)×Int)(sec:Int)(slot:Int)(fl:Int)(at_:Int)(x:List Int)(lg:List Int):Int×List Int:=
 if 0≤at_∧0≤(↑x.length:Int)∧at_+(↑x.length:Int)≤(↑(List.replicate (1024*eu sec).toNat (255:Int)).length:Int)then(0,nz
 (List.replicate (1024*eu sec).toNat (255:Int)) at_ x)else(2,List.replicate (1024*eu sec).toNat (255:Int))
def wE(c:List (List Int)×Int)(sec:Int)(slot:Int)(fl:Int)(at_:Int)(x:List Int)(lg:List Int):Int×List Int:=
 if(0:Int)≤0∧0≤(↑lg.length:Int)∧0+(↑lg.length:Int)≤(↑(AZ c sec slot fl at_ x lg).snd.length:Int)then(0,nz (AZ c sec
 slot fl at_ x lg).snd 0 lg)else(2,(AZ c sec slot fl at_ x lg).snd)
def A1(c:List (List Int)×Int)(sec:Int)(slot:Int)(fl:Int)(at_:Int)(x:List Int)(lg:List Int):Int×List Int×
 Int:=uQ (0,false,false,0) (wE c sec slot fl at_ x lg).snd (List.replicate (eu sec).toNat (0:Int)) c
def km(c:List (List Int)×Int)(sec:Int)(slot:Int)(fl:Int)(at_:Int)(x:List Int)(lg:List Int):rr×List Int×
 Int:=qY (0,false,false,0) (wE c sec slot fl at_ x lg).snd (List.replicate (eu sec).toNat (0:Int)) c slot fl
def wF(c:List (List Int)×Int)(sec:Int)(slot:Int)(fl:Int)(at_:Int)(x:List Int)(lg:List Int):Int×List Int:=
 if(0:Int)≤0∧0≤(↑lg.length:Int)∧0+(↑lg.length:Int)≤(↑(A0 c sec slot fl at_ x lg).snd.length:Int)then(0,nz (A0 c sec
 slot fl at_ x lg).snd 0 lg)else(2,(A0 c sec slot fl at_ x lg).snd)
def sy(c:List (List Int)×Int)(sec:Int)(slot:Int)(fl:Int)(at_:Int)(x:List Int)(lg:List Int):Int×List Int×
 Int:=uQ (0,false,false,0) (wF c sec slot fl at_ x lg).snd (List.replicate (eu sec).toNat (0:Int)) c
def iY(c:List (List Int)×Int)(sec:Int)(slot:Int)(fl:Int)(at_:Int)(x:List Int)(lg:List Int):rr×List Int×
 Int:=qY (0,false,false,0) (wF c sec slot fl at_ x lg).snd (List.replicate (eu sec).toNat (0:Int)) c slot fl
abbrev arJ:Type:=Bool
abbrev aFw(x:arJ):LV:=LV.one (VV.sc (SV.bool (SB.sym x)))
abbrev aFx(x:arJ):List (Nat×Ev.Item):= []
def az3(c:List (List Int)×Int)(sec:Int)(slot:Int)(fl:Int)(at_:Int)(x:List Int)(lg:List Int):Tr (arJ):=(.need
 (sx) (.ite ((!true)==false) (.ite (decide (12<sec)==false) (.ite (decide (8<(↑c.fst.length:Int))==false) (.ite (decide (2500<
 (↑x.length:Int))==false) (.ite (decide (1024<(↑lg.length:Int))) (.ret (true)) (.need (DB sec) (.need (Ns sec) (.need (x.length*1≤
 70368744177664∧x.length≤70368744177664) (.need (xF at_ x (0,false,false,0) (List.replicate (1024*eu sec).toNat (255:Int))
 (List.replicate (eu sec).toNat (0:Int))) (.need (xS at_ x (0,(-1),false) (List.replicate (1024*eu sec).toNat (255:Int))
 (List.replicate (eu sec).toNat (0:Int))) (.need (lg.length*1≤70368744177664∧lg.length≤70368744177664) (.need (xF 0 lg (0,false,
 false,0) (A0 c sec slot fl at_ x lg).snd (List.replicate (eu sec).toNat (0:Int))) (.need (xS 0 lg (0,(-1),false) (AZ c sec slot fl
 at_ x lg).snd (List.replicate (eu sec).toNat (0:Int))) (.need (uP c slot fl (0,false,false,0) (wF c sec slot fl at_ x lg).snd
 (List.replicate (eu sec).toNat (0:Int))) (.need (qM c slot fl (0,(-1),false) (wE c sec slot fl at_ x lg).snd (List.replicate (eu
 sec).toNat (0:Int))) (.ite ((!((iY c sec slot fl at_ x lg).fst.key==(km c sec slot fl at_ x lg).fst.key&&((iY c sec slot fl at_ x
 lg).fst.blocks==(km c sec slot fl at_ x lg).fst.blocks&&true)&&((iY c sec slot fl at_ x lg).fst.cM.ver==(km c sec slot fl at_ x
 lg).fst.cM.ver&&((iY c sec slot fl at_ x lg).fst.cM.lu==(km c sec slot fl at_ x lg).fst.cM.lu&&((iY c sec slot fl at_ x
 lg).fst.cM.len==(km c sec slot fl at_ x lg).fst.cM.len&&(decide ((iY c sec slot fl at_ x lg).fst.cM.list=(km c sec slot fl at_ x
 lg).fst.cM.list)&&(decide ((iY c sec slot fl at_ x lg).fst.cM.plain=(km c sec slot fl at_ x lg).fst.cM.plain)&&true))))&&(decide
 ((iY c sec slot fl at_ x lg).fst.sign=(km c sec slot fl at_ x lg).fst.sign)&&true))))==false) (.ite ((!decide ((iY c sec slot fl at_
 x lg).snd.fst=(km c sec slot fl at_ x lg).snd.fst))==false) (.need (nd (iY c sec slot fl at_ x lg).snd.snd) (.ite ((iY c sec slot
 fl at_ x lg).snd.snd !=(km c sec slot fl at_ x lg).snd.snd) (.ret (false)) (.need (uR c (0,false,false,0) (wF c sec slot fl at_ x
 lg).snd (List.replicate (eu sec).toNat (0:Int))) (.need (yD c (0,(-1),false) (wE c sec slot fl at_ x lg).snd (List.replicate (eu
 sec).toNat (0:Int))) (.ite (((sy c sec slot fl at_ x lg).fst==(A1 c sec slot fl at_ x lg).fst)==true) (.ite (decide ((sy c sec slot
 fl at_ x lg).snd.fst=(A1 c sec slot fl at_ x lg).snd.fst)==true) (.need (nd (sy c sec slot fl at_ x lg).snd.snd) (.ret ((sy c sec
 slot fl at_ x lg).snd.snd==(A1 c sec slot fl at_ x lg).snd.snd))) (.ret (false))) (.ret (false))))))) (.ret (false))) (.ret (false))))))))))))))
 (.ret (true))) (.ret (true))) (.ret (true))) (.ret (true))))
theorem alD(c:List (List Int)×Int)(sec slot fl at_:Int)(x lg:List Int):aN Tryz.prog [(4,L6),(5,awr),(6,aBV),(7,ar8),(8,ast),(9,Ut),(10,als),(12,ajZ),(13,avu),(11,Q3)] [] Tryz.f3 ((az2).wr (c,sec,slot,fl,at_,x,lg,())) ((ae).wr (())) [.fr [.sym],.syms,.auto,.aE]=(az3 c sec slot fl at_ x lg).end aFw aFx ((ae).wr (())):=by kernel_rfl
theorem arK(c:List (List Int)×Int)(sec slot fl at_:Int)(x lg:List Int):aJ Tryz.prog ((ae).wr (())) [] (aD Tryz.f3):=(aJ.nil _)
def u0(b:List Int)(p:Int)(x:List Int):List Int:=if ti b p x.length then nz b p x else b
theorem G3{b x:List Int}{p:Int}:(if ti b p x.length then((0:Int),nz b p x)else(2,b)).2=u0 b p x:=by
 unfold u0;split<;>rfl
theorem alE{b er x:List Int}{p:Int}(h:jZ b er)(hb:ax b)(hx:ax x):jZ (u0 b p x) er∧ax (u0 b p x):=by
 unfold u0
 split
 ·rename_i c;obtain⟨h1,h2,h3⟩:=h;refine⟨⟨?_,h2,h3⟩,(hb.take _).append (hx.append (hb.drop _))⟩;unfold nz;rw[List.length_append,List.length_append,List.length_take,List.length_drop];omega
 ·exact⟨h,hb⟩
abbrev alF(c:List (List Int)×Int)(sec slot fl at_:Int)(x lg:List Int):Prop:=xg c.1∧ax x∧ax lg
abbrev az4(c:List (List Int)×Int)(sec slot fl at_:Int)(x lg:List Int):arJ:=true
def aIU:ao:=cd [] (az2) (ae) (fun x_ y_=>alF x_.1 x_.2.1 x_.2.2.1 x_.2.2.2.1 x_.2.2.2.2.1 x_.2.2.2.2.2.1 x_.2.2.2.2.2.2.1) (fun x_ y_=>az4 x_.1 x_.2.1 x_.2.2.1 x_.2.2.2.1 x_.2.2.2.2.1 x_.2.2.2.2.2.1 x_.2.2.2.2.2.2.1) aFw aFx
theorem az5(c:List (List Int)×Int)(sec slot fl at_:Int)(x lg:List Int)(h_:alF c sec slot fl at_ x lg):(az3 c sec slot fl at_ x lg).Is (az4 c sec slot fl at_ x lg):=by
 delta az4;obtain⟨h1,h2,h3⟩:=h_;have hn:1≤eu sec∧eu sec≤256:=by unfold eu;split<;>(try split)<;>omega
 have f0:jZ (List.replicate (1024*eu sec).toNat 255) (List.replicate (eu sec).toNat 0):=⟨by rw[List.length_replicate,List.length_replicate];omega,by rw[List.length_replicate];omega,by rw[List.length_replicate];omega⟩;have b0:ax (List.replicate (1024*eu sec).toNat 255):=ax.rep _ ⟨by decide,by decide⟩;have hk:=arA h1;have e22:(AZ c sec slot fl at_ x lg).2=u0 (List.replicate (1024*eu sec).toNat 255) at_ x:=G3;have e23:(A0 c sec slot fl at_ x lg).2=u0 (List.replicate (1024*eu sec).toNat 255) at_ x:=G3;have e24:(wE c sec slot fl at_ x lg).2=u0 (u0 (List.replicate (1024*eu sec).toNat 255) at_ x) 0 lg:=by unfold wE;rw[e22];exact G3
 have e27:(wF c sec slot fl at_ x lg).2=u0 (u0 (List.replicate (1024*eu sec).toNat 255) at_ x) 0 lg:=by unfold wF;rw[e23];exact G3
 have e25:A1 c sec slot fl at_ x lg=sy c sec slot fl at_ x lg:=by unfold A1 sy;rw[e24,e27]
 have e26:km c sec slot fl at_ x lg=iY c sec slot fl at_ x lg:=by unfold km iY;rw[e24,e27]
 obtain⟨f1,b1⟩:=alE (p:=at_) f0 b0 h2;obtain⟨f2,b2⟩:=alE (p:=0) f1 b1 h3;unfold az3;rw[e22,e23,e24,e27,e25,e26];have l0:(List.replicate (1024*eu sec).toNat (255:Int)).length<1099511627776:=by rw[List.length_replicate];omega
 generalize sy c sec slot fl at_ x lg=r;generalize iY c sec slot fl at_ x lg=q;generalize List.replicate (1024*eu sec).toNat (255:Int)=b at*;have l1:(u0 b at_ x).length<1099511627776:=by have:=f1.1;have:=f1.2.2;omega
 generalize u0 b at_ x=y at*;generalize u0 y 0 lg=z at*;generalize List.replicate (eu sec).toNat (0:Int)=er at*;simp only[beq_self_eq_true,Bool.and_true,decide_true,Bool.not_true,bne_self_eq_false,ai,aA,ak];simp only[decide_eq_true_eq,decide_eq_false_iff_not,beq_iff_eq,beq_eq_false_iff_ne];have hb:uR c (0,false,false,0) z er:=⟨f2,b2,hk⟩;have hc:yD c (0,-1,false) z er:=⟨f2,b2,h1⟩;have hn:∀e,nd e:=fun _=>trivial;refine⟨trivial,fun _=>⟨fun c1=>⟨fun c2=>⟨fun c3=>⟨fun c4=>trivial,fun c4=>⟨trivial,trivial,⟨by omega,by omega⟩,⟨l0,by omega⟩,⟨l0,by omega⟩,⟨by omega,by omega⟩,⟨l1,by omega⟩,⟨l1,by omega⟩,⟨f2,b2,hk⟩,⟨f2,b2,h1⟩,?_⟩⟩,?_⟩,?_⟩,?_⟩,?_⟩
 ·exact⟨fun _=>⟨fun _=>⟨hn _,fun h=>h,fun _=>⟨hb,hc,fun _=>⟨fun _=>⟨hn _,trivial⟩,fun h=>by cases h⟩,fun h=>by cases h⟩⟩,fun h=>by cases h⟩,fun h=>by cases h⟩
 all_goals simp
theorem az6:aIU.Ok Tryz.prog 3:=
 br mixed ((aj Q5 (aj abd (aj awx (aj amM (aj amZ (aj Ga (aj U2 (aj Ux (aj arI (aj L2 aw))))))))))) func3 (by kernel_rfl) call3 (fun x_ y_=>arK x_.1 x_.2.1 x_.2.2.1 x_.2.2.2.1 x_.2.2.2.2.1 x_.2.2.2.2.2.1 x_.2.2.2.2.2.2.1) (fun x_ y_=>alD x_.1 x_.2.1 x_.2.2.1 x_.2.2.2.1 x_.2.2.2.2.1 x_.2.2.2.2.2.1 x_.2.2.2.2.2.2.1) (fun x_ y_ h=>az5 x_.1 x_.2.1 x_.2.2.1 x_.2.2.2.1 x_.2.2.2.2.1 x_.2.2.2.2.2.1 x_.2.2.2.2.2.2.1 h)
end Go.Proofs.YtcbjpiangpjbgaaGreat
end
