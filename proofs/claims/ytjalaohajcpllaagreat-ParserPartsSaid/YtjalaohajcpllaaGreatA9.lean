/- What the laws lean on, part 9: a reader of code, plain facts, and what each function gives; no conditions. -/
import Derived.WalkKit
import Derived.Lib.Walk
import Derived.Lib.SliceRun
import Derived.Lib.AppendZerosOnto
import Derived.Test.YtjalaohajcpllaaGreatA8
section
set_option linter.unusedVariables false
set_option linter.unusedSimpArgs false
namespace Go.Proofs.YtjalaohajcpllaaGreat
open Go Go.Ev
set_option maxRecDepth 1000000
structure RH where
 cs:List Int
 bh:Int
 part:Int
 node:Int
 t:cj
abbrev cRH (a b c:Nat):ba (List SV) RH:=(ae (wY (.int .i64) 2) (ae (ax .i64) (aj (aP a 0) (aj (aP b 0) (aj (aP c 0) (ae (ax .i64) (ae (ax .i64) (ae (ax .i64) (ae (ax .i64) (ae (ax .u8) ag)))))))))).qk
 (fun x=>⟨x.1,x.2.1,x.2.2.1,x.2.2.2.1,(x.2.2.2.2.1,x.2.2.2.2.2.1,x.2.2.2.2.2.2.1)⟩) (fun y=>(y.cs,y.bh,y.part,y.node,y.t.1,y.t.2.1,y.t.2.2,())) (fun _=>rfl)
abbrev jRd:ba Ev.Item RH:=Bq 179 (cRH 1 3 5)
abbrev LP:ba Hp (RH×List Int×List Int×List Int×Unit):=
 ae (dt jRd) (aj (dt jT2) (ae (eE 0 (.int .u16)) (aj (dt jT4) (ae (eE 0 (.int .u16)) (aj (dt jT6) (ae (eE 0 (.int .u16)) ag))))))
abbrev Bs:ba Hp (RH×List Int×List Int×List Int×Dc×Unit):=
 ae (dt jRd) (aj (dt jT2) (ae (eE 0 (.int .u16)) (aj (dt jT4) (ae (eE 0 (.int .u16)) (aj (dt jT6) (ae (eE 0 (.int .u16)) (ae (dt Lr) ag)))))))
def nk (part:Int):Int:=if part=0 then 1 else if part=1∨part=2 then 8 else 6
def fK (r:RH) (v:Int):Bool×RH:=
 if r.part=0 then (false,⟨r.cs,v,if v=1 then 2 else 1,r.node,(0,0,0)⟩)
 else if r.part=1 then (true,⟨r.cs,r.bh,0,r.node,(r.t.1,r.t.2.1,v)⟩)
 else if r.part=2 then (false,⟨r.cs,r.bh,3,r.node,(v+2,r.t.2)⟩)
 else if r.part=3 then (false,⟨r.cs,r.bh,4,r.node,(r.t.1,v*64,r.t.2.2)⟩)
 else (true,⟨r.cs,r.bh,0,r.node,(r.t.1,r.t.2.1+(v+1),r.t.2.2)⟩)
abbrev zd:Type:=Unit
noncomputable abbrev sZ (x:zd):LV:=LV.one (VV.sc (SV.ptr 1 0))
noncomputable abbrev s7 (x:zd):List (Nat×Ev.Item):= []
abbrev ze:Type:=Unit
noncomputable abbrev s8 (x:ze):LV:=LV.one (VV.sc (SV.ptr 3 0))
noncomputable abbrev s9 (x:ze):List (Nat×Ev.Item):= []
abbrev zf:Type:=Unit
noncomputable abbrev td (x:zf):LV:=LV.one (VV.sc (SV.ptr 5 0))
noncomputable abbrev te (x:zf):List (Nat×Ev.Item):= []
noncomputable def pE (r:RH) (p1:List Int) (p2:List Int) (p3:List Int):Tr (zd⊕ze⊕zf):=(.ite (r.part==1) (.ret
 (.inl ())) (.ite (r.part==2) (.ret (.inr (.inl ()))) (.ret (.inr (.inr ())))))
theorem HR (r:RH) (p1:List Int) (p2:List Int) (p3:List Int):aS Tryz.prog [] [] Tryz.f152 ((gG).wr (())) ((LP).wr (r,p1,p2,p3,())) [.fr [.sym],.syms,.auto,.aD]=(pE r p1 p2 p3).end (Sum.elim sZ (Sum.elim s8 td)) (Sum.elim s7 (Sum.elim s9 te)) ((LP).wr (r,p1,p2,p3,())):=by kernel_rfl
theorem LQ (r:RH) (p1:List Int) (p2:List Int) (p3:List Int):aQ Tryz.prog ((LP).wr (r,p1,p2,p3,())) [] (aJ Tryz.f152):=(aQ.nil _)
abbrev fb (r:RH) (p1:List Int) (p2:List Int) (p3:List Int):Prop:=True
noncomputable def O7:ao:=ao.bS [] (gG) (LP) fun x_ y_=> .ite ((fun (r:RH) (p1:List Int) (p2:List Int) (p3:List Int)=>decide (r.part=1)) y_.1 y_.2.1 y_.2.2.1 y_.2.2.2.1) (.leaf (some ((fun (r:RH) (p1:List Int) (p2:List Int) (p3:List Int)=>fb r p1 p2 p3) y_.1 y_.2.1 y_.2.2.1 y_.2.2.2.1)) (sZ ((fun (r:RH) (p1:List Int) (p2:List Int) (p3:List Int)=>()) y_.1 y_.2.1 y_.2.2.1 y_.2.2.2.1)) (s7 ((fun (r:RH) (p1:List Int) (p2:List Int) (p3:List Int)=>()) y_.1 y_.2.1 y_.2.2.1 y_.2.2.2.1))) (.ite ((fun (r:RH) (p1:List Int) (p2:List Int) (p3:List Int)=>decide (r.part=2)) y_.1 y_.2.1 y_.2.2.1 y_.2.2.2.1) (.leaf (some ((fun (r:RH) (p1:List Int) (p2:List Int) (p3:List Int)=>fb r p1 p2 p3) y_.1 y_.2.1 y_.2.2.1 y_.2.2.2.1)) (s8 ((fun (r:RH) (p1:List Int) (p2:List Int) (p3:List Int)=>()) y_.1 y_.2.1 y_.2.2.1 y_.2.2.2.1)) (s9 ((fun (r:RH) (p1:List Int) (p2:List Int) (p3:List Int)=>()) y_.1 y_.2.1 y_.2.2.1 y_.2.2.2.1))) (.leaf (some ((fun (r:RH) (p1:List Int) (p2:List Int) (p3:List Int)=>fb r p1 p2 p3) y_.1 y_.2.1 y_.2.2.1 y_.2.2.2.1)) (td ((fun (r:RH) (p1:List Int) (p2:List Int) (p3:List Int)=>()) y_.1 y_.2.1 y_.2.2.1 y_.2.2.2.1)) (te ((fun (r:RH) (p1:List Int) (p2:List Int) (p3:List Int)=>()) y_.1 y_.2.1 y_.2.2.1 y_.2.2.2.1))))
theorem vt (r:RH) (p1:List Int) (p2:List Int) (p3:List Int) (h_:fb r p1 p2 p3):((decide (r.part=1))=true→(pE r p1 p2 p3).Is (.inl (())))∧((decide (r.part=1))=false→(decide (r.part=2))=true→(pE r p1 p2 p3).Is (.inr (.inl (()))))∧((decide (r.part=1))=false→(decide (r.part=2))=false→(pE r p1 p2 p3).Is (.inr (.inr (())))):=by
 simp only[pE,fo,al,decide_eq_true_eq,decide_eq_false_iff_not]
 grind
theorem Rr:O7.Ok Tryz.prog 152:=by
 refine agp (tys:= []) (A:=gG) (H:=LP) (LT:=fun x_ y_=>(fun (r:RH) (p1:List Int) (p2:List Int) (p3:List Int)=> []) y_.1 y_.2.1 y_.2.2.1 y_.2.2.2.1) (ks:= [.fr [.sym],.syms,.auto,.aD]) (V:=Sum.elim sZ (Sum.elim s8 td)) (D:=Sum.elim s7 (Sum.elim s9 te)) (T:=fun x_ y_=>pE y_.1 y_.2.1 y_.2.2.1 y_.2.2.2.1) (out:=fun x_ y_=> .ite ((fun (r:RH) (p1:List Int) (p2:List Int) (p3:List Int)=>decide (r.part=1)) y_.1 y_.2.1 y_.2.2.1 y_.2.2.2.1) (.leaf (some ((fun (r:RH) (p1:List Int) (p2:List Int) (p3:List Int)=>fb r p1 p2 p3) y_.1 y_.2.1 y_.2.2.1 y_.2.2.2.1)) (sZ ((fun (r:RH) (p1:List Int) (p2:List Int) (p3:List Int)=>()) y_.1 y_.2.1 y_.2.2.1 y_.2.2.2.1)) (s7 ((fun (r:RH) (p1:List Int) (p2:List Int) (p3:List Int)=>()) y_.1 y_.2.1 y_.2.2.1 y_.2.2.2.1))) (.ite ((fun (r:RH) (p1:List Int) (p2:List Int) (p3:List Int)=>decide (r.part=2)) y_.1 y_.2.1 y_.2.2.1 y_.2.2.2.1) (.leaf (some ((fun (r:RH) (p1:List Int) (p2:List Int) (p3:List Int)=>fb r p1 p2 p3) y_.1 y_.2.1 y_.2.2.1 y_.2.2.2.1)) (s8 ((fun (r:RH) (p1:List Int) (p2:List Int) (p3:List Int)=>()) y_.1 y_.2.1 y_.2.2.1 y_.2.2.2.1)) (s9 ((fun (r:RH) (p1:List Int) (p2:List Int) (p3:List Int)=>()) y_.1 y_.2.1 y_.2.2.1 y_.2.2.2.1))) (.leaf (some ((fun (r:RH) (p1:List Int) (p2:List Int) (p3:List Int)=>fb r p1 p2 p3) y_.1 y_.2.1 y_.2.2.1 y_.2.2.2.1)) (td ((fun (r:RH) (p1:List Int) (p2:List Int) (p3:List Int)=>()) y_.1 y_.2.1 y_.2.2.1 y_.2.2.2.1)) (te ((fun (r:RH) (p1:List Int) (p2:List Int) (p3:List Int)=>()) y_.1 y_.2.1 y_.2.2.1 y_.2.2.2.1))))) mixed aF Tryz.func152 (by kernel_rfl) Tryz.call152 (fun x_ y_=>LQ y_.1 y_.2.1 y_.2.2.1 y_.2.2.2.1) (fun x_ y_=>HR y_.1 y_.2.1 y_.2.2.1 y_.2.2.2.1) (fun x_ y_ Q_ h_=>?_)
 cases hc_:(fun (r:RH) (p1:List Int) (p2:List Int) (p3:List Int)=>decide (r.part=1)) y_.1 y_.2.1 y_.2.2.1 y_.2.2.2.1 with
 |true=>exact ⟨_,(vt y_.1 y_.2.1 y_.2.2.1 y_.2.2.2.1 (h_.1 hc_).1).1 hc_,(h_.1 hc_).2⟩
 |false=>
  have h2_:=h_.2 hc_
  cases hd_:(fun (r:RH) (p1:List Int) (p2:List Int) (p3:List Int)=>decide (r.part=2)) y_.1 y_.2.1 y_.2.2.1 y_.2.2.2.1 with
  |true=>exact ⟨_,(vt y_.1 y_.2.1 y_.2.2.1 y_.2.2.2.1 (h2_.1 hd_).1).2.1 hc_ hd_,(h2_.1 hd_).2⟩
  |false=>exact ⟨_,(vt y_.1 y_.2.1 y_.2.2.1 y_.2.2.2.1 (h2_.2 hd_).1).2.2 hc_ hd_,(h2_.2 hd_).2⟩
abbrev Eg:Type:=Int
noncomputable abbrev Eh (x:Eg):LV:=LV.one (VV.sc (SV.int IntKind.i64 (SI.sym x)))
noncomputable abbrev Ei (x:Eg):List (Nat×Ev.Item):= []
noncomputable def xD (r:RH) (p1:List Int) (p2:List Int) (p3:List Int):Tr (Eg):=(.ite (r.part==0) (.ret (1)) (.ite (r.part==1)
 (.ite (r.part==1) (.ret (8)) (.ite (r.part==3) (.ret (6)) (.ret (6)))) (.ite (r.part==2) (.ret (8)) (.ite (r.part==3) (.ret (6)) (.ret (6))))))
theorem HS (r:RH) (p1:List Int) (p2:List Int) (p3:List Int):aS Tryz.prog [] [] Tryz.f116 ((gG).wr (())) ((LP).wr (r,p1,p2,p3,())) [.fr [.sym],.syms,.auto,.aD]=(xD r p1 p2 p3).end Eh Ei ((LP).wr (r,p1,p2,p3,())):=by kernel_rfl
theorem LR (r:RH) (p1:List Int) (p2:List Int) (p3:List Int):aQ Tryz.prog ((LP).wr (r,p1,p2,p3,())) [] (aJ Tryz.f116):=(aQ.nil _)
abbrev pF (r:RH) (p1:List Int) (p2:List Int) (p3:List Int):Prop:=True
noncomputable def O8:ao:=ao.bS [] (gG) (LP) fun x_ y_=> .leaf (some ((fun (r:RH) (p1:List Int) (p2:List Int) (p3:List Int)=>pF r p1 p2 p3) y_.1 y_.2.1 y_.2.2.1 y_.2.2.2.1)) (Eh ((fun (r:RH) (p1:List Int) (p2:List Int) (p3:List Int)=>nk r.part) y_.1 y_.2.1 y_.2.2.1 y_.2.2.2.1)) (Ei ((fun (r:RH) (p1:List Int) (p2:List Int) (p3:List Int)=>nk r.part) y_.1 y_.2.1 y_.2.2.1 y_.2.2.2.1))
theorem Rs (r:RH) (p1:List Int) (p2:List Int) (p3:List Int) (h_:pF r p1 p2 p3):(xD r p1 p2 p3).Is (nk r.part):=by
 simp only[xD,nk,fo,al]
 grind
theorem Rt:O8.Ok Tryz.prog 116:=
 cg (tys:= []) (A:=gG) (H:=LP) (LT:=fun x_ y_=>(fun (r:RH) (p1:List Int) (p2:List Int) (p3:List Int)=> []) y_.1 y_.2.1 y_.2.2.1 y_.2.2.2.1) (ks:= [.fr [.sym],.syms,.auto,.aD]) (V:=Eh) (D:=Ei) (T:=fun x_ y_=>xD y_.1 y_.2.1 y_.2.2.1 y_.2.2.2.1) (pre:=fun x_ y_=>(fun (r:RH) (p1:List Int) (p2:List Int) (p3:List Int)=>pF r p1 p2 p3) y_.1 y_.2.1 y_.2.2.1 y_.2.2.2.1) (sp:=fun x_ y_=>(fun (r:RH) (p1:List Int) (p2:List Int) (p3:List Int)=>nk r.part) y_.1 y_.2.1 y_.2.2.1 y_.2.2.2.1) mixed aF Tryz.func116 (by kernel_rfl) Tryz.call116 (fun x_ y_=>LR y_.1 y_.2.1 y_.2.2.1 y_.2.2.2.1) (fun x_ y_=>HS y_.1 y_.2.1 y_.2.2.1 y_.2.2.2.1) (fun x_ y_ h=>Rs y_.1 y_.2.1 y_.2.2.1 y_.2.2.2.1 h)
abbrev zg:Type:=Bool×RH
noncomputable abbrev zh (x:zg):LV:=LV.one (VV.sc (SV.bool (SB.sym x.1)))
noncomputable abbrev zi (x:zg):List (Nat×Ev.Item):= [(0,jRd.wr x.2)]
noncomputable def tf (v:Int) (r:RH) (p1:List Int) (p2:List Int) (p3:List Int):Tr (zg):=(.ite (r.part==0) (.ite (v==1)
 (.ret (false,{cs:=r.cs,bh:=v,part:=2,node:=r.node,t:=(0,0,0)})) (.ret (false,{cs:=r.cs,bh:=v,part:=1,node:=r.node,t:=(0,0,0)})))
 (.ite (r.part==1) (.ret (true,{cs:=r.cs,bh:=r.bh,part:=0,node:=r.node,t:=(r.t.fst,r.t.snd.fst,IntKind.u8.wrap v)})) (.ite (r.part
 ==2) (.ret (false,{cs:=r.cs,bh:=r.bh,part:=3,node:=r.node,t:=(IntKind.i64.wrap (v+2),r.t.snd)})) (.ite (r.part==3) (.ret (false,
 {cs:=r.cs,bh:=r.bh,part:=4,node:=r.node,t:=(r.t.fst,shl IntKind.i64 v 6,r.t.snd.snd)})) (.ite (r.part==4) (.ret (true,{cs:=r.cs,bh:=r.bh,part:=0,node:=r.node,t:=(r.t.fst,IntKind.i64.wrap (r.t.snd.fst+IntKind.i64.wrap (v+1)),r.t.snd.snd)}))
 (.ret (true,{cs:=r.cs,bh:=r.bh,part:=0,node:=r.node,t:=r.t})))))))
theorem Ej (v:Int) (r:RH) (p1:List Int) (p2:List Int) (p3:List Int):aS Tryz.prog [] [] Tryz.f117 ((qN).wr (v,())) ((LP).wr (r,p1,p2,p3,())) [.fr [.sym],.syms,.auto,.aD]=(tf v r p1 p2 p3).end zh zi ((LP).wr (r,p1,p2,p3,())):=by kernel_rfl
theorem HT (v:Int) (r:RH) (p1:List Int) (p2:List Int) (p3:List Int):aQ Tryz.prog ((LP).wr (r,p1,p2,p3,())) [] (aJ Tryz.f117):=(aQ.nil _)
abbrev mC (v:Int) (r:RH) (p1:List Int) (p2:List Int) (p3:List Int):Prop:=0≤v∧v<256∧0≤r.part∧r.part≤4∧0≤r.t.2.1∧r.t.2.1<1000000
noncomputable def HU:ao:=ao.bS [] (qN) (LP) fun x_ y_=> .leaf (some ((fun (v:Int) (r:RH) (p1:List Int) (p2:List Int) (p3:List Int)=>mC v r p1 p2 p3) x_.1 y_.1 y_.2.1 y_.2.2.1 y_.2.2.2.1)) (zh ((fun (v:Int) (r:RH) (p1:List Int) (p2:List Int) (p3:List Int)=>fK r v) x_.1 y_.1 y_.2.1 y_.2.2.1 y_.2.2.2.1)) (zi ((fun (v:Int) (r:RH) (p1:List Int) (p2:List Int) (p3:List Int)=>fK r v) x_.1 y_.1 y_.2.1 y_.2.2.1 y_.2.2.2.1))
theorem LS (v:Int) (r:RH) (p1:List Int) (p2:List Int) (p3:List Int) (h_:mC v r p1 p2 p3):(tf v r p1 p2 p3).Is (fK r v):=by
 obtain ⟨h1,h2,h3,h4,h5,h6⟩:=h_
 have e1:IntKind.u8.wrap v=v:=by rw[wrap_u8];omega
 have e2:IntKind.i64.wrap (v+2)=v+2:=ar (by omega) (by omega)
 have e3:IntKind.i64.wrap (v+1)=v+1:=ar (by omega) (by omega)
 have e4:IntKind.i64.wrap (r.t.2.1+(v+1))=r.t.2.1+(v+1):=ar (by omega) (by omega)
 have e5:shl .i64 v 6=v*64:=by
  have:=gM .i64 v 6 (by decide)
  rw[show ((6:Nat):Int)=6 from rfl] at this
  rw[this];exact ar (by omega) (by omega)
 simp only[tf,fK,fo,al,e1,e2,e3,e4,e5]
 grind
theorem LU:HU.Ok Tryz.prog 117:=
 cg (tys:= []) (A:=qN) (H:=LP) (LT:=fun x_ y_=>(fun (v:Int) (r:RH) (p1:List Int) (p2:List Int) (p3:List Int)=> []) x_.1 y_.1 y_.2.1 y_.2.2.1 y_.2.2.2.1) (ks:= [.fr [.sym],.syms,.auto,.aD]) (V:=zh) (D:=zi) (T:=fun x_ y_=>tf x_.1 y_.1 y_.2.1 y_.2.2.1 y_.2.2.2.1) (pre:=fun x_ y_=>(fun (v:Int) (r:RH) (p1:List Int) (p2:List Int) (p3:List Int)=>mC v r p1 p2 p3) x_.1 y_.1 y_.2.1 y_.2.2.1 y_.2.2.2.1) (sp:=fun x_ y_=>(fun (v:Int) (r:RH) (p1:List Int) (p2:List Int) (p3:List Int)=>fK r v) x_.1 y_.1 y_.2.1 y_.2.2.1 y_.2.2.2.1) mixed aF Tryz.func117 (by kernel_rfl) Tryz.call117 (fun x_ y_=>HT x_.1 y_.1 y_.2.1 y_.2.2.1 y_.2.2.2.1) (fun x_ y_=>Ej x_.1 y_.1 y_.2.1 y_.2.2.1 y_.2.2.2.1) (fun x_ y_ h=>LS x_.1 y_.1 y_.2.1 y_.2.2.1 y_.2.2.2.1 h)
noncomputable def tg (r:RH) (d:Int×Int×Int):Int×Int×Int×Int×Int:=bq ((List.take 2 (List.drop 0 r.cs)).getD r.bh.toNat 0) d
abbrev LW:Type:=Int×RH×(List Int)×(List Int)×(List Int)×(Int×Int×Int)
noncomputable abbrev LX (x:LW):LV:=LV.one (VV.sc (SV.int IntKind.i64 (SI.sym x.1)))
noncomputable abbrev LY (x:LW):List (Nat×Ev.Item):= [(0,jRd.wr x.2.1),(1,Item.aZ [SV.sl 2 1] 213),(2,Item.own 1 (Ty.int
 IntKind.u16) x.2.2.1),(3,Item.aZ [SV.sl 4 1] 213),(4,Item.own 1 (Ty.int IntKind.u16) x.2.2.2.1),(5,Item.aZ [SV.sl 6 1] 213),(6,Item.own 1
 (Ty.int IntKind.u16) x.2.2.2.2.1),(7,Lr.wr x.2.2.2.2.2)]
noncomputable def Ek (r:RH) (p1:List Int) (p2:List Int) (p3:List Int) (d:Int×Int×Int):Tr (LW):=(.ite (r.part==0) (.need (0
 ≤r.bh∧r.bh<2) (.need (mB ((List.take 2 (List.drop 0 r.cs)).getD r.bh.toNat 0) d) (.need (0≤r.bh∧r.bh<2) (.ret ((tg r d).fst,{cs:=r.cs.set (0+r.bh.toNat) (tg r d).snd.fst,bh:=r.bh,part:=r.part,node:=r.node,t:=r.t},
 p1,p2,p3,(tg r d).snd.snd))))) (.ite (r.part==4) (.need (sY d) (.ret ((cF d).fst,r,p1,p2,p3,(cF d).snd))) (.ite (decide
 (r.part=1)) (.need (fb r p1 p2 p3) (.need (gh p1) (.need (mB (jm p1 r.node) d) (.need (gh p1) (.ret ((bq (jm p1 r.node) d).fst,
 r,c6 p1 r.node (bq (jm p1 r.node) d).fst,p2,p3,(bq (jm p1 r.node) d).snd.snd)))))) (.ite (decide (r.part=2)) (.need (fb r p1 p2
 p3) (.need (gh p2) (.need (mB (jm p2 r.node) d) (.need (gh p2) (.ret ((bq (jm p2 r.node) d).fst,r,p1,c6 p2 r.node (bq (jm p2
 r.node) d).fst,p3,(bq (jm p2 r.node) d).snd.snd)))))) (.need (fb r p1 p2 p3) (.need (gh p3) (.need (mB (jm p3 r.node) d) (.need
 (gh p3) (.ret ((bq (jm p3 r.node) d).fst,r,p1,p2,c6 p3 r.node (bq (jm p3 r.node) d).fst,(bq (jm p3 r.node) d).snd.snd))))))))))
theorem LZ (r:RH) (p1:List Int) (p2:List Int) (p3:List Int) (d:Dc):aS Tryz.prog [(152,O7),(150,aeN),(151,Wf),(153,QS),(154,Dw)] [] Tryz.f115 (((aj (ai (aP 0 0)) (aj (ai (aP 7 0)) ag))).wr (())) ((Bs).wr (r,p1,p2,p3,d,())) [.one 2,.one 4,.one 6,.fr [.sym],.syms,.auto,.aD]=(Ek r p1 p2 p3 d).end LX LY ((Bs).wr (r,p1,p2,p3,d,())):=by kernel_rfl
theorem Ru (r:RH) (p1:List Int) (p2:List Int) (p3:List Int) (d:Dc):aQ Tryz.prog ((Bs).wr (r,p1,p2,p3,d,())) [] (aJ Tryz.f115):=(aQ.nil _)
def fL (r:RH) (p1 p2 p3:List Int) (d:Dc):Int×RH×List Int×List Int×List Int×Dc:=
 if r.part=0 then
  let x:=bq (r.cs.getD r.bh.toNat 0) d
  (x.1,⟨r.cs.set r.bh.toNat x.2.1,r.bh,r.part,r.node,r.t⟩,p1,p2,p3,x.2.2)
 else if r.part=4 then ((cF d).1,r,p1,p2,p3,(cF d).2)
 else if r.part=1 then
  let x:=bq (jm p1 r.node) d
  (x.1,r,c6 p1 r.node x.1,p2,p3,x.2.2)
 else if r.part=2 then
  let x:=bq (jm p2 r.node) d
  (x.1,r,p1,c6 p2 r.node x.1,p3,x.2.2)
 else
  let x:=bq (jm p3 r.node) d
  (x.1,r,p1,p2,c6 p3 r.node x.1,x.2.2)
abbrev th (r:RH) (p1:List Int) (p2:List Int) (p3:List Int) (d:Dc):Prop:=r.cs.length=2∧(r.bh=0∨r.bh=1)∧gh p1∧gh p2∧gh p3∧wI d
noncomputable def Wi:ao:=ao.bS [] ((aj (ai (aP 0 0)) (aj (ai (aP 7 0)) ag))) (Bs) fun x_ y_=> .leaf (some ((fun (r:RH) (p1:List Int) (p2:List Int) (p3:List Int) (d:Dc)=>th r p1 p2 p3 d) y_.1 y_.2.1 y_.2.2.1 y_.2.2.2.1 y_.2.2.2.2.1)) (LX ((fun (r:RH) (p1:List Int) (p2:List Int) (p3:List Int) (d:Dc)=>fL r p1 p2 p3 d) y_.1 y_.2.1 y_.2.2.1 y_.2.2.2.1 y_.2.2.2.2.1)) (LY ((fun (r:RH) (p1:List Int) (p2:List Int) (p3:List Int) (d:Dc)=>fL r p1 p2 p3 d) y_.1 y_.2.1 y_.2.2.1 y_.2.2.2.1 y_.2.2.2.2.1))
theorem Wj (r:RH) (p1:List Int) (p2:List Int) (p3:List Int) (d:Dc) (h_:th r p1 p2 p3 d):(Ek r p1 p2 p3 d).Is (fL r p1 p2 p3 d):=by
 obtain ⟨h1,h2,h3,h4,h5,h6⟩:=h_
 have e1:(List.take 2 (List.drop 0 r.cs)).getD r.bh.toNat 0=r.cs.getD r.bh.toNat 0:=by rw[List.drop_zero,List.take_of_length_le (by omega)]
 have ea:tg r d=bq (r.cs.getD r.bh.toNat 0) d:=by unfold tg;rw[e1]
 have hb:0≤r.bh∧r.bh<2:=by omega
 simp only[Ek,fL,fo,bs,an,al,e1,ea,Nat.zero_add]
 refine ⟨fun e=>⟨hb,h6,hb,by rw[if_pos e]⟩,fun e=>?_⟩
 rw[if_neg e]
 refine ⟨fun e2=>⟨h6,by rw[if_pos e2]⟩,fun e2=>?_⟩
 rw[if_neg e2]
 refine ⟨fun e3=>⟨trivial,h3,h6,h3,by rw[if_pos e3]⟩,fun e3=>?_⟩
 rw[if_neg e3]
 refine ⟨fun e4=>⟨trivial,h4,h6,h4,by rw[if_pos e4]⟩,fun e4=>?_⟩
 rw[if_neg e4]
 exact ⟨trivial,h5,h6,h5,rfl⟩
theorem Wl:Wi.Ok Tryz.prog 115:=
 cg (tys:= []) (A:=(aj (ai (aP 0 0)) (aj (ai (aP 7 0)) ag))) (H:=Bs) (LT:=fun x_ y_=>(fun (r:RH) (p1:List Int) (p2:List Int) (p3:List Int) (d:Dc)=> []) y_.1 y_.2.1 y_.2.2.1 y_.2.2.2.1 y_.2.2.2.2.1) (ks:= [.one 2,.one 4,.one 6,.fr [.sym],.syms,.auto,.aD]) (V:=LX) (D:=LY) (T:=fun x_ y_=>Ek y_.1 y_.2.1 y_.2.2.1 y_.2.2.2.1 y_.2.2.2.2.1) (pre:=fun x_ y_=>(fun (r:RH) (p1:List Int) (p2:List Int) (p3:List Int) (d:Dc)=>th r p1 p2 p3 d) y_.1 y_.2.1 y_.2.2.1 y_.2.2.2.1 y_.2.2.2.2.1) (sp:=fun x_ y_=>(fun (r:RH) (p1:List Int) (p2:List Int) (p3:List Int) (d:Dc)=>fL r p1 p2 p3 d) y_.1 y_.2.1 y_.2.2.1 y_.2.2.2.1 y_.2.2.2.2.1) mixed ((ak Rr (ak abF (ak Wh (ak yP (ak yQ aF)))))) Tryz.func115 (by kernel_rfl) Tryz.call115 (fun x_ y_=>Ru y_.1 y_.2.1 y_.2.2.1 y_.2.2.2.1 y_.2.2.2.2.1) (fun x_ y_=>LZ y_.1 y_.2.1 y_.2.2.1 y_.2.2.2.1 y_.2.2.2.2.1) (fun x_ y_ h=>Wj y_.1 y_.2.1 y_.2.2.1 y_.2.2.2.1 y_.2.2.2.2.1 h)
def bP:List Int→Dc→Bool×List Int×Dc
 | [],d=>(decide (d.2.2≤0),[],d)
 |x::r,d=>if 0<d.2.2 then bP r (g8 d x) else (true,x::r,d)
theorem HV {d:Dc} (h:wI d) {b:Int} (hb:By b):wI (g8 d b):=by
 obtain ⟨h1,h2,h3,h4⟩:=h
 obtain ⟨h5,h6⟩:=hb
 unfold g8
 split
 ·exact ⟨h1,h2,h3,h4⟩
 ·exact ⟨by simp only;omega,h2,h3,by simp only;omega⟩
theorem HW: ∀ (b:List Int) (d:Dc),wI d→aB b→wI (bP b d).2.2∧aB (bP b d).2.1∧(bP b d).2.1.length≤b.length∧((bP b d).1=true→(bP b d).2.2.2.2=0)
 | [],d,h,hb=>by
  refine ⟨h,hb,Nat.le_refl _,fun e=>?_⟩
  have:=h.2.2.2
  simp only[bP,decide_eq_true_eq] at e ⊢
  omega
 |x::r,d,h,hb=>by
  have hr:aB r:=fun z hz=>hb z (by simp[hz])
  unfold bP
  split
  ·have:=HW r (g8 d x) (HV h (hb x (by simp))) hr
   exact ⟨this.1,this.2.1,by rw[List.length_cons];omega,this.2.2.2⟩
  ·have:=h.2.2.2
   exact ⟨h,hb,Nat.le_refl _,fun _=>by simp only;omega⟩
def b8 (b:List Int) (d:Dc):Bool×List Int×Dc:=if (bP b d).1=true then (!ob (bP b d).2.2,(bP b d).2.1,(bP b d).2.2) else (false,[],(bP b d).2.2)
abbrev zj:Type:=(List Int)×(Int×Int×Int)
noncomputable abbrev vu:ba St zj:=(bG (aj (ai (aP (0) (0))) (ae (ai (eS false false (Ty.int IntKind.u8))) (jk 20 ag)))
 (ae (dt Lr) ag)).qk (fun y=>(y.1.1,y.2.1)) (fun x=>((x.1,()),(x.2,()))) (fun _=>rfl)
abbrev El:List Wk:= [.fr (dA 22 [(0,.aq),(1,.aq)]),.syms,.auto,.aD]
abbrev Wm:Exit→List Wk:=Dy El 0 [.fr (dA 22 [(0,.aq),(1,.aq)]),.syms,.auto,.aD] [.fr (dA 22 [(4,.aq),(5,.aq)]),
 .syms,.auto,.aD]
abbrev O9:Type:=Bool×(Int×Int×Int)
noncomputable abbrev xE (x:O9):Exit×St:=(Exit.ret,⟨(ir 4 (LV.one (VV.sc (SV.gH (Value.slice none 0 0)))::(LV.one (VV.sc (SV.bool
 (SB.sym x.1)))::(ir 16 [])))),[some (Lr.wr x.2)]⟩)
abbrev Pa:Type:=(List Int)×(Int×Int×Int)
noncomputable abbrev xF (x:Pa):Exit×St:=(Exit.exit 0,⟨(LV.one (VV.sc (SV.ptr 0 0))::(LV.one (VV.sc (SV.rd false false (Ty.int
 IntKind.u8) x.1))::(ir 20 []))),[some (Lr.wr x.2)]⟩)
noncomputable def vA (b':List Int) (d':Int×Int×Int):Tr (zj⊕(O9⊕Pa)):=(.need (oc d') (.ite (decide (0<
 d'.snd.snd)) (.ite ((↑b'.length:Int)==0) (.ret (.inr (.inl (false,d')))) (.need ((0:Int)≤0∧0<(↑b'.length:Int)) (.need (sT (b'.getD
 0 0) d') (.need ((0:Int)≤1∧1≤(↑b'.length:Int)∧(↑b'.length:Int)≤(↑b'.length:Int)) (.ret (.inl (List.take ((↑b'.length:Int)-
 1).toNat (List.drop 1 b'),g8 d' (b'.getD 0 0)))))))) (.ret (.inr (.inr (b',d'))))))
theorem L0 (b:List Int) (d:Dc) (b':List Int) (d':Int×Int×Int):dR Tryz.prog [(112,D8),(113,LB),(114,LH)] [] Tryz.f79 0 ((jg).wr (d,())) Wm (vu.wr (b',d'))=(vA b' d').res vu.wr (Sum.elim xE xF):=by kernel_rfl
abbrev ti (b':List Int) (d':Int×Int×Int):Prop:=wI d'∧aB b'∧b'.length<1099511627776
noncomputable abbrev Em (x_:zj):aU:= .need ((fun (b':List Int) (d':Int×Int×Int)=>ti b' d') x_.1 x_.2) (.ite ((fun (b':List Int) (d':Int×Int×Int)=> !(bP b' d').1) x_.1 x_.2) (.leaf (xE ((fun (b':List Int) (d':Int×Int×Int)=>(false,(bP b' d').2.2)) x_.1 x_.2)).1 (xE ((fun (b':List Int) (d':Int×Int×Int)=>(false,(bP b' d').2.2)) x_.1 x_.2)).2) (.leaf (xF ((fun (b':List Int) (d':Int×Int×Int)=>((bP b' d').2.1,(bP b' d').2.2)) x_.1 x_.2)).1 (xF ((fun (b':List Int) (d':Int×Int×Int)=>((bP b' d').2.1,(bP b' d').2.2)) x_.1 x_.2)).2))
theorem Wn (b':List Int) (d':Int×Int×Int) (h_:ti b' d'):dq (fun x_:zj=>vA x_.1 x_.2) (b',d') (bif !(bP b' d').1 then .inl ((false,(bP b' d').2.2)) else .inr (((bP b' d').2.1,(bP b' d').2.2))):=by
 obtain ⟨h1,h2,h3⟩:=h_
 induction b' generalizing d' with
 |nil=>
  refine .stop ?_
  simp only[vA,bs,an,al,fo,bP,List.length_nil]
  refine ⟨trivial,fun h=>⟨fun _=>?_,fun h=>absurd rfl h⟩,fun h=>?_⟩
  ·rw[decide_eq_false (by omega)];rfl
  ·rw[decide_eq_true (by omega)];rfl
 |cons x r ih=>
  have hr:aB r:=fun z hz=>h2 z (by simp[hz])
  have hx:By x:=h2 x (by simp)
  rw[List.length_cons] at h3
  by_cases hn:0<d'.2.2
  ·have A9:=ih (g8 d' x) (HV h1 hx) hr (by omega)
   rw[bP,if_pos hn]
   refine .go ?_ A9
   simp only[vA,bs,an,al,fo,List.length_cons]
   refine ⟨trivial,fun h=>⟨fun h=>by omega,fun _=>⟨⟨by omega,by omega⟩,⟨h1,hx⟩,⟨by omega,by omega,by omega⟩,?_⟩⟩,fun h=>absurd hn h⟩
   have e:(((r.length+1:Nat):Int)-1).toNat=r.length:=by omega
   rw[e]
   simp
  ·rw[bP,if_neg hn]
   refine .stop ?_
   simp only[vA,bs,an,al,fo]
   exact ⟨trivial,fun h=>absurd h hn,fun _=>rfl⟩
theorem Rv (b:List Int) (d:Dc): ∀ x:zj,Ex Tryz.prog ((jg).wr (d,())) (.loop (aW Tryz.f79 0)) (vu.wr x) (Em x):=
 db mixed ((ak za (ak HN (ak HO aF)))) (ws:=Wm) (aQ.nil _) (E:=Sum.elim xE xF) (L:=fun x_=>vA x_.1 x_.2) (pre:=fun x_=>(fun (b':List Int) (d':Int×Int×Int)=>ti b' d') x_.1 x_.2) (sp:=fun x_=>bif (fun (b':List Int) (d':Int×Int×Int)=> !(bP b' d').1) x_.1 x_.2 then .inl ((fun (b':List Int) (d':Int×Int×Int)=>(false,(bP b' d').2.2)) x_.1 x_.2) else .inr ((fun (b':List Int) (d':Int×Int×Int)=>((bP b' d').2.1,(bP b' d').2.2)) x_.1 x_.2)) (fun x_=>L0 b d x_.1 x_.2) (fun z=>by cases z<;>(intro e;cases e)) qO (fun x_ h=>Wn x_.1 x_.2 h)
noncomputable def Wo (b:List Int) (d:Int×Int×Int):Int×Int×Int:=(bP b d).snd.snd
abbrev Wp:Type:=(List Int)×Bool×(Int×Int×Int)
noncomputable abbrev Wq (x:Wp):LV:=LV.cD [VV.sc (SV.rd false false (Ty.int IntKind.u8) x.1),VV.sc (SV.bool (SB.sym x.2.1))]
noncomputable abbrev Wr (x:Wp):List (Nat×Ev.Item):= [(0,Lr.wr x.2.2)]
noncomputable def Pb (b:List Int) (d:Int×Int×Int):Tr (Wp):=(.need (ti b d) (.ite (!(bP b d).fst) (.ret ([],false,(bP b
 d).snd.snd)) (.need (sU (Wo b d)) (.ret ((bP b d).snd.fst,!ob (Wo b d),(bP b d).snd.snd)))))
theorem Rw (b:List Int) (d:Dc):aS Tryz.prog [(112,D8),(113,LB),(114,LH)] [(0,bM vu ((jg).wr (d,())) El (Em))] Tryz.f79 (((aj (ai (aP 0 0)) (ae (ai (eS false false u8)) ag))).wr (b,())) ((jg).wr (d,())) [.fr [.rd false u8],.fr [.sym],.syms,.auto,.aD]=(Pb b d).end Wq Wr ((jg).wr (d,())):=by kernel_rfl
theorem Ws (b:List Int) (d:Dc):aQ Tryz.prog ((jg).wr (d,())) [(0,bM vu ((jg).wr (d,())) El (Em))] (aJ Tryz.f79):=(aQ.cO (nx (by kernel_rfl) (cz (hp:=(jg).wr (d,())) (Rv b d)) pc))
abbrev xG (b:List Int) (d:Dc):Prop:=wI d∧aB b∧b.length<1099511627776
noncomputable def aeO:ao:=ao.bS [] ((aj (ai (aP 0 0)) (ae (ai (eS false false u8)) ag))) (jg) fun x_ y_=> .leaf (some ((fun (b:List Int) (d:Dc)=>xG b d) x_.1 y_.1)) (Wq ((fun (b:List Int) (d:Dc)=>((b8 b d).2.1,(b8 b d).1,(b8 b d).2.2)) x_.1 y_.1)) (Wr ((fun (b:List Int) (d:Dc)=>((b8 b d).2.1,(b8 b d).1,(b8 b d).2.2)) x_.1 y_.1))
theorem abH (b:List Int) (d:Dc) (h_:xG b d):(Pb b d).Is (((b8 b d).2.1,(b8 b d).1,(b8 b d).2.2)):=by
 simp only[Pb,b8,an,jL,al]
 refine ⟨h_,fun h=>?_,fun h=>?_⟩
 ·rw[if_pos h];exact ⟨trivial,rfl⟩
 ·rw[if_neg (by simp[h])]
theorem abI:aeO.Ok Tryz.prog 79:=
 cg (tys:= []) (A:=(aj (ai (aP 0 0)) (ae (ai (eS false false u8)) ag))) (H:=jg) (LT:=fun x_ y_=>(fun (b:List Int) (d:Dc)=> [(0,bM vu ((jg).wr (d,())) El (Em))]) x_.1 y_.1) (ks:= [.fr [.rd false u8],.fr [.sym],.syms,.auto,.aD]) (V:=Wq) (D:=Wr) (T:=fun x_ y_=>Pb x_.1 y_.1) (pre:=fun x_ y_=>(fun (b:List Int) (d:Dc)=>xG b d) x_.1 y_.1) (sp:=fun x_ y_=>(fun (b:List Int) (d:Dc)=>((b8 b d).2.1,(b8 b d).1,(b8 b d).2.2)) x_.1 y_.1) mixed ((ak za (ak HN (ak HO aF)))) Tryz.func79 (by kernel_rfl) Tryz.call79 (fun x_ y_=>Ws x_.1 y_.1) (fun x_ y_=>Rw x_.1 y_.1) (fun x_ y_ h=>abH x_.1 y_.1 h)
def jP (part:Int):Int:=if part=0 then 2 else if part=1∨part=2 then 256 else 64
theorem HX (part:Int):shl .i64 1 (nk part)=jP part:=by
 unfold nk jP
 split
 ·exact mw 1 (by omega)
 ·split
  ·exact mw 8 (by omega)
  ·exact mw 6 (by omega)
theorem size_pos (part:Int):0≤nk part:=by unfold nk;split<;>(try split)<;>omega
structure ROk (r:RH):Prop where
 len:r.cs.length=2
 bh:r.bh=0∨r.bh=1
 part:0≤r.part∧r.part≤4
 node:1≤r.node∧r.node<jP r.part
 arW:0≤r.t.2.1∧r.t.2.1≤4096
 tb:0≤r.t.2.2∧r.t.2.2<256
 p4:r.part=4→r.t.2.1≤4032
theorem pG (p:Int) (d:Dc):0≤(bq p d).1∧(bq p d).1≤1:=by
 unfold bq fJ
 split
 ·simp only;split<;>simp
 ·simp
theorem HY (d:Dc):0≤(cF d).1∧(cF d).1≤1:=by
 unfold cF fJ
 split
 ·split<;>simp
 ·simp
theorem vB (r:RH) (p1 p2 p3:List Int) (d:Dc):(fL r p1 p2 p3 d).2.1.bh=r.bh∧(fL r p1 p2 p3 d).2.1.part=r.part∧(fL r p1 p2 p3 d).2.1.node=r.node∧(fL r p1 p2 p3 d).2.1.t=r.t∧(fL r p1 p2 p3 d).2.1.cs.length=r.cs.length∧0≤(fL r p1 p2 p3 d).1∧(fL r p1 p2 p3 d).1≤1:=by
 have h:=HY d
 unfold fL
 split
 ·have:=pG (r.cs.getD r.bh.toNat 0) d
  exact ⟨rfl,rfl,rfl,rfl,by simp,this⟩
 ·split
  ·exact ⟨rfl,rfl,rfl,rfl,rfl,h⟩
  ·split
   ·exact ⟨rfl,rfl,rfl,rfl,rfl,pG _ d⟩
   ·split
    ·exact ⟨rfl,rfl,rfl,rfl,rfl,pG _ d⟩
    ·exact ⟨rfl,rfl,rfl,rfl,rfl,pG _ d⟩
def cA (r:RH) (p1 p2 p3:List Int) (d:Dc):(cj×Bool)×RH×List Int×List Int×List Int×Dc:=
 let x:=fL r p1 p2 p3 d
 let n:=2*r.node+x.1
 if n<jP r.part then (((0,0,0),false),⟨x.2.1.cs,r.bh,r.part,n,r.t⟩,x.2.2)
 else
  let y:=fK ⟨x.2.1.cs,r.bh,r.part,1,r.t⟩ (n-jP r.part)
  if y.1=true then ((y.2.t,true),y.2,x.2.2) else (((0,0,0),false),y.2,x.2.2)
theorem B6 (part:Int):2≤jP part∧jP part≤256:=by unfold jP;split<;>(try split)<;>omega
theorem Rx {r:RH} (h:ROk r) {v:Int} (h0:0≤v) (h1:v<jP r.part) (hn:r.node=1):ROk (fK r v).2:=by
 obtain ⟨k1,k2,k3,k4,k5,k6,k7⟩:=h
 unfold fK
 split
 ·rename_i e
  rw[e] at h1
  have h1:v<2:=h1
  refine ⟨k1,by simp only;omega,by simp only;split<;>omega,?_,by simp,by simp,by simp⟩
  simp only
  split<;>(rw[hn];decide)
 ·split
  ·rename_i e
   rw[e] at h1
   have h1:v<256:=h1
   exact ⟨k1,k2,by simp,by simp only[hn];decide,k5,⟨h0,h1⟩,by simp⟩
  ·split
   ·rename_i e
    exact ⟨k1,k2,by simp,by simp only[hn];decide,k5,k6,by simp⟩
   ·split
    ·rename_i e
     rw[e] at h1
     have h1:v<64:=h1
     exact ⟨k1,k2,by simp,by simp only[hn];decide,by simp only;omega,k6,by simp only;omega⟩
    ·rename_i e1 e2 e3 e4
     have e5:r.part=4:=by omega
     rw[e5] at h1
     have h1:v<64:=h1
     have:=k7 e5
     exact ⟨k1,k2,by simp,by simp only[hn];decide,by simp only;omega,k6,by simp⟩
theorem HZ {r:RH} (h:ROk r) (p1 p2 p3:List Int) (d:Dc):ROk (cA r p1 p2 p3 d).2.1:=by
 obtain ⟨h1,h2,h3,h4,h5,h6,h7⟩:=vB r p1 p2 p3 d
 have hc:=B6 r.part
 have hr:=h
 obtain ⟨k1,k2,k3,k4,k5,k6,k7⟩:=h
 unfold cA
 simp only
 split
 ·rename_i e
  exact ⟨by simp only;omega,k2,k3,by simp only;omega,k5,k6,k7⟩
 ·have:=Rx (r:=⟨(fL r p1 p2 p3 d).2.1.cs,r.bh,r.part,1,r.t⟩) ⟨by simp only;omega,k2,k3,by simp only;omega,k5,k6,k7⟩ (v:=2*r.node+(fL r p1 p2 p3 d).1-jP r.part) (by omega) (by simp only;omega) rfl
  split<;>exact this
noncomputable def aY (r:RH) (p1:List Int) (p2:List Int) (p3:List Int) (d:Int×Int×Int):Int×RH×List Int×List Int×List Int×
 Int×Int×Int:=fL r p1 p2 p3 d
noncomputable def gQ (r:RH) (p1:List Int) (p2:List Int) (p3:List Int) (d:Int×Int×Int):Int:=IntKind.i64.wrap (IntKind.i64.wrap
 (IntKind.i64.wrap (2*r.node)+(aY r p1 p2 p3 d).fst)-shl IntKind.i64 1 (nk (aY r p1 p2 p3 d).snd.fst.part))
noncomputable def tj (r:RH) (p1:List Int) (p2:List Int) (p3:List Int) (d:Int×Int×Int):Int×Int×Int:=(aY r p1 p2 p3
 d).snd.fst.t
noncomputable def gR (r:RH) (p1:List Int) (p2:List Int) (p3:List Int) (d:Int×Int×Int):RH:= {cs:=(aY r p1 p2 p3 d).snd.fst.cs,bh:=(aY r p1 p2 p3 d).snd.fst.bh,part:=(aY r p1 p2 p3 d).snd.fst.part,node:=1,t:=tj r p1 p2 p3 d}
abbrev En:Type:=Int×Int×Int×Bool×RH×(List Int)×(List Int)×(List Int)×(Int×Int×Int)
noncomputable abbrev Eo (x:En):LV:=LV.cD [VV.agg [SV.int IntKind.i64 (SI.sym x.1),SV.int IntKind.i64 (SI.sym x.2.1),SV.int
 IntKind.u8 (SI.sym x.2.2.1)],VV.sc (SV.bool (SB.sym x.2.2.2.1))]
noncomputable abbrev Ep (x:En):List (Nat×Ev.Item):= [(0,jRd.wr x.2.2.2.2.1),(1,Item.aZ [SV.sl 2 1] 213),(2,Item.own 1 (Ty.int
 IntKind.u16) x.2.2.2.2.2.1),(3,Item.aZ [SV.sl 4 1] 213),(4,Item.own 1 (Ty.int IntKind.u16) x.2.2.2.2.2.2.1),(5,Item.aZ [SV.sl 6 1] 213),(6,
 Item.own 1 (Ty.int IntKind.u16) x.2.2.2.2.2.2.2.1),(7,Lr.wr x.2.2.2.2.2.2.2.2)]
noncomputable def xH (r:RH) (p1:List Int) (p2:List Int) (p3:List Int) (d:Int×Int×Int):Tr (En):=(.need (th r p1 p2 p3
 d) (.need ((Out.leaf none (LV.one (VV.sc (SV.int IntKind.i64 (SI.sym (aY r p1 p2 p3 d).snd.fst.node)))) [],[0])=(Out.leaf none (LV.one (VV.sc
 (SV.int IntKind.i64 (SI.sym r.node)))) [],[0])) (.need (pF {cs:=(aY r p1 p2 p3 d).snd.fst.cs,bh:=(aY r p1 p2 p3 d).snd.fst.bh,part:=(aY r p1 p2 p3 d).snd.fst.part,node:=IntKind.i64.wrap (IntKind.i64.wrap (2*r.node)+(aY r p1 p2 p3 d).fst),t:=tj r p1 p2 p3 d}
 (aY r p1 p2 p3 d).snd.snd.fst (aY r p1 p2 p3 d).snd.snd.snd.fst (aY r p1 p2 p3 d).snd.snd.snd.snd.fst) (.need (0≤nk (aY r
 p1 p2 p3 d).snd.fst.part) (.ite (decide (IntKind.i64.wrap (IntKind.i64.wrap (2*r.node)+(aY r p1 p2 p3 d).fst)<shl IntKind.i64 1 (nk
 (aY r p1 p2 p3 d).snd.fst.part))) (.ret (0,0,0,false,{cs:=(aY r p1 p2 p3 d).snd.fst.cs,bh:=(aY r p1 p2 p3 d).snd.fst.bh,part:=(aY r p1 p2 p3 d).snd.fst.part,node:=IntKind.i64.wrap (IntKind.i64.wrap (2*r.node)+(aY r p1 p2 p3 d).fst),t:=(aY r p1 p2 p3 d).snd.fst.t},
 (aY r p1 p2 p3 d).snd.snd.fst,(aY r p1 p2 p3 d).snd.snd.snd.fst,(aY r p1 p2 p3 d).snd.snd.snd.snd.fst,(aY r p1 p2 p3
 d).snd.snd.snd.snd.snd)) (.need (mC (gQ r p1 p2 p3 d) (gR r p1 p2 p3 d) (aY r p1 p2 p3 d).snd.snd.fst (aY r p1 p2 p3
 d).snd.snd.snd.fst (aY r p1 p2 p3 d).snd.snd.snd.snd.fst) (.ite (!(fK (gR r p1 p2 p3 d) (gQ r p1 p2 p3 d)).fst) (.ret (0,0,0,
 false,(fK (gR r p1 p2 p3 d) (gQ r p1 p2 p3 d)).snd,(aY r p1 p2 p3 d).snd.snd.fst,(aY r p1 p2 p3 d).snd.snd.snd.fst,
 (aY r p1 p2 p3 d).snd.snd.snd.snd.fst,(aY r p1 p2 p3 d).snd.snd.snd.snd.snd)) (.ret ((fK (gR r p1 p2 p3 d) (gQ r p1 p2 p3
 d)).snd.t.fst,(fK (gR r p1 p2 p3 d) (gQ r p1 p2 p3 d)).snd.t.snd.fst,(fK (gR r p1 p2 p3 d) (gQ r p1 p2 p3
 d)).snd.t.snd.snd,true,(fK (gR r p1 p2 p3 d) (gQ r p1 p2 p3 d)).snd,(aY r p1 p2 p3 d).snd.snd.fst,(aY r p1 p2 p3
 d).snd.snd.snd.fst,(aY r p1 p2 p3 d).snd.snd.snd.snd.fst,(aY r p1 p2 p3 d).snd.snd.snd.snd.snd)))))))))
theorem H0 (r:RH) (p1:List Int) (p2:List Int) (p3:List Int) (d:Dc):aS Tryz.prog [(115,Wi),(116,O8),(117,HU)] [] Tryz.f80 (((aj (ai (aP 0 0)) (aj (ai (aP 7 0)) ag))).wr (())) ((Bs).wr (r,p1,p2,p3,d,())) [.one 2,.one 4,.one 6,.fr [.sym],.syms,.auto,.aD]=(xH r p1 p2 p3 d).end Eo Ep ((Bs).wr (r,p1,p2,p3,d,())):=by kernel_rfl
theorem L1 (r:RH) (p1:List Int) (p2:List Int) (p3:List Int) (d:Dc):aQ Tryz.prog ((Bs).wr (r,p1,p2,p3,d,())) [] (aJ Tryz.f80):=(aQ.nil _)
abbrev pH (r:RH) (p1:List Int) (p2:List Int) (p3:List Int) (d:Dc):Prop:=ROk r∧gh p1∧gh p2∧gh p3∧wI d
noncomputable def Pc:ao:=ao.bS [] ((aj (ai (aP 0 0)) (aj (ai (aP 7 0)) ag))) (Bs) fun x_ y_=> .leaf (some ((fun (r:RH) (p1:List Int) (p2:List Int) (p3:List Int) (d:Dc)=>pH r p1 p2 p3 d) y_.1 y_.2.1 y_.2.2.1 y_.2.2.2.1 y_.2.2.2.2.1)) (Eo ((fun (r:RH) (p1:List Int) (p2:List Int) (p3:List Int) (d:Dc)=>((cA r p1 p2 p3 d).1.1.1,(cA r p1 p2 p3 d).1.1.2.1,(cA r p1 p2 p3 d).1.1.2.2,(cA r p1 p2 p3 d).1.2,(cA r p1 p2 p3 d).2)) y_.1 y_.2.1 y_.2.2.1 y_.2.2.2.1 y_.2.2.2.2.1)) (Ep ((fun (r:RH) (p1:List Int) (p2:List Int) (p3:List Int) (d:Dc)=>((cA r p1 p2 p3 d).1.1.1,(cA r p1 p2 p3 d).1.1.2.1,(cA r p1 p2 p3 d).1.1.2.2,(cA r p1 p2 p3 d).1.2,(cA r p1 p2 p3 d).2)) y_.1 y_.2.1 y_.2.2.1 y_.2.2.2.1 y_.2.2.2.2.1))
theorem Ry (r:RH) (p1:List Int) (p2:List Int) (p3:List Int) (d:Dc) (h_:pH r p1 p2 p3 d):(xH r p1 p2 p3 d).Is (((cA r p1 p2 p3 d).1.1.1,(cA r p1 p2 p3 d).1.1.2.1,(cA r p1 p2 p3 d).1.1.2.2,(cA r p1 p2 p3 d).1.2,(cA r p1 p2 p3 d).2)):=by
 obtain ⟨hr,h3,h4,h5,h6⟩:=h_
 obtain ⟨b1,b2,b3,b4,b5,b6,b7⟩:=vB r p1 p2 p3 d
 obtain ⟨k1,k2,k3,k4,k5,k6,k7⟩:=hr
 have hc:=B6 r.part
 have ea:aY r p1 p2 p3 d=fL r p1 p2 p3 d:=rfl
 have w1:IntKind.i64.wrap (2*r.node)=2*r.node:=ar (by omega) (by omega)
 have w2:IntKind.i64.wrap (2*r.node+(fL r p1 p2 p3 d).1)=2*r.node+(fL r p1 p2 p3 d).1:=ar (by omega) (by omega)
 have w3:IntKind.i64.wrap (2*r.node+(fL r p1 p2 p3 d).1-jP r.part)=2*r.node+(fL r p1 p2 p3 d).1-jP r.part:=ar (by omega) (by omega)
 have Br:gQ r p1 p2 p3 d=2*r.node+(fL r p1 p2 p3 d).1-jP r.part:=by
  unfold gQ;rw[ea,b2,HX,w1,w2,w3]
 have ea2:tj r p1 p2 p3 d=r.t:=by unfold tj;rw[ea,b4]
 have ea3:gR r p1 p2 p3 d=⟨(fL r p1 p2 p3 d).2.1.cs,r.bh,r.part,1,r.t⟩:=by
  unfold gR;rw[ea,b1,b2,ea2]
 simp only[xH,cA,an,bs,jL,al,ea,Br,ea2,ea3,b1,b2,b3,b4,w1,w2,HX]
 refine ⟨⟨k1,k2,h3,h4,h5,h6⟩,trivial,trivial,size_pos _,fun h=>by rw[if_pos h],fun h=>?_⟩
 rw[if_neg h]
 refine ⟨⟨by omega,by omega,k3.1,k3.2,by simp only;omega,by simp only;omega⟩,fun h1=>by rw[if_pos h1],fun h1=>by rw[if_neg (by simp[h1])]⟩
theorem Rz:Pc.Ok Tryz.prog 80:=
 cg (tys:= []) (A:=(aj (ai (aP 0 0)) (aj (ai (aP 7 0)) ag))) (H:=Bs) (LT:=fun x_ y_=>(fun (r:RH) (p1:List Int) (p2:List Int) (p3:List Int) (d:Dc)=> []) y_.1 y_.2.1 y_.2.2.1 y_.2.2.2.1 y_.2.2.2.2.1) (ks:= [.one 2,.one 4,.one 6,.fr [.sym],.syms,.auto,.aD]) (V:=Eo) (D:=Ep) (T:=fun x_ y_=>xH y_.1 y_.2.1 y_.2.2.1 y_.2.2.2.1 y_.2.2.2.2.1) (pre:=fun x_ y_=>(fun (r:RH) (p1:List Int) (p2:List Int) (p3:List Int) (d:Dc)=>pH r p1 p2 p3 d) y_.1 y_.2.1 y_.2.2.1 y_.2.2.2.1 y_.2.2.2.2.1) (sp:=fun x_ y_=>(fun (r:RH) (p1:List Int) (p2:List Int) (p3:List Int) (d:Dc)=>((cA r p1 p2 p3 d).1.1.1,(cA r p1 p2 p3 d).1.1.2.1,(cA r p1 p2 p3 d).1.1.2.2,(cA r p1 p2 p3 d).1.2,(cA r p1 p2 p3 d).2)) y_.1 y_.2.1 y_.2.2.1 y_.2.2.2.1 y_.2.2.2.2.1) mixed ((ak Wl (ak Rt (ak LU aF)))) Tryz.func80 (by kernel_rfl) Tryz.call80 (fun x_ y_=>L1 y_.1 y_.2.1 y_.2.2.1 y_.2.2.2.1 y_.2.2.2.2.1) (fun x_ y_=>H0 y_.1 y_.2.1 y_.2.2.1 y_.2.2.2.1 y_.2.2.2.2.1) (fun x_ y_ h=>Ry y_.1 y_.2.1 y_.2.2.1 y_.2.2.2.1 y_.2.2.2.2.1 h)
end Go.Proofs.YtjalaohajcpllaaGreat
end
section
set_option linter.unusedVariables false
set_option linter.unusedSimpArgs false
namespace Go.Proofs.YtjalaohajcpllaaGreat
open Go Go.Ev Go.Lib Go.RowKit
set_option maxHeartbeats 4000000
theorem RA (w:World):Calls Tryz.prog 59 #[.slice none 0 0,.int .i64 0] w fun e w'=>e= .returned (.slice none 0 0)∧w'=w:=by
 go_enter Tryz.func59,Tryz.ntmps59
 go_wp2
 go_ret
 exact ⟨rfl,rfl⟩
theorem RC (n:Nat) (w:World) (h0:0<n) (h1:n≤140737488355328):Calls Tryz.prog 59 #[.slice none 0 0,.int .i64 n] w fun e w'=>
  e= .returned (.slice (some ⟨w.heap.size,0,none⟩) 0 (grownCap w n 0 5))∧
   w'=w.drew.alloc (.cells (#[]++Builtin.zeroCells (Value.int .u8 0).cells n++Builtin.zeroCells (Value.int .u8 0).cells (grownCap w n 0 5-n)) 5):=by
 have h2: ¬ ((n:Int)<0):=by omega
 have h3:wrap64 ((0:Int)-(0:Int))=0:=by unfold wrap64;omega
 have h4:wrap64 ((n:Int)-0)=(n:Int):=by unfold wrap64;omega
 have h5:(n:Int)>0:=by omega
 have arX:grownCap w n 0 5≤9223372036854775807:=by
  have:=grownCap_le_maxLen w n 0 5 (by unfold maxLen;omega)
  unfold maxLen at this
  omega
 have hrz: ∀ ty,(Builtin.append_ #[27,3] ty #[.slice none 0 0,.int .i64 n]).run Tryz.prog w=
   .ok (.slice (some ⟨w.heap.size,0,none⟩) n (grownCap w n 0 5)) (w.drew.alloc (.cells (#[]++Builtin.zeroCells (Value.int .u8 0).cells n++Builtin.zeroCells (Value.int .u8 0).cells (grownCap w n 0 5-n)) 5)):=fun ty=>by
  have hi0:(Tryz.prog.info? 5).map (fun i=>(i.zero,i.size,i.bytes))=some (some (.int .u8 0),1,1):=by kernel_rfl
  obtain ⟨i,hi,he⟩:=map_some hi0
  have e1:i.zero=some (.int .u8 0):=congrArg Prod.fst he
  have e2:i.size=1:=congrArg (fun x=>x.2.1) he
  have e3:i.bytes=1:=congrArg (fun x=>x.2.2) he
  have hb:n*i.bytes≤140737488355328:=by rw[e3];omega
  have h:=Lib.run_append_grow_zeros (P:=Tryz.prog) w 27 3 ty 5 i (.int .u8 0) .i64 .i64 (by kernel_rfl) (by kernel_rfl) hi e1 none 0 0 [] (run_firstCells_none w.drew i.size 0 0 0) n h0 (by omega) (by omega) (by omega) (by omega)
   (growslice_fits (need:=0+n) (old:=0) (by omega) (by rw[Nat.zero_add];exact hb))
  rw[Nat.zero_add] at h
  exact h
 have hGn:n≤grownCap w n 0 5:=grownCap_ge w _ _ _
 generalize grownCap w n 0 5=G at*
 go_enter Tryz.func59,Tryz.ntmps59
 go_wp2_with (at_builtin;refine Lib.wpList_append_run _ rfl _ _ _ _ rfl _ _ rfl rfl _ _ (hrz _) ?_)
 all_goals (go_ret;exact ⟨rfl,rfl⟩)
def Wt:ao:=⟨[],fun args hp=>match args,hp with
 | [.one (.sc (.gH (.slice none 0 0))),.one (.sc (.int .i64 n))],[]=> .leaf (some (0≤n.val∧n.val≤140737488355328)) (.one (.sc (.sl 0 0))) [(0,.own 0 (.int .u8) [])]
 |_,_=> .fail⟩
theorem abK:Wt.Ok Tryz.prog 59:=by
 refine ⟨fun args hp Q h=>gq.done Tryz.call59 ?_⟩
 simp only[Wt] at h
 split at h
 ·rename_i args hp n
  obtain ⟨⟨h0,h1⟩,hq⟩:=h
  intro β w vals hh dc
  cases dc with
  |cons a1 t1=>
   cases t1 with
   |cons a2 t2=>
    cases t2
    rename_i v1 v2
    obtain rfl:v1= .slice none 0 0:=a1.2
    have e:v2= .int .i64 n.val:=a2
    subst e
    rcases Int.lt_or_le 0 n.val with hn|hn
    ·obtain ⟨k,hk⟩: ∃ k:Nat,n.val=k:=⟨n.val.toNat,by omega⟩
     rw[hk] at h0 h1 hn ⊢
     refine (RC k w (by omega) (by omega)).mono ?_
     rintro e w' ⟨rfl,rfl⟩
     have hGn:k≤grownCap w k 0 5:=grownCap_ge w _ _ _
     generalize grownCap w k 0 5=G at*
     generalize hcs:(#[]++Builtin.zeroCells (Value.int .u8 0).cells k++Builtin.zeroCells (Value.int .u8 0).cells (G-k))=cs
     have hlen:cs.toList.length=G:=by
      rw[← hcs];simp[Builtin.zeroCells,Value.cells];omega
     have hdr:aV w [] β β [] w.drew:=hh.drew _ _
     obtain ⟨β',k1,k2,k3⟩:=hdr.qF (id:=0) rfl (v:= .slice (some ⟨w.heap.size,0,none⟩) 0 G) (ver:=0) (t:= .int .u8) (l:= []) (w':=w.drew.alloc (.cells cs 5)) (by simp) rfl rfl (fun b hb=>heap_alloc_old w.drew _ hb)
      ⟨_,_,_,rfl,rfl,Nat.zero_le _,fun e=>(by cases e),fun _=>⟨_,[],[],cs.toList,5,(0,0),rfl,rfl,by simpa using heap_alloc_new w.drew (.cells cs 5),rfl,.nil,by simp[Ty.w,hlen],.inl rfl⟩⟩
      (fun a n c e _=>by cases e;exact Nat.le_refl _)
     exact ⟨_,β',_,_,rfl,⟨_,hq,rfl⟩,⟨rfl,0,by rw[show aE _ []=setAt [] 0 _ from rfl,cN,if_pos rfl];rfl,Nat.le_refl _,fun _=>k3.symm⟩,k1⟩
    ·have Bi:n.val=0:=by omega
     rw[Bi]
     refine (RA w).mono ?_
     rintro e w' ⟨rfl,rfl⟩
     obtain ⟨β',k1,k2,k3⟩:=hh.Kz (.int .u8)
     exact ⟨_,β',_,_,rfl,⟨_,hq,rfl⟩,k3,k1⟩
 ·exact h.elim
end Go.Proofs.YtjalaohajcpllaaGreat
end
section
set_option linter.unusedVariables false
set_option linter.unusedSimpArgs false
namespace Go.Proofs.YtjalaohajcpllaaGreat
open Go Go.Ev
set_option maxRecDepth 100000
section
noncomputable abbrev H2:Func:=Tryz.f30
abbrev H3:ba (List LV) (List (List Int)×Int×List (List Int)×Int×Int×Unit):=ae (ai (eS false false (.sl u8))) (jk 2 (ae (ai (ax .i64)) (jk 5 (ae (ai (eS false false (.sl u8))) (ae (ai (ax .i64)) (ae (ai (ax .i64)) (jk 24 ag)))))))
abbrev aeP:List Wk:= [.fr (dA 36 [(0,.aq),(3,.sym),(9,.aq),(10,.sym),(11,.sym)])]
abbrev Wu:ba (List LV) (List (List Int)×Int×Unit):=ae (ai (eS false false (.sl u8))) (jk 2 (ae (ai (ax .i64)) (jk 32 ag)))
abbrev ajM:List Wk:= [.fr (dA 36 [(0,.aq),(3,.sym)])]
theorem Wv (l0 ls:List (List Int)) (s n i:Int):dR Tryz.prog [] [] H2 0 [] (wsE aeP 0 ajM) ((bG H3 ag).wr ((l0,s,ls,n,i,()),()))=
  .ite (decide (i<n)) (.need (0≤i∧i<ls.length) (.ite (decide (IntKind.i64.wrap (s+(ls.getD i.toNat []).length)<0)) .fail
   (.leaf .normal ((bG H3 ag).wr ((l0,IntKind.i64.wrap (s+(ls.getD i.toNat []).length),ls,n,IntKind.i64.wrap (i+1),()),())))))
   (.leaf (.exit 0) ((bG Wu ag).wr ((l0,s,()),()))):=by kernel_rfl
theorem B7 (ls:List (List Int)) (i:Nat) (h:i<ls.length):(ls.take (i+1)).flatten=(ls.take i).flatten++ls.getD i []:=by
 rw[List.take_add_one,List.flatten_append,List.getD_eq_getElem?_getD,List.getElem?_eq_getElem h]
 simp
theorem Er (ls:List (List Int)) (i:Nat):(ls.take i).flatten.length≤ls.flatten.length:=by
 have:ls.flatten=(ls.take i).flatten++(ls.drop i).flatten:=by rw[← List.flatten_append,List.take_append_drop]
 rw[this,List.length_append];omega
noncomputable def aeQ (x:(List (List Int)×Int×List (List Int)×Int×Int×Unit)×Unit):aU:=
 .need (x.1.2.1=0∧x.1.2.2.2.1=x.1.2.2.1.length∧x.1.2.2.2.2.1=0∧x.1.2.2.1.flatten.length≤140737488355328∧x.1.2.2.1.length≤140737488355328) (.leaf (.exit 0) ((bG Wu ag).wr ((x.1.1,(x.1.2.2.1.flatten.length:Int),()),())))
theorem RD (x):Ex Tryz.prog [] (.loop (aW H2 0)) ((bG H3 ag).wr x) (aeQ x):=by
 obtain ⟨⟨l0,s,ls,n,i,_⟩,_⟩:=x
 refine Ex.need fun ⟨h1,h2,h3,h4,h5⟩=>?_
 simp only at h1 h2 h3 h4 h5
 subst h1 h2 h3
 refine OJ mixed aF (aQ.nil _) (fun k=>ls.length-k) (fun k:Nat=>(bG H3 ag).wr ((l0,((ls.take k).flatten.length:Int),ls,(ls.length:Int),(k:Int),()),())) (fun k=>k≤ls.length)
  (fun k=> .leaf (.exit 0) ((bG Wu ag).wr ((l0,(ls.flatten.length:Int),()),()))) (fun k _=>Wv l0 ls _ _ _) (fun k R hk hs=>?_) 0 (Nat.zero_le _)
 ·have hle:=Er ls k
  refine ⟨fun hb=>?_,fun hb=>?_⟩
  ·have fD:k<ls.length:=by simpa using hb
   have hft:=B7 ls k fD
   have anY:=Er ls (k+1)
   have hlen:((ls.take (k+1)).flatten.length:Int)=(ls.take k).flatten.length+(ls.getD k []).length:=by rw[hft,List.length_append];omega
   refine ⟨⟨by omega,by omega⟩,fun uF=>?_,fun _=> .inl ⟨rfl,k+1,?_,fD,by omega,hs⟩⟩
   ·rw[ar (by omega) (by simp only[Int.toNat_natCast];omega)] at uF
    simp at uF;omega
   ·rw[ar (by omega) (by simp only[Int.toNat_natCast];omega),ar (by omega) (by omega)]
    simp only[Int.toNat_natCast]
    rw[← hlen]
    rfl
  ·have hge:k=ls.length:=by simp at hb;omega
   subst hge
   rw[List.take_length]
   exact .inr ⟨by simp,hs⟩
abbrev H4:ba (List LV) (List (List Int)×Int×Int×Unit):=jk 6 (aj (ai (wX 0 0)) (jk 18 (ae (ai (eS false false (.sl u8))) (ae (ai (ax .i64)) (ae (ai (ax .i64)) (jk 8 ag))))))
abbrev aeR:List Wk:= [.fr (dA 36 [(6,.aq),(25,.aq),(26,.sym),(27,.sym)]),.auto,.aD]
abbrev Ww:ba (List LV) Unit:=jk 6 (aj (ai (wX 0 0)) (jk 29 ag))
abbrev ajN:List Wk:= [.fr (dA 36 [(6,.aq)]),.auto,.aD]
abbrev H5:ba Hp (List Int×Unit):=ae (eE 0 u8) ag
theorem Wx (ls:List (List Int)) (acc:List Int) (n i:Int):dR Tryz.prog [] [] H2 2 [] (wsE aeR 2 ajN) ((bG H4 H5).wr ((ls,n,i,()),(acc,())))=
  .ite (decide (i<n)) (.need (0≤i∧i<ls.length) (.need ((acc.length+(ls.getD i.toNat []).length)*1≤70368744177664∧acc.length+(ls.getD i.toNat []).length≤70368744177664)
   (.leaf .normal ((bG H4 H5).wr ((ls,n,IntKind.i64.wrap (i+1),()),(acc++ls.getD i.toNat [],()))))))
   (.leaf (.exit 2) ((bG Ww H5).wr ((),(acc,())))):=by kernel_rfl
noncomputable def aeS (x:(List (List Int)×Int×Int×Unit)×List Int×Unit):aU:=
 .need (x.1.2.1=x.1.1.length∧x.1.2.2.1=0∧x.2.1= []∧x.1.1.flatten.length≤70368744177664∧x.1.1.length≤140737488355328) (.leaf (.exit 2) ((bG Ww H5).wr ((),(x.1.1.flatten,()))))
theorem RE (x):Ex Tryz.prog [] (.loop (aW H2 2)) ((bG H4 H5).wr x) (aeS x):=by
 obtain ⟨⟨ls,n,i,_⟩,acc,_⟩:=x
 refine Ex.need fun ⟨h2,h3,h1,h4,h5⟩=>?_
 simp only at h1 h2 h3 h4 h5
 subst h1 h2 h3
 refine OJ mixed aF (aQ.nil _) (fun k=>ls.length-k) (fun k:Nat=>(bG H4 H5).wr ((ls,(ls.length:Int),(k:Int),()),((ls.take k).flatten,()))) (fun k=>k≤ls.length)
  (fun k=> .leaf (.exit 2) ((bG Ww H5).wr ((),(ls.flatten,())))) (fun k _=>Wx ls _ _ _) (fun k R hk hs=>?_) 0 (Nat.zero_le _)
 refine ⟨fun hb=>?_,fun hb=>?_⟩
 ·have fD:k<ls.length:=by simpa using hb
  have hft:=B7 ls k fD
  have anY:=Er ls (k+1)
  have hlen:(ls.take (k+1)).flatten.length=(ls.take k).flatten.length+(ls.getD k []).length:=by rw[hft,List.length_append]
  refine ⟨⟨by omega,by omega⟩,⟨by simp only[Int.toNat_natCast];omega,by simp only[Int.toNat_natCast];omega⟩,.inl ⟨rfl,k+1,?_,fD,by omega,hs⟩⟩
  rw[ar (by omega) (by omega)]
  simp only[Int.toNat_natCast]
  rw[← hft]
  rfl
 ·have hge:k=ls.length:=by simp at hb;omega
  subst hge
  rw[List.take_length]
  exact .inr ⟨by simp,hs⟩
abbrev agu:ba (List LV) (List (List Int)×Unit):=ae (ai (eS false false (.sl u8))) ag
noncomputable def Bu:ao:=ao.bS [some (.sl u8)] agu ag fun x _=> .leaf (some (x.1.flatten.length≤70368744177664∧x.1.length≤140737488355328)) (.one (.sc (.sl 0 0))) [(0,.own 0 u8 x.1.flatten)]
noncomputable abbrev aeT:fk:= [(0,fI (bG H3 ag) 0 aeP aeQ),(2,fI (bG H4 H5) 0 aeR aeS)]
theorem Wy (ls:List (List Int)):aS Tryz.prog [(59,Wt)] aeT H2 (agu.wr (ls,())) [] [.auto,.aD]=
  .need ((0:Int)=0∧(ls.length:Int)=ls.length∧(0:Int)=0∧ls.flatten.length≤140737488355328∧ls.length≤140737488355328) (.need (0≤(ls.flatten.length:Int)∧(ls.flatten.length:Int)≤140737488355328)
   (.need ((ls.length:Int)=ls.length∧(0:Int)=0∧([]:List Int)= []∧ls.flatten.length≤70368744177664∧ls.length≤140737488355328) (.leaf (.one (.sc (.sl 0 0))) [some (.own 0 u8 ls.flatten)]))):=by kernel_rfl
theorem mD:Bu.Ok Tryz.prog 30:=by
 refine (ao.bf Tryz.call30 fun x y Q h=>?_).sym
 obtain ⟨ls,_⟩:=x
 obtain ⟨⟨h1,h2⟩,hq⟩:=h
 refine (ay mixed (ak abK aF) Tryz.func30 rfl (LT:=aeT) (ks:= [.auto,.aD]) (aQ.cO (nx rfl (cP (hp:= []) RD) (nx rfl (cP (hp:= []) RE) pc)))).use (D:= [(0,.own 0 u8 ls.flatten)]) ?_ hq
 show (aS _ _ _ _ (agu.wr (ls,())) [] _).sat _
 rw[Wy]
 simp only at h1 h2
 exact ⟨⟨rfl,rfl,rfl,by omega,by omega⟩,⟨by omega,by omega⟩,⟨rfl,rfl,rfl,h1,h2⟩,rfl,rfl⟩
end
end Go.Proofs.YtjalaohajcpllaaGreat
end
section
set_option linter.unusedVariables false
set_option linter.unusedSimpArgs false
namespace Go.Proofs.YtjalaohajcpllaaGreat
open Go Go.Ev
set_option maxRecDepth 100000
def kP:Nat→Int→List Int
 |0,_=> []
 |k+1,x=>x%256::kP k (x/256)
theorem iS: ∀ (k:Nat) (x:Int),(kP k x).length=k
 |0,_=>rfl
 |k+1,x=>by simp[kP,iS k]
theorem div_pow (x:Int) (i:Nat):x/256/256 ^ i=x/256 ^ (i+1):=by
 rw[Int.pow_succ,Int.mul_comm,Int.ediv_ediv_of_nonneg (by omega)]
theorem B8: ∀ (i:Nat) (x:Int),kP (i+1) x=kP i x++ [x/256 ^ i%256]
 |0,x=>by simp[kP]
 |i+1,x=>by
  rw[kP,B8 i,kP,List.cons_append,div_pow]
theorem H6: ∀ (k:Nat) (x:Int),kP k x=(List.range k).map fun i=>x/256 ^ i%256
 |0,_=>rfl
 |k+1,x=>by rw[B8,H6 k,List.range_succ,List.map_append];rfl
theorem H7 (x:Int):aS Tryz.prog [] [] Tryz.f97 (ba.wr (ae (ai (ax .u64)) ag) (x,())) [] [.auto,.aD]=
 End.need ((1:Nat)≤(70368744177664:Nat)∧(1:Nat)≤(70368744177664:Nat)) (End.need ((2:Nat)≤(70368744177664:Nat)∧(2:Nat)≤
 (70368744177664:Nat)) (End.need ((3:Nat)≤(70368744177664:Nat)∧(3:Nat)≤(70368744177664:Nat)) (End.need ((4:Nat)≤(70368744177664:
 Nat)∧(4:Nat)≤(70368744177664:Nat)) (End.need ((5:Nat)≤(70368744177664:Nat)∧(5:Nat)≤(70368744177664:Nat)) (End.need ((6:Nat)≤
 (70368744177664:Nat)∧(6:Nat)≤(70368744177664:Nat)) (End.need ((7:Nat)≤(70368744177664:Nat)∧(7:Nat)≤(70368744177664:Nat))
 (End.need ((8:Nat)≤(70368744177664:Nat)∧(8:Nat)≤(70368744177664:Nat)) (End.leaf (LV.one (VV.sc (SV.sl (0:Nat) (0:Nat)))) [some
 (Item.own (0:Nat) (Ty.int IntKind.u8) ([IntKind.u8.wrap (shr IntKind.u64 x (0:Int))]++ [IntKind.u8.wrap (shr IntKind.u64 x (8:Int))]++
 [IntKind.u8.wrap (shr IntKind.u64 x (16:Int))]++ [IntKind.u8.wrap (shr IntKind.u64 x (24:Int))]++ [IntKind.u8.wrap (shr IntKind.u64 x (32:
 Int))]++ [IntKind.u8.wrap (shr IntKind.u64 x (40:Int))]++ [IntKind.u8.wrap (shr IntKind.u64 x (48:Int))]++ [IntKind.u8.wrap (shr IntKind.u64 x
 (56:Int))]))])))))))):=by kernel_rfl
noncomputable def Wz:ao:=ao.bS [] (ae (ai (ax .u64)) ag) ag fun x _=> .leaf (some (0≤x.1∧x.1<18446744073709551616)) (.one (.sc (.sl 0 0))) [(0,.own 0 u8 (kP 8 x.1))]
theorem agv:Wz.Ok Tryz.prog 97:=by
 refine (ao.bf Tryz.call97 fun x y Q h=>?_).sym
 obtain ⟨x,_⟩:=x
 obtain ⟨⟨h1,h2⟩,hq⟩:=h
 simp only at h1 h2
 refine (ay mixed aF Tryz.func97 rfl (LT:= []) (ks:= [.auto,.aD]) (aQ.nil _)).use (D:= [(0,.own 0 u8 (kP 8 x))]) ?_ hq
 show (aS _ _ _ _ (ba.wr (ae (ai (ax .u64)) ag) (x,())) [] _).sat _
 rw[H7]
 have e: ∀ i:Nat,i<8→IntKind.u8.wrap (shr .u64 x (8*i:Nat))=x/256 ^ i%256:=by
  intro i hi
  have e1:((2 ^ (8*i):Nat):Int)=256 ^ i:=by rw[Nat.pow_mul,Int.natCast_pow];rfl
  rw[eG .u64 x (8*i) (by simp[IntKind.bits];omega),wrap_u8,e1]
 refine ⟨by omega,by omega,by omega,by omega,by omega,by omega,by omega,by omega,rfl,?_⟩
 show _= [some (Item.own 0 u8 (kP 8 x))]
 rw[H6,← List.map_congr_left (fun i hi=>e i (by simpa using hi))]
 rfl
end Go.Proofs.YtjalaohajcpllaaGreat
end
section
set_option linter.unusedVariables false
set_option linter.unusedSimpArgs false
namespace Go.Proofs.YtjalaohajcpllaaGreat
open Go Go.Ev
set_option maxRecDepth 100000
abbrev zk {Y:Type} (r:ba (List SV) Y):ba (List SV) (Int×Int×Y):=ae (ax .i64) (ae (ax .i64) r)
abbrev Pd {Y:Type} (r:ba (List SV) Y):ba (List SV) (Int×Int×Int×List Int×List Int×Y):=ae (ax .u64) (ae (ax .u64) (ae (ax .i64) (ae (wY u8 64) (ae (wY u8 64) r))))
abbrev WA:ba (List LV) ((Int×Int×Unit)×Unit):=ae (Du (zk ag)) ag
abbrev RF:ba (List LV) ((Int×Int×Int×List Int×List Int×Unit)×Unit):=ae (Du (Pd ag)) ag
abbrev agw:ba (List LV) ((Int×Int×Int×Int×Int×List Int×List Int×List Int×Unit)×Unit):=ae (Du (zk (Pd (ae (wY u8 64) ag)))) ag
def dO (a b:Int):List Int:=if 0≤a∧a<8∧1≤b∧b≤16 then [66,74,75,49,a,b,0,0] else []
def mE (c v s:Int):Bool:=decide (v≤c∧1≤s∧s≤131072)
noncomputable def WB:ao:=ao.bS [] WA ag fun x _=> .leaf none (.one (.sc (.sl 0 0))) [(0,.own 0 u8 (dO x.1.1 x.1.2.1))]
noncomputable def WC:ao:=ao.bS [] RF ag fun x _=> .leaf none (nB (mE x.1.1 x.1.2.1 x.1.2.2.1)) []
theorem Es (a b:Int):aS Tryz.prog [(30,Bu)] [] Tryz.f57 (WA.wr ((a,b,()),())) [] [.cC 0 u8,.auto,.aD]=
 End.ite (decide (a<(0:Int))==false) (End.ite (decide ((8:Int)≤a)==false) (End.ite (decide (b<(1:Int))==false) (End.ite (decide ((16:
 Int)<b)) (End.leaf (LV.one (VV.sc (SV.sl (0:Nat) (0:Nat)))) [some (Item.own (0:Nat) (Ty.int IntKind.u8) [])]) (End.need ((8:Nat)≤
 (70368744177664:Nat)∧(2:Nat)≤(140737488355328:Nat)) (End.leaf (LV.one (VV.sc (SV.sl (0:Nat) (0:Nat)))) [some (Item.own (0:Nat) (Ty.int
 IntKind.u8) [[(66:Int),(74:Int),(75:Int),(49:Int)],[IntKind.u8.wrap a,IntKind.u8.wrap b,(0:Int),(0:Int)]].flatten)]))) (End.leaf
 (LV.one (VV.sc (SV.sl (0:Nat) (0:Nat)))) [some (Item.own (0:Nat) (Ty.int IntKind.u8) [])])) (End.leaf (LV.one (VV.sc (SV.sl (0:Nat) (0:
 Nat)))) [some (Item.own (0:Nat) (Ty.int IntKind.u8) [])])) (End.leaf (LV.one (VV.sc (SV.sl (0:Nat) (0:Nat)))) [some (Item.own (0:Nat) (Ty.int
 IntKind.u8) [])]):=by kernel_rfl
theorem L2 (c v s:Int) (a b:List Int):aS Tryz.prog [] [] Tryz.f96 (RF.wr ((c,v,s,a,b,()),())) [] [.fr [.sym],.auto]=
 End.ite (decide (v≤c)==true) (End.ite (decide ((1:Int)≤s)==true) (End.leaf (LV.one (VV.sc (SV.bool (SB.sym (decide (s≤(131072:Int)))))))
 []) (End.leaf (LV.one (VV.sc (SV.bool (SB.sym false)))) [])) (End.leaf (LV.one (VV.sc (SV.bool (SB.sym false)))) []):=by kernel_rfl
theorem WD (c v s:Int) (a b:List Int):aS Tryz.prog [(96,WC),(97,Wz),(30,Bu)] [] Tryz.f58 (RF.wr ((c,v,s,a,b,()),())) [] [.cC 0 u8,.auto,.aD]=
 End.ite (!mE c v s) (End.leaf (LV.one (VV.sc (SV.sl (0:Nat) (0:Nat)))) [some (Item.own (0:Nat) (Ty.int IntKind.u8) [])]) (End.need ((0:Int)
 ≤c∧c<(18446744073709551616:Int)) (End.need ((0:Int)≤v∧v<(18446744073709551616:Int)) (End.need ((0:Int)≤IntKind.u64.wrap s∧
 IntKind.u64.wrap s<(18446744073709551616:Int)) (End.need ((0:Int)≤(0:Int)∧(0:Int)≤(64:Int)∧(64:Int)≤(64:Int)) (End.need ((0:
 Int)≤(0:Int)∧(0:Int)≤(64:Int)∧(64:Int)≤(64:Int)) (End.need ([kP (8:Nat) c,kP (8:Nat) v,kP (8:Nat) (IntKind.u64.wrap
 s),List.take (64:Nat) (List.drop (0:Nat) a),List.take (64:Nat) (List.drop (0:Nat) b)].flatten.length≤(70368744177664:Nat)∧(5:Nat)≤
 (140737488355328:Nat)) (End.leaf (LV.one (VV.sc (SV.sl (0:Nat) (0:Nat)))) [some (Item.own (0:Nat) (Ty.int IntKind.u8) [kP (8:Nat) c,kP
 (8:Nat) v,kP (8:Nat) (IntKind.u64.wrap s),List.take (64:Nat) (List.drop (0:Nat) a),List.take (64:Nat) (List.drop (0:Nat)
 b)].flatten)]))))))):=by kernel_rfl
theorem kQ {l m:List Int} (h:l=m): [some (Item.own 0 u8 l)]=aE [(0,Item.own 0 u8 m)] []:=by rw[h];rfl
theorem Pe:WB.Ok Tryz.prog 57:=by
 refine (ao.bf Tryz.call57 fun x y Q h=>?_).sym
 obtain ⟨⟨a,b,_⟩,_⟩:=x
 refine (ay mixed (ak mD aF) Tryz.func57 rfl (LT:= []) (ks:= [.cC 0 u8,.auto,.aD]) (aQ.nil _)).use (D:= [(0,.own 0 u8 (dO a b))]) ?_ h.2
 show (aS _ _ _ _ (WA.wr ((a,b,()),())) [] _).sat _
 rw[Es]
 refine ⟨fun h1=>⟨fun h2=>⟨fun h3=>⟨fun h4=>⟨rfl,kQ ?_⟩,fun h4=>⟨by omega,rfl,kQ ?_⟩⟩,fun h3=>⟨rfl,kQ ?_⟩⟩,fun h2=>⟨rfl,kQ ?_⟩⟩,fun h1=>⟨rfl,kQ ?_⟩⟩<;>
  simp at* <;>unfold dO<;>first|(rw[if_neg (by omega)])|(rw[if_pos (by omega),wrap_u8,wrap_u8,Int.emod_eq_of_lt (by omega) (by omega),Int.emod_eq_of_lt (by omega) (by omega)])
theorem WE {b c:Bool} (h:b=c):nB b=nB c:=by rw[h]
theorem WG:WC.Ok Tryz.prog 96:=by
 refine (ao.bf Tryz.call96 fun x y Q h=>?_).sym
 obtain ⟨⟨c,v,s,a,b,_⟩,_⟩:=x
 refine (ay mixed aF Tryz.func96 rfl (LT:= []) (ks:= [.fr [.sym],.auto]) (aQ.nil _)).use (D:= []) ?_ h.2
 show (aS _ _ _ _ (RF.wr ((c,v,s,a,b,()),())) [] _).sat _
 rw[L2]
 refine ⟨fun h1=>⟨fun h2=>⟨WE ?_,rfl⟩,fun h2=>⟨WE ?_,rfl⟩⟩,fun h1=>⟨WE ?_,rfl⟩⟩<;>simp_all[mE]<;>omega
def iT (c v s:Int) (a b:List Int):List Int:=if mE c v s=true then kP 8 c++kP 8 v++kP 8 s++a.take 64++b.take 64 else []
theorem Et {c v s:Int} (h:mE c v s=true):1≤s∧s≤131072:=by simp[mE] at h;omega
noncomputable def ajO:ao:=ao.bS [] RF ag fun x _=> .leaf (some (0≤x.1.1∧x.1.1<18446744073709551616∧0≤x.1.2.1∧x.1.2.1<18446744073709551616)) (.one (.sc (.sl 0 0))) [(0,.own 0 u8 (iT x.1.1 x.1.2.1 x.1.2.2.1 x.1.2.2.2.1 x.1.2.2.2.2.1))]
theorem agx:ajO.Ok Tryz.prog 58:=by
 refine (ao.bf Tryz.call58 fun x y Q h=>?_).sym
 obtain ⟨⟨c,v,s,a,b,_⟩,_⟩:=x
 obtain ⟨⟨h1,h2,h3,h4⟩,hq⟩:=h
 simp only at h1 h2 h3 h4
 refine (ay mixed (ak WG (ak agv (ak mD aF))) Tryz.func58 rfl (LT:= []) (ks:= [.cC 0 u8,.auto,.aD]) (aQ.nil _)).use (D:= [(0,.own 0 u8 (iT c v s a b))]) ?_ hq
 show (aS _ _ _ _ (RF.wr ((c,v,s,a,b,()),())) [] _).sat _
 rw[WD]
 refine ⟨fun hb=>⟨rfl,kQ ?_⟩,fun hb=>?_⟩
 ·simp at hb;simp[iT,hb]
 ·simp at hb
  obtain ⟨r1,r2⟩:=Et hb
  have e:=wrap_u64 (n:=s) (by omega) (by omega)
  rw[e]
  refine ⟨⟨h1,h2⟩,⟨h3,h4⟩,⟨by omega,by omega⟩,⟨by omega,by omega,by omega⟩,⟨by omega,by omega,by omega⟩,⟨?_,by omega⟩,rfl,kQ ?_⟩
  ·simp[iS];omega
  ·simp[iT,hb]
def og (hd mn sg:List Int):List Int:=if hd.length=0∨mn.length=0 then [] else hd++mn++sg.take 64
theorem Bv (a b c v s:Int) (x y z:List Int):aS Tryz.prog [(57,WB),(58,ajO),(30,Bu)] [] Tryz.f29 (agw.wr ((a,b,c,v,s,x,y,z,()),())) [] [.cC 0 u8,.auto,.aD]=
 End.need ((0:Int)≤c∧c<(18446744073709551616:Int)∧(0:Int)≤v∧v<(18446744073709551616:Int)) (End.ite (((↑(dO a b).length:Int)
 ==(0:Int))==false) (End.ite ((↑(iT c v s x y).length:Int)==(0:Int)) (End.leaf (LV.one (VV.sc (SV.sl (0:Nat) (0:Nat)))) [some (Item.own
 (0:Nat) (Ty.int IntKind.u8) [])]) (End.need ((0:Int)≤(0:Int)∧(0:Int)≤(64:Int)∧(64:Int)≤(64:Int)) (End.need ([dO a b,iT c
 v s x y,List.take (64:Nat) (List.drop (0:Nat) z)].flatten.length≤(70368744177664:Nat)∧(3:Nat)≤(140737488355328:Nat)) (End.leaf (LV.one
 (VV.sc (SV.sl (0:Nat) (0:Nat)))) [some (Item.own (0:Nat) (Ty.int IntKind.u8) [dO a b,iT c v s x y,List.take (64:Nat) (List.drop (0:
 Nat) z)].flatten)])))) (End.leaf (LV.one (VV.sc (SV.sl (0:Nat) (0:Nat)))) [some (Item.own (0:Nat) (Ty.int IntKind.u8) [])])):=by kernel_rfl
theorem B9 (a b:Int):(dO a b).length≤8:=by unfold dO;split<;>simp
theorem WH (c v s:Int) (a b:List Int):(iT c v s a b).length≤152:=by unfold iT;split<;>simp[iS];omega
noncomputable def agy:ao:=ao.bS [] agw ag fun x _=> .leaf (some (0≤x.1.2.2.1∧x.1.2.2.1<18446744073709551616∧0≤x.1.2.2.2.1∧x.1.2.2.2.1<18446744073709551616)) (.one (.sc (.sl 0 0)))
 [(0,.own 0 u8 (og (dO x.1.1 x.1.2.1) (iT x.1.2.2.1 x.1.2.2.2.1 x.1.2.2.2.2.1 x.1.2.2.2.2.2.1 x.1.2.2.2.2.2.2.1) x.1.2.2.2.2.2.2.2.1))]
theorem WI:agy.Ok Tryz.prog 29:=by
 refine (ao.bf Tryz.call29 fun x y Q h=>?_).sym
 obtain ⟨⟨a,b,c,v,s,x,y,z,_⟩,_⟩:=x
 obtain ⟨hr,hq⟩:=h
 simp only at hr
 refine (ay mixed (ak Pe (ak agx (ak mD aF))) Tryz.func29 rfl (LT:= []) (ks:= [.cC 0 u8,.auto,.aD]) (aQ.nil _)).use (D:= [(0,.own 0 u8 (og (dO a b) (iT c v s x y) z))]) ?_ hq
 show (aS _ _ _ _ (agw.wr ((a,b,c,v,s,x,y,z,()),())) [] _).sat _
 rw[Bv]
 have h1:=B9 a b
 have h2:=WH c v s x y
 generalize dO a b=hd at*
 generalize iT c v s x y=mn at*
 refine ⟨hr,fun hb=>⟨fun hc=>⟨rfl,kQ ?_⟩,fun hc=>⟨by omega,⟨?_,by omega⟩,rfl,kQ ?_⟩⟩,fun hb=>⟨rfl,kQ ?_⟩⟩
 ·simp at hb hc;simp[og,hc]
 ·simp;omega
 ·simp at hb hc;simp[og,hc,hb]
 ·simp at hb;simp[og,hb]
abbrev bbA:ba (List LV) (List Int×List Int×Unit):=ae (ai (eS false false u8)) (ae (ai (eS false false u8)) ag)
theorem L3 (a b:List Int):aS Tryz.prog [] [] Tryz.f46 (bbA.wr (a,b,())) [] []=
 End.leaf (LV.one (VV.sc (SV.bool (SB.sym (cX a b))))) []:=by kernel_rfl
theorem Eu:aS Tryz.prog [] [] Tryz.f27 [] [] [.auto,.aD]=
 End.leaf (LV.one (VV.sc (SV.sl (0:Nat) (0:Nat)))) [some (Item.own (0:Nat) (Ty.int IntKind.u8) [(98:Int),(111:Int),(111:Int),(116:Int),
 (106:Int),(97:Int),(99:Int),(107:Int)])]:=by kernel_rfl
end Go.Proofs.YtjalaohajcpllaaGreat
end
section
set_option linter.unusedVariables false
set_option linter.unusedSimpArgs false
namespace Go.Proofs.YtjalaohajcpllaaGreat
open Go Go.Ev
set_option maxRecDepth 100000
noncomputable def Ew:ao:=ao.bS [some u8,some u8] bbA ag fun x _=> .leaf none (nB (cX x.1 x.2.1)) []
theorem zl:Ew.Ok Tryz.prog 46:=by
 refine (ao.bf Tryz.call46 fun x y Q h=>?_).sym
 obtain ⟨a,b,_⟩:=x
 refine (ay mixed aF Tryz.func46 rfl (LT:= []) (ks:= []) (aQ.nil _)).use (D:= []) ?_ h.2
 show (aS _ _ _ _ (bbA.wr (a,b,())) [] _).sat _
 rw[L3]
 exact ⟨rfl,rfl⟩
noncomputable def agz:ao:=ao.of [] ag ag fun _ _=> .leaf none (.one (.sc (.sl 0 0))) [(0,.own 0 u8 [98,111,111,116,106,97,99,107])]
theorem WJ:agz.Ok Tryz.prog 27:=by
 refine ao.bf Tryz.call27 fun x y Q h=>?_
 refine (ay mixed aF Tryz.func27 rfl (LT:= []) (ks:= [.auto,.aD]) (aQ.nil _)).use (D:= [(0,.own 0 u8 [98,111,111,116,106,97,99,107])]) ?_ h.2
 show (aS _ _ _ _ [] [] _).sat _
 rw[Eu]
 exact ⟨rfl,rfl⟩
theorem Ey (l:List Int):aS Tryz.prog [(57,WB),(46,Ew)] [] Tryz.f60 (bA.wr (l,())) [] [.fr [.sym],.auto]=
 End.ite ((↑l.length:Int)!=(8:Int)) (End.leaf (LV.cD [VV.agg [SV.int IntKind.i64 (SI.sym (0:Int)),SV.int IntKind.i64 (SI.sym (0:Int))],
 VV.sc (SV.bool (SB.sym false))]) []) (End.need ((0:Int)≤(4:Int)∧(4:Int)<(↑l.length:Int)) (End.need ((0:Int)≤(5:Int)∧(5:Int)<
 (↑l.length:Int)) (End.ite (!cX (dO (IntKind.i64.wrap (l.getD (4:Nat) (0:Int))) (IntKind.i64.wrap (l.getD (5:Nat) (0:Int)))) l)
 (End.leaf (LV.cD [VV.agg [SV.int IntKind.i64 (SI.sym (0:Int)),SV.int IntKind.i64 (SI.sym (0:Int))],VV.sc (SV.bool (SB.sym false))]) [])
 (End.leaf (LV.cD [VV.agg [SV.int IntKind.i64 (SI.sym (IntKind.i64.wrap (l.getD (4:Nat) (0:Int)))),SV.int IntKind.i64 (SI.sym (IntKind.i64.wrap
 (l.getD (5:Nat) (0:Int))))],VV.sc (SV.bool (SB.sym true))]) [])))):=by kernel_rfl
def dC (l:List Int):(Int×Int)×Bool:=
 if l.length=8∧cX (dO (IntKind.i64.wrap (l.getD 4 0)) (IntKind.i64.wrap (l.getD 5 0))) l=true then ((IntKind.i64.wrap (l.getD 4 0),IntKind.i64.wrap (l.getD 5 0)),true) else ((0,0),false)
def zo (r:(Int×Int)×Bool):LV:= .cD [.agg [.int .i64 (.sym r.1.1),.int .i64 (.sym r.1.2)],.sc (.bool (.sym r.2))]
noncomputable def H8:ao:=ao.bS [some u8] bA ag fun x _=> .leaf none (zo (dC x.1)) []
theorem wJ {l:List Int} (h: ¬ (l.length=8∧cX (dO (IntKind.i64.wrap (l.getD 4 0)) (IntKind.i64.wrap (l.getD 5 0))) l=true)):LV.cD [.agg [.int .i64 (.sym 0),.int .i64 (.sym 0)],.sc (.bool (.sym false))]=zo (dC l):=by
 unfold dC;rw[if_neg h];rfl
theorem Ez {l:List Int} (h:l.length=8∧cX (dO (IntKind.i64.wrap (l.getD 4 0)) (IntKind.i64.wrap (l.getD 5 0))) l=true):
  LV.cD [.agg [.int .i64 (.sym (IntKind.i64.wrap (l.getD 4 0))),.int .i64 (.sym (IntKind.i64.wrap (l.getD 5 0)))],.sc (.bool (.sym true))]=zo (dC l):=by
 unfold dC;rw[if_pos h];rfl
theorem L4:H8.Ok Tryz.prog 60:=by
 refine (ao.bf Tryz.call60 fun x y Q h=>?_).sym
 obtain ⟨l,_⟩:=x
 refine (ay mixed (ak Pe (ak zl aF)) Tryz.func60 rfl (LT:= []) (ks:= [.fr [.sym],.auto]) (aQ.nil _)).use (D:= []) ?_ h.2
 show (aS _ _ _ _ (bA.wr (l,())) [] _).sat _
 rw[Ey]
 refine ⟨fun h1=>⟨wJ ?_,rfl⟩,fun h1=>?_⟩
 ·intro h;rw[h.1] at h1;cases h1
 ·have h1':(l.length:Int)=8:=bne_eq_false_iff_eq.1 h1
  refine ⟨⟨by omega,by omega⟩,⟨by omega,by omega⟩,fun h2=>⟨wJ ?_,rfl⟩,fun h2=>⟨Ez ⟨by omega,?_⟩,rfl⟩⟩
  ·intro h;rw[h.2] at h2;cases h2
  ·revert h2;cases cX _ _<;>simp
end Go.Proofs.YtjalaohajcpllaaGreat
end
section
set_option linter.unusedVariables false
set_option linter.unusedSimpArgs false
namespace Go.Proofs.YtjalaohajcpllaaGreat
open Go Go.Ev
set_option maxRecDepth 1000000
abbrev L5:Type:=RH×(List Int)×(List Int)×(List Int)
noncomputable abbrev L6 (x:L5):LV:=LV.one (VV.sc (SV.ptr 0 0))
noncomputable abbrev L7 (x:L5):List (Nat×Ev.Item):= [(0,jRd.wr x.1),(1,jT2.wr ()),(2,Item.own 0 (Ty.int IntKind.u16) x.2.1),(3,
 jT4.wr ()),(4,Item.own 0 (Ty.int IntKind.u16) x.2.2.1),(5,jT6.wr ()),(6,Item.own 0 (Ty.int IntKind.u16) x.2.2.2)]
noncomputable def L8:Tr (L5):=(.need (lJ) (.ret ({cs:= [1024,1024],bh:=0,part:=0,node:=1,t:=(0,0,0)},bo 8,bo
 8,bo 6)))
theorem L9:aS Tryz.prog [(84,xt)] [] Tryz.f78 ((ag).wr (())) ((ag).wr (())) [.fr [.sym],.syms,.auto,.aD,.iP 0 0 2 .i64]=(L8).end L6 L7 ((ag).wr (())):=by kernel_rfl
theorem RG:aQ Tryz.prog ((ag).wr (())) [] (aJ Tryz.f78):=(aQ.nil _)
abbrev tk:Prop:=True
noncomputable def Ma:ao:=ao.bS [] (ag) (ag) fun x_ y_=> .leaf (some (tk)) (L6 ((⟨[1024,1024],0,0,1,(0,0,0)⟩,bo 8,bo 8,bo 6))) (L7 ((⟨[1024,1024],0,0,1,(0,0,0)⟩,bo 8,bo 8,bo 6)))
theorem WK (h_:tk):(L8).Is ((⟨[1024,1024],0,0,1,(0,0,0)⟩,bo 8,bo 8,bo 6)):=by
 exact ⟨trivial,rfl⟩
theorem H9:Ma.Ok Tryz.prog 78:=
 cg (tys:= []) (A:=ag) (H:=ag) (LT:=fun x_ y_=> []) (ks:= [.fr [.sym],.syms,.auto,.aD,.iP 0 0 2 .i64]) (V:=L6) (D:=L7) (T:=fun x_ y_=>L8) (pre:=fun x_ y_=>tk) (sp:=fun x_ y_=>(⟨[1024,1024],0,0,1,(0,0,0)⟩,bo 8,bo 8,bo 6)) mixed ((ak vq aF)) Tryz.func78 (by kernel_rfl) Tryz.call78 (fun x_ y_=>RG) (fun x_ y_=>L9) (fun x_ y_ h=>WK h)
abbrev an0:ba Ev.Item RH:=Bq 179 (cRH 2 4 6)
abbrev jT3:=jT 3
abbrev jT5:=jT 5
abbrev jT7:=jT 7
def cV:Nat→Int→Int→List Int→Dc→RH→List Int→List Int→List Int→List cj→List cj×Bool
 |0,_,_,_,_,_,_,_,_,_=>([],false)
 |n+1,plain,made,b,d,r,p1,p2,p3,out=>
  let f:=b8 b d
  if f.1=true then
   if made=plain then (out,true)
   else
    let x:=cA r p1 p2 p3 f.2.2
    if x.1.2=true then
     if iR x.1.1 made=true∧bt x.1.1≤plain-made then cV n plain (made+bt x.1.1) f.2.1 x.2.2.2.2.2 x.2.1 x.2.2.1 x.2.2.2.1 x.2.2.2.2.1 (out++ [x.1.1])
     else ([],false)
    else cV n plain made f.2.1 x.2.2.2.2.2 x.2.1 x.2.2.1 x.2.2.2.1 x.2.2.2.2.1 out
  else ([],false)
theorem vC {p:List Int} (h:gh p) (n b:Int):gh (c6 p n b):=by
 intro i
 have ha:=nW (p.getD n.toNat 0) b
 unfold c6
 split
 ·rw[vl];split
  ·omega
  ·exact h i
 ·exact h i
theorem WL {c w:Int} (h1:0≤c) (h2:c≤w) (h3:65536≤w) (h4:w<4294967296):wI (sS c w):=by
 unfold sS
 split
 ·exact ⟨h1,by simp only;omega,by simp only;omega,.inr (.inl ⟨rfl,by simp only;omega⟩)⟩
 ·exact ⟨h1,by simp only;omega,h4,.inl ⟨rfl,by simp only;omega⟩⟩
theorem Ia {d:Dc} (h:wI d) {x y:Int} (hx:65536≤x∧x<4294967296) (hy:65536≤y∧y<4294967296) (fD:d.1≤x+y):wI (fJ d x y).2:=by
 have h1:=h.1
 unfold fJ
 split
 ·exact WL h1 (by omega) hx.1 hx.2
 ·exact WL (by omega) (by omega) hy.1 hy.2
theorem tm {d:Dc} (h:wI d) (p:Int):wI (bq p d).2.2:=by
 unfold bq
 split
 ·rename_i hm
  have hb:=gD p h.2.1 h.2.2.1
  have hm':=(sX d).1 hm
  have:=h.2.2.1
  exact Ia h ⟨by omega,by omega⟩ ⟨by omega,by omega⟩ (by omega)
 ·exact h
theorem RI {d:Dc} (h:wI d):wI (cF d).2:=by
 unfold cF
 split
 ·rename_i hm
  have hm':=(sX d).1 hm
  have h1:=h.2.1
  have h2:=h.2.2.1
  exact Ia h ⟨by omega,by omega⟩ ⟨by omega,by omega⟩ (by omega)
 ·exact h
theorem agA {r:RH} {p1 p2 p3:List Int} {d:Dc} (h1:gh p1) (h2:gh p2) (h3:gh p3) (h:wI d):
  let x:=(fL r p1 p2 p3 d).2.2
  gh x.1∧gh x.2.1∧gh x.2.2.1∧wI x.2.2.2:=by
 unfold fL
 split
 ·exact ⟨h1,h2,h3,tm h _⟩
 ·split
  ·exact ⟨h1,h2,h3,RI h⟩
  ·split
   ·exact ⟨vC h1 _ _,h2,h3,tm h _⟩
   ·split
    ·exact ⟨h1,vC h2 _ _,h3,tm h _⟩
    ·exact ⟨h1,h2,vC h3 _ _,tm h _⟩
theorem Mb (r:RH) (p1 p2 p3:List Int) (d:Dc):(cA r p1 p2 p3 d).2.2=(fL r p1 p2 p3 d).2.2:=by
 unfold cA
 simp only
 split
 ·rfl
 ·split<;>rfl
def muR (r:RH):Nat:=(if r.part=0 then 21 else if r.part=1 then 8 else if r.part=2 then 20 else if r.part=3 then 12 else 6)-r.node.toNat.log2
theorem WM (n b:Int) (h:1≤n) (h0:0≤b) (h1:b≤1):(2*n+b).toNat.log2=n.toNat.log2+1:=by
 have e:(2*n+b).toNat/2=n.toNat:=by omega
 rw[Nat.log2_def,if_pos (by omega),e]
theorem abM {n:Int} {k:Nat} (h:1≤n) (h1:n<2 ^ k):n.toNat.log2<k:=by
 rw[Nat.log2_lt (by omega)]
 have:((2 ^ k:Nat):Int)=2 ^ k:=by exact_mod_cast rfl
 omega
theorem abN {r:RH} (h:ROk r) (p1 p2 p3:List Int) (d:Dc) (hw:(cA r p1 p2 p3 d).1.2=false):muR (cA r p1 p2 p3 d).2.1<muR r:=by
 obtain ⟨b1,b2,b3,b4,b5,b6,b7⟩:=vB r p1 p2 p3 d
 obtain ⟨k1,k2,k3,k4,k5,k6,k7⟩:=h
 have hl:=WM r.node (fL r p1 p2 p3 d).1 k4.1 b6 b7
 have Bh:r.node.toNat.log2<(if r.part=0 then 1 else if r.part=1∨r.part=2 then 8 else 6):=by
  refine abM k4.1 ?_
  have:=k4.2
  unfold jP at this
  split at this
  ·rename_i e;rw[if_pos e];simpa using this
  ·rename_i e
   split at this
   ·rename_i e1;rw[if_neg e,if_pos e1];simpa using this
   ·rename_i e1;rw[if_neg e,if_neg e1];simpa using this
 unfold cA at hw ⊢
 simp only at hw ⊢
 have l1:(1:Int).toNat.log2=0:=by decide
 split
 ·rename_i e
  unfold muR
  simp only[hl]
  split at Bh
  ·rename_i e1;simp only[e1,if_true];omega
  ·rename_i e1
   simp only[e1,if_false]
   split at Bh
   ·rename_i e2;rcases e2 with e2|e2
    ·simp only[e2,if_true];omega
    ·simp only[e2];simp;omega
   ·rename_i e2
    rw[if_neg (fun h=>e2 (.inl h)),if_neg (fun h=>e2 (.inr h))]
    split<;>omega
 ·rename_i e
  rw[if_neg e] at hw
  split
  ·rename_i hy;rw[if_pos hy] at hw;cases hw
  ·rename_i hy
   unfold fK at hy ⊢
   simp only at hy ⊢
   unfold muR
   by_cases c0:r.part=0
   ·rw[if_pos c0] at Bh
    simp only[c0,if_true,l1] at hy ⊢
    split<;>simp<;>omega
   ·by_cases c1:r.part=1
    ·simp[c1] at hy
    ·by_cases c2:r.part=2
     ·rw[if_neg c0,if_pos (.inr c2)] at Bh
      simp[c2,l1];omega
     ·by_cases c3:r.part=3
      ·rw[if_neg c0,if_neg (by omega)] at Bh
       simp[c3,l1];omega
      ·simp[c0,c1,c2,c3] at hy
abbrev zp:Type:=(List Int)×Int×Int×(Int×Int×Int)×RH×(List Int)×(List Int)×(List Int)×(List (Int×Int×Int))
noncomputable abbrev vD:ba St zp:=(bG (ae (ai (eS false false (Ty.int IntKind.u8))) (ae (ai (ax IntKind.i64)) (jk 4 (aj
 (ai (aP (0) (0))) (aj (ai (aP (1) (0))) (aj (ai (wX (8) (0))) (ae (ai (ax IntKind.i64)) (jk 45 ag)))))))) (ae (dt Lr)
 (ae (dt an0) (aj (dt jT3) (ae (eE (0) (Ty.int IntKind.u16)) (aj (dt jT5) (ae (eE (0) (Ty.int IntKind.u16)) (aj (dt
 jT7) (ae (eE (0) (Ty.int IntKind.u16)) (ae (eE (0) ((Ty.int IntKind.i64).pair ((Ty.int IntKind.i64).pair (Ty.int IntKind.u8))))
 ag)))))))))).qk (fun y=>(y.1.1,y.1.2.1,y.1.2.2.1,y.2.1,y.2.2.1,y.2.2.2.1,y.2.2.2.2.1,y.2.2.2.2.2.1,y.2.2.2.2.2.2.1)) (fun x=>((x.1,
 (x.2.1,(x.2.2.1,()))),(x.2.2.2.1,(x.2.2.2.2.1,(x.2.2.2.2.2.1,(x.2.2.2.2.2.2.1,(x.2.2.2.2.2.2.2.1,(x.2.2.2.2.2.2.2.2,())))))))) (fun _=>rfl)
abbrev EA:List Wk:= [.cC 8 fV,.cC 4 fV,.fr (dA 55 [(0,.aq),(1,.aq),(6,.aq),(7,.aq),(8,.aq),(9,.aq)]),.syms,
 .auto,.aD]
abbrev WN:Exit→List Wk:=Dy EA 0 [.cC 8 fV,.cC 4 fV,.fr (dA 55 [(4,.aq),(5,.aq)]),.syms,.auto,.aD] [.cC 8 fV,
 .cC 4 fV,.fr (dA 55 [(4,.aq),(5,.aq)]),.syms,.auto,.aD]
noncomputable def EB (b':List Int) (d:Int×Int×Int):Int×Int×Int:=(b8 b' d).snd.snd
noncomputable def fy (b':List Int) (d:Int×Int×Int) (r:RH) (p1:List Int) (p2:List Int) (p3:List Int):((Int×Int×Int)×Bool)×
 RH×List Int×List Int×List Int×Int×Int×Int:=cA r p1 p2 p3 (EB b' d)
noncomputable def mF (b':List Int) (d:Int×Int×Int) (r:RH) (p1:List Int) (p2:List Int) (p3:List Int):Int×Int×Int:=(fy
 b' d r p1 p2 p3).fst.fst
abbrev WO:Type:=Bool×(List (Int×Int×Int))
noncomputable abbrev EC (x:WO):Exit×St:=(Exit.ret,⟨(ir 4 (LV.one (VV.sc (SV.sl 0 0))::(LV.one (VV.sc (SV.bool (SB.sym x.1)))::
 (ir 49 [])))),[some (Item.own 0 ((Ty.int IntKind.i64).pair ((Ty.int IntKind.i64).pair (Ty.int IntKind.u8))) x.2)]⟩)
noncomputable def oh (b':List Int) (pl:Int) (made:Int) (d:Int×Int×Int) (r:RH) (p1:List Int) (p2:List Int) (p3:List Int) (out:
 List (Int×Int×Int)):Tr (zp⊕(WO)):=(.need (xG b' d) (.ite (!(b8 b' d).fst) (.ret (.inr (false,[]))) (.ite (made==pl) (.ret
 (.inr (true,out))) (.need (pH r p1 p2 p3 (EB b' d)) (.ite (!(fy b' d r p1 p2 p3).fst.snd) (.ret (.inl ((b8 b' d).snd.fst,pl,
 made,(fy b' d r p1 p2 p3).snd.snd.snd.snd.snd,(fy b' d r p1 p2 p3).snd.fst,(fy b' d r p1 p2 p3).snd.snd.fst,(fy b' d r p1 p2
 p3).snd.snd.snd.fst,(fy b' d r p1 p2 p3).snd.snd.snd.snd.fst,out))) (.need (sC (mF b' d r p1 p2 p3) made) (.ite ((!iR (mF b' d
 r p1 p2 p3) made)==false) (.need (gO (mF b' d r p1 p2 p3)) (.ite (decide (IntKind.i64.wrap (pl-made)<bt (mF b' d r p1 p2 p3)))
 (.ret (.inr (false,[]))) (.need (gO (mF b' d r p1 p2 p3)) (.need ((out.length+1)*24≤70368744177664∧out.length+1≤70368744177664)
 (.ret (.inl ((b8 b' d).snd.fst,pl,IntKind.i64.wrap (made+bt (mF b' d r p1 p2 p3)),(fy b' d r p1 p2 p3).snd.snd.snd.snd.snd,
 (fy b' d r p1 p2 p3).snd.fst,(fy b' d r p1 p2 p3).snd.snd.fst,(fy b' d r p1 p2 p3).snd.snd.snd.fst,(fy b' d r p1 p2
 p3).snd.snd.snd.snd.fst,out++ [(fy b' d r p1 p2 p3).fst.fst]))))))) (.ret (.inr (false,[]))))))))))
theorem Mc (b:List Int) (plain:Int) (b':List Int) (pl:Int) (made:Int) (d:Int×Int×Int) (r:RH) (p1:List Int) (p2:List Int) (p3:List Int) (out:List (Int×Int×Int)):dR Tryz.prog [(78,Ma),(77,VY),(79,aeO),(80,Pc),(81,OW),(82,vm)] [] Tryz.f45 0 ((ag).wr (())) WN (vD.wr (b',pl,made,d,r,p1,p2,p3,out))=(oh b' pl made d r p1 p2 p3 out).res vD.wr EC:=by kernel_rfl
theorem WQ {b:List Int} {d:Dc} (h:wI d) (hb:aB b):wI (b8 b d).2.2∧aB (b8 b d).2.1∧(b8 b d).2.1.length≤b.length:=by
 obtain ⟨h1,h2,h3,_⟩:=HW b d h hb
 unfold b8
 split
 ·exact ⟨h1,h2,h3⟩
 ·exact ⟨h1,aB.nil,by simp⟩
theorem WR (r:RH):muR r≤21:=by unfold muR;split<;>(try split)<;>(try split)<;>(try split)<;>omega
abbrev tn (b':List Int) (pl:Int) (made:Int) (d:Int×Int×Int) (r:RH) (p1:List Int) (p2:List Int) (p3:List Int) (out:List (Int×Int×Int)):Prop:=wI d∧aB b'∧b'.length<1099511627776∧ROk r∧gh p1∧gh p2∧gh p3∧0≤made∧made≤pl∧pl≤8192∧out.length≤made
noncomputable abbrev ED (x_:zp):aU:= .need ((fun (b':List Int) (pl:Int) (made:Int) (d:Int×Int×Int) (r:RH) (p1:List Int) (p2:List Int) (p3:List Int) (out:List (Int×Int×Int))=>tn b' pl made d r p1 p2 p3 out) x_.1 x_.2.1 x_.2.2.1 x_.2.2.2.1 x_.2.2.2.2.1 x_.2.2.2.2.2.1 x_.2.2.2.2.2.2.1 x_.2.2.2.2.2.2.2.1 x_.2.2.2.2.2.2.2.2) (.leaf (EC ((fun (b':List Int) (pl:Int) (made:Int) (d:Int×Int×Int) (r:RH) (p1:List Int) (p2:List Int) (p3:List Int) (out:List (Int×Int×Int))=>((cV 200000 pl made b' d r p1 p2 p3 out).2,(cV 200000 pl made b' d r p1 p2 p3 out).1)) x_.1 x_.2.1 x_.2.2.1 x_.2.2.2.1 x_.2.2.2.2.1 x_.2.2.2.2.2.1 x_.2.2.2.2.2.2.1 x_.2.2.2.2.2.2.2.1 x_.2.2.2.2.2.2.2.2)).1 (EC ((fun (b':List Int) (pl:Int) (made:Int) (d:Int×Int×Int) (r:RH) (p1:List Int) (p2:List Int) (p3:List Int) (out:List (Int×Int×Int))=>((cV 200000 pl made b' d r p1 p2 p3 out).2,(cV 200000 pl made b' d r p1 p2 p3 out).1)) x_.1 x_.2.1 x_.2.2.1 x_.2.2.2.1 x_.2.2.2.2.1 x_.2.2.2.2.2.1 x_.2.2.2.2.2.2.1 x_.2.2.2.2.2.2.2.1 x_.2.2.2.2.2.2.2.2)).2)
theorem WS (b':List Int) (pl:Int) (made:Int) (d:Int×Int×Int) (r:RH) (p1:List Int) (p2:List Int) (p3:List Int) (out:List (Int×Int×Int)) (h_:tn b' pl made d r p1 p2 p3 out):dq (fun x_:zp=>oh x_.1 x_.2.1 x_.2.2.1 x_.2.2.2.1 x_.2.2.2.2.1 x_.2.2.2.2.2.1 x_.2.2.2.2.2.2.1 x_.2.2.2.2.2.2.2.1 x_.2.2.2.2.2.2.2.2) (b',pl,made,d,r,p1,p2,p3,out) (((cV 200000 pl made b' d r p1 p2 p3 out).2,(cV 200000 pl made b' d r p1 p2 p3 out).1)):=by
 obtain ⟨h1,h2,h3,h4,h5,h6,h7,h8,h9,Gp,h11⟩:=h_
 obtain ⟨m,hm⟩: ∃ m:Nat,(pl-made).toNat*22+muR r<m:=⟨_,Nat.lt_succ_self _⟩
 have hf:m≤200000∨((pl-made).toNat*22+muR r<200000):=by
  have:=WR r;right;omega
 obtain ⟨n,hn1,hn2⟩: ∃ n:Nat,n=200000∧(pl-made).toNat*22+muR r<n:=⟨200000,rfl,by have:=WR r;omega⟩
 rw[← hn1]
 clear hf hm hn1
 clear m
 induction n generalizing made b' d r p1 p2 p3 out with
 |zero=>omega
 |succ n ih=>
  obtain ⟨f1,f2,f3⟩:=WQ h1 h2
  have TS:EB b' d=(b8 b' d).2.2:=rfl
  rw[cV]
  simp only
  by_cases kZ:(b8 b' d).1=true
  ·rw[if_pos kZ]
   by_cases he:made=pl
   ·rw[if_pos he]
    refine .stop ?_
    simp only[oh,an,jL,fo,al]
    exact ⟨⟨h1,h2,h3⟩,fun _=>⟨fun _=>trivial,fun h=>absurd he h⟩,fun h=>by rw[kZ] at h;cases h⟩
   ·rw[if_neg he]
    have Br:fy b' d r p1 p2 p3=cA r p1 p2 p3 (b8 b' d).2.2:=rfl
    have ea2:mF b' d r p1 p2 p3=(cA r p1 p2 p3 (b8 b' d).2.2).1.1:=rfl
    have n1:=HZ h4 p1 p2 p3 (b8 b' d).2.2
    have n2:=Mb r p1 p2 p3 (b8 b' d).2.2
    have n3:=agA (r:=r) h5 h6 h7 f1
    rw[← n2] at n3
    have n4:=abN h4 p1 p2 p3 (b8 b' d).2.2
    generalize hx:cA r p1 p2 p3 (b8 b' d).2.2=x at*
    obtain ⟨o1,o2,o3,o4⟩:=n3
    cases hw:x.1.2 with
    |false=>
     have n4:=n4 hw
     rw[if_neg (by simp)]
     have A9:=ih _ _ _ _ _ _ _ _ o4 f2 (by omega) n1 o1 o2 o3 h8 h9 h11 (by omega)
     refine .go ?_ A9
     simp only[oh,an,jL,fo,al,TS,Br,hw,kZ]
     exact ⟨⟨h1,h2,h3⟩,fun _=>⟨fun h=>absurd h he,fun _=>⟨⟨h4,h5,h6,h7,f1⟩,fun h=>by simp at h,fun _=>trivial⟩⟩,fun h=>by simp at h⟩
    |true=>
     rw[if_pos rfl]
     have w1:IntKind.i64.wrap (pl-made)=pl-made:=ar (by omega) (by omega)
     by_cases hc:iR x.1.1 made=true∧bt x.1.1≤pl-made
     ·rw[if_pos hc]
      have Ke:=jM hc.1
      have hmu:=WR x.2.1
      have w2:IntKind.i64.wrap (made+bt x.1.1)=made+bt x.1.1:=ar (by omega) (by omega)
      have A9:=ih _ (made+bt x.1.1) _ _ _ _ _ (out++ [x.1.1]) o4 f2 (by omega) n1 o1 o2 o3 (by omega) (by omega) (by simp;omega) (by omega)
      refine .go ?_ A9
      simp only[oh,an,jL,fo,bs,al,TS,Br,ea2,hw,kZ,hc.1,w1,w2]
      have e1:(made==pl)=false:=by simp[he]
      have e2:decide (pl-made<bt x.1.1)=false:=by simp;omega
      simp only[e1,e2,aN,aK,an,al,jL,Bool.not_true,cQ]
      exact ⟨⟨h1,h2,h3⟩,fun _=>⟨fun h=>absurd h he,fun _=>⟨⟨h4,h5,h6,h7,f1⟩,fun _=>⟨trivial,fun _=>⟨trivial,fun h=>by simp at h,fun _=>⟨trivial,⟨by omega,by omega⟩,trivial⟩⟩,fun h=>by simp at h⟩,fun h=>by simp at h⟩⟩,fun h=>by simp at h⟩
     ·rw[if_neg hc]
      refine .stop ?_
      simp only[oh,an,jL,fo,bs,al,TS,Br,ea2,hw,kZ,w1]
      refine ⟨⟨h1,h2,h3⟩,fun _=>⟨fun h=>absurd h he,fun _=>⟨⟨h4,h5,h6,h7,f1⟩,fun _=>⟨trivial,?_⟩,fun h=>by simp at h⟩⟩,fun h=>by simp at h⟩
      cases hmy:iR x.1.1 made with
      |true=>
       simp only[Bool.not_true,beq_self_eq_true,aK,an,bs,al]
       exact ⟨trivial,fun _=>trivial,fun h=>absurd ⟨hmy,by omega⟩ hc⟩
      |false=>simp[cQ,al]
  ·rw[if_neg kZ]
   refine .stop ?_
   simp only[oh,an,jL,al]
   exact ⟨⟨h1,h2,h3⟩,fun h=>absurd h kZ,fun _=>trivial⟩
theorem RJ (b:List Int) (plain:Int): ∀ x:zp,Ex Tryz.prog ((ag).wr (())) (.loop (aW Tryz.f45 0)) (vD.wr x) (ED x):=
 db mixed ((ak H9 (ak O2 (ak abI (ak Rz (ak DJ (ak n5 aF))))))) (ws:=WN) (aQ.nil _) (E:=EC) (L:=fun x_=>oh x_.1 x_.2.1 x_.2.2.1 x_.2.2.2.1 x_.2.2.2.2.1 x_.2.2.2.2.2.1 x_.2.2.2.2.2.2.1 x_.2.2.2.2.2.2.2.1 x_.2.2.2.2.2.2.2.2) (pre:=fun x_=>(fun (b':List Int) (pl:Int) (made:Int) (d:Int×Int×Int) (r:RH) (p1:List Int) (p2:List Int) (p3:List Int) (out:List (Int×Int×Int))=>tn b' pl made d r p1 p2 p3 out) x_.1 x_.2.1 x_.2.2.1 x_.2.2.2.1 x_.2.2.2.2.1 x_.2.2.2.2.2.1 x_.2.2.2.2.2.2.1 x_.2.2.2.2.2.2.2.1 x_.2.2.2.2.2.2.2.2) (sp:=fun x_=>(fun (b':List Int) (pl:Int) (made:Int) (d:Int×Int×Int) (r:RH) (p1:List Int) (p2:List Int) (p3:List Int) (out:List (Int×Int×Int))=>((cV 200000 pl made b' d r p1 p2 p3 out).2,(cV 200000 pl made b' d r p1 p2 p3 out).1)) x_.1 x_.2.1 x_.2.2.1 x_.2.2.2.1 x_.2.2.2.2.1 x_.2.2.2.2.2.1 x_.2.2.2.2.2.2.1 x_.2.2.2.2.2.2.2.1 x_.2.2.2.2.2.2.2.2) (fun x_=>Mc b plain x_.1 x_.2.1 x_.2.2.1 x_.2.2.2.1 x_.2.2.2.2.1 x_.2.2.2.2.2.1 x_.2.2.2.2.2.2.1 x_.2.2.2.2.2.2.2.1 x_.2.2.2.2.2.2.2.2) (fun z e=>by cases e) je (fun x_ h=>WS x_.1 x_.2.1 x_.2.2.1 x_.2.2.2.1 x_.2.2.2.2.1 x_.2.2.2.2.2.1 x_.2.2.2.2.2.2.1 x_.2.2.2.2.2.2.2.1 x_.2.2.2.2.2.2.2.2 h)
def r0H:RH:=⟨[1024,1024],0,0,1,(0,0,0)⟩
def cY (b:List Int) (plain:Int):List cj×Bool:=cV 200000 plain 0 b (0,4294967295,4) r0H (bo 8) (bo 8) (bo 6) []
noncomputable def WT:RH:= {cs:= [1024,1024],bh:=0,part:=0,node:=1,t:=(0,0,0)}
noncomputable def WU (b:List Int) (plain:Int):List (Int×Int×Int)×Bool:=cV 200000 plain 0 b (0,4294967295,4) WT (bo 8)
 (bo 8) (bo 6) []
abbrev WV:Type:=Bool×(List (Int×Int×Int))
noncomputable abbrev WW (x:WV):LV:=LV.cD [VV.sc (SV.sl 0 0),VV.sc (SV.bool (SB.sym x.1))]
noncomputable abbrev WX (x:WV):List (Nat×Ev.Item):= [(0,Item.own 0 ((Ty.int IntKind.i64).pair ((Ty.int IntKind.i64).pair (Ty.int
 IntKind.u8))) x.2)]
noncomputable def Pf (b:List Int) (plain:Int):Tr (WV):=(.need (xA) (.need (tk) (.need (tn b plain 0 (0,4294967295,4)
 WT (bo 8) (bo 8) (bo 6) []) (.ret ((WU b plain).snd,(WU b plain).fst)))))
theorem RK (b:List Int) (plain:Int):aS Tryz.prog [(78,Ma),(77,VY)] [(0,bM vD ((ag).wr (())) EA (ED))] Tryz.f45 (((ae (ai (eS false false u8)) (ae (ai (ax .i64)) ag))).wr (b,plain,())) ((ag).wr (())) [.cC 4 fV,.cC 8 fV,.fr [.sym],.syms,.auto,.aD]=(Pf b plain).end WW WX ((ag).wr (())):=by kernel_rfl
theorem WY (b:List Int) (plain:Int):aQ Tryz.prog ((ag).wr (())) [(0,bM vD ((ag).wr (())) EA (ED))] (aJ Tryz.f45):=(aQ.cO (nx (by kernel_rfl) (cz (hp:=(ag).wr (())) (RJ b plain)) pc))
theorem zq (k:Nat) (h:k≤8):gh (bo k):=(jO k h).1.2.2.1
theorem an1:wI (0,4294967295,4):=by
 exact ⟨by decide,by decide,by decide,.inr (.inr (by decide))⟩
theorem abP:ROk r0H:=⟨rfl,.inl rfl,by decide,by decide,by decide,by decide,by decide⟩
abbrev mG (b:List Int) (plain:Int):Prop:=aB b∧b.length<1099511627776∧0≤plain∧plain≤8192
noncomputable def WZ:ao:=ao.bS [] ((ae (ai (eS false false u8)) (ae (ai (ax .i64)) ag))) (ag) fun x_ y_=> .leaf (some ((fun (b:List Int) (plain:Int)=>mG b plain) x_.1 x_.2.1)) (WW ((fun (b:List Int) (plain:Int)=>((cY b plain).2,(cY b plain).1)) x_.1 x_.2.1)) (WX ((fun (b:List Int) (plain:Int)=>((cY b plain).2,(cY b plain).1)) x_.1 x_.2.1))
theorem abQ (b:List Int) (plain:Int) (h_:mG b plain):(Pf b plain).Is (((cY b plain).2,(cY b plain).1)):=by
 obtain ⟨h1,h2,h3,h4⟩:=h_
 simp only[Pf,an,al]
 exact ⟨trivial,trivial,⟨an1,h1,h2,abP,zq 8 (by omega),zq 8 (by omega),zq 6 (by omega),by omega,h3,h4,by simp⟩,rfl⟩
theorem fx:WZ.Ok Tryz.prog 45:=
 cg (tys:= []) (A:=(ae (ai (eS false false u8)) (ae (ai (ax .i64)) ag))) (H:=ag) (LT:=fun x_ y_=>(fun (b:List Int) (plain:Int)=> [(0,bM vD ((ag).wr (())) EA (ED))]) x_.1 x_.2.1) (ks:= [.cC 4 fV,.cC 8 fV,.fr [.sym],.syms,.auto,.aD]) (V:=WW) (D:=WX) (T:=fun x_ y_=>Pf x_.1 x_.2.1) (pre:=fun x_ y_=>(fun (b:List Int) (plain:Int)=>mG b plain) x_.1 x_.2.1) (sp:=fun x_ y_=>(fun (b:List Int) (plain:Int)=>((cY b plain).2,(cY b plain).1)) x_.1 x_.2.1) mixed ((ak H9 (ak O2 aF))) Tryz.func45 (by kernel_rfl) Tryz.call45 (fun x_ y_=>WY x_.1 x_.2.1) (fun x_ y_=>RK x_.1 x_.2.1) (fun x_ y_ h=>abQ x_.1 x_.2.1 h)
theorem W0 (r:RH) (p1 p2 p3:List Int) (d:Dc) (h:(cA r p1 p2 p3 d).1.2=true):(cA r p1 p2 p3 d).1.1=(cA r p1 p2 p3 d).2.1.t:=by
 unfold cA at h ⊢
 simp only at h ⊢
 split at h
 ·cases h
 ·rename_i e
  rw[if_neg e] at*
  split at h
  ·rename_i e1;rw[if_pos e1]
  ·cases h
theorem fE: ∀ (n:Nat) (pl made:Int) (b:List Int) (d:Dc) (r:RH) (p1 p2 p3:List Int) (out:List cj),ROk r→sN out→made≤pl→(out.length:Int)≤made→
  sN (cV n pl made b d r p1 p2 p3 out).1∧((cV n pl made b d r p1 p2 p3 out).1.length:Int)≤max pl 0
 |0,_,_,_,_,_,_,_,_,_,_,_,_,_=>⟨fun x h=>by simp[cV] at h,by simp[cV];omega⟩
 |n+1,pl,made,b,d,r,p1,p2,p3,out,h1,h2,h3,h4=>by
  have nil:sN (([],false):List cj×Bool).1∧((([],false):List cj×Bool).1.length:Int)≤max pl 0:=⟨fun x h=>by simp at h,by simp;omega⟩
  rw[cV]
  simp only
  split
  ·split
   ·exact ⟨h2,by simp only;omega⟩
   ·have n1:=HZ h1 p1 p2 p3 (b8 b d).2.2
    have n2:=W0 r p1 p2 p3 (b8 b d).2.2
    generalize cA r p1 p2 p3 (b8 b d).2.2=x at*
    split
    ·rename_i hw
     split
     ·rename_i hc
      have:=jM hc.1
      refine fE n _ _ _ _ _ _ _ _ _ n1 ?_ (by omega) (by simp;omega)
      intro t ht
      rw[List.mem_append] at ht
      rcases ht with ht|ht
      ·exact h2 t ht
      ·have:t=x.1.1:=by simpa using ht
       rw[this,n2 hw];exact n1.tb
     ·exact nil
    ·exact fE n _ _ _ _ _ _ _ _ _ n1 h2 h3 h4
  ·exact nil
def aG (b:List Int) (plain:Int):Int×List cj:=
 if plain<0∨8192<plain then (1,[]) else if (cY b plain).2=true∧cX (cR (cY b plain).1) b=true then (0,(cY b plain).1) else (11,[])
abbrev zr:Type:=Int
noncomputable abbrev zt (x:zr):LV:=LV.cD [VV.sc (SV.gH (Value.slice none 0 0)),VV.sc (SV.int IntKind.i64 (SI.sym x))]
noncomputable abbrev zw (x:zr):List (Nat×Ev.Item):= []
abbrev zx:Type:=Int×(List (Int×Int×Int))
noncomputable abbrev zy (x:zx):LV:=LV.cD [VV.sc (SV.sl 0 0),VV.sc (SV.int IntKind.i64 (SI.sym x.1))]
noncomputable abbrev zz (x:zx):List (Nat×Ev.Item):= [(0,Item.own 0 ((Ty.int IntKind.i64).pair ((Ty.int IntKind.i64).pair (Ty.int
 IntKind.u8))) x.2)]
noncomputable def kr (b:List Int) (plain:Int):Tr (zr⊕zx):=(.ite (decide (plain<0)==false) (.ite (decide (8192<plain))
 (.ret (.inl (1))) (.need (mG b plain) (.ite ((!(cY b plain).snd)==false) (.need (gl (cY b plain).fst) (.ite (!cX (cR (cY b
 plain).fst) b) (.ret (.inl (11))) (.ret (.inr (0,(cY b plain).fst))))) (.ret (.inl (11)))))) (.ret (.inl (1))))
theorem Ib (b:List Int) (plain:Int):aS Tryz.prog [(45,WZ),(47,D7),(46,Ew)] [] Tryz.f23 (((ae (ai (eS false false u8)) (ae (ai (ax .i64)) ag))).wr (b,plain,())) ((ag).wr (())) [.cC 4 fV,.cC 6 fV,.fr [.sym],.syms,.auto,.aD]=(kr b plain).end (Sum.elim zt zy) (Sum.elim zw zz) ((ag).wr (())):=by kernel_rfl
theorem Md (b:List Int) (plain:Int):aQ Tryz.prog ((ag).wr (())) [] (aJ Tryz.f23):=(aQ.nil _)
abbrev iw (b:List Int) (plain:Int):Prop:=aB b∧b.length<1099511627776
noncomputable def Pg:ao:=ao.bS [some u8,none] ((ae (ai (eS false false u8)) (ae (ai (ax .i64)) ag))) (ag) fun x_ y_=> .ite ((fun (b:List Int) (plain:Int)=>decide ((aG b plain).1≠0)) x_.1 x_.2.1) (.leaf (some ((fun (b:List Int) (plain:Int)=>iw b plain) x_.1 x_.2.1)) (zt ((fun (b:List Int) (plain:Int)=>(aG b plain).1) x_.1 x_.2.1)) (zw ((fun (b:List Int) (plain:Int)=>(aG b plain).1) x_.1 x_.2.1))) (.leaf (some ((fun (b:List Int) (plain:Int)=>iw b plain) x_.1 x_.2.1)) (zy ((fun (b:List Int) (plain:Int)=>(0,(aG b plain).2)) x_.1 x_.2.1)) (zz ((fun (b:List Int) (plain:Int)=>(0,(aG b plain).2)) x_.1 x_.2.1)))
theorem RL (b:List Int) (plain:Int) (h_:iw b plain):(decide ((aG b plain).1≠0)=true→(kr b plain).Is (.inl ((aG b plain).1)))∧(decide ((aG b plain).1≠0)=false→(kr b plain).Is (.inr ((0,(aG b plain).2)))):=by
 obtain ⟨h1,h2⟩:=h_
 by_cases hp:plain<0∨8192<plain
 ·have e:aG b plain=(1,[]):=by unfold aG;rw[if_pos hp]
  simp only[e,kr,cQ,bs,al]
  grind
 ·obtain ⟨k1,k2⟩:=fE 200000 plain 0 b (0,4294967295,4) r0H (bo 8) (bo 8) (bo 6) [] abP (fun x h=>by simp at h) (by omega) (by simp)
  have k3:gl (cY b plain).1:=⟨by show (cV _ _ _ _ _ _ _ _ _ _).1.length<_;omega,k1⟩
  have k4:mG b plain:=⟨h1,h2,by omega,by omega⟩
  have d1:(decide (plain<0)==false)=true:=by simp;omega
  have d2:decide (8192<plain)=false:=by simp;omega
  cases hr:(cY b plain).2 with
  |false=>
   have e:aG b plain=(11,[]):=by unfold aG;rw[if_neg hp,hr];simp
   simp only[e,kr,hr,d1,d2,aK,aN,an,cQ,al]
   simp;exact k4
  |true=>
   by_cases hb:cX (cR (cY b plain).1) b=true
   ·have e:aG b plain=(0,(cY b plain).1):=by unfold aG;rw[if_neg hp,hr,if_pos ⟨rfl,hb⟩]
    have e1:cX (cR (cY b plain).1) b=true:=hb
    simp only[e,kr,hr,d1,d2,e1,aK,aN,an,cQ,al]
    simp;exact ⟨k4,k3⟩
   ·have e:aG b plain=(11,[]):=by unfold aG;rw[if_neg hp,if_neg (fun h=>hb h.2)]
    have e1:cX (cR (cY b plain).1) b=false:=by simpa using hb
    simp only[e,kr,hr,d1,d2,e1,aK,aN,an,cQ,al]
    simp;exact ⟨k4,k3⟩
theorem RM:Pg.Ok Tryz.prog 23:=
 yS (tys:= [some u8,none]) (A:=(ae (ai (eS false false u8)) (ae (ai (ax .i64)) ag))) (H:=ag) (LT:=fun x_ y_=>(fun (b:List Int) (plain:Int)=> []) x_.1 x_.2.1) (ks:= [.cC 4 fV,.cC 6 fV,.fr [.sym],.syms,.auto,.aD]) (V:=zt) (D:=zw) (V':=zy) (D':=zz) (T:=fun x_ y_=>kr x_.1 x_.2.1) (pre:=fun x_ y_=>(fun (b:List Int) (plain:Int)=>iw b plain) x_.1 x_.2.1) (c:=fun x_ y_=>(fun (b:List Int) (plain:Int)=>decide ((aG b plain).1≠0)) x_.1 x_.2.1) (sp:=fun x_ y_=>(fun (b:List Int) (plain:Int)=>(aG b plain).1) x_.1 x_.2.1) (sp':=fun x_ y_=>(fun (b:List Int) (plain:Int)=>(0,(aG b plain).2)) x_.1 x_.2.1) mixed ((ak fx (ak y9 (ak zl aF)))) Tryz.func23 (by kernel_rfl) Tryz.call23 (fun x_ y_=>Md x_.1 x_.2.1) (fun x_ y_=>Ib x_.1 x_.2.1) (fun x_ y_ h=>RL x_.1 x_.2.1 h)
end Go.Proofs.YtjalaohajcpllaaGreat
end
section
set_option linter.unusedVariables false
set_option linter.unusedSimpArgs false
namespace Go.Proofs.YtjalaohajcpllaaGreat
open Go Go.Ev
set_option maxRecDepth 1000000
structure RB where
 b:List Int
 cs:List Int
 kS:Int
 bad:Bool
def cr (r:RB) (d:Dc):RB×Dc:=if r.bad=true then (r,d) else (⟨(bP r.b d).2.1,r.cs,r.kS,!(bP r.b d).1||ob (bP r.b d).2.2⟩,(bP r.b d).2.2)
def fM:Nat→Int→RB→Dc→List Int→Int×RB×Dc×List Int
 |0,node,r,d,p=>(node,r,d,p)
 |k+1,node,r,d,p=>
  let x:=bq (jm p node) d
  fM k (2*node+x.1) (cr r x.2.2).1 (cr r x.2.2).2 (c6 p node x.1)
end Go.Proofs.YtjalaohajcpllaaGreat
end
section
set_option linter.unusedVariables false
set_option linter.unusedSimpArgs false
namespace Go.Proofs.YtjalaohajcpllaaGreat
open Go Go.Ev
set_option maxRecDepth 1000000
def fX:Nat→Int→RB→Dc→Int×RB×Dc
 |0,di,r,d=>(di,r,d)
 |k+1,di,r,d=>fX k (2*di+(cF d).1) (cr r (cF d).2).1 (cr r (cF d).2).2
def RN (r:RB) (d:Dc):Int×RB×Dc:=
 let x:=bq (r.cs.getD r.kS.toNat 0) d
 let m:=cr ⟨r.b,r.cs.set r.kS.toNat x.2.1,x.1,r.bad⟩ x.2.2
 (x.1,m.1,m.2)
def qe (r:RB) (d:Dc) (p1 p2 p3:List Int):cj×RB×Dc×List Int×List Int×List Int:=
 let m:=RN r d
 if m.1=0 then
  let y:=fM 8 1 m.2.1 m.2.2 p1
  ((0,0,y.1-256),y.2.1,y.2.2.1,y.2.2.2,p2,p3)
 else
  let y:=fM 8 1 m.2.1 m.2.2 p2
  let z:=fM 6 1 y.2.1 y.2.2.1 p3
  let h:=fX 6 (z.1-64) z.2.1 z.2.2.1
  ((y.1-256+2,h.1+1,0),h.2.1,h.2.2,p1,y.2.2.2,z.2.2.2)
structure KOk (r:RB) (d:Dc) (p1 p2 p3:List Int):Prop where
 d:wI d
 b:aB r.b
 n:r.b.length<1099511627776
 cs:r.cs.length=2
 kS:r.kS=0∨r.kS=1
 l1:p1.length=256
 l2:p2.length=256
 l3:p3.length=64
theorem iU (r:RB) (d:Dc):(cr r d).1.cs=r.cs∧(cr r d).1.kS=r.kS:=by unfold cr;split<;>exact ⟨rfl,rfl⟩
theorem KOk.put {r:RB} {d:Dc} {p1 p2 p3 q1 q2 q3:List Int} (h:KOk r d p1 p2 p3) (e1:q1.length=p1.length) (e2:q2.length=p2.length) (e3:q3.length=p3.length):KOk r d q1 q2 q3:=
 ⟨h.d,h.b,h.n,h.cs,h.kS,e1▸h.l1,e2▸h.l2,e3▸h.l3⟩
end Go.Proofs.YtjalaohajcpllaaGreat
end
