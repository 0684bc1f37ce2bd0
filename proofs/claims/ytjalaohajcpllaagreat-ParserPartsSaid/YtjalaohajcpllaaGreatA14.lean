/- What the laws lean on, part 14: a reader of code, plain facts, and what each function gives; no conditions. -/
import Derived.Test.YtjalaohajcpllaaGreatA13
section
set_option linter.unusedVariables false
set_option linter.unusedSimpArgs false
namespace Go.Proofs.YtjalaohajcpllaaGreat
open Go Go.Ev BJ
set_option maxRecDepth 1000000
abbrev kV:ba LV Fe:=Du (ka .u64 5)
abbrev cB:ba LV (List Int):=KC .u8 32
abbrev ac1 (b:ft):LV:=iq .u8 32 b.toList
abbrev ac2:ba (List LV) (Int×Unit):=ae (ai (ax .u64)) ag
abbrev rh:ba (List LV) (Fe×Unit):=ae kV ag
abbrev lU:ba (List LV) (Fe×Fe×Unit):=ae kV (ae kV ag)
abbrev vV:ba (List LV) (List Int×Unit):=ae cB ag
abbrev kK:List Wk:= [.fr [.sym],.auto]
abbrev kR:List Wk:= [.fr [.sym],.kJ 0 0 32 .u8,.auto]
noncomputable def tZ:ao:=ao.bS [] (rh) (ag) fun x_ y_=>(fun (x:Fe)=> .leaf none (kV.wr (cd x)) []) x_.1
theorem IU (x:Fe):aS Tryz.prog [] [] Tryz.f166 ((rh).wr (x,())) ((ag).wr ()) [.fr [.sym],.auto]= .leaf (kV.wr (cd x)) ([]):=by kernel_rfl
theorem pV:tZ.Ok Tryz.prog 166:=by
 refine (ao.bf Tryz.call166 fun x_ y_ Q H_=>?_).sym
 obtain ⟨x,_⟩:=x_
 have hq:=H_.2
 refine (ay mixed aF Tryz.func166 rfl (LT:= []) (ks:= [.fr [.sym],.auto]) (aQ.nil _)).use (D:= []) ?_ hq
 show (aS _ _ _ _ ((rh).wr (x,())) ((ag).wr ()) _).sat _
 rw[IU]
 exact ⟨rfl,rfl⟩
noncomputable def Ft:ao:=ao.bS [] (ac2) (ag) fun x_ y_=>(fun (n:Int)=> .leaf none (kV.wr (aT n)) []) x_.1
theorem IV (n:Int):aS Tryz.prog [] [] Tryz.f131 ((ac2).wr (n,())) ((ag).wr ()) [.fr [.sym],.auto]= .leaf (kV.wr (aT n)) ([]):=by kernel_rfl
theorem Cy:Ft.Ok Tryz.prog 131:=by
 refine (ao.bf Tryz.call131 fun x_ y_ Q H_=>?_).sym
 obtain ⟨n,_⟩:=x_
 have hq:=H_.2
 refine (ay mixed aF Tryz.func131 rfl (LT:= []) (ks:= [.fr [.sym],.auto]) (aQ.nil _)).use (D:= []) ?_ hq
 show (aS _ _ _ _ ((ac2).wr (n,())) ((ag).wr ()) _).sat _
 rw[IV]
 exact ⟨rfl,rfl⟩
noncomputable def afe:ao:=ao.bS [] (lU) (ag) fun x_ y_=>(fun (x y:Fe)=> .leaf none (kV.wr (jl x y)) []) x_.1 x_.2.1
theorem Sz (x y:Fe):aS Tryz.prog [(166,tZ)] [] Tryz.f162 ((lU).wr (x,y,())) ((ag).wr ()) [.fr [.sym],.auto]= .leaf (kV.wr (jl x y)) ([]):=by kernel_rfl
theorem ac3:afe.Ok Tryz.prog 162:=by
 refine (ao.bf Tryz.call162 fun x_ y_ Q H_=>?_).sym
 obtain ⟨x,y,_⟩:=x_
 have hq:=H_.2
 refine (ay mixed ((ak pV aF)) Tryz.func162 rfl (LT:= []) (ks:= [.fr [.sym],.auto]) (aQ.nil _)).use (D:= []) ?_ hq
 show (aS _ _ _ _ ((lU).wr (x,y,())) ((ag).wr ()) _).sat _
 rw[Sz]
 exact ⟨rfl,rfl⟩
noncomputable def YM:ao:=ao.bS [] (lU) (ag) fun x_ y_=>(fun (x y:Fe)=> .leaf none (kV.wr (kb x y)) []) x_.1 x_.2.1
theorem SA (x y:Fe):aS Tryz.prog [(166,tZ)] [] Tryz.f161 ((lU).wr (x,y,())) ((ag).wr ()) [.fr [.sym],.auto]= .leaf (kV.wr (kb x y)) ([]):=by kernel_rfl
theorem PT:YM.Ok Tryz.prog 161:=by
 refine (ao.bf Tryz.call161 fun x_ y_ Q H_=>?_).sym
 obtain ⟨x,y,_⟩:=x_
 have hq:=H_.2
 refine (ay mixed ((ak pV aF)) Tryz.func161 rfl (LT:= []) (ks:= [.fr [.sym],.auto]) (aQ.nil _)).use (D:= []) ?_ hq
 show (aS _ _ _ _ ((lU).wr (x,y,())) ((ag).wr ()) _).sat _
 rw[SA]
 exact ⟨rfl,rfl⟩
noncomputable def aff:ao:=ao.bS [] (rh) (ag) fun x_ y_=>(fun (x:Fe)=> .leaf none (kV.wr (Al x)) []) x_.1
theorem SC (x:Fe):aS Tryz.prog [(161,YM)] [] Tryz.f182 ((rh).wr (x,())) ((ag).wr ()) [.fr [.sym],.auto]= .leaf (kV.wr (Al x)) ([]):=by kernel_rfl
theorem ac4:aff.Ok Tryz.prog 182:=by
 refine (ao.bf Tryz.call182 fun x_ y_ Q H_=>?_).sym
 obtain ⟨x,_⟩:=x_
 have hq:=H_.2
 refine (ay mixed ((ak PT aF)) Tryz.func182 rfl (LT:= []) (ks:= [.fr [.sym],.auto]) (aQ.nil _)).use (D:= []) ?_ hq
 show (aS _ _ _ _ ((rh).wr (x,())) ((ag).wr ()) _).sat _
 rw[SC]
 exact ⟨rfl,rfl⟩
noncomputable def YN:ao:=ao.bS [] ((ae (ai (ax .u64)) (ae (ai (ax .u64)) ag))) (ag) fun x_ y_=>(fun (x y:Int)=> .leaf none (.cD [.sc (.int .u64 (.sym (bc x y).1)),.sc (.int .u64 (.sym (bc x y).2))]) []) x_.1 x_.2.1
theorem M4 (x y:Int):aS Tryz.prog [] [] Tryz.f137 (((ae (ai (ax .u64)) (ae (ai (ax .u64)) ag))).wr (x,y,())) ((ag).wr ()) [.fr [.sym],.auto]= .leaf (.cD [.sc (.int .u64 (.sym (bc x y).1)),.sc (.int .u64 (.sym (bc x y).2))]) ([]):=by kernel_rfl
theorem IW:YN.Ok Tryz.prog 137:=by
 refine (ao.bf Tryz.call137 fun x_ y_ Q H_=>?_).sym
 obtain ⟨x,y,_⟩:=x_
 have hq:=H_.2
 refine (ay mixed aF Tryz.func137 rfl (LT:= []) (ks:= [.fr [.sym],.auto]) (aQ.nil _)).use (D:= []) ?_ hq
 show (aS _ _ _ _ (((ae (ai (ax .u64)) (ae (ai (ax .u64)) ag))).wr (x,y,())) ((ag).wr ()) _).sat _
 rw[M4]
 exact ⟨rfl,rfl⟩
noncomputable def YO:ao:=ao.bS [] (vV) (ag) fun x_ y_=>(fun (b:List Int)=> .leaf none (kV.wr (mP (xK b))) []) x_.1
theorem M5 (b:List Int):aS Tryz.prog [] [] Tryz.f176 ((vV).wr (b,())) ((ag).wr ()) [.fr [.sym],.auto]= .leaf (kV.wr (mP (xK b))) ([]):=by kernel_rfl
theorem YP:YO.Ok Tryz.prog 176:=by
 refine (ao.bf Tryz.call176 fun x_ y_ Q H_=>?_).sym
 obtain ⟨b,_⟩:=x_
 have hq:=H_.2
 refine (ay mixed aF Tryz.func176 rfl (LT:= []) (ks:= [.fr [.sym],.auto]) (aQ.nil _)).use (D:= []) ?_ hq
 show (aS _ _ _ _ ((vV).wr (b,())) ((ag).wr ()) _).sat _
 rw[M5]
 exact ⟨rfl,rfl⟩
noncomputable def PU:ao:=ao.bS [] (rh) (ag) fun x_ y_=>(fun (x:Fe)=> .leaf none (kV.wr (Yv x)) []) x_.1
theorem IX (x:Fe):aS Tryz.prog [(166,tZ)] [] Tryz.f136 ((rh).wr (x,())) ((ag).wr ()) [.fr [.sym],.auto]= .leaf (kV.wr (Yv x)) ([]):=by kernel_rfl
theorem SD:PU.Ok Tryz.prog 136:=by
 refine (ao.bf Tryz.call136 fun x_ y_ Q H_=>?_).sym
 obtain ⟨x,_⟩:=x_
 have hq:=H_.2
 refine (ay mixed ((ak pV aF)) Tryz.func136 rfl (LT:= []) (ks:= [.fr [.sym],.auto]) (aQ.nil _)).use (D:= []) ?_ hq
 show (aS _ _ _ _ ((rh).wr (x,())) ((ag).wr ()) _).sat _
 rw[IX]
 exact ⟨rfl,rfl⟩
noncomputable def xM:ao:=ao.bS [] (rh) (ag) fun x_ y_=>(fun (x:Fe)=> .leaf none (ac1 (eN x)) []) x_.1
theorem IY (x:Fe):aS Tryz.prog [(136,PU)] [] Tryz.f92 ((rh).wr (x,())) ((ag).wr ()) kR= .leaf (ac1 (eN x)) ([]):=by kernel_rfl
theorem vW:xM.Ok Tryz.prog 92:=by
 refine (ao.bf Tryz.call92 fun x_ y_ Q H_=>?_).sym
 obtain ⟨x,_⟩:=x_
 have hq:=H_.2
 refine (ay mixed ((ak SD aF)) Tryz.func92 rfl (LT:= []) (ks:=kR) (aQ.nil _)).use (D:= []) ?_ hq
 show (aS _ _ _ _ ((rh).wr (x,())) ((ag).wr ()) _).sat _
 rw[IY]
 exact ⟨rfl,rfl⟩
abbrev ahp:ao:=(ky bg).sym
theorem Aq:ahp.Ok Tryz.prog 138:=(MG Tryz.func138 (by kernel_rfl) (by kernel_rfl) (by kernel_rfl) (by kernel_rfl) rfl).sym
end Go.Proofs.YtjalaohajcpllaaGreat
end
section
set_option linter.unusedVariables false
set_option linter.unusedSimpArgs false
namespace Go.Proofs.YtjalaohajcpllaaGreat
open Go Go.Ev BJ
set_option maxRecDepth 1000000
def afg (m:Int→Int→Int×Int):ao:=ao.bS [] (ae (ai (ax .u64)) (ae (ai (ax .u64)) ag)) ag fun x _=> .leaf none (.cD [.sc (.int .u64 (.sym (m x.1 x.2.1).1)),.sc (.int .u64 (.sym (m x.1 x.2.1).2))]) []
abbrev oJ (o:Nat):ba (List LV) (Int×Int×Unit):=aj (ai (aP 0 o)) (ae (ai (ax .u64)) (ae (ai (ax .u64)) ag))
abbrev oK:ba Hp (Vec Int 10×Unit):=ae (gX 219 (ka .u64 10)) ag
section
variable (m:Int→Int→Int×Int) (a:Int→Int→Int→Int×Int)
def kD (k:Nat) (x y:Int) (v:Vec Int 10):Int×Int:=a (v.get (2*k+1)) (m x y).2 0
def oL (k:Nat) (x y:Int) (v:Vec Int 10):Vec Int 10:=Vec.xc (fun _=>(kD m a k x y v).1) (2*k+1) (Vec.xc (fun _=>(a (v.get (2*k)) (m x y).1 (kD m a k x y v).2).1) (2*k) v)
noncomputable def qs (k:Nat):ao:=ao.bS [] (oJ (2*k)) oK fun x h=> .leaf (some (0≤(kD m a k x.1 x.2.1 h.1).2∧(kD m a k x.1 x.2.1 h.1).2≤1)) (.cD []) [(0,.aZ ((ka .u64 10).wr (oL m a k x.1 x.2.1 h.1)) 219)]
abbrev mU:List (FuncId×ao):= [(137,afg m),(138,(ky a).sym)]
abbrev qu:List Wk:= [.aZ 0 (List.replicate 10 .sym),.auto]
theorem M6 (x y:Int) (v:Vec Int 10):aS Tryz.prog (mU m a) [] Tryz.f165 ((oJ 0).wr (x,y,())) (oK.wr (v,())) qu=
  .need (0≤(0:Int)∧(0:Int)≤1) (.need (0≤(kD m a 0 x y v).2∧(kD m a 0 x y v).2≤1) (.leaf (.cD []) [some (.aZ ((ka .u64 10).wr (oL m a 0 x y v)) 219)])):=by kernel_rfl
theorem M7 (x y:Int) (v:Vec Int 10):aS Tryz.prog (mU m a) [] Tryz.f165 ((oJ 2).wr (x,y,())) (oK.wr (v,())) qu=
  .need (0≤(0:Int)∧(0:Int)≤1) (.need (0≤(kD m a 1 x y v).2∧(kD m a 1 x y v).2≤1) (.leaf (.cD []) [some (.aZ ((ka .u64 10).wr (oL m a 1 x y v)) 219)])):=by kernel_rfl
theorem M8 (x y:Int) (v:Vec Int 10):aS Tryz.prog (mU m a) [] Tryz.f165 ((oJ 4).wr (x,y,())) (oK.wr (v,())) qu=
  .need (0≤(0:Int)∧(0:Int)≤1) (.need (0≤(kD m a 2 x y v).2∧(kD m a 2 x y v).2≤1) (.leaf (.cD []) [some (.aZ ((ka .u64 10).wr (oL m a 2 x y v)) 219)])):=by kernel_rfl
theorem M9 (x y:Int) (v:Vec Int 10):aS Tryz.prog (mU m a) [] Tryz.f165 ((oJ 6).wr (x,y,())) (oK.wr (v,())) qu=
  .need (0≤(0:Int)∧(0:Int)≤1) (.need (0≤(kD m a 3 x y v).2∧(kD m a 3 x y v).2≤1) (.leaf (.cD []) [some (.aZ ((ka .u64 10).wr (oL m a 3 x y v)) 219)])):=by kernel_rfl
theorem Na (x y:Int) (v:Vec Int 10):aS Tryz.prog (mU m a) [] Tryz.f165 ((oJ 8).wr (x,y,())) (oK.wr (v,())) qu=
  .need (0≤(0:Int)∧(0:Int)≤1) (.need (0≤(kD m a 4 x y v).2∧(kD m a 4 x y v).2≤1) (.leaf (.cD []) [some (.aZ ((ka .u64 10).wr (oL m a 4 x y v)) 219)])):=by kernel_rfl
variable (hm: ∀ p∈mU m a,p.2.Ok Tryz.prog p.1)
include hm
theorem YQ:(qs m a 0).Ok Tryz.prog 165:=by
 refine (ao.bf Tryz.call165 fun x_ y_ Q H_=>?_).sym
 obtain ⟨x,y,_⟩:=x_
 obtain ⟨v,_⟩:=y_
 obtain ⟨hn,hq⟩:=H_
 refine (ay mixed hm Tryz.func165 rfl (LT:= []) (ks:=qu) (aQ.nil _)).use (D:= [(0,.aZ ((ka .u64 10).wr (oL m a 0 x y v)) 219)]) ?_ hq
 show (aS _ _ _ _ ((oJ 0).wr (x,y,())) (oK.wr (v,())) _).sat _
 rw[M6]
 exact ⟨by decide,hn,rfl,rfl⟩
theorem YR:(qs m a 1).Ok Tryz.prog 165:=by
 refine (ao.bf Tryz.call165 fun x_ y_ Q H_=>?_).sym
 obtain ⟨x,y,_⟩:=x_
 obtain ⟨v,_⟩:=y_
 obtain ⟨hn,hq⟩:=H_
 refine (ay mixed hm Tryz.func165 rfl (LT:= []) (ks:=qu) (aQ.nil _)).use (D:= [(0,.aZ ((ka .u64 10).wr (oL m a 1 x y v)) 219)]) ?_ hq
 show (aS _ _ _ _ ((oJ 2).wr (x,y,())) (oK.wr (v,())) _).sat _
 rw[M7]
 exact ⟨by decide,hn,rfl,rfl⟩
theorem YS:(qs m a 2).Ok Tryz.prog 165:=by
 refine (ao.bf Tryz.call165 fun x_ y_ Q H_=>?_).sym
 obtain ⟨x,y,_⟩:=x_
 obtain ⟨v,_⟩:=y_
 obtain ⟨hn,hq⟩:=H_
 refine (ay mixed hm Tryz.func165 rfl (LT:= []) (ks:=qu) (aQ.nil _)).use (D:= [(0,.aZ ((ka .u64 10).wr (oL m a 2 x y v)) 219)]) ?_ hq
 show (aS _ _ _ _ ((oJ 4).wr (x,y,())) (oK.wr (v,())) _).sat _
 rw[M8]
 exact ⟨by decide,hn,rfl,rfl⟩
theorem YT:(qs m a 3).Ok Tryz.prog 165:=by
 refine (ao.bf Tryz.call165 fun x_ y_ Q H_=>?_).sym
 obtain ⟨x,y,_⟩:=x_
 obtain ⟨v,_⟩:=y_
 obtain ⟨hn,hq⟩:=H_
 refine (ay mixed hm Tryz.func165 rfl (LT:= []) (ks:=qu) (aQ.nil _)).use (D:= [(0,.aZ ((ka .u64 10).wr (oL m a 3 x y v)) 219)]) ?_ hq
 show (aS _ _ _ _ ((oJ 6).wr (x,y,())) (oK.wr (v,())) _).sat _
 rw[M9]
 exact ⟨by decide,hn,rfl,rfl⟩
theorem YU:(qs m a 4).Ok Tryz.prog 165:=by
 refine (ao.bf Tryz.call165 fun x_ y_ Q H_=>?_).sym
 obtain ⟨x,y,_⟩:=x_
 obtain ⟨v,_⟩:=y_
 obtain ⟨hn,hq⟩:=H_
 refine (ay mixed hm Tryz.func165 rfl (LT:= []) (ks:=qu) (aQ.nil _)).use (D:= [(0,.aZ ((ka .u64 10).wr (oL m a 4 x y v)) 219)]) ?_ hq
 show (aS _ _ _ _ ((oJ 8).wr (x,y,())) (oK.wr (v,())) _).sat _
 rw[Na]
 exact ⟨by decide,hn,rfl,rfl⟩
omit hm
noncomputable def PV:ao:=(qs m a 0).or ((qs m a 1).or ((qs m a 2).or ((qs m a 3).or (qs m a 4))))
def YV (l:List Prop) (e:Ev.End):Ev.End:=l.foldr Ev.End.need e
theorem Ar {R:LV→Hp→Prop}: ∀ {l:List Prop} {e:Ev.End},(∀ p∈l,p)→e.sat R→(YV l e).sat R
 | [],_,_,h=>h
 |p::l,e,hl,h=>⟨hl p (by simp),Ar (fun q hq=>hl q (by simp[hq])) h⟩
theorem SE (x y:Fe):aS Tryz.prog [(165,PV m a),(166,tZ)] [] Tryz.f130 (lU.wr (x,y,())) [] kK=
  YV (Ab m a x y) (Ev.End.leaf (kV.wr (q6 m a cd x y)) []):=by kernel_rfl
end
theorem YW:(afg bc).Ok Tryz.prog 137:=IW
theorem jZ: ∀ p∈mU bc bg,p.2.Ok Tryz.prog p.1:=ak YW (ak Aq aF)
theorem Nb:(PV bc bg).Ok Tryz.prog 165:=(YQ bc bg jZ).or ((YR bc bg jZ).or ((YS bc bg jZ).or ((YT bc bg jZ).or (YU bc bg jZ))))
theorem SF (x y:Fe): ∀ p∈Ab bc bg x y,p:=tW x y eV _ fun k=>by
 have:([(0,0),(0,0),(0,0),(0,0),(0,0)]:List (Int×Int)).getD k (0,0)=(0,0):=by
  match k with
  |0=>rfl
  |1=>rfl
  |2=>rfl
  |3=>rfl
  |4=>rfl
  |k+5=>rfl
 rw[this];exact ⟨by decide,by decide⟩
noncomputable def Cz:ao:=ao.bS [] lU ag fun x _=> .leaf none (kV.wr (mulC x.1 x.2.1)) []
theorem Fu:Cz.Ok Tryz.prog 130:=by
 refine (ao.bf Tryz.call130 fun x_ y_ Q H_=>?_).sym
 obtain ⟨x,y,_⟩:=x_
 have hq:=H_.2
 refine (ay mixed (ak Nb (ak pV aF)) Tryz.func130 rfl (LT:= []) (ks:=kK) (aQ.nil _)).use (D:= []) ?_ hq
 show (aS _ _ _ _ (lU.wr (x,y,())) [] _).sat _
 rw[SE]
 exact Ar (SF x y) ⟨rfl,rfl⟩
noncomputable def YX:ao:=ao.bS [] (rh) (ag) fun x_ y_=>(fun (x:Fe)=> .leaf none (kV.wr (mulC x x)) []) x_.1
theorem YY (x:Fe):aS Tryz.prog [(130,Cz)] [] Tryz.f169 ((rh).wr (x,())) ((ag).wr ()) [.fr [.sym],.auto]= .leaf (kV.wr (mulC x x)) ([]):=by kernel_rfl
theorem YZ:YX.Ok Tryz.prog 169:=by
 refine (ao.bf Tryz.call169 fun x_ y_ Q H_=>?_).sym
 obtain ⟨x,_⟩:=x_
 have hq:=H_.2
 refine (ay mixed ((ak Fu aF)) Tryz.func169 rfl (LT:= []) (ks:= [.fr [.sym],.auto]) (aQ.nil _)).use (D:= []) ?_ hq
 show (aS _ _ _ _ ((rh).wr (x,())) ((ag).wr ()) _).sat _
 rw[YY]
 exact ⟨rfl,rfl⟩
theorem ac5 (u v:ft):decide (u.toList=v.toList)=eqV u v:=by
 cases h:eqV u v with
 |true=>rw[(tJ u v).1 h];simp
 |false=>exact decide_eq_false fun e=>by rw[(tJ u v).2 (Vec.toList_inj e)] at h;cases h
noncomputable def ahq:ao:=ao.bS [] (lU) (ag) fun x_ y_=>(fun (x y:Fe)=> .leaf none (nB (MV x y)) []) x_.1 x_.2.1
theorem Y0 (x y:Fe):aS Tryz.prog [(92,xM)] [] Tryz.f181 ((lU).wr (x,y,())) ((ag).wr ()) [.fr [.sym],.auto]= .leaf (nB (decide ((eN x).toList=(eN y).toList))) []:=by kernel_rfl
theorem Y1:ahq.Ok Tryz.prog 181:=by
 refine (ao.bf Tryz.call181 fun x_ y_ Q H_=>?_).sym
 obtain ⟨x,y,_⟩:=x_
 have hq:=H_.2
 refine (ay mixed ((ak vW aF)) Tryz.func181 rfl (LT:= []) (ks:= [.fr [.sym],.auto]) (aQ.nil _)).use (D:= []) ?_ hq
 show (aS _ _ _ _ ((lU).wr (x,y,())) ((ag).wr ()) _).sat _
 rw[Y0]
 rw[ac5];exact ⟨rfl,rfl⟩
noncomputable def Y2:ao:=ao.bS [] (rh) (ag) fun x_ y_=>(fun (x:Fe)=> .leaf none (nB (eO x)) []) x_.1
theorem Nc (x:Fe):aS Tryz.prog [(181,ahq)] [] Tryz.f177 ((rh).wr (x,())) ((ag).wr ()) [.fr [.sym],.auto]= .leaf (nB (eO x)) ([]):=by kernel_rfl
theorem Y3:Y2.Ok Tryz.prog 177:=by
 refine (ao.bf Tryz.call177 fun x_ y_ Q H_=>?_).sym
 obtain ⟨x,_⟩:=x_
 have hq:=H_.2
 refine (ay mixed ((ak Y1 aF)) Tryz.func177 rfl (LT:= []) (ks:= [.fr [.sym],.auto]) (aQ.nil _)).use (D:= []) ?_ hq
 show (aS _ _ _ _ ((rh).wr (x,())) ((ag).wr ()) _).sat _
 rw[Nc]
 exact ⟨rfl,rfl⟩
noncomputable def afh:ao:=ao.bS [] (rh) (ag) fun x_ y_=>(fun (x:Fe)=> .leaf none (nB (oH x)) []) x_.1
theorem SG (x:Fe):aS Tryz.prog [(92,xM)] [] Tryz.f93 ((rh).wr (x,())) ((ag).wr ()) [.fr [.sym],.auto]= .leaf (nB (oH x)) ([]):=by kernel_rfl
theorem ac6:afh.Ok Tryz.prog 93:=by
 refine (ao.bf Tryz.call93 fun x_ y_ Q H_=>?_).sym
 obtain ⟨x,_⟩:=x_
 have hq:=H_.2
 refine (ay mixed ((ak vW aF)) Tryz.func93 rfl (LT:= []) (ks:= [.fr [.sym],.auto]) (aQ.nil _)).use (D:= []) ?_ hq
 show (aS _ _ _ _ ((rh).wr (x,())) ((ag).wr ()) _).sat _
 rw[SG]
 exact ⟨rfl,rfl⟩
theorem j0 {l:List Int} (h:l.length=32):(xK l).toList=l:=by
 have e:(xK l).toList=(List.range 32).map fun i=>l.getD i 0:=rfl
 rw[e,UQ h]
theorem Nd (u:ft):xK u.toList=u:=Vec.toList_inj (j0 (Vec.dM u))
theorem As {f:Int→Int}: {n:Nat}→(k:Nat)→(v:Vec Int n)→(Vec.xc f k v).toList=v.toList.modify k f
 |0,k,_=>by simp[Vec.xc,Vec.toList]
 |n+1,0,v=>by simp[Vec.xc,Vec.toList]
 |n+1,k+1,v=>by simp[Vec.xc,Vec.toList,As k v.2]
theorem ac7 {l:List Int} (h:l.length=32) {k:Nat} (hk:k<32) (f:Int→Int):xK (l.set k (f (l.getD k 0)))=Vec.xc f k (xK l):=by
 apply Vec.toList_inj
 rw[As,j0 h,j0 (by simpa using h),List.getD_eq_getElem?_getD,List.getElem?_eq_getElem (by omega:k<l.length),Option.getD_some]
 apply List.ext_getElem?
 intro i
 simp only[List.getElem?_modify,List.getElem?_set]
 by_cases e:k=i
 ·subst e;simp[h,hk]
 ·simp[e]
theorem PW (l:List Int): ∀ {k:Nat},k<32→(xK l).get k=l.getD k 0:=by
 have key: ∀ (n:Nat) (g:Nat→Int) (k:Nat),k<n→(Vec.ofFn n g).get k=g k:=by
  intro n
  induction n with
  |zero=>intro g k hk;omega
  |succ n ih=>
   intro g k hk
   cases k with
   |zero=>rfl
   |succ k=>exact ih (fun i=>g (i+1)) k (by omega)
 intro k hk
 exact key 32 (fun i=>l.getD i 0) k hk
theorem At (k m:Nat):(k:Int).tmod (m:Int)=((k%m:Nat):Int):=by rw[Int.tmod_eq_emod_of_nonneg (by omega),← Int.natCast_emod]
noncomputable def afi:ao:=ao.bS [] ((ae (ai (ax .u8)) (ae (ai (ax .u8)) ag))) (ag) fun x_ y_=>(fun (lo hi:Int)=> .leaf none (ac1 (hX lo hi)) []) x_.1 x_.2.1
theorem SH (lo hi:Int):aS Tryz.prog [] [] Tryz.f168 (((ae (ai (ax .u8)) (ae (ai (ax .u8)) ag))).wr (lo,hi,())) ((ag).wr ()) kR= .leaf (ac1 (hX lo hi)) ([]):=by kernel_rfl
theorem ac8:afi.Ok Tryz.prog 168:=by
 refine (ao.bf Tryz.call168 fun x_ y_ Q H_=>?_).sym
 obtain ⟨lo,hi,_⟩:=x_
 have hq:=H_.2
 refine (ay mixed aF Tryz.func168 rfl (LT:= []) (ks:=kR) (aQ.nil _)).use (D:= []) ?_ hq
 show (aS _ _ _ _ (((ae (ai (ax .u8)) (ae (ai (ax .u8)) ag))).wr (lo,hi,())) ((ag).wr ()) _).sat _
 rw[SH]
 exact ⟨rfl,rfl⟩
noncomputable abbrev ahr:Func:=Tryz.f167
abbrev poC:ba (List LV) (Int×Unit):=(jk 2 (aj (ai (aP 0 0)) (aj (ai (aP 1 0)) (aj (ai (aP 2 0)) (aj (ai (aP 3 0)) (ae (ai (ax .i64)) (jk 20 ag)))))))
abbrev ac9:Wk:= .fr (dA 27 [(2,.aq),(3,.aq),(4,.aq),(5,.aq),(6,.sym)])
abbrev poX:ba (List LV) (Unit):=(jk 4 (aj (ai (aP 0 0)) (aj (ai (aP 1 0)) (jk 21 ag))))
abbrev iFe:ba (Option Ev.Item) Fe:=gX 96 (ka .u64 5)
abbrev poH:ba Hp (Fe×List Int×Fe×Fe×Unit):=ae iFe (ae (qd 22 .u8 32) (ae iFe (ae iFe ag)))
abbrev SJ:ba Hp (Fe×Fe×Unit):=ae iFe (ae iFe ag)
noncomputable abbrev Y4:List (FuncId×ao):= [(131,Ft),(169,YX),(130,Cz)]
theorem IZ: ∀ p∈Y4,p.2.Ok Tryz.prog p.1:=ak Cy (ak YZ (ak Fu aF))
abbrev I0 (i:Nat):Wk:= .aZ i (List.replicate 5 .sym)
def poW:Exit→List Wk
 | .normal=> [ac9,I0 2,I0 3,.auto]
 | .exit 0=> [.fr (dA 27 [(4,.aq),(5,.aq)]),.auto]
 |_=> []
theorem ahs (x r o:Fe) (e:List Int) (i:Int):dR Tryz.prog Y4 [] ahr 0 [] poW ((bG poC poH).wr ((i,()),(x,e,r,o,())))=
 aU.ite (decide ((0:Int)≤i)) (aU.need ((0:Int)≤IntKind.i64.wrap (i.tdiv (8:Int))∧IntKind.i64.wrap (i.tdiv (8:Int))<(32:Int))
 (aU.need ((0:Int)≤i.tmod (8:Int)) (aU.ite (bp IntKind.u8 (shr IntKind.u8 ((List.take (32:Nat) (List.drop (0:Nat) e)).getD
 (IntKind.i64.wrap (i.tdiv (8:Int))).toNat (0:Int)) (i.tmod (8:Int))) (1:Int)==(1:Int)) (aU.leaf Exit.normal ((bG poC poH).wr
 ((IntKind.i64.wrap (i-(1:Int)),PUnit.unit),x,e,r,mulC (mulC o o) x,PUnit.unit))) (aU.leaf Exit.normal ((bG poC poH).wr ((IntKind.i64.wrap
 (i-(1:Int)),PUnit.unit),x,e,r,mulC o o,PUnit.unit)))))) (aU.leaf (Exit.exit (0:Nat)) ((bG poX SJ).wr (PUnit.unit,r,o,PUnit.unit))):=by kernel_rfl
theorem ada {e:List Int} (he:e.length=32) {j:Nat} (hj:j<256):
  (bp .u8 (shr .u8 ((List.take 32 (List.drop 0 e)).getD (IntKind.i64.wrap ((j:Int).tdiv 8)).toNat 0) ((j:Int).tmod 8)) 1==1)=Cr (xK e) j:=by
 have e1:IntKind.i64.wrap ((j:Int).tdiv 8)=((j/8:Nat):Int):=jK j 8 (by omega)
 have e2:(j:Int).tmod 8=((j%8:Nat):Int):=At j 8
 rw[e1,e2,bN he,Int.toNat_natCast]
 unfold Cr
 rw[PW e (show j/8<32 by omega)]
noncomputable def poF (x:(Int×Unit)×Fe×List Int×Fe×Fe×Unit):aU:=
 .need (x.1.1=255∧x.2.2.1.length=32) (.leaf (.exit 0) ((bG poX SJ).wr ((),(x.2.2.2.1,iE (fA (fun x=>mulC x x) mulC x.2.1 (xK x.2.2.1)) 256 x.2.2.2.2.1,()))))
theorem adb (x):Ex Tryz.prog [] (.loop (aW ahr 0)) ((bG poC poH).wr x) (poF x):=by
 obtain ⟨⟨i,_⟩,x,e,r,o,_⟩:=x
 refine Ex.need fun ⟨h1,h2⟩=>?_
 simp only at h1 h2
 subst h1
 have key:=gL (fn:=ahr) (id:=0) (j:=0) (ws:=poW) (hp:= []) mixed IZ (aQ.nil _) 256 (fun k o=>(bG poC poH).wr ((255-(k:Int),()),(x,e,r,o,()))) (fun o=>(bG poX SJ).wr ((),(r,o,()))) (fA (fun x=>mulC x x) mulC x (xK e)) (fun _ _=>True)
  (fun k o R hk _ hn hx=>?_) (fun _ _ _ _=>trivial) 0 o (by omega) trivial
 ·rw[Nat.sub_zero,vL] at key;exact key
 rw[ahs]
 refine ⟨fun hb=>?_,fun hb=>?_⟩
 ·have na:k<256:=by have:=of_decide_eq_true hb;omega
  have e0:(255-(k:Int))=((255-k:Nat):Int):=by omega
  have yh:=hn na
  have e3:IntKind.i64.wrap ((255-(k:Int))-1)=255-((k+1:Nat):Int):=by rw[ar (by omega) (by omega)];omega
  have hw:IntKind.i64.wrap ((255-(k:Int)).tdiv 8)=(((255-k)/8:Nat):Int):=by rw[e0];exact jK _ 8 (by omega)
  have ht:(255-(k:Int)).tmod 8=(((255-k)%8:Nat):Int):=by rw[e0];exact At _ 8
  have QH:=ada h2 (j:=255-k) (by omega)
  rw[← e0] at QH
  rw[QH,e3]
  refine ⟨by rw[hw];omega,by rw[ht];omega,fun hc=>?_,fun hc=>?_⟩
  ·have:fA (fun x=>mulC x x) mulC x (xK e) k o=mulC (mulC o o) x:=by unfold fA;rw[hc,dP];rfl
   rw[this] at yh;exact yh
  ·have:fA (fun x=>mulC x x) mulC x (xK e) k o=mulC o o:=by unfold fA;rw[hc,dP];rfl
   rw[this] at yh;exact yh
 ·have:k=256:=by have:=of_decide_eq_false hb;omega
  exact hx this
noncomputable def Nf (x:Fe) (e:List Int) (o:Fe):Fe:=iE (fA (fun x=>mulC x x) mulC x (xK e)) 256 o
noncomputable def aoQ (x:(Int×Unit)×Fe×List Int×Fe×Fe×Unit):aU:=
 .need (x.1.1=255∧x.2.2.1.length=32) (.leaf (.exit 0) ((bG poX SJ).wr ((),(x.2.2.2.1,Nf x.2.1 x.2.2.1 x.2.2.2.2.1,()))))
noncomputable abbrev ak7:fk:= [(0,fI (bG poC poH) 0 [ac9,.auto,I0 2,I0 3] aoQ)]
abbrev poA:ba (List LV) (Fe×List Int×Unit):=ae kV (ae cB ag)
end Go.Proofs.YtjalaohajcpllaaGreat
end
section
set_option linter.unusedVariables false
set_option linter.unusedSimpArgs false
namespace Go.Proofs.YtjalaohajcpllaaGreat
open Go Go.Ev BJ
set_option maxRecDepth 1000000
abbrev gn (r:Fe×Bool):LV:= .cD [.agg ((ka .u64 5).wr r.1),.sc (.bool (.sym r.2))]
def Au (g:Fe→Fe):ao:=ao.bS [] rh ag fun x _=> .leaf none (kV.wr (g x.1)) []
def k8 (g:Fe→Fe→Fe):ao:=ao.bS [] lU ag fun x _=> .leaf none (kV.wr (g x.1 x.2.1)) []
def SK (g:Fe→Bool):ao:=ao.bS [] rh ag fun x _=> .leaf none (nB (g x.1)) []
def e2B (g:Fe→Fe→Bool):ao:=ao.bS [] lU ag fun x _=> .leaf none (nB (g x.1 x.2.1)) []
def e1P (g:Fe→Fe×Bool):ao:=ao.bS [] rh ag fun x _=> .leaf none (gn (g x.1)) []
def e2P (g:Fe→Fe→Fe×Bool):ao:=ao.bS [] lU ag fun x _=> .leaf none (gn (g x.1 x.2.1)) []
def Fv (g:Int→Fe):ao:=ao.bS [] ac2 ag fun x _=> .leaf none (kV.wr (g x.1)) []
def ePw (g:Fe→List Int→Fe):ao:=ao.bS [] poA ag fun x _=> .leaf (some (x.2.1.length=32)) (kV.wr (g x.1 x.2.1)) []
def eEx (g:Int→Int→List Int):ao:=ao.bS [] (ae (ai (ax .u8)) (ae (ai (ax .u8)) ag)) ag fun x _=> .leaf none (iq .u8 32 (g x.1 x.2.1)) []
noncomputable def Fw (x:Fe) (e:List Int):Fe:=powC x (xK e)
noncomputable def Av (lo hi:Int):List Int:=(hX lo hi).toList
theorem I1 (x:Fe) (lo hi:Int):Fw x (Av lo hi)=powC x (hX lo hi):=by unfold Fw Av;rw[Nd]
theorem Aw (lo hi:Int):(Av lo hi).length=32:=Vec.dM _
noncomputable abbrev ala:ao:=ePw Fw
theorem SL (p:Fe→List Int→Fe→Fe) (sm:Int→Fe) (x:Fe) (e:List Int):aS Tryz.prog [(131,Fv sm),(169,YX),(130,Cz)] [(0,fI (bG poC poH) 0 [ac9,.auto,I0 2,I0 3] fun x=> .need (x.1.1=255∧x.2.2.1.length=32) (.leaf (.exit 0) ((bG poX SJ).wr ((),(x.2.2.2.1,p x.2.1 x.2.2.1 x.2.2.2.2.1,())))))] Tryz.f167 (poA.wr (x,e,())) [] kK=
  .need ((255:Int)=255∧e.length=32) (.leaf (kV.wr (p x e (sm 1))) []):=by kernel_rfl
theorem SM (x:Fe) (e:List Int):aS Tryz.prog Y4 ak7 Tryz.f167 (poA.wr (x,e,())) [] kK=aS Tryz.prog [(131,Fv aT),(169,YX),(130,Cz)] [(0,fI (bG poC poH) 0 [ac9,.auto,I0 2,I0 3] fun x=> .need (x.1.1=255∧x.2.2.1.length=32) (.leaf (.exit 0) ((bG poX SJ).wr ((),(x.2.2.2.1,Nf x.2.1 x.2.2.1 x.2.2.2.2.1,())))))] Tryz.f167 (poA.wr (x,e,())) [] kK:=by kernel_rfl
theorem PX:ala.Ok Tryz.prog 167:=by
 refine (ao.bf Tryz.call167 fun x_ y_ Q H_=>?_).sym
 obtain ⟨x,e,_⟩:=x_
 obtain ⟨hn,hq⟩:=H_
 have hn:e.length=32:=hn
 refine (ay mixed IZ Tryz.func167 rfl (LT:=ak7) (ks:=kK) (aQ.cO (nx rfl (cP (hp:= []) adb) pc))).use (D:= []) ?_ hq
 show (aS _ _ _ _ (poA.wr (x,e,())) [] _).sat _
 rw[SM x e,SL Nf aT x e]
 exact ⟨⟨rfl,hn⟩,rfl,rfl⟩
theorem SN:Ft=Fv aT:=by kernel_rfl
theorem j1:(Fv aT).Ok Tryz.prog 131:=SN▸Cy
theorem ade:Cz=k8 mulC:=by kernel_rfl
theorem ja:(k8 mulC).Ok Tryz.prog 130:=ade▸Fu
theorem adf:afe=k8 jl:=by kernel_rfl
theorem I2:(k8 jl).Ok Tryz.prog 162:=adf▸ac3
theorem adg:YM=k8 kb:=by kernel_rfl
theorem I3:(k8 kb).Ok Tryz.prog 161:=adg▸PT
theorem ahu:YX=Au (fun x=>mulC x x):=by kernel_rfl
theorem PY:(Au (fun x=>mulC x x)).Ok Tryz.prog 169:=ahu▸YZ
theorem adh:aff=Au Al:=by kernel_rfl
theorem Y5:(Au Al).Ok Tryz.prog 182:=adh▸ac4
theorem ahv:ahq=e2B MV:=by kernel_rfl
theorem adi:(e2B MV).Ok Tryz.prog 181:=ahv▸Y1
theorem adj:afh=SK oH:=by kernel_rfl
theorem I4:(SK oH).Ok Tryz.prog 93:=adj▸ac6
theorem Y6:Y2=SK eO:=by kernel_rfl
theorem SO:(SK eO).Ok Tryz.prog 177:=Y6▸Y3
theorem adk:afi=eEx Av:=by kernel_rfl
theorem I5:(eEx Av).Ok Tryz.prog 168:=adk▸ac8
noncomputable abbrev alb:ao:=Au jj
theorem SP (pow:Fe→List Int→Fe) (exp:Int→Int→List Int) (x:Fe):aS Tryz.prog [(167,ePw pow),(168,eEx exp)] [] Tryz.f132 ((rh).wr (x,())) [] kK= .need ((exp 235 127).length=32) (.leaf (kV.wr (pow x (exp 235 127))) []):=by kernel_rfl
theorem SQ: ∀ p_∈([(167,ePw Fw),(168,eEx Av)]:List (FuncId×ao)),p_.2.Ok Tryz.prog p_.1:=(ak PX (ak I5 aF))
theorem Fx:alb.Ok Tryz.prog 132:=by
 refine (ao.bf Tryz.call132 fun x_ y_ Q H_=>?_).sym
 obtain ⟨x,_⟩:=x_
 have hq:=H_.2
 refine (ay (tab:= [(167,ePw Fw),(168,eEx Av)]) mixed SQ Tryz.func132 rfl (LT:= []) (ks:=kK) (aQ.nil _)).use (D:= []) ?_ hq
 show (aS _ _ _ _ ((rh).wr (x,())) [] _).sat _
 rw[SP Fw Av]
 rw[I1];exact ⟨Aw _ _,rfl,rfl⟩
theorem adl (pw:Fe→ft→Fe) (ex:Int→Int→ft) (ml:Fe→Fe→Fe) (sq ng:Fe→Fe) (sm:Int→Fe) (eq:Fe→Fe→Bool) (od:Fe→Bool) (x:Fe):
  Ac pw ex ml sq ng sm eq od x=bif eq (sq (pw x (ex 254 15))) x then (bif od (pw x (ex 254 15)) then ng (pw x (ex 254 15)) else pw x (ex 254 15),true)
   else bif eq (sq (ml (pw x (ex 254 15)) (pw (sm 2) (ex 251 31)))) x then (bif od (ml (pw x (ex 254 15)) (pw (sm 2) (ex 251 31))) then ng (ml (pw x (ex 254 15)) (pw (sm 2) (ex 251 31))) else ml (pw x (ex 254 15)) (pw (sm 2) (ex 251 31)),true) else (dz,false):=by
 have aho: ∀ (b:Bool) (u v:Fe),jW b u v=bif b then u else v:=fun b u v=>dP b u v
 unfold Ac
 simp only[aho]
 cases h:eq (sq (pw x (ex 254 15))) x
 ·simp only[Bool.not_false,cond_true,cond_false]
  cases eq (sq (ml (pw x (ex 254 15)) (pw (sm 2) (ex 251 31)))) x<;>rfl
 ·simp only[Bool.not_true,cond_true,cond_false,h]
theorem Y7 {t1 t2 o1 o2:Bool} {r r2 n1 n2:Fe} {p1 p2:Prop} (h1:p1) (h2:p2) {q:Fe×Bool} (hq:q=bif t1 then (bif o1 then n1 else r,true) else bif t2 then (bif o2 then n2 else r2,true) else (dz,false)):
  (Ev.End.need p1 (.ite (!t1) (.need p2 (.ite (!t2) (.leaf (gn (dz,false)) []) (.ite o2 (.leaf (gn (n2,true)) []) (.leaf (gn (r2,true)) [])))) (.ite (!t1) (.leaf (gn (dz,false)) []) (.ite o1 (.leaf (gn (n1,true)) []) (.leaf (gn (r,true)) []))))).sat fun v dX=>v=gn q∧dX= []:=by
 subst hq
 refine ⟨h1,?_⟩
 cases t1
 ·refine ⟨fun _=>⟨h2,?_⟩,fun h=>(by cases h)⟩
  cases t2
  ·exact ⟨fun _=>⟨rfl,rfl⟩,fun h=>(by cases h)⟩
  ·refine ⟨fun h=>(by cases h),fun _=>?_⟩
   cases o2
   ·exact ⟨fun h=>(by cases h),fun _=>⟨rfl,rfl⟩⟩
   ·exact ⟨fun _=>⟨rfl,rfl⟩,fun h=>(by cases h)⟩
 ·refine ⟨fun h=>(by cases h),fun _=>⟨fun h=>(by cases h),fun _=>?_⟩⟩
  cases o1
  ·exact ⟨fun h=>(by cases h),fun _=>⟨rfl,rfl⟩⟩
  ·exact ⟨fun _=>⟨rfl,rfl⟩,fun h=>(by cases h)⟩
theorem adm (x:Fe):lT x=Ac powC hX mulC (fun x=>mulC x x) Al aT MV oH x:=rfl
noncomputable abbrev ahw:ao:=e1P lT
theorem Ng (pow:Fe→List Int→Fe) (exp:Int→Int→List Int) (mul:Fe→Fe→Fe) (sq neg:Fe→Fe) (eq:Fe→Fe→Bool) (X9:Fe→Bool) (sm:Int→Fe) (x:Fe):aS Tryz.prog [(167,ePw pow),(168,eEx exp),(130,k8 mul),(169,Au sq),(182,Au neg),(181,e2B eq),(93,SK X9),(131,Fv sm)] [] Tryz.f178 ((rh).wr (x,())) [] kK= .need ((exp 254 15).length=32) (.ite (!(eq (sq (pow x (exp 254 15))) x)) (.need ((exp 251 31).length=32) (.ite (!(eq (sq (mul (pow x (exp 254 15)) (pow (sm 2) (exp 251 31)))) x)) (.leaf (gn (dz,false)) []) (.ite (X9 (mul (pow x (exp 254 15)) (pow (sm 2) (exp 251 31)))) (.leaf (gn (neg (mul (pow x (exp 254 15)) (pow (sm 2) (exp 251 31))),true)) []) (.leaf (gn (mul (pow x (exp 254 15)) (pow (sm 2) (exp 251 31)),true)) [])))) (.ite (!(eq (sq (pow x (exp 254 15))) x)) (.leaf (gn (dz,false)) []) (.ite (X9 (pow x (exp 254 15))) (.leaf (gn (neg (pow x (exp 254 15)),true)) []) (.leaf (gn (pow x (exp 254 15),true)) [])))):=by kernel_rfl
theorem Nh: ∀ p_∈([(167,ePw Fw),(168,eEx Av),(130,k8 mulC),(169,Au (fun x=>mulC x x)),(182,Au Al),(181,e2B MV),(93,SK oH),(131,Fv aT)]:List (FuncId×ao)),p_.2.Ok Tryz.prog p_.1:=(ak PX (ak I5 (ak ja (ak PY (ak Y5 (ak adi (ak I4 (ak j1 aF))))))))
theorem Y8:ahw.Ok Tryz.prog 178:=by
 refine (ao.bf Tryz.call178 fun x_ y_ Q H_=>?_).sym
 obtain ⟨x,_⟩:=x_
 have hq:=H_.2
 refine (ay (tab:= [(167,ePw Fw),(168,eEx Av),(130,k8 mulC),(169,Au (fun x=>mulC x x)),(182,Au Al),(181,e2B MV),(93,SK oH),(131,Fv aT)]) mixed Nh Tryz.func178 rfl (LT:= []) (ks:=kK) (aQ.nil _)).use (D:= []) ?_ hq
 show (aS _ _ _ _ ((rh).wr (x,())) [] _).sat _
 rw[Ng Fw Av mulC (fun x=>mulC x x) Al MV oH aT]
 simp only[I1]
 exact Y7 (Aw _ _) (Aw _ _) ((adm x).trans (adl _ _ _ _ _ _ _ _ x))
theorem Y9 (u v:Fe):kU u v=(jW (eO v) dz (lT (mulC u (jj v))).1,bif eO v then eO u else (lT (mulC u (jj v))).2):=by unfold kU;rfl
theorem SR {z zu:Bool} {s r:Fe×Bool} (hr:r=(jW z dz s.1,bif z then zu else s.2)):(Ev.End.ite z (.leaf (gn (dz,zu)) []) (.leaf (gn s) [])).sat fun v dX=>v=gn r∧dX= []:=by
 subst hr
 rw[dP]
 cases z
 ·exact ⟨fun h=>(by cases h),fun _=>⟨rfl,rfl⟩⟩
 ·exact ⟨fun _=>⟨rfl,rfl⟩,fun h=>(by cases h)⟩
noncomputable abbrev adn:ao:=e2P kU
theorem I6 (mul:Fe→Fe→Fe) (inv:Fe→Fe) (isz:Fe→Bool) (sqrt:Fe→Fe×Bool) (u v:Fe):aS Tryz.prog [(130,k8 mul),(132,Au inv),(177,SK isz),(178,e1P sqrt)] [] Tryz.f170 ((lU).wr (u,v,())) [] kK= .ite (isz v) (.leaf (gn (dz,isz u)) []) (.leaf (gn (sqrt (mul u (inv v)))) []):=by kernel_rfl
theorem I7: ∀ p_∈([(130,k8 mulC),(132,Au jj),(177,SK eO),(178,e1P lT)]:List (FuncId×ao)),p_.2.Ok Tryz.prog p_.1:=(ak ja (ak Fx (ak SO (ak Y8 aF))))
theorem SS:adn.Ok Tryz.prog 170:=by
 refine (ao.bf Tryz.call170 fun x_ y_ Q H_=>?_).sym
 obtain ⟨u,v,_⟩:=x_
 have hq:=H_.2
 refine (ay (tab:= [(130,k8 mulC),(132,Au jj),(177,SK eO),(178,e1P lT)]) mixed I7 Tryz.func170 rfl (LT:= []) (ks:=kK) (aQ.nil _)).use (D:= []) ?_ hq
 show (aS _ _ _ _ ((lU).wr (u,v,())) [] _).sat _
 rw[I6 mulC jj eO lT]
 exact SR (Y9 u v)
end Go.Proofs.YtjalaohajcpllaaGreat
end
section
set_option linter.unusedVariables false
set_option linter.unusedSimpArgs false
namespace Go.Proofs.YtjalaohajcpllaaGreat
open Go Go.Ev BJ
set_option maxRecDepth 1000000
abbrev Ax:ba LV Pt:=Du (ae OG (MI .u64 (MI .u64 (MI .u64 (ka .u64 5) 5) 5) 5))
abbrev Za:ba (List LV) (Pt×Unit):=ae Ax ag
abbrev ahx:ba (List LV) (Pt×Pt×Unit):=ae Ax (ae Ax ag)
def eFr (g:List Int→Fe):ao:=ao.bS [] vV ag fun x _=> .leaf none (kV.wr (g x.1)) []
def e0F (c:Fe):ao:=ao.bS [] ag ag fun _ _=> .leaf none (kV.wr c) []
def Zb (c:Pt):ao:=ao.bS [] ag ag fun _ _=> .leaf none (Ax.wr c) []
def eAf (g:Fe→Fe→Pt):ao:=ao.bS [] lU ag fun x _=> .leaf none (Ax.wr (g x.1 x.2.1)) []
def SU (g:Pt→Pt):ao:=ao.bS [] Za ag fun x _=> .leaf none (Ax.wr (g x.1)) []
def e2Q (g:Pt→Pt→Pt):ao:=ao.bS [] ahx ag fun x _=> .leaf none (Ax.wr (g x.1 x.2.1)) []
noncomputable def Ay (b:List Int):Fe:=mP (xK b)
theorem Zc:YO=eFr Ay:=by kernel_rfl
theorem SW:(eFr Ay).Ok Tryz.prog 176:=Zc▸YP
theorem SX:iZ=Ay lS.toList:=by unfold Ay;rw[Nd];rfl
noncomputable abbrev ahA:ao:=e0F iZ
theorem Ni (frm:List Int→Fe):aS Tryz.prog [(176,eFr frm)] [] Tryz.f163 ((ag).wr ()) [] kK= .leaf (kV.wr (frm lS.toList)) []:=by kernel_rfl
theorem Nj: ∀ p_∈([(176,eFr Ay)]:List (FuncId×ao)),p_.2.Ok Tryz.prog p_.1:=(ak SW aF)
theorem I8:ahA.Ok Tryz.prog 163:=by
 refine (ao.bf Tryz.call163 fun x_ y_ Q H_=>?_).sym
 have hq:=H_.2
 refine (ay (tab:= [(176,eFr Ay)]) mixed Nj Tryz.func163 rfl (LT:= []) (ks:=kK) (aQ.nil _)).use (D:= []) ?_ hq
 show (aS _ _ _ _ ((ag).wr ()) [] _).sat _
 rw[Ni Ay]
 rw[SX];exact ⟨rfl,rfl⟩
noncomputable abbrev Zd:ao:=eAf gr
theorem Fy (mul:Fe→Fe→Fe) (sm:Int→Fe) (x y:Fe):aS Tryz.prog [(130,k8 mul),(131,Fv sm)] [] Tryz.f134 ((lU).wr (x,y,())) [] kK= .leaf (Ax.wr (true,x,y,sm 1,mul x y)) []:=by kernel_rfl
theorem Fz: ∀ p_∈([(130,k8 mulC),(131,Fv aT)]:List (FuncId×ao)),p_.2.Ok Tryz.prog p_.1:=(ak ja (ak j1 aF))
theorem Az:Zd.Ok Tryz.prog 134:=by
 refine (ao.bf Tryz.call134 fun x_ y_ Q H_=>?_).sym
 obtain ⟨x,y,_⟩:=x_
 have hq:=H_.2
 refine (ay (tab:= [(130,k8 mulC),(131,Fv aT)]) mixed Fz Tryz.func134 rfl (LT:= []) (ks:=kK) (aQ.nil _)).use (D:= []) ?_ hq
 show (aS _ _ _ _ ((lU).wr (x,y,())) [] _).sat _
 rw[Fy mulC aT]
 exact ⟨rfl,rfl⟩
noncomputable abbrev ahB:ao:=Zb hY
theorem Nk (af:Fe→Fe→Pt) (sm:Int→Fe):aS Tryz.prog [(134,eAf af),(131,Fv sm)] [] Tryz.f126 ((ag).wr ()) [] kK= .leaf (Ax.wr (af dz (sm 1))) []:=by kernel_rfl
theorem Nl: ∀ p_∈([(134,eAf gr),(131,Fv aT)]:List (FuncId×ao)),p_.2.Ok Tryz.prog p_.1:=(ak Az (ak j1 aF))
theorem I9:ahB.Ok Tryz.prog 126:=by
 refine (ao.bf Tryz.call126 fun x_ y_ Q H_=>?_).sym
 have hq:=H_.2
 refine (ay (tab:= [(134,eAf gr),(131,Fv aT)]) mixed Nl Tryz.func126 rfl (LT:= []) (ks:=kK) (aQ.nil _)).use (D:= []) ?_ hq
 show (aS _ _ _ _ ((ag).wr ()) [] _).sat _
 rw[Nk gr aT]
 exact ⟨rfl,rfl⟩
theorem PZ (p:Pt):fH p=bif !p.1 then hY else p:=by unfold fH Yc;rw[tM]
theorem P0 {t:Bool} {V W X:LV} (h1:t=true→V=X) (h2:t=false→W=X):(Ev.End.ite t (.leaf V []) (.leaf W [])).sat fun v dX=>v=X∧dX= []:=⟨fun h=>⟨h1 h,rfl⟩,fun h=>⟨h2 h,rfl⟩⟩
noncomputable abbrev ald:ao:=SU fH
theorem SY (z:Pt) (p:Pt):aS Tryz.prog [(126,Zb z)] [] Tryz.f135 ((Za).wr (p,())) [] kK= .ite (!p.1) (.leaf (Ax.wr z) []) (.leaf (Ax.wr p) []):=by kernel_rfl
theorem SZ: ∀ p_∈([(126,Zb hY)]:List (FuncId×ao)),p_.2.Ok Tryz.prog p_.1:=(ak I9 aF)
theorem P1:ald.Ok Tryz.prog 135:=by
 refine (ao.bf Tryz.call135 fun x_ y_ Q H_=>?_).sym
 obtain ⟨p,_⟩:=x_
 have hq:=H_.2
 refine (ay (tab:= [(126,Zb hY)]) mixed SZ Tryz.func135 rfl (LT:= []) (ks:=kK) (aQ.nil _)).use (D:= []) ?_ hq
 show (aS _ _ _ _ ((Za).wr (p,())) [] _).sat _
 rw[SY hY]
 exact P0 (fun h=>by rw[PZ,h];rfl) (fun h=>by rw[PZ,h];rfl)
noncomputable abbrev ahC:ao:=e1P wQ
theorem Nm (mul add sub:Fe→Fe→Fe) (sq:Fe→Fe) (sm:Int→Fe) (ed:Fe) (ratio:Fe→Fe→Fe×Bool) (y:Fe):aS Tryz.prog [(130,k8 mul),(162,k8 add),(161,k8 sub),(169,Au sq),(131,Fv sm),(163,e0F ed),(170,e2P ratio)] [] Tryz.f133 ((rh).wr (y,())) [] kK= .leaf (gn (ratio (sub (sq y) (sm 1)) (add (mul ed (sq y)) (sm 1)))) []:=by kernel_rfl
theorem Nn: ∀ p_∈([(130,k8 mulC),(162,k8 jl),(161,k8 kb),(169,Au (fun x=>mulC x x)),(131,Fv aT),(163,e0F iZ),(170,e2P kU)]:List (FuncId×ao)),p_.2.Ok Tryz.prog p_.1:=(ak ja (ak I2 (ak I3 (ak PY (ak j1 (ak I8 (ak SS aF)))))))
theorem Ze:ahC.Ok Tryz.prog 133:=by
 refine (ao.bf Tryz.call133 fun x_ y_ Q H_=>?_).sym
 obtain ⟨y,_⟩:=x_
 have hq:=H_.2
 refine (ay (tab:= [(130,k8 mulC),(162,k8 jl),(161,k8 kb),(169,Au (fun x=>mulC x x)),(131,Fv aT),(163,e0F iZ),(170,e2P kU)]) mixed Nn Tryz.func133 rfl (LT:= []) (ks:=kK) (aQ.nil _)).use (D:= []) ?_ hq
 show (aS _ _ _ _ ((rh).wr (y,())) [] _).sat _
 rw[Nm mulC jl kb (fun x=>mulC x x) aT iZ kU]
 exact ⟨rfl,rfl⟩
noncomputable abbrev ahD:ao:=Zb oI
theorem No (mul:Fe→Fe→Fe) (sm:Int→Fe) (inv:Fe→Fe) (root:Fe→Fe×Bool) (af:Fe→Fe→Pt):aS Tryz.prog [(130,k8 mul),(131,Fv sm),(132,Au inv),(133,e1P root),(134,eAf af)] [] Tryz.f90 ((ag).wr ()) [] kK= .leaf (Ax.wr (af (root (mul (sm 4) (inv (sm 5)))).1 (mul (sm 4) (inv (sm 5))))) []:=by kernel_rfl
theorem Np: ∀ p_∈([(130,k8 mulC),(131,Fv aT),(132,Au jj),(133,e1P wQ),(134,eAf gr)]:List (FuncId×ao)),p_.2.Ok Tryz.prog p_.1:=(ak ja (ak j1 (ak Fx (ak Ze (ak Az aF)))))
theorem Zf:ahD.Ok Tryz.prog 90:=by
 refine (ao.bf Tryz.call90 fun x_ y_ Q H_=>?_).sym
 have hq:=H_.2
 refine (ay (tab:= [(130,k8 mulC),(131,Fv aT),(132,Au jj),(133,e1P wQ),(134,eAf gr)]) mixed Np Tryz.func90 rfl (LT:= []) (ks:=kK) (aQ.nil _)).use (D:= []) ?_ hq
 show (aS _ _ _ _ ((ag).wr ()) [] _).sat _
 rw[No mulC aT jj wQ gr]
 exact ⟨rfl,rfl⟩
def e4Q (g:Fe→Fe→Fe→Fe→Pt):ao:=ao.bS [] (ae kV (ae kV (ae kV (ae kV ag)))) ag fun x _=> .leaf none (Ax.wr (g x.1 x.2.1 x.2.2.1 x.2.2.2.1)) []
noncomputable abbrev adp:ao:=e4Q mS
theorem Ja (mul:Fe→Fe→Fe) (e f g h:Fe):aS Tryz.prog [(130,k8 mul)] [] Tryz.f164 (((ae kV (ae kV (ae kV (ae kV ag))))).wr (e,f,g,h,())) [] kK= .leaf (Ax.wr (true,mul e f,mul g h,mul f g,mul e h)) []:=by kernel_rfl
theorem Jb: ∀ p_∈([(130,k8 mulC)]:List (FuncId×ao)),p_.2.Ok Tryz.prog p_.1:=(ak ja aF)
theorem S0:adp.Ok Tryz.prog 164:=by
 refine (ao.bf Tryz.call164 fun x_ y_ Q H_=>?_).sym
 obtain ⟨e,f,g,h,_⟩:=x_
 have hq:=H_.2
 refine (ay (tab:= [(130,k8 mulC)]) mixed Jb Tryz.func164 rfl (LT:= []) (ks:=kK) (aQ.nil _)).use (D:= []) ?_ hq
 show (aS _ _ _ _ (((ae kV (ae kV (ae kV (ae kV ag))))).wr (e,f,g,h,())) [] _).sat _
 rw[Ja mulC]
 exact ⟨rfl,rfl⟩
noncomputable abbrev ale:ao:=e2Q dV
theorem S1 (mul add sub:Fe→Fe→Fe) (ed:Fe) (own:Pt→Pt) (PI:Fe→Fe→Fe→Fe→Pt) (p q:Pt):aS Tryz.prog [(130,k8 mul),(162,k8 add),(161,k8 sub),(163,e0F ed),(135,SU own),(164,e4Q PI)] [] Tryz.f129 ((ahx).wr (p,q,())) [] kK= .leaf (Ax.wr (addFn mul add sub ed own PI p q)) []:=by kernel_rfl
theorem S2: ∀ p_∈([(130,k8 mulC),(162,k8 jl),(161,k8 kb),(163,e0F iZ),(135,SU fH),(164,e4Q mS)]:List (FuncId×ao)),p_.2.Ok Tryz.prog p_.1:=(ak ja (ak I2 (ak I3 (ak I8 (ak P1 (ak S0 aF))))))
theorem FA:ale.Ok Tryz.prog 129:=by
 refine (ao.bf Tryz.call129 fun x_ y_ Q H_=>?_).sym
 obtain ⟨p,q,_⟩:=x_
 have hq:=H_.2
 refine (ay (tab:= [(130,k8 mulC),(162,k8 jl),(161,k8 kb),(163,e0F iZ),(135,SU fH),(164,e4Q mS)]) mixed S2 Tryz.func129 rfl (LT:= []) (ks:=kK) (aQ.nil _)).use (D:= []) ?_ hq
 show (aS _ _ _ _ ((ahx).wr (p,q,())) [] _).sat _
 rw[S1 mulC jl kb iZ fH mS]
 exact ⟨rfl,rfl⟩
noncomputable abbrev Zg:ao:=SU cM
theorem FB (add:Pt→Pt→Pt) (p:Pt):aS Tryz.prog [(129,e2Q add)] [] Tryz.f127 ((Za).wr (p,())) [] kK= .leaf (Ax.wr (add p p)) []:=by kernel_rfl
theorem FC: ∀ p_∈([(129,e2Q dV)]:List (FuncId×ao)),p_.2.Ok Tryz.prog p_.1:=(ak FA aF)
theorem AA:Zg.Ok Tryz.prog 127:=by
 refine (ao.bf Tryz.call127 fun x_ y_ Q H_=>?_).sym
 obtain ⟨p,_⟩:=x_
 have hq:=H_.2
 refine (ay (tab:= [(129,e2Q dV)]) mixed FC Tryz.func127 rfl (LT:= []) (ks:=kK) (aQ.nil _)).use (D:= []) ?_ hq
 show (aS _ _ _ _ ((Za).wr (p,())) [] _).sat _
 rw[FB dV]
 exact ⟨rfl,rfl⟩
def ePl (g:Pt→Fe×Fe):ao:=ao.bS [] Za ag fun x _=> .leaf none (.cD [.agg ((ka .u64 5).wr (g x.1).1),.agg ((ka .u64 5).wr (g x.1).2)]) []
noncomputable abbrev adq:ao:=ePl iF
theorem Jc (mul:Fe→Fe→Fe) (inv:Fe→Fe) (own:Pt→Pt) (p:Pt):aS Tryz.prog [(130,k8 mul),(132,Au inv),(135,SU own)] [] Tryz.f91 ((Za).wr (p,())) [] kK= .leaf (.cD [.agg ((ka .u64 5).wr (mul (own p).2.1 (inv (own p).2.2.2.1))),.agg ((ka .u64 5).wr (mul (own p).2.2.1 (inv (own p).2.2.2.1)))]) []:=by kernel_rfl
theorem Jd: ∀ p_∈([(130,k8 mulC),(132,Au jj),(135,SU fH)]:List (FuncId×ao)),p_.2.Ok Tryz.prog p_.1:=(ak ja (ak Fx (ak P1 aF)))
theorem S3:adq.Ok Tryz.prog 91:=by
 refine (ao.bf Tryz.call91 fun x_ y_ Q H_=>?_).sym
 obtain ⟨p,_⟩:=x_
 have hq:=H_.2
 refine (ay (tab:= [(130,k8 mulC),(132,Au jj),(135,SU fH)]) mixed Jd Tryz.func91 rfl (LT:= []) (ks:=kK) (aQ.nil _)).use (D:= []) ?_ hq
 show (aS _ _ _ _ ((Za).wr (p,())) [] _).sat _
 rw[Jc mulC jj fH]
 exact ⟨rfl,rfl⟩
def eBy (g:Fe→List Int):ao:=ao.bS [] rh ag fun x _=> .leaf none (iq .u8 32 (g x.1)) []
def eEn (g:Pt→List Int):ao:=ao.bS [] Za ag fun x _=> .leaf none (iq .u8 32 (g x.1)) []
noncomputable def mV (x:Fe):List Int:=(eN x).toList
noncomputable def dn (p:Pt):List Int:=(tV p).toList
theorem S4:xM=eBy mV:=by kernel_rfl
theorem Nq:(eBy mV).Ok Tryz.prog 92:=S4▸vW
theorem adr {f:Int→Int} (v:ft):(Vec.xc f 31 v).toList=v.toList.set 31 (f (v.toList.getD 31 0)):=by
 have h:=ac7 (Vec.dM v) (k:=31) (by omega) f
 rw[Nd] at h
 rw[← h,j0 (by rw[List.length_set];exact Vec.dM v)]
theorem CA (p:Pt):dn p=bif oH (iF p).1 then (mV (iF p).2).set 31 (bm .u8 ((mV (iF p).2).getD 31 0) 128) else mV (iF p).2:=by
 unfold dn tV Ad mV
 simp only[dP]
 generalize eN (iF p).2=v
 cases oH (iF p).1
 ·rfl
 ·exact adr v
noncomputable abbrev Zh:ao:=eEn dn
theorem FD (pl:Pt→Fe×Fe) (byt:Fe→List Int) (X9:Fe→Bool) (p:Pt):aS Tryz.prog [(91,ePl pl),(92,eBy byt),(93,SK X9)] [] Tryz.f53 ((Za).wr (p,())) [] kK= .ite (X9 (pl p).1) (.leaf (iq .u8 32 ((byt (pl p).2).set 31 (bm .u8 ((byt (pl p).2).getD 31 0) 128))) []) (.leaf (iq .u8 32 (byt (pl p).2)) []):=by kernel_rfl
theorem FE: ∀ p_∈([(91,ePl iF),(92,eBy mV),(93,SK oH)]:List (FuncId×ao)),p_.2.Ok Tryz.prog p_.1:=(ak S3 (ak Nq (ak I4 aF)))
theorem AB:Zh.Ok Tryz.prog 53:=by
 refine (ao.bf Tryz.call53 fun x_ y_ Q H_=>?_).sym
 obtain ⟨p,_⟩:=x_
 have hq:=H_.2
 refine (ay (tab:= [(91,ePl iF),(92,eBy mV),(93,SK oH)]) mixed FE Tryz.func53 rfl (LT:= []) (ks:=kK) (aQ.nil _)).use (D:= []) ?_ hq
 show (aS _ _ _ _ ((Za).wr (p,())) [] _).sat _
 rw[FD iF mV oH]
 exact P0 (fun h=>by rw[CA,h];rfl) (fun h=>by rw[CA,h];rfl)
end Go.Proofs.YtjalaohajcpllaaGreat
end
section
set_option linter.unusedVariables false
set_option linter.unusedSimpArgs false
namespace Go.Proofs.YtjalaohajcpllaaGreat
open Go Go.Ev BJ
set_option maxRecDepth 1000000
abbrev biA:ba (List LV) (List Int×Int×Unit):=ae cB (ae (ai (ax .i64)) ag)
def eBi (g:List Int→Int→Int):ao:=ao.bS [] biA ag fun x _=> .leaf (some (x.1.length=32∧0≤x.2.1∧x.2.1<256)) (nI (g x.1 x.2.1)) []
noncomputable def oM (a:List Int) (i:Int):Int:=oD (xK a) i.toNat
noncomputable def afo:ao:=ao.bS [] (biA) (ag) fun x_ y_=>(fun (a:List Int) (i:Int)=> .leaf (some (a.length=32∧0≤i∧i<256)) (nI (oM a i)) []) x_.1 x_.2.1
theorem S5 (a:List Int) (i:Int):aS Tryz.prog [] [] Tryz.f128 ((biA).wr (a,i,())) ((ag).wr ()) [.fr [.sym],.auto]=
 End.ite (decide (i<(0:Int))==false) (End.ite (decide ((256:Int)≤i)) (End.leaf (LV.one (VV.sc (SV.int IntKind.i64 (SI.sym (0:Int))))) [])
 (End.need ((0:Int)≤IntKind.i64.wrap (i.tdiv (8:Int))∧IntKind.i64.wrap (i.tdiv (8:Int))<(32:Int)) (End.need ((0:Int)≤i.tmod (8:Int))
 (End.leaf (LV.one (VV.sc (SV.int IntKind.i64 (SI.sym (IntKind.i64.wrap (bp IntKind.u8 (shr IntKind.u8 ((List.take (32:Nat) (List.drop (0:Nat)
 a)).getD (IntKind.i64.wrap (i.tdiv (8:Int))).toNat (0:Int)) (i.tmod (8:Int))) (1:Int))))))) [])))) (End.leaf (LV.one (VV.sc (SV.int IntKind.i64
 (SI.sym (0:Int))))) []):=by kernel_rfl
theorem adt:afo.Ok Tryz.prog 128:=by
 refine (ao.bf Tryz.call128 fun x_ y_ Q H_=>?_).sym
 obtain ⟨a,i,_⟩:=x_
 obtain ⟨hn,hq⟩:=H_
 have hn:a.length=32∧0≤i∧i<256:=hn
 refine (ay mixed aF Tryz.func128 rfl (LT:= []) (ks:= [.fr [.sym],.auto]) (aQ.nil _)).use (D:= []) ?_ hq
 show (aS _ _ _ _ ((biA).wr (a,i,())) ((ag).wr ()) _).sat _
 rw[S5]
 obtain ⟨ha,h0,h1⟩:=hn
 obtain ⟨k,rfl⟩:=Int.eq_ofNat_of_zero_le h0
 have hk:k<256:=by omega
 have e1:IntKind.i64.wrap ((k:Int).tdiv 8)=((k/8:Nat):Int):=jK k 8 (by omega)
 have e2:(k:Int).tmod 8=((k%8:Nat):Int):=At k 8
 have e:oM a (k:Int)=IntKind.i64.wrap (bp .u8 (shr .u8 (a.getD (k/8) 0) ((k%8:Nat):Int)) 1):=by
  unfold oM oD
  rw[Int.toNat_natCast,PW a (show k/8<32 by omega)]
 rw[e1,e2,bN ha,Int.toNat_natCast,e]
 refine ⟨fun _=>⟨fun h=>?_,fun _=>⟨by omega,by omega,rfl,rfl⟩⟩,fun h=>?_⟩
 ·have:=of_decide_eq_true h;omega
 ·exfalso;revert h;simp
noncomputable abbrev Nr:Func:=Tryz.f89
abbrev muC:ba (List LV) (Int×Unit):=(jk 2 (aj (ai (aP 0 0)) (aj (ai (aP 1 0)) (aj (ai (aP 2 0)) (aj (ai (aP 3 0)) (ae (ai (ax .i64)) (jk 15 ag)))))))
abbrev alg:Wk:= .fr (dA 22 [(2,.aq),(3,.aq),(4,.aq),(5,.aq),(6,.sym)])
abbrev muX:ba (List LV) (Unit):=(jk 4 (aj (ai (aP 0 0)) (aj (ai (aP 1 0)) (jk 16 ag))))
abbrev iPt:ba (Option Ev.Item) Pt:=gX 98 (ae OG (MI .u64 (MI .u64 (MI .u64 (ka .u64 5) 5) 5) 5))
abbrev muH:ba Hp (List Int×Pt×Pt×Pt×Unit):=ae (qd 22 .u8 32) (ae iPt (ae iPt (ae iPt ag)))
abbrev adu:ba Hp (Pt×Pt×Unit):=ae iPt (ae iPt ag)
abbrev adv (i:Nat):Wk:= .aZ i (List.replicate 21 .sym)
def muW:Exit→List Wk
 | .normal=> [alg,adv 2,adv 3,.auto]
 | .exit 0=> [.fr (dA 22 [(4,.aq),(5,.aq)]),.auto]
 |_=> []
theorem ahH (bit:List Int→Int→Int) (dbl:Pt→Pt) (add:Pt→Pt→Pt) (n:List Int) (p r o:Pt) (i:Int):dR Tryz.prog [(128,eBi bit),(127,SU dbl),(129,e2Q add)] [] Nr 0 [] muW ((bG muC muH).wr ((i,()),(n,p,r,o,())))=
 aU.ite (decide ((0:Int)≤i)) (aU.need (n.length=(32:Nat)∧(0:Int)≤i∧i<(256:Int)) (aU.ite (bit n i==(1:Int)) (aU.leaf
 Exit.normal ((bG muC muH).wr ((IntKind.i64.wrap (i-(1:Int)),PUnit.unit),n,p,r,add (dbl o) p,PUnit.unit))) (aU.leaf Exit.normal ((bG muC
 muH).wr ((IntKind.i64.wrap (i-(1:Int)),PUnit.unit),n,p,r,dbl o,PUnit.unit))))) (aU.leaf (Exit.exit (0:Nat)) ((bG muX adu).wr
 (PUnit.unit,r,o,PUnit.unit))):=by kernel_rfl
noncomputable abbrev ali:List (FuncId×ao):= [(128,eBi oM),(127,SU cM),(129,e2Q dV)]
theorem adw:afo=eBi oM:=by kernel_rfl
theorem Je:(eBi oM).Ok Tryz.prog 128:=adw▸adt
theorem Zi: ∀ p∈ali,p.2.Ok Tryz.prog p.1:=ak Je (ak AA (ak FA aF))
def BA (bit:List Int→Int→Int) (dbl:Pt→Pt) (add:Pt→Pt→Pt) (n:List Int) (p:Pt) (k:Nat) (r:Pt):Pt:=bif bit n (255-(k:Int))==1 then add (dbl r) p else dbl r
theorem adx (x:(Int×Unit)×List Int×Pt×Pt×Pt×Unit):Ex Tryz.prog [] (.loop (aW Nr 0)) ((bG muC muH).wr x) (.need (x.1.1=255∧x.2.1.length=32) (.leaf (.exit 0) ((bG muX adu).wr ((),(x.2.2.2.1,iE (BA oM cM dV x.2.1 x.2.2.1) 256 x.2.2.2.2.1,()))))):=by
 obtain ⟨⟨i,_⟩,n,p,r,o,_⟩:=x
 refine Ex.need fun ⟨h1,h2⟩=>?_
 simp only at h1 h2
 subst h1
 have key:=gL (fn:=Nr) (id:=0) (j:=0) (ws:=muW) (hp:= []) mixed Zi (aQ.nil _) 256 (fun k o=>(bG muC muH).wr ((255-(k:Int),()),(n,p,r,o,()))) (fun o=>(bG muX adu).wr ((),(r,o,()))) (BA oM cM dV n p) (fun _ _=>True)
  (fun k o R hk _ hn hx=>?_) (fun _ _ _ _=>trivial) 0 o (by omega) trivial
 ·rw[Nat.sub_zero,vL] at key;exact key
 rw[ahH]
 refine ⟨fun hb=>?_,fun hb=>?_⟩
 ·have na:k<256:=by have:=of_decide_eq_true hb;omega
  have yh:=hn na
  have e3:IntKind.i64.wrap ((255-(k:Int))-1)=255-((k+1:Nat):Int):=by rw[ar (by omega) (by omega)];omega
  rw[e3]
  refine ⟨⟨h2,by omega,by omega⟩,fun hc=>?_,fun hc=>?_⟩
  ·have:BA oM cM dV n p k o=dV (cM o) p:=by unfold BA;rw[hc];rfl
   rw[this] at yh;exact yh
  ·have:BA oM cM dV n p k o=cM o:=by unfold BA;rw[hc];rfl
   rw[this] at yh;exact yh
 ·have:k=256:=by have:=of_decide_eq_false hb;omega
  exact hx this
abbrev mpA:ba (List LV) (List Int×Pt×Unit):=ae cB (ae Ax ag)
def eMu (g:List Int→Pt→Pt):ao:=ao.bS [] mpA ag fun x _=> .leaf (some (x.1.length=32)) (Ax.wr (g x.1 x.2.1)) []
def ahI (w:List Int→Pt→Pt→Pt) (x:(Int×Unit)×List Int×Pt×Pt×Pt×Unit):aU:= .need (x.1.1=255∧x.2.1.length=32) (.leaf (.exit 0) ((bG muX adu).wr ((),(x.2.2.2.1,w x.2.1 x.2.2.1 x.2.2.2.2.1,()))))
abbrev ahJ (w:List Int→Pt→Pt→Pt):fk:= [(0,fI (bG muC muH) 0 [alg,.auto,adv 2,adv 3] (ahI w))]
theorem Ns (z:Pt) (w:List Int→Pt→Pt→Pt) (bit:List Int→Int→Int) (dbl:Pt→Pt) (add:Pt→Pt→Pt) (n:List Int) (p:Pt):aS Tryz.prog [(128,eBi bit),(127,SU dbl),(129,e2Q add),(126,Zb z)] (ahJ w) Nr (mpA.wr (n,p,())) [] kK=
  .need ((255:Int)=255∧n.length=32) (.leaf (Ax.wr (w n p z)) []):=by kernel_rfl
theorem Jf: ∃ f:List Int→Pt→Pt,∀ n p,f n p=An (xK n) p:=⟨fun n p=>An (xK n) p,fun _ _=>rfl⟩
noncomputable def wR:List Int→Pt→Pt:=Classical.choose Jf
theorem Jg (n:List Int) (p:Pt):wR n p=An (xK n) p:=Classical.choose_spec Jf n p
noncomputable def AD (n:List Int) (p z:Pt):Pt:=iE (BA oM cM dV n p) 256 z
noncomputable abbrev ahK:ao:=eMu wR
theorem ady (n:List Int) (p:Pt) (k:Nat) (hk:k<256) (r:Pt):BA oM cM dV n p k r=gU oD cM dV (xK n) p k r:=by
 unfold BA gU oM
 rw[tM,show (255-(k:Int)).toNat=255-k from by omega]
theorem AE {α:Type} {f g:Nat→α→α} {n:Nat} (h: ∀ k,k<n→ ∀ r,f k r=g k r) (a:α): ∀ m,m≤n→iE f m a=iE g m a
 |0,_=>rfl
 |m+1,hm=>by
  show f m (iE f m a)=g m (iE g m a)
  rw[AE h a m (by omega),h m (by omega)]
theorem adz (n:List Int) (p:Pt):AD n p hY=wR n p:=by
 rw[Jg]
 unfold AD An Yd
 exact AE (fun k hk r=>ady n p k hk r) hY 256 (Nat.le_refl _)
theorem adA: ∀ p∈([(128,eBi oM),(127,SU cM),(129,e2Q dV),(126,Zb hY)]:List (FuncId×ao)),p.2.Ok Tryz.prog p.1:=ak Je (ak AA (ak FA (ak I9 aF)))
theorem Zj {n:List Int} {V W:Pt} (hn:n.length=32) (h:V=W):(Ev.End.need ((255:Int)=255∧n.length=32) (.leaf (Ax.wr V) [])).sat fun v dX=>v=Ax.wr W∧dX= []:=by
 subst h;exact ⟨⟨rfl,hn⟩,rfl,rfl⟩
theorem S6 (n:List Int) (p z:Pt):AD n p z=iE (BA oM cM dV n p) 256 z:=rfl
theorem Zk (x:(Int×Unit)×List Int×Pt×Pt×Pt×Unit):Ex Tryz.prog [] (.loop (aW Nr 0)) ((bG muC muH).wr x) (ahI AD x):=by
 unfold ahI
 rw[S6]
 exact adx x
theorem ahL:aQ Tryz.prog [] (ahJ AD) (aJ Nr):=aQ.cO (nx rfl (cP (hp:= []) Zk) pc)
theorem Zl:ahK.Ok Tryz.prog 89:=by
 refine (ao.bf Tryz.call89 fun x_ y_ Q H_=>?_).sym
 obtain ⟨n,p,_⟩:=x_
 obtain ⟨hn,hq⟩:=H_
 have hn:n.length=32:=hn
 have hc:jJ Tryz.prog 89 (mpA.wr (n,p,())) [] (aS Tryz.prog [(128,eBi oM),(127,SU cM),(129,e2Q dV),(126,Zb hY)] (ahJ AD) Nr (mpA.wr (n,p,())) [] kK):=
  ay mixed adA Tryz.func89 rfl ahL
 rw[Ns hY AD oM cM dV] at hc
 exact hc.use (D:= []) (Zj hn (adz n p)) hq
def eMb (g:List Int→Pt):ao:=ao.bS [] vV ag fun x _=> .leaf (some (x.1.length=32)) (Ax.wr (g x.1)) []
noncomputable def gV (n:List Int):Pt:=wR n oI
noncomputable abbrev ahM:ao:=eMb gV
theorem Nt (mu:List Int→Pt→Pt) (b:Pt) (n:List Int):aS Tryz.prog [(89,eMu mu),(90,Zb b)] [] Tryz.f52 ((vV).wr (n,())) [] kK= .need (n.length=32) (.leaf (Ax.wr (mu n b)) []):=by kernel_rfl
theorem Nu: ∀ p_∈([(89,eMu wR),(90,Zb oI)]:List (FuncId×ao)),p_.2.Ok Tryz.prog p_.1:=(ak Zl (ak Zf aF))
theorem Jh:ahM.Ok Tryz.prog 52:=by
 refine (ao.bf Tryz.call52 fun x_ y_ Q H_=>?_).sym
 obtain ⟨n,_⟩:=x_
 obtain ⟨hn,hq⟩:=H_
 have hn:n.length=32:=hn
 refine (ay (tab:= [(89,eMu wR),(90,Zb oI)]) mixed Nu Tryz.func52 rfl (LT:= []) (ks:=kK) (aQ.nil _)).use (D:= []) ?_ hq
 show (aS _ _ _ _ ((vV).wr (n,())) [] _).sat _
 rw[Nt wR oI]
 exact ⟨hn,rfl,rfl⟩
end Go.Proofs.YtjalaohajcpllaaGreat
end
section
set_option linter.unusedVariables false
set_option linter.unusedSimpArgs false
namespace Go.Proofs.YtjalaohajcpllaaGreat
open Go Go.Ev BJ
set_option maxRecDepth 1000000
end Go.Proofs.YtjalaohajcpllaaGreat
end
section
set_option linter.unusedVariables false
set_option linter.unusedSimpArgs false
namespace Go.Ev
open Go
def vd (B:Int):List Int→Int
 | []=>0
 |x::l=>x+B*vd B l
def dg (B:Int):Nat→Int→List Int
 |0,_=> []
 |n+1,x=>x%B::dg B n (x/B)
def fc (B:Int) (l:List Int):Prop:= ∀ z∈l,0≤z∧z<B
section
variable {B:Int}
theorem fc.tail {x:Int} {l:List Int} (h:fc B (x::l)):fc B l:=fun z hz=>h z (List.mem_cons_of_mem _ hz)
theorem fc.head {x:Int} {l:List Int} (h:fc B (x::l)):0≤x∧x<B:=h x (by simp)
theorem fc.take {l:List Int} (h:fc B l) (n:Nat):fc B (l.take n):=fun z hz=>h z (List.mem_of_mem_take hz)
theorem fc.drop {l:List Int} (h:fc B l) (n:Nat):fc B (l.drop n):=fun z hz=>h z (List.mem_of_mem_drop hz)
theorem fc.append {l m:List Int} (h:fc B l) (h':fc B m):fc B (l++m):=fun z hz=>by
 rcases List.mem_append.1 hz with k|k
 ·exact h z k
 ·exact h' z k
theorem fc.set {l:List Int} (h:fc B l) {i:Nat} {x:Int} (hx:0≤x∧x<B):fc B (l.set i x):=fun z hz=>by
 rcases List.mem_or_eq_of_mem_set hz with k|k
 ·exact h z k
 ·subst k;exact hx
theorem fc.wO (hB:0<B) (n:Nat):fc B (List.replicate n 0):=fun z hz=>by
 rw[List.eq_of_mem_replicate hz];omega
theorem fc.getD {l:List Int} (hB:0<B) (h:fc B l) (i:Nat):0≤l.getD i 0∧l.getD i 0<B:=by
 rw[List.getD_eq_getElem?_getD]
 rcases Nat.lt_or_ge i l.length with h1|h1
 ·rw[List.getElem?_eq_getElem h1];exact h _ (List.getElem_mem h1)
 ·rw[List.getElem?_eq_none h1];exact ⟨by simp,by simpa using hB⟩
theorem cf: ∀ (n:Nat) (x:Int),(dg B n x).length=n
 |0,_=>rfl
 |n+1,x=>by simp[dg,cf n]
theorem nm (hB:0<B): ∀ (n:Nat) (x:Int),fc B (dg B n x)
 |0,_=>fun z hz=>by cases hz
 |n+1,x=>fun z hz=>by
  rcases List.mem_cons.1 hz with rfl|hz
  ·exact ⟨Int.emod_nonneg _ (by omega),Int.emod_lt_of_pos _ hB⟩
  ·exact nm hB n _ z hz
theorem Zm (hB:0<B) (n:Nat):0<B ^ n:=Int.pow_pos hB
theorem ff (hB:0<B): ∀ {l:List Int},fc B l→0≤vd B l
 | [],_=>by simp[vd]
 |x::l,h=>by
  have h1:=ff hB h.tail
  have h2:=h.head
  have:=Int.mul_nonneg (Int.le_of_lt hB) h1
  simp only[vd];omega
theorem qv (hB:0<B): ∀ {l:List Int},fc B l→vd B l<B ^ l.length
 | [],_=>by simp[vd]
 |x::l,h=>by
  have h1:=qv hB h.tail
  have h2:=h.head
  simp only[vd,List.length_cons]
  have h3:B*(vd B l+1)≤B*B ^ l.length:=Int.mul_le_mul_of_nonneg_left (by omega) (by omega)
  rw[Int.mul_add,Int.mul_one] at h3
  rw[Int.pow_succ,Int.mul_comm (B ^ l.length)]
  omega
theorem CB (hB:0<B) {x y:Int} (h:0≤x∧x<B):(x+B*y)/B=y∧(x+B*y)%B=x:=by
 rw[Int.add_mul_ediv_left _ _ (by omega),Int.add_mul_emod_self_left,Int.ediv_eq_zero_of_lt h.1 h.2,Int.emod_eq_of_lt h.1 h.2]
 exact ⟨by omega,rfl⟩
theorem Ji (hB:0<B): ∀ {l:List Int},fc B l→dg B l.length (vd B l)=l
 | [],_=>rfl
 |x::l,h=>by
  obtain ⟨h1,h2⟩:=CB hB (y:=vd B l) h.head
  show (x+B*vd B l)%B::dg B l.length ((x+B*vd B l)/B)=x::l
  rw[h1,h2,Ji hB h.tail]
theorem AF (hB:0<B) {P:Int} (hP:0<P) (x:Int):x%B+B*(x/B%P)=x%(B*P):=by
 have h1:=Int.emod_nonneg x (show B≠0 by omega)
 have h2:=Int.emod_lt_of_pos x hB
 have h3:=Int.emod_nonneg (x/B) (show P≠0 by omega)
 have h4:=Int.emod_lt_of_pos (x/B) hP
 have e1:=Int.emod_add_mul_ediv x B
 have e2:=Int.emod_add_mul_ediv (x/B) P
 have e:x=x%B+B*(x/B%P)+(B*P)*(x/B/P):=by
  rw[Int.mul_assoc,Int.add_assoc,← Int.mul_add,e2,e1]
 have fD:x%B+B*(x/B%P)<B*P:=by
  have:=Int.mul_le_mul_of_nonneg_left (show x/B%P+1≤P by omega) (show 0≤B by omega)
  rw[Int.mul_add,Int.mul_one] at this
  omega
 have hnn:0≤x%B+B*(x/B%P):=by
  have:=Int.mul_nonneg (show 0≤B by omega) h3
  omega
 have key:x%(B*P)=(x%B+B*(x/B%P))%(B*P):=by
  conv=>lhs;rw[e]
  rw[Int.add_mul_emod_self_left]
 rw[key,Int.emod_eq_of_lt hnn fD]
theorem lV (hB:0<B): ∀ (n:Nat) (x:Int),vd B (dg B n x)=x%B ^ n
 |0,x=>by simp[dg,vd,Int.emod_one]
 |n+1,x=>by
  show x%B+B*vd B (dg B n (x/B))=_
  rw[lV hB n,AF hB (Zm hB n),Int.pow_succ,Int.mul_comm (B ^ n)]
theorem ahN (hB:0<B) {l m:List Int} (hl:fc B l) (hm:fc B m) (hn:l.length=m.length) (h:vd B l=vd B m):l=m:=by
 rw[← Ji hB hl,← Ji hB hm,hn,h]
theorem Jj (hB:0<B) {l:List Int} {n:Nat} {x:Int} (hl:fc B l) (hn:l.length=n) (h:vd B l=x%B ^ n):l=dg B n x:=
 ahN hB hl (nm hB n x) (by rw[cf,hn]) (by rw[lV hB,h])
theorem ahO (hB:0<B) {l:List Int} {n:Nat} {x:Int} (hl:fc B l) (hn:l.length=n) (h:vd B l=x):l=dg B n x:=by
 subst h hn;exact (Ji hB hl).symm
theorem ua (hB:0<B): ∀ {n:Nat} {x:Int} {k:Nat},k<n→(dg B n x).getD k 0=x/B ^ k%B
 |0,_,k,h=>absurd h (by omega)
 |n+1,x,0,_=>by simp[dg]
 |n+1,x,k+1,h=>by
  show (x%B::dg B n (x/B)).getD (k+1) 0=_
  rw[List.getD_cons_succ,ua hB (by omega:k<n),Int.ediv_ediv_of_nonneg (by omega),Int.pow_succ,Int.mul_comm (B ^ k)]
theorem adB (hB:0<B) {l:List Int} (h:fc B l) {k:Nat} (hk:k<l.length):l.getD k 0=vd B l/B ^ k%B:=by
 conv=>lhs;rw[← Ji hB h]
 exact ua hB hk
theorem CC: ∀ (l m:List Int),vd B (l++m)=vd B l+B ^ l.length*vd B m
 | [],m=>by simp[vd]
 |x::l,m=>by
  show x+B*vd B (l++m)=x+B*vd B l+B ^ (l.length+1)*vd B m
  rw[CC l m,Int.mul_add,Int.pow_succ,Int.mul_assoc,Int.mul_left_comm B,Int.add_assoc]
theorem AG: ∀ {l:List Int} {k:Nat} {x:Int},k<l.length→vd B (l.set k x)=vd B l+(x-l.getD k 0)*B ^ k
 | [],k,_,h=>absurd h (by simp)
 |y::l,0,x,_=>by
  simp only[List.set_cons_zero,vd,List.getD_cons_zero,Int.pow_zero];omega
 |y::l,k+1,x,h=>by
  simp only[List.set_cons_succ,vd,List.getD_cons_succ]
  rw[AG (by simpa using h),Int.mul_add,Int.pow_succ,Int.mul_comm B ((x-l.getD k 0)*B ^ k),Int.mul_assoc,Int.add_assoc]
theorem AH (n:Nat):vd B (List.replicate n 0)=0:=by
 induction n with
 |zero=>rfl
 |succ n ih=>rw[List.replicate_succ];simp[vd,ih]
theorem dF {l:List Int} {k:Nat} (hk:k<l.length):vd B (l.take (k+1))=vd B (l.take k)+l.getD k 0*B ^ k:=by
 rw[List.take_add_one,List.getElem?_eq_getElem hk,CC,List.length_take,Nat.min_eq_left (by omega),List.getD_eq_getElem?_getD,List.getElem?_eq_getElem hk]
 simp[vd,Int.mul_comm]
theorem Zn (hB:0<B) (m:Nat): ∀ (n:Nat) (x:Int),dg B (n+m) x=dg B n x++dg B m (x/B ^ n)
 |0,x=>by simp[dg]
 |n+1,x=>by
  rw[show n+1+m=(n+m)+1 from by omega]
  show x%B::dg B (n+m) (x/B)=x%B::dg B n (x/B)++dg B m (x/B ^ (n+1))
  rw[Zn hB m n,Int.ediv_ediv_of_nonneg (by omega),Int.pow_succ,Int.mul_comm (B ^ n)];rfl
theorem adC (hB:0<B) {n k:Nat} (h:k≤n) (x:Int):(dg B n x).take k=dg B k x:=by
 obtain ⟨m,rfl⟩: ∃ m,n=k+m:=⟨n-k,by omega⟩
 rw[Zn hB]
 simp[cf]
theorem P2 (hB:0<B) (n:Nat):dg B n 0=List.replicate n 0:=
 (Jj hB (fc.wO hB n) (by simp) (by rw[AH];simp)).symm
end
theorem BB {x:Int} (A C:Int) (hA:0<A) (hC:0<C) (D:Int) (hDp:0<D) (hdiv:A*D∣C):x%C/A%D=x/A%D:=by
 obtain ⟨q,rfl⟩:=hdiv
 have hq:0<q:=by
  rcases Int.lt_or_le 0 q with h|h
  ·exact h
  ·have:=Int.mul_nonneg (Int.le_of_lt (Int.mul_pos hA hDp)) (show 0≤ -q by omega)
   rw[Int.mul_neg] at this;omega
 have e:=AF (B:=A) (P:=D*q) hA (Int.mul_pos hDp hq) x
 rw[← Int.mul_assoc] at e
 rw[← e]
 have h1:=Int.emod_nonneg x (show A≠0 by omega)
 have h2:=Int.emod_lt_of_pos x hA
 rw[(CB hA ⟨h1,h2⟩).1,Int.emod_emod_of_dvd _ (Int.dvd_mul_right D q)]
theorem S7 (V:Int) (k:Nat):V/2 ^ k=2*(V/2 ^ (k+1))+V/2 ^ k%2:=by
 have e:V/2 ^ (k+1)=V/2 ^ k/2:=by rw[Int.pow_succ,Int.ediv_ediv_of_nonneg (by exact Int.le_of_lt (Int.pow_pos (by decide)))]
 rw[e];omega
theorem Zo {L r b:Int} (hL:0<L) (hr:0≤r∧r<L) (hb:0≤b∧b<2):(2*r+b)%L=if 2*r+b<L then 2*r+b else 2*r+b-L:=by
 split
 ·exact Int.emod_eq_of_lt (by omega) (by assumption)
 ·have e:2*r+b=(2*r+b-L)+L*1:=by omega
  conv=>lhs;rw[e]
  rw[Int.add_mul_emod_self_left,Int.emod_eq_of_lt (by omega) (by omega)]
theorem adD (L V b:Int):(2*V+b)%L=(2*(V%L)+b)%L:=by
 have e:=Int.emod_add_mul_ediv V L
 have:2*V+b=2*(V%L)+b+L*(2*(V/L)):=by
  conv=>lhs;rw[← e]
  rw[Int.mul_add,Int.mul_left_comm];omega
 rw[this,Int.add_mul_emod_self_left]
end Go.Ev
end
section
set_option linter.unusedVariables false
set_option linter.unusedSimpArgs false
namespace Go.Proofs.YtjalaohajcpllaaGreat
open Go Go.Ev BJ
theorem S8 {x y c:Int} (hx:uI x) (hy:uI y) (hc:c=0∨c=1):lP x y c=((x-y-c)%18446744073709551616,if x<y+c then 1 else 0):=by
 unfold uI at hx hy
 obtain ⟨a,rfl⟩:=Int.eq_ofNat_of_zero_le hx.1
 obtain ⟨b,rfl⟩:=Int.eq_ofNat_of_zero_le hy.1
 obtain ⟨d,rfl⟩: ∃ d:Nat,c=(d:Int):=by rcases hc with rfl|rfl;exact ⟨0,rfl⟩;exact ⟨1,rfl⟩
 simp only[lP,Int.toNat_natCast]
 have e:(2:Nat) ^ 64=18446744073709551616:=by decide
 rw[e]
 refine Prod.ext ?_ ?_
 ·show (((a+18446744073709551616-b-d)%18446744073709551616:Nat):Int)=_
  omega
 ·show (if a<b+d then (1:Int) else 0)=_
  by_cases h:a<b+d
  ·rw[if_pos h,if_pos (by omega)]
  ·rw[if_neg h,if_neg (by omega)]
theorem xN {B:Int} (hB:1≤B) {a b:Nat} (h:a≤b):B ^ a≤B ^ b:=by
 obtain ⟨d,rfl⟩: ∃ d,b=a+d:=⟨b-a,by omega⟩
 rw[Int.pow_add]
 have h1:0<B ^ a:=Int.pow_pos (by omega)
 have h2:0<B ^ d:=Int.pow_pos (by omega)
 have:=Int.mul_le_mul_of_nonneg_left (show 1≤B ^ d by omega) (Int.le_of_lt h1)
 rwa [Int.mul_one] at this
theorem afr (k m:Nat):(k:Int).tmod (m:Int)=((k%m:Nat):Int):=by rw[Int.tmod_eq_emod_of_nonneg (by omega),← Int.natCast_emod]
abbrev qq:Int:=18446744073709551616
theorem bn:0<qq:=by decide
theorem FG:qq=256 ^ 8:=by decide
theorem alj:qq=2 ^ 64:=by decide
theorem ub (s:Nat):((2 ^ (s*8):Nat):Int)=256 ^ s:=by
 rw[Nat.mul_comm,Nat.pow_mul,Int.natCast_pow];rfl
theorem CD {b:Int} (hb:0<b) {m:Nat} (hm:0<m) {l:List Int} (h:fc (b ^ m) l) {k:Nat} (hk:k/m<l.length):l.getD (k/m) 0/b ^ (k%m)%b=vd (b ^ m) l/b ^ k%b:=by
 have hB:0<b ^ m:=Int.pow_pos hb
 rw[adB hB h hk]
 have fD:=Nat.mod_lt k hm
 have e1:(b ^ m)=b ^ (k%m)*b*b ^ (m-(k%m+1)):=by rw[← Int.pow_succ,← Int.pow_add];congr 1;omega
 rw[BB (b ^ (k%m)) (b ^ m) (Int.pow_pos hb) hB b hb ⟨_,e1⟩]
 rw[Int.ediv_ediv_of_nonneg (Int.le_of_lt (Int.pow_pos hB)),← Int.pow_mul,← Int.pow_add]
 congr 3
 have:=Nat.div_add_mod k m;exact this
theorem ahP {B:Int} (hB:0<B) (n:Nat) (x:Int):(List.range n).map (fun i=>x/B ^ i%B)=dg B n x:=by
 apply List.ext_getElem?
 intro i
 rcases Nat.lt_or_ge i n with h|h
 ·have e:=ua hB (x:=x) h
  rw[List.getD_eq_getElem?_getD,List.getElem?_eq_getElem (by rw[cf];exact h)] at e
  rw[List.getElem?_eq_getElem (l:=dg B n x) (by rw[cf];exact h),List.getElem?_map,List.getElem?_range h]
  simpa using e.symm
 ·rw[List.getElem?_eq_none (by simpa using h),List.getElem?_eq_none (by rw[cf];exact h)]
noncomputable def uJ (b:List Int):List Int:=dg qq 8 (vd 256 b)
noncomputable def vX (w:List Int):List Int:=dg 256 32 (vd qq w)
theorem adE {b:List Int} (hb:aB b) (hl:b.length≤64) {k:Nat} (hk:k<b.length):
  (uJ (b.take k)).set (k/8) (bm .u64 ((uJ (b.take k)).getD (k/8) 0) (shl .u64 (IntKind.u64.wrap (b.getD k 0)) ((k%8*8:Nat):Int)))=uJ (b.take (k+1)):=by
 have j8:fc 256 b:=hb
 have hc:=fc.getD (by decide) j8 k
 have hV0:=ff (by decide) (j8.take k)
 have hV1:=qv (by decide) (j8.take k)
 rw[List.length_take,Nat.min_eq_left (by omega)] at hV1
 unfold uJ
 rw[dF hk]
 generalize vd 256 (b.take k)=V at*
 generalize b.getD k 0=c at*
 have hi:k/8<8:=by omega
 have hs:k%8<8:=by omega
 have na:k=8*(k/8)+k%8:=(Nat.div_add_mod k 8).symm
 have hp:(256:Int) ^ k=qq ^ (k/8)*256 ^ (k%8):=by rw[FG,← Int.pow_mul,← Int.pow_add,← na]
 have hQ:0<qq ^ (k/8):=Int.pow_pos bn
 have hle:(256:Int) ^ (k%8)*256≤qq:=by
  rw[← Int.pow_succ,FG];exact xN (by decide) (by omega)
 have hP:(0:Int)<256 ^ (k%8):=Int.pow_pos (by decide)
 have hdl:V/qq ^ (k/8)<256 ^ (k%8):=Int.ediv_lt_of_lt_mul hQ (by rw[Int.mul_comm,← hp];exact hV1)
 have hd0:0≤V/qq ^ (k/8):=Int.ediv_nonneg hV0 (Int.le_of_lt hQ)
 have eg:(dg qq 8 V).getD (k/8) 0=V/qq ^ (k/8):=by
  rw[ua bn hi,Int.emod_eq_of_lt hd0 (by omega)]
 rw[eg]
 have ew:IntKind.u64.wrap c=c:=wrap_u64 hc.1 (by omega)
 have hcP:c*256 ^ (k%8)≤255*256 ^ (k%8):=Int.mul_le_mul_of_nonneg_right (by omega) (by omega)
 have alk:0≤c*256 ^ (k%8):=Int.mul_nonneg hc.1 (by omega)
 have es:shl .u64 c ((k%8*8:Nat):Int)=c*256 ^ (k%8):=by
  rw[gM .u64 c _ (by simp[IntKind.bits];omega),ub,wrap_u64 alk (by unfold qq at hle;omega)]
 have hdiv:c*256 ^ (k%8)%((2 ^ (k%8*8):Nat):Int)=0:=by rw[ub];exact Int.mul_emod_left _ _
 have eo:bm .u64 (V/qq ^ (k/8)) (c*256 ^ (k%8))=V/qq ^ (k/8)+c*256 ^ (k%8):=by
  rw[iQ,nV (m:=k%8*8) alk hdiv hd0 (by rw[ub];exact hdl) (by unfold qq at hle;omega),Int.add_comm]
 rw[ew,es,eo]
 refine Jj bn ((nm bn 8 V).set ⟨by omega,by omega⟩) (by rw[List.length_set,cf]) ?_
 rw[AG (by rw[cf];exact hi),eg,lV bn]
 have e2:(256:Int) ^ 64=qq ^ 8:=by decide
 have hV2:V<qq ^ 8:=Int.lt_of_lt_of_le hV1 (by rw[← e2];exact xN (by decide) (by omega))
 rw[Int.emod_eq_of_lt hV0 hV2]
 have e3:(V/qq ^ (k/8)+c*256 ^ (k%8)-V/qq ^ (k/8))*qq ^ (k/8)=c*256 ^ k:=by
  rw[hp,Int.mul_comm (qq ^ (k/8)),← Int.mul_assoc];congr 1;omega
 rw[e3]
 have fD:V+c*256 ^ k<qq ^ 8:=by
  have h1:c*256 ^ k≤255*256 ^ k:=Int.mul_le_mul_of_nonneg_right (by omega) (Int.le_of_lt (Int.pow_pos (by decide)))
  have h2:(256:Int) ^ (k+1)≤256 ^ 64:=xN (by decide) (by omega)
  rw[Int.pow_succ] at h2
  rw[← e2];omega
 exact (Int.emod_eq_of_lt (Int.add_nonneg hV0 (Int.mul_nonneg hc.1 (Int.le_of_lt (Int.pow_pos (by decide))))) fD).symm
theorem Zp {w:List Int} (h:fc qq w) (hl:w.length=8) {k:Nat} (hk:k<64):IntKind.u8.wrap (shr .u64 (w.getD (k/8) 0) ((k%8*8:Nat):Int))=vd qq w/256 ^ k%256:=by
 rw[eG .u64 _ _ (by simp[IntKind.bits];omega),ub,wrap_u8]
 have h':fc (256 ^ 8) w:=by rw[← FG];exact h
 have:=CD (b:=256) (by decide) (by decide:0<8) h' (k:=k) (by omega)
 rw[this,← FG]
noncomputable def mW (w:List Int) (i:Int):Int:=vd qq w/2 ^ i.toNat%2
theorem S9 {w:List Int} (h:fc qq w) (hl:w.length=8) {k:Nat} (hk:k<512):bp .u64 (shr .u64 (w.getD (k/64) 0) ((k%64:Nat):Int)) 1=mW w (k:Int):=by
 rw[eG .u64 _ _ (by simp[IntKind.bits];omega),rW (m:=1) (by decide) _ 1 (by decide)]
 have h':fc (2 ^ 64) w:=by rw[← alj];exact h
 have:=CD (b:=2) (by decide) (by decide:0<64) h' (k:=k) (by omega)
 unfold mW
 rw[Int.toNat_natCast,alj,← this]
 simp
structure Part (k:Nat) (w o:List Int):Prop where
 len:o.length=8
 Ta:fc qq o
 rest: ∀ j,k≤j→o.getD j 0=w.getD j 0
theorem Part.step {k:Nat} {w o:List Int} (h:Part k w o) {z:Int} (hk:k<8) (hz:0≤z∧z<qq):Part (k+1) w (o.set k z)∧vd qq ((o.set k z).take (k+1))=vd qq (o.take k)+z*qq ^ k:=by
 obtain ⟨h1,h2,h3⟩:=h
 have hg:(o.set k z).getD k 0=z:=by rw[List.getD_eq_getElem?_getD];simp[show k<o.length by omega]
 refine ⟨⟨by rw[List.length_set,h1],h2.set hz,fun j hj=>?_⟩,?_⟩
 ·rw[← h3 j (by omega),List.getD_eq_getElem?_getD,List.getD_eq_getElem?_getD,List.getElem?_set_ne (by omega)]
 ·rw[dF (by rw[List.length_set];omega),hg,List.take_set_of_le (Nat.le_refl _)]
noncomputable def jn (w x:List Int):List Int×Int:=(dg qq 8 (vd qq w-vd qq x),if vd qq w<vd qq x then 1 else 0)
noncomputable def jb (w x:List Int):List Int:=dg qq 8 (vd qq w+vd qq x)
def CE (sb:Int→Int→Int→Int×Int) (x:List Int) (k:Nat) (o:List Int×Int):List Int×Int:=(o.1.set k (sb (o.1.getD k 0) (x.getD k 0) o.2).1,(sb (o.1.getD k 0) (x.getD k 0) o.2).2)
def P3 (w x:List Int) (k:Nat) (o:List Int×Int):Prop:=Part k w o.1∧(o.2=0∨o.2=1)∧vd qq (o.1.take k)=vd qq (w.take k)-vd qq (x.take k)+o.2*qq ^ k
theorem CF {w x:List Int} (hw:fc qq w) (hx:fc qq x) (lw:w.length=8) (lx:x.length=8) {k:Nat} {o:List Int×Int} (hk:k<8) (h:P3 w x k o):P3 w x (k+1) (CE lP x k o):=by
 obtain ⟨hp,hc,hv⟩:=h
 obtain ⟨o,c⟩:=o
 simp only at hp hc hv
 have h1:=fc.getD bn hp.Ta k
 have h2:=fc.getD bn hx k
 have e:=S8 (x:=o.getD k 0) (y:=x.getD k 0) (c:=c) h1 h2 hc
 have dp:=hp.rest k (Nat.le_refl _)
 unfold CE
 rw[e]
 have hz:0≤(o.getD k 0-x.getD k 0-c)%18446744073709551616∧(o.getD k 0-x.getD k 0-c)%18446744073709551616<qq:=⟨Int.emod_nonneg _ (by decide),Int.emod_lt_of_pos _ (by decide)⟩
 obtain ⟨p1,p2⟩:=hp.step hk hz
 refine ⟨p1,by simp only;split<;>simp,?_⟩
 simp only
 rw[p2,hv,dF (by omega),dF (by omega),dp,Int.pow_succ,Int.mul_comm (qq ^ k) qq,← Int.mul_assoc]
 rw[dp] at h1
 generalize w.getD k 0=a at*
 generalize x.getD k 0=b at*
 have key:c+(a-b-c)%18446744073709551616=a-b+(if a<b+c then (1:Int) else 0)*qq:=by
  unfold qq at*
  split<;>omega
 have e2:c*qq ^ k+(a-b-c)%18446744073709551616*qq ^ k=(a-b+(if a<b+c then (1:Int) else 0)*qq)*qq ^ k:=by rw[← key,Int.add_mul]
 rw[Int.add_mul,Int.sub_mul] at e2
 omega
theorem Zq {w x:List Int} (hw:fc qq w) (hx:fc qq x) (lw:w.length=8) (lx:x.length=8):upto (CE lP x) 0 8 (w,0)=jn w x:=by
 have h:=lz (f:=CE lP x) (P3 w x) (n:=8) (fun k o hk h=>CF hw hx lw lx hk h) 8 0 (w,0) (by omega) ⟨⟨lw,hw,fun _ _=>rfl⟩,.inl rfl,by simp[vd]⟩
 generalize upto (CE lP x) 0 8 (w,0)=o at*
 obtain ⟨o,c⟩:=o
 obtain ⟨hp,hc,hv⟩:=h
 simp only at hp hc hv
 simp only[Nat.zero_add] at hp hv
 rw[List.take_of_length_le (by rw[hp.len];decide),List.take_of_length_le (by omega),List.take_of_length_le (by omega)] at hv
 have b1:=ff bn hp.Ta
 have b2:=qv bn hp.Ta
 have b3:=ff bn hw
 have b4:=qv bn hw
 have b5:=ff bn hx
 have b6:=qv bn hx
 rw[hp.len] at b2
 rw[lw] at b4
 rw[lx] at b6
 unfold jn
 refine Prod.ext (Jj bn hp.Ta hp.len ?_) ?_
 ·rw[hv]
  have:vd qq w-vd qq x+c*qq ^ 8=vd qq w-vd qq x+qq ^ 8*c:=by rw[Int.mul_comm]
  have e:vd qq o=vd qq o%qq ^ 8:=(Int.emod_eq_of_lt b1 b2).symm
  rw[hv,this,Int.add_mul_emod_self_left] at e
  rw[this];exact e
 ·simp only
  rcases hc with rfl|rfl
  ·rw[if_neg (by omega)]
  ·rw[if_pos (by omega)]
def CG (ad:Int→Int→Int→Int×Int) (x:List Int) (k:Nat) (o:List Int×Int):List Int×Int:=(o.1.set k (ad (o.1.getD k 0) (x.getD k 0) o.2).1,(ad (o.1.getD k 0) (x.getD k 0) o.2).2)
def adF (w x:List Int) (k:Nat) (o:List Int×Int):Prop:=Part k w o.1∧(o.2=0∨o.2=1)∧vd qq (o.1.take k)+o.2*qq ^ k=vd qq (w.take k)+vd qq (x.take k)
theorem Jk {w x:List Int} (hw:fc qq w) (hx:fc qq x) (lw:w.length=8) (lx:x.length=8) {k:Nat} {o:List Int×Int} (hk:k<8) (h:adF w x k o):adF w x (k+1) (CG bg x k o):=by
 obtain ⟨hp,hc,hv⟩:=h
 obtain ⟨o,c⟩:=o
 simp only at hp hc hv
 have h1:=fc.getD bn hp.Ta k
 have h2:=fc.getD bn hx k
 have e:=jA (x:=o.getD k 0) (y:=x.getD k 0) (c:=c) h1.1 h2.1 (by omega)
 have dp:=hp.rest k (Nat.le_refl _)
 unfold CG
 rw[e]
 have hz:0≤(o.getD k 0+x.getD k 0+c)%18446744073709551616∧(o.getD k 0+x.getD k 0+c)%18446744073709551616<qq:=⟨Int.emod_nonneg _ (by decide),Int.emod_lt_of_pos _ (by decide)⟩
 obtain ⟨p1,p2⟩:=hp.step hk hz
 refine ⟨p1,by simp only;unfold qq at h1 h2;omega,?_⟩
 simp only
 rw[p2,dF (by omega),dF (by omega),dp,Int.pow_succ,Int.mul_comm (qq ^ k) qq,← Int.mul_assoc]
 rw[dp] at h1
 generalize w.getD k 0=a at*
 generalize x.getD k 0=b at*
 have key:(a+b+c)%18446744073709551616+(a+b+c)/18446744073709551616*qq=a+b+c:=by
  unfold qq at*
  omega
 have e2:(a+b+c)%18446744073709551616*qq ^ k+(a+b+c)/18446744073709551616*qq*qq ^ k=(a+b+c)*qq ^ k:=by rw[← Int.add_mul,key]
 rw[Int.add_mul (a+b),Int.add_mul a] at e2
 omega
theorem adG {w x:List Int} (hw:fc qq w) (hx:fc qq x) (lw:w.length=8) (lx:x.length=8):(upto (CG bg x) 0 8 (w,0)).1=jb w x:=by
 have h:=lz (f:=CG bg x) (adF w x) (n:=8) (fun k o hk h=>Jk hw hx lw lx hk h) 8 0 (w,0) (by omega) ⟨⟨lw,hw,fun _ _=>rfl⟩,.inl rfl,by simp[vd]⟩
 generalize upto (CG bg x) 0 8 (w,0)=o at*
 obtain ⟨o,c⟩:=o
 obtain ⟨hp,hc,hv⟩:=h
 simp only at hp hc hv
 simp only[Nat.zero_add] at hp hv
 rw[List.take_of_length_le (by rw[hp.len];decide),List.take_of_length_le (by omega),List.take_of_length_le (by omega)] at hv
 have b1:=ff bn hp.Ta
 have b2:=qv bn hp.Ta
 rw[hp.len] at b2
 unfold jb
 refine Jj bn hp.Ta hp.len ?_
 rw[← hv,Int.mul_comm,Int.add_mul_emod_self_left,Int.emod_eq_of_lt b1 b2]
end Go.Proofs.YtjalaohajcpllaaGreat
end
section
set_option linter.unusedVariables false
set_option linter.unusedSimpArgs false
namespace Go.Proofs.YtjalaohajcpllaaGreat
open Go Go.Ev BJ
def gd:List Int:= [6346243789798364141,1503914060200516822,0,1152921504606846976,0,0,0,0]
def ll:Int:=7237005577332262213973186563042994240857116359379907606001950938285454250989
theorem kW:0<ll:=by decide
theorem Tb:vd qq gd=ll:=by decide+kernel
theorem Zr:gd.length=8∧fc qq gd:=⟨rfl,by unfold fc gd;decide⟩
def kX (r:List Int) (b:Int):List Int:=r.set 0 (bm .u64 (r.getD 0 0) b)
def Nv (and:List Int→List Int→List Int) (less:List Int→List Int→List Int×Int) (bit:List Int→Int→Int) (o w:List Int) (k:Nat) (r:List Int):List Int:=
 bif (less (kX (and r r) (bit w (511-(k:Int)))) o).2==0 then (less (kX (and r r) (bit w (511-(k:Int)))) o).1 else kX (and r r) (bit w (511-(k:Int)))
theorem adH (w:List Int) (i:Int):0≤mW w i∧mW w i<2:=by unfold mW;omega
theorem qq8:(2:Int) ^ 254≤qq ^ 8:=by decide+kernel
theorem Jl:ll+ll<2 ^ 254:=by decide+kernel
theorem P4 {R b:Int} (hR:0≤R∧R<ll) (hb:0≤b∧b<2):kX (dg qq 8 (R+R)) b=dg qq 8 (2*R+b):=by
 have h1:2*R+b<qq ^ 8:=Int.lt_of_lt_of_le (by have:=Jl;omega) qq8
 have h2:R+R<qq ^ 8:=Int.lt_of_lt_of_le (by have:=Jl;omega) qq8
 have hg:(dg qq 8 (R+R)).getD 0 0=(R+R)%qq:=by rw[ua bn (by decide)];simp
 have hm:0≤(R+R)%qq:=Int.emod_nonneg (R+R) (show qq≠0 by decide)
 have hl:(R+R)%qq<18446744073709551616:=Int.emod_lt_of_pos (R+R) bn
 have hev:(R+R)%qq%2=0:=by
  show (R+R)%18446744073709551616%2=0
  omega
 have hv:vd qq (dg qq 8 (R+R))=R+R:=by rw[lV bn,Int.emod_eq_of_lt (by omega) h2]
 unfold kX
 rw[hg]
 generalize (R+R)%qq=M at*
 rw[nV (m:=1) hm (by simpa using hev) hb.1 (by simpa using hb.2) (by omega)]
 refine Jj bn ((nm bn 8 _).set ⟨by omega,(by omega:M+b<18446744073709551616)⟩) (by rw[List.length_set,cf]) ?_
 rw[AG (by rw[cf];decide),hg,hv,Int.emod_eq_of_lt (by omega) h1,Int.pow_zero,Int.mul_one]
 omega
theorem Zs {V:Int} {w:List Int} (hw:vd qq w=V) {k:Nat} (hk:k<512):Nv jb jn mW gd w k (dg qq 8 (V/2 ^ (512-k)%ll))=dg qq 8 (V/2 ^ (512-(k+1))%ll):=by
 have hlq: ∀ {x:Int},x<ll+ll→x<qq ^ 8:=fun h=>Int.lt_of_lt_of_le (Int.lt_trans h Jl) qq8
 have e0:=S7 V (512-(k+1))
 rw[show 512-(k+1)+1=512-k from by omega] at e0
 have eb:mW w (511-(k:Int))=V/2 ^ (512-(k+1))%2:=by
  unfold mW
  rw[hw,show (511-(k:Int)).toNat=512-(k+1) from by omega]
 have hb:0≤V/2 ^ (512-(k+1))%2∧V/2 ^ (512-(k+1))%2<2:=by omega
 have hR:0≤V/2 ^ (512-k)%ll∧V/2 ^ (512-k)%ll<ll:=⟨Int.emod_nonneg _ (by have:=kW;omega),Int.emod_lt_of_pos _ kW⟩
 have em:(V/2 ^ (512-(k+1)))%ll=(2*(V/2 ^ (512-k)%ll)+V/2 ^ (512-(k+1))%2)%ll:=by
  conv=>lhs;rw[e0]
  exact adD _ _ _
 rw[em,Zo kW hR hb]
 have es:jb (dg qq 8 (V/2 ^ (512-k)%ll)) (dg qq 8 (V/2 ^ (512-k)%ll))=dg qq 8 (V/2 ^ (512-k)%ll+V/2 ^ (512-k)%ll):=by
  unfold jb
  rw[lV bn,Int.emod_eq_of_lt hR.1 (hlq (by omega))]
 unfold Nv
 rw[eb,es,P4 hR hb]
 generalize V/2 ^ (512-k)%ll=R at*
 generalize V/2 ^ (512-(k+1))%2=b at*
 have el:jn (dg qq 8 (2*R+b)) gd=(dg qq 8 (2*R+b-ll),if 2*R+b<ll then 1 else 0):=by
  unfold jn
  rw[Tb,lV bn,Int.emod_eq_of_lt (by omega) (hlq (by omega))]
 rw[el]
 by_cases h:2*R+b<ll
 ·rw[if_pos h,if_pos h];rfl
 ·rw[if_neg h,if_neg h];rfl
noncomputable def vY (w:List Int):List Int:=dg 256 32 (vd qq w%ll)
def Jm (mu:Int→Int→Int×Int) (ad:Int→Int→Int→Int×Int) (x y c o:Int):Int×Int:=
 ((ad o (ad (mu x y).2 c 0).1 0).1,IntKind.u64.wrap (IntKind.u64.wrap ((mu x y).1+(ad (mu x y).2 c 0).2)+(ad o (ad (mu x y).2 c 0).1 0).2))
theorem Zt {x y c o:Int} (hx:uI x) (hy:uI y) (hc:uI c) (ho:uI o):uI (Jm bc bg x y c o).1∧uI (Jm bc bg x y c o).2∧(Jm bc bg x y c o).1+qq*(Jm bc bg x y c o).2=o+x*y+c:=by
 unfold Jm
 rw[Ct hx hy]
 unfold uI at*
 have Gr:0≤x*y:=Int.mul_nonneg hx.1 hy.1
 have hm1:x*y≤18446744073709551615*18446744073709551615:=Int.mul_le_mul (by omega) (by omega) hy.1 (by decide)
 simp only
 generalize x*y=m at*
 have q0:0≤m%18446744073709551616:=by omega
 rw[jA q0 hc.1 (by decide)]
 simp only
 rw[jA ho.1 (by omega) (by decide)]
 simp only
 rw[wrap_u64 (n:=m/18446744073709551616+(m%18446744073709551616+c+0)/18446744073709551616) (by omega) (by omega),wrap_u64 (by omega) (by omega)]
 unfold qq
 omega
def Jn (mu:Int→Int→Int×Int) (ad:Int→Int→Int→Int×Int) (a b:List Int) (u:Nat) (j:Nat) (s:Int×List Int):Int×List Int:=
 ((Jm mu ad (a.getD u 0) (b.getD j 0) s.1 (s.2.getD (u+j) 0)).2,s.2.set (u+j) (Jm mu ad (a.getD u 0) (b.getD j 0) s.1 (s.2.getD (u+j) 0)).1)
def Zu (mu:Int→Int→Int×Int) (ad:Int→Int→Int→Int×Int) (a b:List Int) (u:Nat) (o:List Int):List Int:=
 (upto (Jn mu ad a b u) 0 4 (0,o)).2.set (u+4) (upto (Jn mu ad a b u) 0 4 (0,o)).1
structure adI (a b o:List Int) (u j:Nat) (s:Int×List Int):Prop where
 len:s.2.length=8
 Ta:fc qq s.2
 car:uI s.1
 rest: ∀ i,u+4≤i→s.2.getD i 0=o.getD i 0
 val:vd qq s.2+s.1*qq ^ (u+j)=vd qq o+a.getD u 0*vd qq (b.take j)*qq ^ u
theorem CH {a b o:List Int} (ha:fc qq a) (hb:fc qq b) (lb:b.length=8) {u j:Nat} (hu:u<4) (hj:j<4) {s:Int×List Int} (h:adI a b o u j s):adI a b o u (j+1) (Jn bc bg a b u j s):=by
 obtain ⟨h1,h2,h3,h4,h5⟩:=h
 obtain ⟨c,s⟩:=s
 simp only at h1 h2 h3 h4 h5
 have fD:u+j<s.length:=by omega
 obtain ⟨g1,g2,g3⟩:=Zt (fc.getD bn ha u) (fc.getD bn hb j) h3 (fc.getD bn h2 (u+j))
 unfold Jn
 simp only
 generalize Jm bc bg (a.getD u 0) (b.getD j 0) c (s.getD (u+j) 0)=p at*
 refine ⟨by rw[List.length_set];exact h1,h2.set g1,g2,fun i hi=>?_,?_⟩
 ·rw[← h4 i hi,List.getD_eq_getElem?_getD,List.getD_eq_getElem?_getD,List.getElem?_set_ne (by omega)]
 ·simp only
  rw[AG fD,dF (by omega),show u+(j+1)=(u+j)+1 from by omega,Int.pow_succ]
  generalize s.getD (u+j) 0=o0 at*
  generalize a.getD u 0=x at*
  generalize b.getD j 0=y at*
  have e1:x*(vd qq (b.take j)+y*qq ^ j)*qq ^ u=x*vd qq (b.take j)*qq ^ u+x*y*qq ^ (u+j):=by
   rw[Int.mul_add,Int.add_mul,Int.pow_add,Int.mul_comm (qq ^ u),← Int.mul_assoc x y (qq ^ j),Int.mul_assoc (x*y) (qq ^ j)]
  have e2:(p.1+qq*p.2)*qq ^ (u+j)=(o0+x*y+c)*qq ^ (u+j):=by rw[g3]
  have e3:p.2*(qq ^ (u+j)*qq)=qq*p.2*qq ^ (u+j):=by
   rw[Int.mul_comm (qq ^ (u+j)),← Int.mul_assoc,Int.mul_comm p.2]
  rw[e1,e3,Int.sub_mul]
  rw[Int.add_mul,Int.add_mul (o0+x*y),Int.add_mul o0] at e2
  omega
structure adJ (a b:List Int) (u:Nat) (o:List Int):Prop where
 len:o.length=8
 Ta:fc qq o
 rest: ∀ i,u+4≤i→o.getD i 0=0
 val:vd qq o=vd qq (a.take u)*vd qq (b.take 4)
theorem vZ {a b o:List Int} (ha:fc qq a) (hb:fc qq b) (la:a.length=8) (lb:b.length=8) {u:Nat} (hu:u<4) (h:adJ a b u o):adJ a b (u+1) (Zu bc bg a b u o):=by
 have k:=lz (f:=Jn bc bg a b u) (adI a b o u) (n:=4) (fun j s hj hs=>CH ha hb lb hu hj hs) 4 0 (0,o) (by omega) ⟨h.len,h.Ta,by unfold uI;omega,fun _ _=>rfl,by simp[vd]⟩
 unfold Zu
 generalize upto (Jn bc bg a b u) 0 4 (0,o)=s at*
 obtain ⟨c,s⟩:=s
 obtain ⟨k1,k2,k3,k4,k5⟩:=k
 simp only at k1 k2 k3 k4 k5
 simp only
 refine ⟨by rw[List.length_set];exact k1,k2.set k3,fun i hi=>?_,?_⟩
 ·rw[List.getD_eq_getElem?_getD,List.getElem?_set_ne (by omega),← List.getD_eq_getElem?_getD,k4 i (by omega),h.rest i (by omega)]
 ·have e0:s.getD (u+4) 0=0:=by rw[k4 _ (Nat.le_refl _),h.rest _ (Nat.le_refl _)]
  rw[AG (by omega),e0,Int.sub_zero,show u+4=u+(0+4) from by omega,k5,h.val,dF (l:=a) (by omega),Nat.zero_add,Int.add_mul,Int.mul_assoc (a.getD u 0) (qq ^ u),Int.mul_comm (qq ^ u),Int.mul_assoc]
noncomputable def kY (a b:List Int):List Int:=dg qq 8 (vd qq (a.take 4)*vd qq (b.take 4))
theorem Tc {a b:List Int} (ha:fc qq a) (hb:fc qq b) (la:a.length=8) (lb:b.length=8):upto (Zu bc bg a b) 0 4 (List.replicate 8 0)=kY a b:=by
 have h:=lz (f:=Zu bc bg a b) (adJ a b) (n:=4) (fun u o hu ho=>vZ ha hb la lb hu ho) 4 0 (List.replicate 8 0) (by omega) ⟨by simp,fc.wO bn 8,fun i _=>by
  rw[List.getD_eq_getElem?_getD,List.getElem?_replicate];split<;>rfl,by rw[AH];simp[vd]⟩
 exact ahO bn h.Ta h.len h.val
theorem Zv (b:List Int):(uJ b).length=8∧fc qq (uJ b):=⟨cf _ _,nm bn _ _⟩
theorem P5 {b:List Int} (hb:aB b) (hl:b.length≤64):vd qq (uJ b)=vd 256 b:=by
 unfold uJ
 have h1:=ff (by decide) (show fc 256 b from hb)
 have h2:=qv (by decide) (show fc 256 b from hb)
 have e:(256:Int) ^ 64=qq ^ 8:=by decide+kernel
 have h3:(256:Int) ^ b.length≤256 ^ 64:=xN (by decide) hl
 rw[lV bn,Int.emod_eq_of_lt h1 (by rw[← e];omega)]
theorem Jo {b:List Int} (hb:aB b) (hl:b.length=32):vd qq ((uJ b).take 4)=vd 256 b:=by
 unfold uJ
 have h1:=ff (by decide) (show fc 256 b from hb)
 have h2:=qv (by decide) (show fc 256 b from hb)
 have e:(256:Int) ^ 32=qq ^ 4:=by decide+kernel
 rw[hl] at h2
 rw[adC bn (by decide),lV bn,Int.emod_eq_of_lt h1 (by rw[← e];exact h2)]
end Go.Proofs.YtjalaohajcpllaaGreat
end
