/- What the laws lean on, part 12: a reader of code, plain facts, and what each function gives; no conditions. -/
import Derived.Laws.Externs
import Derived.Test.YtnbkagglkajbkaaGreatC11
set_option linter.unusedVariables false
set_option linter.unusedSimpArgs false
noncomputable section
namespace Go.Proofs.YtnbkagglkajbkaaGreat
open Go Go.Ev Go.Proofs.Tryz
open Go.IntKind (i64 signed u16 u64 wrap)
set_option maxRecDepth 100000
theorem kv(k:Nat)(s b:List Int):tU (k+1) s b=tU k (oP s (ib (b.take 128))) (b.drop 128):=rfl
theorem Av(s b:List Int):tU 0 s b=s:=rfl
theorem rA:∀ (k:Nat) (s b c:List Int),b.take (128*k)=c.take (128*k)→128*k≤b.length→128*k≤c.length→tU k s b=tU k s c
 |0,_,_,_,_,_,_=>rfl
 |k+1,s,b,c,h,hb,hc=>by
  have e1:b.take 128=c.take 128:=by
   have:=congrArg (List.take 128) h;rw[List.take_take,List.take_take,Nat.min_eq_left (by omega)]at this;exact this
  have e2:(b.drop 128).take (128*k)=(c.drop 128).take (128*k):=by
   have:=congrArg (List.drop 128) h;rw[List.drop_take,List.drop_take,show 128*(k+1)-128=128*k from by omega]at this;exact this
  rw[kv,kv,e1];exact rA k _ _ _ e2 (by rw[List.length_drop];omega) (by rw[List.length_drop];omega)
theorem Aw:∀ (k:Nat) (s a b:List Int),a.length=128*k→b.length=128→tU (k+1) s (a++b)=oP (tU k s a) (ib b)
 |0,s,a,b,ha,hb=>by
  have:a= []:=List.eq_nil_of_length_eq_zero (by omega);subst this;rw[kv,Av,Av,List.nil_append,List.take_of_length_le (by omega)]
 |k+1,s,a,b,ha,hb=>by
  rw[kv (k+1),kv k s a,List.take_append_of_le_length (by omega),List.drop_append_of_le_length (by omega)];exact Aw k _ (a.drop 128) b (by rw[List.length_drop];omega) hb
structure HP (h:HH) (row:List Int):Prop where
 ok:rz h
 n:h.n=row.length
 s:h.s=ln nd row
 wait:h.wait.take (row.length%128)=row.drop (row.length/128*128)
theorem HP.byte{h:HH}{row:List Int}(hp:HP h row)(c:Int):HP (lk h c) (row++ [c]):=by
 obtain⟨h0,h1,h2,h3⟩:=hp;have hw:=h0.wait;have hn:(h.n%128).toNat=row.length%128:=by rw[h1];omega
 have q6:(h.wait.set (row.length%128) c).take (row.length%128+1)=row.drop (row.length/128*128)++ [c]:=by
  rw[List.take_add_one,List.take_set_of_le (Nat.le_refl _),h3];simp[show row.length%128<h.wait.length by omega]
 refine⟨At h0 c,?_,?_,?_⟩
 ·rw[GD,h1];simp
 ·unfold lk
  by_cases hz:(h.n+1)%128=0
  ·rw[if_pos hz,hn];simp only;have hl:row.length%128=127:=by omega
   have axb:h.wait.set (row.length%128) c=row.drop (row.length/128*128)++ [c]:=by
    rw[← q6,List.take_of_length_le (by simp;omega)]
   have hk:(row++ [c]).length/128=row.length/128+1:=(by simp;omega);rw[axb,h2];unfold ln;rw[hk];have e:row++ [c]=row.take (row.length/128*128)++(row.drop (row.length/128*128)++ [c]):=(by rw[← List.append_assoc,List.take_append_drop]);rw[e,Aw _ _ _ _ (by rw[List.length_take];omega) (by simp;omega)]
   congr 1
   exact rA _ _ _ _ (by rw[List.take_take];congr 1;omega) (by omega) (by rw[List.length_take];omega)
  ·rw[if_neg hz];simp only;have hk:(row++ [c]).length/128=row.length/128:=(by simp;omega);rw[h2];unfold ln;rw[hk];exact rA _ _ _ _ (by rw[List.take_append_of_le_length (by omega)]) (by omega) (by simp;omega)
 ·have hwb:(lk h c).wait=h.wait.set (row.length%128) c:=by unfold lk;split<;>simp only[hn]
  rw[hwb]
  by_cases hz:(row.length+1)%128=0
  ·have e1:(row++ [c]).length%128=0:=(by simpa using hz);have e2:(row++ [c]).length/128*128=(row++ [c]).length:=(by omega);rw[e1,e2,List.drop_length];rfl
  ·have e1:(row++ [c]).length%128=row.length%128+1:=(by simp;omega);have e2:(row++ [c]).length/128*128=row.length/128*128:=(by simp;omega);rw[e1,e2,q6,List.drop_append_of_le_length (by omega)]
theorem HP.put:∀ (b:List Int) {h:HH} {row:List Int},HP h row→HP (b9 h b) (row++b)
 | [],h,row,hp=>by simpa [b9]using hp
 |c::b,h,row,hp=>by
  have:=HP.put b (hp.byte c);rw[List.append_assoc]at this;exact this
theorem HP.new:HP vX []:=⟨GI,rfl,rfl,rfl⟩
theorem HP.of(b:List Int):HP (b9 vX b) b:=by simpa using HP.new.put b
theorem asb:bX 0=List.replicate 8 0:=by decide
theorem GK{b:List Int}(hb:b.length≤17592186044416):bB b=gH b:=by
 unfold bB alb apD gH;have hn:(b9 vX b).n=b.length:=(HP.of b).n;have hw:u64.wrap (b.length:Int)=b.length:=wrap_u64 (by omega) (by omega)
 have e1:shr .u64 (b.length:Int) 61=0:=by
  have:=cz .u64 (b.length:Int) 61 (by decide);rw[show((61:Nat):Int)=61 from rfl]at this;rw[this]
  exact Int.ediv_eq_zero_of_lt (by omega) (by have:(2 ^ 61:Nat)=2305843009213693952:=by decide
                                              omega)
 have e2:shl .u64 (b.length:Int) 3=u64.wrap (8*(b.length:Int)):=by
  have:=gL .u64 (b.length:Int) 3 (by decide);rw[show((3:Nat):Int)=3 from rfl]at this;rw[this,Int.mul_comm];rfl
 rw[hn,hw,e1,e2,asb]
 have hp:lN (b9 (b9 vX b) [128])=b9 vX (nR (b++ [128])):=by
  unfold lN nR;rw[← jA vX b,jA vX (b++ [128]) (List.replicate _ 0),(HP.of (b++ [128])).n]
 rw[hp,← jA,← jA,(HP.of _).s,List.append_assoc]
structure MM where
 ver:Int
 C1:Int
 len:Int
 list:List Int
 plain:List Int
abbrev cMM:aQ (List SV) MM:=(F9 ag).lV (fun x=>⟨x.1,x.2.1,x.2.2.1,x.2.2.2.1,x.2.2.2.2.1⟩) (fun m=>(m.ver,m.C1,m.len,m.list,m.plain,())) (fun _=>rfl)
def Kr:an:=an.cm [some u8] (bA) (ag) fun x_ y_=>(fun(b:List Int)=>.leaf (some (b.length<4294967296)) (cY .u8 64 (eG b)) []) x_.1
theorem GL(b:List Int):aH Tryz.prog [(45,asa)] [] f95 ((bA).wr (b,())) ((ag).wr ()) [.fr [.sym],.auto]=
 End.ite (decide ((160:Int)<(↑b.length:Int))) (End.need ((0:Int)≤(0:Int)∧(0:Int)≤(160:Int)∧(160:Int)≤(↑b.length:Int))
 (End.need ((List.take (160:Nat) (List.drop (0:Nat) b)).length≤(17592186044416:Nat)) (End.leaf (LV.one (VV.agg [SV.arr (Ty.int IntKind.u8) (64:
 Nat) (gH (List.take (160:Nat) (List.drop (0:Nat) b)))])) []))) (End.need (b.length≤(17592186044416:Nat)) (End.leaf (LV.one (VV.agg [SV.arr
 (Ty.int IntKind.u8) (64:Nat) (gH b)])) [])):=by kernel_rfl
theorem Qf:Kr.Ok Tryz.prog 95:=by
 refine(an.aS call95 fun x_ y_ Q H_=>?_).sym;obtain⟨b,_⟩:=x_;obtain⟨hn,hq⟩:=H_;have hn:b.length<4294967296:=hn;refine(ar mixed ((al aft aw)) func95 rfl (LT:= []) (ks:= [.fr [.sym],.auto]) (aK.nil _)).use (D:= []) ?_ hq;show(aH _ _ _ _ ((bA).wr (b,())) ((ag).wr ()) _).sat _;rw[GL];rw[List.drop_zero];refine⟨fun h=>?_,fun h=>?_⟩
 ·have h:=of_decide_eq_true h;rw[← GK (by simp;omega)];exact⟨by omega,by simp;omega,rfl,rfl⟩
 ·have h:=of_decide_eq_false h;rw[← GK (by omega)];have e:eG b=bB b:=by unfold eG;rw[List.take_of_length_le (by omega)]
  rw[e];exact⟨by omega,rfl,rfl⟩
end Go.Proofs.YtnbkagglkajbkaaGreat
end
noncomputable section
namespace Go.Ev
open Go
open Go.IntKind (i64 signed u16 u64 wrap)
def Vec(α:Type):Nat→Type
 |0=>Unit
 |n+1=>α×Vec α n
namespace Vec
variable {α β γ:Type}
def toList: {n:Nat}→Vec α n→List α
 |0,_=> []
 |_+1,v=>v.1::toList v.2
def map(f:α→β): {n:Nat}→Vec α n→Vec β n
 |0,_=>()
 |_+1,v=>(f v.1,map f v.2)
def zip(f:α→β→γ): {n:Nat}→Vec α n→Vec β n→Vec γ n
 |0,_,_=>()
 |_+1,v,u=>(f v.1 u.1,zip f v.2 u.2)
def ofFn:(n:Nat)→(Nat→α)→Vec α n
 |0,_=>()
 |n+1,f=>(f 0,ofFn n fun i=>f (i+1))
def get[Inhabited α]: {n:Nat}→Vec α n→Nat→α
 |0,_,_=>default
 |_+1,v,0=>v.1
 |_+1,v,i+1=>get v.2 i
theorem cF: {n:Nat}→(v:Vec α n)→v.toList.length=n
 |0,_=>rfl
 |_+1,v=>by simp[toList,cF v.2]
theorem toList_inj: {n:Nat}→ {v u:Vec α n}→v.toList=u.toList→v=u
 |0,_,_,_=>rfl
 |n+1,v,u,h=>by
  simp only[toList,List.cons.injEq]at h;exact Prod.ext h.1 (toList_inj h.2)
end Vec
def eQ{α:Type}(f:Nat→α→α):Nat→α→α
 |0,a=>a
 |k+1,a=>f k (eQ f k a)
theorem mD{α:Type}(f:Nat→α→α)(a:α):∀n,upto f 0 n a=eQ f n a
 |0=>rfl
 |n+1=>by rw[CB,mD f a n,Nat.zero_add];rfl
def bo(x y c:Int):Int×Int:=((((x.toNat+y.toNat+c.toNat)%2 ^ 64:Nat):Int),(((x.toNat+y.toNat+c.toNat)/2 ^ 64:Nat):Int))
def mE(x y b:Int):Int×Int:=((((x.toNat+2 ^ 64-y.toNat-b.toNat)%2 ^ 64:Nat):Int),if x.toNat<y.toNat+b.toNat then 1 else 0)
def aCa(p:Prop):Option Prop→Option Prop
 |none=>some p
 |some q=>some (p∧q)
abbrev cU3:aQ (List LV) (Int×Int×Int×Unit):=ae (ah (aA .u64)) (ae (ah (aA .u64)) (ae (ah (aA .u64)) ag))
def lp(g:Int→Int→Int→Int×Int):an:=an.of [] cU3 ag fun x _=>.leaf (some (0≤x.2.2.1∧x.2.2.1≤1)) (.c6 [.sc (.int .u64 (.sym (g x.1 x.2.1 x.2.2.1).1)),.sc (.int .u64 (.sym (g x.1 x.2.1 x.2.2.1).2))]) []
theorem Ug{P:Program}{f:FuncId}{g:Int→Int→Int→Int×Int}(h:∀ (a b c:Int) (w:World),0≤c→c≤1→(callFunc f #[.int .u64 a,.int .u64 b,.int .u64 c]).run P w= .ok (.value (.tuple #[.int .u64 (g a b c).1,.int .u64 (g a b c).2])) w):
  (lp g).Ok P f:=by
 refine⟨fun args hp Q hq=>?_⟩;simp only[lp,an.of]at hq
 split at hq
 ·rename_i x y hx hy;rw[cU3.ok hx];obtain⟨a,b,c,_⟩:=x;obtain⟨⟨h0,h1⟩,hq⟩:=hq;intro β w vals hh eE
  cases eE with
  |cons e1 eE=>cases eE with
   |cons e2 eE=>cases eE with
    |cons e3 eE=>
     cases eE
     simp only[LV.den,VV.den,SV.den,ah,aA,SI.val]at e1 e2 e3;subst e1 e2 e3;exact .inl ⟨_,h a b c w h0 h1,_,β,_,hp,rfl,⟨[],hq,rfl⟩,⟨_,rfl,.cons rfl (.cons rfl .nil)⟩,hh⟩
 ·exact hq.elim
theorem C2{P:Program}(n:String)(a b c:Int)(w:World)(hc:¬c.toNat>1):
  (Extern.MathBitsCarry.three n #[.int .u64 a,.int .u64 b,.int .u64 c]).run P w= .ok (a.toNat,b.toNat,c.toNat) w:=by
 have e:Extern.MathBitsCarry.three n #[.int .u64 a,.int .u64 b,.int .u64 c]=(do
  let c:=(← asInt (.int .u64 c)).toNat
  if c>1 then unsupported (.noEntry ("extern/math/bits."++n++": a carry that is neither 0 nor 1"))
  pure ((← asInt (.int .u64 a)).toNat,(← asInt (.int .u64 b)).toNat,c)):=rfl
 rw[e];have ra:¬ 1<c.toNat:=hc;simp[asInt,asIntOf];omega
theorem Qg{P:Program}{f:FuncId}{fn:Func}(hf:P.funcs[f]? =some fn)(afu:(fn.name=="runtime.NumGoroutine")=false)(hb:fn.body.isNone=true)(hn:Extern.findNext fn=none)
  {e:Array Value→Sem Value} (he:Extern.find fn=some e) (hee:e=(Extern.MathBitsCarry.rows.getD 0 ("",fun _=>pure undef)).2):(lp bo).Ok P f:=by
 refine Ug fun a b c w h0 h1=>?_;rw[run_callFunc_extern hf afu hb hn he,hee];have hc:¬c.toNat>1:=by omega
 simp[Extern.MathBitsCarry.rows,C2 _ _ _ _ _ hc,Extern.MathBitsCarry.pair,Extern.MathBitsCarry.m64,bo]
theorem Qh{P:Program}{f:FuncId}{fn:Func}(hf:P.funcs[f]? =some fn)(afu:(fn.name=="runtime.NumGoroutine")=false)(hb:fn.body.isNone=true)(hn:Extern.findNext fn=none)
  {e:Array Value→Sem Value} (he:Extern.find fn=some e) (hee:e=(Extern.MathBitsCarry.rows.getD 1 ("",fun _=>pure undef)).2):(lp mE).Ok P f:=by
 refine Ug fun a b c w h0 h1=>?_;rw[run_callFunc_extern hf afu hb hn he,hee];have hc:¬c.toNat>1:=by omega
 simp[Extern.MathBitsCarry.rows,C2 _ _ _ _ _ hc,Extern.MathBitsCarry.pair,Extern.MathBitsCarry.m64,mE]
 split<;>rfl
def B5(k:IntKind){Y:Type}(r:aQ (List SV) Y):(n:Nat)→aQ (List SV) (Vec Int n×Y)
 |0=>r.lV (fun y=>((),y)) (fun p=>p.2) (fun _=>rfl)
 |n+1=>(ae (aA k) (B5 k r n)).lV (fun p=>((p.1,p.2.1),p.2.2)) (fun p=>(p.1.1,(p.1.2,p.2))) (fun _=>rfl)
def iU(k:IntKind):(n:Nat)→aQ (List SV) (Vec Int n)
 |0=>ag
 |n+1=>ae (aA k) (iU k n)
def qT(l:List Int):Vec Int 32:=Vec.ofFn 32 fun i=>l.getD i 0
end Go.Ev
end
noncomputable section
namespace BJ
def aC(n:Nat):Prop:=2≤n∧∀m,m∣n→m=1∨m=n
theorem vY:∀n:Nat,2≤n→∃q,aC q∧q∣n:=by
 intro n
 induction n using Nat.strongRecOn with
 |_ n ih=>
  intro h
  by_cases hp:∀m,m∣n→m=1∨m=n
  ·exact⟨n,⟨h,hp⟩,Nat.dvd_refl n⟩
  ·have⟨m,hm⟩:=Classical.not_forall.1 hp;have⟨hd,hn⟩:=Classical.not_imp.1 hm;have h1:m≠1:=fun e=>hn (.inl e);have h2:m≠n:=fun e=>hn (.inr e);have hle:m≤n:=Nat.le_of_dvd (by omega) hd
   have h0:m≠0:=by
    rintro rfl
    have:=Nat.eq_zero_of_zero_dvd hd;omega
   obtain⟨q,hq,hqm⟩:=ih m (by omega) (by omega);exact⟨q,hq,Nat.dvd_trans hqm hd⟩
theorem aC.coprime{q a:Nat}(hq:aC q)(h:¬q∣a):Nat.Coprime q a:=by
 rcases hq.2 (Nat.gcd q a) (Nat.gcd_dvd_left q a)with h1|h1
 ·exact h1
 ·exact absurd (h1▸Nat.gcd_dvd_right q a) h
theorem aC.dvd_mul{q a b:Nat}(hq:aC q)(h:q∣a*b):q∣a∨q∣b:=by
 by_cases ha:q∣a
 ·exact .inl ha
 ·exact .inr ((hq.coprime ha).dvd_of_dvd_mul_left h)
theorem aC.Ks{q:Nat}(hq:aC q):∀l:List Nat,(∀x∈l,aC x)→q∣l.foldr (· * ·) 1→q∈l
 | [],_,h=>by
  have:q=1:=Nat.eq_one_of_dvd_one h;have:=hq.1;omega
 |x::l,hl,h=>by
  rcases hq.dvd_mul h with h|h
  ·rcases(hl x (by simp)).2 q h with h1|h1
   ·have:=hq.1;omega
   ·simp[h1]
  ·exact List.mem_cons_of_mem _ (hq.Ks l (fun y hy=>hl y (by simp[hy])) h)
def pm(n:Nat):Nat→Nat→Nat→Nat
 |0,_,_=>1%n
 |f+1,a,e=>if e%2=1 then a*pm n f (a*a%n) (e/2)%n else pm n f (a*a%n) (e/2)
theorem Uh(n:Nat):∀f a e,e<2 ^ f→pm n f a e=a ^ e%n:=by
 intro f
 induction f with
 |zero=>intro a e h;have:e=0:=by simpa using h
        subst this;simp[pm]
 |succ f ih=>
  intro a e h;have h2:e/2<2 ^ f:=by rw[Nat.pow_succ]at h;omega
  have hk:(a*a%n) ^ (e/2)%n=a ^ (2*(e/2))%n:=by
   rw[← Nat.pow_mod,Nat.pow_mul,Nat.pow_two]
  simp only[pm,ih _ _ h2,hk]
  split
  ·rename_i ho;rw[Nat.mul_mod,Nat.mod_mod,← Nat.mul_mod,Nat.mul_comm,← Nat.pow_succ]
   congr 2;omega
  ·rename_i ho
   congr 2;omega
theorem lq{n a k:Nat}(hn:2≤n)(h:a ^ k%n=1)(j:Nat):a ^ (k*j)%n=1:=by
 rw[Nat.pow_mul,Nat.pow_mod,h,Nat.one_pow,Nat.mod_eq_of_lt hn]
theorem GM{n a m:Nat}(hm:0<m)(h:a ^ m%n=1):
  ∃k,0<k∧a ^ k%n=1∧∀j,0<j→j<k→a ^ j%n≠1:=by
 induction m using Nat.strongRecOn with
 |_ m ih=>
  by_cases hs:∃j,0<j∧j<m∧a ^ j%n=1
  ·obtain⟨j,h0,h1,h2⟩:=hs;exact ih j h1 h0 h2
  ·exact⟨m,hm,h,fun j h0 h1 h2=>hs ⟨j,h0,h1,h2⟩⟩
theorem C3{n a k m:Nat}(hn:2≤n)(hk:0<k)(h1:a ^ k%n=1)(VG:∀j,0<j→j<k→a ^ j%n≠1)
  (hm:a ^ m%n=1):k∣m:=by
 have e:a ^ m=a ^ (k*(m/k))*a ^ (m%k):=by
  rw[← Nat.pow_add,Nat.div_add_mod]
 rw[e,Nat.mul_mod,lq hn h1,Nat.one_mul,Nat.mod_mod]at hm
 by_cases hr:m%k=0
 ·exact Nat.dvd_of_mod_eq_zero hr
 ·exact absurd hm (VG _ (by omega) (Nat.mod_lt _ hk))
theorem tV:∀ (m:Nat) (l:List Nat),l.Nodup→(∀x∈l,1≤x∧x≤m)→m≤l.length→∀x,1≤x→x≤m→x∈l
 |0,_,_,_,_,x,h1,h2=>by omega
 |m+1,l,hd,hl,hlen,x,h1,h2=>by
  have BX:m+1∈l:=by
   refine Classical.byContradiction fun qK=>?_
   have hl':∀y∈l,1≤y∧y≤m:=fun y hy=>by
    have:=hl y hy;have:y≠m+1:=fun e=>qK (e▸hy);omega
   have:=length_le m l hd hl';omega
  have hd':(l.erase (m+1)).Nodup:=hd.erase _;have aEi:(l.erase (m+1)).length=l.length-1:=List.length_erase_of_mem BX
  have hl':∀y∈l.erase (m+1),1≤y∧y≤m:=fun y hy=>by
   have Ib:=(List.Nodup.mem_erase_iff hd).1 hy;have:=hl y Ib.2;have:=Ib.1;omega
  by_cases hx:x=m+1
  ·exact hx▸BX
  ·exact List.mem_of_mem_erase (tV m (l.erase (m+1)) hd' hl' (by omega) x h1 (by omega))
where
 length_le:∀ (m:Nat) (l:List Nat),l.Nodup→(∀x∈l,1≤x∧x≤m)→l.length≤m
  |0,l,_,hl=>by
   cases l with
   |nil=>simp
   |cons a l=>have:=hl a (by simp);omega
  |m+1,l,hd,hl=>by
   have hd':(l.erase (m+1)).Nodup:=hd.erase _
   have hl':∀y∈l.erase (m+1),1≤y∧y≤m:=fun y hy=>by
    have Ib:=(List.Nodup.mem_erase_iff hd).1 hy;have:=hl y Ib.2;have:=Ib.1;omega
   have:=length_le m _ hd' hl';have h3:= @List.length_erase Nat _ _ (m+1) l
   split at h3<;>omega
def fI(n a:Nat):Prop:=2≤n∧a ^ (n-1)%n=1∧∀x,x%n≠0→∃i,a ^ i%n=x%n
theorem axc{n a:Nat}{l:List Nat}(hn:2≤n)(hl:∀q∈l,aC q)(hp:l.foldr (· * ·) 1=n-1)
  (h1:a ^ (n-1)%n=1) (hq:∀q∈l,a ^ ((n-1)/q)%n≠1):fI n a:=by
 refine⟨hn,h1,?_⟩
 by_cases hn2:n=2
 ·subst hn2;intro x hx;exact⟨0,by simp;omega⟩
 obtain⟨k,hk,hk1,VG⟩:=GM (m:=n-1) (by omega) h1;have aCb:=C3 hn hk hk1 VG h1
 have hkn:k=n-1:=by
  refine Classical.byContradiction fun gz=>?_;obtain⟨c,hc⟩:=aCb
  have hc2:2≤c:=by
   rcases Nat.lt_or_ge c 2 with h|h
   ·have:c=0∨c=1:=(by omega);rcases this with rfl|rfl
    ·simp at hc;omega
    ·simp at hc;omega
   ·exact h
  obtain⟨q,hqp,c',rfl⟩:=vY c hc2;have BX:q∈l:=hqp.Ks l hl (by rw[hp,hc];exact⟨k*c',by rw[Nat.mul_left_comm]⟩);refine hq q BX ?_
  have:(n-1)/q=k*c':=by
   rw[hc,Nat.mul_left_comm];exact Nat.mul_div_cancel_left _ (by have:=hqp.1;omega)
  rw[this];exact lq hn hk1 c'
 subst hkn
 have hinv:∀i,a ^ i%n≠0:=by
  intro i h0;have:a ^ ((n-1)*(i+1))%n=1:=lq hn h1 _
  have e:(n-1)*(i+1)=i+((n-1)*(i+1)-i):=by
   have:i≤(n-1)*(i+1):=Nat.le_trans (by omega) (Nat.le_mul_of_pos_left (i+1) (by omega));omega
  rw[e,Nat.pow_add,Nat.mul_mod,h0,Nat.zero_mul,Nat.zero_mod]at this;omega
 have VR:∀i j,i<j→j<n-1→a ^ i%n≠a ^ j%n:=by
  intro i j hij hj he
  have e1:a ^ (j+(n-1-i))%n=1:=by
   rw[Nat.pow_add,Nat.mul_mod,← he,← Nat.mul_mod,← Nat.pow_add];have:i+(n-1-i)=n-1:=(by omega);rw[this];exact h1
  have e2:j+(n-1-i)=(n-1)+(j-i):=by omega
  rw[e2,Nat.pow_add,Nat.mul_mod,h1,Nat.one_mul,Nat.mod_mod]at e1;exact VG (j-i) (by omega) (by omega) e1
 intro x hx
 have hnd:((List.range (n-1)).map fun i=>a ^ i%n).Nodup:=by
  rw[List.nodup_iff_pairwise_ne,List.pairwise_map];refine List.Pairwise.imp_of_mem ?_ (List.pairwise_lt_range (n:=n-1));intro i j hi hj hij;exact VR i j hij (by simpa using hj)
 have:=tV (n-1) _ hnd (fun y hy=>by
  obtain⟨i,_,rfl⟩:=List.mem_map.1 hy;have:=hinv i;have:=Nat.mod_lt (a ^ i) (show 0<n by omega);omega) (by simp) (x%n) (by omega) (by have:=Nat.mod_lt x (show 0<n by omega);omega)
 obtain⟨i,_,hi⟩:=List.mem_map.1 this;exact⟨i,hi⟩
theorem fI.rB{n a:Nat}(h:fI n a){x:Nat}(hx:x%n≠0):x ^ (n-1)%n=1:=by
 obtain⟨hn,h1,hs⟩:=h;obtain⟨i,hi⟩:=hs x hx;rw[Nat.pow_mod,← hi,← Nat.pow_mod,← Nat.pow_mul,Nat.mul_comm];exact lq hn h1 i
theorem fI.dI{n a:Nat}(h:fI n a):aC n:=by
 refine⟨h.1,fun m hm=>?_⟩;refine Classical.byContradiction fun gz=>?_;have hn:=h.1;have hle:m≤n:=Nat.le_of_dvd (by omega) hm;have h1:m≠1:=fun e=>gz (.inl e);have h2:m≠n:=fun e=>gz (.inr e)
 have h0:m≠0:=by
  rintro rfl
  have:=Nat.eq_zero_of_zero_dvd hm;omega
 have hf:=h.rB (x:=m) (by rw[Nat.mod_eq_of_lt (by omega)];exact h0)
 have hd:m∣m ^ (n-1):=by
  rw[show n-1=(n-2)+1 from by omega,Nat.pow_succ];exact Nat.dvd_mul_left m _
 have:m∣m ^ (n-1)%n:=(Nat.dvd_mod_iff hm).2 hd;rw[hf]at this;exact h1 (Nat.eq_one_of_dvd_one this)
def check(n a f:Nat)(l:List Nat):Bool:=
 decide (2≤n)&&decide (n-1<2 ^ f)&&l.foldr (· * ·) 1==n-1&&pm n f a (n-1)==1&&l.all fun q=>pm n f a ((n-1)/q)!=1
theorem aO{n a f:Nat}{l:List Nat}(hl:∀q∈l,aC q)(h:check n a f l=true):fI n a:=by
 simp only[check,Bool.and_eq_true,decide_eq_true_eq,beq_iff_eq,List.all_eq_true,bne_iff_ne]at h;obtain⟨⟨⟨⟨hn,hf⟩,hp⟩,h1⟩,hq⟩:=h;refine axc hn hl hp ?_ ?_
 ·rw[← Uh n f a _ hf];exact h1
 ·intro q hm;rw[← Uh n f a _ (Nat.lt_of_le_of_lt (Nat.div_le_self _ _) hf)];exact hq q hm
def Ui(n:Nat):Nat→Nat→Bool
 |0,_=>true
 |k+1,d=>if d*d>n then true else n%d !=0&&Ui n k (d+1)
theorem Qi(n:Nat):∀k d,Ui n k d=true→(d+k)*(d+k)>n→∀m,d≤m→m*m≤n→¬m∣n:=by
 intro k
 induction k with
 |zero=>intro d _ hgt m h1 h2;exfalso;have:=Nat.mul_le_mul h1 h1;simp at hgt;omega
 |succ k ih=>
  intro d h hgt m h1 h2 hd;unfold Ui at h
  split at h
  ·have:=Nat.mul_le_mul h1 h1;omega
  ·simp only[Bool.and_eq_true,bne_iff_ne]at h
   by_cases he:m=d
   ·subst he;exact h.1 (Nat.mod_eq_zero_of_dvd hd)
   ·exact ih (d+1) h.2 (by rw[show d+1+k=d+(k+1) by omega];exact hgt) m (by omega) h2 hd
theorem aE{n:Nat}(k:Nat)(hn:2≤n)(hk:(2+k)*(2+k)>n)(h:Ui n k 2=true):aC n:=by
 have hs:=Qi n k 2 h hk;refine⟨hn,fun m hm=>?_⟩;refine Classical.byContradiction fun gz=>?_;have h1:m≠1:=fun e=>gz (.inl e);have h2:m≠n:=fun e=>gz (.inr e);obtain⟨c,hc⟩:=hm;have h0:m≠0:=by rintro rfl;simp at hc;omega
 have hc0:c≠0:=by rintro rfl;simp at hc;omega
 have hc1:c≠1:=by rintro rfl;simp at hc;omega
 by_cases hmc:m≤c
 ·exact hs m (by omega) (by rw[hc];exact Nat.mul_le_mul_left m hmc) ⟨c,hc⟩
 ·exact hs c (by omega) (by rw[hc];exact Nat.mul_le_mul_right c (by omega)) ⟨m,by rw[hc,Nat.mul_comm]⟩
theorem p2:aC 2:=aE 1 (by decide) (by decide) (by decide+kernel)
theorem p3:aC 3:=aE 1 (by decide) (by decide) (by decide+kernel)
theorem asc:aC 65147:=aE 254 (by decide) (by decide) (by decide+kernel)
theorem aCd:aC 353:=aE 17 (by decide) (by decide) (by decide+kernel)
theorem asd:aC 57467:=aE 238 (by decide) (by decide) (by decide+kernel)
theorem p7:aC 7:=aE 1 (by decide) (by decide) (by decide+kernel)
theorem aCe:aC 131:=aE 10 (by decide) (by decide) (by decide+kernel)
theorem alj:fI 132049 26:=aO (f:=18) (l:= [2,2,2,2,3,3,7,131]) (by simp only[List.mem_cons,List.not_mem_nil,or_false];rintro q (rfl|rfl|rfl|rfl|rfl|rfl|rfl|rfl)<;>first|exact p2|exact p3|exact p7|exact aCe) (by decide+kernel)
theorem alk:aC 132049:=alj.dI
theorem p43:aC 43:=aE 5 (by decide) (by decide) (by decide+kernel)
theorem axd:aC 3727:=aE 60 (by decide) (by decide) (by decide+kernel)
theorem afv:fI 1923133 2:=aO (f:=21) (l:= [2,2,3,43,3727]) (by simp only[List.mem_cons,List.not_mem_nil,or_false];rintro q (rfl|rfl|rfl|rfl|rfl)<;>first|exact p2|exact p3|exact p43|exact axd) (by decide+kernel)
theorem afw:aC 1923133:=afv.dI
theorem p31:aC 31:=aE 4 (by decide) (by decide) (by decide+kernel)
theorem aCf:aC 107:=aE 9 (by decide) (by decide) (by decide+kernel)
theorem aCg:aC 223:=aE 13 (by decide) (by decide) (by decide+kernel)
theorem axe:aC 4153:=aE 63 (by decide) (by decide) (by decide+kernel)
theorem p5:aC 5:=aE 1 (by decide) (by decide) (by decide+kernel)
theorem axf:aC 1723:=aE 40 (by decide) (by decide) (by decide+kernel)
theorem alm:fI 430751 17:=aO (f:=19) (l:= [2,5,5,5,1723]) (by simp only[List.mem_cons,List.not_mem_nil,or_false];rintro q (rfl|rfl|rfl|rfl|rfl)<;>first|exact p2|exact p5|exact axf) (by decide+kernel)
theorem aln:aC 430751:=alm.dI
theorem rC:fI 31757755568855353 10:=aO (f:=55) (l:= [2,2,2,3,31,107,223,4153,430751]) (by simp only[List.mem_cons,List.not_mem_nil,or_false];rintro q (rfl|rfl|rfl|rfl|rfl|rfl|rfl|rfl|rfl)<;>first|exact p2|exact p3|exact p31|exact aCf|exact aCg|exact axe|exact aln) (by decide+kernel)
theorem rD:aC 31757755568855353:=rC.dI
theorem ase:aC 75707:=aE 274 (by decide) (by decide) (by decide+kernel)
theorem p13:aC 13:=aE 2 (by decide) (by decide) (by decide+kernel)
theorem axg:aC 2437:=aE 48 (by decide) (by decide) (by decide+kernel)
theorem p97:aC 97:=aE 8 (by decide) (by decide) (by decide+kernel)
theorem aCh:aC 419:=aE 19 (by decide) (by decide) (by decide+kernel)
theorem alo:fI 569003 2:=aO (f:=20) (l:= [2,7,97,419]) (by simp only[List.mem_cons,List.not_mem_nil,or_false];rintro q (rfl|rfl|rfl|rfl)<;>first|exact p2|exact p7|exact p97|exact aCh) (by decide+kernel)
theorem alp:aC 569003:=alo.dI
theorem Kt:fI 2773320623 5:=aO (f:=32) (l:= [2,2437,569003]) (by simp only[List.mem_cons,List.not_mem_nil,or_false];rintro q (rfl|rfl|rfl)<;>first|exact p2|exact axg|exact alp) (by decide+kernel)
theorem Ku:aC 2773320623:=Kt.dI
theorem GN:fI 72106336199 7:=aO (f:=37) (l:= [2,13,2773320623]) (by simp only[List.mem_cons,List.not_mem_nil,or_false];rintro q (rfl|rfl|rfl)<;>first|exact p2|exact p13|exact Ku) (by decide+kernel)
theorem GO:aC 72106336199:=GN.dI
theorem p19:aC 19:=aE 3 (by decide) (by decide) (by decide+kernel)
theorem p47:aC 47:=aE 5 (by decide) (by decide) (by decide+kernel)
theorem aCi:aC 127:=aE 10 (by decide) (by decide) (by decide+kernel)
theorem aCj:aC 103:=aE 9 (by decide) (by decide) (by decide+kernel)
theorem aCk:aC 991:=aE 30 (by decide) (by decide) (by decide+kernel)
theorem afx:fI 8574133 2:=aO (f:=24) (l:= [2,2,3,7,103,991]) (by simp only[List.mem_cons,List.not_mem_nil,or_false];rintro q (rfl|rfl|rfl|rfl|rfl|rfl)<;>first|exact p2|exact p3|exact p7|exact aCj|exact aCk) (by decide+kernel)
theorem afy:aC 8574133:=afx.dI
theorem tW:fI 1919519569386763 2:=aO (f:=51) (l:= [2,3,7,19,47,47,127,8574133]) (by simp only[List.mem_cons,List.not_mem_nil,or_false];rintro q (rfl|rfl|rfl|rfl|rfl|rfl|rfl|rfl)<;>first|exact p2|exact p3|exact p7|exact p19|exact p47|exact aCi|exact afy) (by decide+kernel)
theorem tX:aC 1919519569386763:=tW.dI
theorem gu:fI 75445702479781427272750846543864801 7:=aO (f:=116) (l:= [2,2,2,2,2,3,3,5,5,75707,72106336199,1919519569386763]) (by simp only[List.mem_cons,List.not_mem_nil,or_false];rintro q (rfl|rfl|rfl|rfl|rfl|rfl|rfl|rfl|rfl|rfl|rfl|rfl)<;>first|exact p2|exact p3|exact p5|exact ase|exact GO|exact tX) (by decide+kernel)
theorem gv:aC 75445702479781427272750846543864801:=gu.dI
theorem cd:fI 74058212732561358302231226437062788676166966415465897661863160754340907 2:=aO (f:=236) (l:= [2,3,353,57467,132049,1923133,31757755568855353,75445702479781427272750846543864801]) (by simp only[List.mem_cons,List.not_mem_nil,or_false];rintro q (rfl|rfl|rfl|rfl|rfl|rfl|rfl|rfl)<;>first|exact p2|exact p3|exact aCd|exact asd|exact alk|exact afw|exact rD|exact gv) (by decide+kernel)
theorem cf:aC 74058212732561358302231226437062788676166966415465897661863160754340907:=cd.dI
theorem bg:fI 57896044618658097711785492504343953926634992332820282019728792003956564819949 2:=aO (f:=255) (l:= [2,2,3,65147,74058212732561358302231226437062788676166966415465897661863160754340907]) (by simp only[List.mem_cons,List.not_mem_nil,or_false];rintro q (rfl|rfl|rfl|rfl|rfl)<;>first|exact p2|exact p3|exact asc|exact cf) (by decide+kernel)
theorem bS:aC 57896044618658097711785492504343953926634992332820282019728792003956564819949:=bg.dI
theorem p11:aC 11:=aE 2 (by decide) (by decide) (by decide+kernel)
theorem p23:aC 23:=aE 3 (by decide) (by decide) (by decide+kernel)
theorem asf:aC 34123:=aE 183 (by decide) (by decide) (by decide+kernel)
theorem alq:fI 409477 2:=aO (f:=19) (l:= [2,2,3,34123]) (by simp only[List.mem_cons,List.not_mem_nil,or_false];rintro q (rfl|rfl|rfl|rfl)<;>first|exact p2|exact p3|exact asf) (by decide+kernel)
theorem alr:aC 409477:=alq.dI
theorem XF:fI 14741173 2:=aO (f:=24) (l:= [2,2,3,3,409477]) (by simp only[List.mem_cons,List.not_mem_nil,or_false];rintro q (rfl|rfl|rfl|rfl|rfl)<;>first|exact p2|exact p3|exact alr) (by decide+kernel)
theorem XG:aC 14741173:=XF.dI
theorem XH:fI 58964693 2:=aO (f:=26) (l:= [2,2,14741173]) (by simp only[List.mem_cons,List.not_mem_nil,or_false];rintro q (rfl|rfl|rfl)<;>first|exact p2|exact XG) (by decide+kernel)
theorem XI:aC 58964693:=XH.dI
theorem asg:aC 30703:=aE 174 (by decide) (by decide) (by decide+kernel)
theorem ash:aC 82163:=aE 285 (by decide) (by decide) (by decide+kernel)
theorem asi:aC 22111:=aE 147 (by decide) (by decide) (by decide+kernel)
theorem als:fI 132667 5:=aO (f:=18) (l:= [2,3,22111]) (by simp only[List.mem_cons,List.not_mem_nil,or_false];rintro q (rfl|rfl|rfl)<;>first|exact p2|exact p3|exact asi) (by decide+kernel)
theorem alu:aC 132667:=als.dI
theorem asj:aC 17231:=aE 130 (by decide) (by decide) (by decide+kernel)
theorem alv:fI 137849 3:=aO (f:=18) (l:= [2,2,2,17231]) (by simp only[List.mem_cons,List.not_mem_nil,or_false];rintro q (rfl|rfl|rfl|rfl)<;>first|exact p2|exact asj) (by decide+kernel)
theorem alw:aC 137849:=alv.dI
theorem mF:fI 3044861653679985063343 5:=aO (f:=72) (l:= [2,3,11,30703,82163,132667,137849]) (by simp only[List.mem_cons,List.not_mem_nil,or_false];rintro q (rfl|rfl|rfl|rfl|rfl|rfl|rfl)<;>first|exact p2|exact p3|exact p11|exact asg|exact ash|exact alu|exact alw) (by decide+kernel)
theorem mG:aC 3044861653679985063343:=mF.dI
theorem gO:fI 198211423230930754013084525763697 5:=aO (f:=108) (l:= [2,2,2,2,3,23,58964693,3044861653679985063343]) (by simp only[List.mem_cons,List.not_mem_nil,or_false];rintro q (rfl|rfl|rfl|rfl|rfl|rfl|rfl|rfl)<;>first|exact p2|exact p3|exact p23|exact XI|exact mG) (by decide+kernel)
theorem gP:aC 198211423230930754013084525763697:=gO.dI
theorem aCl:aC 269:=aE 15 (by decide) (by decide) (by decide+kernel)
theorem p73:aC 73:=aE 7 (by decide) (by decide) (by decide+kernel)
theorem aCm:aC 307:=aE 16 (by decide) (by decide) (by decide+kernel)
theorem axj:aC 5879:=aE 75 (by decide) (by decide) (by decide+kernel)
theorem Qj:fI 292386187 2:=aO (f:=29) (l:= [2,3,3,3,3,307,5879]) (by simp only[List.mem_cons,List.not_mem_nil,or_false];rintro q (rfl|rfl|rfl|rfl|rfl|rfl|rfl)<;>first|exact p2|exact p3|exact aCm|exact axj) (by decide+kernel)
theorem Qk:aC 292386187:=Qj.dI
theorem B6:fI 213441916511 13:=aO (f:=38) (l:= [2,5,73,292386187]) (by simp only[List.mem_cons,List.not_mem_nil,or_false];rintro q (rfl|rfl|rfl|rfl)<;>first|exact p2|exact p5|exact p73|exact Qk) (by decide+kernel)
theorem B7:aC 213441916511:=B6.dI
theorem axk:aC 1361:=aE 35 (by decide) (by decide) (by decide+kernel)
theorem axl:aC 2851:=aE 52 (by decide) (by decide) (by decide+kernel)
theorem p41:aC 41:=aE 5 (by decide) (by decide) (by decide+kernel)
theorem axm:aC 3797:=aE 60 (by decide) (by decide) (by decide+kernel)
theorem alx:fI 531581 2:=aO (f:=20) (l:= [2,2,5,7,3797]) (by simp only[List.mem_cons,List.not_mem_nil,or_false];rintro q (rfl|rfl|rfl|rfl|rfl)<;>first|exact p2|exact p5|exact p7|exact axm) (by decide+kernel)
theorem aly:aC 531581:=alx.dI
theorem axn:aC 2551:=aE 49 (by decide) (by decide) (by decide+kernel)
theorem afz:fI 1224481 13:=aO (f:=21) (l:= [2,2,2,2,2,3,5,2551]) (by simp only[List.mem_cons,List.not_mem_nil,or_false];rintro q (rfl|rfl|rfl|rfl|rfl|rfl|rfl|rfl)<;>first|exact p2|exact p3|exact p5|exact axn) (by decide+kernel)
theorem afA:aC 1224481:=afz.dI
theorem tY:fI 1257559732178653 2:=aO (f:=51) (l:= [2,2,3,7,23,531581,1224481]) (by simp only[List.mem_cons,List.not_mem_nil,or_false];rintro q (rfl|rfl|rfl|rfl|rfl|rfl|rfl)<;>first|exact p2|exact p3|exact p7|exact p23|exact aly|exact afA) (by decide+kernel)
theorem tZ:aC 1257559732178653:=tY.dI
theorem oS:fI 4434155615661930479 17:=aO (f:=62) (l:= [2,41,43,1257559732178653]) (by simp only[List.mem_cons,List.not_mem_nil,or_false];rintro q (rfl|rfl|rfl|rfl)<;>first|exact p2|exact p41|exact p43|exact tZ) (by decide+kernel)
theorem oT:aC 4434155615661930479:=oS.dI
theorem jN:fI 172054593956031949258510691 2:=aO (f:=88) (l:= [2,5,1361,2851,4434155615661930479]) (by simp only[List.mem_cons,List.not_mem_nil,or_false];rintro q (rfl|rfl|rfl|rfl|rfl)<;>first|exact p2|exact p5|exact axk|exact axl|exact oT) (by decide+kernel)
theorem jO:aC 172054593956031949258510691:=jN.dI
theorem fb:fI 19757330305831588566944191468367130476339 2:=aO (f:=134) (l:= [2,269,213441916511,172054593956031949258510691]) (by simp only[List.mem_cons,List.not_mem_nil,or_false];rintro q (rfl|rfl|rfl|rfl)<;>first|exact p2|exact aCl|exact B7|exact jO) (by decide+kernel)
theorem fc:aC 19757330305831588566944191468367130476339:=fb.dI
theorem eR:fI 276602624281642239937218680557139826668747 2:=aO (f:=138) (l:= [2,7,19757330305831588566944191468367130476339]) (by simp only[List.mem_cons,List.not_mem_nil,or_false];rintro q (rfl|rfl|rfl)<;>first|exact p2|exact p7|exact fc) (by decide+kernel)
theorem eS:aC 276602624281642239937218680557139826668747:=eR.dI
theorem bV:fI 7237005577332262213973186563042994240857116359379907606001950938285454250989 2:=aO (f:=253) (l:= [2,2,3,11,198211423230930754013084525763697,276602624281642239937218680557139826668747]) (by simp only[List.mem_cons,List.not_mem_nil,or_false];rintro q (rfl|rfl|rfl|rfl|rfl|rfl)<;>first|exact p2|exact p3|exact p11|exact gP|exact eS) (by decide+kernel)
abbrev pp:Nat:=57896044618658097711785492504343953926634992332820282019728792003956564819949
abbrev F:=Fin pp
instance:NeZero pp:=⟨by decide⟩
theorem afB:aC pp:=bS
theorem F.mul_eq_zero{a b:F}(h:a*b=0):a=0∨b=0:=by
 have h1:(a.val*b.val)%pp=0:=by
  have:=congrArg Fin.val h;rwa [Fin.val_mul]at this
 rcases afB.dvd_mul (Nat.dvd_of_mod_eq_zero h1)with h2|h2
 ·exact .inl (Fin.ext (Nat.eq_zero_of_dvd_of_lt h2 a.isLt))
 ·exact .inr (Fin.ext (Nat.eq_zero_of_dvd_of_lt h2 b.isLt))
theorem F.mz(a:F):a*0=0:=by grobner
theorem F.az:(0:F)+0=0:=by grobner
theorem F.ff{a b:F}(ha:a≠0)(hb:b≠0):a*b≠0:=fun h=>
 (F.mul_eq_zero h).elim ha hb
theorem F.cancel{a b c:F}(hc:c≠0)(h:a*c=b*c):a=b:=by
 have:(a-b)*c=0:=by grobner
 rcases F.mul_eq_zero this with h1|h1
 ·grobner
 ·exact absurd h1 hc
def F.pow(a:F)(n:Nat):F:=⟨a.val ^ n%pp,Nat.mod_lt _ (by decide)⟩
theorem F.pow_zero(a:F):F.pow a 0=1:=by
 apply Fin.ext;simp[F.pow]
theorem F.pow_succ(a:F)(n:Nat):F.pow a (n+1)=F.pow a n*a:=by
 apply Fin.ext
 simp only[F.pow,Fin.val_mul,Nat.pow_succ];rw[Nat.mul_mod,Nat.mod_eq_of_lt a.isLt]
def F.inv(a:F):F:=F.pow a (pp-2)
theorem F.Ql{a:F}(h:a≠0):a.val%pp≠0:=by
 rw[Nat.mod_eq_of_lt a.isLt];intro e;exact h (Fin.ext e)
theorem GP:fI pp 2:=bg
theorem F.inv_mul{a:F}(h:a≠0):a*F.inv a=1:=by
 have hf:=GP.rB (F.Ql h)
 apply Fin.ext
 show(a.val*(a.val ^ (pp-2)%pp))%pp=1%pp;rw[Nat.mul_mod,Nat.mod_mod,← Nat.mul_mod,Nat.mul_comm,← Nat.pow_succ];rw[show Nat.succ (pp-2)=pp-1 from by decide,hf];decide
def dd:F:=37095705934669439343138083508754565189542113879843219016388785533085940283555
def ii:F:=19681161376707505956807079304988542015446066515923890162744021073123829784752
theorem apI:ii*ii= -1:=by decide+kernel
theorem axo:dd≠0:=by decide+kernel
theorem ua(s:F):s*s≠dd:=by
 intro h
 have hs:s≠0:=by
  rintro rfl
  exact axo (by rw[← h];decide+kernel)
 have hf:=GP.rB (F.Ql hs)
 have h1:(s.val*s.val)%pp=dd.val:=by
  have:=congrArg Fin.val h;rwa [Fin.val_mul]at this
 have h2:dd.val ^ ((pp-1)/2)%pp=1:=by
  rw[← h1,← Nat.pow_mod,← Nat.pow_two,← Nat.pow_mul];rw[show 2*((pp-1)/2)=pp-1 from by decide];exact hf
 rw[← Uh pp 255 _ _ (by decide+kernel)]at h2
 revert h2
 decide+kernel
theorem afC:(2:F)≠0:=by decide+kernel
def wZ(x y:F):Prop:=y*y-x*x=1+dd*(x*x)*(y*y)
theorem wZ.zero{x y:F}(h:wZ x y):y*y-x*x-(1+dd*(x*x)*(y*y))=0:=by unfold wZ at h;grobner
theorem apJ{x1 y1 x2 y2 e:F}(h1:wZ x1 y1)(h2:wZ x2 y2)(he:e*e=1):dd*x1*x2*y1*y2≠e:=by
 intro hd;unfold wZ at h1 h2;have e0:e≠0:=by rintro rfl;revert he;decide+kernel
 have MW:x1≠0:=by rintro rfl;apply e0;rw[← hd];grobner
 have MX:y1≠0:=by rintro rfl;apply e0;rw[← hd];grobner
 have Sm:y2≠0:=by rintro rfl;apply e0;rw[← hd];grobner
 have hi:=apI;have k1:dd*((x1*y1*(y2+ii*x2))*(x1*y1*(y2+ii*x2)))=(y1+e*ii*x1)*(y1+e*ii*x1):=by grobner
 have k2:dd*((x1*y1*(y2-ii*x2))*(x1*y1*(y2-ii*x2)))=(y1-e*ii*x1)*(y1-e*ii*x1):=by grobner
 have sq:∀t u:F,dd*(t*t)=u*u→t=0:=by
  intro t u h;refine Classical.byContradiction fun ht=>?_
  apply ua (u*F.inv t)
  have hv:=F.inv_mul ht;have:u*F.inv t*(u*F.inv t)=(u*u)*(F.inv t*F.inv t):=by grobner
  rw[this,← h];have:dd*(t*t)*(F.inv t*F.inv t)=dd*((t*F.inv t)*(t*F.inv t)):=by grobner
  rw[this,hv];grobner
 have z1:=sq _ _ k1;have z2:=sq _ _ k2;have hxy:=F.ff MW MX;have w1:y2+ii*x2=0:=(F.mul_eq_zero z1).resolve_left hxy;have w2:y2-ii*x2=0:=(F.mul_eq_zero z2).resolve_left hxy;have:(2:F)*y2=0:=by grobner
 exact Sm ((F.mul_eq_zero this).resolve_left afC)
theorem gQ{x1 y1 x2 y2:F}(h1:wZ x1 y1)(h2:wZ x2 y2):1+dd*x1*x2*y1*y2≠0:=by
 intro h;exact apJ h1 h2 (e:= -1) (by decide+kernel) (by grobner)
theorem ga{x1 y1 x2 y2:F}(h1:wZ x1 y1)(h2:wZ x2 y2):1-dd*x1*x2*y1*y2≠0:=by
 intro h;exact apJ h1 h2 (e:=1) (by decide+kernel) (by grobner)
structure Pt where
 x:F
 y:F
 on:wZ x y
theorem Pt.ext'{p q:Pt}(hx:p.x=q.x)(hy:p.y=q.y):p=q:=by
 cases p;cases q;simp at hx hy;subst hx hy;rfl
def jB(x1 y1 x2 y2:F):F:=(x1*y2+y1*x2)*F.inv (1+dd*x1*x2*y1*y2)
def jC(x1 y1 x2 y2:F):F:=(y1*y2+x1*x2)*F.inv (1-dd*x1*x2*y1*y2)
theorem kx{x1 y1 x2 y2:F}(h1:wZ x1 y1)(h2:wZ x2 y2):jB x1 y1 x2 y2*(1+dd*x1*x2*y1*y2)=x1*y2+y1*x2:=by
 have:=F.inv_mul (gQ h1 h2);unfold jB;generalize F.inv (1+dd*x1*x2*y1*y2)=v at*
 grobner
theorem ky{x1 y1 x2 y2:F}(h1:wZ x1 y1)(h2:wZ x2 y2):jC x1 y1 x2 y2*(1-dd*x1*x2*y1*y2)=y1*y2+x1*x2:=by
 have:=F.inv_mul (ga h1 h2);unfold jC;generalize F.inv (1-dd*x1*x2*y1*y2)=v at*
 grobner
theorem Qm(d x1 y1 x2 y2:F):((y1*y2+x1*x2)*(y1*y2+x1*x2))*((1+d*x1*x2*y1*y2)*(1+d*x1*x2*y1*y2))-((x1*y2+y1*x2)*(x1*y2+y1*x2))*((1-d*x1*x2*y1*y2)*(1-d*x1*x2*y1*y2))-((1+d*x1*x2*y1*y2)*(1+d*x1*x2*y1*y2))*((1-d*x1*x2*y1*y2)*(1-d*x1*x2*y1*y2))-d*((x1*y2+y1*x2)*(x1*y2+y1*x2))*((y1*y2+x1*x2)*(y1*y2+x1*x2))=(y2*y2*y2*y2-4*x2*x2*y2*y2-2*x2*x2*y2*y2*d+2*x2*x2*y2*y2*y2*y2+x2*x2*x2*x2-2*x2*x2*x2*x2*y2*y2-2*x2*x2*x2*x2*y2*y2*y2*y2*d-x2*x2*x2*x2*y2*y2*y2*y2*d*d-y1*y1*x2*x2*y2*y2*y2*y2*d+y1*y1*x2*x2*x2*x2*y2*y2*d+y1*y1*x2*x2*x2*x2*y2*y2*y2*y2*d*d+x1*x1*x2*x2*y2*y2*y2*y2*d-x1*x1*x2*x2*x2*x2*y2*y2*d-x1*x1*x2*x2*x2*x2*y2*y2*y2*y2*d*d+x1*x1*y1*y1*x2*x2*x2*x2*y2*y2*y2*y2*d*d*d)*(y1*y1-x1*x1-(1+d*(x1*x1)*(y1*y1)))+(1+y2*y2-x2*x2+2*x2*x2*y2*y2+x2*x2*y2*y2*d-y1*y1*y2*y2+y1*y1*x2*x2-2*y1*y1*x2*x2*y2*y2-2*y1*y1*x2*x2*y2*y2*d+y1*y1*y1*y1*x2*x2*y2*y2*d+x1*x1*y2*y2-x1*x1*x2*x2+2*x1*x1*x2*x2*y2*y2+2*x1*x1*x2*x2*y2*y2*d+x1*x1*x1*x1*x2*x2*y2*y2*d)*(y2*y2-x2*x2-(1+d*(x2*x2)*(y2*y2))):=by grobner
theorem Qn(d x1 y1 x2 y2 x3 y3:F):((x1*y2+y1*x2)*(1-d*x1*x2*y1*y2)*y3+(y1*y2+x1*x2)*(1+d*x1*x2*y1*y2)*x3)*((1+d*x2*x3*y2*y3)*(1-d*x2*x3*y2*y3)+d*x1*y1*(x2*y3+y2*x3)*(y2*y3+x2*x3))-(x1*(y2*y3+x2*x3)*(1+d*x2*x3*y2*y3)+y1*(x2*y3+y2*x3)*(1-d*x2*x3*y2*y3))*((1+d*x1*x2*y1*y2)*(1-d*x1*x2*y1*y2)+d*(x1*y2+y1*x2)*(y1*y2+x1*x2)*x3*y3)=(-y1*x2*y2*y2*y2*y2*x3*x3*y3*d-y1*x2*x2*y2*y2*y2*x3*d-y1*x2*x2*y2*y2*y2*x3*x3*x3*d-y1*x2*x2*x2*y2*y2*y3*d+y1*x2*x2*x2*y2*y2*y3*y3*y3*d+y1*x2*x2*x2*y2*y2*y2*y2*x3*x3*y3*d*d+y1*x2*x2*x2*x2*y2*x3*y3*y3*d+y1*x2*x2*x2*x2*y2*y2*y2*x3*y3*y3*d*d+x1*x2*y2*y2*y2*y2*x3*y3*y3*d-x1*x2*x2*y2*y2*y2*y3*d+x1*x2*x2*y2*y2*y2*y3*y3*y3*d-x1*x2*x2*x2*y2*y2*x3*d-x1*x2*x2*x2*y2*y2*x3*x3*x3*d-x1*x2*x2*x2*y2*y2*y2*y2*x3*y3*y3*d*d-x1*x2*x2*x2*x2*y2*x3*x3*y3*d-x1*x2*x2*x2*x2*y2*y2*y2*x3*x3*y3*d*d)*(y1*y1-x1*x1-(1+d*(x1*x1)*(y1*y1)))+(y1*y2*x3-y1*y2*x3*y3*y3+y1*y2*x3*x3*x3+y1*y2*x3*x3*x3*y3*y3*d+y1*x2*y3-y1*x2*y3*y3*y3+y1*x2*x3*x3*y3+y1*x2*x3*x3*y3*y3*y3*d-y1*x2*y2*y2*x3*x3*y3*d-y1*x2*x2*y2*x3*y3*y3*d-y1*y1*y1*y2*x3+y1*y1*y1*y2*x3*y3*y3-y1*y1*y1*y2*x3*x3*x3-y1*y1*y1*y2*x3*x3*x3*y3*y3*d-y1*y1*y1*x2*y3+y1*y1*y1*x2*y3*y3*y3-y1*y1*y1*x2*x3*x3*y3-y1*y1*y1*x2*x3*x3*y3*y3*y3*d+y1*y1*y1*x2*y2*y2*x3*x3*y3*d+y1*y1*y1*x2*x2*y2*x3*y3*y3*d+x1*y2*y3-x1*y2*y3*y3*y3+x1*y2*x3*x3*y3+x1*y2*x3*x3*y3*y3*y3*d+x1*x2*x3-x1*x2*x3*y3*y3+x1*x2*x3*x3*x3+x1*x2*x3*x3*x3*y3*y3*d+x1*x2*y2*y2*x3*y3*y3*d+x1*x2*x2*y2*x3*x3*y3*d-x1*y1*y1*y2*y3+x1*y1*y1*y2*y3*y3*y3-x1*y1*y1*y2*x3*x3*y3-x1*y1*y1*y2*x3*x3*y3*y3*y3*d-x1*y1*y1*x2*x3+x1*y1*y1*x2*x3*y3*y3-x1*y1*y1*x2*x3*x3*x3-x1*y1*y1*x2*x3*x3*x3*y3*y3*d-x1*y1*y1*x2*y2*y2*x3*y3*y3*d+x1*y1*y1*x2*y2*y2*x3*x3*x3*y3*y3*d*d-x1*y1*y1*x2*x2*y2*x3*x3*y3*d-x1*y1*y1*x2*x2*y2*x3*x3*y3*y3*y3*d*d+x1*x1*y1*y2*x3-x1*x1*y1*y2*x3*y3*y3+x1*x1*y1*y2*x3*x3*x3+x1*x1*y1*y2*x3*x3*x3*y3*y3*d+x1*x1*y1*x2*y3-x1*x1*y1*x2*y3*y3*y3+x1*x1*y1*x2*x3*x3*y3+x1*x1*y1*x2*x3*x3*y3*y3*y3*d-x1*x1*y1*x2*y2*y2*x3*x3*y3*d-x1*x1*y1*x2*y2*y2*x3*x3*y3*y3*y3*d*d-x1*x1*y1*x2*x2*y2*x3*y3*y3*d+x1*x1*y1*x2*x2*y2*x3*x3*x3*y3*y3*d*d+x1*x1*x1*y2*y3-x1*x1*x1*y2*y3*y3*y3+x1*x1*x1*y2*x3*x3*y3+x1*x1*x1*y2*x3*x3*y3*y3*y3*d+x1*x1*x1*x2*x3-x1*x1*x1*x2*x3*y3*y3+x1*x1*x1*x2*x3*x3*x3+x1*x1*x1*x2*x3*x3*x3*y3*y3*d+x1*x1*x1*x2*y2*y2*x3*y3*y3*d+x1*x1*x1*x2*x2*y2*x3*x3*y3*d)*(y2*y2-x2*x2-(1+d*(x2*x2)*(y2*y2)))+(-y1*y2*x3+y1*y2*y2*y2*x3-y1*x2*y3+y1*x2*y2*y2*y3-y1*x2*x2*y2*x3-y1*x2*x2*x2*y3+y1*y1*y1*y2*x3-y1*y1*y1*y2*y2*y2*x3+y1*y1*y1*x2*y3-y1*y1*y1*x2*y2*y2*y3+y1*y1*y1*x2*x2*y2*x3+y1*y1*y1*x2*x2*x2*y3-x1*y2*y3+x1*y2*y2*y2*y3-x1*x2*x3+x1*x2*y2*y2*x3-x1*x2*x2*y2*y3-x1*x2*x2*x2*x3+x1*y1*y1*y2*y3-x1*y1*y1*y2*y2*y2*y3+x1*y1*y1*x2*x3-x1*y1*y1*x2*y2*y2*x3-x1*y1*y1*x2*y2*y2*x3*d+x1*y1*y1*x2*x2*y2*y3+x1*y1*y1*x2*x2*y2*y3*d+x1*y1*y1*x2*x2*x2*x3-x1*x1*y1*y2*x3+x1*x1*y1*y2*y2*y2*x3-x1*x1*y1*x2*y3+x1*x1*y1*x2*y2*y2*y3+x1*x1*y1*x2*y2*y2*y3*d-x1*x1*y1*x2*x2*y2*x3-x1*x1*y1*x2*x2*y2*x3*d-x1*x1*y1*x2*x2*x2*y3-x1*x1*x1*y2*y3+x1*x1*x1*y2*y2*y2*y3-x1*x1*x1*x2*x3+x1*x1*x1*x2*y2*y2*x3-x1*x1*x1*x2*x2*y2*y3-x1*x1*x1*x2*x2*x2*x3)*(y3*y3-x3*x3-(1+d*(x3*x3)*(y3*y3))):=by grobner
theorem Qo(d x1 y1 x2 y2 x3 y3:F):((y1*y2+x1*x2)*(1+d*x1*x2*y1*y2)*y3+(x1*y2+y1*x2)*(1-d*x1*x2*y1*y2)*x3)*((1+d*x2*x3*y2*y3)*(1-d*x2*x3*y2*y3)-d*x1*y1*(x2*y3+y2*x3)*(y2*y3+x2*x3))-(y1*(y2*y3+x2*x3)*(1+d*x2*x3*y2*y3)+x1*(x2*y3+y2*x3)*(1-d*x2*x3*y2*y3))*((1+d*x1*x2*y1*y2)*(1-d*x1*x2*y1*y2)-d*(x1*y2+y1*x2)*(y1*y2+x1*x2)*x3*y3)=(y1*x2*y2*y2*y2*y2*x3*y3*y3*d-y1*x2*x2*y2*y2*y2*y3*d+y1*x2*x2*y2*y2*y2*y3*y3*y3*d-y1*x2*x2*x2*y2*y2*x3*d-y1*x2*x2*x2*y2*y2*x3*x3*x3*d-y1*x2*x2*x2*y2*y2*y2*y2*x3*y3*y3*d*d-y1*x2*x2*x2*x2*y2*x3*x3*y3*d-y1*x2*x2*x2*x2*y2*y2*y2*x3*x3*y3*d*d-x1*x2*y2*y2*y2*y2*x3*x3*y3*d-x1*x2*x2*y2*y2*y2*x3*d-x1*x2*x2*y2*y2*y2*x3*x3*x3*d-x1*x2*x2*x2*y2*y2*y3*d+x1*x2*x2*x2*y2*y2*y3*y3*y3*d+x1*x2*x2*x2*y2*y2*y2*y2*x3*x3*y3*d*d+x1*x2*x2*x2*x2*y2*x3*y3*y3*d+x1*x2*x2*x2*x2*y2*y2*y2*x3*y3*y3*d*d)*(y1*y1-x1*x1-(1+d*(x1*x1)*(y1*y1)))+(y1*y2*y3-y1*y2*y3*y3*y3+y1*y2*x3*x3*y3+y1*y2*x3*x3*y3*y3*y3*d+y1*x2*x3-y1*x2*x3*y3*y3+y1*x2*x3*x3*x3+y1*x2*x3*x3*x3*y3*y3*d+y1*x2*y2*y2*x3*y3*y3*d+y1*x2*x2*y2*x3*x3*y3*d-y1*y1*y1*y2*y3+y1*y1*y1*y2*y3*y3*y3-y1*y1*y1*y2*x3*x3*y3-y1*y1*y1*y2*x3*x3*y3*y3*y3*d-y1*y1*y1*x2*x3+y1*y1*y1*x2*x3*y3*y3-y1*y1*y1*x2*x3*x3*x3-y1*y1*y1*x2*x3*x3*x3*y3*y3*d-y1*y1*y1*x2*y2*y2*x3*y3*y3*d-y1*y1*y1*x2*x2*y2*x3*x3*y3*d+x1*y2*x3-x1*y2*x3*y3*y3+x1*y2*x3*x3*x3+x1*y2*x3*x3*x3*y3*y3*d+x1*x2*y3-x1*x2*y3*y3*y3+x1*x2*x3*x3*y3+x1*x2*x3*x3*y3*y3*y3*d-x1*x2*y2*y2*x3*x3*y3*d-x1*x2*x2*y2*x3*y3*y3*d-x1*y1*y1*y2*x3+x1*y1*y1*y2*x3*y3*y3-x1*y1*y1*y2*x3*x3*x3-x1*y1*y1*y2*x3*x3*x3*y3*y3*d-x1*y1*y1*x2*y3+x1*y1*y1*x2*y3*y3*y3-x1*y1*y1*x2*x3*x3*y3-x1*y1*y1*x2*x3*x3*y3*y3*y3*d+x1*y1*y1*x2*y2*y2*x3*x3*y3*d+x1*y1*y1*x2*y2*y2*x3*x3*y3*y3*y3*d*d+x1*y1*y1*x2*x2*y2*x3*y3*y3*d-x1*y1*y1*x2*x2*y2*x3*x3*x3*y3*y3*d*d+x1*x1*y1*y2*y3-x1*x1*y1*y2*y3*y3*y3+x1*x1*y1*y2*x3*x3*y3+x1*x1*y1*y2*x3*x3*y3*y3*y3*d+x1*x1*y1*x2*x3-x1*x1*y1*x2*x3*y3*y3+x1*x1*y1*x2*x3*x3*x3+x1*x1*y1*x2*x3*x3*x3*y3*y3*d+x1*x1*y1*x2*y2*y2*x3*y3*y3*d-x1*x1*y1*x2*y2*y2*x3*x3*x3*y3*y3*d*d+x1*x1*y1*x2*x2*y2*x3*x3*y3*d+x1*x1*y1*x2*x2*y2*x3*x3*y3*y3*y3*d*d+x1*x1*x1*y2*x3-x1*x1*x1*y2*x3*y3*y3+x1*x1*x1*y2*x3*x3*x3+x1*x1*x1*y2*x3*x3*x3*y3*y3*d+x1*x1*x1*x2*y3-x1*x1*x1*x2*y3*y3*y3+x1*x1*x1*x2*x3*x3*y3+x1*x1*x1*x2*x3*x3*y3*y3*y3*d-x1*x1*x1*x2*y2*y2*x3*x3*y3*d-x1*x1*x1*x2*x2*y2*x3*y3*y3*d)*(y2*y2-x2*x2-(1+d*(x2*x2)*(y2*y2)))+(-y1*y2*y3+y1*y2*y2*y2*y3-y1*x2*x3+y1*x2*y2*y2*x3-y1*x2*x2*y2*y3-y1*x2*x2*x2*x3+y1*y1*y1*y2*y3-y1*y1*y1*y2*y2*y2*y3+y1*y1*y1*x2*x3-y1*y1*y1*x2*y2*y2*x3+y1*y1*y1*x2*x2*y2*y3+y1*y1*y1*x2*x2*x2*x3-x1*y2*x3+x1*y2*y2*y2*x3-x1*x2*y3+x1*x2*y2*y2*y3-x1*x2*x2*y2*x3-x1*x2*x2*x2*y3+x1*y1*y1*y2*x3-x1*y1*y1*y2*y2*y2*x3+x1*y1*y1*x2*y3-x1*y1*y1*x2*y2*y2*y3-x1*y1*y1*x2*y2*y2*y3*d+x1*y1*y1*x2*x2*y2*x3+x1*y1*y1*x2*x2*y2*x3*d+x1*y1*y1*x2*x2*x2*y3-x1*x1*y1*y2*y3+x1*x1*y1*y2*y2*y2*y3-x1*x1*y1*x2*x3+x1*x1*y1*x2*y2*y2*x3+x1*x1*y1*x2*y2*y2*x3*d-x1*x1*y1*x2*x2*y2*y3-x1*x1*y1*x2*x2*y2*y3*d-x1*x1*y1*x2*x2*x2*x3-x1*x1*x1*y2*x3+x1*x1*x1*y2*y2*y2*x3-x1*x1*x1*x2*y3+x1*x1*x1*x2*y2*y2*y3-x1*x1*x1*x2*x2*y2*x3-x1*x1*x1*x2*x2*x2*y3)*(y3*y3-x3*x3-(1+d*(x3*x3)*(y3*y3))):=by grobner
theorem Qp{x1 y1 x2 y2:F}(h1:wZ x1 y1)(h2:wZ x2 y2):wZ (jB x1 y1 x2 y2) (jC x1 y1 x2 y2):=by
 have a:=kx h1 h2;have b:=ky h1 h2;have p:=gQ h1 h2;have q:=ga h1 h2;have c:=Qm dd x1 y1 x2 y2;have z1:=h1.zero;have z2:=h2.zero;rw[z1,z2,F.mz,F.mz,F.az]at c;unfold wZ;generalize jB x1 y1 x2 y2=X at*;generalize jC x1 y1 x2 y2=Y at*;rw[← a,← b]at c;generalize 1+dd*x1*x2*y1*y2=D at*;generalize 1-dd*x1*x2*y1*y2=E at*;clear a b z1 z2 h1 h2;have k:(Y*Y-X*X-(1+dd*(X*X)*(Y*Y)))*((D*D)*(E*E))=0:=by grobner
 rcases F.mul_eq_zero k with k|k
 ·grobner
 ·exact absurd k (F.ff (F.ff p p) (F.ff q q))
def Pt.add(p q:Pt):Pt:=⟨jB p.x p.y q.x q.y,jC p.x p.y q.x q.y,Qp p.on q.on⟩
def Pt.zero:Pt:=⟨0,1,by unfold wZ;grobner⟩
theorem Pt.add_comm(p q:Pt):p.add q=q.add p:=by
 apply Pt.ext'
 ·show jB _ _ _ _=jB _ _ _ _;unfold jB;rw[show p.x*q.y+p.y*q.x=q.x*p.y+q.y*p.x from by grobner,show 1+dd*p.x*q.x*p.y*q.y=1+dd*q.x*p.x*q.y*p.y from by grobner]
 ·show jC _ _ _ _=jC _ _ _ _;unfold jC;rw[show p.y*q.y+p.x*q.x=q.y*p.y+q.x*p.x from by grobner,show 1-dd*p.x*q.x*p.y*q.y=1-dd*q.x*p.x*q.y*p.y from by grobner]
theorem Pt.add_zero(p:Pt):p.add Pt.zero=p:=by
 have h1:=kx p.on Pt.zero.on;have h2:=ky p.on Pt.zero.on
 apply Pt.ext'
 ·show jB p.x p.y 0 1=p.x;have e:jB p.x p.y 0 1*(1+dd*p.x*0*p.y*1)=p.x*1+p.y*0:=h1
  grobner
 ·show jC p.x p.y 0 1=p.y;have e:jC p.x p.y 0 1*(1-dd*p.x*0*p.y*1)=p.y*1+p.x*0:=h2
  grobner
theorem Pt.add_assoc(p q r:Pt):(p.add q).add r=p.add (q.add r):=by
 obtain⟨x1,y1,o1⟩:=p;obtain⟨x2,y2,o2⟩:=q;obtain⟨x3,y3,o3⟩:=r;have a12:=kx o1 o2;have b12:=ky o1 o2;have a23:=kx o2 o3;have b23:=ky o2 o3;have p12:=gQ o1 o2;have q12:=ga o1 o2;have p23:=gQ o2 o3;have q23:=ga o2 o3;have n12:=Qp o1 o2;have n23:=Qp o2 o3;have aL:=kx n12 o3;have bL:=ky n12 o3;have aR:=kx o1 n23;have bR:=ky o1 n23;have pL:=gQ n12 o3;have qL:=ga n12 o3;have pR:=gQ o1 n23;have qR:=ga o1 n23;have ix:=Qn dd x1 y1 x2 y2 x3 y3;have iy:=Qo dd x1 y1 x2 y2 x3 y3;have z1:=o1.zero;have z2:=o2.zero;have z3:=o3.zero;rw[z1,z2,z3,F.mz,F.mz,F.mz,F.az,F.az]at ix iy
 apply Pt.ext'
 ·show jB (jB x1 y1 x2 y2) (jC x1 y1 x2 y2) x3 y3=jB x1 y1 (jB x2 y2 x3 y3) (jC x2 y2 x3 y3);clear z1 z2 z3 o1 o2 o3 n12 n23 bL bR iy qL qR;generalize jB (jB x1 y1 x2 y2) (jC x1 y1 x2 y2) x3 y3=XL at*;generalize jB x1 y1 (jB x2 y2 x3 y3) (jC x2 y2 x3 y3)=XR at*;generalize jB x1 y1 x2 y2=u at*;generalize jC x1 y1 x2 y2=v at*;generalize jB x2 y2 x3 y3=s at*;generalize jC x2 y2 x3 y3=t at*;generalize 1+dd*x1*x2*y1*y2=D at*;generalize 1-dd*x1*x2*y1*y2=E at*;generalize 1+dd*x2*x3*y2*y3=G at*;generalize 1-dd*x2*x3*y2*y3=H at*;rw[← a12,← b12,← a23,← b23]at ix;clear a12 b12 a23 b23;generalize hA:1+dd*u*x3*v*y3=A at*;generalize hB:1+dd*x1*s*y1*t=B at*;have k1:XL*(D*E*A)=(u*y3+v*x3)*(D*E):=by grobner
  have k2:XR*(G*H*B)=(x1*t+y1*s)*(G*H):=by grobner
  have k3:(u*y3+v*x3)*(D*E)*(G*H*B)=(x1*t+y1*s)*(G*H)*(D*E*A):=by grobner
  apply F.cancel (F.ff (F.ff (F.ff p12 q12) pL) (F.ff (F.ff p23 q23) pR))
  grobner
 ·show jC (jB x1 y1 x2 y2) (jC x1 y1 x2 y2) x3 y3=jC x1 y1 (jB x2 y2 x3 y3) (jC x2 y2 x3 y3);clear z1 z2 z3 o1 o2 o3 n12 n23 aL aR ix pL pR;generalize jC (jB x1 y1 x2 y2) (jC x1 y1 x2 y2) x3 y3=XL at*;generalize jC x1 y1 (jB x2 y2 x3 y3) (jC x2 y2 x3 y3)=XR at*;generalize jB x1 y1 x2 y2=u at*;generalize jC x1 y1 x2 y2=v at*;generalize jB x2 y2 x3 y3=s at*;generalize jC x2 y2 x3 y3=t at*;generalize 1+dd*x1*x2*y1*y2=D at*;generalize 1-dd*x1*x2*y1*y2=E at*;generalize 1+dd*x2*x3*y2*y3=G at*;generalize 1-dd*x2*x3*y2*y3=H at*;rw[← a12,← b12,← a23,← b23]at iy;clear a12 b12 a23 b23;generalize hA:1-dd*u*x3*v*y3=A at*;generalize hB:1-dd*x1*s*y1*t=B at*;have k1:XL*(D*E*A)=(v*y3+u*x3)*(D*E):=by grobner
  have k2:XR*(G*H*B)=(y1*t+x1*s)*(G*H):=by grobner
  have k3:(v*y3+u*x3)*(D*E)*(G*H*B)=(y1*t+x1*s)*(G*H)*(D*E*A):=by grobner
  apply F.cancel (F.ff (F.ff (F.ff p12 q12) qL) (F.ff (F.ff p23 q23) qR))
  grobner
end BJ
end
