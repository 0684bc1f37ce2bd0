/- What the laws lean on, part 2: a reader of code, plain facts, and what each function gives; no conditions. -/
import Derived.Test.YtcbjpiangpjbgaaGreatA1
set_option linter.unusedVariables false
set_option linter.unusedSimpArgs false
noncomputable section
namespace Go.Ev
open Go
open Go.IntKind (i64 signed u32 u64 wrap wrap_u32)
def Mk:SI→Option Nat
 | .lit n=>if 0≤n then some n.toNat else none
 | .sym _=>none
theorem Ml{i:SI}{n:Nat}(h:Mk i=some n):i.val=n:=by
 cases i with
 |lit k=>simp only[Mk]at h;split at h
         · simp at h;simp only[SI.val];omega
         · cases h
 |sym k=>cases h
def kU(x:LV):Option (IntKind×Nat):=
 match x with
 | .one (.sc (.int k n))=>(Mk n).map (k,·)
 |_=>none
theorem nk{β:Env}{L:Nat→Option Kd}{x:LV}{k:IntKind}{i:Nat}{v:Value}(h:kU x=some (k,i))(hd:x.den β L v):v= .int k i:=by
 unfold kU at h
 split at h
 ·rename_i k' n;obtain⟨m,h1,h2⟩:=Option.map_eq_some_iff.1 h;simp at h2;obtain⟨rfl,rfl⟩:=h2;have e:v= .int k' n.val:=hd;rw[e,Ml h1]
 ·cases h
def kV(x:LV):Option (IntKind×Int):=
 match x with
 | .one (.sc (.int k n))=>some (k,n.val)
 |_=>none
theorem fx{β:Env}{L:Nat→Option Kd}{x:LV}{k:IntKind}{i:Int}{v:Value}(h:kV x=some (k,i))(hd:x.den β L v):v= .int k i:=by
 unfold kV at h
 split at h
 ·simp at h;obtain⟨rfl,rfl⟩:=h;exact hd
 ·simp at h
def jr:LV→Option SV
 | .one (.sc s)=>some s
 |_=>none
theorem bD{β:Env}{L:Nat→Option Kd}{x:LV}{s:SV}{v:Value}(h:jr x=some s)(hd:x.den β L v):s.den β L v:=by
 unfold jr at h;split at h
 ·simp at h;subst h;exact hd
 ·simp at h
theorem map_some{α β:Type}{f:α→β}{x:Option α}{y:β}(h:x.map f=some y):∃a,x=some a∧f a=y:=Option.map_eq_some_iff.1 h
def cellsOf:LV→Option (List SV)
 | .one (.sc s)=>some [s]
 | .one (.agg l)=>some l
 |_=>none
theorem A5{v:Value}(h:v.oneCell'=true):v.cells= #[v]:=by cases v<;>first|rfl|cases h
theorem oF{β:Env}{L:Nat→Option Kd}{x:LV}{l:List SV}{v:Value}(h:cellsOf x=some l)(hd:x.den β L v):∃vs:List Value,v.cells=vs.toArray∧bz β L l vs:=by
 unfold cellsOf at h
 split at h
 ·rename_i s;simp at h;subst h;exact⟨[v],A5 (SV.bM hd),bp.one (SV.sE hd)⟩
 ·simp at h;subst h;obtain⟨cs,rfl,h⟩:=hd;exact⟨cs,rfl,h⟩
 ·cases h
def sK(P:Program)(t:TypeId):Option Bool:=
 match P.underlying t with
 |some (.struct _)|some (.array _ _)=>some true
 |some _=>some false
 |none=>none
def dz(P:Program)(t:TypeId):Option Nat:=(P.info? t).map (·.size)
def oG(P:Program)(t:TypeId):Option Nat:=(P.info? t).map (·.bytes)
theorem ig{P:Program}{t:TypeId}{b:Bool}{w:World}(h:sK P t=some b):(isAgg t).run P w= .ok b w:=by
 unfold sK at h;unfold isAgg underlying
 cases hu:P.underlying t with
 |none=>simp[hu]at h
 |some d=>
  rw[hu]at h
  cases d<;>simp at h<;>subst h<;>simp[hu]
theorem run_sizeOf{P:Program}{t:TypeId}{n:Nat}{w:World}(h:dz P t=some n):(sizeOf t).run P w= .ok n w:=by
 unfold dz at h;unfold sizeOf typeInfo
 cases hi:P.info? t with
 |none=>simp[hi]at h
 |some i=>simp[hi]at h;subst h;simp[hi]
def xy(P:Program)(t:TypeId):Option (List Field):=
 match P.underlying t with
 |some (.struct fs)=>some fs.toList
 |_=>none
def oH(P:Program)(t:TypeId):Option (Nat×TypeId):=
 match P.underlying t with
 |some (.array n e)=>some (n,e)
 |_=>none
def eE(P:Program)(t:TypeId):Option TypeId:=
 match P.underlying t with
 |some (.slice e)=>some e
 |_=>none
theorem yN{P:Program}{t:TypeId}{fs:List Field}(h:xy P t=some fs):P.underlying t=some (.struct fs.toArray):=by
 unfold xy at h;split at h
 ·rename_i f hu;simp at h;subst h;simpa using hu
 ·simp at h
theorem mB{P:Program}{t e:TypeId}{n:Nat}(h:oH P t=some (n,e)):P.underlying t=some (.array n e):=by
 unfold oH at h;split at h
 ·rename_i f hu;simp at h;obtain⟨rfl,rfl⟩:=h;simpa using hu
 ·simp at h
theorem dY{P:Program}{t e:TypeId}(h:eE P t=some e):P.underlying t=some (.slice e):=by
 unfold eE at h;split at h
 ·rename_i f hu;simp at h;subst h;simpa using hu
 ·simp at h
def A6(P:Program):Nat→TypeId→Option Ty
 |0,_=>none
 |f+1,t=>match P.underlying t with
  |some (.int k)=>some (.int k)
  |some .bool=>some .bool
  |some (.float .f64)=>some .u7
  |some .string=>some .str
  |some (.slice e)=>(A6 P f e).map .sl
  |some (.array n e)=>(A6 P f e).map (.arr · n)
  |some (.struct fs)=>match dn (fun fd:Field=>A6 P f fd.type) fs.toList with
   |some (x::l)=>some (l.foldr (fun a (g:Ty→Ty) b=>.pair b (g a)) id x)
   |_=>none
  |_=>none
def layout(P:Program):Nat→TypeId→Option (List (Option (IntKind×Nat)))
 |0,_=>none
 |f+1,t=>match P.underlying t with
  |some (.array n e)=>(match P.underlying e with
   |some (.int k)=>if 32<n then some [some (k,n)]else some (List.replicate n none)
   |_=>(layout P f e).map fun l=>(List.replicate n l).flatten)
  |some (.struct fs)=>(dn (fun fd:Field=>layout P f fd.type) fs.toList).map List.flatten
  |some _=>some [none]
  |none=>none
def isZero(k:IntKind):Value→Bool
 | .int k' n=>k'==k&&n==0
 |_=>false
def nm:List (Option (IntKind×Nat))→List Value→Option (List SV)
 | [],[]=>some []
 |none::r,v::vs=>match SV.nY v,nm r vs with
  |some s,some l=>some (s::l)
  |_,_=>none
 |some (k,n)::r,vs=>if(vs.take n).length=n∧(vs.take n).all (isZero k)=true then(nm r (vs.drop n)).map (SV.arr (.int k) n (List.replicate n (0:Int)):: ·)else none
 |_,_=>none
theorem BB{β:Env}{k:IntKind}:∀ {vs:List Value} {n:Nat},vs.length=n→vs.all (isZero k)=true→bp ((Ty.int k).has β true) (List.replicate n (0:Int)) vs
 | [],_,h,_=>by simp at h;subst h;exact .nil
 |v::vs,n,h,ha=>by
  cases n with
  |zero=>simp at h
  |succ n=>
   simp only[List.all_cons,Bool.and_eq_true]at ha
   have hv:v= .int k 0:=by
    unfold isZero at ha
    split at ha
    ·simp at ha;rw[ha.1.1,ha.1.2]
    ·simp at ha
   rw[List.replicate_succ];exact bp.cons (vs:= [v]) (by rw[hv];rfl) (BB (by simpa using h) ha.2)
theorem pU{β:Env}{L:Nat→Option Kd}:∀ (lay:List (Option (IntKind×Nat))) (vs:List Value) {l:List SV},nm lay vs=some l→bz β L l vs
 | [],[],_,h=>by simp[nm]at h;subst h;exact .nil
 | [],_::_,_,h=>by simp[nm]at h
 |none::r,[],_,h=>by simp[nm]at h
 |none::r,v::vs,l,h=>by
  simp only[nm]at h
  split at h
  ·rename_i s l' h1 h2;simp at h;subst h;exact bz.kT (SV.pN h1) (pU r vs h2)
  ·cases h
 |some (k,n)::r,vs,l,h=>by
  simp only[nm]at h
  split at h
  ·rename_i hc;obtain⟨l',h1,rfl⟩:=map_some h;have:=bp.cons (R:=SV.jP β L) (x:=.arr (.int k) n (List.replicate n (0:Int))) (vs:=vs.take n) ⟨by simp,BB hc.1 hc.2⟩ (pU r (vs.drop n) h1);rwa [List.take_append_drop]at this
  ·cases h
def mC(P:Program)(t:TypeId):Option (List SV):=
 match P.info? t,layout P 8 t with
 |some i,some lay=>match i.zero with
  |some z=>nm lay z.cells.toList
  |none=>none
 |_,_=>none
theorem oI{P:Program}{t:TypeId}{l:List SV}{w:World}{β:Env}{L:Nat→Option Kd}(h:mC P t=some l):
  ∃z:Value,(zeroValue t).run P w= .ok z w∧bz β L l z.cells.toList:=by
 unfold mC at h;unfold zeroValue typeInfo
 split at h
 ·rename_i i lay hi _
  split at h
  ·rename_i z hz;exact⟨z,by simp[hi,hz],pU _ _ h⟩
  ·cases h
 ·cases h
def fy(P:Program)(t:TypeId)(l:List SV)(off:Nat):Option VV:=
 match sK P t,dz P t with
 |some true,some n=>(U7 l off n).map .agg
 |some false,some _=>(wI l off).map .sc
 |_,_=>none
theorem jQ{P:Program}{w:World}{β:Env}{L:Nat→Option Kd}{t:TypeId}{l:List SV}{cs:List Value}{off:Nat}{x:VV}(hd:bz β L l cs)(hx:fy P t l off=some x):
  ∃v,(part t cs.toArray off).run P w= .ok v w∧x.den β L v:=by
 unfold fy at hx;unfold part
 split at hx
 ·rename_i k ha hn;obtain⟨s,hs,rfl⟩:=map_some hx;obtain⟨pre,mid,post,rfl,e1,e2,h3⟩:=pP hs hd;simp only[Sem.run_bind,ig ha,Result.andThen_ok,if_true,run_sizeOf hn];refine⟨.agg mid.toArray,?_,mid,rfl,h3⟩
  have:((pre++(mid++post)).toArray.extract off (off+k))=mid.toArray:=by
   apply Array.ext'
   subst e1 e2;simp
  rw[this];rfl
 ·rename_i k ha hn;obtain⟨s,hs,rfl⟩:=map_some hx;obtain⟨v,hv,hr⟩:=oB _ _ hs hd;refine⟨v,?_,hr⟩;have:cs.toArray[off]? =some v:=by simpa using hv
  simp only[Sem.run_bind,ig ha,Result.andThen_ok];simp[this]
 ·simp at hx
theorem kv{P:Program}{w:World}{β:Env}{L:Nat→Option Kd}{t:TypeId}{l:List SV}{vs:List Value}{off:Nat}{x:VV}{a:Addr}(hs:a.spot=none)(hh:dp w a vs)(hd:bz β L l vs)(hx:fy P t l off=some x):
  ∃v,(loadVar t (a.add off)).run P w= .ok v w∧x.den β L v:=by
 unfold fy at hx;unfold loadVar
 split at hx
 ·rename_i k ha hn;obtain⟨s,G4,rfl⟩:=map_some hx;obtain⟨pre,mid,post,rfl,e1,e2,h3⟩:=pP G4 hd;simp only[Sem.run_bind,ig ha,Result.andThen_ok,if_true,run_sizeOf hn];have h4:=lF (P:=P) (dp.mid hs hh);rw[e1,e2]at h4;rw[h4];exact⟨_,rfl,mid,rfl,h3⟩
 ·rename_i k ha hn;obtain⟨s,G4,rfl⟩:=map_some hx;obtain⟨v,hv,hr⟩:=oB _ _ G4 hd;refine⟨v,?_,hr⟩;simp only[Sem.run_bind,ig ha,Result.andThen_ok];simp[hh _ _ hv]
 ·simp at hx
def Q9(P:Program)(t:TypeId):Option (Nat→Option (Nat×Nat)):=
 match P.underlying t with
 |some (.struct fs)=>(dn (fun f=>(dz P f.type).map (f.offset,·)) fs.toList).map fun l i=>l[i]?
 |some (.array _ e)=>(dz P e).map fun s i=>some (i*s,s)
 |_=>none
def vg(place:Nat→Option (Nat×Nat)):List SV→List (Nat×LV)→Option (List SV)
 |cells,[]=>some cells
 |cells,(i,x)::rest=>
  match place i,cellsOf x with
  |some (off,size),some l=>if wL l=size then match Hc cells off l with
    |some c=>vg place c rest
    |none=>none
   else none
  |_,_=>none
theorem Hi:∀ (ys pre old post:List Value),old.length=ys.length→∀ (k off:Nat),pre.length=off+k→
  (ys.zipIdx k).foldl (fun(cs:Array Value) (p:Value×Nat)=>cs.setIfInBounds (off+p.2) p.1) (pre++(old++post)).toArray=(pre++(ys++post)).toArray
 | [],pre,old,post,hl,k,off,_=>by
  have:old= []:=List.eq_nil_of_length_eq_zero (by simpa using hl);subst this;rfl
 |y::ys,pre,o::old,post,hl,k,off,hp=>by
  have h1:(pre++(o::old++post)).toArray.setIfInBounds (off+k) y=((pre++ [y])++(old++post)).toArray:=by
   rw[← hp];simp
  rw[List.zipIdx_cons,List.foldl_cons,h1,Hi ys (pre++ [y]) old post (by simpa using hl) (k+1) off (by simp;omega)];simp
 |_::_,_,[],_,hl,_,_,_=>by simp at hl
theorem C1{β:Env}{L:Nat→Option Kd}{place:Nat→Option (Nat×Nat)}:
  ∀ (parts:List (Nat×LV)) (Mm:List (Nat×Value)) (cells:List SV) (cs:List Value) (l:List SV),
   bz β L cells cs→bX (fun(p:Nat×LV) (r:Nat×Value)=>p.1=r.1∧p.2.den β L r.2) parts Mm→vg place cells parts=some l→
   ∃c:List Value,Instr.fill place cs.toArray Mm=some c.toArray∧bz β L l c
 | [],Mm,cells,cs,l,hc,hp,h=>by
  cases hp
  simp[vg]at h;subst h;exact⟨cs,rfl,hc⟩
 |(i,x)::rest,_,cells,cs,l,hc,.cons (b:=(i',y)) (m:=rs) h1 h2,h=>by
  obtain⟨e,hd⟩:=h1;simp only at e hd;subst e;simp only[vg]at h
  split at h
  ·rename_i off size l' hpl hx
   split at h
   ·rename_i hw
    split at h
    ·rename_i c' Z7;obtain⟨ys,hys,hdy⟩:=oF hx hd;obtain⟨pre,old,post,rfl,e1,e2,h3⟩:=sH _ _ Z7 _ _ hc hdy;obtain⟨c,h4,h5⟩:=C1 rest rs c' _ l h3 h2 h;refine⟨c,?_,h5⟩;simp only[Instr.fill,hpl,hys];have hyl:ys.length=size:=(by rw[hdy.length,hw]);rw[if_neg (by simp;omega),← h4]
     congr 1
     have:=Hi ys pre old post e2 0 off (by omega);rw[← this,← Array.foldl_toList];simp
    ·cases h
   ·cases h
  ·cases h
theorem n6{P:Program}{w:World}:∀ (fs:List Field) (l:List (Nat×Nat)),dn (fun f=>(dz P f.type).map (f.offset,·)) fs=some l→
  (fs.mapM (fun f=>do pure (f.offset,← sizeOf f.type):Field→Sem (Nat×Nat))).run P w= .ok l w
 | [],l,h=>by simp[dn]at h;subst h;simp
 |f::fs,l,h=>by
  simp only[dn]at h
  split at h
  ·rename_i y l' h1 h2;simp at h;subst h;obtain⟨s,hs,rfl⟩:=map_some h1;have:=n6 (P:=P) (w:=w) fs l' h2;simp only[List.mapM_cons,Sem.run_bind,run_sizeOf hs,Result.andThen_ok,Sem.run_pure,this]
  ·simp at h
def yO{α:Type}(f:α→Option Bool):List α→Option Bool
 | []=>some true
 |x::l=>match f x,yO f l with
  |some a,some b=>some (a&&b)
  |_,_=>none
def Ra(P:Program)(n:Nat)(e:TypeId):List SV→List SV→Option Bool
 | [.arr (.int k) n1 x],[.arr (.int k') n2 y]=>match P.underlying e with
  |some (.int _)=>if k=k'∧n1=n∧n2=n∧sK P e=some false∧dz P e=some 1 then some (decide ((x:List Int)=y))else none
  |_=>none
 |_,_=>none
def Mn(P:Program):Nat→TypeId→VV→VV→Option Bool
 |0,_,_,_=>none
 |d+1,t,x,y=>match x,y with
  | .sc (.int k a),.sc (.int k' b)=>(match P.underlying t with
   |some (.int _)=>if k=k' then some (a.val==b.val)else none
   |_=>none)
  | .sc (.bool a),.sc (.bool b)=>(match P.underlying t with
   |some .bool=>some (a.val==b.val)
   |_=>none)
  | .agg l,.agg r=>(match P.underlying t with
   |some (.struct fs)=>if P.stoodInHeld t=false then
     yO (fun f:Field=>if f.name="_" then none else match fy P f.type l f.offset,fy P f.type r f.offset with
      |some a,some b=>Mn P d f.type a b
      |_,_=>none) fs.toList
    else none
   |some (.array n e)=>match Ra P n e l r with
    |some b=>some b
    |none=>match dz P e with
     |some s=>yO (fun i=>match fy P e l (i*s),fy P e r (i*s)with
       |some a,some b=>Mn P d e a b
       |_,_=>none) (List.range n)
     |none=>none
   |_=>none)
  |_,_=>none
theorem wN{P:Program}{t:TypeId}{n:Nat}(h:dz P t=some n):P.cellsOf t=n:=by
 unfold dz at h;unfold Program.cellsOf;rw[h];rfl
theorem yP{P:Program}{t:TypeId}{n:Nat}(h:dz P t=some n):∃i,P.info? t=some i:=by
 unfold dz at h;cases hi:P.info? t with
 |none=>simp[hi]at h
 |some i=>exact⟨i,rfl⟩
theorem sL{β:Env}{k:IntKind}{pm:Bool}:∀ {l:List Int} {vs:List Value},bp ((Ty.int k).has β pm) l vs→vs=l.map (.int k)
 | [],_,h=>by cases h;rfl
 |x::l,_,.cons (vs:=vs) h t=>by
  have e:vs= [.int k x]:=h;rw[e,sL t];rfl
theorem C2{x y:List Int}{n:Nat}(hx:x.length=n)(hy:y.length=n):(List.range n).all (fun i=>x.getD i 0==y.getD i 0)=decide (x=y):=by
 rw[Bool.eq_iff_iff];simp only[List.all_eq_true,List.mem_range,beq_iff_eq,decide_eq_true_eq];constructor
 ·intro h
  apply List.ext_getElem (by omega)
  intro i h1 h2;have:=h i (by omega);simpa [List.getD,h1,h2]using this
 ·intro h;subst h;intro i _;rfl
theorem Z8{P:Program}{w:World}{β:Env}{L:Nat→Option Kd}{n d:Nat}{e:TypeId}{l r:List SV}{b:Bool}(h:Ra P n e l r=some b){xs ys:List Value}(hx:bz β L l xs)(hy:bz β L r ys):
  (Op.eqItems (d+1) e (P.cellsOf e) xs.toArray ys.toArray (List.range n)).run P w= .ok b w:=by
 unfold Ra at h
 split at h
 ·rename_i k n1 x k' n2 y
  split at h
  ·rename_i k0 hu
   split at h
   ·rename_i hc;obtain⟨rfl,rfl,rfl,ha,hs⟩:=hc;simp at h;subst h;obtain⟨L7,Rb⟩:=bp.ka hx;obtain⟨Mo,Rc⟩:=bp.ka hy;have ex:=sL Rb;have ey:=sL Rc;subst ex ey;rw[← C2 L7 Mo,wN hs]
    have key:∀ (fl:List Nat),(∀i∈fl,i<n2)→(Op.eqItems (d+1) e 1 (x.map (Value.int k)).toArray (y.map (Value.int k)).toArray fl).run P w= .ok (fl.all fun i=>x.getD i 0==y.getD i 0) w:=by
     intro fl
     induction fl with
     |nil=>intro _;simp[Op.eqItems]
     |cons i fl ih=>
      intro hi;have hi0:=hi i (by simp)
      have hp:∀ (z:List Int),z.length=n2→(part e (z.map (Value.int k)).toArray i).run P w= .ok (.int k (z.getD i 0)) w:=by
       intro z hz;unfold part;simp only[Sem.run_bind,ig ha,Result.andThen_ok];have dU:i<z.length:=(by omega);simp[List.getD,dU]
      simp only[Op.eqItems,Sem.run_bind,Nat.mul_one,hp x L7,hp y Mo,Result.andThen_ok,Op.equalIn,run_underlying hu,if_true,Sem.run_pure,List.all_cons]
      cases hb:(x.getD i 0==y.getD i 0)
      ·simp
      ·simpa using ih fun j hj=>hi j (by simp[hj])
    exact key _ fun i hi=>by simpa using hi
   ·cases h
  ·cases h
 ·cases h
theorem xz{P:Program}{w:World}{β:Env}{L:Nat→Option Kd}:∀ (d:Nat) (t:TypeId) (x y:VV) (b:Bool),Mn P d t x y=some b→
  ∀ (xv yv:Value),x.den β L xv→y.den β L yv→∀k,(Op.equalIn (k+1+d) t xv yv).run P w= .ok b w
 |0,_,_,_,_,h=>by simp[Mn]at h
 |d+1,t,x,y,b,h=>by
  intro xv yv hx hy k;simp only[Mn]at h
  split at h
  ·rename_i k1 a k2 c;have e1:xv= .int k1 a.val:=hx;have e2:yv= .int k2 c.val:=hy;subst e1 e2
   split at h
   ·rename_i hu
    split at h
    ·rename_i hkk;subst hkk;simp at h;subst h;show(Op.equalIn (k+1+d+1) t _ _).run P w=_;simp[Op.equalIn,run_underlying hu]
    ·simp at h
   ·simp at h
  ·rename_i a c;have e1:xv= .bool a.val:=hx;have e2:yv= .bool c.val:=hy;subst e1 e2
   split at h
   ·rename_i hu;simp at h;subst h;show(Op.equalIn (k+1+d+1) t _ _).run P w=_;simp[Op.equalIn,run_underlying hu]
   ·simp at h
  ·rename_i l r;obtain⟨xs,rfl,hxs⟩:=hx;obtain⟨ys,rfl,hys⟩:=hy;show(Op.equalIn (k+1+d+1) t _ _).run P w=_
   split at h
   ·rename_i fs hu
    split at h
    ·rename_i hst;have hfo:P.fieldsOf t=fs:=(by unfold Program.fieldsOf;rw[hu]);rw[run_equalIn_struct w (k+1+d) t _ _ (by rw[hfo];exact hu) hst,hfo];clear hu hst hfo;generalize fs.toList=fl at h
     induction fl generalizing b with
     |nil=>simp[yO]at h;subst h;simp[Op.eqFields]
     |cons f fl ih=>
      simp only[yO]at h
      split at h
      ·rename_i a c ha hc;simp at h;subst h
       split at ha
       ·simp at ha
       ·rename_i hnm
        split at ha
        ·rename_i p1 p2 ZS hp2;obtain⟨v1,e1,e2⟩:=jQ (P:=P) (w:=w) hxs ZS;obtain⟨v2,e3,e4⟩:=jQ (P:=P) (w:=w) hys hp2;have:=xz (w:=w) d f.type p1 p2 a ha v1 v2 e2 e4 k;simp only[Op.eqFields,ne_eq,hnm,not_false_eq_true,if_true,Sem.run_bind,e1,e3,this,Result.andThen_ok]
         cases a
         ·simp
         ·simpa using ih c hc
        ·simp at ha
      ·simp at h
    ·simp at h
   ·rename_i n e hu
    split at h
    ·rename_i b' jR;simp at h;subst h
     have hi:∃i,P.info? e=some i:=by
      unfold Ra at jR
      split at jR
      ·split at jR
       ·split at jR
        ·rename_i hc;exact yP hc.2.2.2.2
        ·cases jR
       ·cases jR
      ·cases jR
     obtain⟨i,hi⟩:=hi;rw[run_equalIn_array w (k+1+d) _ _ hu hi];rw[show k+1+d=k+d+1 from by omega];exact Z8 jR hxs hys
    ·split at h
     ·rename_i s hs;obtain⟨i,hi⟩:=yP hs;rw[run_equalIn_array w (k+1+d) _ _ hu hi,wN hs];generalize List.range n=fl at h
      induction fl generalizing b with
      |nil=>simp[yO]at h;subst h;simp[Op.eqItems]
      |cons j fl ih=>
       simp only[yO]at h
       split at h
       ·rename_i a c ha hc;simp at h;subst h
        split at ha
        ·rename_i p1 p2 ZS hp2;obtain⟨v1,e1,e2⟩:=jQ (P:=P) (w:=w) hxs ZS;obtain⟨v2,e3,e4⟩:=jQ (P:=P) (w:=w) hys hp2;have:=xz (w:=w) d e p1 p2 a ha v1 v2 e2 e4 k;simp only[Op.eqItems,Sem.run_bind,e1,e3,this,Result.andThen_ok]
         cases a
         ·simp
         ·simpa using ih c hc
        ·simp at ha
       ·simp at h
     ·simp at h
   ·simp at h
  ·simp at h
def Z9(P:Program)(op:BinOp)(t:TypeId)(x y:LV):Option (Option Prop×SV):=
 match jr x,jr y with
 |some a,some b=>(match oD a,oD b with
  |some l,some m=>(arL op l m).map fun s=>(none,s)
  |_,_=>Z6 P op t a b)
 |_,_=>match x,y with
  | .one (.agg l),.one (.agg r)=>if P.eqGuardType P.depth t=false then
    match op with
    | .eql=>(Mn P 12 t (.agg l) (.agg r)).map fun b=>(none,.bool (.sym b))
    | .neq=>(Mn P 12 t (.agg l) (.agg r)).map fun b=>(none,.bool (.sym (!b)))
    |_=>none
   else none
  |_,_=>none
theorem aaa{P:Program}{w:World}{op:BinOp}{t:TypeId}{ox oy:Operand}{x y:LV}{xv yv:Value}{β:Env}{L:Nat→Option Kd}{q:Option Prop}{s:SV}
  (h:Z9 P op t x y=some (q,s)) (hq:fo q) (hx:x.den β L xv) (hy:y.den β L yv):
  ∃v,(do eqGuard op t ox oy xv yv;binOp op t xv yv:Sem Value).run P w= .ok v w∧s.den β L v:=by
 unfold Z9 at h
 split at h
 ·rename_i a b ha hb
  split at h
  ·rename_i l m hl hm;obtain⟨r,hr,he⟩:=map_some h;simp at he;obtain⟨_,rfl⟩:=he;have e1:=jq hl (bD ha hx);have e2:=jq hm (bD hb hy);subst e1 e2;rw[Sem.run_bind,dA (by simp) (by simp)]
   cases op<;>simp[arL]at hr<;>subst hr
   ·exact⟨.bool (cV l m),by simp[binOp,Op.stringOp,cV],rfl⟩
   ·exact⟨.bool (!cV l m),by simp[binOp,Op.stringOp,cV],rfl⟩
  ·exact avy h hq (bD ha hx) (bD hb hy)
 ·split at h
  ·rename_i l r _
   split at h
   ·rename_i hg;have hx':(VV.agg l).den β L xv:=hx;have Hd:(VV.agg r).den β L yv:=hy;obtain⟨xs,rfl,hxs⟩:=hx;obtain⟨ys,rfl,hys⟩:=hy
    split at h
    ·obtain⟨b,hb,he⟩:=Option.map_eq_some_iff.1 h;simp at he;obtain⟨_,rfl⟩:=he;have:=xz (w:=w) 12 t _ _ b hb _ _ hx' Hd 9987;refine⟨.bool b,?_,rfl⟩;rw[Sem.run_bind,run_eqGuard_agg w .eql t ox oy _ _ hg];simp only[Result.andThen_ok,run_eql_struct,this]
    ·obtain⟨b,hb,he⟩:=Option.map_eq_some_iff.1 h;simp at he;obtain⟨_,rfl⟩:=he;have:=xz (w:=w) 12 t _ _ b hb _ _ hx' Hd 9987;refine⟨.bool (!b),?_,rfl⟩;rw[Sem.run_bind,run_eqGuard_agg w .neq t ox oy _ _ hg];simp only[Result.andThen_ok,run_neq_struct,this]
    ·simp at h
   ·simp at h
  ·simp at h
def intOf(k:IntKind):SV→Option Int
 | .int k' n=>if k'=k then some n.val else none
 |_=>none
def aab:SV→Option Bool
 | .bool b=>some b.val
 |_=>none
def al0(z:Int)(col:List SV):SV:=
 match col with
 | .int k _::_=>match dn (intOf k) col with
  |some l=>.int k (.sym (l.getD z.toNat 0))
  |none=>.bC
 | .bool _::_=>match dn aab col with
  |some l=>.bool (.sym (l.getD z.toNat false))
  |none=>.bC
 |_=>.bC
theorem js{α β:Type}{f:α→Option β}:∀ {l:List α} {m:List β},dn f l=some m→∀ {i:Nat} {a:α},l[i]? =some a→∃b,m[i]? =some b∧f a=some b
 | [],m,h,i,a,hi=>by simp at hi
 |x::l,m,h,i,a,hi=>by
  simp only[dn]at h
  split at h
  ·rename_i y m' h1 h2;simp at h;subst h
   cases i with
   |zero=>simp at hi;subst hi;exact⟨y,by simp,h1⟩
   |succ i=>simp at hi;obtain⟨b,hb,hf⟩:=js h2 hi;exact⟨b,by simpa using hb,hf⟩
  ·simp at h
theorem Rd{β:Env}{L:Nat→Option Kd}{z:Int}{col:List SV}{s:SV}{v:Value}(hs:col[z.toNat]? =some s)(h:s.den β L v):(al0 z col).den β L v:=by
 have h1:=SV.bM h;unfold al0
 split
 ·rename_i k n rest
  split
  ·rename_i l hl;obtain⟨b,hb,hf⟩:=js hl hs;unfold intOf at hf
   split at hf
   ·split at hf
    ·rename_i hk;subst hk;simp at hf;subst hf;have e:v= .int _ _:=h;show v= .int _ (l.getD z.toNat 0);rw[e,List.getD_eq_getElem?_getD,hb];rfl
    ·simp at hf
   ·simp at hf
  ·exact h1
 ·rename_i n rest
  split
  ·rename_i l hl;obtain⟨b,hb,hf⟩:=js hl hs;unfold aab at hf
   split at hf
   ·simp at hf;subst hf;have e:v= .bool _:=h;show v= .bool (l.getD z.toNat false);rw[e,List.getD_eq_getElem?_getD,hb];rfl
   ·simp at hf
  ·exact h1
 ·exact h1
def aac(l:List SV):Bool:=l.all fun s=>match s with| .arr _ _ _=>false|_=>true
def aAZ:VV→Option SV
 | .sc s=>some s
 |_=>none
def arM(n:Nat):VV→Option (List SV)
 | .agg l=>if l.length=n∧aac l=true then some l else none
 |_=>none
def al2(z:Int):List VV→Option VV
 | []=>none
 | .sc s::l=>(dn aAZ (.sc s::l)).map fun col=>.sc (al0 z col)
 | .agg r::l=>(dn (arM r.length) (.agg r::l)).map fun rows=>.agg ((List.range r.length).map fun c=>al0 z (rows.map (·.getD c .bC)))
theorem yQ{β:Env}{L:Nat→Option Kd}:∀ {l:List SV} {vs:List Value},aac l=true→bz β L l vs→bX (SV.den β L) l vs
 | [],_,_,h=>by cases h;exact .nil
 |s::l,_,hn,.cons h1 h2=>by
  simp only[aac,List.all_cons,Bool.and_eq_true]at hn;obtain⟨v,rfl,hv⟩:=SV.jj h1 (fun t n l e=>by subst e;simp at hn);exact .cons hv (yQ hn.2 h2)
theorem Re{β:Env}{L:Nat→Option Kd}{z:Int}{items:List VV}{x y:VV}{v:Value}(hs:items[z.toNat]? =some x)(h:x.den β L v)(hy:al2 z items=some y):y.den β L v:=by
 unfold al2 at hy
 split at hy
 ·simp at hy
 ·obtain⟨col,hc,rfl⟩:=map_some hy;obtain⟨s,h1,h2⟩:=js hc hs;unfold aAZ at h2
  split at h2
  ·simp at h2;subst h2;exact Rd h1 h
  ·simp at h2
 ·rename_i r l;obtain⟨rows,hc,rfl⟩:=map_some hy;obtain⟨s,h1,h2⟩:=js hc hs;unfold arM at h2
  split at h2
  ·rename_i s
   split at h2
   ·rename_i hlen;simp at h2;subst h2;obtain⟨cs,rfl,hd⟩:=h;refine⟨cs,rfl,sF ?_⟩
    have key:∀ (s:List SV) (cs:List Value) (k:Nat) (g:Nat→SV),bX (SV.den β L) s cs→(∀i a,s[i]? =some a→∀v,a.den β L v→(g (k+i)).den β L v)→
      bX (SV.den β L) ((List.range' k s.length).map g) cs:=by
     intro s
     induction s with
     |nil=>intro cs k g hd _;cases hd;exact .nil
     |cons a s ih=>
      intro cs k g hd hg
      cases hd with
      |cons h3 h4=>
       simp only[List.length_cons,List.range'_succ,List.map_cons];refine .cons (by have:=hg 0 a (by simp) _ h3;simpa using this) (ih _ (k+1) g h4 fun i b hb v hv=>?_);have:=hg (i+1) b (by simpa using hb) v hv;rwa [show k+1+i=k+(i+1)from by omega]
    rw[List.range_eq_range',← hlen.1];refine key s cs 0 _ (yQ hlen.2 hd) fun i a ha v hv=>?_;rw[Nat.zero_add];refine Rd (s:=a) ?_ hv;simp[h1,ha]
   ·simp at h2
  ·simp at h2
def C3(P:Program)(t:TypeId)(l:List SV)(base lZ n:Nat):Option (List VV):=dn (fun j=>fy P t l (base+j*lZ)) (List.range n)
theorem wO{P:Program}{t:TypeId}{l:List SV}{base lZ n:Nat}{items:List VV}(h:C3 P t l base lZ n=some items){j:Nat}(hj:j<n):
  ∃x,items[j]? =some x∧fy P t l (base+j*lZ)=some x:=by
 obtain⟨x,h1,h2⟩:=js h (i:=j) (a:=j) (by simp[hj]);exact⟨x,h1,h2⟩
def rowAt:List SV→Nat→Option SV
 | [],_=>none
 | .arr t n l::r,off=>if off=0 then some (.arr t n l)else if n*t.w≤off then rowAt r (off-n*t.w)else none
 |_::_,0=>none
 |_::r,off+1=>rowAt r off
theorem oJ{β:Env}{L:Nat→Option Kd}:∀ (l:List SV) (off:Nat) {t:Ty} {n:Nat} {x:List t.D} {vs:List Value},rowAt l off=some (.arr t n x)→bz β L l vs→
  ∃pre mid post,vs=pre++(mid++post)∧pre.length=off∧x.length=n∧bp (t.has β true) x mid
 | [],_,_,_,_,_,h,_=>by simp[rowAt]at h
 |s::r,off,t,n,x,vs,h,hd=>by
  have plain:(∀t n l,s≠ .arr t n l)→∃pre mid post,vs=pre++(mid++post)∧pre.length=off∧x.length=n∧bp (t.has β true) x mid:=by
   intro hs
   cases hd with
   |cons h1 h2=>
    obtain⟨v,rfl,_⟩:=SV.jj h1 hs
    cases off with
    |zero=>
     exfalso
     cases s with
     |arr t n l=>exact absurd rfl (hs t n l)
     |_=>simp[rowAt]at h
    |succ off=>
     have h':rowAt r off=some (.arr t n x):=by
      cases s with
      |arr t n l=>exact absurd rfl (hs t n l)
      |_=>exact h
     obtain⟨pre,mid,post,rfl,e,h3⟩:=oJ r off h' h2;exact⟨v::pre,mid,post,rfl,by simp[e],h3⟩
  cases s with
  |arr t' n' l'=>
   have h':(if off=0 then some (.arr t' n' l')else if n'*t'.w≤off then rowAt r (off-n'*t'.w)else none)=some (SV.arr t n x):=by cases off<;>exact h
   cases hd with
   |cons h1 h2=>
    rename_i us ws
    split at h'
    ·rename_i e0;simp at h';obtain⟨rfl,rfl,e⟩:=h';simp at e;subst e;exact⟨[],us,ws,rfl,by simp[e0],h1.1,h1.2⟩
    ·split at h'
     ·obtain⟨pre,mid,post,rfl,e,h3⟩:=oJ r _ h' h2;have A3:=SV.ic h1;simp only[SV.w]at A3;exact⟨us++pre,mid,post,by simp,by simp[A3,e];omega,h3⟩
     ·cases h'
  |_=>exact plain (by intros;simp)
def jt(t:Ty):SV→Ask (Option (Bool×List t.D))
 | .rd pm _ t' l=>.ret (if h:t'=t then some (pm,h▸l)else none)
 | .fO (.slice none 0 0)=>.ret (some (true,[]))
 | .sl i ver=>.get i fun x=>.ret (match x with
  |some (.own ver' t' l)=>if h:t'=t then(if ver=ver' then some (true,h▸l)else none)else none
  |_=>none)
 | .vw i ver w z n=>.get i fun x=>.ret (match x with
  |some (.own ver' t' l)=>if h:t'=t then(if ver=ver'∧w=t.w then some (true,((h▸l:List t.D).drop z.toNat).take n.toNat)else none)else none
  |_=>none)
 | .vb b o t' m z n=>.get b fun x=>.ret (match x with
  |some (.bH cells _)=>match rowAt cells o with
   |some (.arr t'' n' l)=>if h:t''=t then(if t'=t∧n'=m then some (true,((h▸l:List t.D).drop z.toNat).take n.toNat)else none)else none
   |_=>none
  |_=>none)
 | .slice b o len cap=>.get b fun x=>.ret (match x with
  |some (.bH cells _)=>match(if len≤cap then U7 cells o (len*t.w)else none)with
   |some s=>(sG (t.read true) t.w len s).map fun l=>(true,l)
   |none=>none
  |_=>none)
 |_=>.ret none
theorem ca.U6{β:Env}{pm:Bool}{w:World}{v:Value}{t:Ty}{l:List t.D}(h:ca β true w v t l):ca β pm w v t l:=by
 obtain⟨a,n,c,rfl,hn,hc,hz,hr⟩:=h;refine⟨a,n,c,rfl,hn,hc,hz,fun h0=>?_⟩;obtain⟨a0,eH,rfl,h1,h2,h3⟩:=hr h0;exact⟨a0,eH,rfl,h1,h2.imp fun _ _=>t.oz,h3⟩
theorem wP{β:Env}{pm:Bool}{w:World}{t:Ty}:ca β pm w (.slice none 0 0) t []:=⟨none,0,0,rfl,rfl,Nat.le_refl _,fun _=>rfl,fun h=>absurd h (by simp)⟩
theorem da.reads{β:Env}{w:World}{h:Value}{t:Ty}{l:List t.D}(hk:da β w h t l):ca β true w h t l:=by
 obtain⟨a,n,c,rfl,h1,h2,h3,h4⟩:=hk;refine⟨a,n,c,rfl,h1,h2,h3,fun h0=>?_⟩;obtain⟨a0,pre,eH,rest,elem,fz,rfl,k1,k2,k3,k4,k5⟩:=h4 (by omega);refine⟨a0,eH,rfl,k1,k4,?_⟩;have:=eQ k2;obtain⟨b,o,s⟩:=a0;simp at k1 k3;subst k1 k3;exact this
theorem ca.sub{β:Env}{pm:Bool}{w:World}{h v:Value}{t:Ty}{l:List t.D}{z n:Int}(hk:ca β pm w h t l)(hs:wG h t.w z n v):ca β pm w v t ((l.drop z.toNat).take n.toNat):=by
 obtain⟨a,m,c,rfl,hm,hc,_,hr⟩:=hk;obtain⟨a1,m1,c1,a',c',e,z0,n0,hle,rfl,rA,hz,ha⟩:=hs;simp at e;obtain⟨rfl,rfl,rfl⟩:=e;have hlen:((l.drop z.toNat).take n.toNat).length=n.toNat:=by simp;omega
 refine⟨a',n.toNat,c',rfl,hlen.symm,rA,hz,fun h0=>?_⟩;obtain⟨a0,e1,rfl⟩:=ha (by omega);obtain⟨a2,eH,e2,h1,h2,h3⟩:=hr (by omega);subst e1;simp at e2;subst e2;obtain⟨v1,v2,rfl,k1,k2⟩:=ie h2 z.toNat;obtain⟨v3,v4,rfl,k3,k4⟩:=ie k2 n.toNat;refine⟨_,v3,rfl,mA h1 _,k3,?_⟩;have:=dp.mid h1 h3;rwa [bG k1,List.length_take,Nat.min_eq_left (by omega)]at this
theorem ca.len{β:Env}{pm:Bool}{w:World}{v:Value}{t:Ty}{l:List t.D}(h:ca β pm w v t l):∃a c,v= .slice a l.length c:=by
 obtain⟨a,n,c,rfl,rfl,_⟩:=h;exact⟨a,c,rfl⟩
noncomputable section
variable {W:World} {an:Hp} {β₀ β:Env} {hp:Hp} {w:World}
theorem bB.avB(h:bB W an β₀ β hp w){pm:Bool}{v:Value}{t:Ty}{l:List t.D}(hr:xj β pm v t l):ca β pm w v t l∧∀b,inBlock v b→b<w.heap.size∧¬gh hp β b:=by
 rcases hr with hr|⟨rfl,hr⟩|⟨rfl,rfl⟩
 ·exact⟨(h.reads _ _ _ _ hr).1.U6,(h.reads _ _ _ _ hr).2⟩
 ·exact h.reads _ _ _ _ hr
 ·exact⟨wP,fun b hb=>hb.elim⟩
theorem bB.oK(h:bB W an β₀ β hp w){i ver:Nat}{t:Ty}{l:List t.D}(hi:hp[i]? =some (some (.own ver t l))){p:Value→Prop}(hd:∃c,kd hp i=some (.own c)∧ver≤c∧(ver=c→p (β.h i))):
  da β w (β.h i) t l∧p (β.h i):=by
 obtain⟨c,h1,h2,h3⟩:=hd;rw[dH hi]at h1;simp[Item.kd]at h1;exact⟨h.items _ _ hi,h3 h1⟩
theorem mD(h:bB W an β₀ β hp w){t:Ty}{s:SV}{pm:Bool}{l:List t.D}{v:Value}(hc:(jt t s).val hp=some (pm,l))(hd:s.den β (kd hp) v):ca β pm w v t l:=by
 unfold jt at hc
 split at hc
 ·simp only[Ask.val]at hc
  split at hc
  ·rename_i e;subst e;simp at hc;obtain⟨rfl,rfl⟩:=hc;exact(h.avB hd.2.2).1
  ·cases hc
 ·simp only[Ask.val]at hc;simp at hc;obtain⟨rfl,rfl⟩:=hc;obtain⟨_,rfl⟩:=hd;exact wP
 ·rename_i i ver;simp only[Ask.val]at hc
  split at hc
  ·rename_i ver' t' l' hi
   split at hc
   ·rename_i e;subst e
    split at hc
    ·rename_i e;subst e;simp at hc;obtain⟨rfl,rfl⟩:=hc;obtain⟨_,hd⟩:=hd;obtain⟨h1,rfl⟩:=h.oK (p:=fun x=>v=x) (aB hi) hd;exact h1.reads
    ·cases hc
   ·cases hc
  ·cases hc
 ·rename_i i ver w' z n;simp only[Ask.val]at hc
  split at hc
  ·rename_i ver' t' l' hi
   split at hc
   ·rename_i e;subst e
    split at hc
    ·rename_i e;obtain⟨rfl,rfl⟩:=e;simp at hc;obtain⟨rfl,rfl⟩:=hc;obtain⟨_,hd⟩:=hd;obtain⟨h1,h2⟩:=h.oK (p:=fun x=>wG x t'.w z n v) (aB hi) hd;exact h1.reads.sub h2
    ·cases hc
   ·cases hc
  ·cases hc
 ·rename_i b o t' m z n;simp only[Ask.val]at hc
  split at hc
  ·rename_i cells elem hi
   split at hc
   ·rename_i t'' n' l' jR
    split at hc
    ·rename_i e;subst e
     split at hc
     ·rename_i e;obtain⟨rfl,rfl⟩:=e;simp at hc;obtain⟨rfl,rfl⟩:=hc;obtain⟨hb,z0,n0,zn,a',c',rfl,rA,hz,ha⟩:=hd;obtain⟨cs,fz,h1,h2,h3⟩:=h.items _ _ (aB hi);obtain⟨pre,mid,post,rfl,e1,e2,h4⟩:=oJ _ _ jR h3;subst e1 e2;have aA0:ca β true w (.slice (some ⟨β b,pre.length,none⟩) l'.length l'.length) t' l':=⟨_,_,_,rfl,rfl,Nat.le_refl _,(fun e=>by cases e),fun _=>⟨_,mid,rfl,rfl,h4,eQ h1⟩⟩;exact aA0.sub ⟨_,_,_,_,_,rfl,z0,n0,zn,rfl,rA,hz,fun h0=>⟨_,rfl,ha h0⟩⟩
     ·cases hc
    ·cases hc
   ·cases hc
  ·cases hc
 ·rename_i b o len cap;simp only[Ask.val]at hc
  split at hc
  ·rename_i cells elem hi
   split at hc
   ·rename_i s hs;obtain⟨l',hl,he⟩:=map_some hc;simp at he;obtain⟨rfl,rfl⟩:=he
    split at hs
    ·rename_i hlc;obtain⟨_,rfl⟩:=hd;obtain⟨cs,fz,h1,h2,h3⟩:=h.items _ _ (aB hi);obtain⟨pre,mid,post,rfl,e1,e2,h4⟩:=pP hs h3;obtain⟨h5,h6⟩:=oC (R:=t.has β true) (fun a x vs h hd=>t.iv h hd) _ hl h4;subst e1;exact⟨_,_,_,rfl,h6.symm,hlc,(fun e=>by cases e),fun _=>⟨_,mid,rfl,rfl,h5,eQ h1⟩⟩
    ·cases hs
   ·cases hc
  ·cases hc
 ·simp[Ask.val]at hc
end
abbrev Stp:=Option (Option Prop×LV×List (Nat×Item))
def aV:List (Nat×Item)→Hp→Hp
 | [],hp=>hp
 |(i,x)::d,hp=>aV d (setAt hp i x)
def aad(k:IntKind):SI→SI
 | .lit x=>.lit (k.wrap x)
 | .sym x=>.sym (k.wrap x)
theorem U8(k:IntKind)(n:SI):(aad k n).val=k.wrap n.val:=by cases n<;>rfl
def aA1(op:UnOp):SV→Option SV
 | .int k n=>match op with
  | .neg=>some (.int k (map2 (fun x y=>k.wrap (x-y)) (.lit 0) n))
  | .xor=>some (.int k (map2 (bm k) (.lit (if k.signed then-1 else k.max)) n))
  |_=>none
 | .bool b=>match op with
  | .not=>some (.bool (match b with| .lit x=>.lit (!x)| .sym x=>.sym (!x)))
  |_=>none
 |_=>none
def C4:SV→Ask (Option Ty)
 | .rd _ _ t _=>.ret (some t)
 | .sl i _=>.get i fun x=>.ret (match x with|some (.own _ t _)=>some t|_=>none)
 | .vw i _ _ _ _=>.get i fun x=>.ret (match x with|some (.own _ t _)=>some t|_=>none)
 | .vb _ _ t _ _ _=>.ret (some t)
 |_=>.ret none
def ju(s:SV):Ask (Option (Bool×(t:Ty)×List t.D)):=
 (C4 s).bind fun o=>match o with
  |some t=>(jt t s).map fun c=>c.map fun p=>(p.1,⟨t,p.2⟩)
  |none=>.ret none
def fits(P:Program)(e:TypeId)(t:Ty):Bool:=decide (A6 P 8 e=some t)&&decide (dz P e=some t.w)
def jJ(d:Int):Option LV→Option Int
 |none=>some d
 |some x=>(kV x).map (·.2)
def mE(len cap:Nat)(lo hi mx:Option LV):Option (Nat×Nat×Nat):=
 match mx with
 |some _=>none
 |none=>
  let h:Option Nat:=match hi with
   |none=>some len
   |some x=>match kU x with
    |some (_,h)=>if h≤cap then some h else none
    |none=>none
  match h with
  |none=>none
  |some h=>match lo with
   |none=>some (0,h,cap)
   |some x=>match kU x with
    |some (_,l)=>if l≤h then some (l,h,cap)else none
    |none=>none
def avD(w:Nat)(x y:Int):SV→Option SV
 | .rd pm _ t l=>some (.rd pm false t ((l.drop x.toNat).take (y-x).toNat))
 | .sl i ver=>some (.vw i ver w x (y-x))
 | .vw i ver w z _=>some (.vw i ver w (z+x) (y-x))
 | .vb b o t m z _=>some (.vb b o t m (z+x) (y-x))
 |_=>none
def aae:JC:=⟨fun _=>true,fun _=>none,fun _=>false,fun _=>false⟩
def Mp(P:Program)(t:TypeId):SV→Ask Stp
 | .ptr b off=>.get b fun x=>.ret (match x with
  |some (.bH cells _)=>(fy P t cells off).map fun x=>(none,.one x,[])
  |_=>none)
 | .u9 b base lZ n z=>.get b fun x=>.ret (match x with
  |some (.bH cells _)=>match C3 P t cells base lZ n with
   |some items=>(al2 z items).map fun x=>(none,.one x,[])
   |none=>none
  |_=>none)
 | .ep s w z f=>(ju s).map fun c=>match c with
  |some (pm,⟨ty,l⟩)=>if w=ty.w then
    (match oH P t with
     |some (n,e)=>if fits P e ty=true∧A6 P 8 t≠some ty∧f=0∧(pm||ty.flat)=true∧sK P t=some true∧dz P t=some (n*ty.w)then some (some (z.toNat+n≤l.length),.one (.agg [.arr ty n ((l.drop z.toNat).take n)]),[])
         else(fy P t (ty.Bw pm (l.getD z.toNat ty.z)) f).map fun x=>(none,.one x,[])
     |none=>(fy P t (ty.Bw pm (l.getD z.toNat ty.z)) f).map fun x=>(none,.one x,[]))
   else none
  |none=>none
 |_=>.ret none
def pV(t:Ty)(x:t.D)(f:Nat)(l:List SV):Option t.D:=
 if f=0∧wL l=t.w then t.read true l else match Hc (t.Bw true x) f l with
  |some c=>t.read true c
  |none=>none
def jS:List SV→Nat→SV→Option (List SV)
 | [],_,_=>none
 | .arr t n l::r,off,s=>if off=0 then some (s::r)else if n*t.w≤off then(jS r (off-n*t.w) s).map (.arr t n l:: ·)else none
 |_::_,0,_=>none
 |x::r,off+1,s=>(jS r off s).map (x:: ·)
def C5(P:Program)(t:TypeId)(a:SV)(l:List SV):Ask Stp:=
 if dz P t=some (wL l)then
  match a with
  | .ptr b off=>.get b fun x=>.ret (match x with
   |some (.bH cells elem)=>(Hc cells off l).map fun c=>(none,.cG [],[(b,.bH c elem)])
   |_=>none)
  | .ep (.sl i ver) w z f=>.get i fun x=>.ret (match x with
   |some (.own ver' ty m)=>if ver=ver'∧w=ty.w then(pV ty (m.getD z.toNat ty.z) f l).map fun y=>(none,.cG [],[(i,.own ver' ty (m.set z.toNat y))])else none
   |_=>none)
  | .ep (.vw i ver w' z' _) w z f=>.get i fun x=>.ret (match x with
   |some (.own ver' ty m)=>if ver=ver'∧w=ty.w∧w'=ty.w then(pV ty (m.getD (z'.toNat+z.toNat) ty.z) f l).map fun y=>(none,.cG [],[(i,.own ver' ty (m.set (z'.toNat+z.toNat) y))])else none
   |_=>none)
  | .ep (.vb b o ty n z' _) w z f=>.get b fun x=>.ret (match x with
   |some (.bH cells elem)=>match rowAt cells o with
    |some (.arr u3 n' m)=>if u3=ty∧n'=n∧w=u3.w then match pV u3 (m.getD (z'.toNat+z.toNat) u3.z) f l with
      |some y=>(jS cells o (.arr u3 n' (m.set (z'.toNat+z.toNat) y))).map fun c=>(none,.cG [],[(b,.bH c elem)])
      |none=>none
     else none
    |_=>none
   |_=>none)
  |_=>.ret none
 else .ret none
def vh(P:Program)(t:TypeId)(x:SV)(i:LV):Ask Stp:=
 match x,oH P t,eE P t with
 | .ptr b off,some (n,e),_=>match dz P e with
  |some s=>match kU i with
   |some (_,j)=>.ret (if j<n then some (none,.one (.sc (.ptr b (off+j*s))),[])else none)
   |none=>match kV i with
    |some (_,z)=>.get b fun y=>.ret (match y with
     |some (.bH cells _)=>match rowAt cells off with
      |some (.arr ty n' _)=>if n'=n∧s=ty.w then some (some (0≤z∧z<n),.one (.sc (.ep (.vb b off ty n 0 n) s z 0)),[])else none
      |_=>some (some (0≤z∧z<n),.one (.sc (.u9 b off s n z)),[])
     |_=>none)
    |none=>.ret none
  |none=>.ret none
 | .slice b off len _,none,some e=>.ret (match dz P e with
  |some s=>match kU i with
   |some (_,j)=>if j<len then some (none,.one (.sc (.ptr b (off+j*s))),[])else none
   |none=>match kV i with
    |some (_,z)=>some (some (0≤z∧z<len),.one (.sc (.u9 b off s len z)),[])
    |none=>none
  |none=>none)
 |x,none,some e=>(ju x).map fun c=>match c,dz P e,kV i with
  |some (_,⟨ty,l⟩),some s,some (_,z)=>if s=ty.w then some (some (0≤z∧z<l.length),.one (.sc (.ep x s z 0)),[])else none
  |_,_,_=>none
 |_,_,_=>.ret none
def aaf(P:Program)(t:TypeId)(x i:LV):Option (Option Prop×VV):=
 match x,oH P t with
 | .one (.agg l),some (n,e)=>match dz P e with
  |some s=>match kU i with
   |some (_,j)=>if j<n then(fy P e l (j*s)).map fun x=>(none,x)else none
   |none=>match kV i with
    |some (_,z)=>match l with
     | [.arr ty n' m]=>if n'=n∧s=ty.w then(fy P e (ty.Bw true (m.getD z.toNat ty.z)) 0).map fun x=>(some (0≤z∧z<n),x)else none
     |_=>match C3 P e l 0 s n with
      |some items=>(al2 z items).map fun x=>(some (0≤z∧z<n),x)
      |none=>none
    |none=>none
  |none=>none
 | .one (.sc s),none=>match P.underlying t,oD s,kV i with
  |some .string,some l,some (_,z)=>some (some (0≤z∧z<l.length∧0≤l.getD z.toNat 0∧l.getD z.toNat 0<256),.sc (.int .u8 (.sym (l.getD z.toNat 0))))
  |_,_,_=>none
 |_,_=>none
def Mq(P:Program)(id:Nat)(src dst:TypeId)(x:SV):Ask Stp:=
 match P.underlying src,P.underlying dst with
 |some _,some (.int k)=>.ret (match x with
  | .int _ n=>some (none,.one (.sc (.int k (aad k n))),[])
  |_=>none)
 |some (.slice e),some .string=>match P.underlying e with
  |some (.int .u8)=>(jt (.int .u8) x).map fun c=>c.map fun c=>(none,.one (.sc (.str c.2)),[])
  |_=>.ret none
 |some .string,some .string=>.ret (match oD x with
  |some l=>some (none,.one (.sc (.str l)),[])
  |none=>none)
 |some .string,some (.slice e)=>.ret (match P.underlying e,oD x with
  |some (.int .u8),some l=>if dz P e=some 1 then some (none,.one (.sc (.sl id 0)),[(id,.own 0 (.int .u8) (l.map fun n=>((UInt8.ofNat n.toNat).toNat:Int)))])else none
  |_,_=>none)
 |some (.slice _),some (.slice e)=>match x with
  | .sl i ver=>if src=dst then match P.underlying e with
    |some (.int .u8)=>.get i fun y=>.ret (match y with
     |some (.own ver' (.int .u8) l)=>if ver=ver'∧l≠ []then some (none,.one (.sc (.sl i ver)),[(i,.own ver' (.int .u8) l)])else none
     |_=>none)
    |_=>.ret none
   else .ret none
  |_=>.ret none
 |_,_=>.ret none
def Mr(P:Program)(op:BinOp)(t:TypeId)(x y:LV):Option Bool:=
 match op,x,y,eE P t with
 | .eql,.one (.sc (.rd pm true ty l)),.one (.sc (.fO (.slice none _ _))),some _=>some false
 | .neq,.one (.sc (.rd pm true ty l)),.one (.sc (.fO (.slice none _ _))),some _=>some true
 |_,_,_,_=>none
def gd(P:Program)(id:Nat)(e:Operand→LV):Op→Ask Stp
 | .move x| .assign x=>.ret (some (none,e x,[]))
 | .pick c a b=>.ret (match e c with
  | .one (.sc (.bool (.lit t)))=>some (none,if t then e a else e b,[])
  | .one (.sc (.bool (.sym t)))=>match e a,e b with
   | .one x,.one y=>some (none,Hf t aae (.one x) (.one y),[])
   | .one x,_=>some (some (t=true),.one x,[])
   |_,.one y=>some (some (t=false),.one y,[])
   |_,_=>none
  |_=>none)
 | .alloc t=>.ret ((mC P t).map fun l=>(none,.one (.sc (.ptr id 0)),[(id,.bH l t)]))
 | .box t x=>.ret ((cellsOf (e x)).map fun l=>(none,.one (.sc (.ptr id 0)),[(id,.bH l t)]))
 | .build t parts=>.ret (match mC P t,Q9 P t with
  |some z,some place=>(vg place z (parts.toList.map fun p=>(p.1,e p.2))).map fun l=>(none,.one (.agg l),[])
  |_,_=>none)
 | .buildSlice t len parts=>.ret (match eE P t with
  |some el=>match dz P el,mC P el with
   |some s,some z=>if len*s≤16777216∧wL z=s∧0<s then match vg (fun i=>some (i*s,s)) ((List.replicate len z).flatten) (parts.toList.map fun p=>(p.1,e p.2))with
     |some l=>match A6 P 8 el with
      |some ty=>if ty.w=s then match sG (ty.read true) ty.w len l with
        |some xs=>some (none,.one (.sc (.sl id 0)),[(id,.own 0 ty xs)])
        |none=>some (none,.one (.sc (.slice id 0 len len)),[(id,.bH l el)])
       else none
      |none=>some (none,.one (.sc (.slice id 0 len len)),[(id,.bH l el)])
     |none=>none
    else none
   |_,_=>none
  |none=>none)
 | .load t a=>match jr (e a)with
  |some a=>Mp P t a
  |none=>.ret none
 | .store t a x=>match jr (e a),cellsOf (e x)with
  |some a,some l=>C5 P t a l
  |_,_=>.ret none
 | .nilCheck x=>.ret (match e x with
  | .one (.sc (.ptr b off))=>some (none,.one (.sc (.ptr b off)),[])
  | .one (.sc (.ep s w z f))=>some (none,.one (.sc (.ep s w z f)),[])
  |_=>none)
 | .binOp op t x y _=>.ret (match Mr P op t (e x) (e y)with
  |some b=>some (none,.one (.sc (.bool (.lit b))),[])
  |none=>(Z9 P op t (e x) (e y)).map fun r=>(r.1,.one (.sc r.2),[]))
 | .unOp op _ x=>.ret (match jr (e x)with
  |some a=>(aA1 op a).map fun r=>(none,.one (.sc r),[])
  |none=>none)
 | .convert src dst x=>match jr (e x)with
  |some a=>Mq P id src dst a
  |none=>.ret none
 | .sliceToArrayPointer t x=>match jr (e x),oH P t with
  |some (.slice b off len _),some (n,_)=>.ret (if n≤len then some (none,.one (.sc (.ptr b off)),[])else none)
  |some s,some (n,el)=>(ju s).map fun c=>match c with
   |some (_,⟨ty,l⟩)=>if 0<n∧dz P el=some ty.w then some (some (n≤l.length),.one (.sc (.ep s ty.w 0 0)),[])else none
   |none=>none
  |_,_=>.ret none
 | .slice t x lo hi mx=>match jr (e x),oH P t,eE P t with
  |some (.ptr b off),some (n,el),_=>.get b fun y=>.ret (match y,dz P el with
   |some (.bH cells _),some s=>match rowAt cells off with
    |some (.arr ty n' _)=>(match mx,jJ 0 (lo.map e),jJ n (hi.map e)with
     |none,some x,some y=>if n'=n∧s=ty.w then some (some (0≤x∧x≤y∧y≤n),.one (.sc (.vb b off ty n x (y-x))),[])else none
     |_,_,_=>none)
    |_=>(mE n n (lo.map e) (hi.map e) (mx.map e)).map fun r=>(none,.one (.sc (.slice b (if r.2.2=r.1 then off else off+r.1*s) (r.2.1-r.1) (r.2.2-r.1))),[])
   |_,_=>none)
  |some (.slice b off len cap),none,some el=>.ret (match mE len cap (lo.map e) (hi.map e) (mx.map e),dz P el with
   |some (l,h,m),some s=>some (none,.one (.sc (.slice b (if m=l then off else off+l*s) (h-l) (m-l))),[])
   |_,_=>none)
  |some s,none,some el=>(ju s).map fun c=>match c,dz P el with
   |some (_,⟨ty,l⟩),some sz=>(match mx,jJ 0 (lo.map e),jJ l.length (hi.map e)with
    |none,some x,some y=>if sz=ty.w then(avD sz x y s).map fun r=>(some (0≤x∧x≤y∧y≤l.length),.one (.sc r),[])else none
    |_,_,_=>none)
   |_,_=>none
  |_,_,_=>.ret none
 | .fieldAddr s x f=>.ret (match jr (e x),xy P s with
  |some a,some fs=>match fs[f]? with
   |some fd=>match dz P fd.type with
    |some n=>if n=0 then none else match a with
     | .ptr b off=>some (none,.one (.sc (.ptr b (off+fd.offset))),[])
     | .ep s w z f0=>some (none,.one (.sc (.ep s w z (f0+fd.offset))),[])
     |_=>none
    |none=>none
   |none=>none
  |_,_=>none)
 | .field s x f=>.ret (match e x,xy P s with
  | .one (.agg l),some fs=>match fs[f]? with
   |some fd=>(fy P fd.type l fd.offset).map fun x=>(none,.one x,[])
   |none=>none
  |_,_=>none)
 | .indexAddr t x i=>match jr (e x)with
  |some a=>vh P t a (e i)
  |none=>.ret none
 | .index t x i=>.ret ((aaf P t (e x) (e i)).map fun r=>(r.1,.one r.2,[]))
 | .extract x i=>.ret (match e x with
  | .cG l=>(l[i]?).map fun x=>(none,.one x,[])
  |_=>none)
 | .makeSlice t n c=>.ret (match eE P t,kV (e n),kV (e c)with
  |some el,some (_,n),some (_,c)=>match A6 P 8 el,dz P el,mC P el,oG P el with
   |some ty,some s,some z,some by_=>if s=ty.w∧0<s∧wL z=s then match ty.read true z with
     |some z=>some (some (c=n∧0≤n∧by_*n≤2 ^ 46∧n≤2 ^ 46),.one (.sc (.sl id 0)),[(id,.own 0 ty (List.replicate n.toNat z))])
     |none=>none
    else none
   |_,_,_,_=>none
  |_,_,_=>none)
 |_=>.ret none
def gE(P:Program)(o:Oper)(st:St)(q:Option Prop)(v:LV)(d:List (Nat×Item)):Prop:=
 fo q→∀ (W:World) (an:Hp) (β₀ β:Env) (a:Act) (w:World),Rel W an β₀ β st a w→
  ∃ (β':Env) (w':World) (r:Next) (val:Value),(execOp a.eval o).run P w= .ok r w'∧(r= .value val∨(r= .skip∧val=undef))∧v.den β' (kd (aV d st.hp)) val∧
   bB W an β₀ β' (aV d st.hp) w'∧cb β β' (kd st.hp) (kd (aV d st.hp))
theorem gE.pure{P:Program}{o:Oper}{st:St}{q:Option Prop}{v:LV}
  (h:fo q→∀ (W:World) (an:Hp) (β₀ β:Env) (a:Act) (w:World),Rel W an β₀ β st a w→
   ∃val:Value,(execOp a.eval o).run P w= .ok (.value val) w∧v.den β (kd st.hp) val):gE P o st q v []:=
 fun hq W an β₀ β a w hr=>let ⟨val,h1,h2⟩:=h hq W an β₀ β a w hr;⟨β,w,_,val,h1,.inl rfl,h2,hr.heap,cb.refl _ _⟩
def ev(st:St):Operand→LV
 | .tmp t=>st.fr.getD t .bC
 | .const v=>LV.nY v
 | .func f=>.one (.sc (.fO (.func (.func f) #[] #[])))
 | .global _=>.bC
theorem bh{W:World}{an:Hp}{β₀ β:Env}{st:St}{a:Act}{w:World}(h:Rel W an β₀ β st a w)(x:Operand):(ev st x).den β (kd st.hp) (a.eval x):=by
 cases x with
 |tmp t=>
  simp only[ev,Act.eval]
  cases hs:st.fr[t]? with
  |none=>simp[List.getD,hs,LV.den]
  |some y=>
   obtain⟨v,hv,hr⟩:=h.fr.get hs
   have e:a.tmps.getD t undef=v:=by
    have:a.tmps[t]? =some v:=(by simpa using hv);simp[Array.getD_eq_getD_getElem?,this]
   rw[e];simpa [List.getD,hs]using hr
 |const v=>exact LV.pN v
 |func f=>exact⟨rfl,rfl⟩
 |global g=>trivial
theorem BC:∀ {hp:Hp} {i:Nat} {x:Item},i<hp.length→setAt hp i x=hp.set i (some x)
 | [],_,_,h=>by simp at h
 |_::_,0,_,_=>rfl
 |_::l,i+1,x,h=>by simp only[setAt,List.set_cons_succ];rw[BC (by simpa using h)]
theorem yR{hp:Hp}{i:Nat}{x y:Item}(h:hp[i]? =some (some y)):setAt hp i x=hp.set i (some x):=BC (List.getElem?_eq_some_iff.1 h).1
noncomputable section
variable {W:World} {an:Hp} {β₀ β:Env} {hp:Hp} {w:World}
theorem bB.aag(h:bB W an β₀ β hp w){id:Nat}(og:kd hp id=none){cells:List SV}{c:List Value}(t:TypeId)(hc:bz β (kd hp) cells c):
  ∃β',bB W an β₀ β' (setAt hp id (.bH cells t)) (w.alloc (.cells c.toArray t))∧cb β β' (kd hp) (kd (setAt hp id (.bH cells t)))∧β'.b id=w.heap.size:=by
 have hb:(⟨fun j=>if j=id then w.heap.size else β.b j,β.h,β.rd⟩:Env).b id=w.heap.size:=if_pos rfl
 obtain⟨h1,h2⟩:=h.add og (x:=.bH cells t) (β':=⟨fun j=>if j=id then w.heap.size else β.b j,β.h,β.rd⟩) (w':=w.alloc (.cells c.toArray t)) (fun j hj=>if_neg hj) (fun j _=>rfl) rfl (by simp) rfl rfl
  (fun b hb=>heap_alloc_old w _ b hb) (fun b ho=>by
   have ho':b=if id=id then w.heap.size else β.b id:=ho
   rw[if_pos rfl]at ho';omega)
  fun qO=>⟨c,(0,0),by rw[hb];exact heap_alloc_new w _,.inl rfl,hc.mono qO⟩
 exact⟨_,h1,h2,hb⟩
theorem bB.oL(h:bB W an β₀ β hp w){id:Nat}(og:kd hp id=none){v:Value}{ver:Nat}{t:Ty}{l:List t.D}{w':World}(hs:w.heap.size≤w'.heap.size)(hos:w'.os=w.os)(CX:w'.output=w.output)
  (hold:∀b,b<w.heap.size→w'.heap[b]? =w.heap[b]?) (hv:da β w' v t l) (mF:∀a n c,v= .slice (some a) n c→0<c→w.heap.size≤a.block):
  ∃β',bB W an β₀ β' (setAt hp id (.own ver t l)) w'∧cb β β' (kd hp) (kd (setAt hp id (.own ver t l)))∧β'.h id=v:=by
 have hb:(⟨β.b,fun j=>if j=id then v else β.h j,β.rd⟩:Env).h id=v:=if_pos rfl
 obtain⟨h1,h2⟩:=h.add og (x:=.own ver t l) (β':=⟨β.b,fun j=>if j=id then v else β.h j,β.rd⟩) (w':=w') (fun j hj=>rfl) (fun j hj=>if_neg hj) rfl hs hos CX hold
  (fun b ho=>by
   obtain⟨a,n,c,e,h0,rfl⟩:=ho;rw[hb]at e;exact mF a n c e h0)
  fun qO=>by show da _ w' _ t l;rw[hb];exact hv.of qO.rd fun _ _ _ _ _=>rfl
 exact⟨_,h1,h2,hb⟩
theorem bB.vk(h:bB W an β₀ β hp w){i:Nat}{ver ver':Nat}{t:Ty}{l l':List t.D}(hi:hp[i]? =some (some (.own ver t l))){v:Value}{w':World}(aGn:ver<ver'∨(ver=ver'∧v=β.h i))
  (hs:w.heap.size≤w'.heap.size) (hos:w'.os=w.os) (CX:w'.output=w.output)
  (hold:∀b,b<w.heap.size→¬cw β (.own ver t l) i b→w'.heap[b]? =w.heap[b]?) (hv:da β w' v t l')
  (mF:∀a n c,v= .slice (some a) n c→0<c→cw β (.own ver t l) i a.block∨w.heap.size≤a.block):
  ∃β',bB W an β₀ β' (setAt hp i (.own ver' t l')) w'∧cb β β' (kd hp) (kd (setAt hp i (.own ver' t l')))∧β'.h i=v:=by
 have hb:(⟨β.b,fun j=>if j=i then v else β.h j,β.rd⟩:Env).h i=v:=if_pos rfl;rw[yR hi]
 obtain⟨h1,h2⟩:=h.nf hi (x':=.own ver' t l') (β':=⟨β.b,fun j=>if j=i then v else β.h j,β.rd⟩) (w':=w') rfl (fun j hj=>if_neg hj) rfl
  (.inr ⟨ver,ver',rfl,rfl,by omega,fun e=>by rw[hb];rcases aGn with k|⟨_,k⟩
                                             · omega
                                             · exact k⟩) hs hos CX hold
  (fun b ho=>by
   obtain⟨a,n,c,e,h0,rfl⟩:=ho;rw[hb]at e;exact mF a n c e h0)
  fun qO=>by show da _ w' _ t l';rw[hb];exact hv.of qO.rd fun _ _ _ _ _=>rfl
 exact⟨_,h1,h2,hb⟩
theorem bB.C6(h:bB W an β₀ β hp w){i:Nat}{cells cells':List SV}{elem:TypeId}(hi:hp[i]? =some (some (.bH cells elem))){w':World}
  (hs:w.heap.size≤w'.heap.size) (hos:w'.os=w.os) (CX:w'.output=w.output) (hold:∀b,b≠β.b i→w'.heap[b]? =w.heap[b]?)
  {c:List Value} {fz:Nat×Nat} (hc:w'.heap[β.b i]? =some (.cells c.toArray elem fz)) (hfz:yG fz c.length) (hd:bz β (kd hp) cells' c):
  bB W an β₀ β (setAt hp i (.bH cells' elem)) w'∧cb β β (kd hp) (kd (setAt hp i (.bH cells' elem))):=by
 rw[yR hi];exact h.nf hi (x':=.bH cells' elem) rfl (fun _ _=>rfl) rfl (.inl ⟨rfl,rfl⟩) hs hos CX (fun b _ ho=>hold b ho) (fun b ho=>.inl ho) fun qO=>⟨c,fz,hc,hfz,hd.mono qO⟩
theorem bB.je(h:bB W an β₀ β hp w){i:Nat}{cells:List SV}{elem:TypeId}(hi:hp[i]? =some (some (.bH cells elem))):
  ∃ (c:List Value) (fz:Nat×Nat),w.heap[β.b i]? =some (.cells c.toArray elem fz)∧yG fz c.length∧bz β (kd hp) cells c∧dp w ⟨β.b i,0,none⟩ c:=by
 obtain⟨c,fz,h1,h2,h3⟩:=h.items i _ hi;refine⟨c,fz,h1,h2,h3,?_⟩;have:=eQ (w:=w) (b:=β.b i) (pre:= []) (mid:=c) (post:= []) (elem:=elem) (fz:=fz) (by simpa using h1);exact this
theorem bB.aah{P:Program}(h:bB W an β₀ β hp w){i off:Nat}{cells cells' new:List SV}{elem:TypeId}(hi:hp[i]? =some (some (.bH cells elem)))(dI:Q6 β (kd hp) cells cells' off new){ws:List Value}(hn:bz β (kd hp) new ws):
  ∃w',(storeCells ⟨β.b i,off,none⟩ ws).run P w= .ok () w'∧bB W an β₀ β (setAt hp i (.bH cells' elem)) w'∧cb β β (kd hp) (kd (setAt hp i (.bH cells' elem))):=by
 obtain⟨c,fz,h1,h2,h3,_⟩:=h.je hi;obtain⟨pre,old,post,rfl,e1,e2,h4⟩:=dI _ _ h3 hn
 obtain⟨w',k1,k2,k3,k4,k5,k6⟩:=dO (P:=P) (a:=⟨β.b i,off,none⟩) rfl (elem:=elem) (fz:=fz) ws 0 pre old post w h1 (by simpa using e1) e2 hn.yF
  (fun o k1 k2=>h2.not (by simp;omega))
 obtain⟨m1,m2⟩:=h.C6 hi (cells':=cells') (w':=w') (by omega) k5 k6 k3 k2 (by
  have:(pre++(ws++post)).length=(pre++(old++post)).length:=by simp[e2]
  rw[this];exact h2) h4
 exact⟨w',k1,m1,m2⟩
theorem C7{P:Program}{t:TypeId}{a:Addr}{v:Value}{ws:List Value}{n:Nat}{w':World}(hs:dz P t=some n)(hv:v.cells=ws.toArray)(hl:ws.length=n)(hr:(storeCells a ws).run P w= .ok () w'):
  (storeVar t a v).run P w= .ok () w':=by
 unfold storeVar;rw[hv];simp only[Sem.run_bind,run_sizeOf hs,Result.andThen_ok];simpa [hl]using hr
theorem kN(h:bB W an β₀ β hp w){s:SV}{pm:Bool}{t:Ty}{l:List t.D}{v:Value}(hc:(ju s).val hp=some (pm,⟨t,l⟩))(hd:s.den β (kd hp) v):ca β pm w v t l:=by
 unfold ju at hc;rw[Ask.eJ]at hc
 split at hc
 ·rename_i t' _;rw[Ask.dc]at hc;obtain⟨⟨ly,l'⟩,h1,h2⟩:=map_some hc;simp at h2;obtain⟨rfl,rfl,h2⟩:=h2;simp at h2;subst h2;exact mD h h1 hd
 ·cases hc
theorem Hj(h:bB W an β₀ β hp w){s:SV}{pm:Bool}{t:Ty}{l:List t.D}{wd:Nat}{z:Int}{f:Nat}{v:Value}(hc:(ju s).val hp=some (pm,⟨t,l⟩))(hd:(SV.ep s wd z f).den β (kd hp) v):
  ∃a eH,v= .pointer (some (a.add (z.toNat*wd+f)))∧a.spot=none∧bp (t.has β pm) l eH∧dp w a eH∧0≤z∧z.toNat<l.length:=by
 obtain⟨a,n,c,h1,h2,h3,rfl⟩:=hd;obtain⟨a',n',c',e,hn,_,_,hr⟩:=kN h hc h1;simp at e;obtain⟨rfl,rfl,rfl⟩:=e;obtain⟨a0,eH,e,k1,k2,k3⟩:=hr (by omega);simp at e;subst e;exact⟨a,eH,rfl,k1,k2,k3,h2,by omega⟩
end
noncomputable section
variable {P:Program} {st:St} {o:Oper} {q:Option Prop} {v:LV} {d:List (Nat×Item)}
theorem A7{P:Program}{w:World}{β:Env}{L:Nat→Option Kd}{isS:Bool}{len cap:Nat}{lo hi mx:Option LV}{lov hiv mxv:Option Value}{r:Nat×Nat×Nat}
  (h:mE len cap lo hi mx=some r)
  (hlo:∀x,lo=some x→∃y,lov=some y∧x.den β L y) (aA2:lo=none→lov=none)
  (ZT:∀x,hi=some x→∃y,hiv=some y∧x.den β L y) (aGo:hi=none→hiv=none)
  (aGp:mx=none→mxv=none):
  (Instr.sliceBounds isS len cap lov hiv mxv).run P w= .ok r w:=by
 unfold mE at h
 cases mx with
 |some x=>simp at h
 |none=>
  simp only at h;obtain rfl:=aGp rfl
  have hbound:∀ (x:LV) (y:Value) (k:IntKind) (i c:Nat) (code:BoundsCode),kU x=some (k,i)→x.den β L y→i≤c→(Instr.sliceBound y c code).run P w= .ok i w:=by
   intro x y k i c code hl hd hle;have:=nk hl hd;subst this;have h1:(0:Int)≤i∧(i:Int)≤c:=(by omega);simp[Instr.sliceBound,asIntOf,h1]
  unfold Instr.sliceBounds
  cases hi with
  |none=>
   obtain rfl:=aGo rfl;simp only at h
   cases lo with
   |none=>
    obtain rfl:=aA2 rfl;simp at h;subst h;simp
   |some x=>
    obtain⟨y,rfl,hd⟩:=hlo x rfl;simp only at h
    cases hl:kU x with
    |none=>simp[hl]at h
    |some p=>
     obtain⟨k,i⟩:=p;simp only[hl]at h
     split at h
     ·rename_i hle;simp at h;subst h;simp[hbound x y k i len _ hl hd hle]
     ·simp at h
  |some z=>
   obtain⟨u,rfl,hdz⟩:=ZT z rfl;simp only at h
   cases hlz:kU z with
   |none=>simp[hlz]at h
   |some p=>
    obtain⟨kz,iz⟩:=p;simp only[hlz]at h
    split at h
    ·simp at h
    ·rename_i hh hle
     split at hle
     ·rename_i aA3;simp at hle;subst hle
      cases lo with
      |none=>
       obtain rfl:=aA2 rfl;simp at h;subst h;simp[hbound z u kz iz cap _ hlz hdz aA3]
      |some x=>
       obtain⟨y,rfl,hd⟩:=hlo x rfl;simp only at h
       cases hl:kU x with
       |none=>simp[hl]at h
       |some p=>
        obtain⟨k,i⟩:=p;simp only[hl]at h
        split at h
        ·rename_i hle;simp at h;subst h;simp[hbound z u kz iz cap _ hlz hdz aA3,hbound x y k i iz _ hl hd hle]
        ·simp at h
     ·simp at hle
theorem sM{P:Program}{W:World}{an:Hp}{β₀ β:Env}{st:St}{a:Act}{w:World}(hr:Rel W an β₀ β st a w){isS:Bool}{lo hi:Option Operand}{n c:Nat}{x y:Int}
  (hlo:jJ 0 (lo.map (ev st))=some x) (ZT:jJ n (hi.map (ev st))=some y) (h0:0≤x) (h1:x≤y) (h2:y≤n) (hc:n≤c):
  (Instr.sliceBounds isS n c (lo.map a.eval) (hi.map a.eval) none).run P w= .ok (x.toNat,y.toNat,c) w:=by
 have aA4:∀ (z:Operand) (m:Int) (c:Nat) (code:BoundsCode),(kV (ev st z)).map (·.2)=some m→0≤m→m≤c→(Instr.sliceBound (a.eval z) c code).run P w= .ok m.toNat w:=by
  intro z m c code hz h0 h1;obtain⟨⟨k',n'⟩,hz1,rfl⟩:=map_some hz;have:=fx hz1 (bh hr z);rw[this];simp[Instr.sliceBound,asIntOf,h0,h1]
 have hy:∀z,hi=some z→∀code,(Instr.sliceBound (a.eval z) c code).run P w= .ok y.toNat w:=fun z hz code=>by
  subst hz;exact aA4 z y c _ (by simpa [jJ]using ZT) (by omega) (by omega)
 have hx:∀z,lo=some z→∀code,(Instr.sliceBound (a.eval z) y.toNat code).run P w= .ok x.toNat w:=fun z hz code=>by
  subst hz;exact aA4 z x _ _ (by simpa [jJ]using hlo) h0 (by omega)
 have yS:hi=none→y.toNat=n:=fun h=>by
  subst h;have:(n:Int)=y:=by simpa [jJ]using ZT
  omega
 have vl:lo=none→x.toNat=0:=fun h=>by
  subst h;have:(0:Int)=x:=by simpa [jJ]using hlo
  omega
 unfold Instr.sliceBounds
 cases hi with
 |none=>
  have e1:=yS rfl
  cases lo with
  |none=>have e2:=vl rfl;simp[e1,e2]
  |some z=>have e2:=hx z rfl;rw[e1]at e2;simp[e1,e2]
 |some z'=>
  have e1:=hy z' rfl
  cases lo with
  |none=>have e2:=vl rfl;simp[e1,e2]
  |some z=>have e2:=hx z rfl;simp[e1,e2]
theorem Hk{id:Nat}{cells:List SV}{t:TypeId}{mk:Act→Sem Value}(hop:∀a:Act,execOp a.eval o=(do pure (.value (← mk a))))
  (h:∀W an β₀ β a w,Rel W an β₀ β st a w→∃c:List Value,bz β (kd st.hp) cells c∧(mk a).run P w= .ok (.pointer (some ⟨w.heap.size,0,none⟩)) (w.alloc (.cells c.toArray t))) (og:kd st.hp id=none):
  gE P o st none (.one (.sc (.ptr id 0))) [(id,.bH cells t)]:=by
 intro _ W an β₀ β a w hr;obtain⟨c,hd,et⟩:=h W an β₀ β a w hr;obtain⟨β',h1,h2,h3⟩:=hr.heap.aag og t hd;refine⟨β',_,_,.pointer (some ⟨w.heap.size,0,none⟩),?_,.inl rfl,?_,h1,h2⟩
 ·rw[hop,Sem.run_bind,et];rfl
 ·refine⟨?_,by rw[h3]⟩;show kd (setAt st.hp id (.bH cells t)) id=some .bH;rw[dt,if_pos rfl];rfl
end
noncomputable section
variable {P:Program} {st:St} {o:Oper} {q:Option Prop} {v:LV} {d:List (Nat×Item)}
theorem aai{β:Env}{t:Ty}{pm:Bool}{l:List t.D}{vs:List Value}(h:bp (t.has β pm) l vs){j n:Nat}(hj:j+n≤l.length):
  ∃pre mid post,vs=pre++(mid++post)∧pre.length=j*t.w∧mid.length=n*t.w∧bp (t.has β pm) ((l.drop j).take n) mid:=by
 obtain⟨v1,v2,rfl,k1,k2⟩:=ie h j;obtain⟨v3,v4,rfl,k3,k4⟩:=ie k2 n;refine⟨v1,v3,v4,rfl,?_,?_,k3⟩
 ·rw[bG k1,List.length_take,Nat.min_eq_left (by omega)]
 ·rw[bG k3,List.length_take,List.length_drop,Nat.min_eq_left (by omega)]
theorem al4{t:TypeId}{x:Operand}{s:SV}(ho:o.op= .load t x)(hx:jr (ev st x)=some s)(h:(Mp P t s).val st.hp=some (q,v,d)):gE P o st q v d:=by
 have key:∀ {v:LV},(fo q→∀ (W:World) (an:Hp) (β₀ β:Env) (a:Act) (w:World),Rel W an β₀ β st a w→s.den β (kd st.hp) (a.eval x)→
   ∃ (ad:Addr) (val:Value),a.eval x= .pointer (some ad)∧(loadVar t ad).run P w= .ok val w∧v.den β (kd st.hp) val)→gE P o st q v []:=by
  intro v hk;refine gE.pure fun hq W an β₀ β a w hr=>?_;obtain⟨ad,val,e,h1,h2⟩:=hk hq W an β₀ β a w hr (bD hx (bh hr x));exact⟨val,by simp[execOp,ho,Instr.loadAt,e,Instr.sureAddr,h1],h2⟩
 unfold Mp at h
 split at h
 ·rename_i b off;simp only[Ask.val]at h
  split at h
  ·rename_i cells elem hb;obtain⟨y,hy,he⟩:=map_some h;simp at he;obtain⟨rfl,rfl,rfl⟩:=he;refine key fun _ W an β₀ β a w hr hd=>?_;obtain⟨_,e⟩:=hd;obtain⟨c,fz,_,_,h3,h4⟩:=hr.heap.je (aB hb);obtain⟨val,h5,h6⟩:=kv (P:=P) rfl h4 h3 hy;rw[cj,Nat.zero_add]at h5;exact⟨_,val,e,h5,h6⟩
  ·cases h
 ·rename_i b base lZ n z;simp only[Ask.val]at h
  split at h
  ·rename_i cells elem hb
   split at h
   ·rename_i items ZR;obtain⟨y,hy,he⟩:=map_some h;simp at he;obtain⟨rfl,rfl,rfl⟩:=he;refine key fun _ W an β₀ β a w hr hd=>?_;obtain⟨_,hz,e⟩:=hd;obtain⟨c,fz,_,_,h3,h4⟩:=hr.heap.je (aB hb);obtain⟨it,hi1,hi2⟩:=wO ZR hz;obtain⟨val,h5,h6⟩:=kv (P:=P) rfl h4 h3 hi2;rw[cj,Nat.zero_add]at h5;exact⟨_,val,e,h5,Re hi1 h6 hy⟩
   ·cases h
  ·cases h
 ·rename_i s' wd z f;rw[Ask.dc]at h
  split at h
  ·rename_i pm ty l hc
   split at h
   ·rename_i hw;subst hw
    have Rf:∀ {y:VV},fy P t (ty.Bw pm (l.getD z.toNat ty.z)) f=some y→gE P o st q (.one y) []:=by
     intro y hy;refine key fun _ W an β₀ β a w hr hd=>?_;obtain⟨ad,eH,e,k1,k2,k3,k4,k5⟩:=Hj hr.heap hc hd;obtain⟨pre,u,post,rfl,e1,h5,_⟩:=jm k2 k5;have h6:=dp.mid k1 k3;obtain⟨val,h7,h8⟩:=kv (P:=P) (mA k1 _) h6 (ty.l6 (L:=kd st.hp) h5) hy;rw[add_add k1,e1]at h7;exact⟨_,val,e,h7,h8⟩
    split at h
    ·rename_i n el oh
     split at h
     ·rename_i mG;obtain⟨_,_,rfl,Ms,qO,ZU⟩:=mG;simp at h;obtain⟨rfl,rfl,rfl⟩:=h;refine key fun hq W an β₀ β a w hr hd=>?_;have U9:z.toNat+n≤l.length:=hq;obtain⟨ad,eH,e,k1,k2,k3,k4,k5⟩:=Hj hr.heap hc hd;obtain⟨pre,mid,post,rfl,e1,e2,h5'⟩:=aai k2 U9
      have h5:bp (ty.has β true) ((l.drop z.toNat).take n) mid:=by
       cases pm with
       |true=>exact h5'
       |false=>exact h5'.imp fun _ _=>ty.ru (by simpa using Ms)
      have h6:=dp.mid k1 k3;refine⟨_,.agg mid.toArray,e,?_,mid,rfl,bp.one (R:=SV.jP β (kd st.hp)) ⟨by simp;omega,h5⟩⟩;unfold loadVar;simp only[Sem.run_bind,ig qO,Result.andThen_ok,if_true,run_sizeOf ZU,Nat.add_zero];have h7:=lF (P:=P) h6;rw[e1,e2]at h7;rw[h7];rfl
     ·obtain⟨y,hy,he⟩:=map_some h;simp at he;obtain⟨rfl,rfl,rfl⟩:=he;exact Rf hy
    ·obtain⟨y,hy,he⟩:=map_some h;simp at he;obtain⟨rfl,rfl,rfl⟩:=he;exact Rf hy
   ·cases h
  ·cases h
 ·simp[Ask.val]at h
theorem yT{β:Env}{L:Nat→Option Kd}{t:Ty}{x y:t.D}{f:Nat}{l:List SV}(h:pV t x f l=some y){u ws:List Value}(hx:t.has β true x u)(hn:bz β L l ws):
  ∃pre old post,u=pre++(old++post)∧pre.length=f∧old.length=ws.length∧t.has β true y (pre++(ws++post)):=by
 unfold pV at h
 split at h
 ·rename_i hc;obtain⟨rfl,hw⟩:=hc;refine⟨[],u,[],by simp,rfl,by rw[t.fv hx,hn.length,hw],?_⟩;simpa using t.iv h hn
 ·split at h
  ·rename_i c Z7;obtain⟨pre,old,post,rfl,e1,e2,h3⟩:=sH _ _ Z7 _ _ (t.l6 hx) hn;exact⟨pre,old,post,rfl,e1,e2,t.iv h h3⟩
  ·cases h
theorem lG{β:Env}{L:Nat→Option Kd}:∀ (l:List SV) (off:Nat) {t:Ty} {n:Nat} {x y:List t.D} {l':List SV} {vs:List Value},rowAt l off=some (.arr t n x)→jS l off (.arr t n y)=some l'→bz β L l vs→y.length=n→
  ∃pre mid post,vs=pre++(mid++post)∧pre.length=off∧x.length=n∧bp (t.has β true) x mid∧∀sN,bp (t.has β true) y sN→bz β L l' (pre++(sN++post))
 | [],_,_,_,_,_,_,_,h,_,_,_=>by simp[rowAt]at h
 |s::r,off,t,n,x,y,l',vs,h,rz,hd,hy=>by
  have plain:(∀t n l,s≠ .arr t n l)→∃pre mid post,vs=pre++(mid++post)∧pre.length=off∧x.length=n∧bp (t.has β true) x mid∧∀sN,bp (t.has β true) y sN→bz β L l' (pre++(sN++post)):=by
   intro hs
   cases hd with
   |cons h1 h2=>
    obtain⟨v,rfl,hv⟩:=SV.jj h1 hs
    cases off with
    |zero=>
     exfalso
     cases s with
     |arr t n l=>exact absurd rfl (hs t n l)
     |_=>simp[rowAt]at h
    |succ off=>
     have h':rowAt r off=some (.arr t n x):=by
      cases s with
      |arr t n l=>exact absurd rfl (hs t n l)
      |_=>exact h
     have G4:(jS r off (.arr t n y)).map (s:: ·)=some l':=by
      cases s with
      |arr t n l=>exact absurd rfl (hs t n l)
      |_=>exact rz
     obtain⟨r',ov,rfl⟩:=map_some G4;obtain⟨pre,mid,post,rfl,e,h3,h4,h5⟩:=lG r off h' ov h2 hy;exact⟨v::pre,mid,post,rfl,by simp[e],h3,h4,fun sN hm=>bz.kT hv (h5 sN hm)⟩
  cases s with
  |arr t' n' l0=>
   have h':(if off=0 then some (.arr t' n' l0)else if n'*t'.w≤off then rowAt r (off-n'*t'.w)else none)=some (SV.arr t n x):=(by cases off<;>exact h);have G4:(if off=0 then some (SV.arr t n y::r)else if n'*t'.w≤off then(jS r (off-n'*t'.w) (.arr t n y)).map (.arr t' n' l0:: ·)else none)=some l':=by cases off<;>exact rz
   cases hd with
   |cons h1 h2=>
    rename_i us ws
    split at h'
    ·rename_i e0;rw[if_pos e0]at G4;simp at h';obtain⟨rfl,rfl,e⟩:=h';simp at e;subst e;simp at G4;subst G4;exact⟨[],us,ws,rfl,by simp[e0],h1.1,h1.2,fun sN hm=>by simpa using bp.cons (R:=SV.jP β L) (x:=.arr t' n' y) (vs:=sN) ⟨hy,hm⟩ h2⟩
    ·rename_i e0;rw[if_neg e0]at G4
     split at h'
     ·rename_i hle;rw[if_pos hle]at G4;obtain⟨r',ov,rfl⟩:=map_some G4;obtain⟨pre,mid,post,rfl,e,h3,h4,h5⟩:=lG r _ h' ov h2 hy;have A3:=SV.ic h1;simp only[SV.w]at A3;refine⟨us++pre,mid,post,by simp,by simp[A3,e];omega,h3,h4,fun sN hm=>?_⟩;rw[List.append_assoc];exact .cons h1 (h5 sN hm)
     ·cases h'
  |_=>exact plain (by intros;simp)
theorem bB.Hl{P:Program}{W:World}{an:Hp}{β₀ β:Env}{hp:Hp}{w:World}(h:bB W an β₀ β hp w){i ver:Nat}{t:Ty}{m:List t.D}(hi:hp[i]? =some (some (.own ver t m)))
  {a0:Addr} {n c:Nat} (he:β.h i= .slice (some a0) n c) {j f:Nat} (hj:j<m.length) {l:List SV} {y:t.D} (hy:pV t (m.getD j t.z) f l=some y) {ws:List Value} (hn:bz β (kd hp) l ws):
  ∃w' β',(storeCells (a0.add (j*t.w+f)) ws).run P w= .ok () w'∧bB W an β₀ β' (setAt hp i (.own ver t (m.set j y))) w'∧cb β β' (kd hp) (kd (setAt hp i (.own ver t (m.set j y)))):=by
 have ZR:da β w (β.h i) t m:=h.items _ _ hi;obtain⟨a,n',c',e,hn1,hn2,_,h4⟩:=ZR;rw[he]at e;simp at e;obtain⟨rfl,rfl,rfl⟩:=e;obtain⟨a1,pre,eH,rest,elem,fz,e,k1,k2,k3,k4,k5,k6⟩:=h4 (by omega);simp at e;subst e;obtain⟨pa,u,pb,rfl,e1,h6,h7,h8⟩:=jm k4 hj;obtain⟨p1,old,p2,rfl,e2,e3,h9⟩:=yT hy h6 hn;have arN:old.length=ws.length:=e3
 obtain⟨w',r1,r2,r3,r4,r5,r6⟩:=dO (P:=P) (a:=a0.add (j*t.w+f)) (mA k1 _) (elem:=elem) (fz:=fz) ws 0 (pre++pa++p1) old (p2++pb++rest) w
  (by rw[dX,k2];simp) (by
   obtain⟨b0,o0,s0⟩:=a0;simp at k1 k3;subst k1;rw[cj];simp[k3,e1,e2]<;>omega) arN hn.yF (fun off q1 q2=>k6.not (by simp at q2 ⊢;omega))
 rw[dX]at r2 r3;have rz:bp (t.has β true) (m.set j y) (pa++((p1++(ws++p2))++pb)):=bp.Mh hj h9 h7 h8
 obtain⟨β',s1,s2,s3⟩:=h.vk hi (ver':=ver) (l':=m.set j y) (v:=β.h i) (w':=w') (.inr ⟨rfl,rfl⟩) (by omega) r5 r6 (fun b hb sO=>by
   refine r3 b fun e=>sO ?_;subst e;exact⟨a0,n,c,he,by omega,rfl⟩)
  (by
   rw[he];refine⟨some a0,n,c,rfl,by simpa using hn1,hn2,by simp,fun _=>⟨a0,pre,pa++((p1++(ws++p2))++pb),rest,elem,fz,rfl,k1,?_,k3,rz,k5,?_⟩⟩
   ·rw[r2];simp
   ·have:(pre++(pa++(p1++(ws++p2)++pb)++rest)).length=(pre++(pa++(p1++(old++p2)++pb)++rest)).length:=(by simp[arN]);rw[this];exact k6)
  (fun a n c e h0=>.inl ⟨a,n,c,e,h0,rfl⟩)
 exact⟨w',β',r1,s1,s2⟩
theorem aaj{t:TypeId}{x y:Operand}{s:SV}{l:List SV}(ho:o.op= .store t x y)(hx:jr (ev st x)=some s)(hl:cellsOf (ev st y)=some l)(h:(C5 P t s l).val st.hp=some (q,v,d)):gE P o st q v d:=by
 unfold C5 at h
 split at h
 rotate_left
 ·simp[Ask.val]at h
 rename_i ZU
 have key:∀ {d:List (Nat×Item)},(fo q→∀ (W:World) (an:Hp) (β₀ β:Env) (a:Act) (w:World),Rel W an β₀ β st a w→s.den β (kd st.hp) (a.eval x)→∀ws,bz β (kd st.hp) l ws→
   ∃ (ad:Addr) (w':World) (β':Env),a.eval x= .pointer (some ad)∧(storeCells ad ws).run P w= .ok () w'∧bB W an β₀ β' (aV d st.hp) w'∧cb β β' (kd st.hp) (kd (aV d st.hp)))→gE P o st q (.cG []) d:=by
  intro d hk hq W an β₀ β a w hr;obtain⟨ws,hws,hdw⟩:=oF hl (bh hr y);obtain⟨ad,w',β',e,h1,h2,h3⟩:=hk hq W an β₀ β a w hr (bD hx (bh hr x)) ws hdw;refine⟨β',w',.skip,undef,?_,.inr ⟨rfl,rfl⟩,⟨[],rfl,.nil⟩,h2,h3⟩;have:=C7 ZU hws hdw.length h1;simp[execOp,ho,Instr.storeAt,e,Instr.sureAddr,this]
 split at h
 ·rename_i b off;simp only[Ask.val]at h
  split at h
  ·rename_i cells elem hb;obtain⟨c,hc,he⟩:=map_some h;simp at he;obtain⟨rfl,rfl,rfl⟩:=he;refine key fun _ W an β₀ β a w hr hd ws hw=>?_;obtain⟨_,e⟩:=hd;obtain⟨w',h1,h2,h3⟩:=hr.heap.aah (P:=P) (aB hb) (sH _ _ hc) hw;exact⟨_,w',β,e,h1,h2,h3⟩
  ·cases h
 ·rename_i i ver wd z f;simp only[Ask.val]at h
  split at h
  ·rename_i ver' ty m hi
   split at h
   ·rename_i hc;obtain⟨rfl,rfl⟩:=hc;obtain⟨y',Hd,he⟩:=map_some h;simp at he;obtain⟨rfl,rfl,rfl⟩:=he;refine key fun _ W an β₀ β a w hr hd ws hw=>?_;obtain⟨ad,n,c,h1,h2,h3,e⟩:=hd;obtain⟨qP,hh⟩:=hr.heap.oK (p:=fun v=>Value.slice (some ad) n c=v) (aB hi) h1.2;obtain⟨_,n',_,e',nh,_⟩:=qP;rw[← hh]at e';simp at e';obtain⟨w',β',r1,r2,r3⟩:=hr.heap.Hl (P:=P) (aB hi) hh.symm (j:=z.toNat) (by omega) Hd hw;exact⟨_,w',β',e,r1,r2,r3⟩
   ·cases h
  ·cases h
 ·rename_i i ver w' z' n' wd z f;simp only[Ask.val]at h
  split at h
  ·rename_i ver' ty m hi
   split at h
   ·rename_i hc;obtain⟨rfl,rfl,rfl⟩:=hc;obtain⟨y',Hd,he⟩:=map_some h;simp at he;obtain⟨rfl,rfl,rfl⟩:=he;refine key fun _ W an β₀ β a w hr hd ws hw=>?_;obtain⟨ad,n,c,h1,h2,h3,e⟩:=hd;obtain⟨qP,hh⟩:=hr.heap.oK (p:=fun v=>wG v ty.w z' n' (Value.slice (some ad) n c)) (aB hi) h1.2;obtain⟨a1,m1,c1,a2,c2,e1,z0,n0,hle,e2,_,_,sP⟩:=hh;simp at e2;obtain⟨rfl,rfl,rfl⟩:=e2;obtain⟨a3,rfl,e3⟩:=sP (by omega);simp at e3;subst e3;obtain⟨_,m2,_,e',nh,_,_,eU⟩:=qP;rw[e1]at e';simp at e';obtain⟨rfl,rfl,rfl⟩:=e'
    have aGs:z'.toNat+z.toNat<m.length:=by
     clear eU sP h1;omega
    obtain⟨a4,_,_,_,_,_,e4,hsp,_⟩:=eU (by omega);simp at e4;subst e4;obtain⟨w',β',r1,r2,r3⟩:=hr.heap.Hl (P:=P) (aB hi) e1 (j:=z'.toNat+z.toNat) aGs Hd hw;refine⟨_,w',β',e,?_,r2,r3⟩;rw[add_add hsp,← Nat.add_assoc,← Nat.add_mul];exact r1
   ·cases h
  ·cases h
 ·rename_i b o' ty n z' n' wd z f;simp only[Ask.val]at h
  split at h
  ·rename_i cells elem hb
   split at h
   ·rename_i u3 n0 m jR
    split at h
    ·rename_i hc;obtain⟨rfl,rfl,rfl⟩:=hc
     split at h
     ·rename_i y' Hd;obtain⟨cells',rA,he⟩:=map_some h;simp at he;obtain⟨rfl,rfl,rfl⟩:=he;refine key fun _ W an β₀ β a w hr hd ws hw=>?_;obtain⟨ad,nn,c,h1,h2,h3,e⟩:=hd;obtain⟨_,z0,n0',zn,a',c'',e1,_,_,sP⟩:=h1;simp at e1;obtain⟨rfl,rfl,rfl⟩:=e1;have e2:=sP (by omega);simp at e2;subst e2;obtain⟨cs,fz,g1,g2,g3,_⟩:=hr.heap.je (aB hb)
      have hml:m.length=n0:=by
       obtain⟨_,_,_,_,_,hh,_⟩:=oJ _ _ jR g3;exact hh
      obtain⟨pre,mid,post,rfl,e3,_,h6,h7⟩:=lG _ _ jR rA g3 (by simpa using hml);obtain⟨pa,u,pb,rfl,e4,h8,h9,h10⟩:=jm h6 (j:=z'.toNat+z.toNat) (by omega);obtain⟨p1,old,p2,rfl,e5,e6,h11⟩:=yT Hd h8 hw;have rz:bp (u3.has β true) (m.set (z'.toNat+z.toNat) y') (pa++((p1++(ws++p2))++pb)):=bp.Mh (by omega) h11 h9 h10
      obtain⟨w',r1,r2,r3,r4,r5,r6⟩:=dO (P:=P) (a:=⟨β.b b,o'+((z'.toNat+z.toNat)*u3.w+f),none⟩) rfl (elem:=elem) (fz:=fz) ws 0 (pre++pa++p1) old (p2++pb++post) w
       (by rw[g1];simp) (by simp[e3,e4,e5]<;>omega) e6 hw.yF (fun off q1 q2=>g2.not (by simp at q2 ⊢;omega))
      obtain⟨s1,s2⟩:=hr.heap.C6 (aB hb) (cells':=cells') (w':=w') (by omega) r5 r6 r3 (c:=pre++((pa++((p1++(ws++p2))++pb))++post)) (fz:=fz)
       (by rw[r2];simp) (by
        have:(pre++((pa++((p1++(ws++p2))++pb))++post)).length=(pre++((pa++((p1++(old++p2))++pb))++post)).length:=(by simp[e6]);rw[this];exact g2) (h7 _ rz)
      refine⟨_,w',β,e,?_,s1,s2⟩;rw[cj,cj];have:o'+z'.toNat*u3.w+(z.toNat*u3.w+f)=o'+((z'.toNat+z.toNat)*u3.w+f):=(by rw[Nat.add_mul];omega);rw[this];exact r1
     ·cases h
    ·cases h
   ·cases h
  ·cases h
 ·simp[Ask.val]at h
end
noncomputable section
variable {P:Program} {st:St} {o:Oper} {q:Option Prop} {v:LV} {d:List (Nat×Item)}
theorem Va{hp:Hp}{s:SV}{c:Bool×(t:Ty)×List t.D}(h:(ju s).val hp=some c):(C4 s).val hp=some c.2.1:=by
 unfold ju at h;rw[Ask.eJ]at h
 split at h
 ·rename_i t ht;rw[Ask.dc]at h;obtain⟨⟨ly,l'⟩,h1,h2⟩:=map_some h;subst h2;exact ht
 ·cases h
theorem Mt{t:TypeId}{x i:Operand}{s:SV}(ho:o.op= .indexAddr t x i)(hx:jr (ev st x)=some s)(h:(vh P t s (ev st i)).val st.hp=some (q,v,d)):gE P o st q v d:=by
 unfold vh at h
 split at h
 ·rename_i b off n e oh;have hu:=mB oh
  split at h
  ·rename_i sz hs
   split at h
   ·rename_i k j hi;simp only[Ask.val]at h
    split at h
    ·rename_i hj;simp at h;obtain⟨rfl,rfl,rfl⟩:=h;refine gE.pure fun hq W an β₀ β a w hr=>?_;have ei:=nk hi (bh hr i);obtain⟨hb,ex⟩:=bD hx (bh hr x);refine⟨.pointer (some ⟨β.b b,off+j*sz,none⟩),?_,hb,rfl⟩;have hb:(0:Int)≤j∧(j:Int)<n:=(by omega);simp[execOp,ho,ex,ei,Instr.indexAt,asIntOf,underlying,hu,Instr.sureAddr,hb,run_sizeOf hs,cj];omega
    ·cases h
   ·split at h
    ·rename_i k z hi;simp only[Ask.val]at h
     have et:∀ {W:World} {an:Hp} {β₀ β:Env} {a:Act} {w:World},Rel W an β₀ β st a w→0≤z∧z<(n:Int)→(execOp a.eval o).run P w= .ok (.value (.pointer (some ⟨β.b b,off+z.toNat*sz,none⟩))) w:=by
      intro W an β₀ β a w hr hb;have ei:=fx hi (bh hr i);obtain⟨_,ex⟩:=bD hx (bh hr x);simp[execOp,ho,ex,ei,Instr.indexAt,asIntOf,underlying,hu,Instr.sureAddr,hb,run_sizeOf hs,cj]
     split at h
     ·rename_i cells elem hb
      split at h
      ·rename_i ty n' l jR
       split at h
       ·rename_i hc;obtain⟨rfl,rfl⟩:=hc;simp at h;obtain⟨rfl,rfl,rfl⟩:=h;refine gE.pure fun hq W an β₀ β a w hr=>?_;have hb:0≤z∧z<(n':Int):=hq;obtain⟨yU,_⟩:=bD hx (bh hr x);refine⟨_,et hr hb,⟨β.b b,off,none⟩,n',n',⟨yU,by omega,by omega,by omega,_,_,rfl,Nat.le_refl _,(fun e=>by cases e),fun _=>by simp[cj]⟩,hb.1,hb.2,by rw[cj,Nat.add_zero]⟩
       ·cases h
      ·simp at h;obtain⟨rfl,rfl,rfl⟩:=h;refine gE.pure fun hq W an β₀ β a w hr=>?_;have hb:0≤z∧z<(n:Int):=hq;obtain⟨yU,_⟩:=bD hx (bh hr x);exact⟨_,et hr hb,yU,by omega,rfl⟩
     ·cases h
    ·simp[Ask.val]at h
  ·simp[Ask.val]at h
 ·rename_i b off len cap e oh n7;have hu:=dY n7;simp only[Ask.val]at h
  split at h
  ·rename_i sz hs
   split at h
   ·rename_i k j hi
    split at h
    ·rename_i hj;simp at h;obtain⟨rfl,rfl,rfl⟩:=h;refine gE.pure fun hq W an β₀ β a w hr=>?_;have ei:=nk hi (bh hr i);obtain⟨hb,ex⟩:=bD hx (bh hr x);refine⟨.pointer (some ⟨β.b b,off+j*sz,none⟩),?_,hb,rfl⟩;have hb:(0:Int)≤j∧(j:Int)<len:=(by omega);simp[execOp,ho,ex,ei,Instr.indexAt,asIntOf,underlying,hu,Instr.sureAddr,hb,run_sizeOf hs,cj];omega
    ·cases h
   ·split at h
    ·rename_i k z hi;simp at h;obtain⟨rfl,rfl,rfl⟩:=h;refine gE.pure fun hq W an β₀ β a w hr=>?_;have hb:0≤z∧z<(len:Int):=hq;have ei:=fx hi (bh hr i);obtain⟨yU,ex⟩:=bD hx (bh hr x);refine⟨.pointer (some ⟨β.b b,off+z.toNat*sz,none⟩),?_,yU,by omega,rfl⟩;simp[execOp,ho,ex,ei,Instr.indexAt,asIntOf,underlying,hu,Instr.sureAddr,hb,run_sizeOf hs,cj]
    ·cases h
  ·cases h
 ·rename_i oh n7;have hu:=dY n7;rw[Ask.dc]at h
  split at h
  ·rename_i pm ty l sz k z hc hs hi
   split at h
   ·rename_i hw;subst hw;simp at h;obtain⟨rfl,rfl,rfl⟩:=h;refine gE.pure fun hq W an β₀ β a w hr=>?_;have hb:0≤z∧z<(l.length:Int):=hq;have ei:=fx hi (bh hr i);have hd:=bD hx (bh hr x);obtain⟨a',n',c',ex,hn,_,_,eU⟩:=kN hr.heap hc hd;obtain⟨a0,_,rfl,_⟩:=eU (by omega);refine⟨.pointer (some (a0.add (z.toNat*ty.w))),?_,a0,n',c',by rw[← ex];exact hd,hb.1,by omega,by rw[Nat.add_zero]⟩;have gR:0≤z∧z<(n':Int):=(by omega);simp[execOp,ho,ex,ei,Instr.indexAt,asIntOf,underlying,hu,Instr.sureAddr,gR,run_sizeOf hs]
   ·cases h
  ·cases h
 ·simp[Ask.val]at h
theorem avG{t:TypeId}{x i:Operand}{y:VV}(ho:o.op= .index t x i)(h:aaf P t (ev st x) (ev st i)=some (q,y)):gE P o st q (.one y) []:=by
 unfold aaf at h
 split at h
 ·rename_i l n e hx oh;have hu:=mB oh
  split at h
  ·rename_i sz hs
   split at h
   ·rename_i k j hi
    split at h
    ·rename_i hj;obtain⟨y',hy,he⟩:=map_some h;simp at he;obtain⟨rfl,rfl⟩:=he;refine gE.pure fun hq W an β₀ β a w hr=>?_;have ei:=nk hi (bh hr i);have hd:=bh hr x;rw[hx]at hd;obtain⟨cs,ex,hd⟩:=hd;obtain⟨val,h1,h2⟩:=jQ (P:=P) (w:=w) hd hy;refine⟨val,?_,h2⟩;have hb:(0:Int)≤j∧(j:Int)<n:=(by omega);simp[execOp,ho,ex,ei,Instr.index,asIntOf,underlying,hu,hb,run_sizeOf hs,h1];omega
    ·cases h
   ·split at h
    ·rename_i k z hi
     split at h
     ·rename_i ty n' m
      split at h
      ·rename_i hc;obtain⟨rfl,rfl⟩:=hc;obtain⟨y',hy,he⟩:=map_some h;simp at he;obtain⟨rfl,rfl⟩:=he;refine gE.pure fun hq W an β₀ β a w hr=>?_;have hb:0≤z∧z<(n':Int):=hq;have ei:=fx hi (bh hr i);have hd:=bh hr x;rw[hx]at hd;obtain⟨cs,ex,hd⟩:=hd;obtain⟨h1,h2⟩:=bp.ka hd;obtain⟨pa,u,pb,rfl,e1,h3,_⟩:=jm h2 (j:=z.toNat) (by omega)
       have Rf:∃val,(part e (pa++(u++pb)).toArray (z.toNat*ty.w)).run P w= .ok val w∧y'.den β (kd st.hp) val:=by
        obtain⟨val,h4,h5⟩:=jQ (P:=P) (w:=w) (ty.l6 (L:=kd st.hp) h3) hy;refine⟨val,?_,h5⟩;have A3:=ty.fv h3
        have hu0:∀m,m≤u.length→(u.toArray.extract 0 m)=((pa++(u++pb)).toArray.extract (z.toNat*ty.w) (z.toNat*ty.w+m)):=by
         intro m hm
         apply Array.ext'
         simp only[Array.toList_extract,List.extract_eq_take_drop,Nat.sub_zero,List.drop_zero,Nat.add_sub_cancel_left];rw[← e1,List.drop_left,List.take_append_of_le_length hm]
        unfold part at h4 ⊢;unfold fy at hy
        split at hy
        ·rename_i kk ha hn;obtain⟨s,G4,_⟩:=map_some hy;obtain⟨p1,p2,p3,e2,e3,e4,_⟩:=pP G4 (ty.l6 (L:=kd st.hp) h3);simp only[Sem.run_bind,ig ha,Result.andThen_ok,if_true,run_sizeOf hn,Nat.zero_add]at h4 ⊢;rw[← hu0 kk (by rw[e2];simp;omega)];exact h4
        ·rename_i kk ha hn;obtain⟨s,G4,_⟩:=map_some hy;obtain⟨vv,hvv,_⟩:=oB _ _ G4 (ty.l6 (L:=kd st.hp) h3);simp only[Sem.run_bind,ig ha,Result.andThen_ok]at h4 ⊢
         have e5:(pa++(u++pb)).toArray[z.toNat*ty.w]? =u.toArray[0]? :=by
          have dU:=(List.getElem?_eq_some_iff.1 hvv).1;simp only[List.getElem?_toArray];rw[← e1,List.getElem?_append_right (Nat.le_refl _),Nat.sub_self,List.getElem?_append_left dU]
         rw[e5];exact h4
        ·cases hy
       obtain⟨val,h4,h5⟩:=Rf;refine⟨val,?_,h5⟩;simp[execOp,ho,ex,ei,Instr.index,asIntOf,underlying,hu,hb,run_sizeOf hs,h4]
      ·cases h
     ·split at h
      ·rename_i items ZR;obtain⟨y',hy,he⟩:=map_some h;simp at he;obtain⟨rfl,rfl⟩:=he;refine gE.pure fun hq W an β₀ β a w hr=>?_;have hb:0≤z∧z<(n:Int):=hq;have ei:=fx hi (bh hr i);have hd:=bh hr x;rw[hx]at hd;obtain⟨cs,ex,hd⟩:=hd;obtain⟨it,hi1,hi2⟩:=wO ZR (j:=z.toNat) (by omega);rw[Nat.zero_add]at hi2;obtain⟨val,h1,h2⟩:=jQ (P:=P) (w:=w) hd hi2;refine⟨val,?_,Re hi1 h2 hy⟩;simp[execOp,ho,ex,ei,Instr.index,asIntOf,underlying,hu,hb,run_sizeOf hs,h1]
      ·cases h
    ·cases h
  ·cases h
 ·rename_i sv hx oh
  split at h
  ·rename_i l k z hu hs hi;simp only[Option.some.injEq,Prod.mk.injEq]at h;obtain⟨rfl,rfl⟩:=h;refine gE.pure fun hq W an β₀ β a w hr=>?_;obtain⟨h0,h1,h2,h3⟩:0≤z∧z<(l.length:Int)∧0≤l.getD z.toNat 0∧l.getD z.toNat 0<256:=hq;have ei:=fx hi (bh hr i);have hd:=bh hr x;rw[hx]at hd;have ex:=jq hs hd;obtain⟨j,rfl⟩:=Int.eq_ofNat_of_zero_le h0;simp only[Int.toNat_natCast]at h2 h3 ⊢;have hj:j<l.length:=(by omega);have hg:l.getD j 0=l[j]:=by rw[List.getD_eq_getElem?_getD,List.getElem?_eq_getElem hj];rfl
   have hb:(strOf l)[j]? =some (UInt8.ofNat (l.getD j 0).toNat):=by
    have ZU:j<(strOf l).size:=(by show j<(strOf l).data.size;simp[strOf,hj]);rw[getElem?_pos (strOf l) j ZU]
    congr 1
    show(strOf l).data[j]'ZU=_;rw[hg];simp[strOf]
   have kW:(((UInt8.ofNat (l.getD j 0).toNat).toNat:Nat):Int)=l.getD j 0:=by
    rw[UInt8.toNat_ofNat'];omega
   refine⟨.int .u8 (l.getD j 0),?_,rfl⟩;clear h2 h3 hg hd;generalize l.getD j 0=c at*;generalize UInt8.ofNat c.toNat=b at*;simp[execOp,ho,ex,ei,Instr.index,asIntOf,underlying,hu,hb,kW]
  ·cases h
 ·cases h
theorem run_bytesToString{w:World}{β:Env}{pm:Bool}{l:List Int}{v:Value}(h:ca β pm w v (.int .u8) l):(Conv.bytesToString v).run P w= .ok (.string (strOf l)) w:=by
 obtain⟨a,n,c,rfl,hn,_,_,hr⟩:=h
 have key:∀ (l:List Int) (acc:ByteArray),(forIn (l.map (Value.int .u8)) acc (fun c r=>(match c with
   | .int .u8 n=>Pure.pure (ForInStep.yield (r.push (UInt8.ofNat n.toNat)))
   |_=>do stuck "bytesToString: byte expected";Pure.pure (ForInStep.yield r):Sem (ForInStep ByteArray)))).run P w= .ok ⟨acc.data++(l.map fun n=>UInt8.ofNat n.toNat).toArray⟩ w:=by
  intro l
  induction l with
  |nil=>intro acc;simp
  |cons x l ih=>
   intro acc;simp only[List.map_cons,List.forIn_cons,Sem.run_bind,Sem.run_pure,Result.andThen_ok];rw[ih];simp[ByteArray.push]
 unfold Conv.bytesToString
 cases a with
 |none=>
  rcases Nat.eq_zero_or_pos n with h0|h0
  ·have:l= []:=List.eq_nil_of_length_eq_zero (by omega);subst this;simp;rfl
  ·obtain⟨_,_,e,_⟩:=hr h0;cases e
 |some a=>
  have aA6:(loadCells a n).run P w= .ok (l.map (Value.int .u8)).toArray w:=by
   rcases Nat.eq_zero_or_pos n with h0|h0
   ·have:l= []:=List.eq_nil_of_length_eq_zero (by omega);subst this h0;rfl
   ·obtain⟨a0,eH,e,_,h2,h3⟩:=hr h0;simp at e;subst e;have:=sL h2;subst this;have h4:=lF (P:=P) h3;rw[List.length_map,← hn]at h4;exact h4
  simp only[Sem.run_bind,aA6,Result.andThen_ok];have:=key l ByteArray.empty;rw[List.forIn_toArray];have e:=congrArg (fun r=>Result.andThen r (fun a w'=>Sem.run P (Pure.pure (Value.string a)) w')) this;refine Eq.trans e ?_;simp[strOf]
end
end Go.Ev
end
