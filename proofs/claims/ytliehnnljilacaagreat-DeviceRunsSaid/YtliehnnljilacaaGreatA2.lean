/- What the laws lean on, part 2: a reader of code, plain facts, and what each function gives; no conditions. -/
import Derived.Test.YtliehnnljilacaaGreatA1
noncomputable section
open Go.IntKind (i64 signed u16 u32 u64 wrap wrap_u32)
set_option linter.unusedVariables false
set_option linter.unusedSimpArgs false
namespace Go.Ev
open Go
def R3:SI→Option Nat
 | .lit n=>if 0≤n then some n.toNat else none
 | .sym _=>none
theorem R4{i:SI}{n:Nat}(h:R3 i=some n):i.val=n:=by
 cases i with
 |lit k=>simp only[R3]at h;split at h
         · simp at h;simp only[SI.val];omega
         · cases h
 |sym k=>cases h
def np(x:LV):Option (IntKind×Nat):=match x with
 | .one (.sc (.int k n))=>(R3 n).map (k,·)
 |_=>none
theorem qo{β:Env}{L:Nat→Option Kd}{x:LV}{k:IntKind}{i:Nat}{v:Value}(h:np x=some (k,i))(hd:x.den β L v):v= .int k i:=by
 unfold np at h;split at h
 ·rename_i k' n;obtain⟨m,h1,h2⟩:=Option.map_eq_some_iff.1 h;simp at h2;obtain⟨rfl,rfl⟩:=h2;have e:v= .int k' n.val:=hd;rw[e,R4 h1]
 ·cases h
def nq(x:LV):Option (IntKind×Int):=match x with
 | .one (.sc (.int k n))=>some (k,n.val)
 |_=>none
theorem ig{β:Env}{L:Nat→Option Kd}{x:LV}{k:IntKind}{i:Int}{v:Value}(h:nq x=some (k,i))(hd:x.den β L v):v= .int k i:=by
 unfold nq at h;split at h
 ·simp at h;obtain⟨rfl,rfl⟩:=h;exact hd
 ·simp at h
def lr:LV→Option SV
 | .one (.sc s)=>some s
 |_=>none
theorem cX{β:Env}{L:Nat→Option Kd}{x:LV}{s:SV}{v:Value}(h:lr x=some s)(hd:x.den β L v):s.den β L v:=by
 unfold lr at h;split at h
 ·simp at h;subst h;exact hd
 ·simp at h
theorem map_some{α β:Type}{f:α→β}{x:Option α}{y:β}(h:x.map f=some y):∃a,x=some a∧f a=y:=Option.map_eq_some_iff.1 h
def cellsOf:LV→Option (List SV)
 | .one (.sc s)=>some [s]
 | .one (.agg l)=>some l
 |_=>none
theorem F4{v:Value}(h:v.oneCell'=true):v.cells= #[v]:=by cases v<;>first|rfl|cases h
theorem rT{β:Env}{L:Nat→Option Kd}{x:LV}{l:List SV}{v:Value}(h:cellsOf x=some l)(hd:x.den β L v):∃vs:List Value,v.cells=vs.toArray∧dc β L l vs:=by
 unfold cellsOf at h;split at h
 ·rename_i s;simp at h;subst h;exact⟨[v],F4 (SV.dn hd),cI.one (SV.vH hd)⟩
 ·simp at h;subst h;obtain⟨cs,rfl,h⟩:=hd;exact⟨cs,rfl,h⟩
 ·cases h
def vN(P:Program)(t:TypeId):Option Bool:=match P.underlying t with
 |some (.struct _)|some (.array _ _)=>some true
 |some _=>some false
 |none=>none
def fF(P:Program)(t:TypeId):Option Nat:=(P.info? t).map (·.size)
def rU(P:Program)(t:TypeId):Option Nat:=(P.info? t).map (·.bytes)
theorem j9{P:Program}{t:TypeId}{b:Bool}{w:World}(h:vN P t=some b):(isAgg t).run P w= .ok b w:=by
 unfold vN at h;unfold isAgg underlying;cases hu:P.underlying t with
 |none=>simp[hu]at h
 |some d=>
  rw[hu]at h;cases d<;>simp at h<;>subst h<;>simp[hu]
theorem run_sizeOf{P:Program}{t:TypeId}{n:Nat}{w:World}(h:fF P t=some n):(sizeOf t).run P w= .ok n w:=by
 unfold fF at h;unfold sizeOf typeInfo;cases hi:P.info? t with
 |none=>simp[hi]at h
 |some i=>simp[hi]at h;subst h;simp[hi]
def AR(P:Program)(t:TypeId):Option (List Field):=match P.underlying t with
 |some (.struct fs)=>some fs.toList
 |_=>none
def rV(P:Program)(t:TypeId):Option (Nat×TypeId):=match P.underlying t with
 |some (.array n e)=>some (n,e)
 |_=>none
def gv(P:Program)(t:TypeId):Option TypeId:=match P.underlying t with
 |some (.slice e)=>some e
 |_=>none
theorem CP{P:Program}{t:TypeId}{fs:List Field}(h:AR P t=some fs):P.underlying t=some (.struct fs.toArray):=by
 unfold AR at h;split at h
 ·rename_i f hu;simp at h;subst h;simpa using hu
 ·simp at h
theorem pA{P:Program}{t e:TypeId}{n:Nat}(h:rV P t=some (n,e)):P.underlying t=some (.array n e):=by
 unfold rV at h;split at h
 ·rename_i f hu;simp at h;obtain⟨rfl,rfl⟩:=h;simpa using hu
 ·simp at h
theorem fZ{P:Program}{t e:TypeId}(h:gv P t=some e):P.underlying t=some (.slice e):=by
 unfold gv at h;split at h
 ·rename_i f hu;simp at h;subst h;simpa using hu
 ·simp at h
def F5(P:Program):Nat→TypeId→Option Ty
 |0,_=>none
 |f+1,t=>match P.underlying t with
  |some (.int k)=>some (.int k)
  |some .bool=>some .bool
  |some (.float .f64)=>some .rl
  |some .string=>some .str
  |some (.slice e)=>(F5 P f e).map .sl
  |some (.array n e)=>(F5 P f e).map (.arr · n)
  |some (.struct fs)=>match ft (fun fd:Field=>F5 P f fd.type) fs.toList with
   |some (x::l)=>some (l.foldr (fun a (g:Ty→Ty) b=>.pair b (g a)) id x)
   |_=>none
  |_=>none
def layout(P:Program):Nat→TypeId→Option (List (Option (IntKind×Nat)))
 |0,_=>none
 |f+1,t=>match P.underlying t with
  |some (.array n e)=>(match P.underlying e with
   |some (.int k)=>if 32<n then some [some (k,n)]else some (List.replicate n none)
   |_=>(layout P f e).map fun l=>(List.replicate n l).flatten)
  |some (.struct fs)=>(ft (fun fd:Field=>layout P f fd.type) fs.toList).map List.flatten
  |some _=>some [none]
  |none=>none
def isZero(k:IntKind):Value→Bool
 | .int k' n=>k'==k&&n==0
 |_=>false
def qp:List (Option (IntKind×Nat))→List Value→Option (List SV)
 | [],[]=>some []
 |none::r,v::vs=>match SV.rn v,qp r vs with
  |some s,some l=>some (s::l)
  |_,_=>none
 |some (k,n)::r,vs=>if(vs.take n).length=n∧(vs.take n).all (isZero k)=true then(qp r (vs.drop n)).map (SV.arr (.int k) n (List.replicate n (0:Int)):: ·)else none
 |_,_=>none
theorem GD{β:Env}{k:IntKind}:∀ {vs:List Value} {n:Nat},vs.length=n→vs.all (isZero k)=true→cI ((Ty.int k).has β true) (List.replicate n (0:Int)) vs
 | [],_,h,_=>by simp at h;subst h;exact .nil
 |v::vs,n,h,ha=>by
  cases n with
  |zero=>simp at h
  |succ n=>
   simp only[List.all_cons,Bool.and_eq_true]at ha;have hv:v= .int k 0:=by
    unfold isZero at ha;split at ha
    ·simp at ha;rw[ha.1.1,ha.1.2]
    ·simp at ha
   rw[List.replicate_succ];exact cI.cons (vs:= [v]) (by rw[hv];rfl) (GD (by simpa using h) ha.2)
theorem tk{β:Env}{L:Nat→Option Kd}:∀ (lay:List (Option (IntKind×Nat))) (vs:List Value) {l:List SV},qp lay vs=some l→dc β L l vs
 | [],[],_,h=>by simp[qp]at h;subst h;exact .nil
 | [],_::_,_,h=>by simp[qp]at h
 |none::r,[],_,h=>by simp[qp]at h
 |none::r,v::vs,l,h=>by
  simp only[qp]at h;split at h
  ·rename_i s l' h1 h2;simp at h;subst h;exact dc.pq (SV.te h1) (tk r vs h2)
  ·cases h
 |some (k,n)::r,vs,l,h=>by
  simp only[qp]at h;split at h
  ·rename_i hc;obtain⟨l',h1,rfl⟩:=map_some h;have:=cI.cons (R:=SV.kZ β L) (x:=.arr (.int k) n (List.replicate n (0:Int))) (vs:=vs.take n) ⟨by simp,GD hc.1 hc.2⟩ (tk r (vs.drop n) h1);rwa [List.take_append_drop]at this
  ·cases h
def pB(P:Program)(t:TypeId):Option (List SV):=match P.info? t,layout P 8 t with
 |some i,some lay=>match i.zero with
  |some z=>qp lay z.cells.toList
  |none=>none
 |_,_=>none
theorem rW{P:Program}{t:TypeId}{l:List SV}{w:World}{β:Env}{L:Nat→Option Kd}(h:pB P t=some l):∃z:Value,(zeroValue t).run P w= .ok z w∧dc β L l z.cells.toList:=by
 unfold pB at h;unfold zeroValue typeInfo;split at h
 ·rename_i i lay hi _;split at h
  ·rename_i z hz;exact⟨z,by simp[hi,hz],tk _ _ h⟩
  ·cases h
 ·cases h
def ij(P:Program)(t:TypeId)(l:List SV)(off:Nat):Option VV:=match vN P t,fF P t with
 |some true,some n=>(abW l off n).map .agg
 |some false,some _=>(Ab l off).map .sc
 |_,_=>none
theorem lW{P:Program}{w:World}{β:Env}{L:Nat→Option Kd}{t:TypeId}{l:List SV}{cs:List Value}{off:Nat}{x:VV}(hd:dc β L l cs)(hx:ij P t l off=some x):∃v,(part t cs.toArray off).run P w= .ok v w∧x.den β L v:=by
 unfold ij at hx;unfold part;split at hx
 ·rename_i k ha hn;obtain⟨s,hs,rfl⟩:=map_some hx;obtain⟨pre,mid,post,rfl,e1,e2,h3⟩:=tg hs hd;simp only[Sem.run_bind,j9 ha,Result.andThen_ok,if_true,run_sizeOf hn];refine⟨.agg mid.toArray,?_,mid,rfl,h3⟩;have:((pre++(mid++post)).toArray.extract off (off+k))=mid.toArray:=by
   apply Array.ext';subst e1 e2;simp
  rw[this];rfl
 ·rename_i k ha hn;obtain⟨s,hs,rfl⟩:=map_some hx;obtain⟨v,hv,hr⟩:=rP _ _ hs hd;refine⟨v,?_,hr⟩;have:cs.toArray[off]? =some v:=by simpa using hv
  simp only[Sem.run_bind,j9 ha,Result.andThen_ok];simp[this]
 ·simp at hx
theorem mP{P:Program}{w:World}{β:Env}{L:Nat→Option Kd}{t:TypeId}{l:List SV}{vs:List Value}{off:Nat}{x:VV}{a:Addr}(hs:a.spot=none)(hh:fu w a vs)(hd:dc β L l vs)(hx:ij P t l off=some x):∃v,(loadVar t (a.add off)).run P w= .ok v w∧x.den β L v:=by
 unfold ij at hx;unfold loadVar;split at hx
 ·rename_i k ha hn;obtain⟨s,N9,rfl⟩:=map_some hx;obtain⟨pre,mid,post,rfl,e1,e2,h3⟩:=tg N9 hd;simp only[Sem.run_bind,j9 ha,Result.andThen_ok,if_true,run_sizeOf hn];have h4:=oo (P:=P) (fu.mid hs hh);rw[e1,e2]at h4;rw[h4];exact⟨_,rfl,mid,rfl,h3⟩
 ·rename_i k ha hn;obtain⟨s,N9,rfl⟩:=map_some hx;obtain⟨v,hv,hr⟩:=rP _ _ N9 hd;refine⟨v,?_,hr⟩;simp only[Sem.run_bind,j9 ha,Result.andThen_ok];simp[hh _ _ hv]
 ·simp at hx
def WV(P:Program)(t:TypeId):Option (Nat→Option (Nat×Nat)):=match P.underlying t with
 |some (.struct fs)=>(ft (fun f=>(fF P f.type).map (f.offset,·)) fs.toList).map fun l i=>l[i]?
 |some (.array _ e)=>(fF P e).map fun s i=>some (i*s,s)
 |_=>none
def yX(place:Nat→Option (Nat×Nat)):List SV→List (Nat×LV)→Option (List SV)
 |cells,[]=>some cells
 |cells,(i,x)::rest=>
  match place i,cellsOf x with
  |some (off,size),some l=>if wL l=size then match Oi cells off l with
    |some c=>yX place c rest
    |none=>none
   else none
  |_,_=>none
theorem Oo:∀ (ys pre old post:List Value),old.length=ys.length→∀ (k off:Nat),pre.length=off+k→
  (ys.zipIdx k).foldl (fun(cs:Array Value) (p:Value×Nat)=>cs.setIfInBounds (off+p.2) p.1) (pre++(old++post)).toArray=(pre++(ys++post)).toArray
 | [],pre,old,post,hl,k,off,_=>by
  have:old= []:=List.eq_nil_of_length_eq_zero (by simpa using hl);subst this;rfl
 |y::ys,pre,o::old,post,hl,k,off,hp=>by
  have h1:(pre++(o::old++post)).toArray.setIfInBounds (off+k) y=((pre++ [y])++(old++post)).toArray:=by
   rw[← hp];simp
  rw[List.zipIdx_cons,List.foldl_cons,h1,Oo ys (pre++ [y]) old post (by simpa using hl) (k+1) off (by simp;omega)];simp
 |_::_,_,[],_,hl,_,_,_=>by simp at hl
theorem HY{β:Env}{L:Nat→Option Kd}{place:Nat→Option (Nat×Nat)}:
  ∀ (parts:List (Nat×LV)) (R5:List (Nat×Value)) (cells:List SV) (cs:List Value) (l:List SV),
   dc β L cells cs→dC (fun(p:Nat×LV) (r:Nat×Value)=>p.1=r.1∧p.2.den β L r.2) parts R5→yX place cells parts=some l→
   ∃c:List Value,Instr.fill place cs.toArray R5=some c.toArray∧dc β L l c
 | [],R5,cells,cs,l,hc,hp,h=>by
  cases hp;simp[yX]at h;subst h;exact⟨cs,rfl,hc⟩
 |(i,x)::rest,_,cells,cs,l,hc,.cons (b:=(i',y)) (m:=rs) h1 h2,h=>by
  obtain⟨e,hd⟩:=h1;simp only at e hd;subst e;simp only[yX]at h;split at h
  ·rename_i off size l' hpl hx;split at h
   ·rename_i hw;split at h
    ·rename_i c' ae4;obtain⟨ys,hys,hdy⟩:=rT hx hd;obtain⟨pre,old,post,rfl,e1,e2,h3⟩:=vK _ _ ae4 _ _ hc hdy;obtain⟨c,h4,h5⟩:=HY rest rs c' _ l h3 h2 h;refine⟨c,?_,h5⟩;simp only[Instr.fill,hpl,hys];have hyl:ys.length=size:=(by rw[hdy.length,hw]);rw[if_neg (by simp;omega),← h4];congr 1;have:=Oo ys pre old post e2 0 off (by omega);rw[← this,← Array.foldl_toList];simp
    ·cases h
   ·cases h
  ·cases h
theorem rr{P:Program}{w:World}:∀ (fs:List Field) (l:List (Nat×Nat)),ft (fun f=>(fF P f.type).map (f.offset,·)) fs=some l→
  (fs.mapM (fun f=>do pure (f.offset,← sizeOf f.type):Field→Sem (Nat×Nat))).run P w= .ok l w
 | [],l,h=>by simp[ft]at h;subst h;simp
 |f::fs,l,h=>by
  simp only[ft]at h;split at h
  ·rename_i y l' h1 h2;simp at h;subst h;obtain⟨s,hs,rfl⟩:=map_some h1;have:=rr (P:=P) (w:=w) fs l' h2;simp only[List.mapM_cons,Sem.run_bind,run_sizeOf hs,Result.andThen_ok,Sem.run_pure,this]
  ·simp at h
def CQ{α:Type}(f:α→Option Bool):List α→Option Bool
 | []=>some true
 |x::l=>match f x,CQ f l with
  |some a,some b=>some (a&&b)
  |_,_=>none
def WW(P:Program)(n:Nat)(e:TypeId):List SV→List SV→Option Bool
 | [.arr (.int k) n1 x],[.arr (.int k') n2 y]=>match P.underlying e with
  |some (.int _)=>if k=k'∧n1=n∧n2=n∧vN P e=some false∧fF P e=some 1 then some (decide ((x:ab)=y))else none
  |_=>none
 |_,_=>none
def R6(P:Program):Nat→TypeId→VV→VV→Option Bool
 |0,_,_,_=>none
 |d+1,t,x,y=>match x,y with
  | .sc (.int k a),.sc (.int k' b)=>(match P.underlying t with
   |some (.int _)=>if k=k' then some (a.val==b.val)else none
   |_=>none)
  | .sc (.bool a),.sc (.bool b)=>(match P.underlying t with
   |some .bool=>some (a.val==b.val)
   |_=>none)
  | .agg l,.agg r=>(match P.underlying t with
   |some (.struct fs)=>if P.stoodInHeld t=false then
     CQ (fun f:Field=>if f.name="_" then none else match ij P f.type l f.offset,ij P f.type r f.offset with
      |some a,some b=>R6 P d f.type a b
      |_,_=>none) fs.toList
    else none
   |some (.array n e)=>match WW P n e l r with
    |some b=>some b
    |none=>match fF P e with
     |some s=>CQ (fun i=>match ij P e l (i*s),ij P e r (i*s)with
       |some a,some b=>R6 P d e a b
       |_,_=>none) (List.range n)
     |none=>none
   |_=>none)
  |_,_=>none
theorem Af{P:Program}{t:TypeId}{n:Nat}(h:fF P t=some n):P.cellsOf t=n:=by
 unfold fF at h;unfold Program.cellsOf;rw[h];rfl
theorem CR{P:Program}{t:TypeId}{n:Nat}(h:fF P t=some n):∃i,P.info? t=some i:=by
 unfold fF at h;cases hi:P.info? t with
 |none=>simp[hi]at h
 |some i=>exact⟨i,rfl⟩
theorem vO{β:Env}{k:IntKind}{pm:Bool}:∀ {l:ab} {vs:List Value},cI ((Ty.int k).has β pm) l vs→vs=l.map (.int k)
 | [],_,h=>by cases h;rfl
 |x::l,_,.cons (vs:=vs) h t=>by
  have e:vs= [.int k x]:=h;rw[e,vO t];rfl
theorem HZ{x y:ab}{n:Nat}(hx:x.length=n)(hy:y.length=n):(List.range n).all (fun i=>x.getD i 0==y.getD i 0)=decide (x=y):=by
 rw[Bool.eq_iff_iff];simp only[List.all_eq_true,List.mem_range,beq_iff_eq,decide_eq_true_eq];constructor
 ·intro h;apply List.ext_getElem (by omega);intro i h1 h2;have:=h i (by omega);simpa [List.getD,h1,h2]using this
 ·intro h;subst h;intro i _;rfl
theorem ae5{P:Program}{w:World}{β:Env}{L:Nat→Option Kd}{n d:Nat}{e:TypeId}{l r:List SV}{b:Bool}(h:WW P n e l r=some b){xs ys:List Value}(hx:dc β L l xs)(hy:dc β L r ys):(Op.eqItems (d+1) e (P.cellsOf e) xs.toArray ys.toArray (List.range n)).run P w= .ok b w:=by
 unfold WW at h;split at h
 ·rename_i k n1 x k' n2 y;split at h
  ·rename_i k0 hu;split at h
   ·rename_i hc;obtain⟨rfl,rfl,rfl,ha,hs⟩:=hc;simp at h;subst h;obtain⟨hx1,hx2⟩:=cI.mr hx;obtain⟨hy1,hy2⟩:=cI.mr hy;have ex:=vO hx2;have ey:=vO hy2;subst ex ey;rw[← HZ hx1 hy1,Af hs];have key:∀ (fl:List Nat),(∀i∈fl,i<n2)→(Op.eqItems (d+1) e 1 (x.map (Value.int k)).toArray (y.map (Value.int k)).toArray fl).run P w= .ok (fl.all fun i=>x.getD i 0==y.getD i 0) w:=by
     intro fl;induction fl with
     |nil=>intro _;simp[Op.eqItems]
     |cons i fl ih=>
      intro hi;have hi0:=hi i (by simp);have hp:∀ (z:ab),z.length=n2→(part e (z.map (Value.int k)).toArray i).run P w= .ok (.int k (z.getD i 0)) w:=by
       intro z hz;unfold part;simp only[Sem.run_bind,j9 ha,Result.andThen_ok];have iZ:i<z.length:=(by omega);simp[List.getD,iZ]
      simp only[Op.eqItems,Sem.run_bind,Nat.mul_one,hp x hx1,hp y hy1,Result.andThen_ok,Op.equalIn,run_underlying hu,if_true,Sem.run_pure,List.all_cons];cases hb:(x.getD i 0==y.getD i 0)
      ·simp
      ·simpa using ih fun j hj=>hi j (by simp[hj])
    exact key _ fun i hi=>by simpa using hi
   ·cases h
  ·cases h
 ·cases h
theorem AS{P:Program}{w:World}{β:Env}{L:Nat→Option Kd}:∀ (d:Nat) (t:TypeId) (x y:VV) (b:Bool),R6 P d t x y=some b→
  ∀ (xv yv:Value),x.den β L xv→y.den β L yv→∀k,(Op.equalIn (k+1+d) t xv yv).run P w= .ok b w
 |0,_,_,_,_,h=>by simp[R6]at h
 |d+1,t,x,y,b,h=>by
  intro xv yv hx hy k;simp only[R6]at h;split at h
  ·rename_i k1 a k2 c;have e1:xv= .int k1 a.val:=hx;have e2:yv= .int k2 c.val:=hy;subst e1 e2;split at h
   ·rename_i hu;split at h
    ·rename_i hkk;subst hkk;simp at h;subst h;show(Op.equalIn (k+1+d+1) t _ _).run P w=_;simp[Op.equalIn,run_underlying hu]
    ·simp at h
   ·simp at h
  ·rename_i a c;have e1:xv= .bool a.val:=hx;have e2:yv= .bool c.val:=hy;subst e1 e2;split at h
   ·rename_i hu;simp at h;subst h;show(Op.equalIn (k+1+d+1) t _ _).run P w=_;simp[Op.equalIn,run_underlying hu]
   ·simp at h
  ·rename_i l r;obtain⟨xs,rfl,hxs⟩:=hx;obtain⟨ys,rfl,hys⟩:=hy;show(Op.equalIn (k+1+d+1) t _ _).run P w=_;split at h
   ·rename_i fs hu;split at h
    ·rename_i hst;have hfo:P.fieldsOf t=fs:=(by unfold Program.fieldsOf;rw[hu]);rw[run_equalIn_struct w (k+1+d) t _ _ (by rw[hfo];exact hu) hst,hfo];clear hu hst hfo;generalize fs.toList=fl at h;induction fl generalizing b with
     |nil=>simp[CQ]at h;subst h;simp[Op.eqFields]
     |cons f fl ih=>
      simp only[CQ]at h;split at h
      ·rename_i a c ha hc;simp at h;subst h;split at ha
       ·simp at ha
       ·rename_i hnm;split at ha
        ·rename_i p1 p2 hp1 hp2;obtain⟨v1,e1,e2⟩:=lW (P:=P) (w:=w) hxs hp1;obtain⟨v2,e3,e4⟩:=lW (P:=P) (w:=w) hys hp2;have:=AS (w:=w) d f.type p1 p2 a ha v1 v2 e2 e4 k;simp only[Op.eqFields,ne_eq,hnm,not_false_eq_true,if_true,Sem.run_bind,e1,e3,this,Result.andThen_ok];cases a
         ·simp
         ·simpa using ih c hc
        ·simp at ha
      ·simp at h
    ·simp at h
   ·rename_i n e hu;split at h
    ·rename_i b' lX;simp at h;subst h;have hi:∃i,P.info? e=some i:=by
      unfold WW at lX;split at lX
      ·split at lX
       ·split at lX
        ·rename_i hc;exact CR hc.2.2.2.2
        ·cases lX
       ·cases lX
      ·cases lX
     obtain⟨i,hi⟩:=hi;rw[run_equalIn_array w (k+1+d) _ _ hu hi];rw[show k+1+d=k+d+1 from by omega];exact ae5 lX hxs hys
    ·split at h
     ·rename_i s hs;obtain⟨i,hi⟩:=CR hs;rw[run_equalIn_array w (k+1+d) _ _ hu hi,Af hs];generalize List.range n=fl at h;induction fl generalizing b with
      |nil=>simp[CQ]at h;subst h;simp[Op.eqItems]
      |cons j fl ih=>
       simp only[CQ]at h;split at h
       ·rename_i a c ha hc;simp at h;subst h;split at ha
        ·rename_i p1 p2 hp1 hp2;obtain⟨v1,e1,e2⟩:=lW (P:=P) (w:=w) hxs hp1;obtain⟨v2,e3,e4⟩:=lW (P:=P) (w:=w) hys hp2;have:=AS (w:=w) d e p1 p2 a ha v1 v2 e2 e4 k;simp only[Op.eqItems,Sem.run_bind,e1,e3,this,Result.andThen_ok];cases a
         ·simp
         ·simpa using ih c hc
        ·simp at ha
       ·simp at h
     ·simp at h
   ·simp at h
  ·simp at h
def uM(n:Int):Nat:=FloatKind.f64.nearest n
def Oq(x y:Nat):Option Nat:=FloatKind.f64.format.div x y
def ae6(x y:Nat):Nat:=(Oq x y).getD 0
def aqY(x y:Nat):Option Ordering:=FloatKind.f64.format.order x y
def WX:SV→Option Nat
 | .rl n=>some n
 | .gm (.float .f64 n)=>some n
 |_=>none
theorem GF{β:Env}{L:Nat→Option Kd}{s:SV}{n:Nat}{v:Value}(h:WX s=some n)(hd:s.den β L v):v= .float .f64 n:=by
 unfold WX at h;split at h
 ·simp at h;subst h;exact hd
 ·simp at h;subst h;exact hd.2
 ·cases h
def ae7(op:BinOp)(x y:Nat):Option (Option Prop×SV):=match op with
 | .quo=>some (some (Oq x y≠none),.rl (ae6 x y))
 | .eql=>some (none,.bool (.sym (aqY x y==some .eq)))
 | .neq=>some (none,.bool (.sym (aqY x y !=some .eq)))
 | .lss=>some (none,.bool (.sym (aqY x y==some .lt)))
 | .gtr=>some (none,.bool (.sym (aqY x y==some .gt)))
 |_=>none
theorem aDQ{P:Program}{w:World}{op:BinOp}{t:TypeId}{ox oy:Operand}{x y:Nat}{β:Env}{L:Nat→Option Kd}{q:Option Prop}{s:SV}(h:ae7 op x y=some (q,s))(hq:iC q):
  ∃v,(do eqGuard op t ox oy (.float .f64 x) (.float .f64 y);binOp op t (.float .f64 x) (.float .f64 y):Sem Value).run P w= .ok v w∧s.den β L v:=by
 simp only[Sem.run_bind,fa (P:=P) (w:=w) (op:=op) (t:=t) (x:=ox) (y:=oy) (a:=.float .f64 x) (b:=.float .f64 y) (by simp) (by simp),Result.andThen_ok];cases op<;>simp only[ae7]at h<;>(try (cases h;done))<;>(simp at h;obtain⟨rfl,rfl⟩:=h)
 case quo=>
  have hq:Oq x y≠none:=hq;cases hr:Oq x y with
  |none=>exact absurd hr hq
  |some r=>
   refine⟨.float .f64 r,?_,?_⟩
   ·have rL:FloatKind.f64.format.div x y=some r:=hr;simp[binOp,Op.floatArith,rL]
   ·show _=Value.float .f64 (ae6 x y);rw[ae6,hr];rfl
 all_goals exact⟨_,by simp[binOp,Op.floatCmp];rfl,rfl⟩
def ae8(P:Program)(op:BinOp)(t:TypeId)(x y:LV):Option (Option Prop×SV):=match lr x,lr y with
 |some a,some b=>(match rR a,rR b with
  |some l,some m=>(azC op l m).map fun s=>(none,s)
  |_,_=>match WX a,WX b with
   |some x,some y=>ae7 op x y
   |_,_=>ae3 P op t a b)
 |_,_=>match x,y with
  | .one (.agg l),.one (.agg r)=>if P.eqGuardType P.depth t=false then
    match op with
    | .eql=>(R6 P 12 t (.agg l) (.agg r)).map fun b=>(none,.bool (.sym b))
    | .neq=>(R6 P 12 t (.agg l) (.agg r)).map fun b=>(none,.bool (.sym (!b)))
    |_=>none
   else none
  |_,_=>none
theorem ae9{P:Program}{w:World}{op:BinOp}{t:TypeId}{ox oy:Operand}{x y:LV}{xv yv:Value}{β:Env}{L:Nat→Option Kd}{q:Option Prop}{s:SV}
  (h:ae8 P op t x y=some (q,s)) (hq:iC q) (hx:x.den β L xv) (hy:y.den β L yv):
  ∃v,(do eqGuard op t ox oy xv yv;binOp op t xv yv:Sem Value).run P w= .ok v w∧s.den β L v:=by
 unfold ae8 at h;split at h
 ·rename_i a b ha hb;split at h
  ·rename_i l m hl hm;obtain⟨r,hr,he⟩:=map_some h;simp at he;obtain⟨_,rfl⟩:=he;have e1:=lq hl (cX ha hx);have e2:=lq hm (cX hb hy);subst e1 e2;rw[Sem.run_bind,fa (by simp) (by simp)];cases op<;>simp[azC]at hr<;>subst hr
   ·exact⟨.bool (gP l m),by simp[binOp,Op.stringOp,gP],rfl⟩
   ·exact⟨.bool (!gP l m),by simp[binOp,Op.stringOp,gP],rfl⟩
  ·split at h
   ·rename_i x y hx2 hy2;have e1:=GF hx2 (cX ha hx);have e2:=GF hy2 (cX hb hy);subst e1 e2;exact aDQ h hq
   ·exact aDO h hq (cX ha hx) (cX hb hy)
 ·split at h
  ·rename_i l r _;split at h
   ·rename_i hg;have hx':(VV.agg l).den β L xv:=hx;have hy':(VV.agg r).den β L yv:=hy;obtain⟨xs,rfl,hxs⟩:=hx;obtain⟨ys,rfl,hys⟩:=hy;split at h
    ·obtain⟨b,hb,he⟩:=Option.map_eq_some_iff.1 h;simp at he;obtain⟨_,rfl⟩:=he;have:=AS (w:=w) 12 t _ _ b hb _ _ hx' hy' 9987;refine⟨.bool b,?_,rfl⟩;rw[Sem.run_bind,run_eqGuard_agg w .eql t ox oy _ _ hg];simp only[Result.andThen_ok,run_eql_struct,this]
    ·obtain⟨b,hb,he⟩:=Option.map_eq_some_iff.1 h;simp at he;obtain⟨_,rfl⟩:=he;have:=AS (w:=w) 12 t _ _ b hb _ _ hx' hy' 9987;refine⟨.bool (!b),?_,rfl⟩;rw[Sem.run_bind,run_eqGuard_agg w .neq t ox oy _ _ hg];simp only[Result.andThen_ok,run_neq_struct,this]
    ·simp at h
   ·simp at h
  ·simp at h
def intOf(k:IntKind):SV→Option Int
 | .int k' n=>if k'=k then some n.val else none
 |_=>none
def afa:SV→Option Bool
 | .bool b=>some b.val
 |_=>none
def aqZ(z:Int)(col:List SV):SV:=match col with
 | .int k _::_=>match ft (intOf k) col with
  |some l=>.int k (.sym (l.getD z.toNat 0))
  |none=>.dT
 | .bool _::_=>match ft afa col with
  |some l=>.bool (.sym (l.getD z.toNat false))
  |none=>.dT
 |_=>.dT
theorem lu{α β:Type}{f:α→Option β}:∀ {l:List α} {m:List β},ft f l=some m→∀ {i:Nat} {a:α},l[i]? =some a→∃b,m[i]? =some b∧f a=some b
 | [],m,h,i,a,hi=>by simp at hi
 |x::l,m,h,i,a,hi=>by
  simp only[ft]at h;split at h
  ·rename_i y m' h1 h2;simp at h;subst h;cases i with
   |zero=>simp at hi;subst hi;exact⟨y,by simp,h1⟩
   |succ i=>simp at hi;obtain⟨b,hb,hf⟩:=lu h2 hi;exact⟨b,by simpa using hb,hf⟩
  ·simp at h
theorem WY{β:Env}{L:Nat→Option Kd}{z:Int}{col:List SV}{s:SV}{v:Value}(hs:col[z.toNat]? =some s)(h:s.den β L v):(aqZ z col).den β L v:=by
 have h1:=SV.dn h;unfold aqZ;split
 ·rename_i k n rest;split
  ·rename_i l hl;obtain⟨b,hb,hf⟩:=lu hl hs;unfold intOf at hf;split at hf
   ·split at hf
    ·rename_i hk;subst hk;simp at hf;subst hf;have e:v= .int _ _:=h;show v= .int _ (l.getD z.toNat 0);rw[e,List.getD_eq_getElem?_getD,hb];rfl
    ·simp at hf
   ·simp at hf
  ·exact h1
 ·rename_i n rest;split
  ·rename_i l hl;obtain⟨b,hb,hf⟩:=lu hl hs;unfold afa at hf;split at hf
   ·simp at hf;subst hf;have e:v= .bool _:=h;show v= .bool (l.getD z.toNat false);rw[e,List.getD_eq_getElem?_getD,hb];rfl
   ·simp at hf
  ·exact h1
 ·exact h1
def afb(l:List SV):Bool:=l.all fun s=>match s with| .arr _ _ _=>false|_=>true
def aLV:VV→Option SV
 | .sc s=>some s
 |_=>none
def azD(n:Nat):VV→Option (List SV)
 | .agg l=>if l.length=n∧afb l=true then some l else none
 |_=>none
def aq1(z:Int):List VV→Option VV
 | []=>none
 | .sc s::l=>(ft aLV (.sc s::l)).map fun col=>.sc (aqZ z col)
 | .agg r::l=>(ft (azD r.length) (.agg r::l)).map fun rows=>.agg ((List.range r.length).map fun c=>aqZ z (rows.map (·.getD c .dT)))
theorem CS{β:Env}{L:Nat→Option Kd}:∀ {l:List SV} {vs:List Value},afb l=true→dc β L l vs→dC (SV.den β L) l vs
 | [],_,_,h=>by cases h;exact .nil
 |s::l,_,hn,.cons h1 h2=>by
  simp only[afb,List.all_cons,Bool.and_eq_true]at hn;obtain⟨v,rfl,hv⟩:=SV.lj h1 (fun t n l e=>by subst e;simp at hn);exact .cons hv (CS hn.2 h2)
theorem WZ{β:Env}{L:Nat→Option Kd}{z:Int}{items:List VV}{x y:VV}{v:Value}(hs:items[z.toNat]? =some x)(h:x.den β L v)(hy:aq1 z items=some y):y.den β L v:=by
 unfold aq1 at hy;split at hy
 ·simp at hy
 ·obtain⟨col,hc,rfl⟩:=map_some hy;obtain⟨s,h1,h2⟩:=lu hc hs;unfold aLV at h2;split at h2
  ·simp at h2;subst h2;exact WY h1 h
  ·simp at h2
 ·rename_i r l;obtain⟨rows,hc,rfl⟩:=map_some hy;obtain⟨s,h1,h2⟩:=lu hc hs;unfold azD at h2;split at h2
  ·rename_i s;split at h2
   ·rename_i hlen;simp at h2;subst h2;obtain⟨cs,rfl,hd⟩:=h;refine⟨cs,rfl,vI ?_⟩
    have key:∀ (s:List SV) (cs:List Value) (k:Nat) (g:Nat→SV),dC (SV.den β L) s cs→(∀i a,s[i]? =some a→∀v,a.den β L v→(g (k+i)).den β L v)→
      dC (SV.den β L) ((List.range' k s.length).map g) cs:=by
     intro s;induction s with
     |nil=>intro cs k g hd _;cases hd;exact .nil
     |cons a s ih=>
      intro cs k g hd hg;cases hd with
      |cons h3 h4=>
       simp only[List.length_cons,List.range'_succ,List.map_cons];refine .cons (by have:=hg 0 a (by simp) _ h3;simpa using this) (ih _ (k+1) g h4 fun i b hb v hv=>?_);have:=hg (i+1) b (by simpa using hb) v hv;rwa [show k+1+i=k+(i+1)from by omega]
    rw[List.range_eq_range',← hlen.1];refine key s cs 0 _ (CS hlen.2 hd) fun i a ha v hv=>?_;rw[Nat.zero_add];refine WY (s:=a) ?_ hv;simp[h1,ha]
   ·simp at h2
  ·simp at h2
def H0(P:Program)(t:TypeId)(l:List SV)(base oQ n:Nat):Option (List VV):=ft (fun j=>ij P t l (base+j*oQ)) (List.range n)
theorem Ag{P:Program}{t:TypeId}{l:List SV}{base oQ n:Nat}{items:List VV}(h:H0 P t l base oQ n=some items){j:Nat}(hj:j<n):∃x,items[j]? =some x∧ij P t l (base+j*oQ)=some x:=by
 obtain⟨x,h1,h2⟩:=lu h (i:=j) (a:=j) (by simp[hj]);exact⟨x,h1,h2⟩
def rowAt:List SV→Nat→Option SV
 | [],_=>none
 | .arr t n l::r,off=>if off=0 then some (.arr t n l)else if n*t.w≤off then rowAt r (off-n*t.w)else none
 |_::_,0=>none
 |_::r,off+1=>rowAt r off
theorem rX{β:Env}{L:Nat→Option Kd}:∀ (l:List SV) (off:Nat) {t:Ty} {n:Nat} {x:List t.D} {vs:List Value},rowAt l off=some (.arr t n x)→dc β L l vs→
  ∃pre mid post,vs=pre++(mid++post)∧pre.length=off∧x.length=n∧cI (t.has β true) x mid
 | [],_,_,_,_,_,h,_=>by simp[rowAt]at h
 |s::r,off,t,n,x,vs,h,hd=>by
  have plain:(∀t n l,s≠ .arr t n l)→∃pre mid post,vs=pre++(mid++post)∧pre.length=off∧x.length=n∧cI (t.has β true) x mid:=by
   intro hs;cases hd with
   |cons h1 h2=>
    obtain⟨v,rfl,_⟩:=SV.lj h1 hs;cases off with
    |zero=>
     exfalso;cases s with
     |arr t n l=>exact absurd rfl (hs t n l)
     |_=>simp[rowAt]at h
    |succ off=>
     have h':rowAt r off=some (.arr t n x):=by
      cases s with
      |arr t n l=>exact absurd rfl (hs t n l)
      |_=>exact h
     obtain⟨pre,mid,post,rfl,e,h3⟩:=rX r off h' h2;exact⟨v::pre,mid,post,rfl,by simp[e],h3⟩
  cases s with
  |arr t' n' l'=>
   have h':(if off=0 then some (.arr t' n' l')else if n'*t'.w≤off then rowAt r (off-n'*t'.w)else none)=some (SV.arr t n x):=(by cases off<;>exact h);cases hd with
   |cons h1 h2=>
    rename_i us ws;split at h'
    ·rename_i e0;simp at h';obtain⟨rfl,rfl,e⟩:=h';simp at e;subst e;exact⟨[],us,ws,rfl,by simp[e0],h1.1,h1.2⟩
    ·split at h'
     ·obtain⟨pre,mid,post,rfl,e,h3⟩:=rX r _ h' h2;have F2:=SV.j7 h1;simp only[SV.w]at F2;exact⟨us++pre,mid,post,by simp,by simp[F2,e];omega,h3⟩
     ·cases h'
  |_=>exact plain (by intros;simp)
def ly(t:Ty):SV→Ask (Option (Bool×List t.D))
 | .rd pm _ t' l=>.ret (if h:t'=t then some (pm,h▸l)else none)
 | .gm (.slice none 0 0)=>.ret (some (true,[]))
 | .sl i ver=>.get i fun x=>.ret (match x with
  |some (.own ver' t' l)=>if h:t'=t then(if ver=ver' then some (true,h▸l)else none)else none
  |_=>none)
 | .vw i ver w z n=>.get i fun x=>.ret (match x with
  |some (.own ver' t' l)=>if h:t'=t then(if ver=ver'∧w=t.w then some (true,((h▸l:List t.D).drop z.toNat).take n.toNat)else none)else none
  |_=>none)
 | .vb b o t' m z n=>.get b fun x=>.ret (match x with
  |some (.cK cells _)=>match rowAt cells o with
   |some (.arr t'' n' l)=>if h:t''=t then(if t'=t∧n'=m then some (true,((h▸l:List t.D).drop z.toNat).take n.toNat)else none)else none
   |_=>none
  |_=>none)
 | .slice b o len cap=>.get b fun x=>.ret (match x with
  |some (.cK cells _)=>match(if len≤cap then abW cells o (len*t.w)else none)with
   |some s=>(vJ (t.read true) t.w len s).map fun l=>(true,l)
   |none=>none
  |_=>none)
 |_=>.ret none
theorem dw.abV{β:Env}{pm:Bool}{w:World}{v:Value}{t:Ty}{l:List t.D}(h:dw β true w v t l):dw β pm w v t l:=by
 obtain⟨a,n,c,rfl,hn,hc,hz,hr⟩:=h;refine⟨a,n,c,rfl,hn,hc,hz,fun h0=>?_⟩;obtain⟨a0,gq,rfl,h1,h2,h3⟩:=hr h0;exact⟨a0,gq,rfl,h1,h2.imp fun _ _=>t.rN,h3⟩
theorem Ah{β:Env}{pm:Bool}{w:World}{t:Ty}:dw β pm w (.slice none 0 0) t []:=⟨none,0,0,rfl,rfl,Nat.le_refl _,fun _=>rfl,fun h=>absurd h (by simp)⟩
theorem eY.reads{β:Env}{w:World}{h:Value}{t:Ty}{l:List t.D}(hk:eY β w h t l):dw β true w h t l:=by
 obtain⟨a,n,c,rfl,h1,h2,h3,h4⟩:=hk;refine⟨a,n,c,rfl,h1,h2,h3,fun h0=>?_⟩;obtain⟨a0,pre,gq,rest,elem,fz,rfl,k1,k2,k3,k4,k5⟩:=h4 (by omega);refine⟨a0,gq,rfl,k1,k4,?_⟩;have:=gI k2;obtain⟨b,o,s⟩:=a0;simp at k1 k3;subst k1 k3;exact this
theorem dw.sub{β:Env}{pm:Bool}{w:World}{h v:Value}{t:Ty}{l:List t.D}{z n:Int}(hk:dw β pm w h t l)(hs:z9 h t.w z n v):dw β pm w v t ((l.drop z.toNat).take n.toNat):=by
 obtain⟨a,m,c,rfl,hm,hc,_,hr⟩:=hk;obtain⟨a1,m1,c1,a',c',e,z0,n0,hle,rfl,uK,hz,ha⟩:=hs;simp at e;obtain⟨rfl,rfl,rfl⟩:=e;have hlen:((l.drop z.toNat).take n.toNat).length=n.toNat:=by simp;omega
 refine⟨a',n.toNat,c',rfl,hlen.symm,uK,hz,fun h0=>?_⟩;obtain⟨a0,e1,rfl⟩:=ha (by omega);obtain⟨a2,gq,e2,h1,h2,h3⟩:=hr (by omega);subst e1;simp at e2;subst e2;obtain⟨v1,v2,rfl,k1,k2⟩:=j8 h2 z.toNat;obtain⟨v3,v4,rfl,k3,k4⟩:=j8 k2 n.toNat;refine⟨_,v3,rfl,py h1 _,k3,?_⟩;have:=fu.mid h1 h3;rwa [dh k1,List.length_take,Nat.min_eq_left (by omega)]at this
theorem dw.len{β:Env}{pm:Bool}{w:World}{v:Value}{t:Ty}{l:List t.D}(h:dw β pm w v t l):∃a c,v= .slice a l.length c:=by
 obtain⟨a,n,c,rfl,rfl,_⟩:=h;exact⟨a,c,rfl⟩
noncomputable section
variable {W:World} {bP:Hp} {β₀ β:Env} {hp:Hp} {w:World}
theorem cN.aDR(h:cN W bP β₀ β hp w){pm:Bool}{v:Value}{t:Ty}{l:List t.D}(hr:AE β pm v t l):dw β pm w v t l∧∀b,inBlock v b→b<w.heap.size∧¬fb hp β b:=by
 rcases hr with hr|⟨rfl,hr⟩|⟨rfl,rfl⟩
 ·exact⟨(h.reads _ _ _ _ hr).1.abV,(h.reads _ _ _ _ hr).2⟩
 ·exact h.reads _ _ _ _ hr
 ·exact⟨Ah,fun b hb=>hb.elim⟩
theorem cN.rY(h:cN W bP β₀ β hp w){i ver:Nat}{t:Ty}{l:List t.D}(hi:hp[i]? =some (some (.own ver t l))){p:Value→Prop}(hd:∃c,kd hp i=some (.own c)∧ver≤c∧(ver=c→p (β.h i))):eY β w (β.h i) t l∧p (β.h i):=by
 obtain⟨c,h1,h2,h3⟩:=hd;rw[fM hi]at h1;simp[bE.kd]at h1;exact⟨h.items _ _ hi,h3 h1⟩
theorem pC(h:cN W bP β₀ β hp w){t:Ty}{s:SV}{pm:Bool}{l:List t.D}{v:Value}(hc:(ly t s).val hp=some (pm,l))(hd:s.den β (kd hp) v):dw β pm w v t l:=by
 unfold ly at hc;split at hc
 ·simp only[Ask.val]at hc;split at hc
  ·rename_i e;subst e;simp at hc;obtain⟨rfl,rfl⟩:=hc;exact(h.aDR hd.2.2).1
  ·cases hc
 ·simp only[Ask.val]at hc;simp at hc;obtain⟨rfl,rfl⟩:=hc;obtain⟨_,rfl⟩:=hd;exact Ah
 ·rename_i i ver;simp only[Ask.val]at hc;split at hc
  ·rename_i ver' t' l' hi;split at hc
   ·rename_i e;subst e;split at hc
    ·rename_i e;subst e;simp at hc;obtain⟨rfl,rfl⟩:=hc;obtain⟨_,hd⟩:=hd;obtain⟨h1,rfl⟩:=h.rY (p:=fun x=>v=x) (cf hi) hd;exact h1.reads
    ·cases hc
   ·cases hc
  ·cases hc
 ·rename_i i ver w' z n;simp only[Ask.val]at hc;split at hc
  ·rename_i ver' t' l' hi;split at hc
   ·rename_i e;subst e;split at hc
    ·rename_i e;obtain⟨rfl,rfl⟩:=e;simp at hc;obtain⟨rfl,rfl⟩:=hc;obtain⟨_,hd⟩:=hd;obtain⟨h1,h2⟩:=h.rY (p:=fun x=>z9 x t'.w z n v) (cf hi) hd;exact h1.reads.sub h2
    ·cases hc
   ·cases hc
  ·cases hc
 ·rename_i b o t' m z n;simp only[Ask.val]at hc;split at hc
  ·rename_i cells elem hi;split at hc
   ·rename_i t'' n' l' lX;split at hc
    ·rename_i e;subst e;split at hc
     ·rename_i e;obtain⟨rfl,rfl⟩:=e;simp at hc;obtain⟨rfl,rfl⟩:=hc;obtain⟨hb,z0,n0,zn,a',c',rfl,uK,hz,ha⟩:=hd;obtain⟨cs,fz,h1,h2,h3⟩:=h.items _ _ (cf hi);obtain⟨pre,mid,post,rfl,e1,e2,h4⟩:=rX _ _ lX h3;subst e1 e2;have aLW:dw β true w (.slice (some ⟨β b,pre.length,none⟩) l'.length l'.length) t' l':=⟨_,_,_,rfl,rfl,Nat.le_refl _,(fun e=>by cases e),fun _=>⟨_,mid,rfl,rfl,h4,gI h1⟩⟩;exact aLW.sub ⟨_,_,_,_,_,rfl,z0,n0,zn,rfl,uK,hz,fun h0=>⟨_,rfl,ha h0⟩⟩
     ·cases hc
    ·cases hc
   ·cases hc
  ·cases hc
 ·rename_i b o len cap;simp only[Ask.val]at hc;split at hc
  ·rename_i cells elem hi;split at hc
   ·rename_i s hs;obtain⟨l',hl,he⟩:=map_some hc;simp at he;obtain⟨rfl,rfl⟩:=he;split at hs
    ·rename_i hlc;obtain⟨_,rfl⟩:=hd;obtain⟨cs,fz,h1,h2,h3⟩:=h.items _ _ (cf hi);obtain⟨pre,mid,post,rfl,e1,e2,h4⟩:=tg hs h3;obtain⟨h5,h6⟩:=rQ (R:=t.has β true) (fun a x vs h hd=>t.kt h hd) _ hl h4;subst e1;exact⟨_,_,_,rfl,h6.symm,hlc,(fun e=>by cases e),fun _=>⟨_,mid,rfl,rfl,h5,gI h1⟩⟩
    ·cases hs
   ·cases hc
  ·cases hc
 ·simp[Ask.val]at hc
end
abbrev Stp:=Option (Option Prop×LV×List (Nat×bE))
def cq:List (Nat×bE)→Hp→Hp
 | [],hp=>hp
 |(i,x)::d,hp=>cq d (cL hp i x)
def afc(k:IntKind):SI→SI
 | .lit x=>.lit (k.wrap x)
 | .sym x=>.sym (k.wrap x)
theorem abX(k:IntKind)(n:SI):(afc k n).val=k.wrap n.val:=by cases n<;>rfl
def aLX(op:UnOp):SV→Option SV
 | .int k n=>match op with
  | .neg=>some (.int k (map2 (fun x y=>k.wrap (x-y)) (.lit 0) n))
  | .xor=>some (.int k (map2 (dU k) (.lit (if k.signed then-1 else k.max)) n))
  |_=>none
 | .bool b=>match op with
  | .not=>some (.bool (match b with| .lit x=>.lit (!x)| .sym x=>.sym (!x)))
  |_=>none
 |_=>none
def H2:SV→Ask (Option Ty)
 | .rd _ _ t _=>.ret (some t)
 | .sl i _=>.get i fun x=>.ret (match x with|some (.own _ t _)=>some t|_=>none)
 | .vw i _ _ _ _=>.get i fun x=>.ret (match x with|some (.own _ t _)=>some t|_=>none)
 | .vb _ _ t _ _ _=>.ret (some t)
 |_=>.ret none
def lz(s:SV):Ask (Option (Bool×(t:Ty)×List t.D)):=(H2 s).bind fun o=>match o with
  |some t=>(ly t s).map fun c=>c.map fun p=>(p.1,⟨t,p.2⟩)
  |none=>.ret none
def fits(P:Program)(e:TypeId)(t:Ty):Bool:=decide (F5 P 8 e=some t)&&decide (fF P e=some t.w)
def lL(d:Int):Option LV→Option Int
 |none=>some d
 |some x=>(nq x).map (·.2)
def pD(len cap:Nat)(lo hi mx:Option LV):Option (Nat×Nat×Nat):=match mx with
 |some _=>none
 |none=>
  let h:Option Nat:=match hi with
   |none=>some len
   |some x=>match np x with
    |some (_,h)=>if h≤cap then some h else none
    |none=>none
  match h with
  |none=>none
  |some h=>match lo with
   |none=>some (0,h,cap)
   |some x=>match np x with
    |some (_,l)=>if l≤h then some (l,h,cap)else none
    |none=>none
def aDS(w:Nat)(x y:Int):SV→Option SV
 | .rd pm _ t l=>some (.rd pm false t ((l.drop x.toNat).take (y-x).toNat))
 | .sl i ver=>some (.vw i ver w x (y-x))
 | .vw i ver w z _=>some (.vw i ver w (z+x) (y-x))
 | .vb b o t m z _=>some (.vb b o t m (z+x) (y-x))
 |_=>none
def afd:JC:=⟨fun _=>true,fun _=>none,fun _=>false,fun _=>false⟩
def R7(P:Program)(t:TypeId):SV→Ask Stp
 | .ptr b off=>.get b fun x=>.ret (match x with
  |some (.cK cells _)=>(ij P t cells off).map fun x=>(none,.one x,[])
  |_=>none)
 | .yU b base oQ n z=>.get b fun x=>.ret (match x with
  |some (.cK cells _)=>match H0 P t cells base oQ n with
   |some items=>(aq1 z items).map fun x=>(none,.one x,[])
   |none=>none
  |_=>none)
 | .ep s w z f=>(lz s).map fun c=>match c with
  |some (pm,⟨ty,l⟩)=>if w=ty.w then
    (match rV P t with
     |some (n,e)=>if fits P e ty=true∧F5 P 8 t≠some ty∧f=0∧(pm||ty.flat)=true∧vN P t=some true∧fF P t=some (n*ty.w)then some (some (z.toNat+n≤l.length),.one (.agg [.arr ty n ((l.drop z.toNat).take n)]),[])
         else(ij P t (ty.Gz pm (l.getD z.toNat ty.z)) f).map fun x=>(none,.one x,[])
     |none=>(ij P t (ty.Gz pm (l.getD z.toNat ty.z)) f).map fun x=>(none,.one x,[]))
   else none
  |none=>none
 |_=>.ret none
def tl(t:Ty)(x:t.D)(f:Nat)(l:List SV):Option t.D:=if f=0∧wL l=t.w then t.read true l else match Oi (t.Gz true x) f l with
  |some c=>t.read true c
  |none=>none
def lY:List SV→Nat→SV→Option (List SV)
 | [],_,_=>none
 | .arr t n l::r,off,s=>if off=0 then some (s::r)else if n*t.w≤off then(lY r (off-n*t.w) s).map (.arr t n l:: ·)else none
 |_::_,0,_=>none
 |x::r,off+1,s=>(lY r off s).map (x:: ·)
def H3(P:Program)(t:TypeId)(a:SV)(l:List SV):Ask Stp:=if fF P t=some (wL l)then
  match a with
  | .ptr b off=>.get b fun x=>.ret (match x with
   |some (.cK cells elem)=>(Oi cells off l).map fun c=>(none,.dB [],[(b,.cK c elem)])
   |_=>none)
  | .ep (.sl i ver) w z f=>.get i fun x=>.ret (match x with
   |some (.own ver' ty m)=>if ver=ver'∧w=ty.w then(tl ty (m.getD z.toNat ty.z) f l).map fun y=>(none,.dB [],[(i,.own ver' ty (m.set z.toNat y))])else none
   |_=>none)
  | .ep (.vw i ver w' z' _) w z f=>.get i fun x=>.ret (match x with
   |some (.own ver' ty m)=>if ver=ver'∧w=ty.w∧w'=ty.w then(tl ty (m.getD (z'.toNat+z.toNat) ty.z) f l).map fun y=>(none,.dB [],[(i,.own ver' ty (m.set (z'.toNat+z.toNat) y))])else none
   |_=>none)
  | .ep (.vb b o ty n z' _) w z f=>.get b fun x=>.ret (match x with
   |some (.cK cells elem)=>match rowAt cells o with
    |some (.arr yO n' m)=>if yO=ty∧n'=n∧w=yO.w then match tl yO (m.getD (z'.toNat+z.toNat) yO.z) f l with
      |some y=>(lY cells o (.arr yO n' (m.set (z'.toNat+z.toNat) y))).map fun c=>(none,.dB [],[(b,.cK c elem)])
      |none=>none
     else none
    |_=>none
   |_=>none)
  |_=>.ret none
 else .ret none
def yY(P:Program)(t:TypeId)(x:SV)(i:LV):Ask Stp:=match x,rV P t,gv P t with
 | .ptr b off,some (n,e),_=>match fF P e with
  |some s=>match np i with
   |some (_,j)=>.ret (if j<n then some (none,.one (.sc (.ptr b (off+j*s))),[])else none)
   |none=>match nq i with
    |some (_,z)=>.get b fun y=>.ret (match y with
     |some (.cK cells _)=>match rowAt cells off with
      |some (.arr ty n' _)=>if n'=n∧s=ty.w then some (some (0≤z∧z<n),.one (.sc (.ep (.vb b off ty n 0 n) s z 0)),[])else none
      |_=>some (some (0≤z∧z<n),.one (.sc (.yU b off s n z)),[])
     |_=>none)
    |none=>.ret none
  |none=>.ret none
 | .slice b off len _,none,some e=>.ret (match fF P e with
  |some s=>match np i with
   |some (_,j)=>if j<len then some (none,.one (.sc (.ptr b (off+j*s))),[])else none
   |none=>match nq i with
    |some (_,z)=>some (some (0≤z∧z<len),.one (.sc (.yU b off s len z)),[])
    |none=>none
  |none=>none)
 |x,none,some e=>(lz x).map fun c=>match c,fF P e,nq i with
  |some (_,⟨ty,l⟩),some s,some (_,z)=>if s=ty.w then some (some (0≤z∧z<l.length),.one (.sc (.ep x s z 0)),[])else none
  |_,_,_=>none
 |_,_,_=>.ret none
def afe(P:Program)(t:TypeId)(x i:LV):Option (Option Prop×VV):=match x,rV P t with
 | .one (.agg l),some (n,e)=>match fF P e with
  |some s=>match np i with
   |some (_,j)=>if j<n then(ij P e l (j*s)).map fun x=>(none,x)else none
   |none=>match nq i with
    |some (_,z)=>match l with
     | [.arr ty n' m]=>if n'=n∧s=ty.w then(ij P e (ty.Gz true (m.getD z.toNat ty.z)) 0).map fun x=>(some (0≤z∧z<n),x)else none
     |_=>match H0 P e l 0 s n with
      |some items=>(aq1 z items).map fun x=>(some (0≤z∧z<n),x)
      |none=>none
    |none=>none
  |none=>none
 | .one (.sc s),none=>match P.underlying t,rR s,nq i with
  |some .string,some l,some (_,z)=>some (some (0≤z∧z<l.length∧0≤l.getD z.toNat 0∧l.getD z.toNat 0<256),.sc (.int .u8 (.sym (l.getD z.toNat 0))))
  |_,_,_=>none
 |_,_=>none
def R8(P:Program)(id:Nat)(src dst:TypeId)(x:SV):Ask Stp:=match P.underlying src,P.underlying dst with
 |some _,some (.int k)=>.ret (match x with
  | .int _ n=>some (none,.one (.sc (.int k (afc k n))),[])
  |_=>none)
 |some _,some (.float .f64)=>.ret (match x with
  | .int _ n=>some (none,.one (.sc (.rl (uM n.val))),[])
  |_=>none)
 |some (.slice e),some .string=>match P.underlying e with
  |some (.int .u8)=>(ly (.int .u8) x).map fun c=>c.map fun c=>(none,.one (.sc (.str c.2)),[])
  |_=>.ret none
 |some .string,some .string=>.ret (match rR x with
  |some l=>some (none,.one (.sc (.str l)),[])
  |none=>none)
 |some .string,some (.slice e)=>.ret (match P.underlying e,rR x with
  |some (.int .u8),some l=>if fF P e=some 1 then some (none,.one (.sc (.sl id 0)),[(id,.own 0 (.int .u8) (l.map fun n=>((UInt8.ofNat n.toNat).toNat:Int)))])else none
  |_,_=>none)
 |some (.slice _),some (.slice e)=>match x with
  | .sl i ver=>if src=dst then match P.underlying e with
    |some (.int .u8)=>.get i fun y=>.ret (match y with
     |some (.own ver' (.int .u8) l)=>if ver=ver'∧l≠ []then some (none,.one (.sc (.sl i ver)),[(i,.own ver' (.int .u8) l)])else none
     |_=>none)
    |_=>.ret none
   else .ret none
  |_=>.ret none
 |_,_=>.ret none
def R9(P:Program)(op:BinOp)(t:TypeId)(x y:LV):Option Bool:=match op,x,y,gv P t with
 | .eql,.one (.sc (.rd pm true ty l)),.one (.sc (.gm (.slice none _ _))),some _=>some false
 | .neq,.one (.sc (.rd pm true ty l)),.one (.sc (.gm (.slice none _ _))),some _=>some true
 |_,_,_,_=>none
def iD(P:Program)(id:Nat)(e:Operand→LV):Op→Ask Stp
 | .move x| .assign x=>.ret (some (none,e x,[]))
 | .pick c a b=>.ret (match e c with
  | .one (.sc (.bool (.lit t)))=>some (none,if t then e a else e b,[])
  | .one (.sc (.bool (.sym t)))=>match e a,e b with
   | .one x,.one y=>some (none,Ol t afd (.one x) (.one y),[])
   | .one x,_=>some (some (t=true),.one x,[])
   |_,.one y=>some (some (t=false),.one y,[])
   |_,_=>none
  |_=>none)
 | .alloc t=>.ret ((pB P t).map fun l=>(none,.one (.sc (.ptr id 0)),[(id,.cK l t)]))
 | .box t x=>.ret ((cellsOf (e x)).map fun l=>(none,.one (.sc (.ptr id 0)),[(id,.cK l t)]))
 | .build t parts=>.ret (match pB P t,WV P t with
  |some z,some place=>(yX place z (parts.toList.map fun p=>(p.1,e p.2))).map fun l=>(none,.one (.agg l),[])
  |_,_=>none)
 | .buildSlice t len parts=>.ret (match gv P t with
  |some el=>match fF P el,pB P el with
   |some s,some z=>if len*s≤16777216∧wL z=s∧0<s then match yX (fun i=>some (i*s,s)) ((List.replicate len z).flatten) (parts.toList.map fun p=>(p.1,e p.2))with
     |some l=>match F5 P 8 el with
      |some ty=>if ty.w=s then match vJ (ty.read true) ty.w len l with
        |some xs=>some (none,.one (.sc (.sl id 0)),[(id,.own 0 ty xs)])
        |none=>some (none,.one (.sc (.slice id 0 len len)),[(id,.cK l el)])
       else none
      |none=>some (none,.one (.sc (.slice id 0 len len)),[(id,.cK l el)])
     |none=>none
    else none
   |_,_=>none
  |none=>none)
 | .load t a=>match lr (e a)with
  |some a=>R7 P t a
  |none=>.ret none
 | .store t a x=>match lr (e a),cellsOf (e x)with
  |some a,some l=>H3 P t a l
  |_,_=>.ret none
 | .nilCheck x=>.ret (match e x with
  | .one (.sc (.ptr b off))=>some (none,.one (.sc (.ptr b off)),[])
  | .one (.sc (.ep s w z f))=>some (none,.one (.sc (.ep s w z f)),[])
  |_=>none)
 | .binOp op t x y _=>.ret (match R9 P op t (e x) (e y)with
  |some b=>some (none,.one (.sc (.bool (.lit b))),[])
  |none=>(ae8 P op t (e x) (e y)).map fun r=>(r.1,.one (.sc r.2),[]))
 | .unOp op _ x=>.ret (match lr (e x)with
  |some a=>(aLX op a).map fun r=>(none,.one (.sc r),[])
  |none=>none)
 | .convert src dst x=>match lr (e x)with
  |some a=>R8 P id src dst a
  |none=>.ret none
 | .sliceToArrayPointer t x=>match lr (e x),rV P t with
  |some (.slice b off len _),some (n,_)=>.ret (if n≤len then some (none,.one (.sc (.ptr b off)),[])else none)
  |some s,some (n,el)=>(lz s).map fun c=>match c with
   |some (_,⟨ty,l⟩)=>if 0<n∧fF P el=some ty.w then some (some (n≤l.length),.one (.sc (.ep s ty.w 0 0)),[])else none
   |none=>none
  |_,_=>.ret none
 | .slice t x lo hi mx=>match lr (e x),rV P t,gv P t with
  |some (.ptr b off),some (n,el),_=>.get b fun y=>.ret (match y,fF P el with
   |some (.cK cells _),some s=>match rowAt cells off with
    |some (.arr ty n' _)=>(match mx,lL 0 (lo.map e),lL n (hi.map e)with
     |none,some x,some y=>if n'=n∧s=ty.w then some (some (0≤x∧x≤y∧y≤n),.one (.sc (.vb b off ty n x (y-x))),[])else none
     |_,_,_=>none)
    |_=>(pD n n (lo.map e) (hi.map e) (mx.map e)).map fun r=>(none,.one (.sc (.slice b (if r.2.2=r.1 then off else off+r.1*s) (r.2.1-r.1) (r.2.2-r.1))),[])
   |_,_=>none)
  |some (.slice b off len cap),none,some el=>.ret (match pD len cap (lo.map e) (hi.map e) (mx.map e),fF P el with
   |some (l,h,m),some s=>some (none,.one (.sc (.slice b (if m=l then off else off+l*s) (h-l) (m-l))),[])
   |_,_=>none)
  |some s,none,some el=>(lz s).map fun c=>match c,fF P el with
   |some (_,⟨ty,l⟩),some sz=>(match mx,lL 0 (lo.map e),lL l.length (hi.map e)with
    |none,some x,some y=>if sz=ty.w then(aDS sz x y s).map fun r=>(some (0≤x∧x≤y∧y≤l.length),.one (.sc r),[])else none
    |_,_,_=>none)
   |_,_=>none
  |_,_,_=>.ret none
 | .fieldAddr s x f=>.ret (match lr (e x),AR P s with
  |some a,some fs=>match fs[f]? with
   |some fd=>match fF P fd.type with
    |some n=>if n=0 then none else match a with
     | .ptr b off=>some (none,.one (.sc (.ptr b (off+fd.offset))),[])
     | .ep s w z f0=>some (none,.one (.sc (.ep s w z (f0+fd.offset))),[])
     |_=>none
    |none=>none
   |none=>none
  |_,_=>none)
 | .field s x f=>.ret (match e x,AR P s with
  | .one (.agg l),some fs=>match fs[f]? with
   |some fd=>(ij P fd.type l fd.offset).map fun x=>(none,.one x,[])
   |none=>none
  |_,_=>none)
 | .indexAddr t x i=>match lr (e x)with
  |some a=>yY P t a (e i)
  |none=>.ret none
 | .index t x i=>.ret ((afe P t (e x) (e i)).map fun r=>(r.1,.one r.2,[]))
 | .extract x i=>.ret (match e x with
  | .dB l=>(l[i]?).map fun x=>(none,.one x,[])
  |_=>none)
 | .makeFunc (.func g) fs cs=>.ret (if fs.isEmpty then match cs.toList.map e with
   | []=>some (none,.one (.sc (.gm (.func (.func g) #[] #[]))),[])
   | [.one (.sc (.ptr b o))]=>some (none,.one (.sc (.WR g b o)),[])
   |_=>none
  else none)
 | .makeSlice t n c=>.ret (match gv P t,nq (e n),nq (e c)with
  |some el,some (_,n),some (_,c)=>match F5 P 8 el,fF P el,pB P el,rU P el with
   |some ty,some s,some z,some by_=>if s=ty.w∧0<s∧wL z=s then match ty.read true z with
     |some z=>some (some (c=n∧0≤n∧by_*n≤2 ^ 46∧n≤2 ^ 46),.one (.sc (.sl id 0)),[(id,.own 0 ty (List.replicate n.toNat z))])
     |none=>none
    else none
   |_,_,_,_=>none
  |_,_,_=>none)
 |_=>.ret none
def gn(P:Program)(o:Oper)(st:St)(q:Option Prop)(v:LV)(d:List (Nat×bE)):Prop:=iC q→∀ (W:World) (bP:Hp) (β₀ β:Env) (a:Act) (w:World),Rel W bP β₀ β st a w→∃ (β':Env) (w':World) (r:Next) (val:Value),(execOp a.eval o).run P w= .ok r w'∧(r= .value val∨(r= .skip∧val=undef))∧v.den β' (kd (cq d st.hp)) val∧cN W bP β₀ β' (cq d st.hp) w'∧dx β β' (kd st.hp) (kd (cq d st.hp))
theorem gn.pure{P:Program}{o:Oper}{st:St}{q:Option Prop}{v:LV}
  (h:iC q→∀ (W:World) (bP:Hp) (β₀ β:Env) (a:Act) (w:World),Rel W bP β₀ β st a w→
   ∃val:Value,(execOp a.eval o).run P w= .ok (.value val) w∧v.den β (kd st.hp) val):gn P o st q v []:=
 fun hq W bP β₀ β a w hr=>let ⟨val,h1,h2⟩:=h hq W bP β₀ β a w hr;⟨β,w,_,val,h1,.inl rfl,h2,hr.heap,dx.refl _ _⟩
def ev(st:St):Operand→LV
 | .tmp t=>st.fr.getD t .dT
 | .const v=>LV.rn v
 | .func f=>.one (.sc (.gm (.func (.func f) #[] #[])))
 | .global _=>.dT
theorem cF{W:World}{bP:Hp}{β₀ β:Env}{st:St}{a:Act}{w:World}(h:Rel W bP β₀ β st a w)(x:Operand):(ev st x).den β (kd st.hp) (a.eval x):=by
 cases x with
 |tmp t=>
  simp only[ev,Act.eval];cases hs:st.fr[t]? with
  |none=>simp[List.getD,hs,LV.den]
  |some y=>
   obtain⟨v,hv,hr⟩:=h.fr.get hs;have e:a.tmps.getD t undef=v:=by
    have:a.tmps[t]? =some v:=(by simpa using hv);simp[Array.getD_eq_getD_getElem?,this]
   rw[e];simpa [List.getD,hs]using hr
 |const v=>exact LV.te v
 |func f=>exact⟨rfl,rfl⟩
 |global g=>trivial
theorem GG:∀ {hp:Hp} {i:Nat} {x:bE},i<hp.length→cL hp i x=hp.set i (some x)
 | [],_,_,h=>by simp at h
 |_::_,0,_,_=>rfl
 |_::l,i+1,x,h=>by simp only[cL,List.set_cons_succ];rw[GG (by simpa using h)]
theorem CT{hp:Hp}{i:Nat}{x y:bE}(h:hp[i]? =some (some y)):cL hp i x=hp.set i (some x):=GG (List.getElem?_eq_some_iff.1 h).1
noncomputable section
variable {W:World} {bP:Hp} {β₀ β:Env} {hp:Hp} {w:World}
theorem cN.aff(h:cN W bP β₀ β hp w){id:Nat}(rA:kd hp id=none){cells:List SV}{c:List Value}(t:TypeId)(hc:dc β (kd hp) cells c):∃β',cN W bP β₀ β' (cL hp id (.cK cells t)) (w.alloc (.cells c.toArray t))∧dx β β' (kd hp) (kd (cL hp id (.cK cells t)))∧β'.b id=w.heap.size:=by
 have hb:(⟨fun j=>if j=id then w.heap.size else β.b j,β.h,β.rd⟩:Env).b id=w.heap.size:=if_pos rfl
 obtain⟨h1,h2⟩:=h.add rA (x:=.cK cells t) (β':=⟨fun j=>if j=id then w.heap.size else β.b j,β.h,β.rd⟩) (w':=w.alloc (.cells c.toArray t)) (fun j hj=>if_neg hj) (fun j _=>rfl) rfl (by simp) rfl rfl
  (fun b hb=>heap_alloc_old w _ b hb) (fun b ho=>by
   have Og:b=if id=id then w.heap.size else β.b id:=ho
   rw[if_pos rfl]at Og;omega)
  fun tY=>⟨c,(0,0),by rw[hb];exact heap_alloc_new w _,.inl rfl,hc.mono tY⟩
 exact⟨_,h1,h2,hb⟩
theorem cN.rZ(h:cN W bP β₀ β hp w){id:Nat}(rA:kd hp id=none){v:Value}{ver:Nat}{t:Ty}{l:List t.D}{w':World}(hs:w.heap.size≤w'.heap.size)(hos:w'.os=w.os)(HU:w'.output=w.output) (hold:∀b,b<w.heap.size→w'.heap[b]? =w.heap[b]?) (hv:eY β w' v t l) (n9:∀a n c,v= .slice (some a) n c→0<c→w.heap.size≤a.block):∃β',cN W bP β₀ β' (cL hp id (.own ver t l)) w'∧dx β β' (kd hp) (kd (cL hp id (.own ver t l)))∧β'.h id=v:=by
 have hb:(⟨β.b,fun j=>if j=id then v else β.h j,β.rd⟩:Env).h id=v:=if_pos rfl
 obtain⟨h1,h2⟩:=h.add rA (x:=.own ver t l) (β':=⟨β.b,fun j=>if j=id then v else β.h j,β.rd⟩) (w':=w') (fun j hj=>rfl) (fun j hj=>if_neg hj) rfl hs hos HU hold
  (fun b ho=>by
   obtain⟨a,n,c,e,h0,rfl⟩:=ho;rw[hb]at e;exact n9 a n c e h0)
  fun tY=>by show eY _ w' _ t l;rw[hb];exact hv.of tY.rd fun _ _ _ _ _=>rfl
 exact⟨_,h1,h2,hb⟩
theorem cN.yZ(h:cN W bP β₀ β hp w){i:Nat}{ver ver':Nat}{t:Ty}{l l':List t.D}(hi:hp[i]? =some (some (.own ver t l))){v:Value}{w':World}(aW3:ver<ver'∨(ver=ver'∧v=β.h i)) (hs:w.heap.size≤w'.heap.size) (hos:w'.os=w.os) (HU:w'.output=w.output) (hold:∀b,b<w.heap.size→¬dM β (.own ver t l) i b→w'.heap[b]? =w.heap[b]?) (hv:eY β w' v t l') (n9:∀a n c,v= .slice (some a) n c→0<c→dM β (.own ver t l) i a.block∨w.heap.size≤a.block):∃β',cN W bP β₀ β' (cL hp i (.own ver' t l')) w'∧dx β β' (kd hp) (kd (cL hp i (.own ver' t l')))∧β'.h i=v:=by
 have hb:(⟨β.b,fun j=>if j=i then v else β.h j,β.rd⟩:Env).h i=v:=if_pos rfl;rw[CT hi]
 obtain⟨h1,h2⟩:=h.R0 hi (x':=.own ver' t l') (β':=⟨β.b,fun j=>if j=i then v else β.h j,β.rd⟩) (w':=w') rfl (fun j hj=>if_neg hj) rfl
  (.inr ⟨ver,ver',rfl,rfl,by omega,fun e=>by rw[hb];rcases aW3 with k|⟨_,k⟩
                                             · omega
                                             · exact k⟩) hs hos HU hold
  (fun b ho=>by
   obtain⟨a,n,c,e,h0,rfl⟩:=ho;rw[hb]at e;exact n9 a n c e h0)
  fun tY=>by show eY _ w' _ t l';rw[hb];exact hv.of tY.rd fun _ _ _ _ _=>rfl
 exact⟨_,h1,h2,hb⟩
theorem cN.H4(h:cN W bP β₀ β hp w){i:Nat}{cells cells':List SV}{elem:TypeId}(hi:hp[i]? =some (some (.cK cells elem))){w':World} (hs:w.heap.size≤w'.heap.size) (hos:w'.os=w.os) (HU:w'.output=w.output) (hold:∀b,b≠β.b i→w'.heap[b]? =w.heap[b]?) {c:List Value} {fz:Nat×Nat} (hc:w'.heap[β.b i]? =some (.cells c.toArray elem fz)) (hfz:CI fz c.length) (hd:dc β (kd hp) cells' c):cN W bP β₀ β (cL hp i (.cK cells' elem)) w'∧dx β β (kd hp) (kd (cL hp i (.cK cells' elem))):=by
 rw[CT hi];exact h.R0 hi (x':=.cK cells' elem) rfl (fun _ _=>rfl) rfl (.inl ⟨rfl,rfl⟩) hs hos HU (fun b _ ho=>hold b ho) (fun b ho=>.inl ho) fun tY=>⟨c,fz,hc,hfz,hd.mono tY⟩
theorem cN.k9(h:cN W bP β₀ β hp w){i:Nat}{cells:List SV}{elem:TypeId}(hi:hp[i]? =some (some (.cK cells elem))):∃ (c:List Value) (fz:Nat×Nat),w.heap[β.b i]? =some (.cells c.toArray elem fz)∧CI fz c.length∧dc β (kd hp) cells c∧fu w ⟨β.b i,0,none⟩ c:=by
 obtain⟨c,fz,h1,h2,h3⟩:=h.items i _ hi;refine⟨c,fz,h1,h2,h3,?_⟩;have:=gI (w:=w) (b:=β.b i) (pre:= []) (mid:=c) (post:= []) (elem:=elem) (fz:=fz) (by simpa using h1);exact this
theorem cN.afg{P:Program}(h:cN W bP β₀ β hp w){i off:Nat}{cells cells' new:List SV}{elem:TypeId}(hi:hp[i]? =some (some (.cK cells elem)))(dZ:WS β (kd hp) cells cells' off new){ws:List Value}(hn:dc β (kd hp) new ws):∃w',(storeCells ⟨β.b i,off,none⟩ ws).run P w= .ok () w'∧cN W bP β₀ β (cL hp i (.cK cells' elem)) w'∧dx β β (kd hp) (kd (cL hp i (.cK cells' elem))):=by
 obtain⟨c,fz,h1,h2,h3,_⟩:=h.k9 hi;obtain⟨pre,old,post,rfl,e1,e2,h4⟩:=dZ _ _ h3 hn
 obtain⟨w',k1,k2,k3,k4,k5,k6⟩:=fU (P:=P) (a:=⟨β.b i,off,none⟩) rfl (elem:=elem) (fz:=fz) ws 0 pre old post w h1 (by simpa using e1) e2 hn.CH
  (fun o k1 k2=>h2.not (by simp;omega))
 obtain⟨m1,m2⟩:=h.H4 hi (cells':=cells') (w':=w') (by omega) k5 k6 k3 k2 (by
  have:(pre++(ws++post)).length=(pre++(old++post)).length:=by simp[e2]
  rw[this];exact h2) h4
 exact⟨w',k1,m1,m2⟩
theorem H5{P:Program}{t:TypeId}{a:Addr}{v:Value}{ws:List Value}{n:Nat}{w':World}(hs:fF P t=some n)(hv:v.cells=ws.toArray)(hl:ws.length=n)(hr:(storeCells a ws).run P w= .ok () w'):(storeVar t a v).run P w= .ok () w':=by
 unfold storeVar;rw[hv];simp only[Sem.run_bind,run_sizeOf hs,Result.andThen_ok];simpa [hl]using hr
theorem na(h:cN W bP β₀ β hp w){s:SV}{pm:Bool}{t:Ty}{l:List t.D}{v:Value}(hc:(lz s).val hp=some (pm,⟨t,l⟩))(hd:s.den β (kd hp) v):dw β pm w v t l:=by
 unfold lz at hc;rw[Ask.gC]at hc;split at hc
 ·rename_i t' _;rw[Ask.fc]at hc;obtain⟨⟨nm,l'⟩,h1,h2⟩:=map_some hc;simp at h2;obtain⟨rfl,rfl,h2⟩:=h2;simp at h2;subst h2;exact pC h h1 hd
 ·cases hc
theorem Ot(h:cN W bP β₀ β hp w){s:SV}{pm:Bool}{t:Ty}{l:List t.D}{wd:Nat}{z:Int}{f:Nat}{v:Value}(hc:(lz s).val hp=some (pm,⟨t,l⟩))(hd:(SV.ep s wd z f).den β (kd hp) v):∃a gq,v= .pointer (some (a.add (z.toNat*wd+f)))∧a.spot=none∧cI (t.has β pm) l gq∧fu w a gq∧0≤z∧z.toNat<l.length:=by
 obtain⟨a,n,c,h1,h2,h3,rfl⟩:=hd;obtain⟨a',n',c',e,hn,_,_,hr⟩:=na h hc h1;simp at e;obtain⟨rfl,rfl,rfl⟩:=e;obtain⟨a0,gq,e,k1,k2,k3⟩:=hr (by omega);simp at e;subst e;exact⟨a,gq,rfl,k1,k2,k3,h2,by omega⟩
end
noncomputable section
variable {P:Program} {st:St} {o:Oper} {q:Option Prop} {v:LV} {d:List (Nat×bE)}
theorem F6{P:Program}{w:World}{β:Env}{L:Nat→Option Kd}{isS:Bool}{len cap:Nat}{lo hi mx:Option LV}{lov hiv mxv:Option Value}{r:Nat×Nat×Nat} (h:pD len cap lo hi mx=some r) (hlo:∀x,lo=some x→∃y,lov=some y∧x.den β L y) (aLY:lo=none→lov=none) (hhi:∀x,hi=some x→∃y,hiv=some y∧x.den β L y) (aW4:hi=none→hiv=none) (aW5:mx=none→mxv=none):(Instr.sliceBounds isS len cap lov hiv mxv).run P w= .ok r w:=by
 unfold pD at h;cases mx with
 |some x=>simp at h
 |none=>
  simp only at h;obtain rfl:=aW5 rfl;have hbound:∀ (x:LV) (y:Value) (k:IntKind) (i c:Nat) (code:BoundsCode),np x=some (k,i)→x.den β L y→i≤c→(Instr.sliceBound y c code).run P w= .ok i w:=by
   intro x y k i c code hl hd hle;have:=qo hl hd;subst this;have h1:(0:Int)≤i∧(i:Int)≤c:=(by omega);simp[Instr.sliceBound,asIntOf,h1]
  unfold Instr.sliceBounds;cases hi with
  |none=>
   obtain rfl:=aW4 rfl;simp only at h;cases lo with
   |none=>
    obtain rfl:=aLY rfl;simp at h;subst h;simp
   |some x=>
    obtain⟨y,rfl,hd⟩:=hlo x rfl;simp only at h;cases hl:np x with
    |none=>simp[hl]at h
    |some p=>
     obtain⟨k,i⟩:=p;simp only[hl]at h;split at h
     ·rename_i hle;simp at h;subst h;simp[hbound x y k i len _ hl hd hle]
     ·simp at h
  |some z=>
   obtain⟨u,rfl,hdz⟩:=hhi z rfl;simp only at h;cases hlz:np z with
   |none=>simp[hlz]at h
   |some p=>
    obtain⟨kz,iz⟩:=p;simp only[hlz]at h;split at h
    ·simp at h
    ·rename_i hh hle;split at hle
     ·rename_i aLZ;simp at hle;subst hle;cases lo with
      |none=>
       obtain rfl:=aLY rfl;simp at h;subst h;simp[hbound z u kz iz cap _ hlz hdz aLZ]
      |some x=>
       obtain⟨y,rfl,hd⟩:=hlo x rfl;simp only at h;cases hl:np x with
       |none=>simp[hl]at h
       |some p=>
        obtain⟨k,i⟩:=p;simp only[hl]at h;split at h
        ·rename_i hle;simp at h;subst h;simp[hbound z u kz iz cap _ hlz hdz aLZ,hbound x y k i iz _ hl hd hle]
        ·simp at h
     ·simp at hle
theorem vP{P:Program}{W:World}{bP:Hp}{β₀ β:Env}{st:St}{a:Act}{w:World}(hr:Rel W bP β₀ β st a w){isS:Bool}{lo hi:Option Operand}{n c:Nat}{x y:Int} (hlo:lL 0 (lo.map (ev st))=some x) (hhi:lL n (hi.map (ev st))=some y) (h0:0≤x) (h1:x≤y) (h2:y≤n) (hc:n≤c):(Instr.sliceBounds isS n c (lo.map a.eval) (hi.map a.eval) none).run P w= .ok (x.toNat,y.toNat,c) w:=by
 have aL0:∀ (z:Operand) (m:Int) (c:Nat) (code:BoundsCode),(nq (ev st z)).map (·.2)=some m→0≤m→m≤c→(Instr.sliceBound (a.eval z) c code).run P w= .ok m.toNat w:=by
  intro z m c code hz h0 h1;obtain⟨⟨k',n'⟩,hz1,rfl⟩:=map_some hz;have:=ig hz1 (cF hr z);rw[this];simp[Instr.sliceBound,asIntOf,h0,h1]
 have hy:∀z,hi=some z→∀code,(Instr.sliceBound (a.eval z) c code).run P w= .ok y.toNat w:=fun z hz code=>by
  subst hz;exact aL0 z y c _ (by simpa [lL]using hhi) (by omega) (by omega)
 have hx:∀z,lo=some z→∀code,(Instr.sliceBound (a.eval z) y.toNat code).run P w= .ok x.toNat w:=fun z hz code=>by
  subst hz;exact aL0 z x _ _ (by simpa [lL]using hlo) h0 (by omega)
 have hy0:hi=none→y.toNat=n:=fun h=>by
  subst h;have:(n:Int)=y:=by simpa [lL]using hhi
  omega
 have W0:lo=none→x.toNat=0:=fun h=>by
  subst h;have:(0:Int)=x:=by simpa [lL]using hlo
  omega
 unfold Instr.sliceBounds;cases hi with
 |none=>
  have e1:=hy0 rfl;cases lo with
  |none=>have e2:=W0 rfl;simp[e1,e2]
  |some z=>have e2:=hx z rfl;rw[e1]at e2;simp[e1,e2]
 |some z'=>
  have e1:=hy z' rfl;cases lo with
  |none=>have e2:=W0 rfl;simp[e1,e2]
  |some z=>have e2:=hx z rfl;simp[e1,e2]
theorem Ou{id:Nat}{cells:List SV}{t:TypeId}{mk:Act→Sem Value}(hop:∀a:Act,execOp a.eval o=(do pure (.value (← mk a))))
  (h:∀W bP β₀ β a w,Rel W bP β₀ β st a w→∃c:List Value,dc β (kd st.hp) cells c∧(mk a).run P w= .ok (.pointer (some ⟨w.heap.size,0,none⟩)) (w.alloc (.cells c.toArray t))) (rA:kd st.hp id=none):
  gn P o st none (.one (.sc (.ptr id 0))) [(id,.cK cells t)]:=by
 intro _ W bP β₀ β a w hr;obtain⟨c,hd,gp⟩:=h W bP β₀ β a w hr;obtain⟨β',h1,h2,h3⟩:=hr.heap.aff rA t hd;refine⟨β',_,_,.pointer (some ⟨w.heap.size,0,none⟩),?_,.inl rfl,?_,h1,h2⟩
 ·rw[hop,Sem.run_bind,gp];rfl
 ·refine⟨?_,by rw[h3]⟩;show kd (cL st.hp id (.cK cells t)) id=some .cK;rw[fB,if_pos rfl];rfl
end
noncomputable section
variable {P:Program} {st:St} {o:Oper} {q:Option Prop} {v:LV} {d:List (Nat×bE)}
theorem afh{β:Env}{t:Ty}{pm:Bool}{l:List t.D}{vs:List Value}(h:cI (t.has β pm) l vs){j n:Nat}(hj:j+n≤l.length):∃pre mid post,vs=pre++(mid++post)∧pre.length=j*t.w∧mid.length=n*t.w∧cI (t.has β pm) ((l.drop j).take n) mid:=by
 obtain⟨v1,v2,rfl,k1,k2⟩:=j8 h j;obtain⟨v3,v4,rfl,k3,k4⟩:=j8 k2 n;refine⟨v1,v3,v4,rfl,?_,?_,k3⟩
 ·rw[dh k1,List.length_take,Nat.min_eq_left (by omega)]
 ·rw[dh k3,List.length_take,List.length_drop,Nat.min_eq_left (by omega)]
theorem aq3{t:TypeId}{x:Operand}{s:SV}(ho:o.op= .load t x)(hx:lr (ev st x)=some s)(h:(R7 P t s).val st.hp=some (q,v,d)):gn P o st q v d:=by
 have key:∀ {v:LV},(iC q→∀ (W:World) (bP:Hp) (β₀ β:Env) (a:Act) (w:World),Rel W bP β₀ β st a w→s.den β (kd st.hp) (a.eval x)→
   ∃ (ad:Addr) (val:Value),a.eval x= .pointer (some ad)∧(loadVar t ad).run P w= .ok val w∧v.den β (kd st.hp) val)→gn P o st q v []:=by
  intro v hk;refine gn.pure fun hq W bP β₀ β a w hr=>?_;obtain⟨ad,val,e,h1,h2⟩:=hk hq W bP β₀ β a w hr (cX hx (cF hr x));exact⟨val,by simp[execOp,ho,Instr.loadAt,e,Instr.sureAddr,h1],h2⟩
 unfold R7 at h;split at h
 ·rename_i b off;simp only[Ask.val]at h;split at h
  ·rename_i cells elem hb;obtain⟨y,hy,he⟩:=map_some h;simp at he;obtain⟨rfl,rfl,rfl⟩:=he;refine key fun _ W bP β₀ β a w hr hd=>?_;obtain⟨_,e⟩:=hd;obtain⟨c,fz,_,_,h3,h4⟩:=hr.heap.k9 (cf hb);obtain⟨val,h5,h6⟩:=mP (P:=P) rfl h4 h3 hy;rw[dN,Nat.zero_add]at h5;exact⟨_,val,e,h5,h6⟩
  ·cases h
 ·rename_i b base oQ n z;simp only[Ask.val]at h;split at h
  ·rename_i cells elem hb;split at h
   ·rename_i items hit;obtain⟨y,hy,he⟩:=map_some h;simp at he;obtain⟨rfl,rfl,rfl⟩:=he;refine key fun _ W bP β₀ β a w hr hd=>?_;obtain⟨_,hz,e⟩:=hd;obtain⟨c,fz,_,_,h3,h4⟩:=hr.heap.k9 (cf hb);obtain⟨it,hi1,hi2⟩:=Ag hit hz;obtain⟨val,h5,h6⟩:=mP (P:=P) rfl h4 h3 hi2;rw[dN,Nat.zero_add]at h5;exact⟨_,val,e,h5,WZ hi1 h6 hy⟩
   ·cases h
  ·cases h
 ·rename_i s' wd z f;rw[Ask.fc]at h;split at h
  ·rename_i pm ty l hc;split at h
   ·rename_i hw;subst hw;have W1:∀ {y:VV},ij P t (ty.Gz pm (l.getD z.toNat ty.z)) f=some y→gn P o st q (.one y) []:=by
     intro y hy;refine key fun _ W bP β₀ β a w hr hd=>?_;obtain⟨ad,gq,e,k1,k2,k3,k4,k5⟩:=Ot hr.heap hc hd;obtain⟨pre,u,post,rfl,e1,h5,_⟩:=ln k2 k5;have h6:=fu.mid k1 k3;obtain⟨val,h7,h8⟩:=mP (P:=P) (py k1 _) h6 (ty.oR (L:=kd st.hp) h5) hy;rw[add_add k1,e1]at h7;exact⟨_,val,e,h7,h8⟩
    split at h
    ·rename_i n el rB;split at h
     ·rename_i pE;obtain⟨_,_,rfl,Sa,tY,hsz⟩:=pE;simp at h;obtain⟨rfl,rfl,rfl⟩:=h;refine key fun hq W bP β₀ β a w hr hd=>?_;have hq':z.toNat+n≤l.length:=hq;obtain⟨ad,gq,e,k1,k2,k3,k4,k5⟩:=Ot hr.heap hc hd;obtain⟨pre,mid,post,rfl,e1,e2,h5'⟩:=afh k2 hq';have h5:cI (ty.has β true) ((l.drop z.toNat).take n) mid:=by
       cases pm with
       |true=>exact h5'
       |false=>exact h5'.imp fun _ _=>ty.uG (by simpa using Sa)
      have h6:=fu.mid k1 k3;refine⟨_,.agg mid.toArray,e,?_,mid,rfl,cI.one (R:=SV.kZ β (kd st.hp)) ⟨by simp;omega,h5⟩⟩;unfold loadVar;simp only[Sem.run_bind,j9 tY,Result.andThen_ok,if_true,run_sizeOf hsz,Nat.add_zero];have h7:=oo (P:=P) h6;rw[e1,e2]at h7;rw[h7];rfl
     ·obtain⟨y,hy,he⟩:=map_some h;simp at he;obtain⟨rfl,rfl,rfl⟩:=he;exact W1 hy
    ·obtain⟨y,hy,he⟩:=map_some h;simp at he;obtain⟨rfl,rfl,rfl⟩:=he;exact W1 hy
   ·cases h
  ·cases h
 ·simp[Ask.val]at h
theorem CU{β:Env}{L:Nat→Option Kd}{t:Ty}{x y:t.D}{f:Nat}{l:List SV}(h:tl t x f l=some y){u ws:List Value}(hx:t.has β true x u)(hn:dc β L l ws):∃pre old post,u=pre++(old++post)∧pre.length=f∧old.length=ws.length∧t.has β true y (pre++(ws++post)):=by
 unfold tl at h;split at h
 ·rename_i hc;obtain⟨rfl,hw⟩:=hc;refine⟨[],u,[],by simp,rfl,by rw[t.ie hx,hn.length,hw],?_⟩;simpa using t.kt h hn
 ·split at h
  ·rename_i c ae4;obtain⟨pre,old,post,rfl,e1,e2,h3⟩:=vK _ _ ae4 _ _ (t.oR hx) hn;exact⟨pre,old,post,rfl,e1,e2,t.kt h h3⟩
  ·cases h
theorem oq{β:Env}{L:Nat→Option Kd}:∀ (l:List SV) (off:Nat) {t:Ty} {n:Nat} {x y:List t.D} {l':List SV} {vs:List Value},rowAt l off=some (.arr t n x)→lY l off (.arr t n y)=some l'→dc β L l vs→y.length=n→
  ∃pre mid post,vs=pre++(mid++post)∧pre.length=off∧x.length=n∧cI (t.has β true) x mid∧∀vQ,cI (t.has β true) y vQ→dc β L l' (pre++(vQ++post))
 | [],_,_,_,_,_,_,_,h,_,_,_=>by simp[rowAt]at h
 |s::r,off,t,n,x,y,l',vs,h,uJ,hd,hy=>by
  have plain:(∀t n l,s≠ .arr t n l)→∃pre mid post,vs=pre++(mid++post)∧pre.length=off∧x.length=n∧cI (t.has β true) x mid∧∀vQ,cI (t.has β true) y vQ→dc β L l' (pre++(vQ++post)):=by
   intro hs;cases hd with
   |cons h1 h2=>
    obtain⟨v,rfl,hv⟩:=SV.lj h1 hs;cases off with
    |zero=>
     exfalso;cases s with
     |arr t n l=>exact absurd rfl (hs t n l)
     |_=>simp[rowAt]at h
    |succ off=>
     have h':rowAt r off=some (.arr t n x):=by
      cases s with
      |arr t n l=>exact absurd rfl (hs t n l)
      |_=>exact h
     have N9:(lY r off (.arr t n y)).map (s:: ·)=some l':=by
      cases s with
      |arr t n l=>exact absurd rfl (hs t n l)
      |_=>exact uJ
     obtain⟨r',rL,rfl⟩:=map_some N9;obtain⟨pre,mid,post,rfl,e,h3,h4,h5⟩:=oq r off h' rL h2 hy;exact⟨v::pre,mid,post,rfl,by simp[e],h3,h4,fun vQ hm=>dc.pq hv (h5 vQ hm)⟩
  cases s with
  |arr t' n' l0=>
   have h':(if off=0 then some (.arr t' n' l0)else if n'*t'.w≤off then rowAt r (off-n'*t'.w)else none)=some (SV.arr t n x):=(by cases off<;>exact h);have N9:(if off=0 then some (SV.arr t n y::r)else if n'*t'.w≤off then(lY r (off-n'*t'.w) (.arr t n y)).map (.arr t' n' l0:: ·)else none)=some l':=(by cases off<;>exact uJ);cases hd with
   |cons h1 h2=>
    rename_i us ws;split at h'
    ·rename_i e0;rw[if_pos e0]at N9;simp at h';obtain⟨rfl,rfl,e⟩:=h';simp at e;subst e;simp at N9;subst N9;exact⟨[],us,ws,rfl,by simp[e0],h1.1,h1.2,fun vQ hm=>by simpa using cI.cons (R:=SV.kZ β L) (x:=.arr t' n' y) (vs:=vQ) ⟨hy,hm⟩ h2⟩
    ·rename_i e0;rw[if_neg e0]at N9;split at h'
     ·rename_i hle;rw[if_pos hle]at N9;obtain⟨r',rL,rfl⟩:=map_some N9;obtain⟨pre,mid,post,rfl,e,h3,h4,h5⟩:=oq r _ h' rL h2 hy;have F2:=SV.j7 h1;simp only[SV.w]at F2;refine⟨us++pre,mid,post,by simp,by simp[F2,e];omega,h3,h4,fun vQ hm=>?_⟩;rw[List.append_assoc];exact .cons h1 (h5 vQ hm)
     ·cases h'
  |_=>exact plain (by intros;simp)
theorem cN.Ov{P:Program}{W:World}{bP:Hp}{β₀ β:Env}{hp:Hp}{w:World}(h:cN W bP β₀ β hp w){i ver:Nat}{t:Ty}{m:List t.D}(hi:hp[i]? =some (some (.own ver t m))) {a0:Addr} {n c:Nat} (he:β.h i= .slice (some a0) n c) {j f:Nat} (hj:j<m.length) {l:List SV} {y:t.D} (hy:tl t (m.getD j t.z) f l=some y) {ws:List Value} (hn:dc β (kd hp) l ws):∃w' β',(storeCells (a0.add (j*t.w+f)) ws).run P w= .ok () w'∧cN W bP β₀ β' (cL hp i (.own ver t (m.set j y))) w'∧dx β β' (kd hp) (kd (cL hp i (.own ver t (m.set j y)))):=by
 have hit:eY β w (β.h i) t m:=h.items _ _ hi;obtain⟨a,n',c',e,hn1,hn2,_,h4⟩:=hit;rw[he]at e;simp at e;obtain⟨rfl,rfl,rfl⟩:=e;obtain⟨a1,pre,gq,rest,elem,fz,e,k1,k2,k3,k4,k5,k6⟩:=h4 (by omega);simp at e;subst e;obtain⟨pa,u,pb,rfl,e1,h6,h7,h8⟩:=ln k4 hj;obtain⟨p1,old,p2,rfl,e2,e3,h9⟩:=CU hy h6 hn;have azG:old.length=ws.length:=e3
 obtain⟨w',r1,r2,r3,r4,r5,r6⟩:=fU (P:=P) (a:=a0.add (j*t.w+f)) (py k1 _) (elem:=elem) (fz:=fz) ws 0 (pre++pa++p1) old (p2++pb++rest) w
  (by rw[fY,k2];simp) (by
   obtain⟨b0,o0,s0⟩:=a0;simp at k1 k3;subst k1;rw[dN];simp[k3,e1,e2]<;>omega) azG hn.CH (fun off q1 q2=>k6.not (by simp at q2 ⊢;omega))
 rw[fY]at r2 r3;have uJ:cI (t.has β true) (m.set j y) (pa++((p1++(ws++p2))++pb)):=cI.RZ hj h9 h7 h8
 obtain⟨β',s1,s2,s3⟩:=h.yZ hi (ver':=ver) (l':=m.set j y) (v:=β.h i) (w':=w') (.inr ⟨rfl,rfl⟩) (by omega) r5 r6 (fun b hb rC=>by
   refine r3 b fun e=>rC ?_;subst e;exact⟨a0,n,c,he,by omega,rfl⟩)
  (by
   rw[he];refine⟨some a0,n,c,rfl,by simpa using hn1,hn2,by simp,fun _=>⟨a0,pre,pa++((p1++(ws++p2))++pb),rest,elem,fz,rfl,k1,?_,k3,uJ,k5,?_⟩⟩
   ·rw[r2];simp
   ·have:(pre++(pa++(p1++(ws++p2)++pb)++rest)).length=(pre++(pa++(p1++(old++p2)++pb)++rest)).length:=(by simp[azG]);rw[this];exact k6)
  (fun a n c e h0=>.inl ⟨a,n,c,e,h0,rfl⟩)
 exact⟨w',β',r1,s1,s2⟩
theorem afi{t:TypeId}{x y:Operand}{s:SV}{l:List SV}(ho:o.op= .store t x y)(hx:lr (ev st x)=some s)(hl:cellsOf (ev st y)=some l)(h:(H3 P t s l).val st.hp=some (q,v,d)):gn P o st q v d:=by
 unfold H3 at h;split at h
 rotate_left
 ·simp[Ask.val]at h
 rename_i hsz
 have key:∀ {d:List (Nat×bE)},(iC q→∀ (W:World) (bP:Hp) (β₀ β:Env) (a:Act) (w:World),Rel W bP β₀ β st a w→s.den β (kd st.hp) (a.eval x)→∀ws,dc β (kd st.hp) l ws→
   ∃ (ad:Addr) (w':World) (β':Env),a.eval x= .pointer (some ad)∧(storeCells ad ws).run P w= .ok () w'∧cN W bP β₀ β' (cq d st.hp) w'∧dx β β' (kd st.hp) (kd (cq d st.hp)))→gn P o st q (.dB []) d:=by
  intro d hk hq W bP β₀ β a w hr;obtain⟨ws,hws,hdw⟩:=rT hl (cF hr y);obtain⟨ad,w',β',e,h1,h2,h3⟩:=hk hq W bP β₀ β a w hr (cX hx (cF hr x)) ws hdw;refine⟨β',w',.skip,undef,?_,.inr ⟨rfl,rfl⟩,⟨[],rfl,.nil⟩,h2,h3⟩;have:=H5 hsz hws hdw.length h1;simp[execOp,ho,Instr.storeAt,e,Instr.sureAddr,this]
 split at h
 ·rename_i b off;simp only[Ask.val]at h;split at h
  ·rename_i cells elem hb;obtain⟨c,hc,he⟩:=map_some h;simp at he;obtain⟨rfl,rfl,rfl⟩:=he;refine key fun _ W bP β₀ β a w hr hd ws hw=>?_;obtain⟨_,e⟩:=hd;obtain⟨w',h1,h2,h3⟩:=hr.heap.afg (P:=P) (cf hb) (vK _ _ hc) hw;exact⟨_,w',β,e,h1,h2,h3⟩
  ·cases h
 ·rename_i i ver wd z f;simp only[Ask.val]at h;split at h
  ·rename_i ver' ty m hi;split at h
   ·rename_i hc;obtain⟨rfl,rfl⟩:=hc;obtain⟨y',hy',he⟩:=map_some h;simp at he;obtain⟨rfl,rfl,rfl⟩:=he;refine key fun _ W bP β₀ β a w hr hd ws hw=>?_;obtain⟨ad,n,c,h1,h2,h3,e⟩:=hd;obtain⟨tZ,hh⟩:=hr.heap.rY (p:=fun v=>Value.slice (some ad) n c=v) (cf hi) h1.2;obtain⟨_,n',_,e',yP,_⟩:=tZ;rw[← hh]at e';simp at e';obtain⟨w',β',r1,r2,r3⟩:=hr.heap.Ov (P:=P) (cf hi) hh.symm (j:=z.toNat) (by omega) hy' hw;exact⟨_,w',β',e,r1,r2,r3⟩
   ·cases h
  ·cases h
 ·rename_i i ver w' z' n' wd z f;simp only[Ask.val]at h;split at h
  ·rename_i ver' ty m hi;split at h
   ·rename_i hc;obtain⟨rfl,rfl,rfl⟩:=hc;obtain⟨y',hy',he⟩:=map_some h;simp at he;obtain⟨rfl,rfl,rfl⟩:=he;refine key fun _ W bP β₀ β a w hr hd ws hw=>?_;obtain⟨ad,n,c,h1,h2,h3,e⟩:=hd;obtain⟨tZ,hh⟩:=hr.heap.rY (p:=fun v=>z9 v ty.w z' n' (Value.slice (some ad) n c)) (cf hi) h1.2;obtain⟨a1,m1,c1,a2,c2,e1,z0,n0,hle,e2,_,_,vR⟩:=hh;simp at e2;obtain⟨rfl,rfl,rfl⟩:=e2;obtain⟨a3,rfl,e3⟩:=vR (by omega);simp at e3;subst e3;obtain⟨_,m2,_,e',yP,_,_,gQ⟩:=tZ;rw[e1]at e';simp at e';obtain⟨rfl,rfl,rfl⟩:=e';have aW8:z'.toNat+z.toNat<m.length:=by
     clear gQ vR h1;omega
    obtain⟨a4,_,_,_,_,_,e4,hsp,_⟩:=gQ (by omega);simp at e4;subst e4;obtain⟨w',β',r1,r2,r3⟩:=hr.heap.Ov (P:=P) (cf hi) e1 (j:=z'.toNat+z.toNat) aW8 hy' hw;refine⟨_,w',β',e,?_,r2,r3⟩;rw[add_add hsp,← Nat.add_assoc,← Nat.add_mul];exact r1
   ·cases h
  ·cases h
 ·rename_i b o' ty n z' n' wd z f;simp only[Ask.val]at h;split at h
  ·rename_i cells elem hb;split at h
   ·rename_i yO n0 m lX;split at h
    ·rename_i hc;obtain⟨rfl,rfl,rfl⟩:=hc;split at h
     ·rename_i y' hy';obtain⟨cells',uK,he⟩:=map_some h;simp at he;obtain⟨rfl,rfl,rfl⟩:=he;refine key fun _ W bP β₀ β a w hr hd ws hw=>?_;obtain⟨ad,nn,c,h1,h2,h3,e⟩:=hd;obtain⟨_,z0,n0',zn,a',c'',e1,_,_,vR⟩:=h1;simp at e1;obtain⟨rfl,rfl,rfl⟩:=e1;have e2:=vR (by omega);simp at e2;subst e2;obtain⟨cs,fz,g1,g2,g3,_⟩:=hr.heap.k9 (cf hb);have hml:m.length=n0:=by
       obtain⟨_,_,_,_,_,hh,_⟩:=rX _ _ lX g3;exact hh
      obtain⟨pre,mid,post,rfl,e3,_,h6,h7⟩:=oq _ _ lX uK g3 (by simpa using hml);obtain⟨pa,u,pb,rfl,e4,h8,h9,h10⟩:=ln h6 (j:=z'.toNat+z.toNat) (by omega);obtain⟨p1,old,p2,rfl,e5,e6,H6⟩:=CU hy' h8 hw;have uJ:cI (yO.has β true) (m.set (z'.toNat+z.toNat) y') (pa++((p1++(ws++p2))++pb)):=cI.RZ (by omega) H6 h9 h10
      obtain⟨w',r1,r2,r3,r4,r5,r6⟩:=fU (P:=P) (a:=⟨β.b b,o'+((z'.toNat+z.toNat)*yO.w+f),none⟩) rfl (elem:=elem) (fz:=fz) ws 0 (pre++pa++p1) old (p2++pb++post) w
       (by rw[g1];simp) (by simp[e3,e4,e5]<;>omega) e6 hw.CH (fun off q1 q2=>g2.not (by simp at q2 ⊢;omega))
      obtain⟨s1,s2⟩:=hr.heap.H4 (cf hb) (cells':=cells') (w':=w') (by omega) r5 r6 r3 (c:=pre++((pa++((p1++(ws++p2))++pb))++post)) (fz:=fz)
       (by rw[r2];simp) (by
        have:(pre++((pa++((p1++(ws++p2))++pb))++post)).length=(pre++((pa++((p1++(old++p2))++pb))++post)).length:=(by simp[e6]);rw[this];exact g2) (h7 _ uJ)
      refine⟨_,w',β,e,?_,s1,s2⟩;rw[dN,dN];have:o'+z'.toNat*yO.w+(z.toNat*yO.w+f)=o'+((z'.toNat+z.toNat)*yO.w+f):=(by rw[Nat.add_mul];omega);rw[this];exact r1
     ·cases h
    ·cases h
   ·cases h
  ·cases h
 ·simp[Ask.val]at h
end
noncomputable section
variable {P:Program} {st:St} {o:Oper} {q:Option Prop} {v:LV} {d:List (Nat×bE)}
theorem abZ{hp:Hp}{s:SV}{c:Bool×(t:Ty)×List t.D}(h:(lz s).val hp=some c):(H2 s).val hp=some c.2.1:=by
 unfold lz at h;rw[Ask.gC]at h;split at h
 ·rename_i t ht;rw[Ask.fc]at h;obtain⟨⟨nm,l'⟩,h1,h2⟩:=map_some h;subst h2;exact ht
 ·cases h
theorem Sb{t:TypeId}{x i:Operand}{s:SV}(ho:o.op= .indexAddr t x i)(hx:lr (ev st x)=some s)(h:(yY P t s (ev st i)).val st.hp=some (q,v,d)):gn P o st q v d:=by
 unfold yY at h;split at h
 ·rename_i b off n e rB;have hu:=pA rB;split at h
  ·rename_i sz hs;split at h
   ·rename_i k j hi;simp only[Ask.val]at h;split at h
    ·rename_i hj;simp at h;obtain⟨rfl,rfl,rfl⟩:=h;refine gn.pure fun hq W bP β₀ β a w hr=>?_;have ei:=qo hi (cF hr i);obtain⟨hb,ex⟩:=cX hx (cF hr x);refine⟨.pointer (some ⟨β.b b,off+j*sz,none⟩),?_,hb,rfl⟩;have hb:(0:Int)≤j∧(j:Int)<n:=(by omega);simp[execOp,ho,ex,ei,Instr.indexAt,asIntOf,underlying,hu,Instr.sureAddr,hb,run_sizeOf hs,dN];omega
    ·cases h
   ·split at h
    ·rename_i k z hi;simp only[Ask.val]at h;have gp:∀ {W:World} {bP:Hp} {β₀ β:Env} {a:Act} {w:World},Rel W bP β₀ β st a w→0≤z∧z<(n:Int)→(execOp a.eval o).run P w= .ok (.value (.pointer (some ⟨β.b b,off+z.toNat*sz,none⟩))) w:=by
      intro W bP β₀ β a w hr hb;have ei:=ig hi (cF hr i);obtain⟨_,ex⟩:=cX hx (cF hr x);simp[execOp,ho,ex,ei,Instr.indexAt,asIntOf,underlying,hu,Instr.sureAddr,hb,run_sizeOf hs,dN]
     split at h
     ·rename_i cells elem hb;split at h
      ·rename_i ty n' l lX;split at h
       ·rename_i hc;obtain⟨rfl,rfl⟩:=hc;simp at h;obtain⟨rfl,rfl,rfl⟩:=h;refine gn.pure fun hq W bP β₀ β a w hr=>?_;have hb:0≤z∧z<(n':Int):=hq;obtain⟨CV,_⟩:=cX hx (cF hr x);refine⟨_,gp hr hb,⟨β.b b,off,none⟩,n',n',⟨CV,by omega,by omega,by omega,_,_,rfl,Nat.le_refl _,(fun e=>by cases e),fun _=>by simp[dN]⟩,hb.1,hb.2,by rw[dN,Nat.add_zero]⟩
       ·cases h
      ·simp at h;obtain⟨rfl,rfl,rfl⟩:=h;refine gn.pure fun hq W bP β₀ β a w hr=>?_;have hb:0≤z∧z<(n:Int):=hq;obtain⟨CV,_⟩:=cX hx (cF hr x);exact⟨_,gp hr hb,CV,by omega,rfl⟩
     ·cases h
    ·simp[Ask.val]at h
  ·simp[Ask.val]at h
 ·rename_i b off len cap e rB ru;have hu:=fZ ru;simp only[Ask.val]at h;split at h
  ·rename_i sz hs;split at h
   ·rename_i k j hi;split at h
    ·rename_i hj;simp at h;obtain⟨rfl,rfl,rfl⟩:=h;refine gn.pure fun hq W bP β₀ β a w hr=>?_;have ei:=qo hi (cF hr i);obtain⟨hb,ex⟩:=cX hx (cF hr x);refine⟨.pointer (some ⟨β.b b,off+j*sz,none⟩),?_,hb,rfl⟩;have hb:(0:Int)≤j∧(j:Int)<len:=(by omega);simp[execOp,ho,ex,ei,Instr.indexAt,asIntOf,underlying,hu,Instr.sureAddr,hb,run_sizeOf hs,dN];omega
    ·cases h
   ·split at h
    ·rename_i k z hi;simp at h;obtain⟨rfl,rfl,rfl⟩:=h;refine gn.pure fun hq W bP β₀ β a w hr=>?_;have hb:0≤z∧z<(len:Int):=hq;have ei:=ig hi (cF hr i);obtain⟨CV,ex⟩:=cX hx (cF hr x);refine⟨.pointer (some ⟨β.b b,off+z.toNat*sz,none⟩),?_,CV,by omega,rfl⟩;simp[execOp,ho,ex,ei,Instr.indexAt,asIntOf,underlying,hu,Instr.sureAddr,hb,run_sizeOf hs,dN]
    ·cases h
  ·cases h
 ·rename_i rB ru;have hu:=fZ ru;rw[Ask.fc]at h;split at h
  ·rename_i pm ty l sz k z hc hs hi;split at h
   ·rename_i hw;subst hw;simp at h;obtain⟨rfl,rfl,rfl⟩:=h;refine gn.pure fun hq W bP β₀ β a w hr=>?_;have hb:0≤z∧z<(l.length:Int):=hq;have ei:=ig hi (cF hr i);have hd:=cX hx (cF hr x);obtain⟨a',n',c',ex,hn,_,_,gQ⟩:=na hr.heap hc hd;obtain⟨a0,_,rfl,_⟩:=gQ (by omega);refine⟨.pointer (some (a0.add (z.toNat*ty.w))),?_,a0,n',c',by rw[← ex];exact hd,hb.1,by omega,by rw[Nat.add_zero]⟩;have mw:0≤z∧z<(n':Int):=(by omega);simp[execOp,ho,ex,ei,Instr.indexAt,asIntOf,underlying,hu,Instr.sureAddr,mw,run_sizeOf hs]
   ·cases h
  ·cases h
 ·simp[Ask.val]at h
theorem aDU{t:TypeId}{x i:Operand}{y:VV}(ho:o.op= .index t x i)(h:afe P t (ev st x) (ev st i)=some (q,y)):gn P o st q (.one y) []:=by
 unfold afe at h;split at h
 ·rename_i l n e hx rB;have hu:=pA rB;split at h
  ·rename_i sz hs;split at h
   ·rename_i k j hi;split at h
    ·rename_i hj;obtain⟨y',hy,he⟩:=map_some h;simp at he;obtain⟨rfl,rfl⟩:=he;refine gn.pure fun hq W bP β₀ β a w hr=>?_;have ei:=qo hi (cF hr i);have hd:=cF hr x;rw[hx]at hd;obtain⟨cs,ex,hd⟩:=hd;obtain⟨val,h1,h2⟩:=lW (P:=P) (w:=w) hd hy;refine⟨val,?_,h2⟩;have hb:(0:Int)≤j∧(j:Int)<n:=(by omega);simp[execOp,ho,ex,ei,Instr.index,asIntOf,underlying,hu,hb,run_sizeOf hs,h1];omega
    ·cases h
   ·split at h
    ·rename_i k z hi;split at h
     ·rename_i ty n' m;split at h
      ·rename_i hc;obtain⟨rfl,rfl⟩:=hc;obtain⟨y',hy,he⟩:=map_some h;simp at he;obtain⟨rfl,rfl⟩:=he;refine gn.pure fun hq W bP β₀ β a w hr=>?_;have hb:0≤z∧z<(n':Int):=hq;have ei:=ig hi (cF hr i);have hd:=cF hr x;rw[hx]at hd;obtain⟨cs,ex,hd⟩:=hd;obtain⟨h1,h2⟩:=cI.mr hd;obtain⟨pa,u,pb,rfl,e1,h3,_⟩:=ln h2 (j:=z.toNat) (by omega);have W1:∃val,(part e (pa++(u++pb)).toArray (z.toNat*ty.w)).run P w= .ok val w∧y'.den β (kd st.hp) val:=by
        obtain⟨val,h4,h5⟩:=lW (P:=P) (w:=w) (ty.oR (L:=kd st.hp) h3) hy;refine⟨val,?_,h5⟩;have F2:=ty.ie h3;have hu0:∀m,m≤u.length→(u.toArray.extract 0 m)=((pa++(u++pb)).toArray.extract (z.toNat*ty.w) (z.toNat*ty.w+m)):=by
         intro m hm;apply Array.ext';simp only[Array.toList_extract,List.extract_eq_take_drop,Nat.sub_zero,List.drop_zero,Nat.add_sub_cancel_left];rw[← e1,List.drop_left,List.take_append_of_le_length hm]
        unfold part at h4 ⊢;unfold ij at hy;split at hy
        ·rename_i kk ha hn;obtain⟨s,N9,_⟩:=map_some hy;obtain⟨p1,p2,p3,e2,e3,e4,_⟩:=tg N9 (ty.oR (L:=kd st.hp) h3);simp only[Sem.run_bind,j9 ha,Result.andThen_ok,if_true,run_sizeOf hn,Nat.zero_add]at h4 ⊢;rw[← hu0 kk (by rw[e2];simp;omega)];exact h4
        ·rename_i kk ha hn;obtain⟨s,N9,_⟩:=map_some hy;obtain⟨vv,hvv,_⟩:=rP _ _ N9 (ty.oR (L:=kd st.hp) h3);simp only[Sem.run_bind,j9 ha,Result.andThen_ok]at h4 ⊢;have e5:(pa++(u++pb)).toArray[z.toNat*ty.w]? =u.toArray[0]? :=by
          have iZ:=(List.getElem?_eq_some_iff.1 hvv).1;simp only[List.getElem?_toArray];rw[← e1,List.getElem?_append_right (Nat.le_refl _),Nat.sub_self,List.getElem?_append_left iZ]
         rw[e5];exact h4
        ·cases hy
       obtain⟨val,h4,h5⟩:=W1;refine⟨val,?_,h5⟩;simp[execOp,ho,ex,ei,Instr.index,asIntOf,underlying,hu,hb,run_sizeOf hs,h4]
      ·cases h
     ·split at h
      ·rename_i items hit;obtain⟨y',hy,he⟩:=map_some h;simp at he;obtain⟨rfl,rfl⟩:=he;refine gn.pure fun hq W bP β₀ β a w hr=>?_;have hb:0≤z∧z<(n:Int):=hq;have ei:=ig hi (cF hr i);have hd:=cF hr x;rw[hx]at hd;obtain⟨cs,ex,hd⟩:=hd;obtain⟨it,hi1,hi2⟩:=Ag hit (j:=z.toNat) (by omega);rw[Nat.zero_add]at hi2;obtain⟨val,h1,h2⟩:=lW (P:=P) (w:=w) hd hi2;refine⟨val,?_,WZ hi1 h2 hy⟩;simp[execOp,ho,ex,ei,Instr.index,asIntOf,underlying,hu,hb,run_sizeOf hs,h1]
      ·cases h
    ·cases h
  ·cases h
 ·rename_i sv hx rB;split at h
  ·rename_i l k z hu hs hi;simp only[Option.some.injEq,Prod.mk.injEq]at h;obtain⟨rfl,rfl⟩:=h;refine gn.pure fun hq W bP β₀ β a w hr=>?_;obtain⟨h0,h1,h2,h3⟩:0≤z∧z<(l.length:Int)∧0≤l.getD z.toNat 0∧l.getD z.toNat 0<256:=hq;have ei:=ig hi (cF hr i);have hd:=cF hr x;rw[hx]at hd;have ex:=lq hs hd;obtain⟨j,rfl⟩:=Int.eq_ofNat_of_zero_le h0;simp only[Int.toNat_natCast]at h2 h3 ⊢;have hj:j<l.length:=(by omega);have hg:l.getD j 0=l[j]:=(by rw[List.getD_eq_getElem?_getD,List.getElem?_eq_getElem hj];rfl);have hb:(strOf l)[j]? =some (UInt8.ofNat (l.getD j 0).toNat):=by
    have hsz:j<(strOf l).size:=(by show j<(strOf l).data.size;simp[strOf,hj]);rw[getElem?_pos (strOf l) j hsz];congr 1;show(strOf l).data[j]'hsz=_;rw[hg];simp[strOf]
   have rD:(((UInt8.ofNat (l.getD j 0).toNat).toNat:Nat):Int)=l.getD j 0:=by
    rw[UInt8.toNat_ofNat'];omega
   refine⟨.int .u8 (l.getD j 0),?_,rfl⟩;clear h2 h3 hg hd;generalize l.getD j 0=c at*;generalize UInt8.ofNat c.toNat=b at*;simp[execOp,ho,ex,ei,Instr.index,asIntOf,underlying,hu,hb,rD]
  ·cases h
 ·cases h
theorem run_bytesToString{w:World}{β:Env}{pm:Bool}{l:ab}{v:Value}(h:dw β pm w v (.int .u8) l):(Conv.bytesToString v).run P w= .ok (.string (strOf l)) w:=by
 obtain⟨a,n,c,rfl,hn,_,_,hr⟩:=h;have key:∀ (l:ab) (acc:ByteArray),(forIn (l.map (Value.int .u8)) acc (fun c r=>(match c with
   | .int .u8 n=>Pure.pure (ForInStep.yield (r.push (UInt8.ofNat n.toNat)))
   |_=>do stuck "bytesToString: byte expected";Pure.pure (ForInStep.yield r):Sem (ForInStep ByteArray)))).run P w= .ok ⟨acc.data++(l.map fun n=>UInt8.ofNat n.toNat).toArray⟩ w:=by
  intro l;induction l with
  |nil=>intro acc;simp
  |cons x l ih=>
   intro acc;simp only[List.map_cons,List.forIn_cons,Sem.run_bind,Sem.run_pure,Result.andThen_ok];rw[ih];simp[ByteArray.push]
 unfold Conv.bytesToString;cases a with
 |none=>
  rcases Nat.eq_zero_or_pos n with h0|h0
  ·have:l= []:=List.eq_nil_of_length_eq_zero (by omega);subst this;simp;rfl
  ·obtain⟨_,_,e,_⟩:=hr h0;cases e
 |some a=>
  have aL3:(loadCells a n).run P w= .ok (l.map (Value.int .u8)).toArray w:=by
   rcases Nat.eq_zero_or_pos n with h0|h0
   ·have:l= []:=List.eq_nil_of_length_eq_zero (by omega);subst this h0;rfl
   ·obtain⟨a0,gq,e,_,h2,h3⟩:=hr h0;simp at e;subst e;have:=vO h2;subst this;have h4:=oo (P:=P) h3;rw[List.length_map,← hn]at h4;exact h4
  simp only[Sem.run_bind,aL3,Result.andThen_ok];have:=key l ByteArray.empty;rw[List.forIn_toArray];have e:=congrArg (fun r=>Result.andThen r (fun a w'=>Sem.run P (Pure.pure (Value.string a)) w')) this;refine Eq.trans e ?_;simp[strOf]
end
end Go.Ev
