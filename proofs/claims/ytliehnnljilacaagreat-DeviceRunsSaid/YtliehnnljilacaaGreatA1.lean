/- What the laws lean on, part 1: a reader of code, plain facts, and what each function gives; no conditions. -/
import Derived.Tactics
import Derived.Laws.World
import Derived.Laws.Rows
import Derived.Laws.Cells
import Derived.Laws.Small
import Derived.Laws.StructEq
import Derived.ChangeKeysEq
noncomputable section
open Go.IntKind (i64 signed u16 u32 u64 wrap wrap_u32)
set_option linter.unusedVariables false
set_option linter.unusedSimpArgs false
namespace Go
abbrev ab:Type:=List Int
abbrev ah:Type:=Int×Int×ab
abbrev ai:Type:=(Int×ab)×Bool×Bool×Int
abbrev aj:Type:=List ab×Int
abbrev ak:Type:=(Int×Int×Int×Int×ab)×Bool×Int×Int×Int×Int×ab×ab
abbrev an:Type:=(Int×Int)×Int×Int×Int×Bool×Int
abbrev aB{A B:Type}{R:Sort _}(f:A→B→R)(y:A×B):R:=f y.1 y.2
abbrev aC{A B C:Type}{R:Sort _}(f:A→B→C→R)(y:A×B×C):R:=aB (f y.1) y.2
abbrev aD{A B C D:Type}{R:Sort _}(f:A→B→C→D→R)(y:A×B×C×D):R:=aC (f y.1) y.2
abbrev aE{A B C D E:Type}{R:Sort _}(f:A→B→C→D→E→R)(y:A×B×C×D×E):R:=aD (f y.1) y.2
abbrev aF{A B C D E F:Type}{R:Sort _}(f:A→B→C→D→E→F→R)(y:A×B×C×D×E×F):R:=aE (f y.1) y.2
abbrev aG{A B C D E F G:Type}{R:Sort _}(f:A→B→C→D→E→F→G→R)(y:A×B×C×D×E×F×G):R:=aF (f y.1) y.2
abbrev aH{A B C D E F G H:Type}{R:Sort _}(f:A→B→C→D→E→F→G→H→R)(y:A×B×C×D×E×F×G×H):R:=aG (f y.1) y.2
abbrev aI{A B C D E F G H I:Type}{R:Sort _}(f:A→B→C→D→E→F→G→H→I→R)(y:A×B×C×D×E×F×G×H×I):R:=aH (f y.1) y.2
abbrev aJ{A B C D E F G H I J:Type}{R:Sort _}(f:A→B→C→D→E→F→G→H→I→J→R)(y:A×B×C×D×E×F×G×H×I×J):R:=aI (f y.1) y.2
abbrev aK{A B C D E F G H I J K:Type}{R:Sort _}(f:A→B→C→D→E→F→G→H→I→J→K→R)(y:A×B×C×D×E×F×G×H×I×J×K):R:=aJ (f y.1) y.2
abbrev aL{A B C D E F G H I J K L:Type}{R:Sort _}(f:A→B→C→D→E→F→G→H→I→J→K→L→R)(y:A×B×C×D×E×F×G×H×I×J×K×L):R:=aK (f y.1) y.2
abbrev aM{A B C D E F G H I J K L M:Type}{R:Sort _}(f:A→B→C→D→E→F→G→H→I→J→K→L→M→R)(y:A×B×C×D×E×F×G×H×I×J×K×L×M):R:=aL (f y.1) y.2
abbrev aN{A B C D E F G H I J K L M N:Type}{R:Sort _}(f:A→B→C→D→E→F→G→H→I→J→K→L→M→N→R)(y:A×B×C×D×E×F×G×H×I×J×K×L×M×N):R:=aM (f y.1) y.2
abbrev aO{A B C D E F G H I J K L M N O:Type}{R:Sort _}(f:A→B→C→D→E→F→G→H→I→J→K→L→M→N→O→R)(y:A×B×C×D×E×F×G×H×I×J×K×L×M×N×O):R:=aN (f y.1) y.2
abbrev aP{A B C D E F G H I J K L M N O P:Type}{R:Sort _}(f:A→B→C→D→E→F→G→H→I→J→K→L→M→N→O→P→R)(y:A×B×C×D×E×F×G×H×I×J×K×L×M×N×O×P):R:=aO (f y.1) y.2
theorem aQ{A B:Type}{Z:A→B→Prop}(h:∀a0 a1,Z a0 a1)(y:A×B):aB Z y:=h _ _
theorem aR{A B C:Type}{Z:A→B→C→Prop}(h:∀a0 a1 a2,Z a0 a1 a2)(y:A×B×C):aC Z y:=h _ _ _
theorem aS{A B C D:Type}{Z:A→B→C→D→Prop}(h:∀a0 a1 a2 a3,Z a0 a1 a2 a3)(y:A×B×C×D):aD Z y:=h _ _ _ _
theorem aT{A B C D E:Type}{Z:A→B→C→D→E→Prop}(h:∀a0 a1 a2 a3 a4,Z a0 a1 a2 a3 a4)(y:A×B×C×D×E):aE Z y:=h _ _ _ _ _
theorem aU{A B C D E F:Type}{Z:A→B→C→D→E→F→Prop}(h:∀a0 a1 a2 a3 a4 a5,Z a0 a1 a2 a3 a4 a5)(y:A×B×C×D×E×F):aF Z y:=h _ _ _ _ _ _
theorem aV{A B C D E F G:Type}{Z:A→B→C→D→E→F→G→Prop}(h:∀a0 a1 a2 a3 a4 a5 a6,Z a0 a1 a2 a3 a4 a5 a6)(y:A×B×C×D×E×F×G):aG Z y:=h _ _ _ _ _ _ _
theorem aW{A B C D E F G H:Type}{Z:A→B→C→D→E→F→G→H→Prop}(h:∀a0 a1 a2 a3 a4 a5 a6 a7,Z a0 a1 a2 a3 a4 a5 a6 a7)(y:A×B×C×D×E×F×G×H):aH Z y:=h _ _ _ _ _ _ _ _
theorem aX{A B C D E F G H I:Type}{Z:A→B→C→D→E→F→G→H→I→Prop}(h:∀a0 a1 a2 a3 a4 a5 a6 a7 a8,Z a0 a1 a2 a3 a4 a5 a6 a7 a8)(y:A×B×C×D×E×F×G×H×I):aI Z y:=h _ _ _ _ _ _ _ _ _
theorem aY{A B C D E F G H I J K:Type}{Z:A→B→C→D→E→F→G→H→I→J→K→Prop}(h:∀a0 a1 a2 a3 a4 a5 a6 a7 a8 a9 a10,Z a0 a1 a2 a3 a4 a5 a6 a7 a8 a9 a10)(y:A×B×C×D×E×F×G×H×I×J×K):aK Z y:=h _ _ _ _ _ _ _ _ _ _ _
abbrev aZ{A T:Type}{R:Sort _}(f:A→R)(y:A×T):R:=f y.1
abbrev a9{A B T:Type}{R:Sort _}(f:A→B→R)(y:A×B×T):R:=aZ (f y.1) y.2
abbrev ba{A B C T:Type}{R:Sort _}(f:A→B→C→R)(y:A×B×C×T):R:=a9 (f y.1) y.2
abbrev bb{A B C D T:Type}{R:Sort _}(f:A→B→C→D→R)(y:A×B×C×D×T):R:=ba (f y.1) y.2
abbrev bc{A B C D E T:Type}{R:Sort _}(f:A→B→C→D→E→R)(y:A×B×C×D×E×T):R:=bb (f y.1) y.2
abbrev bd{A B C D E F T:Type}{R:Sort _}(f:A→B→C→D→E→F→R)(y:A×B×C×D×E×F×T):R:=bc (f y.1) y.2
abbrev bg{A B C D E F G T:Type}{R:Sort _}(f:A→B→C→D→E→F→G→R)(y:A×B×C×D×E×F×G×T):R:=bd (f y.1) y.2
abbrev bl{A B C D E F G H T:Type}{R:Sort _}(f:A→B→C→D→E→F→G→H→R)(y:A×B×C×D×E×F×G×H×T):R:=bg (f y.1) y.2
abbrev bm{A B C D E F G H I T:Type}{R:Sort _}(f:A→B→C→D→E→F→G→H→I→R)(y:A×B×C×D×E×F×G×H×I×T):R:=bl (f y.1) y.2
abbrev bn{A B C D E F G H I J T:Type}{R:Sort _}(f:A→B→C→D→E→F→G→H→I→J→R)(y:A×B×C×D×E×F×G×H×I×J×T):R:=bm (f y.1) y.2
abbrev bo{A B C D E F G H I J K T:Type}{R:Sort _}(f:A→B→C→D→E→F→G→H→I→J→K→R)(y:A×B×C×D×E×F×G×H×I×J×K×T):R:=bn (f y.1) y.2
abbrev bp{A B C D E F G H I J K L T:Type}{R:Sort _}(f:A→B→C→D→E→F→G→H→I→J→K→L→R)(y:A×B×C×D×E×F×G×H×I×J×K×L×T):R:=bo (f y.1) y.2
theorem bq{A T:Type}{Z:A→Prop}(h:∀a0,Z a0)(y:A×T):aZ Z y:=h _
theorem br{A B C T:Type}{Z:A→B→C→Prop}(h:∀a0 a1 a2,Z a0 a1 a2)(y:A×B×C×T):ba Z y:=h _ _ _
theorem bw{A B C D T:Type}{Z:A→B→C→D→Prop}(h:∀a0 a1 a2 a3,Z a0 a1 a2 a3)(y:A×B×C×D×T):bb Z y:=h _ _ _ _
theorem bx{A B C D E T:Type}{Z:A→B→C→D→E→Prop}(h:∀a0 a1 a2 a3 a4,Z a0 a1 a2 a3 a4)(y:A×B×C×D×E×T):bc Z y:=h _ _ _ _ _
theorem bz{A B C D E F T:Type}{Z:A→B→C→D→E→F→Prop}(h:∀a0 a1 a2 a3 a4 a5,Z a0 a1 a2 a3 a4 a5)(y:A×B×C×D×E×F×T):bd Z y:=h _ _ _ _ _ _
theorem bB{A B C D E F G T:Type}{Z:A→B→C→D→E→F→G→Prop}(h:∀a0 a1 a2 a3 a4 a5 a6,Z a0 a1 a2 a3 a4 a5 a6)(y:A×B×C×D×E×F×G×T):bg Z y:=h _ _ _ _ _ _ _
theorem bC{A B C D E F G H T:Type}{Z:A→B→C→D→E→F→G→H→Prop}(h:∀a0 a1 a2 a3 a4 a5 a6 a7,Z a0 a1 a2 a3 a4 a5 a6 a7)(y:A×B×C×D×E×F×G×H×T):bl Z y:=h _ _ _ _ _ _ _ _
theorem uo{A B C D E F G H I T:Type}{Z:A→B→C→D→E→F→G→H→I→Prop}(h:∀a0 a1 a2 a3 a4 a5 a6 a7 a8,Z a0 a1 a2 a3 a4 a5 a6 a7 a8)(y:A×B×C×D×E×F×G×H×I×T):bm Z y:=h _ _ _ _ _ _ _ _ _
theorem EI{A B C D E F G H I J T:Type}{Z:A→B→C→D→E→F→G→H→I→J→Prop}(h:∀a0 a1 a2 a3 a4 a5 a6 a7 a8 a9,Z a0 a1 a2 a3 a4 a5 a6 a7 a8 a9)(y:A×B×C×D×E×F×G×H×I×J×T):bn Z y:=h _ _ _ _ _ _ _ _ _ _
theorem aa9{A B C D E F G H I J K T:Type}{Z:A→B→C→D→E→F→G→H→I→J→K→Prop}(h:∀a0 a1 a2 a3 a4 a5 a6 a7 a8 a9 a10,Z a0 a1 a2 a3 a4 a5 a6 a7 a8 a9 a10)(y:A×B×C×D×E×F×G×H×I×J×K×T):bo Z y:=h _ _ _ _ _ _ _ _ _ _ _
theorem abJ{A B C D E F G H I J K L T:Type}{Z:A→B→C→D→E→F→G→H→I→J→K→L→Prop}(h:∀a0 a1 a2 a3 a4 a5 a6 a7 a8 a9 a10 a11,Z a0 a1 a2 a3 a4 a5 a6 a7 a8 a9 a10 a11)(y:A×B×C×D×E×F×G×H×I×J×K×L×T):bp Z y:=h _ _ _ _ _ _ _ _ _ _ _ _
end Go
namespace Go.Ev
open Go
inductive dC {α β:Type} (R:α→β→Prop):List α→List β→Prop where
 |nil:dC R [] []
 |cons {a b l m} (h:R a b) (t:dC R l m):dC R (a::l) (b::m)
noncomputable section
variable {α β:Type} {R S:α→β→Prop}
theorem dC.length{l:List α}{m:List β}(h:dC R l m):l.length=m.length:=by
 induction h with
 |nil=>rfl
 |cons _ _ ih=>simp[ih]
theorem dC.imp{l:List α}{m:List β}(h:dC R l m)(f:∀a b,R a b→S a b):dC S l m:=by
 induction h with
 |nil=>exact .nil
 |cons h _ ih=>exact .cons (f _ _ h) ih
theorem dC.imp_mem{l:List α}{m:List β}(h:dC R l m)(f:∀a b,a∈l→R a b→S a b):dC S l m:=by
 induction h with
 |nil=>exact .nil
 |cons h _ ih=>exact .cons (f _ _ (by simp) h) (ih fun a b ha=>f a b (by simp[ha]))
theorem dC.get{l:List α}{m:List β}(h:dC R l m):∀ {i:Nat} {a:α},l[i]? =some a→∃b,m[i]? =some b∧R a b:=by
 induction h with
 |nil=>intro i a h;simp at h
 |cons h _ ih=>
  intro i a hi;cases i with
  |zero=>simp at hi;subst hi;exact⟨_,by simp,h⟩
  |succ i=>simp at hi;obtain⟨b,hb,hr⟩:=ih hi;exact⟨b,by simpa using hb,hr⟩
theorem dC.set{l:List α}{m:List β}(h:dC R l m):∀ (i:Nat) {a:α} {b:β},R a b→dC R (l.set i a) (m.set i b):=by
 induction h with
 |nil=>intro i a b _;exact .nil
 |cons h t ih=>
  intro i a b hr;cases i with
  |zero=>exact .cons hr t
  |succ i=>exact .cons h (ih i hr)
theorem dC.append{l l':List α}{m m':List β}(h:dC R l m)(h':dC R l' m'):dC R (l++l') (m++m'):=by
 induction h with
 |nil=>exact h'
 |cons h _ ih=>exact .cons h ih
theorem dC.of_map{γ:Type}(f:γ→α)(g:γ→β)(l:List γ)(h:∀x∈l,R (f x) (g x)):dC R (l.map f) (l.map g):=by
 induction l with
 |nil=>exact .nil
 |cons x l ih=>exact .cons (h x (by simp)) (ih fun y hy=>h y (by simp[hy]))
theorem dC.vF{γ:Type}{T:γ→β→Prop}{f:α→γ}{l:List α}{m:List β}(h:dC R l m)(hf:∀a b,R a b→T (f a) b):dC T (l.map f) m:=by
 induction h with
 |nil=>exact .nil
 |cons h _ ih=>exact .cons (hf _ _ h) ih
end
inductive cI {α:Type} (R:α→List Value→Prop):List α→List Value→Prop where
 |nil:cI R [] []
 |cons {x l vs ws} (h:R x vs) (t:cI R l ws):cI R (x::l) (vs++ws)
noncomputable section
variable {α:Type} {R S:α→List Value→Prop}
theorem cI.imp_mem{l:List α}{vs:List Value}(h:cI R l vs)(f:∀x vs,x∈l→R x vs→S x vs):cI S l vs:=by
 induction h with
 |nil=>exact .nil
 |cons h _ ih=>exact .cons (f _ _ (by simp) h) (ih fun x vs hx=>f x vs (by simp[hx]))
theorem cI.imp{l:List α}{vs:List Value}(h:cI R l vs)(f:∀x vs,R x vs→S x vs):cI S l vs:=h.imp_mem fun x vs _=>f x vs
theorem cI.append{l m:List α}{vs ws:List Value}(h:cI R l vs)(h':cI R m ws):cI R (l++m) (vs++ws):=by
 induction h with
 |nil=>exact h'
 |cons h _ ih=>rw[List.cons_append,List.append_assoc];exact .cons h ih
theorem cI.one{x:α}{vs:List Value}(h:R x vs):cI R [x] vs:=by have:=cI.cons h .nil;simpa using this
theorem cI.mr{x:α}{vs:List Value}(h:cI R [x] vs):R x vs:=by
 cases h with
 |cons h t=>cases t;simpa using h
theorem cI.split:∀ {l m:List α} {vs:List Value},cI R (l++m) vs→∃v1 v2,vs=v1++v2∧cI R l v1∧cI R m v2
 | [],m,vs,h=>⟨[],vs,rfl,.nil,h⟩
 |x::l,m,_,.cons (vs:=vs) h t=>by
  obtain⟨v1,v2,rfl,h1,h2⟩:=cI.split t;exact⟨vs++v1,v2,by simp,.cons h h1,h2⟩
theorem cI.length{k:Nat}(hk:∀x vs,R x vs→vs.length=k){l:List α}{vs:List Value}(h:cI R l vs):vs.length=l.length*k:=by
 induction h with
 |nil=>simp
 |cons h _ ih=>rw[List.length_append,hk _ _ h,ih,List.length_cons,Nat.succ_mul];omega
theorem cI.get{l:List α}{vs:List Value}(h:cI R l vs){i:Nat}{x:α}(hi:l[i]? =some x):∃a u b,vs=a++(u++b)∧R x u∧cI R (l.take i) a∧cI R (l.drop (i+1)) b:=by
 have hl:i<l.length:=(List.getElem?_eq_some_iff.1 hi).1;have hx:l[i]=x:=(List.getElem?_eq_some_iff.1 hi).2;have e:l=l.take i++(x::l.drop (i+1)):=by rw[← hx,List.getElem_cons_drop,List.take_append_drop]
 rw[e]at h;obtain⟨v1,v2,rfl,h1,h2⟩:=cI.split h;cases h2 with
 |cons h3 h4=>exact⟨v1,_,_,rfl,h3,h1,h4⟩
theorem cI.RZ{l:List α}{i:Nat}{x:α}(hi:i<l.length){a u b:List Value}(h:R x u)(ha:cI R (l.take i) a)(hb:cI R (l.drop (i+1)) b):cI R (l.set i x) (a++(u++b)):=by
 rw[List.set_eq_take_append_cons_drop,if_pos hi];exact ha.append (.cons h hb)
end
inductive Ty where
 |int (k:IntKind)
 |bool
 |rl
 |str
 |sl (t:Ty)
 |pair (a b:Ty)
 |arr (t:Ty) (n:Nat)
 deriving DecidableEq
abbrev ae:Ty:=Ty.int .u8
abbrev ag:Ty:=Ty.int .i64
@[reducible] def Ty.D:Ty→Type
 | .int _=>Int
 | .bool=>Bool
 | .rl=>Nat
 | .str=>ab
 | .sl t=>List t.D
 | .pair a b=>a.D×b.D
 | .arr t _=>List t.D
def Ty.z:(t:Ty)→t.D
 | .int _=>(0:Int)
 | .bool=>false
 | .rl=>(0:Nat)
 | .str=>([]:ab)
 | .sl _=> []
 | .pair a b=>(a.z,b.z)
 | .arr t n=>List.replicate n t.z
def Ty.w:Ty→Nat
 | .int _| .bool| .rl| .str| .sl _=>1
 | .pair a b=>a.w+b.w
 | .arr t n=>n*t.w
def strOf(l:ab):ByteArray:=⟨(l.map fun n=>UInt8.ofNat n.toNat).toArray⟩
structure Env where
 b:Nat→Nat
 h:Nat→Value
 rd:Bool→Value→(t:Ty)→List t.D→Prop
instance:CoeFun Env (fun _=>Nat→Nat):=⟨Env.b⟩
def AE(β:Env)(pm:Bool)(v:Value)(t:Ty)(l:List t.D):Prop:=β.rd true v t l∨(pm=false∧β.rd false v t l)∨(v= .slice none 0 0∧l= [])
def Ty.has(β:Env)(pm:Bool):(t:Ty)→t.D→List Value→Prop
 | .int k,n,vs=>vs= [.int k n]
 | .bool,b,vs=>vs= [.bool b]
 | .rl,n,vs=>vs= [.float .f64 n]
 | .str,l,vs=>vs= [.string (strOf l)]
 | .sl t,l,vs=>∃v,vs= [v]∧v.oneCell'=true∧AE β pm v t l
 | .pair a b,x,vs=>∃u w,vs=u++w∧a.has β pm x.1 u∧b.has β pm x.2 w
 | .arr t n,l,vs=>l.length=n∧cI (t.has β pm) l vs
theorem Ty.ie{β:Env}{pm:Bool}:∀ (t:Ty) {x:t.D} {vs:List Value},t.has β pm x vs→vs.length=t.w
 | .int _,_,_,h=>by simp only[Ty.has]at h;subst h;rfl
 | .bool,_,_,h=>by simp only[Ty.has]at h;subst h;rfl
 | .rl,_,_,h=>by simp only[Ty.has]at h;subst h;rfl
 | .str,_,_,h=>by simp only[Ty.has]at h;subst h;rfl
 | .sl _,_,_,h=>by simp only[Ty.has]at h;obtain⟨v,rfl,_⟩:=h;rfl
 | .pair a b,_,_,h=>by
  simp only[Ty.has]at h;obtain⟨u,w,rfl,h1,h2⟩:=h;simp[Ty.w,a.ie h1,b.ie h2]
 | .arr t n,_,_,h=>by
  simp only[Ty.has]at h;obtain⟨h1,h2⟩:=h;rw[h2.length fun _ _=>t.ie,h1];rfl
theorem Ty.vG{β:Env}{pm:Bool}:∀ (t:Ty) {x:t.D} {vs:List Value},t.has β pm x vs→∀v∈vs,v.oneCell'=true
 | .int _,_,_,h=>by simp only[Ty.has]at h;subst h;simp[Value.oneCell']
 | .bool,_,_,h=>by simp only[Ty.has]at h;subst h;simp[Value.oneCell']
 | .rl,_,_,h=>by simp only[Ty.has]at h;subst h;simp[Value.oneCell']
 | .str,_,_,h=>by simp only[Ty.has]at h;subst h;simp[Value.oneCell']
 | .sl _,_,_,h=>by simp only[Ty.has]at h;obtain⟨v,rfl,h,_⟩:=h;simpa using h
 | .pair a b,_,_,h=>by
  simp only[Ty.has]at h;obtain⟨u,w,rfl,h1,h2⟩:=h;intro v hv;rcases List.mem_append.1 hv with hv|hv
  ·exact a.vG h1 v hv
  ·exact b.vG h2 v hv
 | .arr t n,_,vs,h=>by
  simp only[Ty.has]at h;obtain⟨_,h2⟩:=h;have key:∀ {l:List t.D} {vs:List Value},cI (t.has β pm) l vs→∀v∈vs,v.oneCell'=true:=by
   intro l vs h;induction h with
   |nil=>simp
   |cons h _ ih=>
    intro v hv;rcases List.mem_append.1 hv with hv|hv
    ·exact t.vG h v hv
    ·exact ih v hv
  exact key h2
theorem nk{β:Env}{pm:Bool}{t:Ty}{l:List t.D}{vs:List Value}(h:cI (t.has β pm) l vs):∀v∈vs,v.oneCell'=true:=by
 induction h with
 |nil=>simp
 |cons h _ ih=>
  intro v hv;rcases List.mem_append.1 hv with hv|hv
  ·exact t.vG h v hv
  ·exact ih v hv
theorem dh{β:Env}{pm:Bool}{t:Ty}{l:List t.D}{vs:List Value}(h:cI (t.has β pm) l vs):vs.length=l.length*t.w:=h.length fun _ _=>t.ie
inductive SI where
 |lit (n:Int)
 |sym (n:Int)
def SI.val:SI→Int
 | .lit n=>n
 | .sym n=>n
inductive SB where
 |lit (b:Bool)
 |sym (b:Bool)
def SB.val:SB→Bool
 | .lit b=>b
 | .sym b=>b
inductive SV where
 |int (k:IntKind) (n:SI)
 |bool (b:SB)
 |rl (n:Nat)
 |str (l:ab)
 |ptr (b off:Nat)
 |yU (b base oQ n:Nat) (z:Int)
 |slice (b off len cap:Nat)
 |gm (v:Value)
 |dT
 |arr (t:Ty) (n:Nat) (l:List t.D)
 |rd (pm nn:Bool) (t:Ty) (l:List t.D)
 |sl (i ver:Nat)
 |vw (i ver w:Nat) (z n:Int)
 |vb (b o:Nat) (t:Ty) (m:Nat) (z n:Int)
 |ep (s:SV) (w:Nat) (z:Int) (f:Nat)
 |WR (g:FuncId) (b off:Nat)
inductive VV where
 |sc (s:SV)
 |agg (l:List SV)
inductive LV where
 |one (x:VV)
 |dB (l:List VV)
 |dT
abbrev ar(x:Int):SV:=SV.int .i64 (SI.sym x)
abbrev au(x:Bool):SV:=SV.bool (SB.sym x)
abbrev aw(x:SV):LV:=LV.one (VV.sc x)
inductive Kd where
 |cK
 |own (c:Nat)
 deriving DecidableEq
def z9(h:Value)(w:Nat)(z n:Int)(v:Value):Prop:=∃a m c a' c',h= .slice a m c∧0≤z∧0≤n∧z+n≤m∧v= .slice a' n.toNat c'∧n.toNat≤c'∧(a'=none→c'=0)∧(0<n→∃a0,a=some a0∧a'=some (a0.add (z.toNat*w)))
def notNil:Value→Prop
 | .slice a _ _=>a≠none
 |_=>False
def SV.den(β:Env)(L:Nat→Option Kd):SV→Value→Prop
 | .int k i,v=>v= .int k i.val
 | .bool b,v=>v= .bool b.val
 | .rl n,v=>v= .float .f64 n
 | .str l,v=>v= .string (strOf l)
 | .ptr b o,v=>L b=some .cK∧v= .pointer (some ⟨β.b b,o,none⟩)
 | .yU b base oQ n z,v=>L b=some .cK∧z.toNat<n∧v= .pointer (some ⟨β.b b,base+z.toNat*oQ,none⟩)
 | .slice b o l c,v=>L b=some .cK∧v= .slice (some ⟨β.b b,o,none⟩) l c
 | .gm c,v=>c.oneCell'=true∧v=c
 | .dT,v=>v.oneCell'=true
 | .arr _ _ _,_=>False
 | .rd pm nn t l,v=>v.oneCell'=true∧(nn=true→notNil v)∧AE β pm v t l
 | .sl i ver,v=>v.oneCell'=true∧∃c,L i=some (.own c)∧ver≤c∧(ver=c→v=β.h i)
 | .vw i ver w z n,v=>v.oneCell'=true∧∃c,L i=some (.own c)∧ver≤c∧(ver=c→z9 (β.h i) w z n v)
 | .vb b o t m z n,v=>L b=some .cK∧0≤z∧0≤n∧z+n≤m∧∃a' c',v= .slice a' n.toNat c'∧n.toNat≤c'∧(a'=none→c'=0)∧(0<n→a'=some ((⟨β.b b,o,none⟩:Addr).add (z.toNat*t.w)))
 | .ep s w z f,v=>∃a n c,s.den β L (.slice (some a) n c)∧0≤z∧z<n∧v= .pointer (some (a.add (z.toNat*w+f)))
 | .WR g b o,v=>L b=some .cK∧v= .func (.func g) #[] #[.pointer (some ⟨β.b b,o,none⟩)]
def SV.kZ(β:Env)(L:Nat→Option Kd):SV→List Value→Prop
 | .arr t n l,vs=>l.length=n∧cI (t.has β true) l vs
 |s,vs=>∃v,vs= [v]∧s.den β L v
def SV.w:SV→Nat
 | .arr t n _=>n*t.w
 |_=>1
abbrev dc(β:Env)(L:Nat→Option Kd):List SV→List Value→Prop:=cI (SV.kZ β L)
def VV.den(β:Env)(L:Nat→Option Kd):VV→Value→Prop
 | .sc s,v=>s.den β L v
 | .agg l,v=>∃cs:List Value,v= .agg cs.toArray∧dc β L l cs
def LV.den(β:Env)(L:Nat→Option Kd):LV→Value→Prop
 | .one x,v=>x.den β L v
 | .dB l,v=>∃vs:List Value,v= .tuple vs.toArray∧dC (VV.den β L) l vs
 | .dT,_=>True
structure dx (β β':Env) (L L':Nat→Option Kd):Prop where
 cK:∀i,L i=some .cK→L' i=some .cK∧β'.b i=β.b i
 own:∀i c,L i=some (.own c)→∃c',L' i=some (.own c')∧c≤c'∧(c=c'→β'.h i=β.h i)
 rd:∀pm v t l,β.rd pm v t l→β'.rd pm v t l
theorem dx.refl(β:Env)(L:Nat→Option Kd):dx β β L L:=⟨fun _ h=>⟨h,rfl⟩,fun _ c h=>⟨c,h,Nat.le_refl _,fun _=>rfl⟩,fun _ _ _ _ h=>h⟩
theorem dx.trans{β β' aLQ:Env}{L L' L'':Nat→Option Kd}(h:dx β β' L L')(h':dx β' aLQ L' L''):dx β aLQ L L'':=by
 refine⟨fun i hi=>⟨(h'.cK i (h.cK i hi).1).1,(h'.cK i (h.cK i hi).1).2.trans (h.cK i hi).2⟩,fun i c hi=>?_,fun pm v t l hr=>h'.rd pm v t l (h.rd pm v t l hr)⟩;obtain⟨c1,h1,h2,h3⟩:=h.own i c hi;obtain⟨c2,h4,h5,h6⟩:=h'.own i c1 h1;exact⟨c2,h4,by omega,fun e=>(h6 (by omega)).trans (h3 (by omega))⟩
theorem dx.of{β:Env}{L L':Nat→Option Kd}(h:∀i k,L i=some k→L' i=some k):dx β β L L':=⟨fun i hi=>⟨h i _ hi,rfl⟩,fun i c hi=>⟨c,h i _ hi,Nat.le_refl _,fun _=>rfl⟩,fun _ _ _ _ h=>h⟩
theorem AE.mono{β β':Env}(hr:∀pm v t l,β.rd pm v t l→β'.rd pm v t l){pm:Bool}{v:Value}{t:Ty}{l:List t.D}(h:AE β pm v t l):AE β' pm v t l:=h.imp (hr _ _ _ _) (Or.imp (fun⟨a,b⟩=>⟨a,hr _ _ _ _ b⟩) id)
theorem Ty.po{β β':Env}(hr:∀pm v t l,β.rd pm v t l→β'.rd pm v t l){pm:Bool}:∀ (t:Ty) {x:t.D} {vs:List Value},t.has β pm x vs→t.has β' pm x vs
 | .int _,_,_,h=>h
 | .bool,_,_,h=>h
 | .rl,_,_,h=>h
 | .str,_,_,h=>h
 | .sl _,_,_,⟨v,h1,h2,h3⟩=>⟨v,h1,h2,h3.mono hr⟩
 | .pair a b,_,_,⟨u,w,h,h1,h2⟩=>⟨u,w,h,a.po hr h1,b.po hr h2⟩
 | .arr t _,_,_,⟨h1,h2⟩=>⟨h1,h2.imp fun _ _=>t.po hr⟩
theorem SV.dn{β:Env}{L:Nat→Option Kd}{s:SV}{v:Value}(h:s.den β L v):v.oneCell'=true:=by
 cases s<;>simp only[SV.den]at h
 ·subst h;rfl
 ·subst h;rfl
 ·subst h;rfl
 ·subst h;rfl
 ·obtain⟨_,rfl⟩:=h;rfl
 ·obtain⟨_,_,rfl⟩:=h;rfl
 ·obtain⟨_,rfl⟩:=h;rfl
 ·obtain⟨h,rfl⟩:=h;exact h
 ·exact h
 ·exact h.1
 ·exact h.1
 ·exact h.1
 ·obtain⟨_,_,_,_,_,_,rfl,_⟩:=h;rfl
 ·obtain⟨_,_,_,_,_,_,rfl⟩:=h;rfl
 ·obtain⟨_,rfl⟩:=h;rfl
theorem SV.gB{β β':Env}{L L':Nat→Option Kd}(ha:dx β β' L L'):∀ {s:SV} {v:Value},s.den β L v→s.den β' L' v
 | .int _ _,_,h=>h
 | .bool _,_,h=>h
 | .rl _,_,h=>h
 | .str _,_,h=>h
 | .ptr _ _,_,⟨h1,h2⟩=>⟨(ha.cK _ h1).1,by rw[(ha.cK _ h1).2];exact h2⟩
 | .yU _ _ _ _ _,_,⟨h1,h2,h3⟩=>⟨(ha.cK _ h1).1,h2,by rw[(ha.cK _ h1).2];exact h3⟩
 | .slice _ _ _ _,_,⟨h1,h2⟩=>⟨(ha.cK _ h1).1,by rw[(ha.cK _ h1).2];exact h2⟩
 | .gm _,_,h=>h
 | .dT,_,h=>h
 | .rd _ _ _ _,_,⟨h1,h2,h3⟩=>⟨h1,h2,h3.mono ha.rd⟩
 | .sl i ver,_,⟨h1,c,h2,h3,h4⟩=>by
  obtain⟨c',k1,k2,k3⟩:=ha.own i c h2;exact⟨h1,c',k1,by omega,fun e=>(h4 (by omega)).trans (k3 (by omega)).symm⟩
 | .vw i ver w z n,_,⟨h1,c,h2,h3,h4⟩=>by
  obtain⟨c',k1,k2,k3⟩:=ha.own i c h2;exact⟨h1,c',k1,by omega,fun e=>by rw[k3 (by omega)];exact h4 (by omega)⟩
 | .vb _ _ _ _ _ _,_,⟨h1,h2,h3,F1,a',c',h4,h5,h6⟩=>⟨(ha.cK _ h1).1,h2,h3,F1,a',c',h4,h5,by rw[(ha.cK _ h1).2];exact h6⟩
 | .ep _ _ _ _,_,⟨a,n,c,h1,h2⟩=>⟨a,n,c,SV.gB ha h1,h2⟩
 | .WR _ _ _,_,⟨h1,h2⟩=>⟨(ha.cK _ h1).1,by rw[(ha.cK _ h1).2];exact h2⟩
theorem SV.abU{β β':Env}{L L':Nat→Option Kd}(ha:dx β β' L L'){s:SV}{vs:List Value}(h:s.kZ β L vs):s.kZ β' L' vs:=by
 cases s with
 |arr t n l=>exact⟨h.1,h.2.imp fun _ _=>t.po ha.rd⟩
 |_=>exact let ⟨v,h1,h2⟩:=h;⟨v,h1,SV.gB ha h2⟩
theorem dc.mono{β β':Env}{L L':Nat→Option Kd}(ha:dx β β' L L'){l:List SV}{vs:List Value}(h:dc β L l vs):dc β' L' l vs:=h.imp fun _ _=>SV.abU ha
theorem SV.j7{β:Env}{L:Nat→Option Kd}{s:SV}{vs:List Value}(h:s.kZ β L vs):vs.length=s.w:=by
 cases s with
 |arr t n l=>rw[dh h.2,h.1];rfl
 |_=>obtain⟨v,rfl,_⟩:=h;rfl
theorem SV.aeY{β:Env}{L:Nat→Option Kd}{s:SV}{vs:List Value}(h:s.kZ β L vs):∀v∈vs,v.oneCell'=true:=by
 cases s with
 |arr t n l=>exact nk h.2
 |_=>obtain⟨v,rfl,h⟩:=h;intro u hu;simp at hu;subst hu;exact SV.dn h
theorem SV.vH{β:Env}{L:Nat→Option Kd}{s:SV}{v:Value}(h:s.den β L v):s.kZ β L [v]:=by
 cases s with
 |arr t n l=>exact h.elim
 |_=>exact⟨v,rfl,h⟩
theorem SV.lj{β:Env}{L:Nat→Option Kd}{s:SV}{vs:List Value}(h:s.kZ β L vs)(hs:∀t n l,s≠ .arr t n l):∃v,vs= [v]∧s.den β L v:=by
 cases s with
 |arr t n l=>exact absurd rfl (hs t n l)
 |_=>exact h
theorem dc.CH{β:Env}{L:Nat→Option Kd}{l:List SV}{vs:List Value}(h:dc β L l vs):∀v∈vs,v.oneCell'=true:=by
 induction h with
 |nil=>simp
 |cons h _ ih=>
  intro v hv;rcases List.mem_append.1 hv with hv|hv
  ·exact SV.aeY h v hv
  ·exact ih v hv
def wL:List SV→Nat
 | []=>0
 |s::l=>s.w+wL l
theorem dc.length{β:Env}{L:Nat→Option Kd}{l:List SV}{vs:List Value}(h:dc β L l vs):vs.length=wL l:=by
 induction h with
 |nil=>rfl
 |cons h _ ih=>simp[wL,SV.j7 h,ih]
theorem dc.nil{β:Env}{L:Nat→Option Kd}:dc β L [] []:=cI.nil
theorem dc.pq{β:Env}{L:Nat→Option Kd}{s:SV}{v:Value}{l:List SV}{vs:List Value}(h:s.den β L v)(t:dc β L l vs):dc β L (s::l) (v::vs):=cI.cons (SV.vH h) t
theorem VV.gB{β β':Env}{L L':Nat→Option Kd}(ha:dx β β' L L'){s:VV}{v:Value}(h:s.den β L v):s.den β' L' v:=by
 cases s with
 |sc s=>exact SV.gB ha h
 |agg l=>obtain⟨cs,rfl,h⟩:=h;exact⟨cs,rfl,h.mono ha⟩
theorem LV.gB{β β':Env}{L L':Nat→Option Kd}(ha:dx β β' L L'){s:LV}{v:Value}(h:s.den β L v):s.den β' L' v:=by
 cases s with
 |one x=>exact VV.gB ha h
 |dB l=>obtain⟨cs,rfl,h⟩:=h;exact⟨cs,rfl,h.imp fun _ _=>VV.gB ha⟩
 |dT=>trivial
def SV.rn:Value→Option SV
 | .int k n=>some (.int k (.lit n))
 | .bool b=>some (.bool (.lit b))
 | .agg _| .tuple _=>none
 |x=>some (.gm x)
def ft{α β:Type}(f:α→Option β):List α→Option (List β)
 | []=>some []
 |x::l=>match f x,ft f l with
  |some y,some m=>some (y::m)
  |_,_=>none
def LV.rn:Value→LV
 | .agg cs=>match ft SV.rn cs.toList with
  |some l=>.one (.agg l)
  |none=>.dT
 | .tuple cs=>if cs.isEmpty then .dB []else .dT
 |x=>match SV.rn x with
  |some s=>.one (.sc s)
  |none=>.dT
theorem SV.te{β:Env}{L:Nat→Option Kd}{v:Value}{s:SV}(h:SV.rn v=some s):s.den β L v:=by
 cases v<;>simp[SV.rn]at h<;>subst h<;>simp[SV.den,SI.val,SB.val,Value.oneCell']
theorem Aa{α β:Type}{f:α→Option β}{R:β→α→Prop}(hf:∀x y,f x=some y→R y x):∀ {l:List α} {m:List β},ft f l=some m→dC R m l
 | [],m,h=>by simp[ft]at h;subst h;exact .nil
 |x::l,m,h=>by
  simp only[ft]at h;split at h
  ·rename_i y m' h1 h2;simp at h;subst h;exact .cons (hf _ _ h1) (Aa hf h2)
  ·simp at h
theorem vI{β:Env}{L:Nat→Option Kd}{l:List SV}{vs:List Value}(h:dC (SV.den β L) l vs):dc β L l vs:=by
 induction h with
 |nil=>exact .nil
 |cons h _ ih=>exact dc.pq h ih
theorem LV.te{β:Env}{L:Nat→Option Kd}(v:Value):(LV.rn v).den β L v:=by
 cases v with
 |agg cs=>
  simp only[LV.rn];split
  ·rename_i l h;exact⟨cs.toList,by simp,vI (Aa (fun _ _=>SV.te) h)⟩
  ·trivial
 |tuple cs=>
  simp only[LV.rn];split
  ·rename_i h;have:cs= #[]:=(by simpa using h);subst this;exact⟨[],rfl,.nil⟩
  ·trivial
 |_=>simp[LV.rn,SV.rn,LV.den,VV.den,SV.den,SI.val,SB.val,Value.oneCell']
inductive bE where
 |cK (cells:List SV) (elem:TypeId)
 |own (ver:Nat) (t:Ty) (l:List t.D)
 |gone (ver:Nat)
 |qn (t:Ty) (D:t.D→World→Nat→List Nat→(Value→(t:Ty)→List t.D→Prop)→Prop) (x:t.D)
abbrev ao:Type:=Nat×bE
def bE.kd:bE→Kd
 | .cK _ _| .qn _ _ _=>.cK
 | .own v _ _| .gone v=>.own v
abbrev Hp:=List (Option bE)
def kd(hp:Hp)(i:Nat):Option Kd:=match hp[i]? with
 |some (some x)=>some x.kd
 |_=>none
structure St where
 fr:List LV
 hp:Hp
theorem jM{hp:Hp}{i:Nat}{k:Kd}(h:kd hp i=some k):∃x,hp[i]? =some (some x)∧x.kd=k:=by
 unfold kd at h;split at h
 ·rename_i x hx;simp at h;exact⟨x,hx,h⟩
 ·cases h
theorem fM{hp:Hp}{i:Nat}{x:bE}(h:hp[i]? =some (some x)):kd hp i=some x.kd:=by unfold kd;rw[h]
def hold(l:List Nat):Value:=.agg (l.map fun(n:Nat)=>Value.int .i64 (n:Int)).toArray
def held:Value→List Nat
 | .agg a=>a.toList.map fun v=>match v with
  | .int _ n=>n.toNat
  |_=>0
 |_=> []
theorem pv(l:List Nat):held (hold l)=l:=by
 simp only[held,hold,List.map_map]
 conv=>rhs;rw[← List.map_id l]
 exact List.map_congr_left fun n _=>by simp
def dM(β:Env)(x:bE)(i b:Nat):Prop:=match x with
 | .cK _ _=>b=β.b i
 | .own _ _ _=>∃a n c,β.h i= .slice (some a) n c∧0<c∧a.block=b
 | .gone _=>False
 | .qn _ _ _=>b∈held (β.h i)
def fb(hp:Hp)(β:Env)(b:Nat):Prop:=∃i x,hp[i]? =some (some x)∧dM β x i b
def fu(w:World)(a:Addr)(vs:List Value):Prop:=∀i u,vs[i]? =some u→w.cell? (a.add i)=some u
def CI(fz:Nat×Nat)(n:Nat):Prop:=fz.1=fz.2∨n≤fz.1
theorem CI.not{fz:Nat×Nat}{n off:Nat}(h:CI fz n)(ho:off<n):¬ (fz.1≤off∧off<fz.2):=by unfold CI at h;omega
def eY(β:Env)(w:World)(h:Value)(t:Ty)(l:List t.D):Prop:=∃a n c,h= .slice a n c∧n=l.length∧n≤c∧(a=none→c=0)∧(0<c→∃ (a0:Addr) (pre gq rest:List Value) (elem:TypeId) (fz:Nat×Nat),a=some a0∧a0.spot=none∧w.heap[a0.block]? =some (.cells (pre++(gq++rest)).toArray elem fz)∧pre.length=a0.off∧cI (t.has β true) l gq∧(c-n)*t.w≤rest.length∧CI fz (pre++(gq++rest)).length)
def inBlock:Value→Nat→Prop
 | .slice (some a) n _,b=>0<n∧a.block=b
 |_,_=>False
def aDK(β:Env)(l:List Nat)(w w':World):Prop:=∀b,(b∈l∨∃v t m,β.rd true v t m∧inBlock v b)→b<w.heap.size→w'.heap[b]? =w.heap[b]?
def gb(β:Env)(L:Nat→Option Kd)(w:World)(i:Nat):bE→Prop
 | .cK cells elem=>∃ (c:List Value) (fz:Nat×Nat),w.heap[β.b i]? =some (.cells c.toArray elem fz)∧CI fz c.length∧dc β L cells c
 | .own _ t l=>eY β w (β.h i) t l
 | .gone _=>True
 | .qn _ D x=>(∀b∈held (β.h i),b<w.heap.size)∧∀ (w':World) (rd:Value→(t:Ty)→List t.D→Prop),(∀v t l,β.rd true v t l→rd v t l)→aDK β (held (β.h i)) w w'→D x w' (β.b i) (held (β.h i)) rd
def dw(β:Env)(pm:Bool)(w:World)(v:Value)(t:Ty)(l:List t.D):Prop:=∃a n c,v= .slice a n c∧n=l.length∧n≤c∧(a=none→c=0)∧(0<n→∃ (a0:Addr) (gq:List Value),a=some a0∧a0.spot=none∧cI (t.has β pm) l gq∧fu w a0 gq)
theorem fY(a:Addr)(n:Nat):(a.add n).block=a.block:=by unfold Addr.add;split<;>rfl
theorem fu.of{w w':World}{a:Addr}{vs:List Value}(h:fu w a vs)(hs:vs≠ []→w'.heap[a.block]? =w.heap[a.block]?):fu w' a vs:=by
 intro i u hu;have h1:=h i u hu;have ko:vs≠ []:=fun e=>by subst e;simp at hu
 unfold World.cell? at h1 ⊢;rw[fY]at h1 ⊢;rw[hs ko];exact h1
theorem fu.lt{w:World}{a:Addr}{vs:List Value}(h:fu w a vs)(ko:vs≠ []):a.block<w.heap.size:=by
 cases vs with
 |nil=>exact absurd rfl ko
 |cons v vs=>
  have:=h 0 v (by simp);unfold World.cell? at this;rw[fY]at this;split at this
  ·rename_i h1;exact(Array.getElem?_eq_some_iff.1 h1).1
  ·cases this
theorem dw.of{β:Env}{pm:Bool}{w w':World}{v:Value}{t:Ty}{l:List t.D}(h:dw β pm w v t l)(hs:∀b,inBlock v b→b<w.heap.size→w'.heap[b]? =w.heap[b]?):dw β pm w' v t l:=by
 obtain⟨a,n,c,rfl,hn,hc,hz,hr⟩:=h;refine⟨a,n,c,rfl,hn,hc,hz,fun h0=>?_⟩;obtain⟨a0,gq,rfl,h1,h2,h3⟩:=hr h0;exact⟨a0,gq,rfl,h1,h2,h3.of fun ko=>hs _ ⟨h0,rfl⟩ (h3.lt ko)⟩
theorem dw.mono{β β':Env}(hm:∀pm v t l,β.rd pm v t l→β'.rd pm v t l){pm:Bool}{w:World}{v:Value}{t:Ty}{l:List t.D}(h:dw β pm w v t l):dw β' pm w v t l:=by
 obtain⟨a,n,c,rfl,hn,hc,hz,hr⟩:=h;refine⟨a,n,c,rfl,hn,hc,hz,fun h0=>?_⟩;obtain⟨a0,gq,rfl,h1,h2,h3⟩:=hr h0;exact⟨a0,gq,rfl,h1,h2.imp fun _ _=>t.po hm,h3⟩
structure cN (W:World) (bP:Hp) (β₀ β:Env) (hp:Hp) (w:World):Prop where
 items:∀i x,hp[i]? =some (some x)→gb β (kd hp) w i x
 inj:∀i j x y b,hp[i]? =some (some x)→hp[j]? =some (some y)→dM β x i b→dM β y j b→i=j
 first:dx β₀ β (kd bP) (kd hp)
 own:∀i x b,hp[i]? =some (some x)→dM β x i b→W.heap.size≤b∨∃y,bP[i]? =some (some y)∧dM β₀ y i b
 os:w.os=W.os
 output:w.output=W.output
 size:W.heap.size≤w.heap.size
 bV:∀b,b<W.heap.size→¬fb bP β₀ b→w.heap[b]? =W.heap[b]?
 reads:∀pm v t l,β.rd pm v t l→dw β pm w v t l∧∀b,inBlock v b→b<w.heap.size∧¬fb hp β b
 from_:∀pm v t l b,β.rd pm v t l→inBlock v b→W.heap.size≤b∨∃nm v' t' l',(pm=true→nm=true)∧β₀.rd nm v' t' l'∧inBlock v' b
structure Rel (W:World) (bP:Hp) (β₀ β:Env) (st:St) (a:Act) (w:World):Prop where
 defers:a.defers= []
 fr:dC (LV.den β (kd st.hp)) st.fr a.tmps.toList
 heap:cN W bP β₀ β st.hp w
def cL:Hp→Nat→bE→Hp
 | [],0,b=> [some b]
 | [],n+1,b=>none::cL [] n b
 |_::l,0,b=>some b::l
 |x::l,n+1,b=>x::cL l n b
theorem fR:∀ (hp:Hp) (i:Nat) (b:bE),(cL hp i b)[i]? =some (some b)
 | [],0,_=>rfl
 | [],n+1,b=>by simp[cL,fR [] n b]
 |_::_,0,_=>rfl
 |_::l,n+1,b=>by simp[cL,fR l n b]
theorem Gx:∀ (i:Nat) (b:bE) (j:Nat) (x:bE),j≠i→(cL [] i b)[j]? ≠some (some x)
 |0,b,0,_,h=>absurd rfl h
 |0,b,j+1,_,_=>by simp[cL]
 |n+1,b,0,_,_=>by simp[cL]
 |n+1,b,j+1,x,h=>by
  have:=Gx n b j x (by omega);simpa [cL]using this
theorem eh:∀ (hp:Hp) (i:Nat) (b:bE) (j:Nat) (x:bE),j≠i→((cL hp i b)[j]? =some (some x)↔hp[j]? =some (some x))
 | [],i,b,j,x,h=>⟨fun hh=>absurd hh (Gx i b j x h),fun hh=>by simp at hh⟩
 |_::_,0,_,0,_,h=>absurd rfl h
 |_::_,0,_,j+1,_,_=>by simp[cL]
 |_::_,n+1,_,0,_,_=>by simp[cL]
 |_::l,n+1,b,j+1,x,h=>by
  have:=eh l n b j x (by omega);simpa [cL]using this
theorem fB(hp:Hp)(i:Nat)(x:bE)(j:Nat):kd (cL hp i x) j=if j=i then some x.kd else kd hp j:=by
 split
 ·rename_i h;subst h;exact fM (fR hp j x)
 ·rename_i h;unfold kd;split
  ·rename_i y hy;rw[(eh hp i x j y h).1 hy]
  ·rename_i hn;split
   ·rename_i y hy;exact absurd ((eh hp i x j y h).2 hy) (hn y)
   ·rfl
noncomputable section
variable {W:World} {bP:Hp} {β₀ β:Env} {hp:Hp} {w:World}
theorem dM.congr{β β':Env}{x:bE}{i b:Nat}(hb:β'.b i=β.b i)(hh:β'.h i=β.h i):dM β' x i b↔dM β x i b:=by
 cases x<;>simp only[dM,hb,hh]
theorem eY.of{β β':Env}{w w':World}{h:Value}{t:Ty}{l:List t.D}(hm:∀pm v t l,β.rd pm v t l→β'.rd pm v t l)(hk:eY β w h t l)(hw:∀a n c,h= .slice (some a) n c→0<c→w'.heap[a.block]? =w.heap[a.block]?):eY β' w' h t l:=by
 obtain⟨a,n,c,rfl,h1,h2,h3,h4⟩:=hk;refine⟨a,n,c,rfl,h1,h2,h3,fun h0=>?_⟩;obtain⟨a0,pre,gq,rest,elem,fz,rfl,k1,k2,k3,k4,k5⟩:=h4 h0;exact⟨a0,pre,gq,rest,elem,fz,rfl,k1,by rw[hw _ _ _ rfl h0];exact k2,k3,k4.imp fun _ _=>t.po hm,k5⟩
theorem gb.of{β β':Env}{L L':Nat→Option Kd}{w w':World}{i:Nat}{x:bE}(ha:dx β β' L L')(hb:β'.b i=β.b i)(hh:β'.h i=β.h i)(h:gb β L w i x)(hw:∀b,dM β x i b→w'.heap[b]? =w.heap[b]?) (hr:∀v t l b,β.rd true v t l→inBlock v b→b<w.heap.size→w'.heap[b]? =w.heap[b]?):gb β' L' w' i x:=by
 cases x with
 |cK cells elem=>
  obtain⟨c,fz,h1,h2,h3⟩:=h;exact⟨c,fz,by rw[hb,hw _ rfl];exact h1,h2,h3.mono ha⟩
 |own v t l=>
  show eY β' w' (β'.h i) t l;rw[hh];exact eY.of ha.rd h fun a n c e h0=>hw _ ⟨a,n,c,e,h0,rfl⟩
 |gone v=>trivial
 |qn t D y=>
  obtain⟨h1,h2⟩:=h
  have iZ:∀ {b},b<w.heap.size→w'.heap[b]? =w.heap[b]? →b<w'.heap.size:=fun hb e=>by
   rw[Array.getElem?_eq_getElem hb]at e;exact(Array.getElem?_eq_some_iff.1 e).1
  refine⟨fun b k=>?_,fun w2 rd k1 k2=>?_⟩
  ·rw[hh]at k;exact iZ (h1 b k) (hw b k)
  ·rw[hh]at k2;rw[hb,hh];refine h2 w2 rd (fun v t l k=>k1 v t l (ha.rd true v t l k)) fun b k k0=>?_;have e:w'.heap[b]? =w.heap[b]? :=k.elim (hw b) fun⟨v,t,l,k3,k4⟩=>hr v t l b k3 k4 k0;exact(k2 b (k.imp id fun⟨v,t,l,k3,k4⟩=>⟨v,t,l,ha.rd true v t l k3,k4⟩) (iZ k0 e)).trans e
theorem eY.lt{β:Env}{w:World}{h:Value}{t:Ty}{l:List t.D}(hk:eY β w h t l){a:Addr}{n c:Nat}(e:h= .slice (some a) n c)(h0:0<c):a.block<w.heap.size:=by
 obtain⟨a',n',c',rfl,_,_,_,h4⟩:=hk;simp at e;obtain⟨rfl,rfl,rfl⟩:=e;obtain⟨a0,_,_,_,_,_,e,_,k,_⟩:=h4 h0;simp at e;subst e;exact(Array.getElem?_eq_some_iff.1 k).1
theorem gb.lt{β:Env}{L:Nat→Option Kd}{w:World}{i:Nat}{x:bE}(h:gb β L w i x){b:Nat}(ho:dM β x i b):b<w.heap.size:=by
 cases x with
 |cK cells elem=>
  obtain⟨c,fz,h1,_⟩:=h;have Og:b=β.b i:=ho;subst Og;exact(Array.getElem?_eq_some_iff.1 h1).1
 |own v t l=>
  obtain⟨a,n,c,e,h0,rfl⟩:=ho;exact eY.lt h e h0
 |gone v=>exact ho.elim
 |qn t D y=>exact h.1 b ho
theorem cN.lt(h:cN W bP β₀ β hp w){b:Nat}(ho:fb hp β b):b<w.heap.size:=by
 obtain⟨i,x,hi,ho⟩:=ho;exact(h.items i x hi).lt ho
theorem cN.add(h:cN W bP β₀ β hp w){id:Nat}(rA:kd hp id=none){x:bE}{β':Env}{w':World} (hb:∀j,j≠id→β'.b j=β.b j) (hh:∀j,j≠id→β'.h j=β.h j) (mN:β'.rd=β.rd) (hs:w.heap.size≤w'.heap.size) (hos:w'.os=w.os) (HU:w'.output=w.output) (hold:∀b,b<w.heap.size→w'.heap[b]? =w.heap[b]?) (kr:∀b,dM β' x id b→w.heap.size≤b) (hit:dx β β' (kd hp) (kd (cL hp id x))→gb β' (kd (cL hp id x)) w' id x):cN W bP β₀ β' (cL hp id x) w'∧dx β β' (kd hp) (kd (cL hp id x)):=by
 have ko:∀ {i k},kd hp i=some k→i≠id:=fun hi e=>by subst e;rw[rA]at hi;cases hi
 have a2p:∀ {i y},hp[i]? =some (some y)→i≠id:=fun hi=>ko (fM hi);have tY:dx β β' (kd hp) (kd (cL hp id x)):=by
  refine⟨fun i hi=>⟨by rw[fB,if_neg (ko hi)];exact hi,hb i (ko hi)⟩,fun i c hi=>⟨c,by rw[fB,if_neg (ko hi)];exact hi,Nat.le_refl _,fun _=>hh i (ko hi)⟩,fun pm v t l hr=>by rw[mN];exact hr⟩
 have rM:∀ {i y},(cL hp id x)[i]? =some (some y)→(i=id∧y=x)∨(i≠id∧hp[i]? =some (some y)):=by
  intro i y hi;by_cases e:i=id
  ·subst e;rw[fR]at hi;simp at hi;exact .inl ⟨rfl,hi.symm⟩
  ·exact .inr ⟨e,(eh hp id x i y e).1 hi⟩
 have lk:∀ {b},fb (cL hp id x) β' b→w.heap.size≤b∨fb hp β b:=by
  rintro b ⟨i,y,hi,ho⟩;rcases rM hi with⟨rfl,rfl⟩|⟨e,um⟩
  ·exact .inl (kr b ho)
  ·exact .inr ⟨i,y,um,(dM.congr (hb i e) (hh i e)).1 ho⟩
 refine⟨⟨?_,?_,h.first.trans tY,?_,hos.trans h.os,HU.trans h.output,Nat.le_trans h.size hs,?_,?_,?_⟩,tY⟩
 ·intro i y hi;rcases rM hi with⟨rfl,rfl⟩|⟨e,um⟩
  ·exact hit tY
  ·exact(h.items i y um).of tY (hb i e) (hh i e) (fun b ho=>hold b ((h.items i y um).lt ho)) fun _ _ _ b _ _ k=>hold b k
 ·intro i j y z b hi hj h1 h2;rcases rM hi with⟨rfl,rfl⟩|⟨ei,um⟩<;>rcases rM hj with⟨e,rfl⟩|⟨ej,Gy⟩
  ·exact e.symm
  ·have k1:=kr b h1;have k2:=(h.items j z Gy).lt ((dM.congr (hb j ej) (hh j ej)).1 h2);omega
  ·subst e;have k1:=kr b h2;have k2:=(h.items i y um).lt ((dM.congr (hb i ei) (hh i ei)).1 h1);omega
  ·exact h.inj i j y z b um Gy ((dM.congr (hb i ei) (hh i ei)).1 h1) ((dM.congr (hb j ej) (hh j ej)).1 h2)
 ·intro i y b hi ho;rcases rM hi with⟨rfl,rfl⟩|⟨e,um⟩
  ·exact .inl (Nat.le_trans h.size (kr b ho))
  ·exact h.own i y b um ((dM.congr (hb i e) (hh i e)).1 ho)
 ·intro b mw ko;rw[hold b (by have:=h.size;omega)];exact h.bV b mw ko
 ·intro pm v t l hr;rw[mN]at hr;obtain⟨h1,h2⟩:=h.reads pm v t l hr;refine⟨(h1.of fun b mw hl=>hold b hl).mono fun pm v t l hr=>by rw[mN];exact hr,fun b mw=>⟨Nat.lt_of_lt_of_le (h2 b mw).1 hs,fun ho=>?_⟩⟩;rcases lk ho with k|k
  ·have:=(h2 b mw).1;omega
  ·exact(h2 b mw).2 k
 ·intro pm v t l b hr mw;rw[mN]at hr;exact h.from_ pm v t l b hr mw
theorem cN.R0(h:cN W bP β₀ β hp w){i:Nat}{x x':bE}(hi:hp[i]? =some (some x)){β':Env}{w':World} (hb:β'.b=β.b) (hh:∀j,j≠i→β'.h j=β.h j) (mN:β'.rd=β.rd) (hkd:(x.kd= .cK∧x'.kd= .cK)∨∃c c',x.kd= .own c∧x'.kd= .own c'∧c≤c'∧(c=c'→β'.h i=β.h i)) (hs:w.heap.size≤w'.heap.size) (hos:w'.os=w.os) (HU:w'.output=w.output) (hold:∀b,b<w.heap.size→¬dM β x i b→w'.heap[b]? =w.heap[b]?) (kr:∀b,dM β' x' i b→dM β x i b∨w.heap.size≤b) (hit:dx β β' (kd hp) (kd (hp.set i (some x')))→gb β' (kd (hp.set i (some x'))) w' i x'):cN W bP β₀ β' (hp.set i (some x')) w'∧dx β β' (kd hp) (kd (hp.set i (some x'))):=by
 have hil:i<hp.length:=(List.getElem?_eq_some_iff.1 hi).1;have Oh:(hp.set i (some x'))[i]? =some (some x'):=List.getElem?_set_self hil;have aeZ:∀j,j≠i→(hp.set i (some x'))[j]? =hp[j]? :=fun j hj=>List.getElem?_set_ne (Ne.symm hj);have aLR:kd (hp.set i (some x')) i=some x'.kd:=fM Oh;have aLS:∀j,j≠i→kd (hp.set i (some x')) j=kd hp j:=fun j hj=>by unfold kd;rw[aeZ j hj]
 have tY:dx β β' (kd hp) (kd (hp.set i (some x'))):=by
  refine⟨fun j hj=>?_,fun j c hj=>?_,fun pm v t l hr=>by rw[mN];exact hr⟩
  ·by_cases e:j=i
   ·subst e;rw[fM hi]at hj;simp at hj;rcases hkd with⟨_,k⟩|⟨c,c',k,_⟩
    ·exact⟨by rw[aLR,k],by rw[hb]⟩
    ·rw[hj]at k;cases k
   ·exact⟨by rw[aLS j e];exact hj,by rw[hb]⟩
  ·by_cases e:j=i
   ·subst e;rw[fM hi]at hj;simp at hj;rcases hkd with⟨k,_⟩|⟨c1,c',k,k1,k2,k3⟩
    ·rw[hj]at k;cases k
    ·rw[hj]at k;simp at k;subst k;exact⟨c',by rw[aLR,k1],k2,k3⟩
   ·exact⟨c,by rw[aLS j e];exact hj,Nat.le_refl _,fun _=>hh j e⟩
 have rM:∀ {j y},(hp.set i (some x'))[j]? =some (some y)→(j=i∧y=x')∨(j≠i∧hp[j]? =some (some y)):=by
  intro j y hj;by_cases e:j=i
  ·subst e;rw[Oh]at hj;simp at hj;exact .inl ⟨rfl,hj.symm⟩
  ·exact .inr ⟨e,by rw[aeZ j e]at hj;exact hj⟩
 have yV:∀ {j y b},j≠i→(dM β' y j b↔dM β y j b):=fun e=>dM.congr (by rw[hb]) (hh _ e);have hx:=h.items i x hi;have aDL:∀ {j y b},j≠i→hp[j]? =some (some y)→dM β y j b→¬dM β x i b:=fun e hj h1 h2=>e (h.inj _ _ _ _ _ hj hi h1 h2);have lk:∀ {b},fb (hp.set i (some x')) β' b→w.heap.size≤b∨fb hp β b:=by
  rintro b ⟨j,y,hj,ho⟩;rcases rM hj with⟨rfl,rfl⟩|⟨e,Gy⟩
  ·rcases kr b ho with k|k
   ·exact .inr ⟨_,x,hi,k⟩
   ·exact .inl k
  ·exact .inr ⟨j,y,Gy,(yV e).1 ho⟩
 refine⟨⟨?_,?_,h.first.trans tY,?_,hos.trans h.os,HU.trans h.output,Nat.le_trans h.size hs,?_,?_,?_⟩,tY⟩
 ·intro j y hj;rcases rM hj with⟨rfl,rfl⟩|⟨e,Gy⟩
  ·exact hit tY
  ·exact(h.items j y Gy).of tY (by rw[hb]) (hh j e) (fun b ho=>hold b ((h.items j y Gy).lt ho) (aDL e Gy ho)) fun v t l b k1 k2 k3=>hold b k3 fun ho=>((h.reads true v t l k1).2 b k2).2 ⟨i,x,hi,ho⟩
 ·intro j k y z b hj hk h1 h2;rcases rM hj with⟨ej,rfl⟩|⟨ej,Gy⟩<;>rcases rM hk with⟨ek,rfl⟩|⟨ek,px⟩
  ·rw[ej,ek]
  ·subst ej;have k2:=(yV ek).1 h2;rcases kr b h1 with k|k
   ·exact absurd k (aDL ek px k2)
   ·have:=(h.items _ z px).lt k2;omega
  ·subst ek;have k1:=(yV ej).1 h1;rcases kr b h2 with k|k
   ·exact absurd k (aDL ej Gy k1)
   ·have:=(h.items _ y Gy).lt k1;omega
  ·exact h.inj j k y z b Gy px ((yV ej).1 h1) ((yV ek).1 h2)
 ·intro j y b hj ho;rcases rM hj with⟨rfl,rfl⟩|⟨e,Gy⟩
  ·rcases kr b ho with k|k
   ·exact h.own _ x b hi k
   ·exact .inl (Nat.le_trans h.size k)
  ·exact h.own j y b Gy ((yV e).1 ho)
 ·intro b mw ko;rw[hold b (by have:=h.size;omega) fun ho=>?_]
  ·exact h.bV b mw ko
  ·rcases h.own i x b hi ho with k|⟨y,k⟩
   ·omega
   ·exact ko ⟨i,y,k⟩
 ·intro pm v t l hr;rw[mN]at hr;obtain⟨h1,h2⟩:=h.reads pm v t l hr;refine⟨(h1.of fun b mw hl=>hold b hl fun ho=>(h2 b mw).2 ⟨i,x,hi,ho⟩).mono fun pm v t l hr=>by rw[mN];exact hr,fun b mw=>⟨Nat.lt_of_lt_of_le (h2 b mw).1 hs,fun ho=>?_⟩⟩;rcases lk ho with k|k
  ·have:=(h2 b mw).1;omega
  ·exact(h2 b mw).2 k
 ·intro pm v t l b hr mw;rw[mN]at hr;exact h.from_ pm v t l b hr mw
theorem cN.drew(h:cN W bP β₀ β hp w)(n:Nat)(tp:Tape):cN W bP β₀ β hp {w with drawn:=n,tape:=tp}:=⟨h.items,h.inj,h.first,h.own,h.os,h.output,h.size,h.bV,h.reads,h.from_⟩
def Env.rp(β:Env)(pm:Bool)(v:Value)(t:Ty)(l:List t.D):Env:=⟨β.b,β.h,fun nm v' t' l'=>β.rd nm v' t' l'∨(nm=pm∧v'=v∧∃e:t=t',e▸l=l')⟩
theorem cN.rp(h:cN W bP β₀ β hp w){pm:Bool}{v:Value}{t:Ty}{l:List t.D}(hr:dw β pm w v t l) (hb:∀b,inBlock v b→b<w.heap.size∧¬fb hp β b∧(W.heap.size≤b∨∃nm v' t' l',(pm=true→nm=true)∧β₀.rd nm v' t' l'∧inBlock v' b)):cN W bP β₀ (β.rp pm v t l) hp w∧dx β (β.rp pm v t l) (kd hp) (kd hp)∧(β.rp pm v t l).rd pm v t l:=by
 have hm:∀nm v' t' l',β.rd nm v' t' l'→(β.rp pm v t l).rd nm v' t' l':=fun _ _ _ _ h=>.inl h;have tY:dx β (β.rp pm v t l) (kd hp) (kd hp):=⟨fun i hi=>⟨hi,rfl⟩,fun i c hi=>⟨c,hi,Nat.le_refl _,fun _=>rfl⟩,hm⟩;have hoc:∀ {x i b},dM (β.rp pm v t l) x i b↔dM β x i b:=dM.congr rfl rfl;have hod:∀ {b},fb hp (β.rp pm v t l) b↔fb hp β b:=⟨fun⟨i,x,h1,h2⟩=>⟨i,x,h1,hoc.1 h2⟩,fun⟨i,x,h1,h2⟩=>⟨i,x,h1,hoc.2 h2⟩⟩;refine⟨⟨fun i x hi=>(h.items i x hi).of tY rfl rfl (fun _ _=>rfl) fun _ _ _ _ _ _ _=>rfl,fun i j x y b hi hj h1 h2=>h.inj i j x y b hi hj (hoc.1 h1) (hoc.1 h2),h.first.trans tY,fun i x b hi ho=>h.own i x b hi (hoc.1 ho),h.os,h.output,h.size,h.bV,?_,?_⟩,tY,.inr ⟨rfl,rfl,rfl,rfl⟩⟩
 ·rintro nm v' t' l' (hv|⟨rfl,rfl,rfl,rfl⟩)
  ·obtain⟨h1,h2⟩:=h.reads nm v' t' l' hv;exact⟨h1.mono hm,fun b mw=>⟨(h2 b mw).1,fun ho=>(h2 b mw).2 (hod.1 ho)⟩⟩
  ·exact⟨hr.mono hm,fun b mw=>⟨(hb b mw).1,fun ho=>(hb b mw).2.1 (hod.1 ho)⟩⟩
 ·rintro nm v' t' l' b (hv|⟨rfl,rfl,rfl,rfl⟩) hbl
  ·exact h.from_ nm v' t' l' b hv hbl
  ·exact(hb b hbl).2.2
end
inductive Ask (α:Type) where
 |ret (a:α)
 |get (i:Nat) (k:Option bE→Ask α)
def dp(hp:Hp)(i:Nat):Option bE:=match hp[i]? with|some (some x)=>some x|_=>none
def Ask.val{α:Type}(hp:Hp):Ask α→α
 | .ret a=>a
 | .get i k=>(k (dp hp i)).val hp
def Ask.log{α:Type}(hp:Hp):Ask α→List Nat
 | .ret _=> []
 | .get i k=>i::(k (dp hp i)).log hp
def Ask.bind{α β:Type}:Ask α→(α→Ask β)→Ask β
 | .ret a,f=>f a
 | .get i k,f=>.get i fun x=>(k x).bind f
def Ask.map{α β:Type}(f:α→β)(a:Ask α):Ask β:=a.bind fun x=>.ret (f x)
theorem Ask.gC{α β:Type}(hp:Hp):∀ (a:Ask α) (f:α→Ask β),(a.bind f).val hp=(f (a.val hp)).val hp
 | .ret _,_=>rfl
 | .get i k,f=>Ask.gC hp (k (dp hp i)) f
theorem Ask.fc{α β:Type}(hp:Hp)(a:Ask α)(f:α→β):(a.map f).val hp=f (a.val hp):=Ask.gC hp a _
theorem Ask.HV{α:Type}{hp hp2:Hp}:∀ (a:Ask α),(∀i∈a.log hp,dp hp2 i=dp hp i)→a.val hp2=a.val hp∧a.log hp2=a.log hp
 | .ret _,_=>⟨rfl,rfl⟩
 | .get i k,h=>by
  have h0:dp hp2 i=dp hp i:=h i (by simp[Ask.log]);have:=Ask.HV (hp:=hp) (hp2:=hp2) (k (dp hp i)) fun j hj=>h j (by simp[Ask.log,hj]);simp only[Ask.val,Ask.log,h0];exact⟨this.1,by rw[this.2]⟩
theorem cf{hp:Hp}{i:Nat}{x:bE}(h:dp hp i=some x):hp[i]? =some (some x):=by
 unfold dp at h;split at h
 ·rename_i y hy;simp at h;subst h;exact hy
 ·cases h
theorem tf{hp:Hp}{i:Nat}{x:bE}(h:hp[i]? =some (some x)):dp hp i=some x:=by unfold dp;rw[h]
def Ty.flat:Ty→Bool
 | .int _| .bool| .rl| .str=>true
 | .sl _=>false
 | .pair a b=>a.flat&&b.flat
 | .arr t _=>t.flat
theorem Ty.uG{β:Env}{pm nm:Bool}:∀ (t:Ty) {x:t.D} {vs:List Value},t.flat=true→t.has β pm x vs→t.has β nm x vs
 | .int _,_,_,_,h=>h
 | .bool,_,_,_,h=>h
 | .rl,_,_,_,h=>h
 | .str,_,_,_,h=>h
 | .sl _,_,_,hf,_=>by cases hf
 | .pair a b,_,_,hf,h=>by
  simp only[Ty.flat,Bool.and_eq_true]at hf;obtain⟨u,w,h,h1,h2⟩:=h;exact⟨u,w,h,a.uG hf.1 h1,b.uG hf.2 h2⟩
 | .arr t _,_,_,hf,⟨h1,h2⟩=>⟨h1,h2.imp fun _ _=>t.uG hf⟩
theorem AE.abV{β:Env}{pm:Bool}{v:Value}{t:Ty}{l:List t.D}(h:AE β true v t l):AE β pm v t l:=by
 rcases h with h|⟨h,_⟩|h
 ·exact .inl h
 ·cases h
 ·exact .inr (.inr h)
theorem Ty.rN{β:Env}{pm:Bool}:∀ (t:Ty) {x:t.D} {vs:List Value},t.has β true x vs→t.has β pm x vs
 | .int _,_,_,h=>h
 | .bool,_,_,h=>h
 | .rl,_,_,h=>h
 | .str,_,_,h=>h
 | .sl _,_,_,⟨v,h1,h2,h3⟩=>⟨v,h1,h2,h3.abV⟩
 | .pair a b,_,_,⟨u,w,h,h1,h2⟩=>⟨u,w,h,a.rN h1,b.rN h2⟩
 | .arr t _,_,_,⟨h1,h2⟩=>⟨h1,h2.imp fun _ _=>t.rN⟩
def Ty.Gz(pm:Bool):(t:Ty)→t.D→List SV
 | .int k,n=> [.int k (.sym n)]
 | .bool,b=> [.bool (.sym b)]
 | .rl,n=> [.rl n]
 | .str,l=> [.str l]
 | .sl t,l=> [.rd pm false t l]
 | .pair a b,x=>a.Gz pm x.1++b.Gz pm x.2
 | .arr t n,l=>if pm||t.flat then [.arr t n l]else List.replicate (n*t.w) .dT
theorem GA{β:Env}{L:Nat→Option Kd}:∀ {vs:List Value} {n:Nat},vs.length=n→(∀v∈vs,v.oneCell'=true)→dc β L (List.replicate n .dT) vs
 | [],_,h,_=>by simp at h;subst h;exact .nil
 |v::vs,n,h,h1=>by
  cases n with
  |zero=>simp at h
  |succ n=>
   rw[List.replicate_succ];exact dc.pq (h1 v (by simp)) (GA (by simpa using h) fun u hu=>h1 u (by simp[hu]))
theorem Ty.oR{β:Env}{L:Nat→Option Kd}{pm:Bool}:∀ (t:Ty) {x:t.D} {vs:List Value},t.has β pm x vs→dc β L (t.Gz pm x) vs
 | .int _,_,_,h=>by simp only[Ty.has]at h;subst h;exact dc.pq rfl .nil
 | .bool,_,_,h=>by simp only[Ty.has]at h;subst h;exact dc.pq rfl .nil
 | .rl,_,_,h=>by simp only[Ty.has]at h;subst h;exact dc.pq rfl .nil
 | .str,_,_,h=>by simp only[Ty.has]at h;subst h;exact dc.pq rfl .nil
 | .sl _,_,_,h=>by
  simp only[Ty.has]at h;obtain⟨v,rfl,h1,h2⟩:=h;exact dc.pq ⟨h1,fun h=>by(cases h),h2⟩ .nil
 | .pair a b,_,_,h=>by
  simp only[Ty.has]at h;obtain⟨u,w,rfl,h1,h2⟩:=h;exact(a.oR h1).append (b.oR h2)
 | .arr t n,x,vs,h=>by
  have HW:=h;simp only[Ty.has]at h;obtain⟨h1,h2⟩:=h;simp only[Ty.Gz];split
  ·rename_i hp;refine cI.one (R:=SV.kZ β L) ⟨h1,?_⟩;cases pm with
   |true=>exact h2
   |false=>exact h2.imp fun _ _=>t.uG (by simpa using hp)
  ·exact GA (Ty.ie _ HW) (Ty.vG _ HW)
def yW:List SV→Nat→Option (List SV×List SV)
 |l,0=>some ([],l)
 | [],_+1=>none
 | .arr t n x::r,k+1=>
  if n*t.w≤k+1 then(yW r (k+1-n*t.w)).map fun p=>(.arr t n x::p.1,p.2)
  else if t.w≠0∧(k+1)%t.w=0 then some ([.arr t ((k+1)/t.w) (x.take ((k+1)/t.w))],.arr t (n-(k+1)/t.w) (x.drop ((k+1)/t.w))::r)
  else none
 |s::r,k+1=>(yW r k).map fun p=>(s::p.1,p.2)
theorem j8{β:Env}{t:Ty}{pm:Bool}{l:List t.D}{vs:List Value}(h:cI (t.has β pm) l vs)(j:Nat):∃v1 v2,vs=v1++v2∧cI (t.has β pm) (l.take j) v1∧cI (t.has β pm) (l.drop j) v2:=by
 rw[← List.take_append_drop j l]at h;exact h.split
theorem oh{β:Env}{L:Nat→Option Kd}:∀ (l:List SV) (k:Nat) {a b:List SV} {vs:List Value},yW l k=some (a,b)→dc β L l vs→
  ∃va vb,vs=va++vb∧va.length=k∧dc β L a va∧dc β L b vb
 |l,0,a,b,vs,h,hd=>by
  have:yW l 0=some ([],l):=by cases l<;>rfl
  rw[this]at h;simp at h;obtain⟨rfl,rfl⟩:=h;exact⟨[],vs,rfl,rfl,.nil,hd⟩
 | [],k+1,a,b,vs,h,_=>by simp[yW]at h
 |s::r,k+1,a,b,vs,h,hd=>by
  have plain:(∀t n l,s≠ .arr t n l)→∃va vb,vs=va++vb∧va.length=k+1∧dc β L a va∧dc β L b vb:=by
   intro hs;have h':(yW r k).map (fun p=>(s::p.1,p.2))=some (a,b):=by
    cases s with
    |arr t n l=>exact absurd rfl (hs t n l)
    |_=>exact h
   obtain⟨⟨a',b'⟩,h1,h2⟩:=Option.map_eq_some_iff.1 h';simp at h2;obtain⟨rfl,rfl⟩:=h2;cases hd with
   |cons h3 h4=>
    obtain⟨v,rfl,h5⟩:=SV.lj h3 hs;obtain⟨va,vb,rfl,e,h6,h7⟩:=oh r k h1 h4;exact⟨v::va,vb,rfl,by simp[e],dc.pq h5 h6,h7⟩
  cases s with
  |arr t n x=>
   simp only[yW]at h;cases hd with
   |cons h3 h4=>
    rename_i us ws;have F2:=SV.j7 h3;simp only[SV.w]at F2;split at h
    ·rename_i hle;obtain⟨⟨a',b'⟩,h1,h2⟩:=Option.map_eq_some_iff.1 h;simp at h2;obtain⟨rfl,rfl⟩:=h2;obtain⟨va,vb,rfl,e,h6,h7⟩:=oh r (k+1-n*t.w) h1 h4;exact⟨us++va,vb,by simp,by simp[F2,e];omega,.cons h3 h6,h7⟩
    ·rename_i iZ;split at h
     ·rename_i hw;simp at h;obtain⟨rfl,rfl⟩:=h;obtain⟨h5,h6⟩:=h3;obtain⟨v1,v2,rfl,h7,h8⟩:=j8 h6 ((k+1)/t.w);have hdiv:(k+1)/t.w*t.w=k+1:=Nat.div_mul_cancel (Nat.dvd_of_mod_eq_zero hw.2)
      have a2q:(k+1)/t.w<n:=Nat.lt_of_not_le fun hle=>iZ (by
       have:=Nat.mul_le_mul_right t.w hle;omega)
      have hl1:(x.take ((k+1)/t.w)).length=(k+1)/t.w:=(by simp;omega);refine⟨v1,v2++ws,by simp,by rw[dh h7,hl1,hdiv],cI.one (R:=SV.kZ β L) ⟨hl1,h7⟩,.cons (R:=SV.kZ β L) ⟨by simp;omega,h8⟩ h4⟩
     ·simp at h
  |_=>exact plain (by intros;simp)
def abW(l:List SV)(off m:Nat):Option (List SV):=match yW l off with
 |some (_,b)=>(yW b m).map (·.1)
 |none=>none
theorem tg{β:Env}{L:Nat→Option Kd}{l:List SV}{off m:Nat}{s:List SV}{vs:List Value}(h:abW l off m=some s)(hd:dc β L l vs):∃pre mid post,vs=pre++(mid++post)∧pre.length=off∧mid.length=m∧dc β L s mid:=by
 unfold abW at h;split at h
 ·rename_i a b hc;obtain⟨⟨x,y⟩,h1,rfl⟩:=Option.map_eq_some_iff.1 h;obtain⟨va,vb,rfl,e1,h2,h3⟩:=oh _ _ hc hd;obtain⟨vc,ve,rfl,e2,h4,h5⟩:=oh _ _ h1 h3;exact⟨va,vc,ve,rfl,e1,e2,h4⟩
 ·cases h
def Ab:List SV→Nat→Option SV
 | [],_=>none
 | .arr t n x::r,off=>
  if off<n*t.w then
   (if t.w=1 then match t.Gz true (x.getD off t.z)with| [.arr _ _ _]=>none| [s]=>some s|_=>none
    else if(t.Gz true (x.getD (off/t.w) t.z)).all (fun s=>match s with| .arr _ _ _=>false|_=>true)then(t.Gz true (x.getD (off/t.w) t.z))[off%t.w]? else none)
  else Ab r (off-n*t.w)
 |s::_,0=>some s
 |_::r,off+1=>Ab r off
theorem ln{β:Env}{t:Ty}{pm:Bool}{l:List t.D}{vs:List Value}(h:cI (t.has β pm) l vs){j:Nat}(hj:j<l.length):∃a u b,vs=a++(u++b)∧a.length=j*t.w∧t.has β pm (l.getD j t.z) u∧cI (t.has β pm) (l.take j) a∧cI (t.has β pm) (l.drop (j+1)) b:=by
 have e:l[j]? =some (l.getD j t.z):=by simp[List.getD,hj]
 obtain⟨a,u,b,rfl,h1,h2,h3⟩:=h.get e;exact⟨a,u,b,rfl,by rw[dh h2,List.length_take,Nat.min_eq_left (Nat.le_of_lt hj)],h1,h2,h3⟩
theorem rO{β:Env}{L:Nat→Option Kd}:∀ {l:List SV} {vs:List Value} {i:Nat} {s:SV},l.all (fun s=>match s with| .arr _ _ _=>false|_=>true)=true→dc β L l vs→l[i]? =some s→∃v,vs[i]? =some v∧s.den β L v
 | [],_,_,_,_,_,h=>by simp at h
 |x::l,_,i,s,ha,.cons h1 h2,h=>by
  simp only[List.all_cons,Bool.and_eq_true]at ha;obtain⟨v,rfl,hv⟩:=SV.lj h1 (fun t n l e=>by subst e;simp at ha);cases i with
  |zero=>simp at h;subst h;exact⟨v,by simp,hv⟩
  |succ i=>
   simp at h;obtain⟨u,h3,h4⟩:=rO ha.2 h2 h;exact⟨u,by simpa using h3,h4⟩
theorem rP{β:Env}{L:Nat→Option Kd}:∀ (l:List SV) (off:Nat) {s:SV} {vs:List Value},Ab l off=some s→dc β L l vs→∃v,vs[off]? =some v∧s.den β L v
 | [],_,_,_,h,_=>by simp[Ab]at h
 |x::r,off,s,vs,h,hd=>by
  have plain:(∀t n l,x≠ .arr t n l)→∃v,vs[off]? =some v∧s.den β L v:=by
   intro hs;cases hd with
   |cons h1 h2=>
    obtain⟨v,rfl,h3⟩:=SV.lj h1 hs;cases off with
    |zero=>
     have:s=x:=by
      cases x with
      |arr t n l=>exact absurd rfl (hs t n l)
      |_=>simp[Ab]at h;exact h.symm
     subst this;exact⟨v,rfl,h3⟩
    |succ off=>
     have:Ab r off=some s:=by
      cases x with
      |arr t n l=>exact absurd rfl (hs t n l)
      |_=>exact h
     obtain⟨u,h4,h5⟩:=rP r off this h2;exact⟨u,by simpa using h4,h5⟩
  cases x with
  |arr t n x=>
   have h':(if off<n*t.w then
   (if t.w=1 then match t.Gz true (x.getD off t.z)with| [.arr _ _ _]=>none| [s]=>some s|_=>none
    else if(t.Gz true (x.getD (off/t.w) t.z)).all (fun s=>match s with| .arr _ _ _=>false|_=>true)then(t.Gz true (x.getD (off/t.w) t.z))[off%t.w]? else none)
  else Ab r (off-n*t.w))=some s:=by
    cases off<;>exact h
   clear h;cases hd with
   |cons h1 h2=>
    rename_i us ws;have F2:=SV.j7 h1;simp only[SV.w]at F2;obtain⟨h3,h4⟩:=h1;split at h'
    ·rename_i iZ;split at h'
     ·rename_i hw;have hj:off<x.length:=(by rw[h3];rw[hw]at iZ;omega);obtain⟨a,u,b,rfl,e1,h5,_⟩:=ln h4 hj;have h6:=t.oR (L:=L) h5;rw[hw,Nat.mul_one]at e1;split at h'
      ·cases h'
      ·rename_i s' _ hse;simp at h';subst h';rw[hse]at h6;obtain⟨v,rfl,h7⟩:=SV.lj (cI.mr h6) (by assumption);exact⟨v,by rw[← e1];simp,h7⟩
      ·cases h'
     ·split at h'
      ·rename_i hw HW
       have lp:0<t.w:=by rcases Nat.eq_zero_or_pos t.w with e|e
                         · rw[e]at iZ;omega
                         · exact e
       have hj:off/t.w<x.length:=(by rw[h3];exact(Nat.div_lt_iff_lt_mul lp).2 iZ);obtain⟨a,u,b,rfl,e1,h5,_⟩:=ln h4 hj;obtain⟨v,h7,h8⟩:=rO HW (t.oR (L:=L) h5) h';refine⟨v,?_,h8⟩;have hm:off=a.length+off%t.w:=(by rw[e1,Nat.mul_comm];exact(Nat.div_add_mod off t.w).symm);have aWV:=(List.getElem?_eq_some_iff.1 h7).1;rw[hm,List.append_assoc,List.getElem?_append_right (by omega),Nat.add_sub_cancel_left,List.append_assoc,List.getElem?_append_left aWV];exact h7
      ·cases h'
    ·rename_i hge;obtain⟨v,h5,h6⟩:=rP r (off-n*t.w) h' h2;exact⟨v,by rw[List.getElem?_append_right (by omega),F2];exact h5,h6⟩
  |_=>exact plain (by intros;simp)
def vJ{α:Type}(f:List SV→Option α)(w:Nat):Nat→List SV→Option (List α)
 |0,[]=>some []
 |0,_::_=>none
 |n+1,l=>match yW l w with
  |some (a,b)=>match f a,vJ f w n b with
   |some x,some m=>some (x::m)
   |_,_=>none
  |none=>none
theorem rQ{β:Env}{L:Nat→Option Kd}{α:Type}{R:α→List Value→Prop}{f:List SV→Option α}{w:Nat}(hf:∀a x vs,f a=some x→dc β L a vs→R x vs):
  ∀ (n:Nat) {l:List SV} {m:List α} {vs:List Value},vJ f w n l=some m→dc β L l vs→cI R m vs∧m.length=n
 |0,[],m,vs,h,hd=>by simp[vJ]at h;subst h;cases hd;exact⟨.nil,rfl⟩
 |0,_::_,_,_,h,_=>by simp[vJ]at h
 |n+1,l,m,vs,h,hd=>by
  simp only[vJ]at h;split at h
  ·rename_i a b hc;split at h
   ·rename_i x m' h1 h2;simp at h;subst h;obtain⟨va,vb,rfl,_,h3,h4⟩:=oh _ _ hc hd;obtain⟨h5,h6⟩:=rQ hf n h2 h4;exact⟨.cons (hf _ _ _ h1 h3) h5,by simp[h6]⟩
   ·cases h
  ·cases h
def om(s:ByteArray):ab:=s.data.toList.map fun x=>(x.toNat:Int)
theorem iJ(s:ByteArray):strOf (om s)=s:=by
 unfold strOf om;rw[List.map_map];have:((fun n:Int=>UInt8.ofNat n.toNat)∘fun x:UInt8=>(x.toNat:Int))=id:=by
  funext x;simp
 rw[this];simp
theorem uH(l:ab):(strOf l).size=l.length:=by unfold strOf;show Array.size _=_;simp
def Ty.read(pm:Bool):(t:Ty)→List SV→Option t.D
 | .int k,l=>match l with
  | [.int k' n]=>if k'=k then some n.val else none
  |_=>none
 | .bool,l=>match l with
  | [.bool b]=>some b.val
  |_=>none
 | .rl,l=>match l with
  | [.rl n]=>some n
  |_=>none
 | .str,l=>match l with
  | [.str s]=>some s
  | [.gm (.string s)]=>some (om s)
  |_=>none
 | .sl t,l=>match l with
  | [.rd nm _ t' m]=>if h:t'=t then(if nm|| !pm then some (h▸m)else none)else none
  | [.gm (.slice none 0 0)]=>some []
  |_=>none
 | .pair a b,l=>match yW l a.w with
  |some (x,y)=>match a.read pm x,b.read pm y with
   |some u,some v=>some (u,v)
   |_,_=>none
  |none=>none
 | .arr t n,l=>match l with
  | [.arr t' n' m]=>if h:t'=t then(if n'=n then some (h▸m)else none)else none
  |l=>vJ (t.read pm) t.w n l
theorem Ty.kt{β:Env}{L:Nat→Option Kd}{pm:Bool}:∀ (t:Ty) {l:List SV} {x:t.D} {vs:List Value},t.read pm l=some x→dc β L l vs→t.has β pm x vs
 | .int k,l,x,vs,h,hd=>by
  simp only[Ty.read]at h;split at h
  ·split at h
   ·rename_i hk;simp at h;subst h hk;obtain⟨v,rfl,rfl⟩:=cI.mr hd;rfl
   ·cases h
  ·cases h
 | .bool,l,x,vs,h,hd=>by
  simp only[Ty.read]at h;split at h
  ·simp at h;subst h;obtain⟨v,rfl,rfl⟩:=cI.mr hd;rfl
  ·cases h
 | .rl,l,x,vs,h,hd=>by
  simp only[Ty.read]at h;split at h
  ·simp at h;subst h;obtain⟨v,rfl,rfl⟩:=cI.mr hd;rfl
  ·cases h
 | .str,l,x,vs,h,hd=>by
  simp only[Ty.read]at h;split at h
  ·simp at h;subst h;obtain⟨v,rfl,rfl⟩:=cI.mr hd;rfl
  ·simp at h;subst h;obtain⟨v,rfl,_,rfl⟩:=cI.mr hd;simp only[Ty.has];rw[iJ]
  ·cases h
 | .sl t,l,x,vs,h,hd=>by
  simp only[Ty.read]at h;split at h
  ·rename_i nm nn t' m;split at h
   ·rename_i ht;subst ht;split at h
    ·rename_i hp;simp at h;subst h;obtain⟨v,rfl,h1,_,h2⟩:=cI.mr hd;refine⟨v,rfl,h1,?_⟩;cases nm
     ·simp at hp;subst hp;exact h2
     ·exact h2.abV
    ·cases h
   ·cases h
  ·simp at h;subst h;obtain⟨v,rfl,h1,rfl⟩:=cI.mr hd;exact⟨_,rfl,h1,.inr (.inr ⟨rfl,rfl⟩)⟩
  ·cases h
 | .pair a b,l,x,vs,h,hd=>by
  simp only[Ty.read]at h;split at h
  ·rename_i u w hc;split at h
   ·rename_i x1 x2 h1 h2;simp at h;subst h;obtain⟨va,vb,rfl,_,h3,h4⟩:=oh _ _ hc hd;exact⟨va,vb,rfl,a.kt h1 h3,b.kt h2 h4⟩
   ·cases h
  ·cases h
 | .arr t n,l,x,vs,h,hd=>by
  simp only[Ty.read]at h;split at h
  ·rename_i t' n' m;split at h
   ·rename_i ht;subst ht;split at h
    ·rename_i hn;simp at h;subst h hn;obtain⟨h1,h2⟩:=cI.mr hd;exact⟨h1,h2.imp fun _ _=>t'.rN⟩
    ·cases h
   ·cases h
  ·obtain⟨h1,h2⟩:=rQ (R:=t.has β pm) (fun a x vs h hd=>t.kt h hd) n h hd;exact⟨h2,h1⟩
def uI(l:List SV)(off:Nat)(new:List SV):Option (List SV):=match yW l off with
 |some (a,b)=>(yW b (wL new)).map fun p=>a++new++p.2
 |none=>none
def Oi:List SV→Nat→List SV→Option (List SV)
 | [],off,new=>uI [] off new
 | .arr t n x::r,off,new=>
  if n*t.w≤off then(Oi r (off-n*t.w) new).map (.arr t n x:: ·)
  else match(if t.w≠0∧off%t.w=0∧wL new=t.w then t.read true new else none)with
   |some y=>some (.arr t n (x.set (off/t.w) y)::r)
   |none=>uI (.arr t n x::r) off new
 |s::r,0,new=>uI (s::r) 0 new
 |s::r,off+1,new=>(Oi r off new).map (s:: ·)
def WS(β:Env)(L:Nat→Option Kd)(l l':List SV)(off:Nat)(new:List SV):Prop:=∀vs ws,dc β L l vs→dc β L new ws→∃pre old post,vs=pre++(old++post)∧pre.length=off∧old.length=ws.length∧dc β L l' (pre++(ws++post))
theorem th{β:Env}{L:Nat→Option Kd}{l l':List SV}{off:Nat}{new:List SV}(h:uI l off new=some l'):WS β L l l' off new:=by
 intro vs ws hd hn;unfold uI at h;split at h
 ·rename_i a b hc;obtain⟨⟨x,y⟩,h1,rfl⟩:=Option.map_eq_some_iff.1 h;obtain⟨va,vb,rfl,e1,h2,h3⟩:=oh _ _ hc hd;obtain⟨vc,ve,rfl,e2,h4,h5⟩:=oh _ _ h1 h3;refine⟨va,vc,ve,rfl,e1,by rw[e2,hn.length],?_⟩;rw[List.append_assoc];exact h2.append (hn.append h5)
 ·cases h
theorem vK{β:Env}{L:Nat→Option Kd}:∀ (l:List SV) (off:Nat) {new l':List SV},Oi l off new=some l'→WS β L l l' off new
 | [],off,new,l',h=>th h
 |s::r,off,new,l',h=>by
  have plain:(∀t n l,s≠ .arr t n l)→WS β L (s::r) l' off new:=by
   intro hs;cases off with
   |zero=>
    refine th ?_;cases s with
    |arr t n l=>exact absurd rfl (hs t n l)
    |_=>exact h
   |succ off=>
    have h':(Oi r off new).map (s:: ·)=some l':=by
     cases s with
     |arr t n l=>exact absurd rfl (hs t n l)
     |_=>exact h
    obtain⟨r',h1,rfl⟩:=Option.map_eq_some_iff.1 h';intro vs ws hd hn;cases hd with
    |cons h2 h3=>
     obtain⟨v,rfl,h4⟩:=SV.lj h2 hs;obtain⟨pre,old,post,rfl,e1,e2,h5⟩:=vK r off h1 _ _ h3 hn;exact⟨v::pre,old,post,rfl,by simp[e1],e2,dc.pq h4 h5⟩
  cases s with
  |arr t n x=>
   have h':(if n*t.w≤off then(Oi r (off-n*t.w) new).map (.arr t n x:: ·)
    else match(if t.w≠0∧off%t.w=0∧wL new=t.w then t.read true new else none)with
     |some y=>some (.arr t n (x.set (off/t.w) y)::r)
     |none=>uI (.arr t n x::r) off new)=some l':=by
    cases off<;>exact h
   clear h;split at h'
   ·rename_i hle;obtain⟨r',h1,rfl⟩:=Option.map_eq_some_iff.1 h';intro vs ws hd hn;cases hd with
    |cons h2 h3=>
     rename_i us vs;have F2:=SV.j7 h2;simp only[SV.w]at F2;obtain⟨pre,old,post,rfl,e1,e2,h5⟩:=vK r _ h1 _ _ h3 hn;refine⟨us++pre,old,post,by simp,by simp[F2,e1];omega,e2,?_⟩;rw[List.append_assoc];exact .cons h2 h5
   ·rename_i iZ;split at h'
    ·rename_i y hy;split at hy
     ·rename_i hw;simp at h';subst h';intro vs ws hd hn;cases hd with
      |cons h2 h3=>
       rename_i us vs;obtain⟨h4,h5⟩:=h2;have hj:off/t.w<x.length:=by
        rw[h4];exact(Nat.div_lt_iff_lt_mul (by omega)).2 (by omega)
       obtain⟨a,u,b,rfl,e1,h6,h7,h8⟩:=ln h5 hj;have hy':=t.kt hy hn;refine⟨a,u,b++vs,by simp,?_,by rw[t.ie h6,t.ie hy'],?_⟩
       ·rw[e1];exact Nat.div_mul_cancel (Nat.dvd_of_mod_eq_zero hw.2.1)
       ·have h9:cI (t.has β true) (x.set (off/t.w) y) (a++(ws++b)):=cI.RZ hj hy' h7 h8;have h10:=cI.cons (R:=SV.kZ β L) (x:=.arr t n (x.set (off/t.w) y)) ⟨by simpa using h4,h9⟩ h3;simpa using h10
     ·cases hy
    ·exact th h'
  |_=>exact plain (by intros;simp)
theorem dN(b off k:Nat):(⟨b,off,none⟩:Addr).add k=⟨b,off+k,none⟩:=by
 unfold Addr.add;split
 ·rename_i e;subst e;simp
 ·rfl
theorem add_add{a:Addr}(h:a.spot=none)(i j:Nat):(a.add i).add j=a.add (i+j):=by
 obtain⟨b,o,s⟩:=a;simp at h;subst h;rw[dN,dN,dN,Nat.add_assoc]
theorem py{a:Addr}(h:a.spot=none)(i:Nat):(a.add i).spot=none:=by
 obtain⟨b,o,s⟩:=a;simp at h;subst h;rw[dN]
theorem fu.mid{w:World}{a:Addr}(hs:a.spot=none){pre mid post:List Value}(h:fu w a (pre++(mid++post))):fu w (a.add pre.length) mid:=by
 intro i u hu;rw[add_add hs];refine h _ u ?_;rw[List.getElem?_append_right (by omega),Nat.add_sub_cancel_left,List.getElem?_append_left (List.getElem?_eq_some_iff.1 hu).1];exact hu
theorem gI{w:World}{b:Nat}{pre mid post:List Value}{elem:TypeId}{fz:Nat×Nat}(h:w.heap[b]? =some (.cells (pre++(mid++post)).toArray elem fz)):fu w ⟨b,pre.length,none⟩ mid:=by
 intro i u hu;rw[dN];simp only[World.cell?,h];have iZ:=(List.getElem?_eq_some_iff.1 hu).1;simp only[Option.isSome_none,Bool.false_eq_true,if_false,List.getElem?_toArray];rw[List.getElem?_append_right (by omega),Nat.add_sub_cancel_left,List.getElem?_append_left iZ];exact hu
theorem oo{P:Program}{w:World}{a:Addr}{vs:List Value}(h:fu w a vs):(loadCells a vs.length).run P w= .ok vs.toArray w:=run_loadCells_list w a vs h
theorem fU{P:Program}{a:Addr}(hs:a.spot=none){elem:TypeId}{fz:Nat×Nat}:∀ (ws:List Value) (k:Nat) (pre old post:List Value) (w:World),w.heap[a.block]? =some (.cells (pre++(old++post)).toArray elem fz)→pre.length=a.off+k→old.length=ws.length→
  (∀v∈ws,v.oneCell'=true)→(∀off,pre.length≤off→off<pre.length+ws.length→¬ (fz.1≤off∧off<fz.2))→
  ∃w',(storeCells a ws k).run P w= .ok () w'∧w'.heap[a.block]? =some (.cells (pre++(ws++post)).toArray elem fz)∧(∀b,b≠a.block→w'.heap[b]? =w.heap[b]?)∧w'.heap.size=w.heap.size∧w'.os=w.os∧w'.output=w.output
 | [],k,pre,old,post,w,h,_,hl,_,_=>by
  have:old= []:=List.eq_nil_of_length_eq_zero (by simpa using hl);subst this;exact⟨w,rfl,h,fun _ _=>rfl,rfl,rfl,rfl⟩
 |v::ws,k,pre,old,post,w,h,hp,hl,h1,hf=>by
  cases old with
  |nil=>simp at hl
  |cons o old=>
   obtain⟨b,of,s⟩:=a;simp at hs;subst hs;simp only at h hp hl ⊢;have aWW:(⟨b,of,none⟩:Addr).add k=⟨b,pre.length,none⟩:=(by rw[dN];congr 1;exact hp.symm);have hc:w.cell? ⟨b,pre.length,none⟩=some o:=by
    simp only[World.cell?,h];simp
   have hfz:w.frozen? ⟨b,pre.length,none⟩=false:=by
    simp only[World.frozen?,h];have:=hf pre.length (Nat.le_refl _) (by simp);simpa using this
   have uJ:(w.setCell ⟨b,pre.length,none⟩ v).heap[b]? =some (.cells ((pre++ [v])++(old++post)).toArray elem fz):=by
    simp only[World.setCell,Array.getElem?_modify,h];simp
   obtain⟨w',e1,e2,e3,e4,e5,e6⟩:=fU (P:=P) (a:=⟨b,of,none⟩) rfl (elem:=elem) (fz:=fz) ws (k+1) (pre++ [v]) old post (w.setCell ⟨b,pre.length,none⟩ v) uJ (by simp;omega) (by simpa using hl) (fun u hu=>h1 u (by simp[hu]))
    (fun off k1 k2=>hf off (by simp at k1;omega) (by simp at k2 ⊢;omega))
   refine⟨w',?_,by simpa using e2,fun c uK=>?_,?_,?_,?_⟩
   ·simp only[storeCells,Sem.run_bind,aWW,run_store P w _ v _ (h1 v (by simp)),hc,hfz];simpa using e1
   ·rw[e3 c uK];exact heap_setCell_other w _ c v uK
   ·rw[e4];simp
   ·rw[e5];rfl
   ·rw[e6];rfl
def map2(f:Int→Int→Int):SI→SI→SI
 | .lit a,.lit b=>.lit (f a b)
 |a,b=>.sym (f a.val b.val)
def map2B(f:Int→Int→Bool):SI→SI→SB
 | .lit a,.lit b=>.lit (f a b)
 |a,b=>.sym (f a.val b.val)
@[simp] theorem map2_val(f:Int→Int→Int)(a b:SI):(map2 f a b).val=f a.val b.val:=by cases a<;>cases b<;>rfl
@[simp] theorem map2B_val (f:Int→Int→Bool) (a b:SI):(map2B f a b).val=f a.val b.val:=by cases a<;>cases b<;>rfl
def dz (k:IntKind) (x y:Int):Int:=k.wrap (BitVec.ofInt k.bits x&&& BitVec.ofInt k.bits y).toNat
def cV(k:IntKind)(x y:Int):Int:=k.wrap (BitVec.ofInt k.bits x|||BitVec.ofInt k.bits y).toNat
def dU(k:IntKind)(x y:Int):Int:=k.wrap (BitVec.ofInt k.bits x ^^^ BitVec.ofInt k.bits y).toNat
def eL(k:IntKind)(x y:Int):Int:=k.wrap (BitVec.ofInt k.bits x&&& ~~~BitVec.ofInt k.bits y).toNat
def shl(k:IntKind)(x y:Int):Int:=k.wrap (x*2 ^ (min y.toNat k.bits))
def shr(k:IntKind)(x y:Int):Int:=x.fdiv (2 ^ (min y.toNat k.bits))
def ae2(op:BinOp)(k:IntKind)(a b:SI):Option (Option Prop×SV):=match op with
 | .add=>some (none,.int k (map2 (fun x y=>k.wrap (x+y)) a b))
 | .sub=>some (none,.int k (map2 (fun x y=>k.wrap (x-y)) a b))
 | .mul=>some (none,.int k (map2 (fun x y=>k.wrap (x*y)) a b))
 | .quo=>match b with
  | .lit y=>if y=0 then none else some (none,.int k (map2 (fun x y=>k.wrap (x.tdiv y)) a b))
  | .sym y=>some (some (y≠0),.int k (map2 (fun x y=>k.wrap (x.tdiv y)) a b))
 | .rem=>match b with
  | .lit y=>if y=0 then none else some (none,.int k (map2 (fun x y=>x.tmod y) a b))
  | .sym y=>some (some (y≠0),.int k (map2 (fun x y=>x.tmod y) a b))
 | .and=>some (none,.int k (map2 (dz k) a b))
 | .or=>some (none,.int k (map2 (cV k) a b))
 | .xor=>some (none,.int k (map2 (dU k) a b))
 | .andNot=>some (none,.int k (map2 (eL k) a b))
 | .eql=>some (none,.bool (map2B (fun x y=>x==y) a b))
 | .neq=>some (none,.bool (map2B (fun x y=>x !=y) a b))
 | .lss=>some (none,.bool (map2B (fun x y=>decide (x<y)) a b))
 | .leq=>some (none,.bool (map2B (fun x y=>decide (x≤y)) a b))
 | .gtr=>some (none,.bool (map2B (fun x y=>decide (x>y)) a b))
 | .geq=>some (none,.bool (map2B (fun x y=>decide (x≥y)) a b))
 |_=>none
def vL(f:Int→Int→Int)(k:IntKind)(a b:SI):Option (Option Prop×SV):=match b with
 | .lit y=>if y<0 then none else some (none,.int k (map2 f a b))
 | .sym y=>some (some (0≤y),.int k (map2 f a b))
def ae3(P:Program)(op:BinOp)(t:TypeId):SV→SV→Option (Option Prop×SV)
 | .int k a,.int k' b=>
  match op with
  | .shl=>vL (shl k) k a b
  | .shr=>vL (shr k) k a b
  |_=>if k=k' then ae2 op k a b else none
 | .bool a,.bool b=>
  match op,P.underlying t with
  | .eql,some .bool=>some (none,.bool (match a,b with| .lit x,.lit y=>.lit (x==y)|a,b=>.sym (a.val==b.val)))
  | .neq,some .bool=>some (none,.bool (match a,b with| .lit x,.lit y=>.lit (!(x==y))|a,b=>.sym (!(a.val==b.val))))
  |_,_=>none
 | .ptr _ _,.gm (.pointer none)=>
  match op,P.underlying t with
  | .eql,some (.pointer _)=>some (none,.bool (.lit false))
  | .neq,some (.pointer _)=>some (none,.bool (.lit true))
  |_,_=>none
 | .gm (.pointer none),.gm (.pointer none)=>
  match op,P.underlying t with
  | .eql,some (.pointer _)=>some (none,.bool (.lit true))
  | .neq,some (.pointer _)=>some (none,.bool (.lit false))
  |_,_=>none
 | .slice _ _ _ _,.gm (.slice none _ _)=>
  match op,P.underlying t with
  | .eql,some (.slice _)=>some (none,.bool (.lit false))
  | .neq,some (.slice _)=>some (none,.bool (.lit true))
  |_,_=>none
 | .gm (.slice none _ _),.gm (.slice none _ _)=>
  match op,P.underlying t with
  | .eql,some (.slice _)=>some (none,.bool (.lit true))
  | .neq,some (.slice _)=>some (none,.bool (.lit false))
  |_,_=>none
 |_,_=>none
def iC:Option Prop→Prop
 |none=>True
 |some p=>p
theorem fa{P:Program}{w:World}{op:BinOp}{t:TypeId}{x y:Operand}{a b:Value} (ha:∀c,a≠ .agg c) (hi:a≠ .nilIface):(eqGuard op t x y a b).run P w= .ok () w:=by
 unfold eqGuard
 cases op<;>first
  |rfl
  |(cases a<;>first
    |(exact absurd rfl (ha _))
    |(exact absurd rfl hi)
    |(cases b<;>rfl))
theorem ku{P:Program}{w:World}{t:TypeId}{x y:Value}{b:Bool}(h:∀d,(Op.equalIn (d+1) t x y).run P w= .ok b w):(Op.equal t x y).run P w= .ok b w:=h 9999
noncomputable section
variable {P:Program} {w:World} {t:TypeId}
theorem WT{a b:Bool}(hu:P.underlying t=some .bool):(Op.equal t (.bool a) (.bool b)).run P w= .ok (a==b) w:=ku fun d=>by simp[Op.equalIn,run_underlying hu]
theorem CJ{e:TypeId}{p:Addr}(hu:P.underlying t=some (.pointer e)):(Op.equal t (.pointer (some p)) (.pointer none)).run P w= .ok false w:=ku fun d=>by simp[Op.equalIn,run_underlying hu]
theorem CK{e:TypeId}(hu:P.underlying t=some (.pointer e)):(Op.equal t (.pointer none) (.pointer none)).run P w= .ok true w:=ku fun d=>by simp[Op.equalIn,run_underlying hu]
theorem mO{e:TypeId}{p:Addr}{l c l' c':Nat}(hu:P.underlying t=some (.slice e)):(Op.equal t (.slice (some p) l c) (.slice none l' c')).run P w= .ok false w:=ku fun d=>by simp[Op.equalIn,run_underlying hu]
theorem WU{e:TypeId}{l c l' c':Nat}(hu:P.underlying t=some (.slice e)):(Op.equal t (.slice none l c) (.slice none l' c')).run P w= .ok true w:=ku fun d=>by simp[Op.equalIn,run_underlying hu]
theorem ti{x y:Value}{b:Bool}(hx:binOp .eql t x y=(do pure (.bool (← Op.equal t x y))))(h:(Op.equal t x y).run P w= .ok b w):(binOp .eql t x y).run P w= .ok (.bool b) w:=by
 rw[hx,Sem.run_bind,h];rfl
theorem tj{x y:Value}{b:Bool}(hx:binOp .neq t x y=(do pure (.bool (!(← Op.equal t x y)))))(h:(Op.equal t x y).run P w= .ok b w):(binOp .neq t x y).run P w= .ok (.bool (!b)) w:=by
 rw[hx,Sem.run_bind,h];rfl
end
theorem aDN{P:Program}{w:World}{op:BinOp}{t:TypeId}{k:IntKind}{a b:SI}{β:Env}{L:Nat→Option Kd}{q:Option Prop}{s:SV} (h:ae2 op k a b=some (q,s)) (hq:iC q):∃v,(binOp op t (.int k a.val) (.int k b.val)).run P w= .ok v w∧s.den β L v:=by
 cases op<;>simp only[ae2]at h<;>try (simp at h;done)
 case quo=>
  cases b with
  |lit y=>simp only at h;split at h
          · simp at h
          · rename_i hy;simp at h;obtain⟨_,rfl⟩:=h;exact⟨_,by simp[binOp,Op.intDiv,SI.val,hy];rfl,by simp only[SV.den,map2_val];rfl⟩
  |sym y=>simp at h;obtain⟨rfl,rfl⟩:=h
          have hy:¬y=0:=hq;exact⟨_,by simp[binOp,Op.intDiv,SI.val,hy];rfl,by simp only[SV.den,map2_val];rfl⟩
 case rem=>
  cases b with
  |lit y=>simp only at h;split at h
          · simp at h
          · rename_i hy;simp at h;obtain⟨_,rfl⟩:=h;exact⟨_,by simp[binOp,Op.intDiv,SI.val,hy];rfl,by simp only[SV.den,map2_val];rfl⟩
  |sym y=>simp at h;obtain⟨rfl,rfl⟩:=h
          have hy:¬y=0:=hq;exact⟨_,by simp[binOp,Op.intDiv,SI.val,hy];rfl,by simp only[SV.den,map2_val];rfl⟩
 all_goals
  simp at h;obtain⟨_,rfl⟩:=h;exact⟨_,by simp[binOp,Op.intArith,Op.intBits,Op.intCmp];rfl,by simp[SV.den,dz,cV,dU,eL]⟩
theorem Oj{P:Program}{w:World}{op:BinOp}{t:TypeId}{k k':IntKind}{a b:SI}{β:Env}{L:Nat→Option Kd}{q:Option Prop}{s:SV}{f:Int→Int→Int} (hop:(op= .shl∧f=shl k)∨(op= .shr∧f=shr k)) (h:vL f k a b=some (q,s)) (hq:iC q):∃v,(binOp op t (.int k a.val) (.int k' b.val)).run P w= .ok v w∧s.den β L v:=by
 have key:0≤b.val→∃v,(binOp op t (.int k a.val) (.int k' b.val)).run P w= .ok v w∧(SV.int k (map2 f a b)).den β L v:=by
  intro hb;have mw:¬b.val<0:=by omega
  rcases hop with⟨rfl,rfl⟩|⟨rfl,rfl⟩
  ·exact⟨_,by simp[binOp,Op.shift,mw];rfl,by simp[SV.den,shl]⟩
  ·exact⟨_,by simp[binOp,Op.shift,mw];rfl,by simp[SV.den,shr]⟩
 cases b with
 |lit y=>
  simp only[vL]at h;split at h
  ·simp at h
  ·simp at h;obtain⟨_,rfl⟩:=h;exact key (by simp only[SI.val];omega)
 |sym y=>
  simp only[vL]at h;simp at h;obtain⟨rfl,rfl⟩:=h;exact key hq
theorem aDO{P:Program}{w:World}{op:BinOp}{t:TypeId}{ox oy:Operand}{x y:SV}{xv yv:Value}{β:Env}{L:Nat→Option Kd}{q:Option Prop}{s:SV}
  (h:ae3 P op t x y=some (q,s)) (hq:iC q) (hx:x.den β L xv) (hy:y.den β L yv):
  ∃v,(do eqGuard op t ox oy xv yv;binOp op t xv yv:Sem Value).run P w= .ok v w∧s.den β L v:=by
 unfold ae3 at h;split at h
 ·
  rename_i k a k' b;simp only[SV.den]at hx hy;subst hx hy;simp only[Sem.run_bind,fa (P:=P) (w:=w) (op:=op) (t:=t) (x:=ox) (y:=oy) (a:=.int k a.val) (b:=.int k' b.val) (by simp) (by simp),Result.andThen_ok];split at h
  ·exact Oj (.inl ⟨rfl,rfl⟩) h hq
  ·exact Oj (.inr ⟨rfl,rfl⟩) h hq
  ·split at h
   ·rename_i hk;subst hk;exact aDN h hq
   ·simp at h
 ·rename_i a b;simp only[SV.den]at hx hy;subst hx hy;simp only[Sem.run_bind,fa (P:=P) (w:=w) (op:=op) (t:=t) (x:=ox) (y:=oy) (a:=.bool a.val) (b:=.bool b.val) (by simp) (by simp),Result.andThen_ok];split at h
  ·rename_i hu;simp at h;obtain⟨_,rfl⟩:=h;exact⟨.bool (a.val==b.val),ti rfl (WT hu),by cases a<;>cases b<;>rfl⟩
  ·rename_i hu;simp at h;obtain⟨_,rfl⟩:=h;exact⟨.bool (!(a.val==b.val)),tj rfl (WT hu),by cases a<;>cases b<;>rfl⟩
  ·simp at h
 ·rename_i b o;simp only[SV.den]at hx hy;obtain⟨_,rfl⟩:=hx;obtain⟨_,rfl⟩:=hy;simp only[Sem.run_bind,fa (P:=P) (w:=w) (op:=op) (t:=t) (x:=ox) (y:=oy) (a:=.pointer (some ⟨β b,o,none⟩)) (b:=.pointer none) (by simp) (by simp),Result.andThen_ok];split at h
  ·rename_i hu;simp at h;obtain⟨_,rfl⟩:=h;exact⟨.bool false,ti rfl (CJ hu),rfl⟩
  ·rename_i hu;simp at h;obtain⟨_,rfl⟩:=h;exact⟨.bool true,tj rfl (CJ hu),rfl⟩
  ·simp at h
 ·simp only[SV.den]at hx hy;obtain⟨_,rfl⟩:=hx;obtain⟨_,rfl⟩:=hy;simp only[Sem.run_bind,fa (P:=P) (w:=w) (op:=op) (t:=t) (x:=ox) (y:=oy) (a:=.pointer none) (b:=.pointer none) (by simp) (by simp),Result.andThen_ok];split at h
  ·rename_i hu;simp at h;obtain⟨_,rfl⟩:=h;exact⟨.bool true,ti rfl (CK hu),rfl⟩
  ·rename_i hu;simp at h;obtain⟨_,rfl⟩:=h;exact⟨.bool false,tj rfl (CK hu),rfl⟩
  ·simp at h
 ·rename_i b o l c l' c';simp only[SV.den]at hx hy;obtain⟨_,rfl⟩:=hx;obtain⟨_,rfl⟩:=hy;simp only[Sem.run_bind,fa (P:=P) (w:=w) (op:=op) (t:=t) (x:=ox) (y:=oy) (a:=.slice (some ⟨β b,o,none⟩) l c) (b:=.slice none l' c') (by simp) (by simp),Result.andThen_ok];split at h
  ·rename_i hu;simp at h;obtain⟨_,rfl⟩:=h;exact⟨.bool false,ti rfl (mO hu),rfl⟩
  ·rename_i hu;simp at h;obtain⟨_,rfl⟩:=h;exact⟨.bool true,tj rfl (mO hu),rfl⟩
  ·simp at h
 ·rename_i l c l' c';simp only[SV.den]at hx hy;obtain⟨_,rfl⟩:=hx;obtain⟨_,rfl⟩:=hy;simp only[Sem.run_bind,fa (P:=P) (w:=w) (op:=op) (t:=t) (x:=ox) (y:=oy) (a:=.slice none l c) (b:=.slice none l' c') (by simp) (by simp),Result.andThen_ok];split at h
  ·rename_i hu;simp at h;obtain⟨_,rfl⟩:=h;exact⟨.bool true,ti rfl (WU hu),rfl⟩
  ·rename_i hu;simp at h;obtain⟨_,rfl⟩:=h;exact⟨.bool false,tj rfl (WU hu),rfl⟩
  ·simp at h
 ·simp at h
def gP(l m:ab):Bool:=(strOf l).toList==(strOf m).toList
def rR:SV→Option ab
 | .str l=>some l
 | .gm (.string s)=>some (om s)
 |_=>none
theorem lq{β:Env}{L:Nat→Option Kd}{s:SV}{l:ab}{v:Value}(h:rR s=some l)(hd:s.den β L v):v= .string (strOf l):=by
 unfold rR at h;split at h
 ·simp at h;subst h;exact hd
 ·simp at h;subst h;obtain⟨_,rfl⟩:=hd;rw[iJ]
 ·cases h
def azC(op:BinOp)(l m:ab):Option SV:=match op with
 | .eql=>some (.bool (.sym (gP l m)))
 | .neq=>some (.bool (.sym (!gP l m)))
 |_=>none
structure JC where
 cK:Nat→Bool
 own:Nat→Option (Nat×Nat×Nat)
 nl:Nat→Bool
 nr:Nat→Bool
def vM(b:Bool)(J:JC):SV→SV→Option SV
 | .arr t n l,.arr t' n' l'=>if h:t'=t then(if n=n' then some (.arr t n (bif b then l else h▸l'))else none)else none
 |_,_=>none
def GB(b:Bool)(J:JC):SV→SV→SV
 | .int k x,.int k' y=>if k=k' then
   match x,y with
   | .lit x,.lit y=>if x=y then .int k (.lit x)else .int k (.sym (bif b then x else y))
   |x,y=>.int k (.sym (bif b then x.val else y.val))
  else .dT
 | .bool x,.bool y=>match x,y with
  | .lit x,.lit y=>if x=y then .bool (.lit x)else .bool (.sym (bif b then x else y))
  |x,y=>.bool (.sym (bif b then x.val else y.val))
 | .rl x,.rl y=>.rl (bif b then x else y)
 | .str x,.str y=>.str (bif b then x else y)
 | .str x,.gm (.string y)=>.str (bif b then x else om y)
 | .gm (.string x),.str y=>.str (bif b then om x else y)
 | .gm (.string x),.gm (.string y)=>if x.data=y.data then .gm (.string x)else .str (bif b then om x else om y)
 | .ptr i o,.ptr i' o'=>if i=i'∧o=o'∧J.cK i=true then .ptr i o else .dT
 | .slice i o l c,.slice i' o' l' c'=>if i=i'∧o=o'∧l=l'∧c=c'∧J.cK i=true then .slice i o l c else .dT
 | .gm (.pointer none),.gm (.pointer none)=>.gm (.pointer none)
 | .gm (.slice none l c),.gm (.slice none l' c')=>if l=l'∧c=c' then .gm (.slice none l c)else .dT
 | .gm .nilIface,.gm .nilIface=>.gm .nilIface
 | .gm .nilFunc,.gm .nilFunc=>.gm .nilFunc
 | .rd pm nn t l,.rd nm nn' t' l'=>if h:t'=t then .rd (pm&&nm) (nn&&nn') t (bif b then l else h▸l')else .dT
 | .rd pm _ t l,.gm (.slice none 0 0)=>.rd pm false t (bif b then l else [])
 | .gm (.slice none 0 0),.rd pm _ t l=>.rd pm false t (bif b then []else l)
 | .sl i v,.sl i' v'=>if i=i' then match J.own i with
   |some (vx,vy,vz)=>if v=vx∧v'=vy then .sl i vz else .dT
   |none=>.dT
  else .dT
 | .gm (.slice none 0 0),.sl i v=>match J.own i with
   |some (_,vy,vz)=>if J.nl i=true∧v=vy then .sl i vz else .dT
   |none=>.dT
 | .sl i v,.gm (.slice none 0 0)=>match J.own i with
   |some (vx,_,vz)=>if J.nr i=true∧v=vx then .sl i vz else .dT
   |none=>.dT
 | .vw i v w z n,.vw i' v' w' z' n'=>if i=i'∧w=w' then match J.own i with
   |some (vx,vy,vz)=>if v=vx∧v'=vy then .vw i vz w (bif b then z else z') (bif b then n else n')else .dT
   |none=>.dT
  else .dT
 | .vb i o t m z n,.vb i' o' t' m' z' n'=>if i=i'∧o=o'∧t=t'∧m=m'∧J.cK i=true then .vb i o t m (bif b then z else z') (bif b then n else n')else .dT
 |_,_=>.dT
def pz(b:Bool)(J:JC):List SV→List SV→Option (List SV)
 | [],[]=>some []
 |x::l,y::r=>match x,y with
  | .arr t n a,y=>match vM b J (.arr t n a) y with
   |some z=>(pz b J l r).map (z:: ·)
   |none=>none
  |_,.arr _ _ _=>none
  |x,y=>(pz b J l r).map (GB b J x y:: ·)
 |_,_=>none
def GC(b:Bool)(J:JC):VV→VV→Option VV
 | .sc x,.sc y=>some (.sc (GB b J x y))
 | .agg l,.agg r=>(pz b J l r).map .agg
 |_,_=>none
def rq(b:Bool)(J:JC):List VV→List VV→Option (List VV)
 | [],[]=>some []
 |x::l,y::r=>match GC b J x y,rq b J l r with
  |some z,some m=>some (z::m)
  |_,_=>none
 |_,_=>none
def Ol(b:Bool)(J:JC):LV→LV→LV
 | .one x,.one y=>match GC b J x y with
  |some z=>.one z
  |none=>.dT
 | .dB l,.dB r=>match rq b J l r with
  |some z=>.dB z
  |none=>.dT
 |_,_=>.dT
structure Om (J:JC) (β:Env) (L₁ L:Nat→Option Kd):Prop where
 cK:∀i,J.cK i=true→L₁ i=some .cK→L i=some .cK
 own:∀i x y z,J.own i=some (x,y,z)→L₁ i=some (.own x)∧L i=some (.own z)
 nil:∀i,J.nl i=true→β.h i= .slice none 0 0
structure CL (J:JC) (β:Env) (L₁ L:Nat→Option Kd):Prop where
 cK:∀i,J.cK i=true→L₁ i=some .cK→L i=some .cK
 own:∀i x y z,J.own i=some (x,y,z)→L₁ i=some (.own y)∧L i=some (.own z)
 nil:∀i,J.nr i=true→β.h i= .slice none 0 0
theorem CM{J:JC}{β:Env}{L₁ L:Nat→Option Kd}(hJ:Om J β L₁ L){x y:SV}{v:Value}(h:x.den β L₁ v):(GB true J x y).den β L v:=by
 have h1:=SV.dn h;unfold GB;split
 ·split
  ·rename_i hk;subst hk;split
   ·split<;>exact h
   ·exact h
  ·exact h1
 ·split
  ·split<;>exact h
  ·exact h
 ·exact h
 ·exact h
 ·exact h
 ·obtain⟨_,rfl⟩:=h;simp only[SV.den,cond_true,iJ]
 ·obtain⟨_,rfl⟩:=h;split
  ·exact⟨rfl,rfl⟩
  ·simp only[SV.den,cond_true,iJ]
 ·split
  ·rename_i e;exact⟨hJ.cK _ e.2.2 h.1,h.2⟩
  ·exact h1
 ·split
  ·rename_i e;exact⟨hJ.cK _ e.2.2.2.2 h.1,h.2⟩
  ·exact h1
 ·exact h
 ·split
  ·exact h
  ·exact h1
 ·exact h
 ·exact h
 ·split
  ·rename_i e;subst e;obtain⟨k1,k2,k3⟩:=h;refine⟨k1,fun hn=>k2 (by simp at hn;exact hn.1),?_⟩;rcases k3 with k|⟨rfl,k⟩|k
   ·exact .inl k
   ·exact .inr (.inl ⟨rfl,k⟩)
   ·exact .inr (.inr k)
  ·exact h1
 ·obtain⟨k1,k2,k3⟩:=h;exact⟨k1,fun hn=>(by cases hn),k3⟩
 ·obtain⟨_,rfl⟩:=h;exact⟨rfl,fun hn=>(by cases hn),.inr (.inr ⟨rfl,rfl⟩)⟩
 ·split
  ·rename_i e;subst e;split
   ·rename_i vx vy vz ho;split
    ·rename_i e;obtain⟨rfl,rfl⟩:=e;obtain⟨k1,c,k2,k3,k4⟩:=h;obtain⟨m1,m2⟩:=hJ.own _ _ _ _ ho;rw[m1]at k2;simp at k2;exact⟨k1,vz,m2,Nat.le_refl _,fun _=>k4 k2⟩
    ·exact h1
   ·exact h1
  ·exact h1
 ·split
  ·rename_i vx vy vz ho;split
   ·rename_i e;obtain⟨m1,m2⟩:=hJ.own _ _ _ _ ho;obtain⟨_,rfl⟩:=h;exact⟨rfl,vz,m2,Nat.le_refl _,fun _=>(hJ.nil _ e.1).symm⟩
   ·exact h1
  ·exact h1
 ·split
  ·rename_i vx vy vz ho;split
   ·rename_i e;obtain⟨_,rfl⟩:=e;obtain⟨k1,c,k2,k3,k4⟩:=h;obtain⟨m1,m2⟩:=hJ.own _ _ _ _ ho;rw[m1]at k2;simp at k2;exact⟨k1,vz,m2,Nat.le_refl _,fun _=>k4 k2⟩
   ·exact h1
  ·exact h1
 ·split
  ·rename_i e;obtain⟨rfl,rfl⟩:=e;split
   ·rename_i vx vy vz ho;split
    ·rename_i e;obtain⟨rfl,rfl⟩:=e;obtain⟨k1,c,k2,k3,k4⟩:=h;obtain⟨m1,m2⟩:=hJ.own _ _ _ _ ho;rw[m1]at k2;simp at k2;exact⟨k1,vz,m2,Nat.le_refl _,fun _=>k4 k2⟩
    ·exact h1
   ·exact h1
  ·exact h1
 ·split
  ·rename_i e;obtain⟨k1,k2⟩:=h;exact⟨hJ.cK _ e.2.2.2.2 k1,k2⟩
  ·exact h1
 ·exact h1
theorem Ac{J:JC}{β:Env}{L₁ L:Nat→Option Kd}(hJ:CL J β L₁ L){x y:SV}{v:Value}(h:y.den β L₁ v):(GB false J x y).den β L v:=by
 have h1:=SV.dn h;unfold GB;split
 ·split
  ·rename_i hk;subst hk;split
   ·split
    ·rename_i e;subst e;exact h
    ·exact h
   ·exact h
  ·exact h1
 ·split
  ·split
   ·rename_i e;subst e;exact h
   ·exact h
  ·exact h
 ·exact h
 ·exact h
 ·obtain⟨_,rfl⟩:=h;simp only[SV.den,cond_false,iJ]
 ·exact h
 ·obtain⟨_,rfl⟩:=h;split
  ·rename_i e;exact⟨rfl,by congr 1;exact congrArg ByteArray.mk e.symm⟩
  ·simp only[SV.den,cond_false,iJ]
 ·split
  ·rename_i e;obtain⟨rfl,rfl,e⟩:=e;exact⟨hJ.cK _ e h.1,h.2⟩
  ·exact h1
 ·split
  ·rename_i e;obtain⟨rfl,rfl,rfl,rfl,e⟩:=e;exact⟨hJ.cK _ e h.1,h.2⟩
  ·exact h1
 ·exact h
 ·split
  ·rename_i e;obtain⟨rfl,rfl⟩:=e;exact h
  ·exact h1
 ·exact h
 ·exact h
 ·split
  ·rename_i e;subst e;obtain⟨k1,k2,k3⟩:=h;refine⟨k1,fun hn=>k2 (by simp at hn;exact hn.2),?_⟩;rcases k3 with k|⟨rfl,k⟩|k
   ·exact .inl k
   ·exact .inr (.inl ⟨by simp,k⟩)
   ·exact .inr (.inr k)
  ·exact h1
 ·obtain⟨_,rfl⟩:=h;exact⟨rfl,fun hn=>(by cases hn),.inr (.inr ⟨rfl,rfl⟩)⟩
 ·obtain⟨k1,k2,k3⟩:=h;exact⟨k1,fun hn=>(by cases hn),k3⟩
 ·split
  ·rename_i e;subst e;split
   ·rename_i vx vy vz ho;split
    ·rename_i e;obtain⟨rfl,rfl⟩:=e;obtain⟨k1,c,k2,k3,k4⟩:=h;obtain⟨m1,m2⟩:=hJ.own _ _ _ _ ho;rw[m1]at k2;simp at k2;exact⟨k1,vz,m2,Nat.le_refl _,fun _=>k4 k2⟩
    ·exact h1
   ·exact h1
  ·exact h1
 ·split
  ·rename_i vx vy vz ho;split
   ·rename_i e;obtain⟨_,rfl⟩:=e;obtain⟨k1,c,k2,k3,k4⟩:=h;obtain⟨m1,m2⟩:=hJ.own _ _ _ _ ho;rw[m1]at k2;simp at k2;exact⟨k1,vz,m2,Nat.le_refl _,fun _=>k4 k2⟩
   ·exact h1
  ·exact h1
 ·split
  ·rename_i vx vy vz ho;split
   ·rename_i e;obtain⟨m1,m2⟩:=hJ.own _ _ _ _ ho;obtain⟨_,rfl⟩:=h;exact⟨rfl,vz,m2,Nat.le_refl _,fun _=>(hJ.nil _ e.1).symm⟩
   ·exact h1
  ·exact h1
 ·split
  ·rename_i e;obtain⟨rfl,rfl⟩:=e;split
   ·rename_i vx vy vz ho;split
    ·rename_i e;obtain⟨rfl,rfl⟩:=e;obtain⟨k1,c,k2,k3,k4⟩:=h;obtain⟨m1,m2⟩:=hJ.own _ _ _ _ ho;rw[m1]at k2;simp at k2;exact⟨k1,vz,m2,Nat.le_refl _,fun _=>k4 k2⟩
    ·exact h1
   ·exact h1
  ·exact h1
 ·split
  ·rename_i e;obtain⟨rfl,rfl,rfl,rfl,e⟩:=e;obtain⟨k1,k2⟩:=h;exact⟨hJ.cK _ e k1,k2⟩
  ·exact h1
 ·exact h1
theorem HX{J:JC}{β:Env}{L₁ L:Nat→Option Kd}{x y z:SV}{vs:List Value}(hz:vM true J x y=some z)(h:x.kZ β L₁ vs):z.kZ β L vs:=by
 unfold vM at hz;split at hz
 ·split at hz
  ·split at hz
   ·simp at hz;subst hz;exact h
   ·cases hz
  ·cases hz
 ·cases hz
theorem F3{J:JC}{β:Env}{L₁ L:Nat→Option Kd}{x y z:SV}{vs:List Value}(hz:vM false J x y=some z)(h:y.kZ β L₁ vs):z.kZ β L vs:=by
 unfold vM at hz;split at hz
 ·split at hz
  ·rename_i e;subst e;split at hz
   ·rename_i e;subst e;simp at hz;subst hz;exact h
   ·cases hz
  ·cases hz
 ·cases hz
theorem uL{J:JC}{β:Env}{L₁ L:Nat→Option Kd}(hJ:Om J β L₁ L):∀ {l r z:List SV} {cs:List Value},pz true J l r=some z→dc β L₁ l cs→dc β L z cs
 | [],[],z,cs,h,hd=>by simp[pz]at h;subst h;cases hd;exact .nil
 |x::l,y::r,z,cs,h,hd=>by
  simp only[pz]at h;cases hd with
  |cons h1 h2=>
   split at h
   ·split at h
    ·rename_i z' hz;obtain⟨z'',R1,rfl⟩:=Option.map_eq_some_iff.1 h;exact .cons (HX hz h1) (uL hJ R1 h2)
    ·cases h
   ·cases h
   ·rename_i hx hy;obtain⟨z'',R1,rfl⟩:=Option.map_eq_some_iff.1 h;obtain⟨v,rfl,h3⟩:=SV.lj h1 (fun t n l e=>hx t n l e);exact dc.pq (CM hJ h3) (uL hJ R1 h2)
 | [],_::_,_,_,h,_=>by simp[pz]at h
 |_::_,[],_,_,h,_=>by simp[pz]at h
theorem rS{J:JC}{β:Env}{L₁ L:Nat→Option Kd}(hJ:CL J β L₁ L):∀ {l r z:List SV} {cs:List Value},pz false J l r=some z→dc β L₁ r cs→dc β L z cs
 | [],[],z,cs,h,hd=>by simp[pz]at h;subst h;cases hd;exact .nil
 |x::l,y::r,z,cs,h,hd=>by
  simp only[pz]at h;cases hd with
  |cons h1 h2=>
   split at h
   ·split at h
    ·rename_i z' hz;obtain⟨z'',R1,rfl⟩:=Option.map_eq_some_iff.1 h;exact .cons (F3 hz h1) (rS hJ R1 h2)
    ·cases h
   ·cases h
   ·rename_i hx hy;obtain⟨z'',R1,rfl⟩:=Option.map_eq_some_iff.1 h;obtain⟨v,rfl,h3⟩:=SV.lj h1 (fun t n l e=>hy t n l e);exact dc.pq (Ac hJ h3) (rS hJ R1 h2)
 | [],_::_,_,_,h,_=>by simp[pz]at h
 |_::_,[],_,_,h,_=>by simp[pz]at h
theorem CN{J:JC}{β:Env}{L₁ L:Nat→Option Kd}(hJ:Om J β L₁ L){x y z:VV}{v:Value}(hz:GC true J x y=some z)(h:x.den β L₁ v):z.den β L v:=by
 unfold GC at hz;split at hz
 ·simp at hz;subst hz;exact CM (L₁:=L₁) hJ h
 ·obtain⟨z',R1,rfl⟩:=Option.map_eq_some_iff.1 hz;obtain⟨cs,rfl,hd⟩:=h;exact⟨cs,rfl,uL hJ R1 hd⟩
 ·simp at hz
theorem CO{J:JC}{β:Env}{L₁ L:Nat→Option Kd}(hJ:Om J β L₁ L):∀ {l r z:List VV} {cs:List Value},rq true J l r=some z→dC (VV.den β L₁) l cs→dC (VV.den β L) z cs
 | [],[],z,cs,h,hd=>by simp[rq]at h;subst h;cases hd;exact .nil
 |x::l,y::r,z,cs,h,hd=>by
  simp only[rq]at h;split at h
  ·rename_i z' m h1 h2;simp at h;subst h;cases hd with
   |cons h3 h4=>exact .cons (CN hJ h1 h3) (CO hJ h2 h4)
  ·simp at h
 | [],_::_,_,_,h,_=>by simp[rq]at h
 |_::_,[],_,_,h,_=>by simp[rq]at h
theorem R2{J:JC}{β:Env}{L₁ L:Nat→Option Kd}(hJ:Om J β L₁ L){x y:LV}{v:Value}(h:x.den β L₁ v):(Ol true J x y).den β L v:=by
 unfold Ol;split
 ·split
  ·rename_i z hz;exact CN hJ hz h
  ·trivial
 ·split
  ·rename_i z hz;obtain⟨cs,rfl,hd⟩:=h;exact⟨cs,rfl,CO hJ hz hd⟩
  ·trivial
 ·trivial
theorem Ad{J:JC}{β:Env}{L₁ L:Nat→Option Kd}(hJ:CL J β L₁ L){x y z:VV}{v:Value}(hz:GC false J x y=some z)(h:y.den β L₁ v):z.den β L v:=by
 unfold GC at hz;split at hz
 ·simp at hz;subst hz;exact Ac (L₁:=L₁) hJ h
 ·obtain⟨z',R1,rfl⟩:=Option.map_eq_some_iff.1 hz;obtain⟨cs,rfl,hd⟩:=h;exact⟨cs,rfl,rS hJ R1 hd⟩
 ·simp at hz
theorem Ae{J:JC}{β:Env}{L₁ L:Nat→Option Kd}(hJ:CL J β L₁ L):∀ {l r z:List VV} {cs:List Value},rq false J l r=some z→dC (VV.den β L₁) r cs→dC (VV.den β L) z cs
 | [],[],z,cs,h,hd=>by simp[rq]at h;subst h;cases hd;exact .nil
 |x::l,y::r,z,cs,h,hd=>by
  simp only[rq]at h;split at h
  ·rename_i z' m h1 h2;simp at h;subst h;cases hd with
   |cons h3 h4=>exact .cons (Ad hJ h1 h3) (Ae hJ h2 h4)
  ·simp at h
 | [],_::_,_,_,h,_=>by simp[rq]at h
 |_::_,[],_,_,h,_=>by simp[rq]at h
theorem On{J:JC}{β:Env}{L₁ L:Nat→Option Kd}(hJ:CL J β L₁ L){x y:LV}{v:Value}(h:y.den β L₁ v):(Ol false J x y).den β L v:=by
 unfold Ol;split
 ·split
  ·rename_i z hz;exact Ad hJ hz h
  ·trivial
 ·split
  ·rename_i z hz;obtain⟨cs,rfl,hd⟩:=h;exact⟨cs,rfl,Ae hJ hz hd⟩
  ·trivial
 ·trivial
end Go.Ev
