/- What the laws lean on, part 9: a reader of code, plain facts, and what each function gives; no conditions. -/
import Derived.Test.YtcbjpiangpjbgaaGreatA8
set_option linter.unusedVariables false
set_option linter.unusedSimpArgs false
noncomputable section
namespace Go.Proofs.YtcbjpiangpjbgaaGreat
open Go Go.Ev Go.Proofs.Tryz
open Go.IntKind (i64 signed u32 u64 wrap wrap_u32)
set_option maxRecDepth 1000000
def Nz(k:Int):Int:=if bd .u32 k 1=1 then bm .u32 (shr .u32 k 1) 3988292384 else shr .u32 k 1
def oY:Nat→Int→Int
 |0,k=>k
 |n+1,k=>oY n (Nz k)
abbrev IB:Type:=Int×Int
abbrev IC:aY St IB:=(bg (jk 3 (ag (ah (aC u32)) (jk 3 (ag (ah (aC i64)) (jk 11 ae)))))
 ae).kB (fun y=>(y.1.1,y.1.2.1)) (fun x=>((x.1,(x.2,())),())) (fun _=>rfl)
abbrev ac3:List Wk:= [.fr (cC 19 [(3,.al),(7,.al)]),.syms,.auto,.aE]
abbrev asM:Exit→List Wk:=w6 ac3 0 [.fr (cC 19 [(3,.al)]),.syms,.auto,.aE] [.fr (cC 19 [(2,.al)]),.syms,.auto,.aE]
abbrev ac4:Type:=Int
abbrev asN(x:ac4):Exit×St:=(Exit.exit 0,⟨(ir 3 (LV.one (VV.sc (SV.int u32 (SI.sym x)))::(ir 15 []))),[]⟩)
def Su(k:Int)(x:Int):Tr (IB⊕(ac4)):=(.ite (decide (x<8)) (.ite (bd u32 k (1:Int)==1) (.ret (.inl
 (bm u32 (shr u32 k 1) 3988292384,i64.wrap (x+1)))) (.ret (.inl (shr u32 k 1,i64.wrap (x+1))))) (.ret
 (.inr (k))))
theorem Wf(i:Int)(k:Int)(x:Int):cY Tryz.prog [] [] f236 0 ((ae).wr (())) asM (IC.wr (k,x))=(Su k x).res IC.wr asN:=by kernel_rfl
abbrev Eg(k:Int)(x:Int):Prop:=0≤x∧x≤8
abbrev ac5(k:Int)(x:Int):ac4:=oY (8-x).toNat k
abbrev ac6:IB→aW:=eS (fun x_=>Eg x_.1 x_.2) (fun x_=>ac5 x_.1 x_.2) asN
theorem anf(k:Int)(x:Int)(h_:Eg k x):dV (fun x_:IB=>Su x_.1 x_.2) (k,x) (ac5 k x):=by
 delta ac5;obtain⟨h1,h2⟩:=h_;obtain⟨j,hj⟩:∃j,(8-x).toNat=j:=⟨_,rfl⟩;rw[hj]
 induction j generalizing k x with
 |zero=>refine .stop ?_;have:¬x<8:=by omega
        simp[Su,this,aA,ak,oY]
 |succ j ih=>
  have c:x<8:=by omega
  refine .go ?_ (ih (Nz k) (x+1) (by omega) (by omega) (by omega));simp only[Su,Nz,c,ai,aH,aS,bb,aP,ay,aG,aT,aM,aQ,bl,bf,aK,aF,ak]
  try simp only[aA,ai,aH,aS,bb,aP,ay,aG,aT,aM,aQ,bl,bf,aK,aF,ak]
  grind [ar]
theorem ac7(i:Int):∀x:IB,Ex Tryz.prog ((ae).wr (())) (.loop (a9 f236 0)) (IC.wr x) (ac6 x):=
 cQ mixed aw (ws:=asM) (aJ.nil _) (fun x_=>Wf i x_.1 x_.2) (fun z e=>by cases e) eY (fun x_ h=>anf x_.1 x_.2 h)
abbrev Sv:Type:=Int
abbrev asO(x:Sv):LV:=LV.one (VV.sc (SV.int u32 (SI.sym x)))
abbrev asP(x:Sv):List (Nat×Ev.Item):= []
def ac8(i:Int):Tr (Sv):=(.need (Eg (u32.wrap i) 0) (.ret (oY 8 (u32.wrap i))))
theorem Wg(i:Int):aN Tryz.prog [] [(0,cg IC ((ae).wr (())) ac3 (ac6))] f236 ((G6).wr (i,())) ((ae).wr (())) [.fr [.sym],.syms,.auto,.aE]=(ac8 i).end asO asP ((ae).wr (())):=by kernel_rfl
theorem ac9(i:Int):aJ Tryz.prog ((ae).wr (())) [(0,cg IC ((ae).wr (())) ac3 (ac6))] (aD f236):=(aJ.bW (jc (by kernel_rfl) (ck (hp:=(ae).wr (())) (ac7 i)) jh))
abbrev Eh(i:Int):Prop:=True
abbrev ada(i:Int):Sv:=oY 8 (u32.wrap i)
def asQ:ao:=cd [] (G6) (ae) (fun x_ y_=>Eh x_.1) (fun x_ y_=>ada x_.1) asO asP
theorem ang(i:Int)(h_:Eh i):(ac8 i).Is (ada i):=by
 delta ada;simp only[ac8,ai,ak];exact⟨⟨by decide,by decide⟩,trivial⟩
theorem anh:asQ.Ok Tryz.prog 236:=
 br mixed aw func236 (by kernel_rfl) call236 (fun x_ y_=>ac9 x_.1) (fun x_ y_=>Wg x_.1) (fun x_ y_ h=>ang x_.1 h)
abbrev Ei:Type:=Int
abbrev adb(x:Ei):LV:=LV.one (VV.sc (SV.int i64 (SI.sym x)))
abbrev ade(x:Ei):List (Nat×Ev.Item):= []
def NA(n:Int):Tr (Ei):=(.ite (decide (n<0)==false) (.ite (decide (512<n)) (.ret (0)) (.ret (i64.wrap (16+
 i64.wrap (i64.wrap ((i64.wrap (i64.wrap (n+8)-1)).tdiv 8)*8))))) (.ret (0)))
theorem NB(n:Int):aN Tryz.prog [] [] f203 ((G6).wr (n,())) ((ae).wr (())) [.fr [.sym],.syms,.auto,.aE]=(NA n).end adb ade ((ae).wr (())):=by kernel_rfl
theorem Wh(n:Int):aJ Tryz.prog ((ae).wr (())) [] (aD f203):=(aJ.nil _)
def eB(n:Int):Int:=if 0≤n∧n≤512 then 16+(n+7)/8*8 else 0
abbrev zO(n:Int):Prop:=True
abbrev NC(n:Int):Ei:=eB n
def adf:ao:=cd [] (G6) (ae) (fun x_ y_=>zO x_.1) (fun x_ y_=>NC x_.1) adb ade
theorem adg(n:Int)(h_:zO n):(NA n).Is (NC n):=by
 delta NC;have e:0≤n→n≤512→i64.wrap (i64.wrap (n+8)-1)=n+7:=fun h1 h2=>by rw[ar (n:=n+8) (by omega) (by omega),ar (by omega) (by omega)];omega
 have e2:0≤n→n≤512→i64.wrap (16+i64.wrap (i64.wrap ((i64.wrap (i64.wrap (n+8)-1)).tdiv 8)*8))=16+(n+7)/8*8:=fun h1 h2=>by
  rw[e h1 h2,Int.tdiv_eq_ediv_of_nonneg (by omega),ar (n:=(n+7)/8) (by omega) (by omega),ar (n:=(n+7)/8*8) (by omega) (by omega),ar (by omega) (by omega)]
 simp only[NA,eB,ai,aH,aS,bb,aP,ay,aG,aT,aM,aQ,bl,bf,aK,aF,ak]
 try simp only[aA,ai,aH,aS,bb,aP,ay,aG,aT,aM,aQ,bl,bf,aK,aF,ak]
 grind [ar]
theorem adh:adf.Ok Tryz.prog 203:=
 br mixed aw func203 (by kernel_rfl) call203 (fun x_ y_=>Wh x_.1) (fun x_ y_=>NB x_.1) (fun x_ y_ h=>adg x_.1 h)
abbrev Ej:Type:=List Int
abbrev adi(x:Ej):LV:=LV.one (VV.sc (SV.sl 0 0))
abbrev adj(x:Ej):List (Nat×Ev.Item):= [(0,Item.own 0 (Ty.int IntKind.u8) x)]
def adk(x:Int):Tr (Ej):=(.ret ([IntKind.u8.wrap x,IntKind.u8.wrap (shr u32 x 8),IntKind.u8.wrap (shr u32
 x 16),IntKind.u8.wrap (shr u32 x 24)]))
theorem ND(x:Int):aN Tryz.prog [] [] f224 (((ag (ah (aC .u32)) ae)).wr (x,())) ((ae).wr (())) [.fr [.rd true u8],.fr [.sym],.syms,.auto,.aE]=(adk x).end adi adj ((ae).wr (())):=by kernel_rfl
theorem Wi(x:Int):aJ Tryz.prog ((ae).wr (())) [] (aD f224):=(aJ.nil _)
def ji(x:Int):List Int:= [IntKind.u8.wrap x,IntKind.u8.wrap (shr .u32 x 8),IntKind.u8.wrap (shr .u32 x 16),IntKind.u8.wrap (shr .u32 x 24)]
abbrev oZ(x:Int):Prop:=True
abbrev NF(x:Int):Ej:=ji x
def NG:ao:=cd [] ((ag (ah (aC .u32)) ae)) (ae) (fun x_ y_=>oZ x_.1) (fun x_ y_=>NF x_.1) adi adj
theorem adl(x:Int)(h_:oZ x):(adk x).Is (NF x):=by
 delta NF;exact rfl
theorem ID:NG.Ok Tryz.prog 224:=
 br mixed aw func224 (by kernel_rfl) call224 (fun x_ y_=>Wi x_.1) (fun x_ y_=>ND x_.1) (fun x_ y_ h=>adl x_.1 h)
abbrev IE:Type:=Int×(List Int)×(List Int)
abbrev IF:aY St IE:=(bg (aq (ah (aU (0) (0))) (aq (ah (aU (1) (0))) (jk 1 (ag (ah (aC i64)) (jk
 8 ae))))) (ag (kY (276) ((ag (tc (Ty.int u32) (256)) ae))) (ag (kY (276) ((ag (tc (Ty.int u32) (256)) ae)))
 ae))).kB (fun y=>(y.1.1,y.2.1.1,y.2.2.1.1)) (fun x=>((x.1,()),((x.2.1,()),((x.2.2,()),())))) (fun _=>rfl)
abbrev adm:List Wk:= [.fr (cC 12 [(0,.al),(1,.al),(3,.al)]),.syms,.auto,.aE]
abbrev asR:Exit→List Wk:=w6 adm 0 [.fr (cC 12 [(0,.al),(1,.al)]),.syms,.auto,.aE] [.fr (cC 12 [(0,.al)]),.syms,.auto,
 .aE]
abbrev adn:Type:=(List Int)×(List Int)
abbrev asS(x:adn):Exit×St:=(Exit.exit 0,⟨(LV.one (VV.sc (SV.ptr 0 0))::(LV.one (VV.sc (SV.ptr 1 0))::(ir 10 []))),
 [some (Item.bH [SV.arr (Ty.int u32) 256 x.1] 276),some (Item.bH [SV.arr (Ty.int u32) 256 x.2] 276)]⟩)
def Sw(i:Int)(z:List Int)(t:List Int):Tr (IE⊕(adn)):=(.ite (decide (i<256)) (.need (Eh i) (.need (0≤i∧i
 <256) (.ret (.inl (i64.wrap (i+1),z,t.set (0+i.toNat) (oY 8 (u32.wrap i))))))) (.ret (.inr (z,t))))
theorem Wj(i:Int)(z:List Int)(t:List Int):cY Tryz.prog [(236,asQ)] [] f234 0 ((ae).wr (())) asR (IF.wr (i,z,t))=(Sw i z t).res IF.wr asS:=by kernel_rfl
theorem Sx:∃l:List Int,l=(List.range 256).map fun i:Nat=>oY 8 i:=⟨_,rfl⟩
def vL:List Int:=Classical.choose Sx
theorem Ek:vL=(List.range 256).map fun i:Nat=>oY 8 i:=Classical.choose_spec Sx
def Bj(n:Nat)(t:List Int):List Int:=(List.range 256).map fun i=>if i<n then oY 8 i else t.getD i 0
theorem ado{n:Nat}(h:n<256)(t:List Int):(Bj n t).set n (oY 8 n)=Bj (n+1) t:=by
 apply List.ext_getElem
 ·simp[Bj]
 intro i h1 h2;have h3:i<256:=by simpa [Bj]using h2
 simp only[Bj,List.getElem_set,List.getElem_map,List.getElem_range]
 by_cases c:n=i
 ·subst c;simp
 ·rw[if_neg c]
  by_cases c2:i<n
  ·rw[if_pos c2,if_pos (by omega)]
  ·rw[if_neg c2,if_neg (by omega)]
abbrev El(i:Int)(z:List Int)(t:List Int):Prop:=0≤i∧i≤256∧∃u,t=Bj i.toNat u
abbrev adp(i:Int)(z:List Int)(t:List Int):adn:=(z,vL)
abbrev adq:IE→aW:=eS (fun x_=>El x_.1 x_.2.1 x_.2.2) (fun x_=>adp x_.1 x_.2.1 x_.2.2) asS
theorem ani(i:Int)(z:List Int)(t:List Int)(h_:El i z t):dV (fun x_:IE=>Sw x_.1 x_.2.1 x_.2.2) (i,z,t) (adp i z t):=by
 delta adp;obtain⟨h1,h2,u,rfl⟩:=h_;obtain⟨k,rfl⟩:∃m:Nat,i=m:=⟨i.toNat,by omega⟩;obtain⟨j,hj⟩:∃j,256-k=j:=⟨_,rfl⟩;rw[Int.toNat_natCast]
 induction j generalizing k with
 |zero=>refine .stop ?_
        have c:¬ (k:Int)<256:=by omega
        have e:Bj k u=vL:=by
          rw[Ek];unfold Bj;apply List.map_congr_left;intro i hi;rw[if_pos (by have:=List.mem_range.1 hi;omega)]
        simp[Sw,c,aA,ak,e]
 |succ j ih=>
  have c:(k:Int)<256:=by omega
  refine .go ?_ (ih (k+1) (by omega) (by omega) (by omega));have e1:u32.wrap (k:Int)=k:=by rw[wrap_u32];omega
  have e2:=ado (n:=k) (by omega) u;simp only[Sw,c,e1,Nat.zero_add,Int.toNat_natCast,e2,ai,aH,aS,bb,aP,ay,aG,aT,aM,aQ,bl,bf,aK,aF,ak]
  try simp only[aA,ai,aH,aS,bb,aP,ay,aG,aT,aM,aQ,bl,bf,aK,aF,ak]
  refine⟨fun _=>?_,fun h=>absurd trivial h⟩;rw[ar (by omega) (by omega)];exact⟨trivial,⟨by omega,trivial⟩,rfl⟩
theorem adr:∀x:IE,Ex Tryz.prog ((ae).wr (())) (.loop (a9 f234 0)) (IF.wr x) (adq x):=
 cQ mixed ((aj anh aw)) (ws:=asR) (aJ.nil _) (fun x_=>Wj x_.1 x_.2.1 x_.2.2) (fun z e=>by cases e) eY (fun x_ h=>ani x_.1 x_.2.1 x_.2.2 h)
abbrev Sy:Type:=List Int
abbrev asT(x:Sy):LV:=LV.one (VV.agg [SV.arr (Ty.int u32) 256 x])
abbrev asU(x:Sy):List (Nat×Ev.Item):= []
def ads:Tr (Sy):=(.need (El 0 (List.replicate 256 (0:Int)) (List.replicate 256 (0:Int))) (.ret (vL)))
theorem Wl:aN Tryz.prog [] [(0,cg IF ((ae).wr (())) adm (adq))] f234 ((ae).wr (())) ((ae).wr (())) [.fr [.sym],.syms,.auto,.aE]=(ads).end asT asU ((ae).wr (())):=by kernel_rfl
theorem adt:aJ Tryz.prog ((ae).wr (())) [(0,cg IF ((ae).wr (())) adm (adq))] (aD f234):=(aJ.bW (jc (by kernel_rfl) (ck (hp:=(ae).wr (())) (adr)) jh))
abbrev Em:Prop:=True
abbrev adu:Sy:=vL
def adv:ao:=cd [] (ae) (ae) (fun _ _=>Em) (fun _ _=>adu) asT asU
theorem anj(h_:Em):(ads).Is (adu):=by
 delta adu;simp only[ads,ai,ak];refine⟨⟨by decide,by decide,List.replicate 256 0,?_⟩,trivial⟩
 apply List.ext_getElem
 ·simp[Bj]
 ·intro i h1 h2;rw[List.getElem_replicate];simp only[Bj,List.getElem_map,List.getElem_range];rw[if_neg (by simp),List.getD_eq_getElem?_getD,List.getElem?_replicate]
  split<;>rfl
theorem Sz:adv.Ok Tryz.prog 234:=
 br mixed aw func234 (by kernel_rfl) call234 (fun x_ y_=>adt) (fun x_ y_=>Wl) (fun x_ y_ h=>anj h)
def Bk(t:List Int)(x:Int)(b:List Int):Int:=b.foldl (fun x c=>bm .u32 (shr .u32 x 8) ((t.take 256).getD (bm .u8 (IntKind.u8.wrap x) c).toNat 0)) x
theorem adw(x y:Int):0≤bm .u8 x y∧bm .u8 x y<256:=by
 unfold bm;rw[IntKind.wrap_u8];omega
abbrev IG:Type:=Int×(List Int)×Int×Int×(List Int)
abbrev IH:aY St IG:=(bg (jk 3 (aq (ah (aU (0) (0))) (ag (ah (aC u32)) (jk 3 (ag (ah (fR false
 false (Ty.int IntKind.u8))) (ag (ah (aC i64)) (ag (ah (aC i64)) (jk 15 ae)))))))) (ag (kY (276) ((ag (tc
 (Ty.int u32) (256)) ae))) ae)).kB (fun y=>(y.1.1,y.1.2.1,y.1.2.2.1,y.1.2.2.2.1,y.2.1.1)) (fun x=>((x.1,(x.2.1,(x.2.2.1,
 (x.2.2.2.1,())))),((x.2.2.2.2,()),()))) (fun _=>rfl)
abbrev adx:List Wk:= [.fr (cC 26 [(3,.al),(4,.al),(8,.al),(9,.al),(10,.al)]),.syms,.auto,.aE]
abbrev asV:Exit→List Wk:=w6 adx 0 [.fr (cC 26 [(4,.al)]),.syms,.auto,.aE] [.fr (cC 26 [(2,.al)]),.syms,.auto,.aE]
abbrev ady:Type:=Int
abbrev asW(x:ady):Exit×St:=(Exit.exit 0,⟨(ir 4 (LV.one (VV.sc (SV.int u32 (SI.sym x)))::(ir 21 []))),[]⟩)
def SA(x:Int)(b:List Int)(n:Int)(i:Int)(t:List Int):Tr (IG⊕(ady)):=(.ite (decide (i<n)) (.need (0≤i∧i
 <(↑b.length:Int)) (.need (0≤bm IntKind.u8 (IntKind.u8.wrap x) (b.getD i.toNat 0)∧bm IntKind.u8 (IntKind.u8.wrap x) (b.getD i.toNat 0)<
 256) (.ret (.inl (bm u32 (shr u32 x 8) ((List.take 256 (List.drop 0 t)).getD (bm IntKind.u8 (IntKind.u8.wrap x) (b.getD i.toNat
 0)).toNat 0),b,n,i64.wrap (i+1),t))))) (.ret (.inr (x))))
theorem Wm(b:List Int)(x:Int)(b:List Int)(n:Int)(i:Int)(t:List Int):cY Tryz.prog [(234,adv)] [] f225 0 ((ae).wr (())) asV (IH.wr (x,b,n,i,t))=(SA x b n i t).res IH.wr asW:=by kernel_rfl
abbrev En(x:Int)(b:List Int)(n:Int)(i:Int)(t:List Int):Prop:=0≤i∧i≤n∧n=b.length∧n<1099511627776
abbrev adz(x:Int)(b:List Int)(n:Int)(i:Int)(t:List Int):ady:=Bk t x (b.drop i.toNat)
abbrev adA:IG→aW:=eS (fun x_=>En x_.1 x_.2.1 x_.2.2.1 x_.2.2.2.1 x_.2.2.2.2) (fun x_=>adz x_.1 x_.2.1 x_.2.2.1 x_.2.2.2.1 x_.2.2.2.2) asW
theorem ank(x:Int)(b:List Int)(n:Int)(i:Int)(t:List Int)(h_:En x b n i t):dV (fun x_:IG=>SA x_.1 x_.2.1 x_.2.2.1 x_.2.2.2.1 x_.2.2.2.2) (x,b,n,i,t) (adz x b n i t):=by
 delta adz;obtain⟨h1,h2,rfl,h4⟩:=h_;obtain⟨k,rfl⟩:∃m:Nat,i=m:=⟨i.toNat,by omega⟩;obtain⟨j,hj⟩:∃j,b.length-k=j:=⟨_,rfl⟩;rw[Int.toNat_natCast]
 induction j generalizing k x with
 |zero=>
  refine .stop ?_;have c:¬ (k:Int)<b.length:=by omega
  rw[List.drop_of_length_le (by omega)];simp[SA,c,aA,ak,Bk]
 |succ j ih=>
  have c:(k:Int)<b.length:=by omega
  have w:=ih (bm .u32 (shr .u32 x 8) ((t.take 256).getD (bm .u8 (IntKind.u8.wrap x) (b.getD k 0)).toNat 0)) (k+1) (by omega) (by omega) (by omega);rw[bY 0 (by omega),Bk,List.foldl_cons];refine .go ?_ w;have:=adw (IntKind.u8.wrap x) (b.getD k 0);simp only[SA,c,List.drop_zero,Int.toNat_natCast,ai,aH,aS,bb,aP,ay,aG,aT,aM,aQ,bl,bf,aK,aF,ak]
  try simp only[aA,ai,aH,aS,bb,aP,ay,aG,aT,aM,aQ,bl,bf,aK,aF,ak]
  grind [ar]
theorem adB(b:List Int):∀x:IG,Ex Tryz.prog ((ae).wr (())) (.loop (a9 f225 0)) (IH.wr x) (adA x):=
 cQ mixed ((aj Sz aw)) (ws:=asV) (aJ.nil _) (fun x_=>Wm b x_.1 x_.2.1 x_.2.2.1 x_.2.2.2.1 x_.2.2.2.2) (fun z e=>by cases e) eY (fun x_ h=>ank x_.1 x_.2.1 x_.2.2.1 x_.2.2.2.1 x_.2.2.2.2 h)
abbrev SC:Type:=Int
abbrev asX(x:SC):LV:=LV.one (VV.sc (SV.int u32 (SI.sym x)))
abbrev asY(x:SC):List (Nat×Ev.Item):= []
def adC(b:List Int):Tr (SC):=(.need (Em) (.need (En 4294967295 b (↑b.length:Int) 0 vL) (.ret (bm
 u32 4294967295 (Bk vL 4294967295 (List.drop 0 b))))))
theorem Wn(b:List Int):aN Tryz.prog [(234,adv)] [(0,cg IH ((ae).wr (())) adx (adA))] f225 ((bA).wr (b,())) ((ae).wr (())) [.fr [.sym],.syms,.auto,.aE]=(adC b).end asX asY ((ae).wr (())):=by kernel_rfl
theorem adD(b:List Int):aJ Tryz.prog ((ae).wr (())) [(0,cg IH ((ae).wr (())) adx (adA))] (aD f225):=(aJ.bW (jc (by kernel_rfl) (ck (hp:=(ae).wr (())) (adB b)) jh))
def kc(b:List Int):Int:=bm .u32 4294967295 (Bk vL 4294967295 b)
abbrev Eo(b:List Int):Prop:=b.length<1099511627776
abbrev adE(b:List Int):SC:=kc b
def adF:ao:=cd [some u8] (bA) (ae) (fun x_ y_=>Eo x_.1) (fun x_ y_=>adE x_.1) asX asY
theorem anl(b:List Int)(h_:Eo b):(adC b).Is (adE b):=by
 delta adE;have h:b.length<1099511627776:=h_;simp only[adC,ai,ak,kc];exact⟨trivial,⟨by omega,by omega,rfl,by omega⟩,rfl⟩
theorem SD:adF.Ok Tryz.prog 225:=
 br mixed ((aj Sz aw)) func225 (by kernel_rfl) call225 (fun x_ y_=>adD x_.1) (fun x_ y_=>Wn x_.1) (fun x_ y_ h=>anl x_.1 h)
abbrev aHh:aY (List SV) (Int×Int×List Int):=(ag (aC .i64) (ag (aC .i64) (ag (fR false false u8) ae))).kB (fun x=>(x.1,x.2.1,x.2.2.1)) (fun y=>(y.1,y.2.1,y.2.2,())) (fun _=>rfl)
abbrev anm:aY (List LV) ((Int×Int×List Int)×Unit):=ag (iD aHh) ae
abbrev II:Type:=List Int
abbrev IJ:aY St II:=(bg (jk 4 (aq (ah (u5 (0) (0))) (jk 60 ae))) (ag (eX (0) (Ty.int IntKind.u8)) ae)).kB
 (fun y=>(y.2.1)) (fun x=>((),(x,()))) (fun _=>rfl)
abbrev adG:List Wk:= [.fr (cC 65 [(4,.al)]),.syms,.auto,.aE]
abbrev asZ:Exit→List Wk:=w6 adG 0 [.fr (cC 65 [(4,.al)]),.syms,.auto,.aE] [.fr (cC 65 [(2,.al)]),.syms,.auto,.aE]
abbrev adH:Type:=List Int
abbrev as0(x:adH):Exit×St:=(Exit.exit 0,⟨(ir 4 (LV.one (VV.sc (SV.sl 0 0))::(ir 60 []))),[some (Item.own 0 (Ty.int
 IntKind.u8) x)]⟩)
def SE(r:List Int):Tr (II⊕(adH)):=(.ite ((↑r.length:Int).tmod (8:Int)!=0) (.need ((r.length+1)*1≤
 70368744177664∧r.length+1≤70368744177664) (.ret (.inl (r++ [0])))) (.ret (.inr (r))))
theorem Wo(r':Int×Int×List Int)(r:List Int):cY Tryz.prog [(224,NG),(225,adF),(48,Iv)] [] f204 0 ((ae).wr (())) asZ (IJ.wr r)=(SE r).res IJ.wr as0:=by kernel_rfl
def fT(r:List Int):List Int:=r++List.replicate ((8-r.length%8)%8) 0
theorem IK(r:List Int):(fT r).length%8=0∧r.length≤(fT r).length∧(fT r).length≤r.length+7:=by
 unfold fT;rw[List.length_append,List.length_replicate];omega
abbrev Ep(r:List Int):Prop:=r.length+(8-r.length%8)%8<1099511627776
abbrev adI(r:List Int):adH:=fT r
abbrev adJ:II→aW:=eS (fun x_=>Ep x_) (fun x_=>adI x_) as0
theorem ann(r:List Int)(h_:Ep r):dV (fun x_:II=>SE x_) r (adI r):=by
 delta adI;have h:r.length+(8-r.length%8)%8<1099511627776:=h_;obtain⟨j,hj⟩:∃j,(8-r.length%8)%8=j:=⟨_,rfl⟩
 induction j generalizing r with
 |zero=>
  refine .stop ?_;have c:(r.length:Int).tmod 8=0:=by rw[Int.tmod_eq_emod_of_nonneg (by omega)];omega
  simp[SE,c,aA,ak,fT,hj]
 |succ j ih=>
  have c:(r.length:Int).tmod 8≠0:=by rw[Int.tmod_eq_emod_of_nonneg (by omega)];omega
  have e:fT (r++ [0])=fT r:=by
   unfold fT;rw[List.length_append,List.length_singleton,hj,show(8-(r.length+1)%8)%8=j by omega,List.append_assoc];rfl
  have w:=ih (r++ [0]) (by show(r++ [0]).length+_<_;rw[List.length_append,List.length_singleton];omega) (by rw[List.length_append,List.length_singleton];omega) (by rw[List.length_append,List.length_singleton];omega);rw[e]at w;refine .go ?_ w;simp only[SE,aG,ai,ak];exact⟨fun h=>absurd h c,fun _=>⟨by omega,trivial⟩⟩
theorem adK(r':Int×Int×List Int):∀x:II,Ex Tryz.prog ((ae).wr (())) (.loop (a9 f204 0)) (IJ.wr x) (adJ x):=
 cQ mixed ((aj ID (aj SD (aj rN aw)))) (ws:=asZ) (aJ.nil _) (fun x_=>Wo r' x_) (fun z e=>by cases e) eY (fun x_ h=>ann x_ h)
def zP(r:Int×Int×List Int):Int:=(↑r.snd.snd.length:Int)
def gK(r:Int×Int×List Int):List Int:= [[IntKind.u8.wrap r.fst,0,IntKind.u8.wrap (zP r),IntKind.u8.wrap (shr
 i64 (zP r) 8)],ji (u32.wrap r.snd.fst),r.snd.snd].flatten
abbrev SF:Type:=List Int
abbrev as1(x:SF):LV:=LV.one (VV.sc (SV.rd true false (Ty.int IntKind.u8) x))
abbrev as2(x:SF):List (Nat×Ev.Item):= []
def adL(r:Int×Int×List Int):Tr (SF):=(.ite (decide (r.fst<1)==false) (.ite (decide (250<r.fst)==false) (.ite
 (decide (r.snd.fst<0)==false) (.ite (decide (4294967295<r.snd.fst)==false) (.ite (decide (512<zP r)) (.ret ([])) (.need (oZ
 (u32.wrap r.snd.fst)) (.need ((gK r).length≤70368744177664∧3≤140737488355328) (.need (Ep (gK r)) (.need (Eo (fT
 (gK r))) (.need (oZ (kc (fT (gK r)))) (.need (oZ (bm u32 4294967295 (kc (fT (gK r))))) (.need ([fT
 (gK r),ji (kc (fT (gK r))),ji (bm u32 4294967295 (kc (fT (gK r))))].flatten.length≤70368744177664∧3≤
 140737488355328) (.ret ([fT (gK r),ji (kc (fT (gK r))),ji (bm u32 4294967295 (kc (fT (gK
 r))))].flatten)))))))))) (.ret ([]))) (.ret ([]))) (.ret ([]))) (.ret ([])))
theorem Wp(r:Int×Int×List Int):aN Tryz.prog [(224,NG),(225,adF),(48,Iv)] [(0,cg IJ ((ae).wr (())) adG (adJ))] f204 ((anm).wr (r,())) ((ae).wr (())) [.nt,.fr [.rd true u8],.fr [.sym],.syms,.auto,.aE]=(adL r).end as1 as2 ((ae).wr (())):=by kernel_rfl
theorem adM(r:Int×Int×List Int):aJ Tryz.prog ((ae).wr (())) [(0,cg IJ ((ae).wr (())) adG (adJ))] (aD f204):=(aJ.bW (jc (by kernel_rfl) (ck (hp:=(ae).wr (())) (adK r)) jh))
def iH(r:Int×Int×List Int):List Int:=fT ([IntKind.u8.wrap r.1,0,IntKind.u8.wrap r.2.2.length,IntKind.u8.wrap (shr .i64 r.2.2.length 8)]++(ji (u32.wrap r.2.1)++r.2.2))
abbrev adN(r:Int×Int×List Int):Prop:=1≤r.1∧r.1≤250∧0≤r.2.1∧r.2.1≤4294967295∧r.2.2.length≤512
def IL(r:Int×Int×List Int):List Int:=if adN r then iH r++(ji (kc (iH r))++ji (bm .u32 4294967295 (kc (iH r))))else []
theorem Wq{r:Int×Int×List Int}(h:r.2.2.length≤512):(iH r).length≤527∧8≤(iH r).length:=by
 unfold iH;have h1:=IK ([IntKind.u8.wrap r.1,0,IntKind.u8.wrap r.2.2.length,IntKind.u8.wrap (shr .i64 r.2.2.length 8)]++(ji (u32.wrap r.2.1)++r.2.2))
 have h2:([IntKind.u8.wrap r.1,0,IntKind.u8.wrap r.2.2.length,IntKind.u8.wrap (shr .i64 r.2.2.length 8)]++(ji (u32.wrap r.2.1)++r.2.2)).length=8+r.2.2.length:=by
  simp only[List.length_append,ji,List.length_cons,List.length_nil];omega
 omega
abbrev Er(r:Int×Int×List Int):Prop:=True
abbrev adO(r:Int×Int×List Int):SF:=IL r
def as3:ao:=cd [some u8] (anm) (ae) (fun x_ y_=>Er x_.1) (fun x_ y_=>adO x_.1) as1 as2
theorem ano(r:Int×Int×List Int)(h_:Er r):(adL r).Is (adO r):=by
 delta adO
 have e3:gK r= [IntKind.u8.wrap r.1,0,IntKind.u8.wrap r.2.2.length,IntKind.u8.wrap (shr .i64 r.2.2.length 8)]++(ji (u32.wrap r.2.1)++r.2.2):=by
  unfold gK zP;simp
 have l3:(gK r).length=8+r.2.2.length:=by rw[e3];simp only[List.length_append,ji,List.length_cons,List.length_nil];omega
 have hp:=IK (gK r);have e2:zP r=r.2.2.length:=rfl;have hb:fT (gK r)=iH r:=by rw[e3];rfl
 have l4:∀x,(ji x).length=4:=fun _=>rfl;simp only[adL,e2,hb,IL,aH,ay,ai,ak,List.flatten_cons,List.flatten_nil,List.append_nil];rw[hb]at hp;grind
theorem anp:as3.Ok Tryz.prog 204:=
 br mixed ((aj ID (aj SD (aj rN aw)))) func204 (by kernel_rfl) call204 (fun x_ y_=>adM x_.1) (fun x_ y_=>Wp x_.1) (fun x_ y_ h=>ano x_.1 h)
def rO(b:List Int):Int:=i64.wrap (8+bq i64 (i64.wrap (b.getD 2 0)) (shl i64
 (i64.wrap (b.getD 3 0)) 8))
def NH(b:List Int):Int:=(↑b.length:Int)
def NI(b:List Int):Int:=bq i64 (bq i64 (bq i64 (i64.wrap (b.getD 4 0)) (shl
 i64 (i64.wrap (b.getD 5 0)) 8)) (shl i64 (i64.wrap (b.getD 6 0)) 16)) (shl i64 (i64.wrap (b.getD 7 0))
 24)
def Es(b:List Int):Int×Int×List Int:=(i64.wrap (b.getD 0 0),NI b,List.take (rO b-8).toNat (List.drop 8
 b))
abbrev SG:Type:=Int×Int×(List Int)×Int×Bool
abbrev as4(x:SG):LV:=LV.cG [VV.agg [SV.int i64 (SI.sym x.1),SV.int i64 (SI.sym x.2.1),SV.rd true false
 (Ty.int IntKind.u8) x.2.2.1],VV.sc (SV.int i64 (SI.sym x.2.2.2.1)),VV.sc (SV.bool (SB.sym x.2.2.2.2))]
abbrev as5(x:SG):List (Nat×Ev.Item):= []
def adP(b:List Int):Tr (SG):=(.ite (decide (NH b<16)) (.ret (0,0,[],0,false)) (.need ((0:Int)≤2∧2<
 (↑b.length:Int)) (.need ((0:Int)≤3∧3<(↑b.length:Int)) (.need (zO (bq i64 (i64.wrap (b.getD 2 0)) (shl i64
 (i64.wrap (b.getD 3 0)) 8))) (.ite ((eB (bq i64 (i64.wrap (b.getD 2 0)) (shl i64 (i64.wrap (b.getD 3 0))
 8))==0)==false) (.ite (decide (NH b<eB (bq i64 (i64.wrap (b.getD 2 0)) (shl i64 (i64.wrap (b.getD 3 0))
 8)))) (.ret (0,0,[],0,false)) (.need ((0:Int)≤4∧4<(↑b.length:Int)) (.need ((0:Int)≤5∧5<(↑b.length:Int)) (.need ((0:Int)≤6∧
 6<(↑b.length:Int)) (.need ((0:Int)≤7∧7<(↑b.length:Int)) (.need ((0:Int)≤0∧0<(↑b.length:Int)) (.need ((0:Int)≤8∧8≤rO
 b∧rO b≤(↑b.length:Int)) (.need ((List.take (rO b-8).toNat (List.drop 8 b)).length≤70368744177664) (.need (Er (Es b)) (.need
 ((0:Int)≤0∧0≤eB (bq i64 (i64.wrap (b.getD 2 0)) (shl i64 (i64.wrap (b.getD 3 0)) 8))∧eB (bq
 i64 (i64.wrap (b.getD 2 0)) (shl i64 (i64.wrap (b.getD 3 0)) 8))≤(↑b.length:Int)) (.ite (!cV (IL (Es b))
 (List.take (eB (bq i64 (i64.wrap (b.getD 2 0)) (shl i64 (i64.wrap (b.getD 3 0)) 8))-0).toNat (List.drop 0 b)))
 (.ret (0,0,[],0,false)) (.ret (i64.wrap (b.getD 0 0),NI b,List.take (rO b-8).toNat (List.drop 8 b),eB (bq i64
 (i64.wrap (b.getD 2 0)) (shl i64 (i64.wrap (b.getD 3 0)) 8)),true))))))))))))) (.ret (0,0,[],0,false)))))))
theorem Wr(b:List Int):aN Tryz.prog [(203,adf),(92,rK),(204,as3),(95,zM)] [] f174 ((bA).wr (b,())) ((ae).wr (())) [.nt,.fr [.rd true u8],.fr [.sym],.syms,.auto,.aE]=(adP b).end as4 as5 ((ae).wr (())):=by kernel_rfl
theorem adQ(b:List Int):aJ Tryz.prog ((ae).wr (())) [] (aD f174):=(aJ.nil _)
theorem adR{b:Int}(k:Nat){m:Int}(hm:m=2 ^ k)(hk:k≤24)(h:By b)(hb:0≤b*m∧b*m≤4294967296):shl .i64 (i64.wrap b) (k:Nat)=b*m:=by
 unfold By at h;subst hm;rw[ar (by omega) (by omega)];have:=iE .i64 b k (by simp[IntKind.bits];omega);have e:((2 ^ k:Nat):Int)=(2:Int) ^ k:=by simp
 rw[this,e];exact ar (by omega) (by omega)
def gu(b:List Int)(i:Nat):Int:=b.getD i 0+256*b.getD (i+1) 0
def xm(b:List Int)(i:Nat):Int:=b.getD i 0+256*b.getD (i+1) 0+65536*b.getD (i+2) 0+16777216*b.getD (i+3) 0
theorem anq{b:List Int}(h:ax b):bq .i64 (bq .i64 (bq .i64 (i64.wrap (b.getD 4 0)) (shl .i64 (i64.wrap (b.getD 5 0)) 8)) (shl .i64 (i64.wrap (b.getD 6 0)) 16)) (shl .i64 (i64.wrap (b.getD 7 0)) 24)=xm b 4:=by
 have h4:=h.getD 4;have h5:=h.getD 5;have h6:=h.getD 6;have h7:=h.getD 7;unfold xm;generalize b.getD 4 0=x4 at*;generalize b.getD 5 0=x5 at*;generalize b.getD 6 0=x6 at*;generalize b.getD 7 0=x7 at*;have e1:=adR (b:=x5) 8 (m:=256) rfl (by decide) h5 (by unfold By at h5;omega);have e2:=adR (b:=x6) 16 (m:=65536) rfl (by decide) h6 (by unfold By at h6;omega);have e3:=adR (b:=x7) 24 (m:=16777216) rfl (by decide) h7 (by unfold By at h7;omega);rw[show((8:Nat):Int)=8 from rfl]at e1;rw[show((16:Nat):Int)=16 from rfl]at e2;rw[show((24:Nat):Int)=24 from rfl]at e3;rw[e1,e2,e3];unfold By at h4 h5 h6 h7;rw[ar (by omega) (by omega)];rw[eK .i64 x4,Ef (m:=8) (x:=x5*256) (y:=x4) (by omega) (by omega) (by omega) (by omega) (by omega)];rw[eK .i64 (x5*256+x4),Ef (m:=16) (x:=x6*65536) (y:=x5*256+x4) (by omega) (by omega) (by omega) (by omega) (by omega)];rw[eK .i64 (x6*65536+(x5*256+x4)),Ef (m:=24) (x:=x7*16777216) (y:=x6*65536+(x5*256+x4)) (by omega) (by omega) (by omega) (by omega) (by omega)];show _=x4+256*x5+65536*x6+16777216*x7;omega
def Et(b:List Int):Int×Int×List Int:=(b.getD 0 0,xm b 4,(b.drop 8).take (gu b 2).toNat)
def bP(b:List Int):(Int×Int×List Int)×Int×Bool:=
 if 16≤b.length∧eB (gu b 2)≠0∧eB (gu b 2)≤b.length∧cV (IL (Et b)) (b.take (eB (gu b 2)).toNat)=true then(Et b,eB (gu b 2),true)else((0,0,[]),0,false)
abbrev xT(b:List Int):Prop:=ax b∧b.length<1099511627776
abbrev adS(b:List Int):SG:=((bP b).1.1,(bP b).1.2.1,(bP b).1.2.2,(bP b).2.1,(bP b).2.2)
def SH:ao:=cd [some u8] (bA) (ae) (fun x_ y_=>xT x_.1) (fun x_ y_=>adS x_.1) as4 as5
theorem anr(b:List Int)(h_:xT b):(adP b).Is (adS b):=by
 delta adS;obtain⟨h1,h2⟩:=h_;have b2:=h1.getD 2;have b3:=h1.getD 3;have b0:=h1.getD 0;have t2:bq .i64 (i64.wrap (b.getD 2 0)) (shl .i64 (i64.wrap (b.getD 3 0)) 8)=gu b 2:=awI b2 b3;have r2:0≤gu b 2∧gu b 2≤65535:=by show 0≤b.getD 2 0+256*b.getD 3 0∧b.getD 2 0+256*b.getD 3 0≤65535;unfold By at b2 b3;omega
 have w0:i64.wrap (b.getD 0 0)=b.getD 0 0:=by unfold By at b0;rw[ar (by omega) (by omega)]
 have e0:rO b=8+gu b 2:=by unfold rO;rw[t2,ar (by omega) (by omega)]
 have e1:NH b=b.length:=rfl;have e2:NI b=xm b 4:=anq h1;have e3:(8+gu b 2-8).toNat=(gu b 2).toNat:=by congr 1;omega
 have e4:Es b=Et b:=by unfold Es Et;rw[e2,e0,w0,e3]
 simp only[adP,t2,w0,e0,e1,e2,e3,e4,List.drop_zero,Int.sub_zero,ai,aH,ay,bl,aF,ak,beq_iff_eq,beq_eq_false_iff_ne];have hl:(List.take (gu b 2).toNat (List.drop 8 b)).length≤b.length:=by rw[List.length_take,List.length_drop];omega
 have hs:eB (gu b 2)≠0→gu b 2+16≤eB (gu b 2):=fun h=>by
  unfold eB at h ⊢
  split at h
  ·rename_i c;rw[if_pos c];omega
  ·exact absurd rfl h
 have hr:(bP b).1=Et b→((bP b).1.1,(bP b).1.2.1,(bP b).1.2.2,(bP b).2.1,(bP b).2.2)=(b.getD 0 0,xm b 4,List.take (gu b 2).toNat (List.drop 8 b),(bP b).2.1,(bP b).2.2):=fun h=>by rw[h];rfl
 unfold bP at*;generalize eB (gu b 2)=z at*;grind
theorem Eu:SH.Ok Tryz.prog 174:=
 br mixed ((aj adh (aj mP (aj anp (aj tm aw))))) func174 (by kernel_rfl) call174 (fun x_ y_=>adQ x_.1) (fun x_ y_=>Wr x_.1) (fun x_ y_ h=>anr x_.1 h)
abbrev ans:Type:=Bool
abbrev aB2(x:ans):LV:=LV.one (VV.sc (SV.bool (SB.sym x)))
abbrev aB3(x:ans):List (Nat×Ev.Item):= []
def awJ(x:Int):Tr (ans):=(.ret (x !=255))
theorem adT(x:Int):aN Tryz.prog [] [] f206 (((ag (ah (aC .u8)) ae)).wr (x,())) ((ae).wr (())) [.fr [.sym],.syms,.auto,.aE]=(awJ x).end aB2 aB3 ((ae).wr (())):=by kernel_rfl
theorem ant(x:Int):aJ Tryz.prog ((ae).wr (())) [] (aD f206):=(aJ.nil _)
abbrev NJ(x:Int):Prop:=True
abbrev awK(x:Int):ans:=decide (x≠255)
def awL:ao:=cd [] ((ag (ah (aC .u8)) ae)) (ae) (fun x_ y_=>NJ x_.1) (fun x_ y_=>awK x_.1) aB2 aB3
theorem awM(x:Int)(h_:NJ x):(awJ x).Is (awK x):=by
 delta awK;simp only[awJ,ak]
 by_cases h:x=255<;>simp[h]
theorem adU:awL.Ok Tryz.prog 206:=
 br mixed aw func206 (by kernel_rfl) call206 (fun x_ y_=>ant x_.1) (fun x_ y_=>adT x_.1) (fun x_ y_ h=>awM x_.1 h)
abbrev bfA:aY (List LV) (List Int×Unit):=ag (ah (fR false false u8)) (aq (ah (sFn 206)) ae)
def c7(b:List Int):Bool:=b.all (· ==255)
def fixF:List Int→Int
 | []=>0
 |x::l=>if x=255 then fixF l+1 else 0
theorem IM:∀l,0≤fixF l
 | []=>by simp[fixF]
 |x::l=>by have:=IM l;unfold fixF;split<;>omega
abbrev IN:Type:=(List Int)×Int×Int
abbrev IP:aY St IN:=(bg (ag (ah (fR false false (Ty.int IntKind.u8))) (aq (ah (sFn (206))) (jk 5 (ag (ah
 (aC i64)) (ag (ah (aC i64)) (jk 10 ae)))))) ae).kB (fun y=>(y.1.1,y.1.2.1,y.1.2.2.1)) (fun x=>((x.1,(x.2.1,
 (x.2.2,()))),())) (fun _=>rfl)
abbrev adV:List Wk:= [.fr (cC 19 [(0,.al),(1,.al),(7,.al),(8,.al)]),.syms,.auto,.aE]
abbrev as6:Exit→List Wk:=w6 adV 0 [.fr (cC 19 []),.syms,.auto,.aE] [.fr (cC 19 [(4,.al)]),.syms,.auto,.aE]
abbrev NK:Type:=Int
abbrev adW(x:NK):Exit×St:=(Exit.ret,⟨(ir 4 (LV.one (VV.sc (SV.int i64 (SI.sym x)))::(ir 14 []))),[]⟩)
abbrev NL:Type:=Unit
abbrev adX(x:NL):Exit×St:=(Exit.exit 0,⟨(ir 19 []),[]⟩)
def IQ(b:List Int)(n:Int)(i:Int):Tr (IN⊕(NK⊕NL)):=(.ite (decide (i<n)) (.need (0≤i∧i<(↑b.length:
 Int)) (.need (NJ (b.getD i.toNat 0)) (.ite (decide ¬b.getD i.toNat (0:Int)=255) (.ret (.inr (.inl (i)))) (.ret (.inl (b,n,i64.wrap (i
 +1))))))) (.ret (.inr (.inr ()))))
theorem Ws(b':List Int)(b:List Int)(n:Int)(i:Int):cY Tryz.prog [(206,awL)] [] f226 0 ((ae).wr (())) as6 (IP.wr (b,n,i))=(IQ b n i).res IP.wr (Sum.elim adW adX):=by kernel_rfl
abbrev Ew(b:List Int)(n:Int)(i:Int):Prop:=0≤i∧i≤n∧n=b.length∧n<1099511627776
abbrev adY(b:List Int)(n:Int)(i:Int):Bool:= !c7 (b.drop i.toNat)
abbrev adZ(b:List Int)(n:Int)(i:Int):NK:=i+fixF (b.drop i.toNat)
abbrev ad0(b:List Int)(n:Int)(i:Int):NL:=()
abbrev ad1:IN→aW:=rL (fun x_=>Ew x_.1 x_.2.1 x_.2.2) (fun x_=>adY x_.1 x_.2.1 x_.2.2) (fun x_=>adZ x_.1 x_.2.1 x_.2.2) (fun x_=>ad0 x_.1 x_.2.1 x_.2.2) adW adX
theorem anu(b:List Int)(n:Int)(i:Int)(h_:Ew b n i):dV (fun x_:IN=>IQ x_.1 x_.2.1 x_.2.2) (b,n,i) (bif adY b n i then .inl (adZ b n i)else .inr (ad0 b n i)):=by
 delta adY adZ ad0;obtain⟨h1,h2,rfl,h4⟩:=h_;obtain⟨k,rfl⟩:∃m:Nat,i=m:=⟨i.toNat,by omega⟩;obtain⟨j,hj⟩:∃j,b.length-k=j:=⟨_,rfl⟩;rw[Int.toNat_natCast]
 induction j generalizing k with
 |zero=>
  refine .stop ?_;have c:¬ (k:Int)<b.length:=by omega
  rw[List.drop_of_length_le (by omega)];simp[IQ,c,aA,ak,c7]
 |succ j ih=>
  have c:(k:Int)<b.length:=by omega
  rw[bY 0 (by omega)]
  by_cases c2:b.getD k 0=255
  ·have w:=ih (k+1) (by omega) (by omega) (by omega);have e1:c7 (b.getD k 0::b.drop (k+1))=c7 (b.drop (k+1)):=(by unfold c7;rw[List.all_cons,c2];rfl);have e2:(k:Int)+fixF (b.getD k 0::b.drop (k+1))=((k+1:Nat):Int)+fixF (b.drop (k+1)):=(by rw[fixF,if_pos c2];omega);rw[e1,e2];refine .go ?_ w;simp only[IQ,c,Int.toNat_natCast,c2,ai,aH,aS,bb,aP,ay,aG,aT,aM,aQ,bl,bf,aK,aF,ak]
   try simp only[aA,ai,aH,aS,bb,aP,ay,aG,aT,aM,aQ,bl,bf,aK,aF,ak]
   grind [ar]
  ·refine .stop ?_;have e1:c7 (b.getD k 0::b.drop (k+1))=false:=(by unfold c7;rw[List.all_cons,beq_eq_false_iff_ne.2 c2];rfl);have e2:fixF (b.getD k 0::b.drop (k+1))=0:=(by rw[fixF,if_neg c2]);rw[e1,e2];simp only[IQ,c,Int.toNat_natCast,c2,ai,aH,aS,bb,aP,ay,aG,aT,aM,aQ,bl,bf,aK,aF,ak]
   try simp only[aA,ai,aH,aS,bb,aP,ay,aG,aT,aM,aQ,bl,bf,aK,aF,ak]
   grind
theorem ad2(b':List Int):∀x:IN,Ex Tryz.prog ((ae).wr (())) (.loop (a9 f226 0)) (IP.wr x) (ad1 x):=
 cQ mixed ((aj adU aw)) (ws:=as6) (aJ.nil _) (fun x_=>Ws b' x_.1 x_.2.1 x_.2.2) (fun z=>by cases z<;>(intro e;cases e)) vF (fun x_ h=>anu x_.1 x_.2.1 x_.2.2 h)
abbrev ad3:Type:=Int
abbrev aB4(x:ad3):LV:=LV.one (VV.sc (SV.int i64 (SI.sym x)))
abbrev aB5(x:ad3):List (Nat×Ev.Item):= []
def awN(b:List Int):Tr (ad3):=(.need (Ew b (↑b.length:Int) 0) (.ite (!c7 (List.drop 0 b)) (.ret (0+fixF (List.drop
 0 b))) (.ret ((-1)))))
theorem ad4(b:List Int):aN Tryz.prog [(206,awL)] [(0,cg IP ((ae).wr (())) adV (ad1))] f226 ((bfA).wr (b,())) ((ae).wr (())) [.fr [.sym],.syms,.auto,.aE]=(awN b).end aB4 aB5 ((ae).wr (())):=by kernel_rfl
theorem anv(b:List Int):aJ Tryz.prog ((ae).wr (())) [(0,cg IP ((ae).wr (())) adV (ad1))] (aD f226):=(aJ.bW (jc (by kernel_rfl) (ck (hp:=(ae).wr (())) (ad2 b)) jh))
abbrev NM(b:List Int):Prop:=b.length<1099511627776
abbrev awO(b:List Int):ad3:=(if c7 b=true then-1 else fixF b)
def aB6:ao:=cd [some u8,none] (bfA) (ae) (fun x_ y_=>NM x_.1) (fun x_ y_=>awO x_.1) aB4 aB5
theorem awP(b:List Int)(h_:NM b):(awN b).Is (awO b):=by
 delta awO;have h:b.length<1099511627776:=h_;simp only[awN,List.drop_zero,Int.toNat_zero,ai,aH,aS,bb,aP,ay,aG,aT,aM,aQ,bl,bf,aK,aF,ak]
 try simp only[aA,ai,aH,aS,bb,aP,ay,aG,aT,aM,aQ,bl,bf,aK,aF,ak]
 grind
theorem awQ:aB6.Ok Tryz.prog 226:=
 br mixed ((aj adU aw)) func226 (by kernel_rfl) call226 (fun x_ y_=>anv x_.1) (fun x_ y_=>ad4 x_.1) (fun x_ y_ h=>awP x_.1 h)
abbrev anw:Type:=Bool
abbrev aB7(x:anw):LV:=LV.one (VV.sc (SV.bool (SB.sym x)))
abbrev aB8(x:anw):List (Nat×Ev.Item):= []
def awR(b:List Int):Tr (anw):=(.need (NM b) (.ret (decide (0≤if c7 b=true then(-1:ad3)else fixF b))))
theorem ad5(b:List Int):aN Tryz.prog [(226,aB6)] [] f205 ((bfA).wr (b,())) ((ae).wr (())) [.fr [.sym],.syms,.auto,.aE]=(awR b).end aB7 aB8 ((ae).wr (())):=by kernel_rfl
theorem anx(b:List Int):aJ Tryz.prog ((ae).wr (())) [] (aD f205):=(aJ.nil _)
abbrev NN(b:List Int):Prop:=b.length<1099511627776
abbrev awS(b:List Int):anw:= !c7 b
def aB9:ao:=cd [some u8,none] (bfA) (ae) (fun x_ y_=>NN x_.1) (fun x_ y_=>awS x_.1) aB7 aB8
theorem awT(b:List Int)(h_:NN b):(awR b).Is (awS b):=by
 delta awS;have h:b.length<1099511627776:=h_;have:=IM b;simp only[awR,ai,aH,aS,bb,aP,ay,aG,aT,aM,aQ,bl,bf,aK,aF,ak]
 try simp only[aA,ai,aH,aS,bb,aP,ay,aG,aT,aM,aQ,bl,bf,aK,aF,ak]
 grind
theorem awU:aB9.Ok Tryz.prog 205:=
 br mixed ((aj awQ aw)) func205 (by kernel_rfl) call205 (fun x_ y_=>anx x_.1) (fun x_ y_=>ad5 x_.1) (fun x_ y_ h=>awT x_.1 h)
abbrev anz:Type:=Bool
abbrev aCa(x:anz):LV:=LV.one (VV.sc (SV.bool (SB.sym x)))
abbrev aCb(x:anz):List (Nat×Ev.Item):= []
def awV(b:List Int):Tr (anz):=(.need (NN b) (.ret (!!c7 b)))
theorem ad6(b:List Int):aN Tryz.prog [(205,aB9)] [] f175 ((bA).wr (b,())) ((ae).wr (())) [.fr [.sym],.syms,.auto,.aE]=(awV b).end aCa aCb ((ae).wr (())):=by kernel_rfl
theorem anA(b:List Int):aJ Tryz.prog ((ae).wr (())) [] (aD f175):=(aJ.nil _)
abbrev NO(b:List Int):Prop:=b.length<1099511627776
abbrev awW(b:List Int):anz:=c7 b
def awX:ao:=cd [some u8] (bA) (ae) (fun x_ y_=>NO x_.1) (fun x_ y_=>awW x_.1) aCa aCb
theorem awY(b:List Int)(h_:NO b):(awV b).Is (awW b):=by
 delta awW;simp only[awV,Bool.not_not,ai,aH,aS,bb,aP,ay,aG,aT,aM,aQ,bl,bf,aK,aF,ak]
 try simp only[aA,ai,aH,aS,bb,aP,ay,aG,aT,aM,aQ,bl,bf,aK,aF,ak]
 exact⟨h_,trivial⟩
theorem ad7:awX.Ok Tryz.prog 175:=
 br mixed ((aj awU aw)) func175 (by kernel_rfl) call175 (fun x_ y_=>anA x_.1) (fun x_ y_=>ad6 x_.1) (fun x_ y_ h=>awY x_.1 h)
abbrev Bl(x:Int):Prop:=0≤x∧x<4294967296
theorem anB{x:Int}(h:Bl x):bd .u32 x 1=x%2:=by
 obtain⟨n,rfl⟩:∃n:Nat,x=n:=⟨x.toNat,by omega⟩;unfold bd
 have e:(BitVec.ofInt u32.bits (n:Int)&&& BitVec.ofInt u32.bits 1).toNat=n%2:=by
  show(BitVec.ofInt 32 (n:Int)&&& BitVec.ofInt 32 1).toNat=n%2;rw[BitVec.toNat_and,BitVec.toNat_ofInt,BitVec.toNat_ofInt];have e1:((n:Int)%((2 ^ 32:Nat):Int)).toNat=n:=by omega
  have e2:((1:Int)%((2 ^ 32:Nat):Int)).toNat=1:=by decide
  rw[e1,e2,Nat.and_one_is_mod]
 rw[e,wrap_u32];omega
theorem xU{x:Int}(h:Bl x)(k:Int)(n:Nat)(hk:k=n)(hn:n≤32):shr .u32 x k=x/2 ^ n:=by
 subst hk;unfold shr;show x.fdiv (2 ^ (min (n:Int).toNat 32))=_;rw[Int.toNat_natCast,Nat.min_eq_left hn,Int.fdiv_eq_ediv_of_nonneg _ (by exact Int.le_of_lt (Int.pow_pos (by decide)))]
theorem anD{x:Int}(h:Bl x):Bl (Nz x)∧Nz x=if x%2=1 then bm .u32 (x/2) 3988292384 else x/2:=by
 have e:=xU h 1 1 rfl (by decide);simp only[Int.pow_one]at e;have hx:Bl (bm .u32 (x/2) 3988292384):=by unfold bm;rw[wrap_u32];exact⟨by omega,by omega⟩
 unfold Nz;rw[anB h,e];refine⟨?_,rfl⟩
 split
 ·exact hx
 ·exact⟨by omega,by omega⟩
abbrev IS:Type:=Int×Int
abbrev IT:aY St IS:=(bg (jk 3 (ag (ah (aC u32)) (ag (ah (aC i64)) (jk 16 ae)))) ae).kB
 (fun y=>(y.1.1,y.1.2.1)) (fun x=>((x.1,(x.2,())),())) (fun _=>rfl)
abbrev ad8:List Wk:= [.fr (cC 21 [(3,.al),(4,.al)]),.syms,.auto,.aE]
abbrev as7:Exit→List Wk:=w6 ad8 0 [.fr (cC 21 [(3,.al)]),.syms,.auto,.aE] [.fr (cC 21 [(2,.al)]),.syms,.auto,.aE]
abbrev ad9:Type:=Int
abbrev as8(x:ad9):Exit×St:=(Exit.exit 0,⟨(ir 3 (LV.one (VV.sc (SV.int u32 (SI.sym x)))::(ir 17 []))),[]⟩)
def SJ(x:Int)(i:Int):Tr (IS⊕(ad9)):=(.ite (decide (i<8)) (.ite (x.tmod (2:Int)==1) (.ret (.inl (bm
 u32 (u32.wrap (x.tdiv 2)) 3988292384,i64.wrap (i+1)))) (.ret (.inl (u32.wrap (x.tdiv 2),i64.wrap (i+
 1))))) (.ret (.inr (x))))
theorem Wt(b:Int)(x:Int)(i:Int):cY Tryz.prog [] [] f230 0 ((ae).wr (())) as7 (IT.wr (x,i))=(SJ x i).res IT.wr as8:=by kernel_rfl
abbrev Ey(x:Int)(i:Int):Prop:=Bl x∧0≤i∧i≤8
abbrev aea(x:Int)(i:Int):ad9:=oY (8-i).toNat x
abbrev aeb:IS→aW:=eS (fun x_=>Ey x_.1 x_.2) (fun x_=>aea x_.1 x_.2) as8
theorem anE(x:Int)(i:Int)(h_:Ey x i):dV (fun x_:IS=>SJ x_.1 x_.2) (x,i) (aea x i):=by
 delta aea;obtain⟨h0,h1,h2⟩:=h_;obtain⟨j,hj⟩:∃j,(8-i).toNat=j:=⟨_,rfl⟩;rw[hj]
 induction j generalizing x i with
 |zero=>refine .stop ?_;have:¬i<8:=by omega
        simp[SJ,this,aA,ak,oY]
 |succ j ih=>
  have c:i<8:=by omega
  obtain⟨k1,k2⟩:=anD h0;refine .go ?_ (ih (Nz x) (i+1) k1 (by omega) (by omega) (by omega));have e1:x.tmod 2=x%2:=Int.tmod_eq_emod_of_nonneg h0.1;have e2:u32.wrap (x.tdiv 2)=x/2:=by rw[Int.tdiv_eq_ediv_of_nonneg h0.1,wrap_u32];omega
  have e3:i64.wrap (i+1)=i+1:=ar (by omega) (by omega);simp only[SJ,e1,e2,e3,ay,aK,ak];exact⟨fun _=>⟨fun h=>by rw[k2,if_pos h],fun h=>by rw[k2,if_neg h]⟩,fun h=>absurd c h⟩
theorem aec(b:Int):∀x:IS,Ex Tryz.prog ((ae).wr (())) (.loop (a9 f230 0)) (IT.wr x) (aeb x):=
 cQ mixed aw (ws:=as7) (aJ.nil _) (fun x_=>Wt b x_.1 x_.2) (fun z e=>by cases e) eY (fun x_ h=>anE x_.1 x_.2 h)
abbrev SK:Type:=Int
abbrev as9(x:SK):LV:=LV.one (VV.sc (SV.int u32 (SI.sym x)))
abbrev ata(x:SK):List (Nat×Ev.Item):= []
def aed(b:Int):Tr (SK):=(.need (Ey (u32.wrap b) 0) (.ret (oY 8 (u32.wrap b))))
theorem Wu(b:Int):aN Tryz.prog [] [(0,cg IT ((ae).wr (())) ad8 (aeb))] f230 (((ag (ah (aC .u8)) ae)).wr (b,())) ((ae).wr (())) [.fr [.sym],.syms,.auto,.aE]=(aed b).end as9 ata ((ae).wr (())):=by kernel_rfl
theorem aee(b:Int):aJ Tryz.prog ((ae).wr (())) [(0,cg IT ((ae).wr (())) ad8 (aeb))] (aD f230):=(aJ.bW (jc (by kernel_rfl) (ck (hp:=(ae).wr (())) (aec b)) jh))
abbrev Ez(b:Int):Prop:=By b
abbrev aef(b:Int):SK:=oY 8 b
def aeg:ao:=cd [] ((ag (ah (aC .u8)) ae)) (ae) (fun x_ y_=>Ez x_.1) (fun x_ y_=>aef x_.1) as9 ata
theorem anF(b:Int)(h_:Ez b):(aed b).Is (aef b):=by
 delta aef;have h:By b:=h_;unfold By at h;have e:u32.wrap b=b:=by rw[wrap_u32];omega
 simp only[aed,ai,ak,e];exact⟨⟨⟨by omega,by omega⟩,by decide,by decide⟩,trivial⟩
theorem SL:aeg.Ok Tryz.prog 230:=
 br mixed aw func230 (by kernel_rfl) call230 (fun x_ y_=>aee x_.1) (fun x_ y_=>Wu x_.1) (fun x_ y_ h=>anF x_.1 h)
abbrev IU:Type:=(List Int)×Int×Int
abbrev IV:aY St IU:=(bg (ag (ah (fR false false (Ty.int IntKind.u8))) (jk 2 (ag (ah (aC u32)) (ag
 (ah (aC i64)) (jk 20 ae))))) ae).kB (fun y=>(y.1.1,y.1.2.1,y.1.2.2.1)) (fun x=>((x.1,(x.2.1,(x.2.2,()))),())) (fun _=>rfl)
abbrev aeh:List Wk:= [.fr (cC 25 [(0,.al),(3,.al),(4,.al)]),.syms,.auto,.aE]
abbrev atb:Exit→List Wk:=w6 aeh 0 [.fr (cC 25 [(3,.al)]),.syms,.auto,.aE] [.fr (cC 25 [(2,.al)]),.syms,.auto,.aE]
abbrev aei:Type:=Int
abbrev atc(x:aei):Exit×St:=(Exit.exit 0,⟨(ir 3 (LV.one (VV.sc (SV.int u32 (SI.sym x)))::(ir 21 []))),[]⟩)
def SM(b:List Int)(x:Int)(i:Int):Tr (IU⊕(aei)):=(.ite (decide (i<(↑b.length:Int))) (.need (0≤i∧i<
 (↑b.length:Int)) (.need (Ez (bm IntKind.u8 (IntKind.u8.wrap (x.tmod 256)) (b.getD i.toNat 0))) (.ret (.inl (b,bm u32 (shr
 u32 x 8) (oY 8 (bm IntKind.u8 (IntKind.u8.wrap (x.tmod 256)) (b.getD i.toNat 0))),i64.wrap (i+1)))))) (.ret (.inr (x))))
theorem Wv(b':List Int)(b:List Int)(x:Int)(i:Int):cY Tryz.prog [(230,aeg)] [] f211 0 ((ae).wr (())) atb (IV.wr (b,x,i))=(SM b x i).res IV.wr atc:=by kernel_rfl
theorem EA(x y:Int):Bl (bm .u32 x y):=by
 unfold bm;rw[wrap_u32];exact⟨by omega,by omega⟩
theorem awZ{i:Int}(h:0≤i∧i<256):(vL.take 256).getD i.toNat 0=oY 8 i:=by
 obtain⟨n,rfl⟩:∃n:Nat,i=n:=⟨i.toNat,by omega⟩;have hl:vL.length=256:=by rw[Ek];simp
 rw[List.take_of_length_le (by omega),Ek,List.getD_eq_getElem?_getD,List.getElem?_map,List.getElem?_range (by simp;omega)];simp
abbrev EB(b:List Int)(x:Int)(i:Int):Prop:=0≤i∧i≤b.length∧b.length<1099511627776∧Bl x
abbrev aej(b:List Int)(x:Int)(i:Int):aei:=Bk vL x (b.drop i.toNat)
abbrev aek:IU→aW:=eS (fun x_=>EB x_.1 x_.2.1 x_.2.2) (fun x_=>aej x_.1 x_.2.1 x_.2.2) atc
theorem anG(b:List Int)(x:Int)(i:Int)(h_:EB b x i):dV (fun x_:IU=>SM x_.1 x_.2.1 x_.2.2) (b,x,i) (aej b x i):=by
 delta aej;obtain⟨h1,h2,h4,h5⟩:=h_;obtain⟨k,rfl⟩:∃m:Nat,i=m:=⟨i.toNat,by omega⟩;obtain⟨j,hj⟩:∃j,b.length-k=j:=⟨_,rfl⟩;rw[Int.toNat_natCast]
 induction j generalizing k x with
 |zero=>
  refine .stop ?_;have c:¬ (k:Int)<b.length:=by omega
  rw[List.drop_of_length_le (by omega)];simp[SM,c,aA,ak,Bk]
 |succ j ih=>
  have c:(k:Int)<b.length:=by omega
  have hx:=adw (IntKind.u8.wrap x) (b.getD k 0);have e0:IntKind.u8.wrap (x.tmod 256)=IntKind.u8.wrap x:=by rw[Int.tmod_eq_emod_of_nonneg h5.1,IntKind.wrap_u8,IntKind.wrap_u8];omega
  have w:=ih (bm .u32 (shr .u32 x 8) (oY 8 (bm .u8 (IntKind.u8.wrap x) (b.getD k 0)))) (EA _ _) (k+1) (by omega) (by omega) (by omega);rw[bY 0 (by omega),Bk,List.foldl_cons,awZ hx];refine .go ?_ w;simp only[SM,e0,ay,ai,ak,Int.toNat_natCast];rw[ar (n:=(k:Int)+1) (by omega) (by omega)];exact⟨fun _=>⟨by omega,⟨hx.1,by have:=hx.2;omega⟩,rfl⟩,fun h=>absurd c h⟩
theorem ael(b':List Int):∀x:IU,Ex Tryz.prog ((ae).wr (())) (.loop (a9 f211 0)) (IV.wr x) (aek x):=
 cQ mixed ((aj SL aw)) (ws:=atb) (aJ.nil _) (fun x_=>Wv b' x_.1 x_.2.1 x_.2.2) (fun z e=>by cases e) eY (fun x_ h=>anG x_.1 x_.2.1 x_.2.2 h)
abbrev SN:Type:=Int
abbrev atd(x:SN):LV:=LV.one (VV.sc (SV.int u32 (SI.sym x)))
abbrev ate(x:SN):List (Nat×Ev.Item):= []
def aem(b:List Int):Tr (SN):=(.need (EB b 4294967295 0) (.ret (bm u32 4294967295 (Bk vL 4294967295
 (List.drop 0 b)))))
theorem Ww(b:List Int):aN Tryz.prog [(230,aeg)] [(0,cg IV ((ae).wr (())) aeh (aek))] f211 ((bA).wr (b,())) ((ae).wr (())) [.fr [.sym],.syms,.auto,.aE]=(aem b).end atd ate ((ae).wr (())):=by kernel_rfl
theorem aen(b:List Int):aJ Tryz.prog ((ae).wr (())) [(0,cg IV ((ae).wr (())) aeh (aek))] (aD f211):=(aJ.bW (jc (by kernel_rfl) (ck (hp:=(ae).wr (())) (ael b)) jh))
abbrev xV(b:List Int):Prop:=b.length<1099511627776
abbrev aeo(b:List Int):SN:=kc b
def aep:ao:=cd [some u8] (bA) (ae) (fun x_ y_=>xV x_.1) (fun x_ y_=>aeo x_.1) atd ate
theorem anH(b:List Int)(h_:xV b):(aem b).Is (aeo b):=by
 delta aeo;have h:b.length<1099511627776:=h_;simp only[aem,ai,ak,kc,List.drop_zero];exact⟨⟨by decide,by omega,h,⟨by decide,by decide⟩⟩,trivial⟩
theorem SO:aep.Ok Tryz.prog 211:=
 br mixed ((aj SL aw)) func211 (by kernel_rfl) call211 (fun x_ y_=>aen x_.1) (fun x_ y_=>Ww x_.1) (fun x_ y_ h=>anH x_.1 h)
abbrev anI:Type:=Int
abbrev aCc(x:anI):LV:=LV.one (VV.sc (SV.int i64 (SI.sym x)))
abbrev aCd(x:anI):List (Nat×Ev.Item):= []
def aw0(n:Int):Tr (anI):=(.ite (decide (n<0)==false) (.ite (decide (512<n)) (.ret (0)) (.ret (i64.wrap
 (i64.wrap (i64.wrap ((i64.wrap (i64.wrap (n+8)-1)).tdiv 8)*8)+16)))) (.ret (0)))
theorem aeq(n:Int):aN Tryz.prog [] [] f179 ((G6).wr (n,())) ((ae).wr (())) [.fr [.sym],.syms,.auto,.aE]=(aw0 n).end aCc aCd ((ae).wr (())):=by kernel_rfl
theorem anJ(n:Int):aJ Tryz.prog ((ae).wr (())) [] (aD f179):=(aJ.nil _)
abbrev NP(n:Int):Prop:=True
abbrev aw1(n:Int):anI:=eB n
def aCe:ao:=cd [] (G6) (ae) (fun x_ y_=>NP x_.1) (fun x_ y_=>aw1 x_.1) aCc aCd
theorem aw2(n:Int)(h_:NP n):(aw0 n).Is (aw1 n):=by
 delta aw1;have e:0≤n→n≤512→i64.wrap (i64.wrap (n+8)-1)=n+7:=fun h1 h2=>by rw[ar (n:=n+8) (by omega) (by omega),ar (by omega) (by omega)];omega
 have e2:0≤n→n≤512→i64.wrap (i64.wrap (i64.wrap ((i64.wrap (i64.wrap (n+8)-1)).tdiv 8)*8)+16)=16+(n+7)/8*8:=fun h1 h2=>by
  rw[e h1 h2,Int.tdiv_eq_ediv_of_nonneg (by omega),ar (n:=(n+7)/8) (by omega) (by omega),ar (n:=(n+7)/8*8) (by omega) (by omega),ar (by omega) (by omega)];omega
 simp only[aw0,eB,ai,aH,aS,bb,aP,ay,aG,aT,aM,aQ,bl,bf,aK,aF,ak]
 try simp only[aA,ai,aH,aS,bb,aP,ay,aG,aT,aM,aQ,bl,bf,aK,aF,ak]
 grind [ar]
theorem aw3:aCe.Ok Tryz.prog 179:=
 br mixed aw func179 (by kernel_rfl) call179 (fun x_ y_=>anJ x_.1) (fun x_ y_=>aeq x_.1) (fun x_ y_ h=>aw2 x_.1 h)
abbrev IW:ao:=Nu
theorem xW:IW.Ok Tryz.prog 60:=acY
abbrev IX:Type:=List Int
abbrev IY:aY St IX:=(bg (jk 3 (aq (ah (u5 (0) (0))) (jk 63 ae))) (ag (eX (0) (Ty.int IntKind.u8)) ae)).kB
 (fun y=>(y.2.1)) (fun x=>((),(x,()))) (fun _=>rfl)
abbrev aer:List Wk:= [.fr (cC 67 [(3,.al)]),.syms,.auto,.aE]
abbrev atf:Exit→List Wk:=w6 aer 0 [.fr (cC 67 [(3,.al)]),.syms,.auto,.aE] [.fr (cC 67 [(2,.al)]),.syms,.auto,.aE]
abbrev aes:Type:=List Int
abbrev atg(x:aes):Exit×St:=(Exit.exit 0,⟨(ir 3 (LV.one (VV.sc (SV.sl 0 0))::(ir 63 []))),[some (Item.own 0 (Ty.int
 IntKind.u8) x)]⟩)
def SP(r:List Int):Tr (IX⊕(aes)):=(.ite ((↑r.length:Int).tmod (8:Int)!=0) (.need ((r.length+1)*1≤
 70368744177664∧r.length+1≤70368744177664) (.ret (.inl (r++ [0])))) (.ret (.inr (r))))
theorem Wx(r':Int×Int×List Int)(r:List Int):cY Tryz.prog [(60,IW),(211,aep)] [] f180 0 ((ae).wr (())) atf (IY.wr r)=(SP r).res IY.wr atg:=by kernel_rfl
abbrev xX(r:List Int):Prop:=r.length+(8-r.length%8)%8<1099511627776
abbrev aet(r:List Int):aes:=fT r
abbrev aeu:IX→aW:=eS (fun x_=>xX x_) (fun x_=>aet x_) atg
theorem anK(r:List Int)(h_:xX r):dV (fun x_:IX=>SP x_) r (aet r):=by
 delta aet;have h:r.length+(8-r.length%8)%8<1099511627776:=h_;obtain⟨j,hj⟩:∃j,(8-r.length%8)%8=j:=⟨_,rfl⟩
 induction j generalizing r with
 |zero=>
  refine .stop ?_;have c:(r.length:Int).tmod 8=0:=by rw[Int.tmod_eq_emod_of_nonneg (by omega)];omega
  simp[SP,c,aA,ak,fT,hj]
 |succ j ih=>
  have c:(r.length:Int).tmod 8≠0:=by rw[Int.tmod_eq_emod_of_nonneg (by omega)];omega
  have e:fT (r++ [0])=fT r:=by
   unfold fT;rw[List.length_append,List.length_singleton,hj,show(8-(r.length+1)%8)%8=j by omega,List.append_assoc];rfl
  have w:=ih (r++ [0]) (by show(r++ [0]).length+_<_;rw[List.length_append,List.length_singleton];omega) (by rw[List.length_append,List.length_singleton];omega) (by rw[List.length_append,List.length_singleton];omega);rw[e]at w;refine .go ?_ w;simp only[SP,aG,ai,ak];exact⟨fun h=>absurd h c,fun _=>⟨by omega,by trivial⟩⟩
theorem aev(r':Int×Int×List Int):∀x:IX,Ex Tryz.prog ((ae).wr (())) (.loop (a9 f180 0)) (IY.wr x) (aeu x):=
 cQ mixed ((aj xW (aj SO aw))) (ws:=atf) (aJ.nil _) (fun x_=>Wx r' x_) (fun z e=>by cases e) eY (fun x_ h=>anK x_ h)
def zQ(r:Int×Int×List Int):Int:=(↑r.snd.snd.length:Int)
def fB(r:Int×Int×List Int):List Int:= [IntKind.u8.wrap r.fst,0]++bT 2 (u64.wrap (zQ r))++bT 4
 (u64.wrap r.snd.fst)++r.snd.snd
def EC(r:Int×Int×List Int):Nat:=(fT (fB r)++bT 4 (u64.wrap (kc (fT (fB r))))).length+4
abbrev SQ:Type:=List Int
abbrev ath(x:SQ):LV:=LV.one (VV.sc (SV.rd true false (Ty.int IntKind.u8) x))
abbrev ati(x:SQ):List (Nat×Ev.Item):= []
def SR(r:Int×Int×List Int):Tr (SQ):=(.ite (decide (r.fst<1)==false) (.ite (decide (250<r.fst)==false) (.ite
 (decide (r.snd.fst<0)==false) (.ite (decide (4294967295<r.snd.fst)==false) (.ite (decide (512<zQ r)) (.ret ([])) (.need (0≤
 u64.wrap (zQ r)∧u64.wrap (zQ r)<18446744073709551616∧(0:Int)≤2∧(2:Int)≤70368744177664) (.need (4≤
 70368744177664∧4≤70368744177664) (.need (0≤u64.wrap r.snd.fst∧u64.wrap r.snd.fst<18446744073709551616∧(0:Int)≤4∧(4:
 Int)≤70368744177664) (.need (8≤70368744177664∧8≤70368744177664) (.need ((8+r.snd.snd.length)*1≤70368744177664∧8+r.snd.snd.length≤
 70368744177664) (.need (xX (fB r)) (.need (xV (fT (fB r))) (.need (0≤u64.wrap (kc (fT (fB r)))∧u64.wrap
 (kc (fT (fB r)))<18446744073709551616∧(0:Int)≤4∧(4:Int)≤70368744177664) (.need (((fT (fB r)).length+4)*1≤
 70368744177664∧(fT (fB r)).length+4≤70368744177664) (.need (0≤u64.wrap (bm u32 4294967295 (kc (fT (fB r))))∧
 u64.wrap (bm u32 4294967295 (kc (fT (fB r))))<18446744073709551616∧(0:Int)≤4∧(4:Int)≤70368744177664) (.need
 (EC r*1≤70368744177664∧EC r≤70368744177664) (.ret (fT (fB r)++bT 4 (u64.wrap (kc (fT (fB r))))++bT 4
 (u64.wrap (bm u32 4294967295 (kc (fT (fB r))))))))))))))))))) (.ret ([]))) (.ret ([]))) (.ret ([]))) (.ret ([])))
theorem Wy(r:Int×Int×List Int):aN Tryz.prog [(60,IW),(211,aep)] [(0,cg IY ((ae).wr (())) aer (aeu))] f180 ((anm).wr (r,())) ((ae).wr (())) [.nt,.fr [.rd true u8],.fr [.sym],.syms,.auto,.aE]=(SR r).end ath ati ((ae).wr (())):=by kernel_rfl
theorem aew(r:Int×Int×List Int):aJ Tryz.prog ((ae).wr (())) [(0,cg IY ((ae).wr (())) aer (aeu))] (aD f180):=(aJ.bW (jc (by kernel_rfl) (ck (hp:=(ae).wr (())) (aev r)) jh))
theorem zR{x:Int}(h:Bl x):ji x=bT 4 x:=by
 have e8:=xU h 8 8 rfl (by decide);have e16:=xU h 16 16 rfl (by decide);have e24:=xU h 24 24 rfl (by decide);unfold ji;rw[e8,e16,e24,k7];simp only[IntKind.wrap_u8];show [x%256,x/256%256,x/65536%256,x/16777216%256]= [x/1%256,x/256%256,x/65536%256,x/16777216%256];rw[Int.ediv_one]
theorem Wz{k q:Int}{l:List Int}(hl:l.length≤512)(hq:0≤q∧q≤4294967295): [IntKind.u8.wrap k,0]++bT 2 (u64.wrap l.length)++bT 4 (u64.wrap q)++l= [IntKind.u8.wrap k,0,IntKind.u8.wrap l.length,IntKind.u8.wrap (shr .i64 l.length 8)]++(ji (u32.wrap q)++l):=by
 have e1:u64.wrap (l.length:Int)=l.length:=wrap_u64 (by omega) (by omega);have e2:u64.wrap q=q:=wrap_u64 (by omega) (by omega);have e3:u32.wrap q=q:=by rw[wrap_u32];omega
 have e4:shr .i64 (l.length:Int) 8=(l.length:Int)/256:=by
  show(l.length:Int).fdiv 256=_;rw[Int.fdiv_eq_ediv_of_nonneg _ (by decide)]
 rw[e1,e2,e3,zR ⟨by omega,by omega⟩,e4,k7 2];simp only[IntKind.wrap_u8];show [k%256,0]++ [(l.length:Int)/1%256,(l.length:Int)/256%256]++bT 4 q++l=_;rw[Int.ediv_one];simp
abbrev ED(r:Int×Int×List Int):Prop:=True
abbrev aex(r:Int×Int×List Int):SQ:=IL r
def atj:ao:=cd [some u8] (anm) (ae) (fun x_ y_=>ED x_.1) (fun x_ y_=>aex x_.1) ath ati
theorem anN(r:Int×Int×List Int)(h_:ED r):(SR r).Is (aex r):=by
 delta aex;have e2:zQ r=r.2.2.length:=rfl
 by_cases c:adN r
 ·obtain⟨c1,c2,c3,c4,c5⟩:=c;have e3:fT (fB r)=iH r:=by unfold fB iH;rw[e2,Wz c5 ⟨c3,c4⟩]
  have l3:(fB r).length=8+r.2.2.length:=by unfold fB;simp only[List.length_append,dk,List.length_cons,List.length_nil]<;>omega
  obtain⟨b1,b2⟩:=Wq c5;have hx:=EA 4294967295 (Bk vL 4294967295 (iH r));have hy:=EA 4294967295 (kc (iH r));have hx:Bl (kc (iH r)):=hx;have w1:u64.wrap (kc (iH r))=kc (iH r):=wrap_u64 (by omega) (by omega);have w2:u64.wrap (bm .u32 4294967295 (kc (iH r)))=bm .u32 4294967295 (kc (iH r)):=wrap_u64 (by omega) (by omega);have w3:u64.wrap (r.2.2.length:Int)=r.2.2.length:=wrap_u64 (by omega) (by omega);have w4:u64.wrap r.2.1=r.2.1:=wrap_u64 (by omega) (by omega);have e4:EC r=(iH r).length+8:=by unfold EC;rw[e3,List.length_append,dk]
  have hp:xX (fB r):=by show(fB r).length+_<_;omega
  have hs:xV (iH r):=by show(iH r).length<_;omega
  simp only[SR,e2,e3,e4,w1,w2,w3,w4,IL,if_pos (show adN r from⟨c1,c2,c3,c4,c5⟩),zR hx,zR hy,aH,ay,ai,ak,List.append_assoc];clear e2 e3 e4 l3 w1 w2 w3 w4;exact⟨fun _=>⟨fun _=>⟨fun _=>⟨fun _=>⟨fun h=>absurd h (by omega),fun _=>⟨by omega,by omega,by omega,by omega,by omega,hp,hs,by omega,by omega,by omega,by omega,by trivial⟩⟩,fun h=>absurd h (by omega)⟩,fun h=>absurd h (by omega)⟩,fun h=>absurd h (by omega)⟩,fun h=>absurd h (by omega)⟩
 ·simp only[SR,e2,IL,if_neg c,aH,ay,ai,ak];refine⟨fun c1=>⟨fun c2=>⟨fun c3=>⟨fun c4=>⟨fun _=>trivial,fun c5=>absurd ⟨by omega,by omega,by omega,by omega,by omega⟩ c⟩,fun _=>trivial⟩,fun _=>trivial⟩,fun _=>trivial⟩,fun _=>trivial⟩
theorem anO:atj.Ok Tryz.prog 180:=
 br mixed ((aj xW (aj SO aw))) func180 (by kernel_rfl) call180 (fun x_ y_=>aew x_.1) (fun x_ y_=>Wy x_.1) (fun x_ y_ h=>anN x_.1 h)
theorem aw4{b:List Int}(h:ax b){i:Nat}(hi:i+2≤b.length):aZ ((b.drop i).take 2)=gu b i:=by
 have h0:=h.getD i;have h1:=h.getD (i+1);rw[bY 0 (by omega),bY 0 (by omega)];simp only[List.take_succ_cons,List.take_zero];have n0:=cP (l:= []) (fun _ h=>by cases h) (by simp);have n1:=cP (l:= [b.getD (i+1) 0]) (ax.cons h1 ax.nil) (by simp);rw[n1.2.2 _ h0 (by simp),n0.2.2 _ h1 (by simp)];unfold gu;show(0*256+_)*256+_=_;omega
theorem aw5{b:List Int}(h:ax b){i:Nat}(hi:i+4≤b.length):aZ ((b.drop i).take 4)=xm b i:=by
 have h0:=h.getD i;have h1:=h.getD (i+1);have h2:=h.getD (i+2);have h3:=h.getD (i+3);rw[bY 0 (by omega),bY 0 (by omega),bY 0 (by omega),bY 0 (by omega)];simp only[List.take_succ_cons,List.take_zero];have n0:=cP (l:= []) (fun _ h=>by cases h) (by simp);have n1:=cP (l:= [b.getD (i+3) 0]) (ax.cons h3 ax.nil) (by simp);have n2:=cP (l:= [b.getD (i+2) 0,b.getD (i+3) 0]) (ax.cons h2 (ax.cons h3 ax.nil)) (by simp);have n3:=cP (l:= [b.getD (i+1) 0,b.getD (i+2) 0,b.getD (i+3) 0]) (ax.cons h1 (ax.cons h2 (ax.cons h3 ax.nil))) (by simp);rw[show i+1+1=i+2 from rfl,show i+2+1=i+3 from rfl,n3.2.2 _ h0 (by simp),n2.2.2 _ h1 (by simp),n1.2.2 _ h2 (by simp),n0.2.2 _ h3 (by simp)];unfold xm;show(((0*256+_)*256+_)*256+_)*256+_=_;omega
def rP(b:List Int):List Int:=List.take (i64.wrap (8+i64.wrap (aZ (List.take 2 (List.drop 2 b))))-
 8).toNat (List.drop 8 b)
def NQ(b:List Int):Int:=(↑b.length:Int)
abbrev SS:Type:=Int×Int×(List Int)×Int×Bool
abbrev atk(x:SS):LV:=LV.cG [VV.agg [SV.int i64 (SI.sym x.1),SV.int i64 (SI.sym x.2.1),SV.rd true false
 (Ty.int IntKind.u8) x.2.2.1],VV.sc (SV.int i64 (SI.sym x.2.2.2.1)),VV.sc (SV.bool (SB.sym x.2.2.2.2))]
abbrev atl(x:SS):List (Nat×Ev.Item):= []
def SU(b:List Int):Tr (SS):=(.ite (decide (NQ b<16)) (.ret (0,0,[],0,false)) (.need ((0:Int)≤2∧(2:Int)≤4
 ∧4≤(↑b.length:Int)) (.need ((List.take 2 (List.drop 2 b)).length≤70368744177664) (.need (NP (i64.wrap (aZ (List.take 2 (List.drop
 2 b))))) (.ite ((eB (i64.wrap (aZ (List.take 2 (List.drop 2 b))))==0)==false) (.ite (decide (NQ b<eB (i64.wrap (aZ
 (List.take 2 (List.drop 2 b)))))) (.ret (0,0,[],0,false)) (.need ((0:Int)≤0∧0<(↑b.length:Int)) (.need ((0:Int)≤4∧(4:Int)≤8∧8
 ≤(↑b.length:Int)) (.need ((List.take 4 (List.drop 4 b)).length≤70368744177664) (.need ((0:Int)≤8∧8≤i64.wrap (8+i64.wrap
 (aZ (List.take 2 (List.drop 2 b))))∧i64.wrap (8+i64.wrap (aZ (List.take 2 (List.drop 2 b))))≤(↑b.length:Int)) (.need
 ((rP b).length*1≤70368744177664∧(rP b).length≤70368744177664) (.need (ED (i64.wrap (b.getD 0 0),i64.wrap (aZ
 (List.take 4 (List.drop 4 b))),rP b)) (.need ((0:Int)≤0∧0≤eB (i64.wrap (aZ (List.take 2 (List.drop 2 b))))∧eB
 (i64.wrap (aZ (List.take 2 (List.drop 2 b))))≤(↑b.length:Int)) (.ite (!cV (IL (i64.wrap (b.getD 0 0),i64.wrap (aZ
 (List.take 4 (List.drop 4 b))),rP b)) (List.take (eB (i64.wrap (aZ (List.take 2 (List.drop 2 b))))-0).toNat (List.drop 0 b))) (.ret
 (0,0,[],0,false)) (.ret (i64.wrap (b.getD 0 0),i64.wrap (aZ (List.take 4 (List.drop 4 b))),rP b,eB (i64.wrap
 (aZ (List.take 2 (List.drop 2 b)))),true))))))))))) (.ret (0,0,[],0,false)))))))
theorem WA(b:List Int):aN Tryz.prog [(179,aCe),(121,B3),(180,atj)] [] f130 ((bA).wr (b,())) ((ae).wr (())) [.nt,.fr [.rd true u8],.fr [.sym],.syms,.auto,.aE]=(SU b).end atk atl ((ae).wr (())):=by kernel_rfl
theorem aey(b:List Int):aJ Tryz.prog ((ae).wr (())) [] (aD f130):=(aJ.nil _)
abbrev xY(b:List Int):Prop:=ax b∧b.length<1099511627776
abbrev aez(b:List Int):SS:=((bP b).1.1,(bP b).1.2.1,(bP b).1.2.2,(bP b).2.1,(bP b).2.2)
def SW:ao:=cd [some u8] (bA) (ae) (fun x_ y_=>xY x_.1) (fun x_ y_=>aez x_.1) atk atl
theorem anP(b:List Int)(h_:xY b):(SU b).Is (aez b):=by
 delta aez;obtain⟨h1,h2⟩:=h_;have b2:=h1.getD 2;have b3:=h1.getD 3;have b0:=h1.getD 0;have r2:0≤gu b 2∧gu b 2≤65535:=by show 0≤b.getD 2 0+256*b.getD 3 0∧b.getD 2 0+256*b.getD 3 0≤65535;unfold By at b2 b3;omega
 have w0:i64.wrap (b.getD 0 0)=b.getD 0 0:=by unfold By at b0;rw[ar (by omega) (by omega)]
 have e1:NQ b=b.length:=rfl
 by_cases c0:b.length<16
 ·have:bP b=((0,0,[]),0,false):=by unfold bP;rw[if_neg (by omega)]
  rw[this];simp only[SU,e1,ay];exact⟨fun _=>rfl,fun h=>absurd (by omega) h⟩
 have b4:=h1.getD 4;have b5:=h1.getD 5;have b6:=h1.getD 6;have b7:=h1.getD 7;have r4:0≤xm b 4∧xm b 4≤4294967295:=by show 0≤b.getD 4 0+256*b.getD 5 0+65536*b.getD 6 0+16777216*b.getD 7 0∧b.getD 4 0+256*b.getD 5 0+65536*b.getD 6 0+16777216*b.getD 7 0≤4294967295;unfold By at b4 b5 b6 b7;omega
 have w2:i64.wrap (aZ ((b.drop 2).take 2))=gu b 2:=by rw[aw4 h1 (by omega),ar (by omega) (by omega)]
 have w4:i64.wrap (aZ ((b.drop 4).take 4))=xm b 4:=by rw[aw5 h1 (by omega),ar (by omega) (by omega)]
 have w8:i64.wrap (8+gu b 2)=8+gu b 2:=ar (by omega) (by omega);have e0:rP b=(b.drop 8).take (gu b 2).toNat:=by unfold rP;rw[w2,w8,show(8+gu b 2-8).toNat=(gu b 2).toNat by congr 1;omega]
 have e4:(b.getD 0 0,xm b 4,(b.drop 8).take (gu b 2).toNat)=Et b:=rfl;have l2:(List.take 2 (List.drop 2 b)).length≤2:=by rw[List.length_take];omega
 have l4:(List.take 4 (List.drop 4 b)).length≤4:=by rw[List.length_take];omega
 have hl:(List.take (gu b 2).toNat (List.drop 8 b)).length≤b.length:=by rw[List.length_take,List.length_drop];omega
 have hs:eB (gu b 2)≠0→gu b 2+16≤eB (gu b 2):=fun h=>by
  unfold eB at h ⊢
  split at h
  ·rename_i c;rw[if_pos c];omega
  ·exact absurd rfl h
 have hr:(bP b).1=Et b→((bP b).1.1,(bP b).1.2.1,(bP b).1.2.2,(bP b).2.1,(bP b).2.2)=(b.getD 0 0,xm b 4,List.take (gu b 2).toNat (List.drop 8 b),(bP b).2.1,(bP b).2.2):=fun h=>by rw[h];rfl
 simp only[SU,w0,w2,w4,w8,e0,e1,e4,List.drop_zero,Int.sub_zero,ai,aH,ay,aQ,bl,aF,ak];unfold bP at*;clear b0 b2 b3 b4 b5 b6 b7 w0 w2 w4 w8 e0 e1 e4;generalize eB (gu b 2)=z at*;grind
theorem EE:SW.Ok Tryz.prog 130:=
 br mixed ((aj aw3 (aj tq (aj anO aw)))) func130 (by kernel_rfl) call130 (fun x_ y_=>aey x_.1) (fun x_ y_=>WA x_.1) (fun x_ y_ h=>anP x_.1 h)
abbrev IZ:Type:=(List Int)×Int
abbrev I0:aY St IZ:=(bg (ag (ah (fR false false (Ty.int IntKind.u8))) (jk 2 (ag (ah (aC i64)) (jk 11
 ae)))) ae).kB (fun y=>(y.1.1,y.1.2.1)) (fun x=>((x.1,(x.2,())),())) (fun _=>rfl)
abbrev aeA:List Wk:= [.fr (cC 15 [(0,.al),(3,.al)]),.syms,.auto,.aE]
abbrev atm:Exit→List Wk:=w6 aeA 0 [.fr (cC 15 []),.syms,.auto,.aE] [.fr (cC 15 [(2,.al)]),.syms,.auto,.aE]
abbrev NR:Type:=Bool
abbrev aeB(x:NR):Exit×St:=(Exit.ret,⟨(ir 2 (LV.one (VV.sc (SV.bool (SB.sym x)))::(ir 12 []))),[]⟩)
abbrev NS:Type:=Unit
abbrev aeC(x:NS):Exit×St:=(Exit.exit 0,⟨(ir 15 []),[]⟩)
def I1(b:List Int)(i:Int):Tr (IZ⊕(NR⊕NS)):=(.ite (decide (i<(↑b.length:Int))) (.need (0≤i∧i<
 (↑b.length:Int)) (.ite (b.getD i.toNat (0:Int)!=255) (.ret (.inr (.inl (false)))) (.ret (.inl (b,i64.wrap (i+1)))))) (.ret (.inr (.inr
 ()))))
theorem WB(b':List Int)(b:List Int)(i:Int):cY Tryz.prog [] [] f131 0 ((ae).wr (())) atm (I0.wr (b,i))=(I1 b i).res I0.wr (Sum.elim aeB aeC):=by kernel_rfl
abbrev xZ(b:List Int)(i:Int):Prop:=0≤i∧i≤b.length∧b.length<1099511627776
abbrev aeD(b:List Int)(i:Int):Bool:= !c7 (b.drop i.toNat)
abbrev aeE(b:List Int)(i:Int):NR:=false
abbrev aeF(b:List Int)(i:Int):NS:=()
abbrev aeG:IZ→aW:=rL (fun x_=>xZ x_.1 x_.2) (fun x_=>aeD x_.1 x_.2) (fun x_=>aeE x_.1 x_.2) (fun x_=>aeF x_.1 x_.2) aeB aeC
theorem anQ(b:List Int)(i:Int)(h_:xZ b i):dV (fun x_:IZ=>I1 x_.1 x_.2) (b,i) (bif aeD b i then .inl (aeE b i)else .inr (aeF b i)):=by
 delta aeD aeE aeF;obtain⟨h1,h2,h4⟩:=h_;obtain⟨k,rfl⟩:∃m:Nat,i=m:=⟨i.toNat,by omega⟩;obtain⟨j,hj⟩:∃j,b.length-k=j:=⟨_,rfl⟩;rw[Int.toNat_natCast]
 induction j generalizing k with
 |zero=>
  refine .stop ?_;have c:¬ (k:Int)<b.length:=by omega
  rw[List.drop_of_length_le (by omega)];simp[I1,c,aA,ak,c7]
 |succ j ih=>
  have c:(k:Int)<b.length:=by omega
  rw[bY 0 (by omega)]
  by_cases c2:b.getD k 0=255
  ·have w:=ih (k+1) (by omega) (by omega) (by omega);have e1:c7 (b.getD k 0::b.drop (k+1))=c7 (b.drop (k+1)):=(by unfold c7;rw[List.all_cons,c2];rfl);rw[e1];refine .go ?_ w;simp only[I1,c,Int.toNat_natCast,c2,ai,aH,aS,bb,aP,ay,aG,aT,aM,aQ,bl,bf,aK,aF,ak]
   try simp only[aA,ai,aH,aS,bb,aP,ay,aG,aT,aM,aQ,bl,bf,aK,aF,ak]
   grind [ar]
  ·refine .stop ?_;have e1:c7 (b.getD k 0::b.drop (k+1))=false:=(by unfold c7;rw[List.all_cons,beq_eq_false_iff_ne.2 c2];rfl);rw[e1];simp only[I1,c,Int.toNat_natCast,c2,ai,aH,aS,bb,aP,ay,aG,aT,aM,aQ,bl,bf,aK,aF,ak]
   try simp only[aA,ai,aH,aS,bb,aP,ay,aG,aT,aM,aQ,bl,bf,aK,aF,ak]
   grind
theorem aeH(b':List Int):∀x:IZ,Ex Tryz.prog ((ae).wr (())) (.loop (a9 f131 0)) (I0.wr x) (aeG x):=
 cQ mixed aw (ws:=atm) (aJ.nil _) (fun x_=>WB b' x_.1 x_.2) (fun z=>by cases z<;>(intro e;cases e)) vF (fun x_ h=>anQ x_.1 x_.2 h)
abbrev SX:Type:=Bool
abbrev atn(x:SX):LV:=LV.one (VV.sc (SV.bool (SB.sym x)))
abbrev ato(x:SX):List (Nat×Ev.Item):= []
def aeI(b:List Int):Tr (SX):=(.need (xZ b 0) (.ite (!c7 (List.drop 0 b)) (.ret (false)) (.ret (true))))
theorem WC(b:List Int):aN Tryz.prog [] [(0,cg I0 ((ae).wr (())) aeA (aeG))] f131 ((bA).wr (b,())) ((ae).wr (())) [.fr [.sym],.syms,.auto,.aE]=(aeI b).end atn ato ((ae).wr (())):=by kernel_rfl
theorem aeJ(b:List Int):aJ Tryz.prog ((ae).wr (())) [(0,cg I0 ((ae).wr (())) aeA (aeG))] (aD f131):=(aJ.bW (jc (by kernel_rfl) (ck (hp:=(ae).wr (())) (aeH b)) jh))
abbrev qd(b:List Int):Prop:=b.length<1099511627776
abbrev aeK(b:List Int):SX:=c7 b
def aeL:ao:=cd [some u8] (bA) (ae) (fun x_ y_=>qd x_.1) (fun x_ y_=>aeK x_.1) atn ato
theorem anR(b:List Int)(h_:qd b):(aeI b).Is (aeK b):=by
 delta aeK;have h:b.length<1099511627776:=h_;have hp:xZ b 0:=⟨by decide,by omega,h⟩;simp only[aeI,ai,aF,ak,List.drop_zero,Int.toNat_zero];exact⟨hp,fun h=>h.symm,fun h=>h.symm⟩
theorem SY:aeL.Ok Tryz.prog 131:=
 br mixed aw func131 (by kernel_rfl) call131 (fun x_ y_=>aeJ x_.1) (fun x_ y_=>WC x_.1) (fun x_ y_ h=>anR x_.1 h)
abbrev uiC:aY (List LV) (Int×Int×Unit):=ag (ah (aC .u64)) (ag (ah (aC .i64)) ae)
abbrev u3C:aY (List LV) (Int×Int×Int×Unit):=ag (ah (aC .u64)) (ag (ah (aC .u64)) (ag (ah (aC .u64)) ae))
abbrev WD:aY (List LV) (Int×Int×Int×Int×Unit):=ag (ah (aC .u64)) (ag (ah (aC .i64)) (ag (ah (aC .i64)) (ag (ah (aC .i64)) ae)))
def SZ(x k:Int):Int:=bq .u64 (shl .u64 x (bd .u64 (u64.wrap k) 63)) (shr .u64 x (u64.wrap (64-bd .u64 (u64.wrap k) 63)))
theorem atp(k:Int):bd .u64 (u64.wrap k) 63=k%64:=by
 rw[pZ (m:=6) (by decide) _ _ (by decide),jy];exact Int.emod_emod_of_dvd _ (by decide)
def jz(x n:Int):Int:=bq .u64 (shl .u64 x (64-n)) (shr .u64 x n)
theorem aeM{x n:Int}(h0:0<n)(h1:n<64):SZ x (i64.wrap (0-n))=jz x n:=by
 unfold SZ jz
 have e:bd .u64 (u64.wrap (i64.wrap (0-n))) 63=64-n:=by
  rw[atp,wrap_i64 (by omega) (by omega)];omega
 rw[e,wrap_u64 (by omega) (by omega),show(64:Int)-(64-n)=n from by omega]
def atq:ao:=ao.cH [] (uiC) (ae) fun x_ y_=>(fun(x k:Int)=>.leaf none (nU (SZ x k)) []) x_.1 x_.2.1
theorem WE(x k:Int):aN Tryz.prog [] [] f196 ((uiC).wr (x,k,())) ((ae).wr ()) [.fr [.sym],.auto]=
 End.need ((0:Int)≤bd u64 (u64.wrap k) (63:Int)) (End.need ((0:Int)≤u64.wrap ((64:Int)-bd u64
 (u64.wrap k) (63:Int))) (End.leaf (LV.one (VV.sc (SV.int u64 (SI.sym (bq u64 (shl u64 x (bd u64
 (u64.wrap k) (63:Int))) (shr u64 x (u64.wrap ((64:Int)-bd u64 (u64.wrap k) (63:Int))))))))) [])):=by kernel_rfl
theorem anT:atq.Ok Tryz.prog 196:=by
 refine(ao.ba call196 fun x_ y_ Q H_=>?_).sym;obtain⟨x,k,_⟩:=x_;have hq:=H_.2;refine(au mixed aw func196 rfl (LT:= []) (ks:= [.fr [.sym],.auto]) (aJ.nil _)).use (D:= []) ?_ hq;show(aN _ _ _ _ ((uiC).wr (x,k,())) ((ae).wr ()) _).sat _;rw[WE];have e:=atp k;refine⟨by omega,by rw[e,wrap_u64 (by omega) (by omega)];omega,rfl,rfl⟩
def aeN:ao:=ao.cH [] (uiC) (ae) fun x_ y_=>(fun(x k:Int)=>.leaf (some (0<k∧k<64)) (nU (jz x k)) []) x_.1 x_.2.1
theorem WG(x k:Int):aN Tryz.prog [(196,atq)] [] f156 ((uiC).wr (x,k,())) ((ae).wr ()) [.fr [.sym],.auto]=
 End.leaf (LV.one (VV.sc (SV.int u64 (SI.sym (SZ x (i64.wrap ((0:Int)-k.tmod (64:Int)))))))) []:=by kernel_rfl
theorem S0:aeN.Ok Tryz.prog 156:=by
 refine(ao.ba call156 fun x_ y_ Q H_=>?_).sym;obtain⟨x,k,_⟩:=x_;obtain⟨hn,hq⟩:=H_;have hn:0<k∧k<64:=hn;refine(au mixed ((aj anT aw)) func156 rfl (LT:= []) (ks:= [.fr [.sym],.auto]) (aJ.nil _)).use (D:= []) ?_ hq;show(aN _ _ _ _ ((uiC).wr (x,k,())) ((ae).wr ()) _).sat _;rw[WG];have e:k.tmod 64=k:=by rw[Int.tmod_eq_emod_of_nonneg (by omega)];omega
 rw[e,aeM hn.1 hn.2];exact⟨rfl,rfl⟩
def chF(x y z:Int):Int:=bm .u64 (bd .u64 x y) (bd .u64 (bm .u64 18446744073709551615 x) z)
def aeO(x y z:Int):Int:=bm .u64 (bm .u64 (bd .u64 x y) (bd .u64 x z)) (bd .u64 y z)
def chE:ao:=ao.cH [] (u3C) (ae) fun x_ y_=>(fun(x y z:Int)=>.leaf none (nU (chF x y z)) []) x_.1 x_.2.1 x_.2.2.1
theorem anU(x y z:Int):aN Tryz.prog [] [] f108 ((u3C).wr (x,y,z,())) ((ae).wr ()) [.fr [.sym],.auto]=
 End.leaf (LV.one (VV.sc (SV.int u64 (SI.sym (bm u64 (bd u64 x y) (bd u64 (bm u64
 (18446744073709551615:Int) x) z)))))) []:=by kernel_rfl
theorem aCf:chE.Ok Tryz.prog 108:=by
 refine(ao.ba call108 fun x_ y_ Q H_=>?_).sym;obtain⟨x,y,z,_⟩:=x_;have hq:=H_.2;refine(au mixed aw func108 rfl (LT:= []) (ks:= [.fr [.sym],.auto]) (aJ.nil _)).use (D:= []) ?_ hq;show(aN _ _ _ _ ((u3C).wr (x,y,z,())) ((ae).wr ()) _).sat _;rw[anU];exact⟨rfl,rfl⟩
def aCg:ao:=ao.cH [] (u3C) (ae) fun x_ y_=>(fun(x y z:Int)=>.leaf none (nU (aeO x y z)) []) x_.1 x_.2.1 x_.2.2.1
theorem aeP(x y z:Int):aN Tryz.prog [] [] f109 ((u3C).wr (x,y,z,())) ((ae).wr ()) [.fr [.sym],.auto]=
 End.leaf (LV.one (VV.sc (SV.int u64 (SI.sym (bm u64 (bm u64 (bd u64 x y) (bd u64 x z)) (bd
 u64 y z)))))) []:=by kernel_rfl
theorem aw6:aCg.Ok Tryz.prog 109:=by
 refine(ao.ba call109 fun x_ y_ Q H_=>?_).sym;obtain⟨x,y,z,_⟩:=x_;have hq:=H_.2;refine(au mixed aw func109 rfl (LT:= []) (ks:= [.fr [.sym],.auto]) (aJ.nil _)).use (D:= []) ?_ hq;show(aN _ _ _ _ ((u3C).wr (x,y,z,())) ((ae).wr ()) _).sat _;rw[aeP];exact⟨rfl,rfl⟩
def zS(x a b d:Int):Int:=bm .u64 (bm .u64 (jz x a) (jz x b)) (shr .u64 x d)
def vM(x a b d:Int):Int:=bm .u64 (bm .u64 (jz x a) (jz x b)) (jz x d)
def aeQ:ao:=ao.cH [] (WD) (ae) fun x_ y_=>(fun(x a b d:Int)=>.leaf (some (0<a∧a<64∧0<b∧b<64∧0≤d)) (nU (zS x a b d)) []) x_.1 x_.2.1 x_.2.2.1 x_.2.2.2.1
theorem NT(x a b d:Int):aN Tryz.prog [(156,aeN)] [] f155 ((WD).wr (x,a,b,d,())) ((ae).wr ()) [.fr [.sym],.auto]=
 End.need ((0:Int)<a∧a<(64:Int)) (End.need ((0:Int)<b∧b<(64:Int)) (End.need ((0:Int)≤d) (End.leaf (LV.one (VV.sc (SV.int
 u64 (SI.sym (bm u64 (bm u64 (jz x a) (jz x b)) (shr u64 x d)))))) []))):=by kernel_rfl
theorem aeR:aeQ.Ok Tryz.prog 155:=by
 refine(ao.ba call155 fun x_ y_ Q H_=>?_).sym;obtain⟨x,a,b,d,_⟩:=x_;obtain⟨hn,hq⟩:=H_;have hn:0<a∧a<64∧0<b∧b<64∧0≤d:=hn;refine(au mixed ((aj S0 aw)) func155 rfl (LT:= []) (ks:= [.fr [.sym],.auto]) (aJ.nil _)).use (D:= []) ?_ hq;show(aN _ _ _ _ ((WD).wr (x,a,b,d,())) ((ae).wr ()) _).sat _;rw[NT];exact⟨⟨hn.1,hn.2.1⟩,⟨hn.2.2.1,hn.2.2.2.1⟩,hn.2.2.2.2,rfl,rfl⟩
def aeS:ao:=ao.cH [] (WD) (ae) fun x_ y_=>(fun(x a b d:Int)=>.leaf (some (0<a∧a<64∧0<b∧b<64∧0<d∧d<64)) (nU (vM x a b d)) []) x_.1 x_.2.1 x_.2.2.1 x_.2.2.2.1
theorem NU(x a b d:Int):aN Tryz.prog [(156,aeN)] [] f107 ((WD).wr (x,a,b,d,())) ((ae).wr ()) [.fr [.sym],.auto]=
 End.need ((0:Int)<a∧a<(64:Int)) (End.need ((0:Int)<b∧b<(64:Int)) (End.need ((0:Int)<d∧d<(64:Int)) (End.leaf (LV.one
 (VV.sc (SV.int u64 (SI.sym (bm u64 (bm u64 (jz x a) (jz x b)) (jz x d)))))) []))):=by kernel_rfl
theorem aeT:aeS.Ok Tryz.prog 107:=by
 refine(ao.ba call107 fun x_ y_ Q H_=>?_).sym;obtain⟨x,a,b,d,_⟩:=x_;obtain⟨hn,hq⟩:=H_;have hn:0<a∧a<64∧0<b∧b<64∧0<d∧d<64:=hn;refine(au mixed ((aj S0 aw)) func107 rfl (LT:= []) (ks:= [.fr [.sym],.auto]) (aJ.nil _)).use (D:= []) ?_ hq;show(aN _ _ _ _ ((WD).wr (x,a,b,d,())) ((ae).wr ()) _).sat _;rw[NU];exact⟨⟨hn.1,hn.2.1⟩,⟨hn.2.2.1,hn.2.2.2.1⟩,hn.2.2.2.2,rfl,rfl⟩
end Go.Proofs.YtcbjpiangpjbgaaGreat
end
