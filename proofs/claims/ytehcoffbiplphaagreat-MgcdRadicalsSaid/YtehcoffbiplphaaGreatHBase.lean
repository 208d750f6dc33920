import Derived.Test.YtehcoffbiplphaaGreatRows
import Derived.Deep.RegionHeld3
import Derived.Deep.DrawnRows
import Derived.Test.YtehcoffbiplphaaGreatHAl
import Derived.WalkKit
import Derived.Deep.Matrix
import Derived.OpenShut
import Derived.Deep.AppendLies
import Derived.Deep.QuietTactic
set_option linter.all false
namespace Go
def RowKit.Hid.o {p:Prop}(h:RowKit.Hid p):p:=h
def Shut.o {p:Prop}(h:Shut p):p:=h
def RowKit.Below.tm {w0 w1 w2:World}(h:RowKit.Below w0.heap.size w0 w1)(k:RowKit.Below w1.heap.size w1 w2):RowKit.Below w0.heap.size w0 w2:=h.trans (k.mono h.size)
end Go
namespace Go.Proofs.YtehcoffbiplphaaGreat
open Go.RowKit
variable {n i B sz base:Nat} {w a w':World} {p:Prop} {xs ys:List Int} {P:Program} {t e:TypeId} {v:Value} {f:FuncId} {args:Array Value}
def vt:=@World.cell?_alloc_lt
def UC:=@Value.slice.injEq
def dQ:=@cell_of_row
def bM:=@heap_alloc_new
def adh:=@toList_madeCells_one
def Ep:=@Below.heap_setCell
def xq:=@run_underlying
def UB:=@World.ownsRow_lit
def j5:=@Go.WideShapes.add_plain
def fJ:=@World.drewN_drewN
def bP:=@IntWalk.i64_in
def Nk:=@u64_or_nat
def aJ:=@World.size_alloc
def adg:=@grownCap_le_maxLen
def xo:=@heap_alloc_old
def UA:=@setRow_heap
def eG:=@info_parts
def Nj:=@World.ownsRow.alloc
def pN:=@step_append_lies
def gw:=@World.news_of_block
def adf:=@run_callFunc_extern
def anc:=@run_max_int2
def rG:=@wpList_append_lies
def jk:=@World.cell?_setCell_other
def bK:=@bodyPost_ret
def dO:=@results_cell_row
def nv:=@World.ownsRow_nil
def T6:=@IntWalk.u64_in
def Ni:=@results_tmp3
def Nh:=@run_append_lies
def Tz:=@World.cell?_spot
def JS:=@run_loadVar_row
def Ng:=@World.frozen?_setCell
def ade:=@World.cell?_setCell_same
def Tx:=@WideAt.sameKey_eq
def adb:=@WideAt.sameKey_self
def Eo:=@Below.grown
def En:=@World.ownsRow.lt
def aL:n<=n:=Nat.le_refl n
def aU {H:Nat}:Below H w w:=Below.refl H w
def bAl (o:Obj):Below w.heap.size w (w.alloc o):=(Below.refl _ w).alloc (Nat.le_refl _) o
def aA (h:p):Hid p:=h
abbrev aB:=Calls Tryz.prog
attribute [go_sem ↓] Go.wp_at_zero Go.wp_at_succ
def nth (xs:List Int) (i:Nat):Int:=xs.getD i 0
def fV (h:i<xs.length):nth xs i=xs[i]:=by unfold nth;simp [List.getD,h]
def bw (h:xs.length<=i):nth xs i=0:=by unfold nth;simp [List.getD,h]
def gK (h:i<xs.length) (v:Int) (j:Nat):nth (xs.set i v) j=if j=i then v else nth xs j:=by
 unfold nth;simp only [List.getD,List.getElem?_set];by_cases e:j=i
 . subst e;simp [h]
 . rw [aY (fun h=>e h.symm),aY e]
def nN (h:i<xs.length):nth (xs++ys) i=nth xs i:=by unfold nth;simp [List.getD,Tw h]
def nO (h:xs.length<=i):nth (xs++ys) i=nth ys (i-xs.length):=by unfold nth;simp [List.getD,DL h]
def kW (hl:xs.length=ys.length) (h:∀i,i<xs.length->nth xs i=nth ys i):xs=ys:=by
 apply anb hl;intro i h1 h2;have:=h i h1;rwa [fV h1,fV h2] at this
def J7 (n:Nat) (f:Nat->Int) (i:Nat):nth ((List.range n).map f) i=if i<n then f i else 0:=by
 unfold nth;by_cases h:i<n<;>simp [List.getD,h]
def gL (h:i<xs.length):nth xs i∈xs:=by rw [fV h];exact bR h
def tab (n:Nat) (f:Nat->Int):List Int:=(List.range n).map f
@[simp] def Ro (n:Nat) (f:Nat->Int):(tab n f).length=n:=by simp [tab]
def afl (n:Nat) (f:Nat->Int) (i:Nat):nth (tab n f) i=if i<n then f i else 0:=J7 n f i
def DX (a:Int):Prop:= -9223372036854775808<=a∧a<=9223372036854775807
def ints (xs:List Int):List Value:=xs.map (Value.int .i64)
def qg (xs:List Int):(ints xs).length=xs.length:=by simp [ints]
def qh (h:i<xs.length):(ints xs)[i]? =some (.int .i64 (nth xs i)):=by
 simp [ints,fV h,h]
def Fj (xs ys:List Int):ints (xs++ys)=ints xs++ints ys:=by simp [ints]
def ints_set (xs:List Int) (i:Nat) (v:Int):(ints xs).set i (.int .i64 v)=ints (xs.set i v):=by simp [ints,Jf]
structure Ints (w:World) (A:Option Addr) (n:Nat) (xs:List Int):Prop where
 len:xs.length=n
 at_:0<n->∃b o,A=some ⟨b,o,none⟩∧b<w.heap.size∧∀i,i<n->w.cell? ⟨b,o+i,none⟩=some (.int .i64 (nth xs i))
 ok:∀i,DX (nth xs i)
def DX.zero:DX 0:=by constructor<;>decide
section
variable {w w' : World} {A : Option Addr} {n : Nat} {xs : List Int}
def Ints.keep (h:Ints w A n xs) (hs:w.heap.size<=w'.heap.size) (hk:∀p:Addr,p.block<w.heap.size->w'.cell? p=w.cell? p):Ints w' A n xs:=
 ⟨h.len,fun hn=>by
   obtain ⟨b,o,e,hb,hc⟩:=h.at_ hn;exact ⟨b,o,e,by omega,fun i hi=>(hk ⟨b,o+i,none⟩ hb).trans (hc i hi)⟩,h.ok⟩
def Ints.below (h:Ints w A n xs) {B:Nat}(hb:Below B w w') (hB:w.heap.size<=B):Ints w' A n xs:=h.keep hb.size fun _ hp=>hb.cell (by omega)
def Ints.aC (h:Ints w A n xs) (hb:Below w.heap.size w w'):Ints w' A n xs:=h.below hb (Nat.le_refl _)
def Ints.drewN (h:Ints w A n xs) (k:Nat):Ints (w.drewN k) A n xs:=⟨h.len,h.at_,h.ok⟩
def Ints.alloc (h:Ints w A n xs) (o:Obj):Ints (w.alloc o) A n xs:=h.keep (by simp) fun p hp=>vt w o p hp
def Ints.ia {base:Nat} {e:TypeId} {c:Nat}(h:w.ownsRow base e 1 (.slice A n c) n (ints xs)) (oH:∀i,DX (nth xs i)):Ints w A n xs:=by
 have hl:=h.1;rw [qg,bl] at hl;refine ⟨hl,fun hn=> ?_,oH⟩;rcases h.2 with ⟨h',h0⟩ | ⟨g,cap,cur,hv,_,hg,jV,zA,hcs,LN⟩
 . omega
 . simp only [UC] at hv
   obtain ⟨rfl,_,rfl⟩:=hv;refine ⟨g,0,rfl,(jm.1 hg).1,fun i hi=> ?_⟩;rw [bh,dQ w g i cur e (0,0) hg];have:=qh (xs:=xs) (i:=i) (by omega);rw [<- LN,We,aM (by omega)] at this;simpa using this
end
def Row (w:World) (g:Nat) (t:TypeId) (xs:List Int):Prop:=w.heap[g]? =some (.cells (ints xs).toArray t (0,0))
section
variable {w w' : World} {g : Nat} {t : TypeId} {xs : List Int}
def Row.lt (h:Row w g t xs):g<w.heap.size:=(jm.1 h).1
def Row.cell (h:Row w g t xs) {i:Nat}(hi:i<xs.length):w.cell? ⟨g,i,none⟩=some (.int .i64 (nth xs i)):=by
 rw [dQ w g i _ t (0,0) h];have:=qh hi;simpa using this
def Row.frozen (h:Row w g t xs) (i:Nat):w.frozen? ⟨g,i,none⟩=false:=by
 unfold Row at h;simp [World.frozen?,h]
def Row.drew (h:Row w g t xs):Row w.drew g t xs:=h
def Row.set (h:Row w g t xs) (i:Nat) (v:Int):Row (w.setCell ⟨g,i,none⟩ (.int .i64 v)) g t (xs.set i v):=by
 unfold Row at h ⊢;simp [World.setCell,wR,h,<- ints_set]
def Row.below {B:Nat}(h:Row w g t xs) (hb:Below B w w') (hg:g<B):Row w' g t xs:=(hb.block g hg).trans h
def Row.aC (h:Row w g t xs) (hb:Below w.heap.size w w'):Row w' g t xs:=h.below hb h.lt
def Row.new (w:World) (t:TypeId) (xs:List Int):Row (w.alloc (.cells (ints xs).toArray t)) w.heap.size t xs:=bM w _
def Row.ints (h:Row w g t xs) (oH:∀i,DX (nth xs i)):Ints w (some ⟨g,0,none⟩) xs.length xs:=
 ⟨rfl,fun _=>⟨g,0,rfl,h.lt,fun i hi=>by rw [bh];exact h.cell hi⟩,oH⟩
end
def zJ {i:TypeInfo}(ht:P.underlying t=some (.slice e)) (hi:P.info? e=some i) (hz:i.zero=some (.int .i64 0)) (hs:i.size=1) (hb:i.bytes=8)
 (n:Nat) (hn:n*8<=281474976710656) (w:World):
 (Instr.makeSlice t (.int .i64 (n:Int)) (.int .i64 (n:Int))).run P w=.ok (.slice (some ⟨w.heap.size,0,none⟩) n n) (w.alloc (.cells (ints (List.replicate n 0)).toArray e)):=by
 have hr:=run_make (P:=P) w t e i (.int .i64 0) ht hi hz .i64 .i64 n n (by omega) (by omega) (by rw [hb];omega) (by omega);have e1:madeCells (Value.int .i64 0).cells (n*1)=(ints (List.replicate n 0)).toArray:=by
  apply Array.toList_inj.1;show (madeCells #[Value.int .i64 0] (n*1)).toList=_;rw [adh,bl];simp [ints]
 simp only [jc,hs] at hr;rw [hr,e1]
def ym {xs:List Value} {o:Obj}(h:Below B a w) (aa:w.ownsRow B t sz v n xs) (hg:(w.alloc o).drew.grownBy w' v.ownBlock) (hB:B<=w.heap.size):Below B a w':=
 ((h.alloc hB o).drew).grown hg (by simp;omega) (fun k hk=>(aa.lt k hk).1)
def pL {xs:List Value} {o:Obj}(h:Below B a w) (aa:w.ownsRow B t sz v n xs) (hg:(w.alloc o).grownBy w' v.ownBlock) (hB:B<=w.heap.size):Below B a w':=
 (h.alloc hB o).grown hg (by simp;omega) (fun k hk=>(aa.lt k hk).1)
def PC {base':Nat} {xs:List Value}(h:w.ownsRow base e sz v n xs) (hb:base'<=base):w.ownsRow base' e sz v n xs:=by
 refine ⟨h.1,?_⟩;rcases h.2 with h2 | ⟨g,cap,cur,hv,hg,r⟩
 . exact .inl h2
 . exact .inr ⟨g,cap,cur,hv,by omega,r⟩
def VU {xs:List Value}(h:w.ownsRow base e sz v n xs) (hb:Below w.heap.size w w'):w'.ownsRow base e sz v n xs:=by
 refine ⟨h.1,?_⟩;rcases h.2 with h2 | ⟨g,cap,cur,hv,hg,hh,r⟩
 . exact .inl h2
 . exact .inr ⟨g,cap,cur,hv,hg,(hb.block g (jm.1 hh).1).trans hh,r⟩
def gN {xs:List Value}(h:w.ownsRow base e sz v n xs):w.drew.ownsRow base e sz v n xs:=h
def below_drewN (h:Below B a w) (n:Nat):Below B a (w.drewN n):=⟨h.os,h.tape,h.output,h.size,h.block⟩
def fD {xs:List Value}(aa:w'.ownsRow base t 1 v n xs):∃A c,v=.slice A n c:=by
 rcases aa.2 with ⟨hv,h0⟩ | ⟨g,cap,cur,hv,_⟩
 . exact ⟨none,0,by rw [hv,h0]⟩
 . exact ⟨_,_,hv⟩
structure Only (S:Nat->Prop) (w w':World):Prop where
 os:w'.os=w.os
 tape:w'.tape=w.tape
 output:w'.output=w.output
 size:w.heap.size<=w'.heap.size
 block:∀k,k<w.heap.size->¬S k->w'.heap[k]? =w.heap[k]?
section
variable {S T : Nat -> Prop} {w w' w'' : World}
def Only.refl (S:Nat->Prop) (w:World):Only S w w:=⟨rfl,rfl,rfl,Nat.le_refl _,fun _ _ _=>rfl⟩
def Only.trans (h:Only S w w') (k:Only S w' w''):Only S w w'':=
 ⟨k.os.trans h.os,k.tape.trans h.tape,k.output.trans h.output,aG h.size k.size,fun i hi hs=>(k.block i (iE hi h.size) hs).trans (h.block i hi hs)⟩
def Only.mono (h:Only S w w') (hs:∀k,S k->T k):Only T w w':=⟨h.os,h.tape,h.output,h.size,fun k hk ht=>h.block k hk (fun uu=>ht (hs k uu))⟩
def Only.setCell (h:Only S w w') {p:Addr}(hp:S p.block) (u:Value):Only S w (w'.setCell p u):=
 ⟨h.os,h.tape,h.output,by simpa [World.setCell] using h.size,fun k hk hs=>(Ep w' p u k (fun e=>hs (by rw [e];exact hp))).trans (h.block k hk hs)⟩
def Only.drewN (h:Only S w w') (n:Nat):Only S w (w'.drewN n):=⟨h.os,h.tape,h.output,h.size,h.block⟩
def Only.alloc (h:Only S w w') (o:Obj):Only S w (w'.alloc o):=
 ⟨h.os,h.tape,h.output,aG h.size (by simp),fun k hk hs=>(Below.heap_alloc _ _ _ (iE hk h.size)).trans (h.block k hk hs)⟩
def Only.cell (h:Only S w w') {p:Addr}(hp:p.block<w.heap.size) (hs:¬S p.block):w'.cell? p=w.cell? p:=World.cell?_of_block (h.block _ hp hs)
def Only.below {B:Nat}(h:Only S w w') (hB:B<=w.heap.size) (hs:∀k,S k->B<=k):Below B w w':=
 ⟨h.os,h.tape,h.output,h.size,fun k hk=>h.block k (by omega) (fun h'=>by have:=hs k h';omega)⟩
def Only.bZ {B:Nat}(h:Below B w w'):Only (fun k=>B<=k) w w':=⟨h.os,h.tape,h.output,h.size,fun k _ hs=>h.block k (by omega)⟩
def Only.fK {row:Option Nat}(h:w.grownBy w' row):Only (fun k=>row=some k) w w':=⟨h.os,h.tape,h.output,h.size,fun k hk hs=>h.block k hk (fun e=>hs e.symm)⟩
def Row.only {g:Nat} {t:TypeId} {xs:List Int}(h:Row w g t xs) (ho:Only S w w') (hs:¬S g):Row w' g t xs:=(ho.block g h.lt hs).trans h
end
def DC (a:Addr) (n:Nat):(a.add n).block=a.block:=by unfold Addr.add;split<;>rfl
def Ts (a:Addr) (i j:Nat):(a.add i).add j=a.add (i+j):=by
 unfold Addr.add;by_cases hi:i=0<;>by_cases hj:j=0<;>simp [hi,hj,jb]
def Reads (w:World) (B size:Nat) (A:Option Addr) (n:Nat) (xs:List Value):Prop:=
 xs.length=n*size∧(0<n->∃ad,A=some ad∧ad.block<B∧∀j u,xs[j]? =some u->w.cell? (ad.add j)=some u)
section
variable {w w' : World} {B B' size n : Nat} {A : Option Addr} {xs : List Value}
def Reads.keep (h:Reads w B size A n xs) (hk:∀p:Addr,p.block<B->w'.cell? p=w.cell? p):Reads w' B size A n xs:=
 ⟨h.1,fun hn=>by
   obtain ⟨ad,e,hb,hc⟩:=h.2 hn;exact ⟨ad,e,hb,fun j u hu=>(hk _ (by rw [DC];exact hb)).trans (hc j u hu)⟩⟩
def Reads.below (h:Reads w B size A n xs) (hb:Below B w w'):Reads w' B size A n xs:=h.keep fun _ hp=>hb.cell hp
def Reads.alloc (h:Reads w B size A n xs) (hB:B<=w.heap.size) (o:Obj):Reads (w.alloc o) B size A n xs:=h.keep fun p hp=>vt w o p (by omega)
def Reads.cut (h:Reads w B size A n xs) {k cap:Nat}(hk:k<=n) (hc:n<=cap):
 Reads w B size (if cap=k then A else A.map (·.add (k*size))) (n-k) (xs.drop (k*size)):=by
 refine ⟨by rw [xw,h.1,Nat.sub_mul],fun hn=> ?_⟩;obtain ⟨ad,rfl,hb,hcell⟩:=h.2 (by omega);rw [aY (by omega)];refine ⟨ad.add (k*size),rfl,by rw [DC];exact hb,fun j u hu=> ?_⟩;rw [Ts];exact hcell _ u (by rw [<- hu,adm])
end
section
variable {P : Program} (w : World)
def BI (base:Nat) (t ty e:TypeId) (i:TypeInfo) (size:Nat) (ht:P.underlying t=some (.slice e)) (hi:P.info? e=some i)
 (v:Value) (n:Nat) (xs:List Value) (aa:w.ownsRow base e size v n xs) (c:Nat):(Builtin.append_ #[t,t] ty #[v,.slice none 0 c]).run P w=.ok v w:=by
 rcases aa.2 with ⟨rfl,rfl⟩ | ⟨g,cap,cur,rfl,_,_,jV,_⟩
 . simp [Builtin.append_,xq ht,Go.sizeOf,typeInfo,hi,Builtin.lenOf,Builtin.firstCells]
 . simp [Builtin.append_,xq ht,Go.sizeOf,typeInfo,hi,Builtin.lenOf,Builtin.firstCells,jV,storeCells]
def HJ (base:Nat) (t ty e:TypeId) (i:TypeInfo) (z:Value) (size bytes:Nat) (ht:P.underlying t=some (.slice e)) (hi:P.info? e=some i) (hz:i.zero=some z)
 (zO:i.size=size) (Ge:i.bytes=bytes) (X6:z.cells.size=size) (hsz:0<size)
 (v:Value) (n:Nat) (xs:List Value) (aa:w.ownsRow base e size v n xs)
 (B:Nat) (A:Option Addr) (m c:Nat) (news:List Value) (hr:Reads w B size A m news) (h1:∀u∈news,u.oneCell'=true)
 (h63:n+m<=maxLen) (xb:(n+m)*bytes<=140737488355328) (rO:base<=w.heap.size):
 ∃v' w',(Builtin.append_ #[t,t] ty #[v,.slice A m c]).run P w=.ok v' w'∧w'.ownsRow base e size v' (n+m) (xs++news)∧w.grownBy w' v.ownBlock∧
  (v'.ownBlock=v.ownBlock∨v'.ownBlock=some w.heap.size):=by
 rcases A with _ | ad
 . have hm:m=0:=by
    rcases jM m with h0 | h0
    . exact h0
    . obtain ⟨ad,h,_⟩:=hr.2 h0
      cases h
   subst hm;have hn:news=[]:=lK (by simpa using hr.1);subst hn;exact ⟨v,w,BI w base t ty e i size ht hi v n xs aa c,by simpa using aa,World.grownBy.refl w _,.inl rfl⟩
 . have S9:∀j u,news[j]? =some u->w.cell? (ad.add j)=some u:=by
    intro j u hu;rcases jM m with h0 | h0
    . subst h0
      have hn:news=[]:=lK (by simpa using hr.1);subst hn;simp at hu
    . obtain ⟨ad',h,_,hc⟩:=hr.2 h0
      injection h with h
      subst h;exact hc j u hu
   obtain ⟨v',w',hrun,h2,h3,_,h5⟩:=run_append_own_at (P:=P) w base t ty e i z size bytes ht hi hz zO Ge X6 hsz v n xs aa ad m c news hr.1 S9 h1 h63 xb rO;exact ⟨v',w',hrun,h2,h3,h5⟩
def zF {o:Oper} {a:Act} {K:Act->World->Prop} {Q:Exit->Act->World->Prop}(s x:Operand) (t:TypeId)
 (ho:o.op=.call { callee:=.builtin .append,args:=#[s,x],argTypes:=#[t,t]})
 (base:Nat) (e:TypeId) (i:TypeInfo) (z:Value) (size bytes:Nat) (ht:P.underlying t=some (.slice e)) (hi:P.info? e=some i) (hz:i.zero=some z)
 (zO:i.size=size) (Ge:i.bytes=bytes) (X6:z.cells.size=size) (hsz:0<size)
 (v:Value) (n:Nat) (xs:List Value) (hs:a.eval s=v) (aa:w.ownsRow base e size v n xs)
 (B:Nat) (A:Option Addr) (m c:Nat) (news:List Value) (hx:a.eval x=.slice A m c) (hr:Reads w B size A m news) (h1:∀u∈news,u.oneCell'=true)
 (h63:n+m<=maxLen) (xb:(n+m)*bytes<=140737488355328) (rO:base<=w.heap.size)
 (h:∀v' w',w'.ownsRow base e size v' (n+m) (xs++news)->w.grownBy w' v.ownBlock->(v'.ownBlock=v.ownBlock∨v'.ownBlock=some w.heap.size)->K (a.put o.dst v') w'):o.wp P a w K Q:=by
 obtain ⟨v',w',hrun,h2,h3,h4⟩:=HJ (P:=P) w base t o.type e i z size bytes ht hi hz zO Ge X6 hsz v n xs aa B A m c news hr h1 h63 xb rO;unfold Oper.wp execOp;simp only [ho,resolve,invoke,builtin,Sem.run_bind,Sem.run_pure,Result.andThen_ok,List.map_toArray,uK,List.map_nil,hs,hx,hrun];exact h v' w' h2 h3 h4
def bU {ops:Array Oper} {rest:List Oper} {o:Oper} {a:Act} {Q:Exit->Act->World->Prop}(hgd:o.guard=none) (s x:Operand) (t:TypeId)
 (ho:o.op=.call { callee:=.builtin .append,args:=#[s,x],argTypes:=#[t,t]})
 (base:Nat) (e:TypeId) (i:TypeInfo) (z:Value) (size bytes:Nat) (ht:P.underlying t=some (.slice e)) (hi:P.info? e=some i) (hz:i.zero=some z)
 (zO:i.size=size) (Ge:i.bytes=bytes) (X6:z.cells.size=size) (hsz:0<size)
 (v:Value) (n:Nat) (xs:List Value) (hs:a.eval s=v) (aa:w.ownsRow base e size v n xs)
 (B:Nat) (A:Option Addr) (m c:Nat) (news:List Value) (hx:a.eval x=.slice A m c) (hr:Reads w B size A m news) (h1:∀u∈news,u.oneCell'=true)
 (h63:n+m<=maxLen) (xb:(n+m)*bytes<=140737488355328) (rO:base<=w.heap.size)
 (h:∀v' w',w'.ownsRow base e size v' (n+m) (xs++news)->w.grownBy w' v.ownBlock->(v'.ownBlock=v.ownBlock∨v'.ownBlock=some w.heap.size)->wpList P ops Q rest (a.put o.dst v') w'):wpList P ops Q (o::rest) a w:=
 wpList_plain hgd fun _ hK=>zF w s x t ho base e i z size bytes ht hi hz zO Ge X6 hsz v n xs hs aa B A m c news hx hr h1 h63 xb rO fun v' w' h2 h3 h4=>hK _ _ (h v' w' h2 h3 h4)
def dU {ops:Array Oper} {o:Oper} {a:Act} {K:Act->World->Prop} {Q:Exit->Act->World->Prop} {E:Prop}(hgd:o.guard=none) (s x:Operand) (t:TypeId)
 (ho:o.op=.call { callee:=.builtin .append,args:=#[s,x],argTypes:=#[t,t]})
 (base:Nat) (e:TypeId) (i:TypeInfo) (z:Value) (size bytes:Nat) (ht:P.underlying t=some (.slice e)) (hi:P.info? e=some i) (hz:i.zero=some z)
 (zO:i.size=size) (Ge:i.bytes=bytes) (X6:z.cells.size=size) (hsz:0<size)
 (v:Value) (n:Nat) (xs:List Value) (hs:a.eval s=v) (aa:w.ownsRow base e size v n xs)
 (B:Nat) (A:Option Addr) (m c:Nat) (news:List Value) (hx:a.eval x=.slice A m c) (hr:Reads w B size A m news) (h1:∀u∈news,u.oneCell'=true)
 (h63:n+m<=maxLen) (xb:(n+m)*bytes<=140737488355328) (rO:base<=w.heap.size)
 (h:∀v' w',w'.ownsRow base e size v' (n+m) (xs++news)->w.grownBy w' v.ownBlock->(v'.ownBlock=v.ownBlock∨v'.ownBlock=some w.heap.size)->K (a.put o.dst v') w'):
 if Region.wanted o (yielded ops a.tmps)=true then Oper.wp P o a w K Q else E:=by
 have hw:Region.wanted o (yielded ops a.tmps)=true:=by simp [Region.wanted,hgd]
 rw [aM hw];exact zF w s x t ho base e i z size bytes ht hi hz zO Ge X6 hsz v n xs hs aa B A m c news hx hr h1 h63 xb rO h
end
def bA (w:World) (e:TypeId) (hb:base<=w.heap.size):(w.alloc (.cells #[] e)).ownsRow base e 1 (.slice (some ⟨w.heap.size,0,none⟩) 0 0) 0 []:=by
 have:=UB (e:=e) (size:=1) w #[] 0 hb (by unfold maxLen;omega) (by simp);simpa using this
def Le (w:World) (u:Value) (t:TypeId):(w.alloc (.cells #[u] t)).cell? ⟨w.heap.size,0,none⟩=some u:=by
 rw [dQ _ _ 0 #[u] t (0,0) (bM w _)];rfl
def vA (w:World) (o:Obj) (u:Value) (t:TypeId):((w.alloc o).alloc (.cells #[u] t)).cell? ⟨w.heap.size+1,0,none⟩=some u:=by
 simp
def u9 (w:World) (o:Obj) (u:Value) (t:TypeId):((w.alloc (.cells #[u] t)).alloc o).cell? ⟨w.heap.size,0,none⟩=some u:=by
 rw [vt _ _ _ (by simp)];exact Le w u t
def Ints.reads {A:Option Addr} (h:Ints w A n xs):Reads w w.heap.size 1 A n (ints xs):=
 ⟨by rw [qg,h.len,bl],fun hn=>by
   obtain ⟨b,o,rfl,hb,hc⟩:=h.at_ hn;refine ⟨_,rfl,hb,fun j u hu=> ?_⟩;have hj:j<xs.length:=by
    have:=(F3.1 hu).1;rwa [qg] at this
   rw [qh hj] at hu;injection hu with hu
   subst hu;rw [j5];exact hc j (by rw [<- h.len];exact hj)⟩
def oN {k:IntKind} {a b:Int}(h:a=b):Ending.returned (.int k a)=.returned (.int k b):=by rw [h]
def qQ {a b:Bool}(h:a=b):Ending.returned (.bool a)=.returned (.bool b):=by rw [h]
def gG {a:Nat} 
 (h:Calls P f args (w.drewN (a+n)) fun e w'=>e=.returned v∧w.drewN (a+n)=w'):
 Calls P f args (w.drewN (a+n)) fun e w''=>e=.returned v∧∃m,w''=w.drewN (a+m):=
 h.mono fun _ _ ⟨he,hm⟩=>⟨he,n,hm.symm⟩
def jf 
 (h:Calls P f args (w.drewN n) fun e w'=>e=.returned v∧w.drewN n=w'):Calls P f args (w.drewN n) fun e w''=>e=.returned v∧∃m,w''=w.drewN m:=
 h.mono fun _ _ ⟨he,hm⟩=>⟨he,n,hm.symm⟩
def xK 
 (h:Calls P f args (w.drewN n) fun e w'=>e=.returned v∧∃k,w'=(w.drewN n).drewN k):Calls P f args (w.drewN n) fun e w''=>e=.returned v∧∃m,w''=w.drewN m:=
 h.mono fun _ _ ⟨he,k,hm⟩=>⟨he,n+k,by rw [hm,fJ]⟩
def oP {a:Nat} 
 (h:Calls P f args (w.drewN (a+n)) fun e w'=>e=.returned v∧∃k,w'=(w.drewN (a+n)).drewN k):Calls P f args (w.drewN (a+n)) fun e w''=>e=.returned v∧∃m,w''=w.drewN (a+m):=
 h.mono fun _ _ ⟨he,k,hm⟩=>⟨he,n+k,by rw [hm,fJ,jb]⟩
