import Derived.Test.YtehcoffbiplphaaGreatRows
import Derived.Deep.RegionHeld3
import Derived.Deep.DrawnRows
import Derived.Test.YtehcoffbiplphaaGreatGAl
import Derived.WalkKit
import Derived.Deep.Matrix
import Derived.OpenShut
import Derived.Deep.AppendLies
import Derived.Deep.QuietTactic
set_option linter.all false
namespace Go.Proofs.YtehcoffbiplphaaGreat
open Go.RowKit
variable {n i B sz base:Nat} {w a w':World} {p:Prop} {xs ys:List Int} {P:Program} {t e:TypeId} {v:Value} {f:FuncId} {args:Array Value}
def vg:=@World.cell?_alloc_lt
def Sz:=@Value.slice.injEq
def dA:=@cell_of_row
def bO:=@heap_alloc_new
def abY:=@toList_madeCells_one
def EJ:=@Below.heap_setCell
def xg:=@run_underlying
def Sy:=@World.ownsRow_lit
def kI:=@Go.WideShapes.add_plain
def fJ:=@World.drewN_drewN
def bR:=@IntWalk.i64_in
def dJ:=@info_parts
def NF:=@u64_or_nat
def aJ:=@World.size_alloc
def abX:=@grownCap_le_maxLen
def xd:=@heap_alloc_old
def Sx:=@setRow_heap
def NC:=@World.ownsRow.alloc
def su:=@step_append_lies
def gK:=@World.news_of_block
def nv:=@wpList_append_lies
def abW:=@run_callFunc_extern
def alH:=@run_max_int2
def NB:=@run_append_lies
def ax:=@bodyPost_ret
def cI:=@results_cell_row
def nu:=@World.ownsRow_nil
def iF:=@World.cell?_setCell_other
def Sw:=@IntWalk.u64_in
def NA:=@results_tmp3
def Iw:=@run_loadVar_row
def Sv:=@World.cell?_spot
def M9:=@World.frozen?_setCell
def abV:=@World.cell?_setCell_same
def Su:=@WideAt.sameKey_eq
def abU:=@WideAt.sameKey_self
def EI:=@Below.grown
def EH:=@World.ownsRow.lt
def Ss:=@trodAll_cons_mk
def aK:n<=n:=Nat.le_refl n
def aW {H:Nat}:Below H w w:=Below.refl H w
def bAl (o:Obj):Below w.heap.size w (w.alloc o):=(Below.refl _ w).alloc (Nat.le_refl _) o
def aA (h:p):Hid p:=h
abbrev aC:=Calls Tryz.prog
attribute [go_sem ↓] Go.wp_at_zero Go.wp_at_succ
def _root_.Go.RowKit.Hid.o (h:Hid p):p:=h
def _root_.Go.Shut.o (h:Shut p):p:=h
def _root_.Go.RowKit.Below.tm {w0 w1 w2:World}(h:Below w0.heap.size w0 w1) (k:Below w1.heap.size w1 w2):Below w0.heap.size w0 w2:=h.trans (k.mono h.size)
def nth (xs:List Int) (i:Nat):Int:=xs.getD i 0
def gJ (h:i<xs.length):nth xs i=xs[i]:=by unfold nth;simp [List.getD,h]
def cW (h:xs.length<=i):nth xs i=0:=by unfold nth;simp [List.getD,h]
def iX (h:i<xs.length) (v:Int) (j:Nat):nth (xs.set i v) j=if j=i then v else nth xs j:=by
 unfold nth;simp only [List.getD,List.getElem?_set];by_cases e:j=i
 . subst e;simp [h]
 . rw [af (fun h=>e h.symm),af e]
def nE (h:i<xs.length):nth (xs++ys) i=nth xs i:=by unfold nth;simp [List.getD,Sr h]
def nH (h:xs.length<=i):nth (xs++ys) i=nth ys (i-xs.length):=by unfold nth;simp [List.getD,CK h]
def oT (hl:xs.length=ys.length) (h:∀i,i<xs.length->nth xs i=nth ys i):xs=ys:=by
 apply alG hl;intro i h1 h2;have:=h i h1;rwa [gJ h1,gJ h2] at this
def Jh (n:Nat) (f:Nat->Int) (i:Nat):nth ((List.range n).map f) i=if i<n then f i else 0:=by
 unfold nth;by_cases h:i<n<;>simp [List.getD,h]
def iK (h:i<xs.length):nth xs i∈xs:=by rw [gJ h];exact bw h
def tab (n:Nat) (f:Nat->Int):List Int:=(List.range n).map f
@[simp] def Qp (n:Nat) (f:Nat->Int):(tab n f).length=n:=by simp [tab]
def adX (n:Nat) (f:Nat->Int) (i:Nat):nth (tab n f) i=if i<n then f i else 0:=Jh n f i
def C7 (a:Int):Prop:= -9223372036854775808<=a∧a<=9223372036854775807
def ints (xs:List Int):List Value:=xs.map (Value.int .i64)
def qp (xs:List Int):(ints xs).length=xs.length:=by simp [ints]
def sZ (h:i<xs.length):(ints xs)[i]? =some (.int .i64 (nth xs i)):=by
 simp [ints,gJ h,h]
def FA (xs ys:List Int):ints (xs++ys)=ints xs++ints ys:=by simp [ints]
def ints_set (xs:List Int) (i:Nat) (v:Int):(ints xs).set i (.int .i64 v)=ints (xs.set i v):=by simp [ints,JE]
structure Ints (w:World) (A:Option Addr) (n:Nat) (xs:List Int):Prop where
 len:xs.length=n
 at_:0<n->∃b o,A=some ⟨b,o,none⟩∧b<w.heap.size∧∀i,i<n->w.cell? ⟨b,o+i,none⟩=some (.int .i64 (nth xs i))
 ok:∀i,C7 (nth xs i)
def C7.zero:C7 0:=by constructor<;>decide
section
variable {w w' : World} {A : Option Addr} {n : Nat} {xs : List Int}
def Ints.keep (h:Ints w A n xs) (hs:w.heap.size<=w'.heap.size) (hk:∀p:Addr,p.block<w.heap.size->w'.cell? p=w.cell? p):Ints w' A n xs:=
 ⟨h.len,fun hn=>by
   obtain ⟨b,o,e,hb,hc⟩:=h.at_ hn;exact ⟨b,o,e,by omega,fun i hi=>(hk ⟨b,o+i,none⟩ hb).trans (hc i hi)⟩,h.ok⟩
def Ints.below (h:Ints w A n xs) {B:Nat}(hb:Below B w w') (hB:w.heap.size<=B):Ints w' A n xs:=h.keep hb.size fun _ hp=>hb.cell (by omega)
def Ints.aB (h:Ints w A n xs) (hb:Below w.heap.size w w'):Ints w' A n xs:=h.below hb (Nat.le_refl _)
def Ints.drewN (h:Ints w A n xs) (k:Nat):Ints (w.drewN k) A n xs:=⟨h.len,h.at_,h.ok⟩
def Ints.alloc (h:Ints w A n xs) (o:Obj):Ints (w.alloc o) A n xs:=h.keep (by simp) fun p hp=>vg w o p hp
def Ints.gi {base:Nat} {e:TypeId} {c:Nat}(h:w.ownsRow base e 1 (.slice A n c) n (ints xs)) (lH:∀i,C7 (nth xs i)):Ints w A n xs:=by
 have hl:=h.1;rw [qp,bg] at hl;refine ⟨hl,fun hn=> ?_,lH⟩;rcases h.2 with ⟨h',h0⟩ | ⟨g,cap,cur,hv,_,hg,ig,wS,hcs,Kq⟩
 . omega
 . simp only [Sz] at hv
   obtain ⟨rfl,_,rfl⟩:=hv;refine ⟨g,0,rfl,(jf.1 hg).1,fun i hi=> ?_⟩;rw [ct,dA w g i cur e (0,0) hg];have:=sZ (xs:=xs) (i:=i) (by omega);rw [<- Kq,Vj,aM (by omega)] at this;simpa using this
end
def Row (w:World) (g:Nat) (t:TypeId) (xs:List Int):Prop:=w.heap[g]? =some (.cells (ints xs).toArray t (0,0))
section
variable {w w' : World} {g : Nat} {t : TypeId} {xs : List Int}
def Row.lt (h:Row w g t xs):g<w.heap.size:=(jf.1 h).1
def Row.cell (h:Row w g t xs) {i:Nat}(hi:i<xs.length):w.cell? ⟨g,i,none⟩=some (.int .i64 (nth xs i)):=by
 rw [dA w g i _ t (0,0) h];have:=sZ hi;simpa using this
def Row.frozen (h:Row w g t xs) (i:Nat):w.frozen? ⟨g,i,none⟩=false:=by
 unfold Row at h;simp [World.frozen?,h]
def Row.drew (h:Row w g t xs):Row w.drew g t xs:=h
def Row.set (h:Row w g t xs) (i:Nat) (v:Int):Row (w.setCell ⟨g,i,none⟩ (.int .i64 v)) g t (xs.set i v):=by
 unfold Row at h ⊢;simp [World.setCell,wI,h,<- ints_set]
def Row.below {B:Nat}(h:Row w g t xs) (hb:Below B w w') (hg:g<B):Row w' g t xs:=(hb.block g hg).trans h
def Row.aB (h:Row w g t xs) (hb:Below w.heap.size w w'):Row w' g t xs:=h.below hb h.lt
def Row.new (w:World) (t:TypeId) (xs:List Int):Row (w.alloc (.cells (ints xs).toArray t)) w.heap.size t xs:=bO w _
def Row.ints (h:Row w g t xs) (lH:∀i,C7 (nth xs i)):Ints w (some ⟨g,0,none⟩) xs.length xs:=
 ⟨rfl,fun _=>⟨g,0,rfl,h.lt,fun i hi=>by rw [ct];exact h.cell hi⟩,lH⟩
end
def yx {i:TypeInfo}(ht:P.underlying t=some (.slice e)) (hi:P.info? e=some i) (hz:i.zero=some (.int .i64 0)) (hs:i.size=1) (hb:i.bytes=8)
 (n:Nat) (hn:n*8<=281474976710656) (w:World):
 (Instr.makeSlice t (.int .i64 (n:Int)) (.int .i64 (n:Int))).run P w=.ok (.slice (some ⟨w.heap.size,0,none⟩) n n) (w.alloc (.cells (ints (List.replicate n 0)).toArray e)):=by
 have hr:=run_make (P:=P) w t e i (.int .i64 0) ht hi hz .i64 .i64 n n (by omega) (by omega) (by rw [hb];omega) (by omega);have e1:madeCells (Value.int .i64 0).cells (n*1)=(ints (List.replicate n 0)).toArray:=by
  apply Array.toList_inj.1;show (madeCells #[Value.int .i64 0] (n*1)).toList=_;rw [abY,bg];simp [ints]
 simp only [jY,hs] at hr;rw [hr,e1]
def yT {xs:List Value} {o:Obj}(h:Below B a w) (aY:w.ownsRow B t sz v n xs) (hg:(w.alloc o).drew.grownBy w' v.ownBlock) (hB:B<=w.heap.size):Below B a w':=
 ((h.alloc hB o).drew).grown hg (by simp;omega) (fun k hk=>(aY.lt k hk).1)
def pQ {xs:List Value} {o:Obj}(h:Below B a w) (aY:w.ownsRow B t sz v n xs) (hg:(w.alloc o).grownBy w' v.ownBlock) (hB:B<=w.heap.size):Below B a w':=
 (h.alloc hB o).grown hg (by simp;omega) (fun k hk=>(aY.lt k hk).1)
def Ue {xs:List Value}(h:w.ownsRow base e sz v n xs) (hb:Below w.heap.size w w'):w'.ownsRow base e sz v n xs:=by
 refine ⟨h.1,?_⟩;rcases h.2 with h2 | ⟨g,cap,cur,hv,hg,hh,r⟩
 . exact .inl h2
 . exact .inr ⟨g,cap,cur,hv,hg,(hb.block g (jf.1 hh).1).trans hh,r⟩
def gQ {xs:List Value}(h:w.ownsRow base e sz v n xs):w.drew.ownsRow base e sz v n xs:=h
def below_drewN (h:Below B a w) (n:Nat):Below B a (w.drewN n):=⟨h.os,h.tape,h.output,h.size,h.block⟩
def eM {xs:List Value}(aY:w'.ownsRow base t 1 v n xs):∃A c,v=.slice A n c:=by
 rcases aY.2 with ⟨hv,h0⟩ | ⟨g,cap,cur,hv,_⟩
 . exact ⟨none,0,by rw [hv,h0]⟩
 . exact ⟨_,_,hv⟩
structure Only (S:Nat->Prop) (w w':World):Prop where
 os:w'.os=w.os
 tape:w'.tape=w.tape
 output:w'.output=w.output
 size:w.heap.size<=w'.heap.size
 block:∀k,k<w.heap.size->¬S k->w'.heap[k]? =w.heap[k]?
section
variable {S T : Nat -> Prop} {w w' w'' : World}
def Only.refl (S:Nat->Prop) (w:World):Only S w w:=⟨rfl,rfl,rfl,Nat.le_refl _,fun _ _ _=>rfl⟩
def Only.trans (h:Only S w w') (k:Only S w' w''):Only S w w'':=
 ⟨k.os.trans h.os,k.tape.trans h.tape,k.output.trans h.output,aH h.size k.size,fun i hi hs=>(k.block i (gh hi h.size) hs).trans (h.block i hi hs)⟩
def Only.mono (h:Only S w w') (hs:∀k,S k->T k):Only T w w':=⟨h.os,h.tape,h.output,h.size,fun k hk ht=>h.block k hk (fun wO=>ht (hs k wO))⟩
def Only.setCell (h:Only S w w') {p:Addr}(hp:S p.block) (u:Value):Only S w (w'.setCell p u):=
 ⟨h.os,h.tape,h.output,by simpa [World.setCell] using h.size,fun k hk hs=>(EJ w' p u k (fun e=>hs (by rw [e];exact hp))).trans (h.block k hk hs)⟩
def Only.drewN (h:Only S w w') (n:Nat):Only S w (w'.drewN n):=⟨h.os,h.tape,h.output,h.size,h.block⟩
def Only.alloc (h:Only S w w') (o:Obj):Only S w (w'.alloc o):=
 ⟨h.os,h.tape,h.output,aH h.size (by simp),fun k hk hs=>(Below.heap_alloc _ _ _ (gh hk h.size)).trans (h.block k hk hs)⟩
def Only.cell (h:Only S w w') {p:Addr}(hp:p.block<w.heap.size) (hs:¬S p.block):w'.cell? p=w.cell? p:=World.cell?_of_block (h.block _ hp hs)
def Only.below {B:Nat}(h:Only S w w') (hB:B<=w.heap.size) (hs:∀k,S k->B<=k):Below B w w':=
 ⟨h.os,h.tape,h.output,h.size,fun k hk=>h.block k (by omega) (fun h'=>by have:=hs k h';omega)⟩
def Only.bY {B:Nat}(h:Below B w w'):Only (fun k=>B<=k) w w':=⟨h.os,h.tape,h.output,h.size,fun k _ hs=>h.block k (by omega)⟩
def Only.fH {row:Option Nat}(h:w.grownBy w' row):Only (fun k=>row=some k) w w':=⟨h.os,h.tape,h.output,h.size,fun k hk hs=>h.block k hk (fun e=>hs e.symm)⟩
def Row.only {g:Nat} {t:TypeId} {xs:List Int}(h:Row w g t xs) (ho:Only S w w') (hs:¬S g):Row w' g t xs:=(ho.block g h.lt hs).trans h
end
def CD (a:Addr) (n:Nat):(a.add n).block=a.block:=by unfold Addr.add;split<;>rfl
def Sk (a:Addr) (i j:Nat):(a.add i).add j=a.add (i+j):=by
 unfold Addr.add;by_cases hi:i=0<;>by_cases hj:j=0<;>simp [hi,hj,j9]
def Reads (w:World) (B size:Nat) (A:Option Addr) (n:Nat) (xs:List Value):Prop:=
 xs.length=n*size∧(0<n->∃ad,A=some ad∧ad.block<B∧∀j u,xs[j]? =some u->w.cell? (ad.add j)=some u)
section
variable {w w' : World} {B B' size n : Nat} {A : Option Addr} {xs : List Value}
def Reads.keep (h:Reads w B size A n xs) (hk:∀p:Addr,p.block<B->w'.cell? p=w.cell? p):Reads w' B size A n xs:=
 ⟨h.1,fun hn=>by
   obtain ⟨ad,e,hb,hc⟩:=h.2 hn;exact ⟨ad,e,hb,fun j u hu=>(hk _ (by rw [CD];exact hb)).trans (hc j u hu)⟩⟩
def Reads.below (h:Reads w B size A n xs) (hb:Below B w w'):Reads w' B size A n xs:=h.keep fun _ hp=>hb.cell hp
def Reads.alloc (h:Reads w B size A n xs) (hB:B<=w.heap.size) (o:Obj):Reads (w.alloc o) B size A n xs:=h.keep fun p hp=>vg w o p (by omega)
def Reads.cut (h:Reads w B size A n xs) {k cap:Nat}(hk:k<=n) (hc:n<=cap):
 Reads w B size (if cap=k then A else A.map (·.add (k*size))) (n-k) (xs.drop (k*size)):=by
 refine ⟨by rw [xh,h.1,Nat.sub_mul],fun hn=> ?_⟩;obtain ⟨ad,rfl,hb,hcell⟩:=h.2 (by omega);rw [af (by omega)];refine ⟨ad.add (k*size),rfl,by rw [CD];exact hb,fun j u hu=> ?_⟩;rw [Sk];exact hcell _ u (by rw [<- hu,acf])
end
section
variable {P : Program} (w : World)
def AW (base:Nat) (t ty e:TypeId) (i:TypeInfo) (size:Nat) (ht:P.underlying t=some (.slice e)) (hi:P.info? e=some i)
 (v:Value) (n:Nat) (xs:List Value) (aY:w.ownsRow base e size v n xs) (c:Nat):(Builtin.append_ #[t,t] ty #[v,.slice none 0 c]).run P w=.ok v w:=by
 rcases aY.2 with ⟨rfl,rfl⟩ | ⟨g,cap,cur,rfl,_,_,ig,_⟩
 . simp [Builtin.append_,xg ht,Go.sizeOf,typeInfo,hi,Builtin.lenOf,Builtin.firstCells]
 . simp [Builtin.append_,xg ht,Go.sizeOf,typeInfo,hi,Builtin.lenOf,Builtin.firstCells,ig,storeCells]
def GY (base:Nat) (t ty e:TypeId) (i:TypeInfo) (z:Value) (size bytes:Nat) (ht:P.underlying t=some (.slice e)) (hi:P.info? e=some i) (hz:i.zero=some z)
 (y9:i.size=size) (GA:i.bytes=bytes) (XC:z.cells.size=size) (hsz:0<size)
 (v:Value) (n:Nat) (xs:List Value) (aY:w.ownsRow base e size v n xs)
 (B:Nat) (A:Option Addr) (m c:Nat) (news:List Value) (hr:Reads w B size A m news) (h1:∀u∈news,u.oneCell'=true)
 (h63:n+m<=maxLen) (xV:(n+m)*bytes<=140737488355328) (rN:base<=w.heap.size):
 ∃v' w',(Builtin.append_ #[t,t] ty #[v,.slice A m c]).run P w=.ok v' w'∧w'.ownsRow base e size v' (n+m) (xs++news)∧w.grownBy w' v.ownBlock∧
  (v'.ownBlock=v.ownBlock∨v'.ownBlock=some w.heap.size):=by
 rcases A with _ | ad
 . have hm:m=0:=by
    rcases jJ m with h0 | h0
    . exact h0
    . obtain ⟨ad,h,_⟩:=hr.2 h0
      cases h
   subst hm;have hn:news=[]:=lz (by simpa using hr.1);subst hn;exact ⟨v,w,AW w base t ty e i size ht hi v n xs aY c,by simpa using aY,World.grownBy.refl w _,.inl rfl⟩
 . have SC:∀j u,news[j]? =some u->w.cell? (ad.add j)=some u:=by
    intro j u hu;rcases jJ m with h0 | h0
    . subst h0
      have hn:news=[]:=lz (by simpa using hr.1);subst hn;simp at hu
    . obtain ⟨ad',h,_,hc⟩:=hr.2 h0
      injection h with h
      subst h;exact hc j u hu
   obtain ⟨v',w',hrun,h2,h3,_,h5⟩:=run_append_own_at (P:=P) w base t ty e i z size bytes ht hi hz y9 GA XC hsz v n xs aY ad m c news hr.1 SC h1 h63 xV rN;exact ⟨v',w',hrun,h2,h3,h5⟩
def yt {o:Oper} {a:Act} {K:Act->World->Prop} {Q:Exit->Act->World->Prop}(s x:Operand) (t:TypeId)
 (ho:o.op=.call { callee:=.builtin .append,args:=#[s,x],argTypes:=#[t,t]})
 (base:Nat) (e:TypeId) (i:TypeInfo) (z:Value) (size bytes:Nat) (ht:P.underlying t=some (.slice e)) (hi:P.info? e=some i) (hz:i.zero=some z)
 (y9:i.size=size) (GA:i.bytes=bytes) (XC:z.cells.size=size) (hsz:0<size)
 (v:Value) (n:Nat) (xs:List Value) (hs:a.eval s=v) (aY:w.ownsRow base e size v n xs)
 (B:Nat) (A:Option Addr) (m c:Nat) (news:List Value) (hx:a.eval x=.slice A m c) (hr:Reads w B size A m news) (h1:∀u∈news,u.oneCell'=true)
 (h63:n+m<=maxLen) (xV:(n+m)*bytes<=140737488355328) (rN:base<=w.heap.size)
 (h:∀v' w',w'.ownsRow base e size v' (n+m) (xs++news)->w.grownBy w' v.ownBlock->(v'.ownBlock=v.ownBlock∨v'.ownBlock=some w.heap.size)->K (a.put o.dst v') w'):o.wp P a w K Q:=by
 obtain ⟨v',w',hrun,h2,h3,h4⟩:=GY (P:=P) w base t o.type e i z size bytes ht hi hz y9 GA XC hsz v n xs aY B A m c news hr h1 h63 xV rN;unfold Oper.wp execOp;simp only [ho,resolve,invoke,builtin,Sem.run_bind,Sem.run_pure,Result.andThen_ok,List.map_toArray,vB,List.map_nil,hs,hx,hrun];exact h v' w' h2 h3 h4
def bN {ops:Array Oper} {rest:List Oper} {o:Oper} {a:Act} {Q:Exit->Act->World->Prop}(hgd:o.guard=none) (s x:Operand) (t:TypeId)
 (ho:o.op=.call { callee:=.builtin .append,args:=#[s,x],argTypes:=#[t,t]})
 (base:Nat) (e:TypeId) (i:TypeInfo) (z:Value) (size bytes:Nat) (ht:P.underlying t=some (.slice e)) (hi:P.info? e=some i) (hz:i.zero=some z)
 (y9:i.size=size) (GA:i.bytes=bytes) (XC:z.cells.size=size) (hsz:0<size)
 (v:Value) (n:Nat) (xs:List Value) (hs:a.eval s=v) (aY:w.ownsRow base e size v n xs)
 (B:Nat) (A:Option Addr) (m c:Nat) (news:List Value) (hx:a.eval x=.slice A m c) (hr:Reads w B size A m news) (h1:∀u∈news,u.oneCell'=true)
 (h63:n+m<=maxLen) (xV:(n+m)*bytes<=140737488355328) (rN:base<=w.heap.size)
 (h:∀v' w',w'.ownsRow base e size v' (n+m) (xs++news)->w.grownBy w' v.ownBlock->(v'.ownBlock=v.ownBlock∨v'.ownBlock=some w.heap.size)->wpList P ops Q rest (a.put o.dst v') w'):wpList P ops Q (o::rest) a w:=
 wpList_plain hgd fun _ hK=>yt w s x t ho base e i z size bytes ht hi hz y9 GA XC hsz v n xs hs aY B A m c news hx hr h1 h63 xV rN fun v' w' h2 h3 h4=>hK _ _ (h v' w' h2 h3 h4)
def dO {ops:Array Oper} {o:Oper} {a:Act} {K:Act->World->Prop} {Q:Exit->Act->World->Prop} {E:Prop}(hgd:o.guard=none) (s x:Operand) (t:TypeId)
 (ho:o.op=.call { callee:=.builtin .append,args:=#[s,x],argTypes:=#[t,t]})
 (base:Nat) (e:TypeId) (i:TypeInfo) (z:Value) (size bytes:Nat) (ht:P.underlying t=some (.slice e)) (hi:P.info? e=some i) (hz:i.zero=some z)
 (y9:i.size=size) (GA:i.bytes=bytes) (XC:z.cells.size=size) (hsz:0<size)
 (v:Value) (n:Nat) (xs:List Value) (hs:a.eval s=v) (aY:w.ownsRow base e size v n xs)
 (B:Nat) (A:Option Addr) (m c:Nat) (news:List Value) (hx:a.eval x=.slice A m c) (hr:Reads w B size A m news) (h1:∀u∈news,u.oneCell'=true)
 (h63:n+m<=maxLen) (xV:(n+m)*bytes<=140737488355328) (rN:base<=w.heap.size)
 (h:∀v' w',w'.ownsRow base e size v' (n+m) (xs++news)->w.grownBy w' v.ownBlock->(v'.ownBlock=v.ownBlock∨v'.ownBlock=some w.heap.size)->K (a.put o.dst v') w'):
 if Region.wanted o (yielded ops a.tmps)=true then Oper.wp P o a w K Q else E:=by
 have hw:Region.wanted o (yielded ops a.tmps)=true:=by simp [Region.wanted,hgd]
 rw [aM hw];exact yt w s x t ho base e i z size bytes ht hi hz y9 GA XC hsz v n xs hs aY B A m c news hx hr h1 h63 xV rN h
end
def bB (w:World) (e:TypeId) (hb:base<=w.heap.size):(w.alloc (.cells #[] e)).ownsRow base e 1 (.slice (some ⟨w.heap.size,0,none⟩) 0 0) 0 []:=by
 have:=Sy (e:=e) (size:=1) w #[] 0 hb (by unfold maxLen;omega) (by simp);simpa using this
def K4 (w:World) (u:Value) (t:TypeId):(w.alloc (.cells #[u] t)).cell? ⟨w.heap.size,0,none⟩=some u:=by
 rw [dA _ _ 0 #[u] t (0,0) (bO w _)];rfl
def pO (w:World) (o:Obj) (u:Value) (t:TypeId):((w.alloc o).alloc (.cells #[u] t)).cell? ⟨w.heap.size+1,0,none⟩=some u:=by
 simp
def pN (w:World) (o:Obj) (u:Value) (t:TypeId):((w.alloc (.cells #[u] t)).alloc o).cell? ⟨w.heap.size,0,none⟩=some u:=by
 rw [vg _ _ _ (by simp)];exact K4 w u t
def Ints.reads {A:Option Addr} (h:Ints w A n xs):Reads w w.heap.size 1 A n (ints xs):=
 ⟨by rw [qp,h.len,bg],fun hn=>by
   obtain ⟨b,o,rfl,hb,hc⟩:=h.at_ hn;refine ⟨_,rfl,hb,fun j u hu=> ?_⟩;have hj:j<xs.length:=by
    have:=(FU.1 hu).1;rwa [qp] at this
   rw [sZ hj] at hu;injection hu with hu
   subst hu;rw [kI];exact hc j (by rw [<- h.len];exact hj)⟩
def oN {k:IntKind} {a b:Int}(h:a=b):Ending.returned (.int k a)=.returned (.int k b):=by rw [h]
def AX {a b:Bool}(h:a=b):Ending.returned (.bool a)=.returned (.bool b):=by rw [h]
def fh {a:Nat} 
 (h:Calls P f args (w.drewN (a+n)) fun e w'=>e=.returned v∧w.drewN (a+n)=w'):
 Calls P f args (w.drewN (a+n)) fun e w''=>e=.returned v∧∃m,w''=w.drewN (a+m):=
 h.mono fun _ _ ⟨he,hm⟩=>⟨he,n,hm.symm⟩
def ja 
 (h:Calls P f args (w.drewN n) fun e w'=>e=.returned v∧w.drewN n=w'):Calls P f args (w.drewN n) fun e w''=>e=.returned v∧∃m,w''=w.drewN m:=
 h.mono fun _ _ ⟨he,hm⟩=>⟨he,n,hm.symm⟩
def rQ {a:Nat} 
 (h:Calls P f args (w.drewN (a+n)) fun e w'=>e=.returned v∧∃k,w'=(w.drewN (a+n)).drewN k):Calls P f args (w.drewN (a+n)) fun e w''=>e=.returned v∧∃m,w''=w.drewN (a+m):=
 h.mono fun _ _ ⟨he,k,hm⟩=>⟨he,n+k,by rw [hm,fJ,j9]⟩
