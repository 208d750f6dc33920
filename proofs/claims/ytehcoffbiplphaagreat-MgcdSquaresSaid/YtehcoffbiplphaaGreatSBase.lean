/- Words on memory: a slice that reads as a list of whole numbers; a block that is known whole; what is kept.
   An append onto a row of the call's own, whatever its source (after the guide's plain theorems to copy).
   A block whose first cells are numbers, with room behind them: what an append leaves, stored into.
   Small facts that the walks want: bits of whole numbers, results. -/
import Derived.WalkKit
import Derived.Deep.Draws
import Derived.Deep.Slices
import Derived.Deep.Matrix
import Derived.Laws.Rows
import Derived.Laws.OwnMore
import Derived.OpenShut
import Derived.Maps.AppendAt
import Derived.Deep.AppendLies
import Derived.RegionTactic
import Derived.OwnWalk
import Derived.Laws.BitsAllLaws
import Derived.Laws.BitsLemmas
import Derived.Deep.QuietTactic
set_option linter.unusedVariables false
set_option linter.unusedSimpArgs false
namespace Cl
open Go Go.RowKit
theorem lRr {n:Nat}:n≤n:=Nat.le_refl n
theorem bRr {H:Nat} {w:World}:Below H w w:=Below.refl H w
theorem bAl {w:World} (o:Obj):Below w.heap.size w (w.alloc o):=(Below.refl _ w).alloc (Nat.le_refl _) o
theorem hiD {p:Prop}(h:p):Hid p:=h
theorem _root_.Go.RowKit.Below.tm {w0 w1 w2:World}(h:Below w0.heap.size w0 w1) (k:Below w1.heap.size w1 w2):Below w0.heap.size w0 w2:=h.trans (k.mono h.size)
def nth (xs:List Int) (i:Nat):Int:=xs.getD i 0
theorem nth_lt {xs:List Int} {i:Nat}(h:i<xs.length):nth xs i=xs[i]:=by unfold nth;simp [List.getD,h]
theorem nth_ge {xs:List Int} {i:Nat}(h:xs.length≤i):nth xs i=0:=by unfold nth;simp [List.getD,h]
theorem nth_set {xs:List Int} {i:Nat}(h:i<xs.length) (v:Int) (j:Nat):nth (xs.set i v) j=if j=i then v else nth xs j:=by
 unfold nth
 simp only [List.getD,List.getElem?_set]
 by_cases e:j=i
 · subst e;simp [h]
 · rw [if_neg (fun h=>e h.symm),if_neg e]
theorem nth_append_lt {xs ys:List Int} {i:Nat}(h:i<xs.length):nth (xs++ys) i=nth xs i:=by unfold nth;simp [List.getD,List.getElem?_append_left h]
theorem nth_append_ge {xs ys:List Int} {i:Nat}(h:xs.length≤i):nth (xs++ys) i=nth ys (i - xs.length):=by unfold nth;simp [List.getD,List.getElem?_append_right h]
theorem list_ext {xs ys:List Int}(hl:xs.length=ys.length) (h:∀i,i<xs.length→nth xs i=nth ys i):xs=ys:=by
 apply List.ext_getElem hl
 intro i h1 h2
 have:=h i h1
 rwa [nth_lt h1,nth_lt h2] at this
theorem nth_mem {xs:List Int} {i:Nat}(h:i<xs.length):nth xs i∈xs:=by rw [nth_lt h];exact List.getElem_mem h
def I64 (a:Int):Prop:= -9223372036854775808≤a∧a≤9223372036854775807
def ints (xs:List Int):List Value:=xs.map (Value.int .i64)
theorem ints_length (xs:List Int):(ints xs).length=xs.length:=by simp [ints]
theorem ints_get {xs:List Int} {i:Nat}(h:i<xs.length):(ints xs)[i]? =some (.int .i64 (nth xs i)):=by
 simp [ints,nth_lt h,h]
theorem ints_set (xs:List Int) (i:Nat) (v:Int):(ints xs).set i (.int .i64 v)=ints (xs.set i v):=by simp [ints,List.map_set]
structure Ints (w:World) (A:Option Addr) (n:Nat) (xs:List Int):Prop where
 len:xs.length=n
 at_:0<n→∃b o,A=some ⟨b,o,none⟩∧b<w.heap.size∧∀i,i<n→w.cell? ⟨b,o+i,none⟩=some (.int .i64 (nth xs i))
 ok:∀i,I64 (nth xs i)
theorem I64.zero:I64 0:=by constructor<;>decide
theorem allI64_nth {xs:List Int}(h:∀x∈xs,I64 x) (i:Nat):I64 (nth xs i):=by
 by_cases hi:i<xs.length
 · rw [nth_lt hi];exact h _ (List.getElem_mem hi)
 · rw [nth_ge (by omega)];exact I64.zero
section
variable {w w' : World} {A : Option Addr} {n : Nat} {xs : List Int}
theorem Ints.keep (h:Ints w A n xs) (hs:w.heap.size≤w'.heap.size) (hk:∀p:Addr,p.block<w.heap.size→w'.cell? p=w.cell? p):Ints w' A n xs:=
 ⟨h.len,fun hn=>by
   obtain ⟨b,o,e,hb,hc⟩:=h.at_ hn;exact ⟨b,o,e,by omega,fun i hi=>(hk ⟨b,o+i,none⟩ hb).trans (hc i hi)⟩,h.ok⟩
theorem Ints.below (h:Ints w A n xs) {B:Nat}(hb:Below B w w') (hB:w.heap.size≤B):Ints w' A n xs:=h.keep hb.size fun _ hp=>hb.cell (by omega)
theorem Ints.bel (h:Ints w A n xs) (hb:Below w.heap.size w w'):Ints w' A n xs:=h.below hb (Nat.le_refl _)
theorem Ints.drewN (h:Ints w A n xs) (k:Nat):Ints (w.drewN k) A n xs:=⟨h.len,h.at_,h.ok⟩
theorem Ints.alloc (h:Ints w A n xs) (o:Obj):Ints (w.alloc o) A n xs:=h.keep (by simp) fun p hp=>World.cell?_alloc_lt w o p hp
theorem Ints.of_own {base:Nat} {e:TypeId} {c:Nat}(h:w.ownsRow base e 1 (.slice A n c) n (ints xs)) (hok:∀i,I64 (nth xs i)):Ints w A n xs:=by
 have hl:=h.1
 rw [ints_length,Nat.mul_one] at hl
 refine ⟨hl,fun hn=> ?_,hok⟩
 rcases h.2 with ⟨h',h0⟩ | ⟨g,cap,cur,hv,_,hg,hnc,hcm,hcs,htake⟩
 · omega
 · simp only [Value.slice.injEq] at hv
   obtain ⟨rfl,_,rfl⟩:=hv;refine ⟨g,0,rfl,(Array.getElem?_eq_some_iff.1 hg).1,fun i hi=> ?_⟩;rw [Nat.zero_add,cell_of_row w g i cur e (0,0) hg];have:=ints_get (xs:=xs) (i:=i) (by omega);rw [← htake,List.getElem?_take,if_pos (by omega)] at this;simpa using this
end
def Row (w:World) (g:Nat) (t:TypeId) (xs:List Int):Prop:=w.heap[g]? =some (.cells (ints xs).toArray t (0,0))
section
variable {w w' : World} {g : Nat} {t : TypeId} {xs : List Int}
theorem Row.lt (h:Row w g t xs):g<w.heap.size:=(Array.getElem?_eq_some_iff.1 h).1
theorem Row.cell (h:Row w g t xs) {i:Nat}(hi:i<xs.length):w.cell? ⟨g,i,none⟩=some (.int .i64 (nth xs i)):=by
 rw [cell_of_row w g i _ t (0,0) h]
 have:=ints_get hi
 simpa using this
theorem Row.frozen (h:Row w g t xs) (i:Nat):w.frozen? ⟨g,i,none⟩=false:=by
 unfold Row at h;simp [World.frozen?,h]
theorem Row.drew (h:Row w g t xs):Row w.drew g t xs:=h
theorem Row.set (h:Row w g t xs) (i:Nat) (v:Int):Row (w.setCell ⟨g,i,none⟩ (.int .i64 v)) g t (xs.set i v):=by
 unfold Row at h ⊢
 simp [World.setCell,Array.getElem?_modify,h,← ints_set]
theorem Row.below {B:Nat}(h:Row w g t xs) (hb:Below B w w') (hg:g<B):Row w' g t xs:=(hb.block g hg).trans h
theorem Row.bel (h:Row w g t xs) (hb:Below w.heap.size w w'):Row w' g t xs:=h.below hb h.lt
theorem Row.new (w:World) (t:TypeId) (xs:List Int):Row (w.alloc (.cells (ints xs).toArray t)) w.heap.size t xs:=heap_alloc_new w _
theorem Row.ints (h:Row w g t xs) (hok:∀i,I64 (nth xs i)):Ints w (some ⟨g,0,none⟩) xs.length xs:=
 ⟨rfl,fun _=>⟨g,0,rfl,h.lt,fun i hi=>by rw [Nat.zero_add];exact h.cell hi⟩,hok⟩
end
theorem run_make_ints {P:Program} {t e:TypeId} {i:TypeInfo}(ht:P.underlying t=some (.slice e)) (hi:P.info? e=some i) (hz:i.zero=some (.int .i64 0)) (hs:i.size=1) (hb:i.bytes=8)
 (n:Nat) (hn:n*8≤281474976710656) (w:World):
 (Instr.makeSlice t (.int .i64 (n:Int)) (.int .i64 (n:Int))).run P w=.ok (.slice (some ⟨w.heap.size,0,none⟩) n n) (w.alloc (.cells (ints (List.replicate n 0)).toArray e)):=by
 have hr:=run_make (P:=P) w t e i (.int .i64 0) ht hi hz .i64 .i64 n n (by omega) (by omega) (by rw [hb];omega) (by omega)
 have e1:madeCells (Value.int .i64 0).cells (n*1)=(ints (List.replicate n 0)).toArray:=by
  apply Array.toList_inj.1;show (madeCells #[Value.int .i64 0] (n*1)).toList=_;rw [toList_madeCells_one,Nat.mul_one];simp [ints]
 simp only [Int.toNat_natCast,hs] at hr
 rw [hr,e1]
theorem own_bel {w w':World} {base:Nat} {e:TypeId} {sz n:Nat} {v:Value} {xs:List Value}(h:w.ownsRow base e sz v n xs) (hb:Below w.heap.size w w'):w'.ownsRow base e sz v n xs:=by
 refine ⟨h.1,?_⟩
 rcases h.2 with h2 | ⟨g,cap,cur,hv,hg,hh,r⟩
 · exact .inl h2
 · exact .inr ⟨g,cap,cur,hv,hg,(hb.block g (Array.getElem?_eq_some_iff.1 hh).1).trans hh,r⟩
theorem below_drewN {B:Nat} {a w:World}(h:Below B a w) (n:Nat):Below B a (w.drewN n):=⟨h.os,h.tape,h.output,h.size,h.block⟩
theorem own_slice {w':World} {base:Nat} {t:TypeId} {v:Value} {n:Nat} {xs:List Value}(hown:w'.ownsRow base t 1 v n xs):∃A c,v=.slice A n c:=by
 rcases hown.2 with ⟨hv,h0⟩ | ⟨g,cap,cur,hv,_⟩
 · exact ⟨none,0,by rw [hv,h0]⟩
 · exact ⟨_,_,hv⟩
structure Only (S:Nat→Prop) (w w':World):Prop where
 os:w'.os=w.os
 tape:w'.tape=w.tape
 output:w'.output=w.output
 size:w.heap.size≤w'.heap.size
 block:∀k,k<w.heap.size→¬S k→w'.heap[k]? =w.heap[k]?
section
variable {S T : Nat → Prop} {w w' w'' : World}
theorem Only.refl (S:Nat→Prop) (w:World):Only S w w:=⟨rfl,rfl,rfl,Nat.le_refl _,fun _ _ _=>rfl⟩
theorem Only.trans (h:Only S w w') (k:Only S w' w''):Only S w w'':=
 ⟨k.os.trans h.os,k.tape.trans h.tape,k.output.trans h.output,Nat.le_trans h.size k.size,fun i hi hs=>(k.block i (Nat.lt_of_lt_of_le hi h.size) hs).trans (h.block i hi hs)⟩
theorem Only.mono (h:Only S w w') (hs:∀k,S k→T k):Only T w w':=⟨h.os,h.tape,h.output,h.size,fun k hk ht=>h.block k hk (fun hs'=>ht (hs k hs'))⟩
theorem Only.setCell (h:Only S w w') {p:Addr}(hp:S p.block) (u:Value):Only S w (w'.setCell p u):=
 ⟨h.os,h.tape,h.output,by simpa [World.setCell] using h.size,fun k hk hs=>(Below.heap_setCell w' p u k (fun e=>hs (by rw [e];exact hp))).trans (h.block k hk hs)⟩
theorem Only.drew (h:Only S w w'):Only S w w'.drew:=⟨h.os,h.tape,h.output,h.size,h.block⟩
theorem Only.drewN (h:Only S w w') (n:Nat):Only S w (w'.drewN n):=⟨h.os,h.tape,h.output,h.size,h.block⟩
theorem Only.alloc (h:Only S w w') (o:Obj):Only S w (w'.alloc o):=
 ⟨h.os,h.tape,h.output,Nat.le_trans h.size (by simp),fun k hk hs=>(Below.heap_alloc _ _ _ (Nat.lt_of_lt_of_le hk h.size)).trans (h.block k hk hs)⟩
theorem Only.cell (h:Only S w w') {p:Addr}(hp:p.block<w.heap.size) (hs:¬S p.block):w'.cell? p=w.cell? p:=World.cell?_of_block (h.block _ hp hs)
theorem Only.below {B:Nat}(h:Only S w w') (hB:B≤w.heap.size) (hs:∀k,S k→B≤k):Below B w w':=
 ⟨h.os,h.tape,h.output,h.size,fun k hk=>h.block k (by omega) (fun h'=>by have:=hs k h';omega)⟩
theorem Only.of_below {B:Nat}(h:Below B w w'):Only (fun k=>B≤k) w w':=⟨h.os,h.tape,h.output,h.size,fun k _ hs=>h.block k (by omega)⟩
theorem Only.of_grown {row:Option Nat}(h:w.grownBy w' row):Only (fun k=>row=some k) w w':=⟨h.os,h.tape,h.output,h.size,fun k hk hs=>h.block k hk (fun e=>hs e.symm)⟩
theorem Row.only {g:Nat} {t:TypeId} {xs:List Int}(h:Row w g t xs) (ho:Only S w w') (hs:¬S g):Row w' g t xs:=(ho.block g h.lt hs).trans h
end
end Cl
namespace Cl
open Go Go.RowKit
theorem block_of_add (a:Addr) (n:Nat):(a.add n).block=a.block:=by unfold Addr.add;split<;>rfl
def Reads (w:World) (B size:Nat) (A:Option Addr) (n:Nat) (xs:List Value):Prop:=
 xs.length=n*size∧(0<n→∃ad,A=some ad∧ad.block<B∧∀j u,xs[j]? =some u→w.cell? (ad.add j)=some u)
section
variable {w w' : World} {B B' size n : Nat} {A : Option Addr} {xs : List Value}
theorem Reads.keep (h:Reads w B size A n xs) (hk:∀p:Addr,p.block<B→w'.cell? p=w.cell? p):Reads w' B size A n xs:=
 ⟨h.1,fun hn=>by
   obtain ⟨ad,e,hb,hc⟩:=h.2 hn;exact ⟨ad,e,hb,fun j u hu=>(hk _ (by rw [block_of_add];exact hb)).trans (hc j u hu)⟩⟩
theorem Reads.below (h:Reads w B size A n xs) (hb:Below B w w'):Reads w' B size A n xs:=h.keep fun _ hp=>hb.cell hp
theorem Reads.alloc (h:Reads w B size A n xs) (hB:B≤w.heap.size) (o:Obj):Reads (w.alloc o) B size A n xs:=h.keep fun p hp=>World.cell?_alloc_lt w o p (by omega)
end
section
variable {P : Program} (w : World)
theorem run_append_of_nil (base:Nat) (t ty e:TypeId) (i:TypeInfo) (size:Nat) (ht:P.underlying t=some (.slice e)) (hi:P.info? e=some i)
 (v:Value) (n:Nat) (xs:List Value) (hown:w.ownsRow base e size v n xs) (c:Nat):(Builtin.append_ #[t,t] ty #[v,.slice none 0 c]).run P w=.ok v w:=by
 rcases hown.2 with ⟨rfl,rfl⟩ | ⟨g,cap,cur,rfl,_,_,hnc,_⟩
 · simp [Builtin.append_,run_underlying ht,Go.sizeOf,typeInfo,hi,Builtin.lenOf,Builtin.firstCells]
 · simp [Builtin.append_,run_underlying ht,Go.sizeOf,typeInfo,hi,Builtin.lenOf,Builtin.firstCells,hnc,storeCells]
theorem run_append_any (base:Nat) (t ty e:TypeId) (i:TypeInfo) (z:Value) (size bytes:Nat) (ht:P.underlying t=some (.slice e)) (hi:P.info? e=some i) (hz:i.zero=some z)
 (hsize:i.size=size) (hby:i.bytes=bytes) (hzs:z.cells.size=size) (hsz:0<size)
 (v:Value) (n:Nat) (xs:List Value) (hown:w.ownsRow base e size v n xs)
 (B:Nat) (A:Option Addr) (m c:Nat) (news:List Value) (hr:Reads w B size A m news) (h1:∀u∈news,u.oneCell'=true)
 (h63:n+m≤maxLen) (hbytes:(n+m)*bytes≤140737488355328) (hbase:base≤w.heap.size):
 ∃v' w',(Builtin.append_ #[t,t] ty #[v,.slice A m c]).run P w=.ok v' w'∧w'.ownsRow base e size v' (n+m) (xs++news)∧w.grownBy w' v.ownBlock∧
  (v'.ownBlock=v.ownBlock∨v'.ownBlock=some w.heap.size):=by
 rcases A with _ | ad
 · have hm:m=0:=by
    rcases Nat.eq_zero_or_pos m with h0 | h0
    · exact h0
    · obtain ⟨ad,h,_⟩:=hr.2 h0
      cases h
   subst hm;have hn:news=[]:=List.eq_nil_of_length_eq_zero (by simpa using hr.1);subst hn;exact ⟨v,w,run_append_of_nil w base t ty e i size ht hi v n xs hown c,by simpa using hown,World.grownBy.refl w _,.inl rfl⟩
 · have hcells:∀j u,news[j]? =some u→w.cell? (ad.add j)=some u:=by
    intro j u hu;rcases Nat.eq_zero_or_pos m with h0 | h0
    · subst h0
      have hn:news=[]:=List.eq_nil_of_length_eq_zero (by simpa using hr.1);subst hn;simp at hu
    · obtain ⟨ad',h,_,hc⟩:=hr.2 h0
      injection h with h
      subst h;exact hc j u hu
   obtain ⟨v',w',hrun,h2,h3,_,h5⟩:=run_append_own_at (P:=P) w base t ty e i z size bytes ht hi hz hsize hby hzs hsz v n xs hown ad m c news hr.1 hcells h1 h63 hbytes hbase;exact ⟨v',w',hrun,h2,h3,h5⟩
theorem wp_append_any {o:Oper} {a:Act} {K:Act→World→Prop} {Q:Exit→Act→World→Prop}(s x:Operand) (t:TypeId)
 (ho:o.op=.call { callee:=.builtin .append,args:=#[s,x],argTypes:=#[t,t]})
 (base:Nat) (e:TypeId) (i:TypeInfo) (z:Value) (size bytes:Nat) (ht:P.underlying t=some (.slice e)) (hi:P.info? e=some i) (hz:i.zero=some z)
 (hsize:i.size=size) (hby:i.bytes=bytes) (hzs:z.cells.size=size) (hsz:0<size)
 (v:Value) (n:Nat) (xs:List Value) (hs:a.eval s=v) (hown:w.ownsRow base e size v n xs)
 (B:Nat) (A:Option Addr) (m c:Nat) (news:List Value) (hx:a.eval x=.slice A m c) (hr:Reads w B size A m news) (h1:∀u∈news,u.oneCell'=true)
 (h63:n+m≤maxLen) (hbytes:(n+m)*bytes≤140737488355328) (hbase:base≤w.heap.size)
 (h:∀v' w',w'.ownsRow base e size v' (n+m) (xs++news)→w.grownBy w' v.ownBlock→(v'.ownBlock=v.ownBlock∨v'.ownBlock=some w.heap.size)→K (a.put o.dst v') w'):o.wp P a w K Q:=by
 obtain ⟨v',w',hrun,h2,h3,h4⟩:=run_append_any (P:=P) w base t o.type e i z size bytes ht hi hz hsize hby hzs hsz v n xs hown B A m c news hr h1 h63 hbytes hbase
 unfold Oper.wp execOp
 simp only [ho,resolve,invoke,builtin,Sem.run_bind,Sem.run_pure,Result.andThen_ok,List.map_toArray,List.map_cons,List.map_nil,hs,hx,hrun]
 exact h v' w' h2 h3 h4
theorem wpList_append_any {ops:Array Oper} {rest:List Oper} {o:Oper} {a:Act} {Q:Exit→Act→World→Prop}(hgd:o.guard=none) (s x:Operand) (t:TypeId)
 (ho:o.op=.call { callee:=.builtin .append,args:=#[s,x],argTypes:=#[t,t]})
 (base:Nat) (e:TypeId) (i:TypeInfo) (z:Value) (size bytes:Nat) (ht:P.underlying t=some (.slice e)) (hi:P.info? e=some i) (hz:i.zero=some z)
 (hsize:i.size=size) (hby:i.bytes=bytes) (hzs:z.cells.size=size) (hsz:0<size)
 (v:Value) (n:Nat) (xs:List Value) (hs:a.eval s=v) (hown:w.ownsRow base e size v n xs)
 (B:Nat) (A:Option Addr) (m c:Nat) (news:List Value) (hx:a.eval x=.slice A m c) (hr:Reads w B size A m news) (h1:∀u∈news,u.oneCell'=true)
 (h63:n+m≤maxLen) (hbytes:(n+m)*bytes≤140737488355328) (hbase:base≤w.heap.size)
 (h:∀v' w',w'.ownsRow base e size v' (n+m) (xs++news)→w.grownBy w' v.ownBlock→(v'.ownBlock=v.ownBlock∨v'.ownBlock=some w.heap.size)→wpList P ops Q rest (a.put o.dst v') w'):wpList P ops Q (o::rest) a w:=
 wpList_plain hgd fun _ hK=>wp_append_any w s x t ho base e i z size bytes ht hi hz hsize hby hzs hsz v n xs hs hown B A m c news hx hr h1 h63 hbytes hbase fun v' w' h2 h3 h4=>hK _ _ (h v' w' h2 h3 h4)
theorem step_append_any {ops:Array Oper} {o:Oper} {a:Act} {K:Act→World→Prop} {Q:Exit→Act→World→Prop} {E:Prop}(hgd:o.guard=none) (s x:Operand) (t:TypeId)
 (ho:o.op=.call { callee:=.builtin .append,args:=#[s,x],argTypes:=#[t,t]})
 (base:Nat) (e:TypeId) (i:TypeInfo) (z:Value) (size bytes:Nat) (ht:P.underlying t=some (.slice e)) (hi:P.info? e=some i) (hz:i.zero=some z)
 (hsize:i.size=size) (hby:i.bytes=bytes) (hzs:z.cells.size=size) (hsz:0<size)
 (v:Value) (n:Nat) (xs:List Value) (hs:a.eval s=v) (hown:w.ownsRow base e size v n xs)
 (B:Nat) (A:Option Addr) (m c:Nat) (news:List Value) (hx:a.eval x=.slice A m c) (hr:Reads w B size A m news) (h1:∀u∈news,u.oneCell'=true)
 (h63:n+m≤maxLen) (hbytes:(n+m)*bytes≤140737488355328) (hbase:base≤w.heap.size)
 (h:∀v' w',w'.ownsRow base e size v' (n+m) (xs++news)→w.grownBy w' v.ownBlock→(v'.ownBlock=v.ownBlock∨v'.ownBlock=some w.heap.size)→K (a.put o.dst v') w'):
 if Region.wanted o (yielded ops a.tmps)=true then Oper.wp P o a w K Q else E:=by
 have hw:Region.wanted o (yielded ops a.tmps)=true:=by simp [Region.wanted,hgd]
 rw [if_pos hw]
 exact wp_append_any w s x t ho base e i z size bytes ht hi hz hsize hby hzs hsz v n xs hs hown B A m c news hx hr h1 h63 hbytes hbase h
end
theorem own_empty (w:World) {base:Nat}(e:TypeId) (hb:base≤w.heap.size):(w.alloc (.cells #[] e)).ownsRow base e 1 (.slice (some ⟨w.heap.size,0,none⟩) 0 0) 0 []:=by
 have:=World.ownsRow_lit (e:=e) (size:=1) w #[] 0 hb (by unfold maxLen;omega) (by simp)
 simpa using this
theorem cell_new0 (w:World) (u:Value) (t:TypeId):(w.alloc (.cells #[u] t)).cell? ⟨w.heap.size,0,none⟩=some u:=by
 rw [cell_of_row _ _ 0 #[u] t (0,0) (heap_alloc_new w _)];rfl
theorem cell_new1 (w:World) (o:Obj) (u:Value) (t:TypeId):((w.alloc o).alloc (.cells #[u] t)).cell? ⟨w.heap.size+1,0,none⟩=some u:=by
 simp
theorem cell_old0 (w:World) (o:Obj) (u:Value) (t:TypeId):((w.alloc (.cells #[u] t)).alloc o).cell? ⟨w.heap.size,0,none⟩=some u:=by
 rw [World.cell?_alloc_lt _ _ _ (by simp)];exact cell_new0 w u t
end Cl
namespace Cl
open Go Go.RowKit
theorem Ints.reads {w:World} {A:Option Addr} {n:Nat} {xs:List Int}(h:Ints w A n xs):Reads w w.heap.size 1 A n (ints xs):=
 ⟨by rw [ints_length,h.len,Nat.mul_one],fun hn=>by
   obtain ⟨b,o,rfl,hb,hc⟩:=h.at_ hn;refine ⟨_,rfl,hb,fun j u hu=> ?_⟩;have hj:j<xs.length:=by
    have:=(List.getElem?_eq_some_iff.1 hu).1;rwa [ints_length] at this
   rw [ints_get hj] at hu;injection hu with hu
   subst hu;rw [Go.WideShapes.add_plain];exact hc j (by rw [← h.len];exact hj)⟩
end Cl
namespace Cl
open Go
theorem ret_int {k:IntKind} {a b:Int}(h:a=b):Ending.returned (.int k a)=.returned (.int k b):=by rw [h]
theorem ret_bool {a b:Bool}(h:a=b):Ending.returned (.bool a)=.returned (.bool b):=by rw [h]
theorem quiet_add_left {P:Program} {f:FuncId} {args:Array Value} {w:World} {a n:Nat} {v:Value}
 (h:Calls P f args (w.drewN (a+n)) fun e w'=>e=.returned v∧w.drewN (a+n)=w'):
 Calls P f args (w.drewN (a+n)) fun e w''=>e=.returned v∧∃m,w''=w.drewN (a+m):=
 h.mono fun _ _ ⟨he,hm⟩=>⟨he,n,hm.symm⟩
theorem quiet_left {P:Program} {f:FuncId} {args:Array Value} {w:World} {n:Nat} {v:Value}
 (h:Calls P f args (w.drewN n) fun e w'=>e=.returned v∧w.drewN n=w'):Calls P f args (w.drewN n) fun e w''=>e=.returned v∧∃m,w''=w.drewN m:=
 h.mono fun _ _ ⟨he,hm⟩=>⟨he,n,hm.symm⟩
end Cl
