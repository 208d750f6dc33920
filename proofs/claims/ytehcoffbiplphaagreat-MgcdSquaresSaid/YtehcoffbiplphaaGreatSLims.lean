/- Limbs of 64 bits, what they tell, in memory; naturals and integers made plain: the program's.
   Limbs added, taken away, multiplied: what is carried. No program in sight.
   Rows of limbs in memory: a block that is just these limbs.
   Contracts: a copy of limbs, of numbers, an integer made plain: the copy lies in new memory. -/
import Derived.Test.YtehcoffbiplphaaGreatRows
import Derived.Test.YtehcoffbiplphaaGreatSBase
import Derived.WalkKit
import Derived.WalkSpells
import Derived.WalkLawsBesides
import Derived.Lib.Hide
import Derived.Lib.BitFns
import Derived.Deep.LoopGhost
import Derived.Deep.Slices
import Derived.BigRegion
import Derived.BigQuiet
import Derived.Deep.RegionHeld3
import Derived.Deep.DrawnRows
import Derived.Laws.CopyOwn
import Derived.OwnWalk
import Derived.Lib.SliceRun
import Derived.Laws.Bits64b
set_option linter.unusedVariables false
set_option linter.unusedSimpArgs false
set_option maxRecDepth 100000
namespace Cl
def plen (f:Nat→Int):Nat→Nat
 | 0=>0
 | n+1=>if f n=0 then plen f n else n+1
theorem plen_le (f:Nat→Int) (n:Nat):plen f n≤n:=by
 induction n with
 | zero=>exact lRr
 | succ n ih=>unfold plen;split<;>omega
theorem plen_top {f:Nat→Int} {n:Nat}(h:0<plen f n):f (plen f n - 1)≠0:=by
 induction n with
 | zero=>unfold plen at h;omega
 | succ n ih=>
   unfold plen at h ⊢;split at h
   · next h0=>rw [if_pos h0];exact ih h
   · next h0=>rw [if_neg h0];exact h0
theorem plen_drop {f:Nat→Int} {n:Nat}(h:f n=0):plen f (n+1)=plen f n:=by
 conv=>lhs;unfold plen
 rw [if_pos h]
theorem plen_stop {f:Nat→Int} {n:Nat}(h:f n≠0):plen f (n+1)=n+1:=by
 conv=>lhs;unfold plen
 rw [if_neg h]
def limbs:List Int→Nat
 | []=>0
 | x::xs=>x.toNat+2^64*limbs xs
def IsLimbs (l:List Int):Prop:=∀i,0≤nth l i∧nth l i<18446744073709551616
theorem nth_cons_zero (x:Int) (l:List Int):nth (x::l) 0=x:=rfl
theorem IsLimbs.tail {x:Int} {l:List Int}(h:IsLimbs (x::l)):IsLimbs l:=fun i=>h (i+1)
theorem limbs_lt {l:List Int}(h:IsLimbs l):limbs l<2^(64*l.length):=by
 induction l with
 | nil=>decide
 | cons x l ih=>
   have hx:=h 0;rw [nth_cons_zero] at hx;have:=ih h.tail;show x.toNat+2^64*limbs l<2^(64*(l.length+1));rw [Nat.mul_succ,Nat.add_comm (64*l.length),Nat.pow_add];have h1:2^64*(limbs l+1)≤2^64*2^(64*l.length):=Nat.mul_le_mul_left _ this;have h2:x.toNat<2^64:=by omega
   omega
end Cl
namespace Cl
open Go Go.RowKit
def lmbs (xs:List Int):List Value:=xs.map (Value.int .u64)
theorem lmbs_length (xs:List Int):(lmbs xs).length=xs.length:=by simp [lmbs]
theorem lmbs_get {xs:List Int} {i:Nat}(h:i<xs.length):(lmbs xs)[i]? =some (.int .u64 (nth xs i)):=by
 simp [lmbs,nth_lt h,h]
theorem lmbs_oneCell (xs:List Int):∀u∈lmbs xs,u.oneCell'=true:=by
 intro u hu
 simp only [lmbs,List.mem_map] at hu
 obtain ⟨x,_,rfl⟩:=hu
 rfl
structure Limbs (w:World) (A:Option Addr) (n:Nat) (xs:List Int):Prop where
 len:xs.length=n
 at_:0<n→∃b o,A=some ⟨b,o,none⟩∧b<w.heap.size∧∀i,i<n→w.cell? ⟨b,o+i,none⟩=some (.int .u64 (nth xs i))
 ok:IsLimbs xs
section
variable {w w' : World} {A : Option Addr} {n : Nat} {xs : List Int}
theorem Limbs.keep (h:Limbs w A n xs) (hs:w.heap.size≤w'.heap.size) (hk:∀p:Addr,p.block<w.heap.size→w'.cell? p=w.cell? p):Limbs w' A n xs:=
 ⟨h.len,fun hn=>by
   obtain ⟨b,o,e,hb,hc⟩:=h.at_ hn;exact ⟨b,o,e,by omega,fun i hi=>(hk ⟨b,o+i,none⟩ hb).trans (hc i hi)⟩,h.ok⟩
theorem Limbs.below (h:Limbs w A n xs) {B:Nat}(hb:Below B w w') (hB:w.heap.size≤B):Limbs w' A n xs:=h.keep hb.size fun _ hp=>hb.cell (by omega)
theorem Limbs.bel (h:Limbs w A n xs) (hb:Below w.heap.size w w'):Limbs w' A n xs:=h.below hb lRr
theorem Limbs.drew (h:Limbs w A n xs):Limbs w.drew A n xs:=⟨h.len,h.at_,h.ok⟩
theorem Limbs.alloc (h:Limbs w A n xs) (o:Obj):Limbs (w.alloc o) A n xs:=h.keep (by simp) fun p hp=>World.cell?_alloc_lt w o p hp
theorem IsLimbs.take {xs:List Int}(h:IsLimbs xs) (k:Nat):IsLimbs (xs.take k):=fun i=>by
 by_cases hi:i<k
 · have:nth (xs.take k) i=nth xs i:=by unfold nth;simp [List.getD,hi]
   rw [this];exact h i
 · rw [nth_ge (by simp;omega)];omega
theorem nth_take {xs:List Int} {k i:Nat}(hi:i<k):nth (xs.take k) i=nth xs i:=by unfold nth;simp [List.getD,hi]
theorem Limbs.take (h:Limbs w A n xs) {k:Nat}(hk:k≤n):Limbs w A k (xs.take k):=
 ⟨by rw [List.length_take,h.len];omega,fun h0=>by
   obtain ⟨b,o,e,hb,hc⟩:=h.at_ (by omega);exact ⟨b,o,e,hb,fun i hi=>by rw [nth_take hi];exact hc i (by omega)⟩,h.ok.take k⟩
theorem Limbs.nil (w:World) (A:Option Addr):Limbs w A 0 []:=⟨rfl,fun h=>absurd h (by omega),fun i=>by rw [nth_ge (by simp)];omega⟩
theorem Limbs.reads (h:Limbs w A n xs):Reads w w.heap.size 1 A n (lmbs xs):=
 ⟨by rw [lmbs_length,h.len,Nat.mul_one],fun h0=>by
   obtain ⟨b,o,e,hb,hc⟩:=h.at_ h0;refine ⟨_,e,hb,fun j u hu=> ?_⟩;have hj:j<n:=by
    have:=(List.getElem?_eq_some_iff.1 hu).1;rw [lmbs_length,h.len] at this;exact this
   rw [lmbs_get (by rw [h.len];exact hj)] at hu;injection hu with hu
   rw [← hu];have:(⟨b,o,none⟩:Addr).add j=⟨b,o+j,none⟩:=by
    unfold Addr.add;split
    · rename_i e;subst e;rfl
    · rfl
   rw [this];exact hc j hj⟩
theorem Limbs.of_own {base:Nat} {e:TypeId} {c:Nat}(h:w.ownsRow base e 1 (.slice A n c) n (lmbs xs)) (hok:IsLimbs xs):Limbs w A n xs:=by
 have hl:=h.1
 rw [lmbs_length,Nat.mul_one] at hl
 refine ⟨hl,fun hn=> ?_,hok⟩
 rcases h.2 with ⟨h',h0⟩ | ⟨g,cap,cur,hv,_,hg,hnc,hcm,hcs,htake⟩
 · omega
 · simp only [Value.slice.injEq] at hv
   obtain ⟨rfl,_,rfl⟩:=hv;refine ⟨g,0,rfl,(Array.getElem?_eq_some_iff.1 hg).1,fun i hi=> ?_⟩;rw [Nat.zero_add,cell_of_row w g i cur e (0,0) hg];have:=lmbs_get (xs:=xs) (i:=i) (by omega);rw [← htake,List.getElem?_take,if_pos (by omega)] at this;simpa using this
theorem Limbs.one (w:World) (t:TypeId) {x:Int}(h0:0≤x) (h1:x<18446744073709551616):Limbs (w.alloc (.cells #[.int .u64 x] t)) (some ⟨w.heap.size,0,none⟩) 1 [x]:=
 ⟨rfl,fun _=>⟨_,0,rfl,by simp,fun i hi=>by
   obtain rfl:i=0:=by omega
   exact cell_new0 w _ t⟩,fun i=>by
   match i with
   | 0=>exact ⟨h0,h1⟩
   | i+1=>rw [nth_ge (by simp)];omega⟩
end
def lmN (xs:List Int) (n:Nat):Nat:=plen (nth xs) n
theorem lmN_le (xs:List Int) (n:Nat):lmN xs n≤n:=plen_le _ _
theorem limbs_append (xs ys:List Int):limbs (xs++ys)=limbs xs+2^(64*xs.length)*limbs ys:=by
 induction xs with
 | nil=>simp [limbs]
 | cons x xs ih=>
   show x.toNat+2^64*limbs (xs++ys)=x.toNat+2^64*limbs xs+2^(64*(xs.length+1))*limbs ys;rw [ih,Nat.mul_succ,Nat.add_comm (64*xs.length),Nat.pow_add,Nat.mul_add,Nat.mul_assoc];omega
theorem limbs_take_succ {xs:List Int} {k:Nat}(h:k<xs.length):limbs (xs.take (k+1))=limbs (xs.take k)+2^(64*k)*(nth xs k).toNat:=by
 have e:xs.take (k+1)=xs.take k++[nth xs k]:=by rw [nth_lt h];exact List.take_succ_eq_append_getElem h
 rw [e,limbs_append,List.length_take,Nat.min_eq_left (by omega)]
 show _+_*((nth xs k).toNat+2^64*0)=_
 rw [Nat.mul_zero,Nat.add_zero]
theorem limbs_lmN {xs:List Int} {n:Nat}(hn:n≤xs.length):limbs (xs.take (lmN xs n))=limbs (xs.take n):=by
 induction n with
 | zero=>rfl
 | succ n ih=>
   unfold lmN;by_cases h:nth xs n=0
   · rw [plen_drop h,limbs_take_succ (by omega),h]
     show _=_+_*0;rw [Nat.mul_zero,Nat.add_zero];exact ih (by omega)
   · rw [plen_stop h]
theorem lmN_zero {xs:List Int} {n:Nat}(hn:xs.length=n) (h:lmN xs n=0):limbs xs=0:=by
 have:=limbs_lmN (xs:=xs) (n:=n) (by omega)
 rw [h,List.take_of_length_le (i:=n) (by omega)] at this
 rw [← this];rfl
theorem lt_bitLen {x:Nat}(h:x<2^64):x<2^Lib.bitLen x:=by
 unfold Lib.bitLen
 revert h
 generalize 64=f
 induction f generalizing x with
 | zero=>intro h;simpa [Lib.bitLenAux] using h
 | succ f ih=>
   intro h;unfold Lib.bitLenAux;split
   · rename_i e;subst e;decide
   · rw [Nat.pow_succ] at h
     have:=ih (x:=x / 2) (by omega);rw [Nat.pow_add];omega
end Cl
namespace Go.Proofs.YtehcoffbiplphaaGreat
open Go.RowKit Cl
attribute [local go_sem ↓] Go.wp_at_zero Go.wp_at_succ
theorem uint_info:(Tryz.prog.info? 38).map (fun i=>(i.zero,i.size,i.bytes))=some (some (.int .u64 0),1,8):=by kernel_rfl
def GivesLimbs (w:World) (xs:List Int) (e:Ending) (w':World):Prop:=
 ∃A c,e=.returned (.slice A xs.length c)∧xs.length≤c∧c≤9223372036854775807∧Limbs w' A xs.length xs∧Below w.heap.size w w'
theorem nplain_any (A:Option Addr) (n c:Nat) (xs:List Int) (w:World) (hx:Limbs w A n xs) (hn:n≤c) (hc:c≤9223372036854775807):
 Calls Tryz.prog 112 #[.slice A n c] w fun e w'=>e=.returned (.slice A (lmN xs n) c)∧w'=w:=by
 go_enter Tryz.func112,Tryz.ntmps112
 obtain ⟨wo,rfl⟩:∃wo:World,wo=w:=⟨_,rfl⟩
 go_wp2
 go_loopg [0] (n+1) (fun gk s wr=>∃m:Nat,m≤n∧m<gk∧s=.slice A m c∧Hid (lmN xs n=lmN xs m)∧wr=wo)
 case atStart=>exact ⟨n,by omega,by omega,rfl,rfl,rfl⟩
 case round=>
  obtain ⟨m,hm,hgk,rfl,hpl,rfl⟩:=hrel;cases m with
  | zero=>
    have Hfin:Hid (lmN xs n=0):=hpl.out;(go_wp2);go_ret;refine ⟨?_,rfl⟩;rw [Hfin.out];rfl
  | succ m=>
    obtain ⟨b,o,rfl,hb,hc'⟩:=hx.at_ (by omega);have hcy:=hc' m (by omega);clear hc';(have hmc:m≤c:=by omega);(have hmc':(m:Int)≤(c:Int):=by omega);(have hmp:(0:Int)<(m:Int)+1:=by omega);by_cases hz:nth xs m=0
    · rw [hz] at hcy
      have Hz:=hiD hz;clear hz;(go_wp2);go_roundg (gk - 1)
      case measure=>omega
      case rel=>exact ⟨m,by omega,by omega,rfl,by show _=_;rw [hpl.out];exact plen_drop Hz.out,rfl⟩
    · have hz':(nth xs m==0)=false:=beq_eq_false_iff_ne.2 hz
      have Hfin:Hid (lmN xs n=m+1):=hpl.out.trans (plen_stop hz);clear hz;(go_wp2);go_ret;refine ⟨?_,rfl⟩;rw [Hfin.out];rfl
theorem neq_nil (w:World) (a:Option Addr) (n c n' c':Nat):(binOp .eql 39 (.slice a n c) (.slice none n' c')).run Tryz.prog w=.ok (.bool a.isNone) w:=
 Lib.run_eql_slice_nil w _ _ a n c n' c' Tryz.underlying39
theorem nclone_any (A:Option Addr) (n c:Nat) (xs:List Int) (w:World) (hx:Limbs w A n xs) (hn:n*8≤140737488355328):
 Calls Tryz.prog 111 #[.slice A n c] w (GivesLimbs w xs):=by
 obtain rfl:=hx.len
 have hr:=hiD hx.reads
 have hok:=hiD hx.ok
 have q22:=neq_nil
 obtain ⟨i0,hi,hz0,hz1,hz2⟩:=info_parts uint_info
 rcases A with _ | ad
 · have h0:xs.length=0:=by
    rcases Nat.eq_zero_or_pos xs.length with h | h
    · exact h
    · obtain ⟨b,o,e,_⟩:=hx.at_ h
      cases e
   have Hfin:Hid (GivesLimbs w xs (.returned (.slice none 0 0)) w):=by
    refine ⟨none,0,by rw [h0],by omega,by omega,?_,bRr⟩;rw [List.eq_nil_of_length_eq_zero h0];exact Limbs.nil _ _
   clear h0 hx;go_enter Tryz.func111,Tryz.ntmps111
   go_wp2
   go_ret;exact Hfin.out
 · go_enter Tryz.func111,Tryz.ntmps111
   go_wp2_with (at_builtin;refine wpList_append_any (w:=w.alloc (.cells #[] 38)) rfl _ _ 39 rfl w.heap.size 38 i0 (.int .u64 0) 1 8 Tryz.underlying39 hi hz0 hz1 hz2 rfl (by decide) _ 0 [] rfl (own_empty w 38 lRr) w.heap.size (some ad) xs.length c (lmbs xs) rfl (hr.out.alloc lRr _) (lmbs_oneCell xs) (by unfold maxLen;omega) (by omega) (by simp) ?_;intro v' w1 hown hgrow hat)
   have hown2:w1.ownsRow w.heap.size 38 1 v' xs.length (lmbs xs):=by simpa using hown
   have hb:Below w.heap.size w w1:=((Below.refl _ w).alloc lRr _).grown hgrow (by simp) (fun k hk=>((own_empty w 38 lRr).lt k hk).1);go_wp2
   go_ret;obtain ⟨A',c',rfl⟩:=own_slice hown2;have hcc:xs.length≤c'∧c'≤9223372036854775807:=by
    rcases hown2.2 with ⟨hv,h0⟩ | ⟨g,cap,cur,hv,_,_,hnc,hcm,_⟩
    · injection hv;omega
    · injection hv with _ _ e
      unfold maxLen at hcm;omega
   exact ⟨A',c',rfl,hcc.1,hcc.2,Limbs.of_own hown2 hok.out,hb⟩
theorem nnorm_any (A:Option Addr) (n c:Nat) (xs:List Int) (w:World) (hx:Limbs w A n xs) (hn:n≤c) (hc:c≤9223372036854775807) (hn8:n*8≤140737488355328):
 Calls Tryz.prog 81 #[.slice A n c] w (GivesLimbs w (xs.take (lmN xs n))):=by
 have hl:=lmN_le xs n
 go_enter Tryz.func81,Tryz.ntmps81
 go_wp2_with fail
 refine (nplain_any A n c xs _ hx hn hc).mono ?_
 rintro e w' ⟨rfl,rfl⟩
 go_wp2_with fail
 refine (nclone_any A _ c _ _ (hx.take hl) (by omega)).mono ?_
 rintro e w1 ⟨A1,c1,rfl,h1,h2,h3,h4⟩
 go_wp2
 go_ret
 refine ⟨A1,c1,?_,h1,h2,h3,h4⟩
 rw [List.length_take];rfl
end Go.Proofs.YtehcoffbiplphaaGreat
namespace Go.Proofs.YtehcoffbiplphaaGreat
open Go.RowKit Cl
attribute [local go_sem ↓] Go.wp_at_zero Go.wp_at_succ
def GivesInt (w:World) (neg:Bool) (xs:List Int) (e:Ending) (w':World):Prop:=
 ∃A c,e=.returned (.agg #[.bool neg,.slice A xs.length c])∧xs.length≤c∧c≤9223372036854775807∧Limbs w' A xs.length xs∧Below w.heap.size w w'
theorem aint_size:(Tryz.prog.info? 41).map (·.size)=some 2:=by kernel_rfl
def Duo (w:World) (g:Nat) (u v:Value):Prop:=w.heap[g]? =some (.cells #[u,v] 41 (0,0))
section
variable {w w' : World} {g : Nat} {u v : Value}
theorem Duo.lt (h:Duo w g u v):g<w.heap.size:=(Array.getElem?_eq_some_iff.1 h).1
theorem Duo.cell0 (h:Duo w g u v):w.cell? ⟨g,0,none⟩=some u:=by rw [cell_of_row w g 0 _ _ (0,0) h];rfl
theorem Duo.cell1 (h:Duo w g u v):w.cell? ⟨g,1,none⟩=some v:=by rw [cell_of_row w g 1 _ _ (0,0) h];rfl
theorem Duo.frozen (h:Duo w g u v) (i:Nat):w.frozen? ⟨g,i,none⟩=false:=by unfold Duo at h;simp [World.frozen?,h]
theorem Duo.keep (h:Duo w g u v) (hk:w'.heap[g]? =w.heap[g]?):Duo w' g u v:=hk.trans h
theorem Duo.bel (h:Duo w g u v) (hb:Below w.heap.size w w'):Duo w' g u v:=h.keep (hb.block g h.lt)
theorem Duo.set (h:Duo w g u v) (a b:Value):Duo ((w.setCell ⟨g,0,none⟩ a).setCell ⟨g,1,none⟩ b) g a b:=by
 unfold Duo at h ⊢
 simp [World.setCell,Array.getElem?_modify,h]
theorem Duo.new (w:World) (u v:Value):Duo (w.alloc (.cells #[u,v] 41)) w.heap.size u v:=heap_alloc_new w _
theorem Duo.limbs (h:Duo w g u v) (a b:Value) {A:Option Addr} {n c:Nat} {s:Bool}(hu:u=.bool s) (hv:v=.slice A n c) {B:Option Addr} {m:Nat} {ys:List Int}(hi:Limbs w B m ys):Limbs ((w.setCell ⟨g,0,none⟩ a).setCell ⟨g,1,none⟩ b) B m ys:=by
 refine ⟨hi.len,fun hm=> ?_,hi.ok⟩
 obtain ⟨bb,o,e,hb,hc⟩:=hi.at_ hm
 refine ⟨bb,o,e,by simpa using hb,fun i hlt=> ?_⟩
 have hne:bb≠g∨(o+i≠0∧o+i≠1):=by
  by_cases e1:bb=g
  · subst e1
    refine .inr ⟨fun e2=> ?_,fun e2=> ?_⟩
    · have:=hc i hlt
      rw [e2,h.cell0,hu] at this;cases this
    · have:=hc i hlt
      rw [e2,h.cell1,hv] at this;cases this
  · exact .inl e1
 rw [World.cell?_setCell_other _ _ _ _ (fun e=>by injection e;omega),World.cell?_setCell_other _ _ _ _ (fun e=>by injection e;omega)]
 exact hc i hlt
end
theorem zmade_any (neg:Bool) (A:Option Addr) (n c:Nat) (xs:List Int) (w:World) (hx:Limbs w A n xs) (hn:n≤c) (hc:c≤9223372036854775807) (hn8:n*8≤140737488355328):
 Calls Tryz.prog 80 #[.bool neg,.slice A n c] w (GivesInt w (neg && decide (0<lmN xs n)) (xs.take (lmN xs n))):=by
 have hl:=lmN_le xs n
 have hlen:(xs.take (lmN xs n)).length=lmN xs n:=by rw [List.length_take,hx.len];omega
 have Hlen:=hiD hlen
 have Cn:=hiD (fun W (h:Below w.heap.size w W)=>nnorm_any A n c xs W (hx.bel h) hn hc hn8)
 have hd:=Duo.new w (.bool false) (.slice none 0 0)
 clear hlen hx
 go_enter Tryz.func80,Tryz.ntmps80
 go_wp2_with fail
 refine (Cn.out _ (by exact bRr.alloc lRr _)).mono ?_
 rintro e w1 ⟨A1,c1,rfl,h1,h2,h3,h4⟩
 rw [Hlen.out] at h1 h3 ⊢
 have hd1:=hd.bel h4
 have c0:=hd1.cell0
 have c1':=hd1.cell1
 have f0:=hd1.frozen 0
 have f1:=hd1.frozen 1
 have hb:Below w.heap.size w w1:=((Below.refl _ w).alloc lRr _).trans (h4.mono (by simp))
 have Hd:=hiD hd1
 clear hd hd1 h4
 have fin:∀b:Bool,GivesInt w b (xs.take (lmN xs n)) (.returned (.agg #[.bool b,.slice A1 (lmN xs n) c1])) ((w1.setCell ⟨w.heap.size,0,none⟩ (.bool b)).setCell ⟨w.heap.size,1,none⟩ (.slice A1 (lmN xs n) c1)):=fun b=>by
  refine ⟨A1,c1,?_,?_,h2,?_,(hb.setCell (p:=⟨w.heap.size,0,none⟩) lRr _).setCell (p:=⟨w.heap.size,1,none⟩) lRr _⟩
  · rw [Hlen.out]
  · rw [Hlen.out];exact h1
  · rw [Hlen.out];exact Hd.out.limbs _ _ rfl rfl h3
 have Fin:=hiD fin
 clear fin
 cases neg with
 | false=>
   go_wp2
   exact bodyPost_ret (v:=.agg #[.bool false,.slice A1 (lmN xs n) c1]) (results_cell_row (fn:=Tryz.f80) rfl _ _ _ _ _ _ _ rfl (Hd.out.set (.bool false) (.slice A1 (lmN xs n) c1)) Tryz.underlying41 rfl aint_size) rfl (Fin.out _)
 | true=>
   go_wp2
   exact bodyPost_ret (v:=.agg #[.bool (decide (0<lmN xs n)),.slice A1 (lmN xs n) c1]) (results_cell_row (fn:=Tryz.f80) rfl _ _ _ _ _ _ _ rfl (Hd.out.set (.bool (decide (0<lmN xs n))) (.slice A1 (lmN xs n) c1)) Tryz.underlying41 rfl aint_size) rfl (Fin.out _)
theorem znorm_any (neg:Bool) (A:Option Addr) (n c:Nat) (xs:List Int) (w:World) (hx:Limbs w A n xs) (hn:n≤c) (hc:c≤9223372036854775807) (hn8:n*8≤140737488355328):
 Calls Tryz.prog 105 #[.agg #[.bool neg,.slice A n c]] w (GivesInt w (neg && decide (0<lmN xs n)) (xs.take (lmN xs n))):=by
 have Cn:=hiD (fun W (h:Below w.heap.size w W)=>zmade_any neg A n c xs W (hx.bel h) hn hc hn8)
 have hd0:=(Duo.new w (.bool neg) (.slice A n c)).bel (bRr.alloc lRr (.cells #[.bool false,.slice none 0 0] 41))
 have hd:=Duo.new (w.alloc (.cells #[.bool neg,.slice A n c] 41)) (.bool false) (.slice none 0 0)
 rw [World.size_alloc] at hd
 have c0:=hd0.cell0
 have c1:=hd0.cell1
 have Hd:=hiD hd
 clear hd hd0 hx
 go_enter Tryz.func105,Tryz.ntmps105
 go_wp2_with fail
 refine (Cn.out _ (by exact (bRr.alloc lRr _).alloc (by simp) _)).mono ?_
 rintro e w1 ⟨A1,c1',rfl,h1,h2,h3,h4⟩
 have hd1:=Hd.out.bel h4
 have k0:=hd1.cell0
 have k1:=hd1.cell1
 have f0:=hd1.frozen 0
 have f1:=hd1.frozen 1
 have hb:Below w.heap.size w w1:=(((Below.refl _ w).alloc lRr _).alloc (by simp) _).trans (h4.mono (by simp;omega))
 have Hd1:=hiD hd1
 clear hd1 h4
 go_wp2
 exact bodyPost_ret (results_cell_row (fn:=Tryz.f105) rfl _ _ _ _ _ _ _ rfl (Hd1.out.set _ _) Tryz.underlying41 rfl aint_size) rfl
  ⟨A1,c1',by rw [List.length_take],h1,h2,Hd1.out.limbs _ _ rfl rfl h3,(hb.setCell (p:=⟨w.heap.size+1,0,none⟩) (by simp) _).setCell (p:=⟨w.heap.size+1,1,none⟩) (by simp) _⟩
def signN (neg:Bool):Nat→Int
 | 0=>0
 | _+1=>if neg then -1 else 1
theorem zsign_any (neg:Bool) (A:Option Addr) (n c:Nat) (xs:List Int) (w:World) (hx:Limbs w A n xs) (hn:n≤c) (hc:c≤9223372036854775807) (hn8:n*8≤140737488355328):
 Calls Tryz.prog 72 #[.agg #[.bool neg,.slice A n c]] w (fun e w'=>e=.returned (.int .i64 (signN neg (lmN xs n)))∧Below w.heap.size w w'):=by
 have hl:=lmN_le xs n
 have hlen:(xs.take (lmN xs n)).length=lmN xs n:=by rw [List.length_take,hx.len];omega
 have Hlen:=hiD hlen
 have Cn:=hiD (fun W (h:Below w.heap.size w W)=>znorm_any neg A n c xs W (hx.bel h) hn hc hn8)
 have hd:=Duo.new w (.bool neg) (.slice A n c)
 have k0:=hd.cell0
 have k1:=hd.cell1
 have Hd:=hiD hd
 clear hd hlen hx
 go_enter Tryz.func72,Tryz.ntmps72
 go_wp2_with fail
 refine (Cn.out _ (by exact bRr.alloc lRr _)).mono ?_
 rintro e w1 ⟨A1,c1,rfl,h1,h2,h3,h4⟩
 rw [Hlen.out] at h1 h3 ⊢
 have hd1:=Hd.out.bel h4
 have c0:=hd1.cell0
 have c1':=hd1.cell1
 have f0:=hd1.frozen 0
 have f1:=hd1.frozen 1
 have hb:Below w.heap.size w w1:=((Below.refl _ w).alloc lRr _).trans (h4.mono (by simp))
 have hbf:∀u v,Below w.heap.size w ((w1.setCell ⟨w.heap.size,0,none⟩ u).setCell ⟨w.heap.size,1,none⟩ v):=fun u v=>(hb.setCell (p:=⟨w.heap.size,0,none⟩) lRr _).setCell (p:=⟨w.heap.size,1,none⟩) lRr _
 have Hb:=hiD hbf
 clear hd1 h4 hb hbf
 clear Hd k0 k1 h3 Hlen
 obtain ⟨L,hL⟩:∃L,lmN xs n=L:=⟨_,rfl⟩
 have HL:=hiD hL
 rw [hL] at h1 ⊢
 clear hL Cn hl
 rcases L with _ | L
 · cases neg<;>(go_wp2;go_ret;exact ⟨by rw [HL.out];rfl,Hb.out _ _⟩)
 · have hp':(0:Int)<(L:Int)+1:=by omega
   cases neg<;>(go_wp2;go_ret;exact ⟨by rw [HL.out];rfl,Hb.out _ _⟩)
theorem zof_pos (x:Int) (w:World) (h0:0≤x) (h1:x≤9223372036854775807):
 Calls Tryz.prog 46 #[.int .i64 x] w (GivesInt w false ([x].take (lmN [x] 1))):=by
 have Cn:=hiD (fun W (h:Limbs W (some ⟨w.heap.size+1,0,none⟩) 1 [x])=>zmade_any false (some ⟨w.heap.size+1,0,none⟩) 1 1 [x] W h (by omega) (by omega) (by omega))
 have hd:=(Duo.new w (.bool false) (.slice none 0 0)).bel (bRr.alloc lRr (.cells #[.int .u64 x] 38))
 have hlm:=Limbs.one (w.alloc (.cells #[.bool false,.slice none 0 0] 41)) 38 h0 (x:=x) (by omega)
 rw [World.size_alloc] at hlm
 have Hlm:=hiD hlm
 have Hd:=hiD hd
 clear hd hlm
 go_enter Tryz.func46,Tryz.ntmps46
 go_wp2_with fail
 refine (Cn.out _ (by exact Hlm.out)).mono ?_
 rintro e w1 ⟨A1,c1,rfl,h2,h3,h4,h5⟩
 have hd1:=Hd.out.bel h5
 have k0:=hd1.cell0
 have k1:=hd1.cell1
 have f0:=hd1.frozen 0
 have f1:=hd1.frozen 1
 have hb:Below w.heap.size w w1:=(((Below.refl _ w).alloc lRr _).alloc (by simp) _).trans (h5.mono (by simp;omega))
 have Hd1:=hiD hd1
 clear hd1 h5
 go_wp2
 exact bodyPost_ret (results_cell_row (fn:=Tryz.f46) rfl _ _ _ _ _ _ _ rfl (Hd1.out.set _ _) Tryz.underlying41 rfl aint_size) rfl
  ⟨A1,c1,by rw [List.length_take];rfl,h2,h3,Hd1.out.limbs _ _ rfl rfl h4,(hb.setCell (p:=⟨w.heap.size,0,none⟩) lRr _).setCell (p:=⟨w.heap.size,1,none⟩) lRr _⟩
end Go.Proofs.YtehcoffbiplphaaGreat
namespace Cl
def carL (f:Nat→Nat→Nat×Nat):Nat→List Int×Nat
 | 0=>([],0)
 | n+1=>((carL f n).1++[((f n (carL f n).2).1:Int)],(f n (carL f n).2).2)
theorem carL_length (f:Nat→Nat→Nat×Nat):∀n,(carL f n).1.length=n
 | 0=>rfl
 | n+1=>by show ((carL f n).1++[_]).length=_;rw [List.length_append,carL_length f n];rfl
theorem carL_limbs (f:Nat→Nat→Nat×Nat) (n:Nat):limbs (carL f (n+1)).1=limbs (carL f n).1+2^(64*n)*(f n (carL f n).2).1:=by
 show limbs ((carL f n).1++[_])=_
 rw [limbs_append,carL_length]
 show _+_*(((f n (carL f n).2).1:Int).toNat+2^64*0)=_
 rw [Nat.mul_zero,Nat.add_zero,Int.toNat_natCast]
theorem carL_ok {f:Nat→Nat→Nat×Nat}(h:∀k c,(f k c).1<18446744073709551616):∀n,IsLimbs (carL f n).1
 | 0=>fun i=>by show 0≤nth [] i∧nth [] i<_;rw [nth_ge (by simp)];omega
 | n+1=>fun i=>by
   have ih:=carL_ok h n i;show 0≤nth ((carL f n).1++[_]) i∧nth ((carL f n).1++[_]) i<_;by_cases hi:i<n
   · rw [nth_append_lt (by rw [carL_length];exact hi)];exact ih
   · rw [nth_append_ge (by rw [carL_length];omega),carL_length]
     by_cases e:i=n
     · subst e
       rw [Nat.sub_self];have:=h i (carL f i).2;show 0≤((f i (carL f i).2).1:Int)∧_<_;exact ⟨by omega,by show ((f i (carL f i).2).1:Int)<_;omega⟩
     · rw [nth_ge (by simp;omega)];omega
theorem limbs_take_any (xs:List Int) (k:Nat):limbs (xs.take (k+1))=limbs (xs.take k)+2^(64*k)*(nth xs k).toNat:=by
 by_cases h:k<xs.length
 · exact limbs_take_succ h
 · rw [List.take_of_length_le (i:=k+1) (by omega),List.take_of_length_le (i:=k) (by omega),nth_ge (by omega)]
   show _=_+_*0;rw [Nat.mul_zero,Nat.add_zero]
theorem limbs_take_all {xs:List Int} {n:Nat}(h:xs.length≤n):limbs (xs.take n)=limbs xs:=by rw [List.take_of_length_le h]
theorem pow64_succ (n:Nat):2^(64*(n+1))=2^(64*n)*18446744073709551616:=by
 rw [Nat.mul_succ,Nat.pow_add]
def addF (a b:List Int) (k c:Nat):Nat×Nat:=(((nth a k).toNat+(nth b k).toNat+c) % 18446744073709551616,((nth a k).toNat+(nth b k).toNat+c) / 18446744073709551616)
theorem addF_lt (a b:List Int) (k c:Nat):(addF a b k c).1<18446744073709551616:=Nat.mod_lt _ (by omega)
theorem addF_val {a b:List Int}(ha:IsLimbs a) (hb:IsLimbs b):∀n,(carL (addF a b) n).2≤1∧limbs (carL (addF a b) n).1+2^(64*n)*(carL (addF a b) n).2=limbs (a.take n)+limbs (b.take n)
 | 0=>⟨by show 0≤1;omega,by simp [carL,limbs]⟩
 | n+1=>by
   obtain ⟨h1,h2⟩:=addF_val ha hb n;have a1:=ha n;have b1:=hb n;rw [carL_limbs,limbs_take_any,limbs_take_any,pow64_succ];show (addF a b n (carL (addF a b) n).2).2≤1∧_+_*(addF a b n (carL (addF a b) n).2).1+_*(addF a b n (carL (addF a b) n).2).2=_;generalize (carL (addF a b) n).2=c at*
   generalize limbs (carL (addF a b) n).1=L at*
   unfold addF;generalize hs:(nth a n).toNat+(nth b n).toNat+c=s;have hd:=Nat.div_add_mod s 18446744073709551616;show s / 18446744073709551616≤1∧_+_*(s % 18446744073709551616)+_*(s / 18446744073709551616)=_;refine ⟨by omega,?_⟩;generalize 2^(64*n)=P at*
   have h3:P*(s % 18446744073709551616)+P*18446744073709551616*(s / 18446744073709551616)=P*s:=by
    rw [Nat.mul_assoc,← Nat.mul_add];congr 1;omega
   have h4:P*s=P*(nth a n).toNat+P*(nth b n).toNat+P*c:=by rw [← hs,Nat.mul_add,Nat.mul_add]
   omega
def subF (a b:List Int) (k c:Nat):Nat×Nat:=(((nth a k).toNat+18446744073709551616 - (nth b k).toNat - c) % 18446744073709551616,if (nth a k).toNat<(nth b k).toNat+c then 1 else 0)
theorem subF_lt (a b:List Int) (k c:Nat):(subF a b k c).1<18446744073709551616:=Nat.mod_lt _ (by omega)
theorem subF_val {a b:List Int}(ha:IsLimbs a) (hb:IsLimbs b):∀n,(carL (subF a b) n).2≤1∧limbs (carL (subF a b) n).1+limbs (b.take n)=limbs (a.take n)+2^(64*n)*(carL (subF a b) n).2
 | 0=>⟨by show 0≤1;omega,by simp [carL,limbs]⟩
 | n+1=>by
   obtain ⟨h1,h2⟩:=subF_val ha hb n;have a1:=ha n;have b1:=hb n;rw [carL_limbs,limbs_take_any,limbs_take_any,pow64_succ];show (subF a b n (carL (subF a b) n).2).2≤1∧_+_*(subF a b n (carL (subF a b) n).2).1+_=_+_*(subF a b n (carL (subF a b) n).2).2;generalize (carL (subF a b) n).2=c at*
   generalize limbs (carL (subF a b) n).1=L at*
   unfold subF;generalize hx:(nth a n).toNat=x at*
   generalize hy:(nth b n).toNat=y at*
   generalize 2^(64*n)=P at*
   show (if x<y+c then 1 else 0)≤1∧_+P*((x+18446744073709551616 - y - c) % 18446744073709551616)+_=_+P*18446744073709551616*(if x<y+c then 1 else 0);by_cases h:x<y+c
   · rw [if_pos h]
     refine ⟨by omega,?_⟩;have e:(x+18446744073709551616 - y - c) % 18446744073709551616=x+18446744073709551616 - y - c:=Nat.mod_eq_of_lt (by omega);rw [e];have h3:P*(x+18446744073709551616 - y - c)+P*y+P*c=P*x+P*18446744073709551616:=by
      rw [← Nat.mul_add,← Nat.mul_add,← Nat.mul_add];congr 1;omega
     omega
   · rw [if_neg h]
     refine ⟨by omega,?_⟩;have e:(x+18446744073709551616 - y - c) % 18446744073709551616=x - y - c:=by
      rw [show x+18446744073709551616 - y - c=x - y - c+18446744073709551616 by omega,Nat.add_mod_right];exact Nat.mod_eq_of_lt (by omega)
     rw [e];have h3:P*(x - y - c)+P*y+P*c=P*x:=by
      rw [← Nat.mul_add,← Nat.mul_add];congr 1;omega
     omega
def rowF (a:List Int) (x k c:Nat):Nat×Nat:=(((nth a k).toNat*x+c) % 18446744073709551616,((nth a k).toNat*x+c) / 18446744073709551616)
theorem rowF_lt (a:List Int) (x k c:Nat):(rowF a x k c).1<18446744073709551616:=Nat.mod_lt _ (by omega)
theorem rowF_val {a:List Int}(ha:IsLimbs a) {x:Nat}(hx:x<18446744073709551616):∀n,(carL (rowF a x) n).2<18446744073709551616∧limbs (carL (rowF a x) n).1+2^(64*n)*(carL (rowF a x) n).2=limbs (a.take n)*x
 | 0=>⟨by show 0<_;omega,by simp [carL,limbs]⟩
 | n+1=>by
   obtain ⟨h1,h2⟩:=rowF_val ha hx n;have a1:=ha n;rw [carL_limbs,limbs_take_any,pow64_succ];show (rowF a x n (carL (rowF a x) n).2).2<_∧_+_*(rowF a x n (carL (rowF a x) n).2).1+_*(rowF a x n (carL (rowF a x) n).2).2=_;generalize (carL (rowF a x) n).2=c at*
   generalize limbs (carL (rowF a x) n).1=L at*
   unfold rowF;generalize hy:(nth a n).toNat=y at*
   generalize hs:y*x+c=s;have hd:=Nat.div_add_mod s 18446744073709551616;show s / 18446744073709551616<_∧_+_*(s % 18446744073709551616)+_*(s / 18446744073709551616)=_;have h5:y*x≤18446744073709551615*18446744073709551615:=Nat.mul_le_mul (by omega) (by omega);refine ⟨by omega,?_⟩;generalize 2^(64*n)=P at*
   have h3:P*(s % 18446744073709551616)+P*18446744073709551616*(s / 18446744073709551616)=P*s:=by
    rw [Nat.mul_assoc,← Nat.mul_add];congr 1;omega
   have h4:P*s=P*y*x+P*c:=by rw [← hs,Nat.mul_add,Nat.mul_assoc]
   rw [Nat.add_mul];omega
theorem limbs_snoc (xs:List Int) (x:Int):limbs (xs++[x])=limbs xs+2^(64*xs.length)*x.toNat:=by
 rw [limbs_append]
 show _+_*(x.toNat+2^64*0)=_
 rw [Nat.mul_zero,Nat.add_zero]
theorem IsLimbs.snoc {xs:List Int}(h:IsLimbs xs) {x:Int}(h0:0≤x) (h1:x<18446744073709551616):IsLimbs (xs++[x]):=fun i=>by
 by_cases hi:i<xs.length
 · rw [nth_append_lt hi];exact h i
 · rw [nth_append_ge (by omega)]
   by_cases e:i - xs.length=0
   · rw [e];exact ⟨h0,h1⟩
   · rw [nth_ge (by simp;omega)];omega
theorem limbs_set {xs:List Int}(h:IsLimbs xs) {i:Nat}(hi:i<xs.length) {v:Int}(_hv:0≤v):limbs (xs.set i v)+2^(64*i)*(nth xs i).toNat=limbs xs+2^(64*i)*v.toNat:=by
 induction xs generalizing i with
 | nil=>exact absurd hi (by simp)
 | cons x xs ih=>
   match i with
   | 0=>
     show v.toNat+2^64*limbs xs+2^(64*0)*x.toNat=x.toNat+2^64*limbs xs+2^(64*0)*v.toNat
     rw [Nat.mul_zero,Nat.pow_zero];omega
   | i+1=>
     have h1:=ih h.tail (i:=i) (by simpa using hi);show x.toNat+2^64*limbs (xs.set i v)+2^(64*(i+1))*(nth xs i).toNat=x.toNat+2^64*limbs xs+2^(64*(i+1))*v.toNat
     rw [Nat.mul_succ,Nat.add_comm (64*i),Nat.pow_add,Nat.mul_assoc,Nat.mul_assoc];(have h2:2^64*(limbs (xs.set i v)+2^(64*i)*(nth xs i).toNat)=2^64*(limbs xs+2^(64*i)*v.toNat):=by rw [h1]);rw [Nat.mul_add,Nat.mul_add] at h2;omega
theorem IsLimbs.set {xs:List Int}(h:IsLimbs xs) (i:Nat) {v:Int}(h0:0≤v) (h1:v<18446744073709551616):IsLimbs (xs.set i v):=fun j=>by
 by_cases hi:i<xs.length
 · rw [nth_set hi]
   split
   · exact ⟨h0,h1⟩
   · exact h j
 · rw [List.set_eq_of_length_le (by omega)];exact h j
theorem limbs_replicate (n:Nat):limbs (List.replicate n 0)=0:=by
 induction n with
 | zero=>rfl
 | succ n ih=>rw [List.replicate_succ];show (0:Int).toNat+2^64*limbs _=0;rw [ih];rfl
theorem limbs_inj:∀{xs ys:List Int},IsLimbs xs→IsLimbs ys→xs.length=ys.length→limbs xs=limbs ys→xs=ys
 | [],[],_,_,_,_=>rfl
 | x::xs,y::ys,hx,hy,hl,h=>by
   have h1:=hx 0;have h2:=hy 0;rw [nth_cons_zero] at h1 h2;have h3:x.toNat+2^64*limbs xs=y.toNat+2^64*limbs ys:=h;have h4:x=y:=by omega
   subst h4;rw [limbs_inj hx.tail hy.tail (by simpa using hl) (by omega)]
def PlainL (xs:List Int):Prop:=IsLimbs xs∧(0<xs.length→nth xs (xs.length - 1)≠0)
theorem PlainL.low {xs:List Int}(h:PlainL xs) (hl:0<xs.length):2^(64*(xs.length - 1))≤limbs xs:=by
 obtain ⟨k,hk⟩:∃k,xs.length=k+1:=⟨xs.length - 1,by omega⟩
 have h1:=h.2 hl
 have h2:=h.1 k
 rw [hk,Nat.add_sub_cancel] at h1 ⊢
 rw [← limbs_take_all (n:=k+1) (by omega),limbs_take_any]
 have h3:1≤(nth xs k).toNat:=by omega
 have h4:2^(64*k)*1≤2^(64*k)*(nth xs k).toNat:=Nat.mul_le_mul_left _ h3
 omega
theorem PlainL.inj {xs ys:List Int}(hx:PlainL xs) (hy:PlainL ys) (h:limbs xs=limbs ys):xs=ys:=by
 have key:∀{a b:List Int},PlainL a→PlainL b→limbs a=limbs b→¬a.length<b.length:=fun {a b} ha hb e hl=>by
  have h1:=hb.low (by omega);have h2:=limbs_lt ha.1;have h3:2^(64*a.length)≤2^(64*(b.length - 1)):=Nat.pow_le_pow_right (by omega) (by omega);omega
 have h1:=key hx hy h
 have h2:=key hy hx h.symm
 exact limbs_inj hx.1 hy.1 (by omega) h
theorem plainL_take {xs:List Int}(h:IsLimbs xs) {n:Nat}(hn:xs.length=n):PlainL (xs.take (lmN xs n))∧limbs (xs.take (lmN xs n))=limbs xs:=by
 have h1:=lmN_le xs n
 refine ⟨⟨h.take _,fun h0=> ?_⟩,by rw [limbs_lmN (by omega),limbs_take_all (by omega)]⟩
 rw [List.length_take,Nat.min_eq_left (by omega)] at h0 ⊢
 rw [nth_take (by omega)]
 exact plen_top h0
def intZ (neg:Bool) (xs:List Int):Int:=if neg then -(limbs xs:Int) else (limbs xs:Int)
structure ZVal (neg:Bool) (xs:List Int) (z:Int):Prop where
 pl:PlainL xs
 eq:intZ neg xs=z
 nz:neg=true→0<xs.length
theorem PlainL.nil_iff {xs:List Int}(h:PlainL xs):limbs xs=0↔xs.length=0:=by
 constructor
 · intro h0
   rcases Nat.eq_zero_or_pos xs.length with h1 | h1
   · exact h1
   · have:=h.low h1
     have:=Nat.two_pow_pos (64*(xs.length - 1));omega
 · intro h0
   rw [List.eq_nil_of_length_eq_zero h0];rfl
theorem ZVal.unique {s t:Bool} {xs ys:List Int} {z:Int}(h:ZVal s xs z) (k:ZVal t ys z):s=t∧xs=ys:=by
 have e:intZ s xs=intZ t ys:=h.eq.trans k.eq.symm
 have h1:=h.pl.nil_iff
 have k1:=k.pl.nil_iff
 have h2:=h.nz
 have k2:=k.nz
 unfold intZ at e
 cases s<;>cases t<;>simp at e h2 k2
 · exact ⟨rfl,h.pl.inj k.pl (by omega)⟩
 · exfalso;omega
 · exfalso;omega
 · exact ⟨rfl,h.pl.inj k.pl (by omega)⟩
theorem ZVal.zero_iff {s:Bool} {xs:List Int} {z:Int}(h:ZVal s xs z):z=0↔xs.length=0:=by
 have e:=h.eq
 have h1:=h.pl.nil_iff
 unfold intZ at e
 cases s<;>simp at e<;>omega
end Cl
namespace Cl
open Go Go.RowKit
theorem lmbs_append (xs ys:List Int):lmbs (xs++ys)=lmbs xs++lmbs ys:=by simp [lmbs]
theorem lmbs_set (xs:List Int) (i:Nat) (v:Int):(lmbs xs).set i (.int .u64 v)=lmbs (xs.set i v):=by simp [lmbs,List.map_set]
theorem Limbs.drewN {w:World} {A:Option Addr} {n:Nat} {xs:List Int}(h:Limbs w A n xs) (k:Nat):Limbs (w.drewN k) A n xs:=h.bel (below_drewN bRr k)
def RowL (w:World) (g:Nat) (t:TypeId) (xs:List Int):Prop:=w.heap[g]? =some (.cells (lmbs xs).toArray t (0,0))
section
variable {w w' : World} {g : Nat} {t : TypeId} {xs : List Int}
theorem RowL.lt (h:RowL w g t xs):g<w.heap.size:=(Array.getElem?_eq_some_iff.1 h).1
theorem RowL.cell (h:RowL w g t xs) {i:Nat}(hi:i<xs.length):w.cell? ⟨g,i,none⟩=some (.int .u64 (nth xs i)):=by
 rw [cell_of_row w g i _ _ (0,0) h]
 have:=lmbs_get hi
 simpa using this
theorem RowL.frozen (h:RowL w g t xs) (i:Nat):w.frozen? ⟨g,i,none⟩=false:=by
 unfold RowL at h;simp [World.frozen?,h]
theorem RowL.set (h:RowL w g t xs) (i:Nat) (v:Int):RowL (w.setCell ⟨g,i,none⟩ (.int .u64 v)) g t (xs.set i v):=by
 unfold RowL at h ⊢
 simp [World.setCell,Array.getElem?_modify,h,← lmbs_set]
theorem RowL.below {B:Nat}(h:RowL w g t xs) (hb:Below B w w') (hg:g<B):RowL w' g t xs:=(hb.block g hg).trans h
theorem RowL.bel (h:RowL w g t xs) (hb:Below w.heap.size w w'):RowL w' g t xs:=h.below hb h.lt
theorem RowL.new (w:World) (t:TypeId) (xs:List Int):RowL (w.alloc (.cells (lmbs xs).toArray t)) w.heap.size t xs:=heap_alloc_new w _
theorem RowL.own (h:RowL w g t xs) {base n:Nat}(hb:base≤g) (hn:n≤xs.length) (hm:xs.length≤maxLen):
 w.ownsRow base t 1 (.slice (some ⟨g,0,none⟩) n xs.length) n (lmbs (xs.take n)):=
 ⟨by simp [lmbs_length,hn],.inr ⟨g,xs.length,_,rfl,hb,h,hn,hm,by simp [lmbs_length],by simp [lmbs,List.map_take]⟩⟩
theorem RowL.limbs (h:RowL w g t xs) (hok:IsLimbs xs):Limbs w (some ⟨g,0,none⟩) xs.length xs:=
 ⟨rfl,fun _=>⟨g,0,rfl,h.lt,fun i hi=>by rw [Nat.zero_add];exact h.cell hi⟩,hok⟩
end
theorem run_make_limbs {P:Program} {t e:TypeId} {i:TypeInfo}(ht:P.underlying t=some (.slice e)) (hi:P.info? e=some i) (hz:i.zero=some (.int .u64 0)) (hs:i.size=1) (hb:i.bytes=8)
 (n:Nat) (hn:n*8≤281474976710656) (w:World):
 (Instr.makeSlice t (.int .i64 (n:Int)) (.int .i64 (n:Int))).run P w=.ok (.slice (some ⟨w.heap.size,0,none⟩) n n) (w.alloc (.cells (lmbs (List.replicate n 0)).toArray e)):=by
 have hr:=run_make (P:=P) w t e i (.int .u64 0) ht hi hz .i64 .i64 n n (by omega) (by omega) (by rw [hb];omega) (by omega)
 have e1:madeCells (Value.int .u64 0).cells (n*1)=(lmbs (List.replicate n 0)).toArray:=by
  apply Array.toList_inj.1;show (madeCells #[Value.int .u64 0] (n*1)).toList=_;rw [toList_madeCells_one,Nat.mul_one];simp [lmbs]
 simp only [Int.toNat_natCast,hs] at hr
 rw [hr,e1]
def midL (f:Nat→Nat→Nat×Nat) (n k:Nat):List Int:=(carL f k).1++List.replicate (n - k) 0
theorem midL_length (f:Nat→Nat→Nat×Nat) {n k:Nat}(hk:k≤n):(midL f n k).length=n:=by
 unfold midL;rw [List.length_append,carL_length,List.length_replicate];omega
theorem midL_zero (f:Nat→Nat→Nat×Nat) (n:Nat):midL f n 0=List.replicate n 0:=by unfold midL;show []++_=_;rw [List.nil_append];rfl
theorem midL_full (f:Nat→Nat→Nat×Nat) (n:Nat):midL f n n=(carL f n).1:=by unfold midL;rw [Nat.sub_self];simp
theorem midL_set (f:Nat→Nat→Nat×Nat) {n k:Nat}(hk:k<n):(midL f n k).set k ((f k (carL f k).2).1:Int)=midL f n (k+1):=by
 unfold midL
 rw [List.set_append_right _ _ (by rw [carL_length];omega),carL_length,Nat.sub_self]
 obtain ⟨m,hm⟩:∃m,n - k=m+1:=⟨n - k - 1,by omega⟩
 rw [hm,List.replicate_succ,List.set_cons_zero,show n - (k+1)=m by omega]
 show _=((carL f k).1++[((f k (carL f k).2).1:Int)])++_
 rw [List.append_assoc];rfl
end Cl
namespace Go.Proofs.YtehcoffbiplphaaGreat
open Go.RowKit Cl
attribute [local go_sem ↓] Go.wp_at_zero Go.wp_at_succ
def GivesLimbsF (w:World) (xs:List Int) (e:Ending) (w':World):Prop:=
 ∃A c,e=.returned (.slice A xs.length c)∧xs.length≤c∧c≤9223372036854775807∧Limbs w' A xs.length xs∧Below w.heap.size w w'∧(0<xs.length→∀y,A=some y→w.heap.size≤y.block)
def GivesIntF (w:World) (neg:Bool) (xs:List Int) (e:Ending) (w':World):Prop:=
 ∃A c,e=.returned (.agg #[.bool neg,.slice A xs.length c])∧xs.length≤c∧c≤9223372036854775807∧Limbs w' A xs.length xs∧Below w.heap.size w w'∧(0<xs.length→∀y,A=some y→w.heap.size≤y.block)
def GivesIntsF (w:World) (xs:List Int) (e:Ending) (w':World):Prop:=
 ∃A c,e=.returned (.slice A xs.length c)∧xs.length≤c∧c≤9223372036854775807∧Ints w' A xs.length xs∧Below w.heap.size w w'∧(0<xs.length→∀y,A=some y→w.heap.size≤y.block)
theorem int_infoF:(Tryz.prog.info? 3).map (fun i=>(i.zero,i.size,i.bytes))=some (some (.int .i64 0),1,8):=by kernel_rfl
theorem ints_oneCellF (xs:List Int):∀v∈ints xs,v.oneCell'=true:=by
 intro v hv
 obtain ⟨x,_,rfl⟩:=List.mem_map.1 hv
 rfl
theorem ieq_nil (w:World) (a:Option Addr) (n c n' c':Nat):(binOp .eql 42 (.slice a n c) (.slice none n' c')).run Tryz.prog w=.ok (.bool a.isNone) w:=
 Lib.run_eql_slice_nil w _ _ a n c n' c' Tryz.underlying42
theorem nclone_f (A:Option Addr) (n c:Nat) (xs:List Int) (w:World) (hx:Limbs w A n xs) (hn:n*8≤140737488355328):
 Calls Tryz.prog 111 #[.slice A n c] w (GivesLimbsF w xs):=by
 obtain rfl:=hx.len
 have hr:=hiD hx.reads
 have hok:=hiD hx.ok
 have q22:=neq_nil
 obtain ⟨i0,hi,hz0,hz1,hz2⟩:=info_parts uint_info
 rcases A with _ | ad
 · have h0:xs.length=0:=by
    rcases Nat.eq_zero_or_pos xs.length with h | h
    · exact h
    · obtain ⟨b,o,e,_⟩:=hx.at_ h
      cases e
   have Hfin:Hid (GivesLimbsF w xs (.returned (.slice none 0 0)) w):=by
    refine ⟨none,0,by rw [h0],by omega,by omega,?_,bRr,fun _ y hy=>by cases hy⟩;rw [List.eq_nil_of_length_eq_zero h0];exact Limbs.nil _ _
   clear h0 hx;go_enter Tryz.func111,Tryz.ntmps111
   go_wp2
   go_ret;exact Hfin.out
 · go_enter Tryz.func111,Tryz.ntmps111
   go_wp2_with (at_builtin;refine wpList_append_any (w:=w.alloc (.cells #[] 38)) rfl _ _ 39 rfl w.heap.size 38 i0 (.int .u64 0) 1 8 Tryz.underlying39 hi hz0 hz1 hz2 rfl (by decide) _ 0 [] rfl (own_empty w 38 lRr) w.heap.size (some ad) xs.length c (lmbs xs) rfl (hr.out.alloc lRr _) (lmbs_oneCell xs) (by unfold maxLen;omega) (by omega) (by simp) ?_;intro v' w1 hown hgrow hat)
   have hown2:w1.ownsRow w.heap.size 38 1 v' xs.length (lmbs xs):=by simpa using hown
   have hb:Below w.heap.size w w1:=((Below.refl _ w).alloc lRr _).grown hgrow (by simp) (fun k hk=>((own_empty w 38 lRr).lt k hk).1);go_wp2
   go_ret;obtain ⟨A',c',rfl⟩:=own_slice hown2;have hcc:xs.length≤c'∧c'≤9223372036854775807:=by
    rcases hown2.2 with ⟨hv,h0⟩ | ⟨g,cap,cur,hv,_,_,hnc,hcm,_⟩
    · injection hv;omega
    · injection hv with _ _ e
      unfold maxLen at hcm;omega
   exact ⟨A',c',rfl,hcc.1,hcc.2,Limbs.of_own hown2 hok.out,hb,fun _ y hy=>(hown2.lt y.block (by subst hy;rfl)).1⟩
theorem iclone_f (A:Option Addr) (n c:Nat) (xs:List Int) (w:World) (hx:Ints w A n xs) (hn:n*8≤140737488355328):
 Calls Tryz.prog 107 #[.slice A n c] w (GivesIntsF w xs):=by
 obtain rfl:=hx.len
 have hr:=hiD hx.reads
 have hok:=hiD hx.ok
 have q22:=ieq_nil
 obtain ⟨i0,hi,hz0,hz1,hz2⟩:=info_parts int_infoF
 rcases A with _ | ad
 · have h0:xs.length=0:=by
    rcases Nat.eq_zero_or_pos xs.length with h | h
    · exact h
    · obtain ⟨b,o,e,_⟩:=hx.at_ h
      cases e
   have Hfin:Hid (GivesIntsF w xs (.returned (.slice none 0 0)) w):=by
    refine ⟨none,0,by rw [h0],by omega,by omega,?_,bRr,fun _ y hy=>by cases hy⟩;rw [List.eq_nil_of_length_eq_zero h0];exact ⟨rfl,fun h=>absurd h (by decide),fun i=>by rw [nth_ge (by simp)];exact I64.zero⟩
   clear h0 hx;go_enter Tryz.func107,Tryz.ntmps107
   go_wp2
   go_ret;exact Hfin.out
 · go_enter Tryz.func107,Tryz.ntmps107
   go_wp2_with (at_builtin;refine wpList_append_any (w:=w.alloc (.cells #[] 3)) rfl _ _ 42 rfl w.heap.size 3 i0 (.int .i64 0) 1 8 Tryz.underlying42 hi hz0 hz1 hz2 rfl (by decide) _ 0 [] rfl (own_empty w 3 lRr) w.heap.size (some ad) xs.length c (ints xs) rfl (hr.out.alloc lRr _) (ints_oneCellF xs) (by unfold maxLen;omega) (by omega) (by simp) ?_;intro v' w1 hown hgrow hat)
   have hown2:w1.ownsRow w.heap.size 3 1 v' xs.length (ints xs):=by simpa using hown
   have hb:Below w.heap.size w w1:=((Below.refl _ w).alloc lRr _).grown hgrow (by simp) (fun k hk=>((own_empty w 3 lRr).lt k hk).1);go_wp2
   go_ret;obtain ⟨A',c',rfl⟩:=own_slice hown2;have hcc:xs.length≤c'∧c'≤9223372036854775807:=by
    rcases hown2.2 with ⟨hv,h0⟩ | ⟨g,cap,cur,hv,_,_,hnc,hcm,_⟩
    · injection hv;omega
    · injection hv with _ _ e
      unfold maxLen at hcm;omega
   exact ⟨A',c',rfl,hcc.1,hcc.2,Ints.of_own hown2 hok.out,hb,fun _ y hy=>(hown2.lt y.block (by subst hy;rfl)).1⟩
theorem nnorm_f (A:Option Addr) (n c:Nat) (xs:List Int) (w:World) (hx:Limbs w A n xs) (hn:n≤c) (hc:c≤9223372036854775807) (hn8:n*8≤140737488355328):
 Calls Tryz.prog 81 #[.slice A n c] w (GivesLimbsF w (xs.take (lmN xs n))):=by
 have hl:=lmN_le xs n
 go_enter Tryz.func81,Tryz.ntmps81
 go_wp2_with fail
 refine (nplain_any A n c xs _ hx hn hc).mono ?_
 rintro e w' ⟨rfl,rfl⟩
 go_wp2_with fail
 refine (nclone_f A _ c _ _ (hx.take hl) (by omega)).mono ?_
 rintro e w1 ⟨A1,c1,rfl,h1,h2,h3,h4,h5⟩
 go_wp2
 go_ret
 refine ⟨A1,c1,?_,h1,h2,h3,h4,h5⟩
 rw [List.length_take];rfl
theorem zmade_f (neg:Bool) (A:Option Addr) (n c:Nat) (xs:List Int) (w:World) (hx:Limbs w A n xs) (hn:n≤c) (hc:c≤9223372036854775807) (hn8:n*8≤140737488355328):
 Calls Tryz.prog 80 #[.bool neg,.slice A n c] w (GivesIntF w (neg && decide (0<lmN xs n)) (xs.take (lmN xs n))):=by
 have hl:=lmN_le xs n
 have hlen:(xs.take (lmN xs n)).length=lmN xs n:=by rw [List.length_take,hx.len];omega
 have Hlen:=hiD hlen
 have Cn:=hiD (fun W (h:Below w.heap.size w W)=>nnorm_f A n c xs W (hx.bel h) hn hc hn8)
 have hd:=Duo.new w (.bool false) (.slice none 0 0)
 clear hlen hx
 go_enter Tryz.func80,Tryz.ntmps80
 go_wp2_with fail
 refine (Cn.out _ (by exact bRr.alloc lRr _)).mono ?_
 rintro e w1 ⟨A1,c1,rfl,h1,h2,h3,h4,h5⟩
 rw [Hlen.out] at h1 h3 h5 ⊢
 have H5:Hid (0<lmN xs n→∀y,A1=some y→w.heap.size≤y.block):=fun h0 y hy=>by have:=h5 h0 y hy;simp at this;omega
 clear h5
 have hd1:=hd.bel h4
 have c0:=hd1.cell0
 have c1':=hd1.cell1
 have f0:=hd1.frozen 0
 have f1:=hd1.frozen 1
 have hb:Below w.heap.size w w1:=((Below.refl _ w).alloc lRr _).trans (h4.mono (by simp))
 have Hd:=hiD hd1
 clear hd hd1 h4
 have fin:∀b:Bool,GivesIntF w b (xs.take (lmN xs n)) (.returned (.agg #[.bool b,.slice A1 (lmN xs n) c1])) ((w1.setCell ⟨w.heap.size,0,none⟩ (.bool b)).setCell ⟨w.heap.size,1,none⟩ (.slice A1 (lmN xs n) c1)):=fun b=>by
  refine ⟨A1,c1,?_,?_,h2,?_,(hb.setCell (p:=⟨w.heap.size,0,none⟩) lRr _).setCell (p:=⟨w.heap.size,1,none⟩) lRr _,by rw [Hlen.out];exact H5.out⟩
  · rw [Hlen.out]
  · rw [Hlen.out];exact h1
  · rw [Hlen.out];exact Hd.out.limbs _ _ rfl rfl h3
 have Fin:=hiD fin
 clear fin
 cases neg with
 | false=>
   go_wp2
   exact bodyPost_ret (v:=.agg #[.bool false,.slice A1 (lmN xs n) c1]) (results_cell_row (fn:=Tryz.f80) rfl _ _ _ _ _ _ _ rfl (Hd.out.set (.bool false) (.slice A1 (lmN xs n) c1)) Tryz.underlying41 rfl aint_size) rfl (Fin.out _)
 | true=>
   go_wp2
   exact bodyPost_ret (v:=.agg #[.bool (decide (0<lmN xs n)),.slice A1 (lmN xs n) c1]) (results_cell_row (fn:=Tryz.f80) rfl _ _ _ _ _ _ _ rfl (Hd.out.set (.bool (decide (0<lmN xs n))) (.slice A1 (lmN xs n) c1)) Tryz.underlying41 rfl aint_size) rfl (Fin.out _)
theorem znorm_f (neg:Bool) (A:Option Addr) (n c:Nat) (xs:List Int) (w:World) (hx:Limbs w A n xs) (hn:n≤c) (hc:c≤9223372036854775807) (hn8:n*8≤140737488355328):
 Calls Tryz.prog 105 #[.agg #[.bool neg,.slice A n c]] w (GivesIntF w (neg && decide (0<lmN xs n)) (xs.take (lmN xs n))):=by
 have Cn:=hiD (fun W (h:Below w.heap.size w W)=>zmade_f neg A n c xs W (hx.bel h) hn hc hn8)
 have hd0:=(Duo.new w (.bool neg) (.slice A n c)).bel (bRr.alloc lRr (.cells #[.bool false,.slice none 0 0] 41))
 have hd:=Duo.new (w.alloc (.cells #[.bool neg,.slice A n c] 41)) (.bool false) (.slice none 0 0)
 rw [World.size_alloc] at hd
 have c0:=hd0.cell0
 have c1:=hd0.cell1
 have Hd:=hiD hd
 clear hd hd0 hx
 go_enter Tryz.func105,Tryz.ntmps105
 go_wp2_with fail
 refine (Cn.out _ (by exact (bRr.alloc lRr _).alloc (by simp) _)).mono ?_
 rintro e w1 ⟨A1,c1',rfl,h1,h2,h3,h4,h5⟩
 have H5:Hid (0<(xs.take (lmN xs n)).length→∀y,A1=some y→w.heap.size≤y.block):=fun h0 y hy=>by have:=h5 h0 y hy;simp at this;omega
 clear h5
 have hd1:=Hd.out.bel h4
 have k0:=hd1.cell0
 have k1:=hd1.cell1
 have f0:=hd1.frozen 0
 have f1:=hd1.frozen 1
 have hb:Below w.heap.size w w1:=(((Below.refl _ w).alloc lRr _).alloc (by simp) _).trans (h4.mono (by simp;omega))
 have Hd1:=hiD hd1
 clear hd1 h4
 go_wp2
 exact bodyPost_ret (results_cell_row (fn:=Tryz.f105) rfl _ _ _ _ _ _ _ rfl (Hd1.out.set _ _) Tryz.underlying41 rfl aint_size) rfl
  ⟨A1,c1',by rw [List.length_take],h1,h2,Hd1.out.limbs _ _ rfl rfl h3,(hb.setCell (p:=⟨w.heap.size+1,0,none⟩) (by simp) _).setCell (p:=⟨w.heap.size+1,1,none⟩) (by simp) _,H5.out⟩
end Go.Proofs.YtehcoffbiplphaaGreat
