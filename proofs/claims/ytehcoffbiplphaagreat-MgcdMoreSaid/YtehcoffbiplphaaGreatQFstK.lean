/- Contract: sum.first: the greatest place that holds something; what holds nothing is struck.
   Plain facts for a division without a rest: first terms of products, a term struck. No program in sight.
   What stays while the division goes on: limbs, sums, boxes. -/
import Derived.Test.YtehcoffbiplphaaGreatQTj
import Derived.Test.YtehcoffbiplphaaGreatQSrtK
import Derived.Test.YtehcoffbiplphaaGreatQTrmS
set_option linter.unusedVariables false
set_option linter.unusedSimpArgs false
namespace Go.Proofs.YtehcoffbiplphaaGreat
open Go.RowKit Cl
def U64 (w w':World):Prop:=w.heap.size≤w'.heap.size∧∀(p:Addr) (x:Int),p.block<w.heap.size→w.cell? p=some (.int .u64 x)→w'.cell? p=some (.int .u64 x)
theorem U64.bel {w w':World}(h:Below w.heap.size w w'):U64 w w':=⟨h.size,fun _ _ hp hc=>(h.cell hp).trans hc⟩
theorem U64.row {w w':World} {g:Nat} {t:TypeId} {ps:Plc}(hr:Row w g t ps) (ho:Only (fun x=>x=g) w w'):U64 w w':=⟨ho.size,fun p x hp hc=>by
 by_cases e:p.block=g
 · exfalso
   obtain ⟨qb,qo,qs⟩:=p
   have e':qb=g:=e
   subst e'
   obtain rfl:=World.cell?_spot hc
   rw [cell_of_row w _ _ _ _ (0,0) hr] at hc
   simp [ints] at hc
 · exact (ho.cell hp e).trans hc⟩
theorem U64.duo {w w':World} {g:Nat} {s:Bool} {A':Option Addr} {k c:Nat}(hr:Duo w g (.bool s) (.slice A' k c)) (ho:Only (fun x=>x=g) w w'):U64 w w':=⟨ho.size,fun p x hp hc=>by
 by_cases e:p.block=g
 · exfalso
   obtain ⟨qb,qo,qs⟩:=p
   have e':qb=g:=e
   subst e'
   obtain rfl:=World.cell?_spot hc
   unfold Duo at hr
   rw [cell_of_row w _ _ _ _ (0,0) hr] at hc
   match qo with
   | 0=>simp at hc
   | 1=>simp at hc
   | j+2=>simp at hc
 · exact (ho.cell hp e).trans hc⟩
theorem limbs_u64 {w w':World} {A:Option Addr} {n:Nat} {xs:List Int}(h:Limbs w A n xs) (hu:U64 w w'):Limbs w' A n xs:=
 ⟨h.len,fun hn=>by
   obtain ⟨b,o,e,hb,hc⟩:=h.at_ hn
   exact ⟨b,o,e,Nat.lt_of_lt_of_le hb hu.1,fun i hi=>hu.2 ⟨b,o+i,none⟩ _ hb (hc i hi)⟩,h.ok⟩
theorem sumD_u64 {w w':World} {D:DataW Value} {n B:Nat} {L:Mv}(h:SumD w D n B L) (hu:U64 w w'):SumD w' D n B L:=
 ⟨h.key,fun p hp hh=>by
   obtain ⟨v,h1,s,A,kk,c,ls,e,g1,g2,g3,g4,g5⟩:=h.at_ p hp hh
   exact ⟨v,h1,⟨s,A,kk,c,ls,e,g1,g2,g3,limbs_u64 g4 hu,g5⟩⟩,h.none,h.isMap⟩
theorem sumM_keep {w w':World} {b nc n B:Nat} {L:Mv} {S:Nat→Prop}(h:SumM w b nc n B L) (hu:U64 w w') (ho:Only S w w') (hb:¬S b):SumM w' b nc n B L:=by
 obtain ⟨D,m1,m2⟩:=h
 obtain ⟨es,clock,hh,r⟩:=m1
 have hlt:b<w.heap.size:=(Array.getElem?_eq_some_iff.1 hh).1
 exact ⟨D,⟨es,clock,(ho.block b hlt hb).trans hh,r⟩,sumD_u64 m2 hu⟩
theorem only_new2 {S:Nat→Prop} {w0 w w':World} {S':Nat→Prop}(h:Only S w0 w) (ho:Only S' w w') (hS:∀x,x<w0.heap.size→S' x→S x):Only S w0 w':=
 ⟨ho.os.trans h.os,ho.tape.trans h.tape,ho.output.trans h.output,Nat.le_trans h.size ho.size,fun i hi hs=>(ho.block i (Nat.lt_of_lt_of_le hi h.size) (fun h2=>hs (hS i hi h2))).trans (h.block i hi hs)⟩
theorem below_only {S:Nat→Prop} {B:Nat} {w0 w w':World}(h:Below B w0 w) (ho:Only S w w') (hB:B≤w.heap.size) (hS:∀x,S x→B≤x):Below B w0 w':=h.trans (ho.below hB hS)
structure LowR (w:World) (gl:Nat) (low:Plc) (s:Bool) (A:Option Addr) (k c:Nat) (ls:List Int):Prop where
 row:Row w gl 68 low
 duo:Duo w (gl+1) (.bool s) (.slice A k c)
 lim:Limbs w A k ls
theorem LowR.keep {w w':World} {S:Nat→Prop} {gl:Nat} {low:Plc} {s:Bool} {A:Option Addr} {k c:Nat} {ls:List Int}(h:LowR w gl low s A k c ls) (hu:U64 w w') (ho:Only S w w') (h0:¬S gl) (h1:¬S (gl+1)):LowR w' gl low s A k c ls:=
 ⟨h.row.only ho h0,h.duo.keep (ho.block _ h.duo.lt h1),limbs_u64 h.lim hu⟩
theorem LowR.bel {w w':World} {gl:Nat} {low:Plc} {s:Bool} {A:Option Addr} {k c:Nat} {ls:List Int}(h:LowR w gl low s A k c ls) (hb:Below w.heap.size w w'):LowR w' gl low s A k c ls:=
 h.keep (S:=fun _=>False) (U64.bel hb) (only_of_bel hb) (fun h=>h) (fun h=>h)
theorem lowR_new (w:World) (x0 x1 x2 x3 x4 x5:Int) (s:Bool) (A:Option Addr) (k c:Nat) (ls:List Int) (h:Limbs w A k ls):
 LowR ((w.alloc (.cells #[.int .i64 x0,.int .i64 x1,.int .i64 x2,.int .i64 x3,.int .i64 x4,.int .i64 x5] 68)).alloc (.cells #[.bool s,.slice A k c] 41)) w.heap.size [x0,x1,x2,x3,x4,x5] s A k c ls:=by
 have hduo:=Duo.new (w.alloc (.cells #[.int .i64 x0,.int .i64 x1,.int .i64 x2,.int .i64 x3,.int .i64 x4,.int .i64 x5] 68)) (.bool s) (.slice A k c)
 rw [World.size_alloc] at hduo
 exact ⟨(heap_alloc_old _ _ (by simp)).trans (heap_alloc_new _ _),hduo,(h.alloc _).alloc _⟩
theorem below_two (w:World) (o1 o2:Obj):Below w.heap.size w ((w.alloc o1).alloc o2):=((Below.refl _ _).alloc (Nat.le_refl _) _).alloc (by simp) _
theorem size_two (w:World) (o1 o2:Obj):((w.alloc o1).alloc o2).heap.size=w.heap.size+1+1:=by simp
end Go.Proofs.YtehcoffbiplphaaGreat
