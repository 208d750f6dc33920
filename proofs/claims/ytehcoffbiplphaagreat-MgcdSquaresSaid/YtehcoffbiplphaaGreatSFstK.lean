/- Contract: sum.first: the greatest place that holds something; what holds nothing is struck.
   Plain facts for a division without a rest: first terms of products, a term struck. No program in sight.
   What stays while the division goes on: limbs, sums, boxes. -/
import Derived.Test.YtehcoffbiplphaaGreatSTj
set_option linter.unusedVariables false
set_option linter.unusedSimpArgs false
set_option maxHeartbeats 8000000
set_option maxRecDepth 1000000
namespace Cl
open Go Go.RowKit
theorem cmpP_pos {a b:Plc}:0<cmpP a b↔ltP b a:=by
 unfold cmpP
 by_cases h:ltP a b
 · rw [if_pos h]
   exact ⟨fun h2=>by omega,fun h2=>absurd (ltP.trans h h2) (ltP.irrefl a)⟩
 · rw [if_neg h]
   by_cases h2:ltP b a
   · rw [if_pos h2];exact ⟨fun _=>h2,fun _=>by omega⟩
   · rw [if_neg h2];exact ⟨fun h3=>by omega,fun h3=>absurd h3 h2⟩
def zeroP:Plc:=[0,0,0,0,0,0]
theorem zeroP_good (n:Nat):GoodP n zeroP:=⟨rfl,fun x hx=>by simp [zeroP] at hx;omega,fun i hi=>by
 match i with
 | 0=>rfl
 | 1=>rfl
 | 2=>rfl
 | 3=>rfl
 | 4=>rfl
 | 5=>rfl
 | i+6=>exact nth_ge (by simp [zeroP])⟩
structure FstP (D:DataW Value) (n:Nat) (L:Mv) (left:Lit→Bool) (f:Bool) (best:Plc):Prop where
 len:best.length=6
 i64:∀x∈best,I64 x
 some_:f=true→GoodP n best∧coM L best≠0∧(∃t∈L,t.1=best)∧∀q,GoodP n q→Maps.has D (plcLit q)=true→left (plcLit q)=false→coM L q≠0→¬ltP best q
 none_:f=false→best=zeroP∧∀q,GoodP n q→Maps.has D (plcLit q)=true→left (plcLit q)=false→coM L q=0
section
variable {D : DataW Value} {n : Nat} {L : Mv} {left : Lit → Bool} {f : Bool} {best : Plc}
theorem FstP.start (D:DataW Value) (n:Nat) (L:Mv):FstP D n L (Maps.has D) false zeroP:=
 ⟨rfl,(zeroP_good n).i64,fun h=>(by cases h),fun _=>⟨rfl,fun q _ h1 h2=>by rw [h1] at h2;cases h2⟩⟩
theorem strike_cases {p q:Plc}(hp:GoodP n p) (hq:GoodP n q) (h:(left (plcLit q) && !(plcLit q).sameKey (plcLit p))=false):left (plcLit q)=false∨q=p:=by
 cases hl:left (plcLit q) with
 | false=>exact .inl rfl
 | true=>
   rw [hl] at h;exact .inr (hq.inj hp (WideAt.sameKey_eq (by simpa using h)))
theorem FstP.zero (h:FstP D n L left f best) {p:Plc}(hp:GoodP n p):FstP (D.del (plcLit p)) n L (fun z=>left z && !z.sameKey (plcLit p)) f best:=by
 have key:∀q,GoodP n q→Maps.has (D.del (plcLit p)) (plcLit q)=true→(left (plcLit q) && !(plcLit q).sameKey (plcLit p))=false→Maps.has D (plcLit q)=true∧left (plcLit q)=false:=fun q hq h1 h2=>by
  by_cases e:plcLit q=plcLit p
  · rw [e,Maps.has_del_same] at h1;cases h1
  · rw [Maps.has_del_other e] at h1
    refine ⟨h1,?_⟩;rcases strike_cases hp hq h2 with h3 | h3
    · exact h3
    · exact absurd (by rw [h3]) e
 exact ⟨h.len,h.i64,fun hf=>by
  obtain ⟨h1,h2,h3,h4⟩:=h.some_ hf;exact ⟨h1,h2,h3,fun q hq k1 k2 k3=>h4 q hq (key q hq k1 k2).1 (key q hq k1 k2).2 k3⟩,fun hf=>by
  obtain ⟨h1,h2⟩:=h.none_ hf;exact ⟨h1,fun q hq k1 k2=>h2 q hq (key q hq k1 k2).1 (key q hq k1 k2).2⟩⟩
theorem FstP.new (h:FstP D n L left f best) {p:Plc}(hp:GoodP n p) (hin:∃t∈L,t.1=p) (h0:coM L p≠0) (hb:f=false∨ltP best p):FstP D n L (fun z=>left z && !z.sameKey (plcLit p)) true p:=
 ⟨hp.len,hp.i64,fun _=>⟨hp,h0,hin,fun q hq k1 k2 k3 hlt=>by
   rcases strike_cases hp hq k2 with h3 | h3
   · cases hf:f with
     | false=>exact k3 ((h.none_ hf).2 q hq k1 h3)
     | true=>
       rcases hb with hb | hb
       · rw [hf] at hb;cases hb
       · exact (h.some_ hf).2.2.2 q hq k1 h3 k3 (ltP.trans hb hlt)
   · rw [h3] at hlt;exact ltP.irrefl _ hlt⟩,fun h=>(by cases h)⟩
theorem FstP.keep (h:FstP D n L left true best) {p:Plc}(hp:GoodP n p) (hb:¬ltP best p):FstP D n L (fun z=>left z && !z.sameKey (plcLit p)) true best:=
 ⟨h.len,h.i64,fun _=>by
   obtain ⟨h1,h2,h3,h4⟩:=h.some_ rfl;refine ⟨h1,h2,h3,fun q hq k1 k2 k3=> ?_⟩;rcases strike_cases hp hq k2 with h5 | h5
   · exact h4 q hq k1 h5 k3
   · rw [h5];exact hb,fun h=>by cases h⟩
theorem SumD.del {w:World} {B:Nat}(h:SumD w D n B L) {p:Plc}(hp:GoodP n p) (h0:coM L p=0):SumD w (D.del (plcLit p)) n B L:=by
 refine ⟨fun kl hk=> ?_,fun q hq hh=> ?_,fun q hq hh=> ?_,h.isMap.del _⟩
 · by_cases e:kl=plcLit p
   · rw [e,Maps.has_del_same] at hk;cases hk
   · rw [Maps.has_del_other e] at hk
     exact h.key kl hk
 · by_cases e:plcLit q=plcLit p
   · rw [e,Maps.has_del_same] at hh;cases hh
   · rw [Maps.has_del_other e] at hh
     obtain ⟨v,h1,h2⟩:=h.at_ q hq hh;exact ⟨v,fun zd=>by rw [Maps.atKey_del_other e];exact h1 zd,h2⟩
 · by_cases e:plcLit q=plcLit p
   · rw [hq.inj hp e];exact h0
   · rw [Maps.has_del_other e] at hh
     exact h.none q hq hh
end
theorem Row.set6 {w:World} {g:Nat} {t:TypeId} {p:Plc}(h:Row w g t p) (hp:p.length=6) (x0 x1 x2 x3 x4 x5:Int):
 Row ((((((w.setCell ⟨g,0,none⟩ (.int .i64 x0)).setCell ⟨g,1,none⟩ (.int .i64 x1)).setCell ⟨g,2,none⟩ (.int .i64 x2)).setCell ⟨g,3,none⟩ (.int .i64 x3)).setCell ⟨g,4,none⟩ (.int .i64 x4)).setCell ⟨g,5,none⟩ (.int .i64 x5)) g t [x0,x1,x2,x3,x4,x5]:=by
 match p,hp with
 | [a,b,c,d,e,f],_=>exact (((((h.set 0 x0).set 1 x1).set 2 x2).set 3 x3).set 4 x4).set 5 x5
end Cl
namespace Go.Proofs.YtehcoffbiplphaaGreat
open Go.RowKit Cl
attribute [local go_sem ↓] Go.wp_at_zero Go.wp_at_succ
def FirstSaid (w:World) (b nc n B:Nat) (L:Mv) (e:Ending) (w':World):Prop:=
 ∃(f:Bool) (p:Plc) (s:Bool) (A:Option Addr) (k c:Nat) (ls:List Int),e=.returned (.tuple #[plcV p,.agg #[.bool s,.slice A k c],.bool f])∧SumM w' b nc n B L∧Only (fun x=>x=b) w w'∧k≤c∧c≤9223372036854775807∧k≤B∧Limbs w' A k ls∧intZ s ls=coM L p∧p.length=6∧
  (f=true→GoodP n p∧coM L p≠0∧(∃t∈L,t.1=p)∧∀q,GoodP n q→coM L q≠0→¬ltP p q)∧(f=false→∀q,GoodP n q→coM L q=0)
structure FstR (w wr:World) (b n B:Nat) (L:Mv) (D:DataW Value) (best:Plc):Prop where
 sum:SumD wr D n B L
 only:Only (fun x=>x=b) w wr
 row:Row wr (w.heap.size+1+1) 68 best
 r0:Row wr w.heap.size 68 zeroP
 r1:Duo wr (w.heap.size+1) (.bool false) (.slice none 0 0)
theorem lookup_again {W:World} {b nc n:Nat} {D:DataW Value}(hm:W.ownsMap Tryz.prog 68 intEl b nc D) {p:Plc}(hp:GoodP n p) {v:Value} {ps:List MemPlace}(hv:intEl v=some (D.atKey (plcLit p) (.held (.agg #[.bool false,.slice Option.none 0 0])),ps)):
 (Instr.lookup 63 (.map (some b)) (plcV p) false).run Tryz.prog W=.ok v W:=by
 obtain ⟨v',ps',h2,hv'⟩:=hm.lookup plc_law Tryz.underlying63 (zeroInt _) (R:=intEl) rfl (keyOf_plc hp.len hp.i64)
 obtain ⟨s1,A1,k1,c1,rfl,e1⟩:=intEl_inv hv
 obtain ⟨s2,A2,k2,c2,rfl,e2⟩:=intEl_inv hv'
 injection e1 with e1 _
 injection e2 with e2 _
 rw [e1] at e2
 injection e2 with e2
 rw [e2]
 exact h2
theorem plc_size:(Tryz.prog.info? 68).map (·.size)=some 6:=by kernel_rfl
theorem drew_set (w:World) (a:Addr) (v:Value):(w.setCell a v).drew=w.drew.setCell a v:=rfl
theorem ints_of_row {w:World} {g:Nat} {t:TypeId} {p:Plc}(h:Row w g t p) (hp:∀x∈p,I64 x):Ints w (some ⟨g,0,none⟩) p.length p:=
 ⟨rfl,fun _=>⟨g,0,rfl,Row.lt h,fun i hi=>by rw [Nat.zero_add];exact h.cell hi⟩,allI64_nth hp⟩
theorem only_set6 (w:World) (g:Nat) (x0 x1 x2 x3 x4 x5:Int):Only (fun x=>x=g) w ((((((w.setCell ⟨g,0,none⟩ (.int .i64 x0)).setCell ⟨g,1,none⟩ (.int .i64 x1)).setCell ⟨g,2,none⟩ (.int .i64 x2)).setCell ⟨g,3,none⟩ (.int .i64 x3)).setCell ⟨g,4,none⟩ (.int .i64 x4)).setCell ⟨g,5,none⟩ (.int .i64 x5)):=
 (((((((Only.refl (fun x=>x=g) w).setCell (p:=⟨g,0,none⟩) rfl _).setCell (p:=⟨g,1,none⟩) rfl _).setCell (p:=⟨g,2,none⟩) rfl _).setCell (p:=⟨g,3,none⟩) rfl _).setCell (p:=⟨g,4,none⟩) rfl _).setCell (p:=⟨g,5,none⟩) rfl _)
theorem only_new {S:Nat→Prop} {w0 w w':World} {g:Nat}(h:Only S w0 w) (ho:Only (fun x=>x=g) w w') (hg:w0.heap.size≤g):Only S w0 w':=
 ⟨ho.os.trans h.os,ho.tape.trans h.tape,ho.output.trans h.output,Nat.le_trans h.size ho.size,fun i hi hs=>(ho.block i (Nat.lt_of_lt_of_le hi h.size) (by omega)).trans (h.block i hi hs)⟩
theorem limbs_row {w w':World} {A:Option Addr} {n g:Nat} {xs:List Int} {t:TypeId} {ps:Plc}(h:Limbs w A n xs) (hr:Row w g t ps) (ho:Only (fun x=>x=g) w w'):Limbs w' A n xs:=
 ⟨h.len,fun hn=>by
   obtain ⟨bb,o,e2,hb,hc⟩:=h.at_ hn;refine ⟨bb,o,e2,Nat.lt_of_lt_of_le hb ho.size,fun i hi=> ?_⟩;by_cases e3:bb=g
   · exfalso
     have:=hc i hi;subst e3;rw [cell_of_row w _ _ _ _ (0,0) hr] at this;simp [ints] at this
   · rw [ho.cell (p:=⟨bb,o+i,none⟩) hb e3];exact hc i hi,h.ok⟩
theorem limbs_duo {w w':World} {A:Option Addr} {n g:Nat} {xs:List Int} {s:Bool} {A':Option Addr} {k c:Nat}(h:Limbs w A n xs) (hr:Duo w g (.bool s) (.slice A' k c)) (ho:Only (fun x=>x=g) w w'):Limbs w' A n xs:=
 ⟨h.len,fun hn=>by
   obtain ⟨bb,o,e2,hb,hc⟩:=h.at_ hn;refine ⟨bb,o,e2,Nat.lt_of_lt_of_le hb ho.size,fun i hi=> ?_⟩;by_cases e3:bb=g
   · exfalso
     have:=hc i hi;subst e3;unfold Duo at hr;rw [cell_of_row w _ _ _ _ (0,0) hr] at this;generalize o+i=j at this;match j with
     | 0=>simp at this
     | 1=>simp at this
     | j+2=>simp at this
   · rw [ho.cell (p:=⟨bb,o+i,none⟩) hb e3];exact hc i hi,h.ok⟩
theorem sumD_row {w w':World} {D:DataW Value} {n B g:Nat} {L:Mv} {t:TypeId} {ps:Plc}(h:SumD w D n B L) (hr:Row w g t ps) (ho:Only (fun x=>x=g) w w'):SumD w' D n B L:=
 ⟨h.key,fun p hp hh=>by
   obtain ⟨v,h1,s,A,kk,c,ls,e,g1,g2,g3,g4,g5⟩:=h.at_ p hp hh;exact ⟨v,h1,⟨s,A,kk,c,ls,e,g1,g2,g3,limbs_row g4 hr ho,g5⟩⟩,h.none,h.isMap⟩
theorem sumD_duo {w w':World} {D:DataW Value} {n B g:Nat} {L:Mv} {s':Bool} {A':Option Addr} {k' c':Nat}(h:SumD w D n B L) (hr:Duo w g (.bool s') (.slice A' k' c')) (ho:Only (fun x=>x=g) w w'):SumD w' D n B L:=
 ⟨h.key,fun p hp hh=>by
   obtain ⟨v,h1,s,A,kk,c,ls,e,g1,g2,g3,g4,g5⟩:=h.at_ p hp hh;exact ⟨v,h1,⟨s,A,kk,c,ls,e,g1,g2,g3,limbs_duo g4 hr ho,g5⟩⟩,h.none,h.isMap⟩
section
variable {w wr w' : World} {b n B nb r : Nat} {L : Mv} {D D' : DataW Value} {best : Plc} {left : Lit → Bool} {cnt : Nat}
theorem FstR.iter (h:FstR w wr b n B L D best) (hm:wr.ranges Tryz.prog 68 intEl b r nb D' left cnt) (hg:wr.grownBy w' (some r)) (hr:w.heap.size+1+1<r):FstR w w' b n B L D best:=
 ⟨sumD_iter h.sum hm hg,only_iter h.only hg (by omega),(hg.block _ (Row.lt h.row) (fun e=>by injection e;omega)).trans h.row,(hg.block _ (Row.lt h.r0) (fun e=>by injection e;omega)).trans h.r0,h.r1.keep (hg.block _ h.r1.lt (fun e=>by injection e;omega))⟩
theorem FstR.bel (h:FstR w wr b n B L D best) (hb:Below wr.heap.size wr w'):FstR w w' b n B L D best:=
 ⟨h.sum.bel hb,only_bel h.only hb,(hb.block _ (Row.lt h.row)).trans h.row,(hb.block _ (Row.lt h.r0)).trans h.r0,h.r1.bel hb⟩
theorem FstR.turn (h:FstR w wr b n B L D best) (hm:wr.ownsMap Tryz.prog 68 intEl b nb D) (hg:wr.grownBy w' (some b)) (hb:b<w.heap.size) {p:Plc}(hp:GoodP n p) (h0:coM L p=0):FstR w w' b n B L (D.del (plcLit p)) best:=by
 have ho:Only (fun x=>x=b) wr w':=(Only.of_grown hg).mono (fun i hi=>by injection hi with hi;exact hi.symm)
 exact ⟨(sumD_map h.sum hm ho).del hp h0,h.only.trans ho,(ho.block _ (Row.lt h.row) (by omega)).trans h.row,(ho.block _ (Row.lt h.r0) (by omega)).trans h.r0,h.r1.keep (ho.block _ h.r1.lt (by omega))⟩
theorem FstR.put (h:FstR w wr b n B L D best) (hl:best.length=6) (x0 x1 x2 x3 x4 x5:Int):
 FstR w ((((((wr.setCell ⟨w.heap.size+1+1,0,none⟩ (.int .i64 x0)).setCell ⟨w.heap.size+1+1,1,none⟩ (.int .i64 x1)).setCell ⟨w.heap.size+1+1,2,none⟩ (.int .i64 x2)).setCell ⟨w.heap.size+1+1,3,none⟩ (.int .i64 x3)).setCell ⟨w.heap.size+1+1,4,none⟩ (.int .i64 x4)).setCell ⟨w.heap.size+1+1,5,none⟩ (.int .i64 x5)) b n B L D [x0,x1,x2,x3,x4,x5]:=by
 have hrow:=h.row.set6 hl x0 x1 x2 x3 x4 x5
 have ho:Only (fun x=>x=w.heap.size+1+1) wr ((((((wr.setCell ⟨w.heap.size+1+1,0,none⟩ (.int .i64 x0)).setCell ⟨w.heap.size+1+1,1,none⟩ (.int .i64 x1)).setCell ⟨w.heap.size+1+1,2,none⟩ (.int .i64 x2)).setCell ⟨w.heap.size+1+1,3,none⟩ (.int .i64 x3)).setCell ⟨w.heap.size+1+1,4,none⟩ (.int .i64 x4)).setCell ⟨w.heap.size+1+1,5,none⟩ (.int .i64 x5)):=
  only_set6 wr _ x0 x1 x2 x3 x4 x5
 generalize ((((((wr.setCell ⟨w.heap.size+1+1,0,none⟩ (.int .i64 x0)).setCell ⟨w.heap.size+1+1,1,none⟩ (.int .i64 x1)).setCell ⟨w.heap.size+1+1,2,none⟩ (.int .i64 x2)).setCell ⟨w.heap.size+1+1,3,none⟩ (.int .i64 x3)).setCell ⟨w.heap.size+1+1,4,none⟩ (.int .i64 x4)).setCell ⟨w.heap.size+1+1,5,none⟩ (.int .i64 x5))=w2 at*
 refine ⟨sumD_row h.sum h.row ho,only_new h.only ho (by omega),hrow,(ho.block _ (Row.lt h.r0) (by omega)).trans h.r0,h.r1.keep (ho.block _ h.r1.lt (by omega))⟩
end
theorem mfirst (b nc n B:Nat) (L:Mv) (w:World) (hs:SumM w b nc n B L) (hB:B≤10000000):
 Calls Tryz.prog 41 #[.map (some b)] w (FirstSaid w b nc n B L):=by
 obtain ⟨D0,hm,hd⟩:=hs
 have hbb:=hm.lt
 have Hd:=hiD hd
 have hm0:=hm
 clear hd
 have hm3:(((w.alloc (.cells #[.int .i64 0,.int .i64 0,.int .i64 0,.int .i64 0,.int .i64 0,.int .i64 0] 68)).alloc (.cells #[.bool false,.slice none 0 0] 41)).alloc (.cells #[.int .i64 0,.int .i64 0,.int .i64 0,.int .i64 0,.int .i64 0,.int .i64 0] 68)).ownsMap Tryz.prog 68 intEl b nc D0:=((hm.alloc _).alloc _).alloc _
 have hb3:Below w.heap.size w (((w.alloc (.cells #[.int .i64 0,.int .i64 0,.int .i64 0,.int .i64 0,.int .i64 0,.int .i64 0] 68)).alloc (.cells #[.bool false,.slice none 0 0] 41)).alloc (.cells #[.int .i64 0,.int .i64 0,.int .i64 0,.int .i64 0,.int .i64 0,.int .i64 0] 68)):=((bRr.alloc lRr _).alloc (by simp) _).alloc (by simp;omega) _
 have hr0:Row (((w.alloc (.cells #[.int .i64 0,.int .i64 0,.int .i64 0,.int .i64 0,.int .i64 0,.int .i64 0] 68)).alloc (.cells #[.bool false,.slice none 0 0] 41)).alloc (.cells #[.int .i64 0,.int .i64 0,.int .i64 0,.int .i64 0,.int .i64 0,.int .i64 0] 68)) w.heap.size 68 zeroP:=(heap_alloc_old _ _ (by simp;omega)).trans ((heap_alloc_old _ _ (by simp)).trans (heap_alloc_new _ _))
 have hr1:Duo (((w.alloc (.cells #[.int .i64 0,.int .i64 0,.int .i64 0,.int .i64 0,.int .i64 0,.int .i64 0] 68)).alloc (.cells #[.bool false,.slice none 0 0] 41)).alloc (.cells #[.int .i64 0,.int .i64 0,.int .i64 0,.int .i64 0,.int .i64 0,.int .i64 0] 68)) (w.heap.size+1) (.bool false) (.slice none 0 0):=by
  have h1:=Duo.new (w.alloc (.cells #[.int .i64 0,.int .i64 0,.int .i64 0,.int .i64 0,.int .i64 0,.int .i64 0] 68)) (.bool false) (.slice none 0 0);rw [World.size_alloc] at h1;exact (heap_alloc_old _ _ (by simp)).trans h1
 have hr2:Row (((w.alloc (.cells #[.int .i64 0,.int .i64 0,.int .i64 0,.int .i64 0,.int .i64 0,.int .i64 0] 68)).alloc (.cells #[.bool false,.slice none 0 0] 41)).alloc (.cells #[.int .i64 0,.int .i64 0,.int .i64 0,.int .i64 0,.int .i64 0,.int .i64 0] 68)) (w.heap.size+1+1) 68 zeroP:=by
  have h1:=heap_alloc_new ((w.alloc (.cells #[.int .i64 0,.int .i64 0,.int .i64 0,.int .i64 0,.int .i64 0,.int .i64 0] 68)).alloc (.cells #[.bool false,.slice none 0 0] 41)) (.cells #[.int .i64 0,.int .i64 0,.int .i64 0,.int .i64 0,.int .i64 0,.int .i64 0] 68);rw [World.size_alloc,World.size_alloc] at h1;exact h1
 have hs3:(((w.alloc (.cells #[.int .i64 0,.int .i64 0,.int .i64 0,.int .i64 0,.int .i64 0,.int .i64 0] 68)).alloc (.cells #[.bool false,.slice none 0 0] 41)).alloc (.cells #[.int .i64 0,.int .i64 0,.int .i64 0,.int .i64 0,.int .i64 0,.int .i64 0] 68)).heap.size=w.heap.size+1+1+1:=by simp
 have Hs3:=hiD hs3
 have Hr0:=hiD hr0
 have Hr1:=hiD hr1
 have Hr2:=hiD hr2
 have Hb3:=hiD hb3
 clear hs3 hr0 hr1 hr2 hb3 hm0
 go_enter Tryz.func41,Tryz.ntmps41
 go_wp2_with (at_range;go_must (refine wpList_range_own _ rfl _ 63 rfl 68 41 plc_law Tryz.underlying63 intEl b nc D0 rfl hm3 ?_);intro w0 hrg0 hg0 hs0)
 go_frame
 generalize (((w.alloc (.cells #[.int .i64 0,.int .i64 0,.int .i64 0,.int .i64 0,.int .i64 0,.int .i64 0] 68)).alloc (.cells #[.bool false,.slice none 0 0] 41)).alloc (.cells #[.int .i64 0,.int .i64 0,.int .i64 0,.int .i64 0,.int .i64 0,.int .i64 0] 68))=wt at*
 have hlr:w.heap.size+1+1<wt.heap.size:=by rw [Hs3.out];omega
 have hR0:Hid (FstR w w0 b n B L D0 zeroP):=by
  have hb0:Below w.heap.size w w0:=Hb3.out.grown hg0 Hb3.out.size (by simp);have hk:∀i,i<wt.heap.size→w0.heap[i]? =wt.heap[i]? :=fun i hi=>hg0.block i hi (by simp);exact ⟨Hd.out.bel hb0,only_of_bel hb0,(hk _ (by omega)).trans Hr2.out,(hk _ (by omega)).trans Hr0.out,Hr1.out.keep (hk _ (by omega))⟩
 have hF0:Hid (FstP D0 n L (Maps.has D0) false zeroP):=FstP.start D0 n L
 go_loopw [6] (fun v wr=>∃(f:Bool) (best:Plc) (left:Lit→Bool) (cnt:Nat) (D:DataW Value),v=.bool f∧wr.ranges Tryz.prog 68 intEl b wt.heap.size nc D left cnt∧Hid (FstR w wr b n B L D best)∧Hid (FstP D n L left f best)) (fun _ wr=>wr.rangeLeft b wt.heap.size)
 case atStart=>exact ⟨_,_,_,_,D0,rfl,hrg0,hR0,hF0⟩
 case round=>
  obtain ⟨f,best,left,cnt,D,rfl,hrg,hR,hF⟩:=hrel;clear hrg0 hg0 hs0 hm3 hR0 hF0 Hr0 Hr1 Hr2 hm;go_wp2_with (at_next;go_must (refine wpList_next_ranges _ rfl _ rfl 68 plc_law intEl plcV mkZ plcV_inv mkZ_inv b wt.heap.size nc D left cnt rfl hrg ?_ ?_))
  · intro hc0 hl0
    have hbg:GoodP n best:=by
     cases f with
     | true=>exact (hF.out.some_ rfl).1
     | false=>rw [(hF.out.none_ rfl).1];exact zeroP_good n
    have hown:=hrg.owns;obtain ⟨v,ps,hrun,hv⟩:=hown.drew.lookup plc_law Tryz.underlying63 (zeroInt _) (R:=intEl) rfl (keyOf_plc hbg.len hbg.i64);have hlook:=(hR.out.sum.bel (bRr.drew)).look hbg hv;obtain ⟨s1,A1,k1,c1,ls1,rfl,g1,g2,g3,g4,g5⟩:=hlook.ex;obtain ⟨x0,x1,x2,x3,x4,x5,hbe⟩:∃x0 x1 x2 x3 x4 x5,best=[x0,x1,x2,x3,x4,x5]:=by
     match best,hbg.len with
     | [x0,x1,x2,x3,x4,x5],_=>exact ⟨_,_,_,_,_,_,rfl⟩
    have hsome:f=true→GoodP n best∧coM L best≠0∧(∃t∈L,t.1=best)∧∀q,GoodP n q→coM L q≠0→¬ltP best q:=fun hf=>by
     obtain ⟨k1,k2,k3,k4⟩:=hF.out.some_ hf;refine ⟨k1,k2,k3,fun q hq h0=> ?_⟩;cases hh:Maps.has D (plcLit q) with
     | false=>exact absurd (hR.out.sum.none q hq hh) h0
     | true=>exact k4 q hq hh (hl0 _) h0
    have hnone:f=false→∀q,GoodP n q→coM L q=0:=fun hf q hq=>by
     cases hh:Maps.has D (plcLit q) with
     | false=>exact hR.out.sum.none q hq hh
     | true=>exact (hF.out.none_ hf).2 q hq hh (hl0 _)
    have Hsome:=hiD hsome;have Hnone:=hiD hnone;have Hl6:=hiD hbg.len;have hb2:Hid (Below wr.heap.size wr wr.drew):=bRr.drew;have hR2:Hid (FstR w wr.drew b n B L D best):=hR.out.bel hb2.out;have Hown:Hid (wr.drew.ownsMap Tryz.prog 68 intEl b nc D):=map_bel hown hb2.out;have hrow:=hR.out.row;rw [hbe] at hrow;have v0:wr.cell? ⟨w.heap.size+1+1,0,none⟩=some (.int .i64 x0):=hrow.cell (i:=0) (by show 0<6;omega);have v1:wr.cell? ⟨w.heap.size+1+1,1,none⟩=some (.int .i64 x1):=hrow.cell (i:=1) (by show 1<6;omega);have v2:wr.cell? ⟨w.heap.size+1+1,2,none⟩=some (.int .i64 x2):=hrow.cell (i:=2) (by show 2<6;omega);have v3:wr.cell? ⟨w.heap.size+1+1,3,none⟩=some (.int .i64 x3):=hrow.cell (i:=3) (by show 3<6;omega);have v4:wr.cell? ⟨w.heap.size+1+1,4,none⟩=some (.int .i64 x4):=hrow.cell (i:=4) (by show 4<6;omega);have v5:wr.cell? ⟨w.heap.size+1+1,5,none⟩=some (.int .i64 x5):=hrow.cell (i:=5) (by show 5<6;omega);have q0:wr.cell? ⟨w.heap.size,0,none⟩=some (.int .i64 0):=hR.out.r0.cell (i:=0) (by show 0<6;omega);have q1:wr.cell? ⟨w.heap.size,1,none⟩=some (.int .i64 0):=hR.out.r0.cell (i:=1) (by show 1<6;omega);have q2:wr.cell? ⟨w.heap.size,2,none⟩=some (.int .i64 0):=hR.out.r0.cell (i:=2) (by show 2<6;omega);have q3:wr.cell? ⟨w.heap.size,3,none⟩=some (.int .i64 0):=hR.out.r0.cell (i:=3) (by show 3<6;omega);have q4:wr.cell? ⟨w.heap.size,4,none⟩=some (.int .i64 0):=hR.out.r0.cell (i:=4) (by show 4<6;omega);have q5:wr.cell? ⟨w.heap.size,5,none⟩=some (.int .i64 0):=hR.out.r0.cell (i:=5) (by show 5<6;omega);have q6:=hR.out.r1.cell0;have q7:=hR.out.r1.cell1;have f0:=Row.frozen hR.out.r0 0;have f1:=Row.frozen hR.out.r0 1;have f2:=Row.frozen hR.out.r0 2;have f3:=Row.frozen hR.out.r0 3;have f4:=Row.frozen hR.out.r0 4;have f5:=Row.frozen hR.out.r0 5;have f6:=hR.out.r1.frozen 0;have f7:=hR.out.r1.frozen 1;(have hpv:plcV best=.agg #[.int .i64 x0,.int .i64 x1,.int .i64 x2,.int .i64 x3,.int .i64 x4,.int .i64 x5]:=by rw [hbe];rfl);rw [hpv] at hrun;have Fin:Hid (FirstSaid w b nc n B L (.returned (.tuple #[.agg #[.int .i64 x0,.int .i64 x1,.int .i64 x2,.int .i64 x3,.int .i64 x4,.int .i64 x5],.agg #[.bool s1,.slice A1 k1 c1],.bool f])) ((((((((wr.drew.setCell ⟨w.heap.size,0,none⟩ (.int .i64 x0)).setCell ⟨w.heap.size,1,none⟩ (.int .i64 x1)).setCell ⟨w.heap.size,2,none⟩ (.int .i64 x2)).setCell ⟨w.heap.size,3,none⟩ (.int .i64 x3)).setCell ⟨w.heap.size,4,none⟩ (.int .i64 x4)).setCell ⟨w.heap.size,5,none⟩ (.int .i64 x5)).setCell ⟨w.heap.size+1,0,none⟩ (.bool s1)).setCell ⟨w.heap.size+1,1,none⟩ (.slice A1 k1 c1))∧
     (((((((((wr.drew.setCell ⟨w.heap.size,0,none⟩ (.int .i64 x0)).setCell ⟨w.heap.size,1,none⟩ (.int .i64 x1)).setCell ⟨w.heap.size,2,none⟩ (.int .i64 x2)).setCell ⟨w.heap.size,3,none⟩ (.int .i64 x3)).setCell ⟨w.heap.size,4,none⟩ (.int .i64 x4)).setCell ⟨w.heap.size,5,none⟩ (.int .i64 x5)).setCell ⟨w.heap.size+1,0,none⟩ (.bool s1)).setCell ⟨w.heap.size+1,1,none⟩ (.slice A1 k1 c1)).heap[w.heap.size]? =some (.cells #[.int .i64 x0,.int .i64 x1,.int .i64 x2,.int .i64 x3,.int .i64 x4,.int .i64 x5] 68 (0,0))∧((((((((wr.drew.setCell ⟨w.heap.size,0,none⟩ (.int .i64 x0)).setCell ⟨w.heap.size,1,none⟩ (.int .i64 x1)).setCell ⟨w.heap.size,2,none⟩ (.int .i64 x2)).setCell ⟨w.heap.size,3,none⟩ (.int .i64 x3)).setCell ⟨w.heap.size,4,none⟩ (.int .i64 x4)).setCell ⟨w.heap.size,5,none⟩ (.int .i64 x5)).setCell ⟨w.heap.size+1,0,none⟩ (.bool s1)).setCell ⟨w.heap.size+1,1,none⟩ (.slice A1 k1 c1)).heap[w.heap.size+1]? =some (.cells #[.bool s1,.slice A1 k1 c1] 41 (0,0)))):=by
     have o1:=only_set6 wr.drew w.heap.size x0 x1 x2 x3 x4 x5;have r1:=hR2.out.r0.set6 rfl x0 x1 x2 x3 x4 x5;have s1':=sumD_row hR2.out.sum hR2.out.r0 o1;have m1:((((((wr.drew.setCell ⟨w.heap.size,0,none⟩ (.int .i64 x0)).setCell ⟨w.heap.size,1,none⟩ (.int .i64 x1)).setCell ⟨w.heap.size,2,none⟩ (.int .i64 x2)).setCell ⟨w.heap.size,3,none⟩ (.int .i64 x3)).setCell ⟨w.heap.size,4,none⟩ (.int .i64 x4)).setCell ⟨w.heap.size,5,none⟩ (.int .i64 x5)).ownsMap Tryz.prog 68 intEl b nc D:=Hown.out.kept (grown_of_only o1) (fun e=>by injection e;omega);have l1:=limbs_row g4 hR2.out.r0 o1;have d1:=hR2.out.r1.keep (o1.block _ hR2.out.r1.lt (by omega));have oo:=only_new hR2.out.only o1 lRr;generalize ((((((wr.drew.setCell ⟨w.heap.size,0,none⟩ (.int .i64 x0)).setCell ⟨w.heap.size,1,none⟩ (.int .i64 x1)).setCell ⟨w.heap.size,2,none⟩ (.int .i64 x2)).setCell ⟨w.heap.size,3,none⟩ (.int .i64 x3)).setCell ⟨w.heap.size,4,none⟩ (.int .i64 x4)).setCell ⟨w.heap.size,5,none⟩ (.int .i64 x5))=wq at*
     have o2:Only (fun x=>x=w.heap.size+1) wq ((wq.setCell ⟨w.heap.size+1,0,none⟩ (.bool s1)).setCell ⟨w.heap.size+1,1,none⟩ (.slice A1 k1 c1)):=
      ((Only.refl (fun x=>x=w.heap.size+1) wq).setCell (p:=⟨w.heap.size+1,0,none⟩) rfl _).setCell (p:=⟨w.heap.size+1,1,none⟩) rfl _
     have d2:=d1.set (.bool s1) (.slice A1 k1 c1);have hlt0:w.heap.size<wq.heap.size:=Row.lt r1;refine ⟨⟨f,best,s1,A1,k1,c1,ls1,by rw [hpv],⟨D,m1.kept (grown_of_only o2) (fun e=>by injection e;omega),sumD_duo s1' d1 o2⟩,only_new oo o2 (by omega),g1,g2,g3,limbs_duo l1 d1 o2,g5,Hl6.out,Hsome.out,Hnone.out⟩,?_,d2⟩;exact (o2.block _ hlt0 (by omega)).trans r1
    have hrun2:=lookup_again (hown.kept (grown_of_only (only_set6 wr w.heap.size x0 x1 x2 x3 x4 x5)) (fun e=>by injection e;omega)).drew hbg hv;rw [hpv] at hrun2;clear hbg hown hv hlook g4 g5 hbe hsome hnone hrow hpv hrg hR hl0;(go_wp2_with fail);go_region
    simp only [drew_set];obtain ⟨F1,F2,F3⟩:=Fin.out;generalize ((((((((wr.drew.setCell ⟨w.heap.size,0,none⟩ (.int .i64 x0)).setCell ⟨w.heap.size,1,none⟩ (.int .i64 x1)).setCell ⟨w.heap.size,2,none⟩ (.int .i64 x2)).setCell ⟨w.heap.size,3,none⟩ (.int .i64 x3)).setCell ⟨w.heap.size,4,none⟩ (.int .i64 x4)).setCell ⟨w.heap.size,5,none⟩ (.int .i64 x5)).setCell ⟨w.heap.size+1,0,none⟩ (.bool s1)).setCell ⟨w.heap.size+1,1,none⟩ (.slice A1 k1 c1))=wf at*
    clear Fin;go_wp2_with fail
    (try simp only [Exit.inBlock,Exit.then])
    exact bodyPost_ret (results_cell2_tmp (fn:=Tryz.f41) rfl _ _ _ _ _ _ _ _ _ _ _ _ rfl F2 rfl F3 Tryz.underlying68 rfl plc_size Tryz.underlying41 rfl aint_size) rfl F1
  · intro p zc kl y1 y2 w10 cnt' hkey hlk hR1 hat hrg1 hlt hg1 hs1 hen
    have hR10:=hR.out.iter hrg hg1 hlr;obtain ⟨rfl,hgood,hin,hhas,h1,h2,h3,ls,hLm,hz⟩:=entry_in hR10.sum hkey hR1 hat
    obtain ⟨cs,cA,ck,cc⟩:=zc;simp only at h1 h2 h3 hLm hz;have hm0:wr.rangeLeft b wt.heap.size=cnt:=hrg.left_eq;have Hgood:=hiD hgood;have Hin:=hiD hin;have HLm:=hiD hLm;have Hz:=hiD hz;have Hr1:=hiD hrg1;have HR10:=hiD hR10;(have hlow:w.heap.size+1+1<w10.heap.size:=by have:=hrg1.lt;omega);obtain ⟨x0,x1,x2,x3,x4,x5,hpe⟩:∃x0 x1 x2 x3 x4 x5,p=[x0,x1,x2,x3,x4,x5]:=by
     match p,hgood.len with
     | [x0,x1,x2,x3,x4,x5],_=>exact ⟨_,_,_,_,_,_,rfl⟩
    (have hpv:plcV p=.agg #[.int .i64 x0,.int .i64 x1,.int .i64 x2,.int .i64 x3,.int .i64 x4,.int .i64 x5]:=by rw [hpe];rfl);have hzv:mkZ ⟨cs,cA,ck,cc⟩=.agg #[.bool cs,.slice cA ck cc]:=rfl;(have hkey':keyOf Tryz.prog 68 (.agg #[.int .i64 x0,.int .i64 x1,.int .i64 x2,.int .i64 x3,.int .i64 x4,.int .i64 x5])=some (plcLit p):=by rw [← hpv];exact hkey);have Hkey:=hiD hkey';rw [hpv,hzv] at hen ⊢;have Hpe:=hiD hpe;clear hpv hzv hpe hgood hin hhas hlk hLm hz hkey hkey' hR1 hat hrg1 hg1 hs1 hrg hR10 hR;(go_wp2_with fail);have b2':Below w10.heap.size w10 ((w10.alloc (.cells #[.int .i64 x0,.int .i64 x1,.int .i64 x2,.int .i64 x3,.int .i64 x4,.int .i64 x5] 68)).alloc (.cells #[.bool cs,.slice cA ck cc] 41)):=(bRr.alloc lRr _).alloc (by simp) _;have hrow:Row ((w10.alloc (.cells #[.int .i64 x0,.int .i64 x1,.int .i64 x2,.int .i64 x3,.int .i64 x4,.int .i64 x5] 68)).alloc (.cells #[.bool cs,.slice cA ck cc] 41)) w10.heap.size 68 [x0,x1,x2,x3,x4,x5]:=(heap_alloc_old _ _ (by simp)).trans (heap_alloc_new _ _);(have hszt:w10.heap.size+1<((w10.alloc (.cells #[.int .i64 x0,.int .i64 x1,.int .i64 x2,.int .i64 x3,.int .i64 x4,.int .i64 x5] 68)).alloc (.cells #[.bool cs,.slice cA ck cc] 41)).heap.size:=by simp);generalize ((w10.alloc (.cells #[.int .i64 x0,.int .i64 x1,.int .i64 x2,.int .i64 x3,.int .i64 x4,.int .i64 x5] 68)).alloc (.cells #[.bool cs,.slice cA ck cc] 41))=wq at*
    have HLt:=hiD (HLm.out.bel b2');refine (zsign_any cs cA ck cc ls wq HLt.out h1 h2 (by omega)).mono ?_;rintro e w11 ⟨rfl,hb11⟩;have hb1011:Below w10.heap.size w10 w11:=b2'.tm hb11;have HR11:Hid (FstR w w11 b n B L D best):=HR10.out.bel hb1011;have Hrg11:Hid (w11.ranges Tryz.prog 68 intEl b wt.heap.size nc D (fun z=>left z && !z.sameKey (plcLit p)) cnt'):=Hr1.out.kept (grown_of_below hb1011) (by simp) (by simp);have hrow11:Row w11 w10.heap.size 68 [x0,x1,x2,x3,x4,x5]:=hrow.below hb11 (by omega);have Hrow11:=hiD hrow11;(have hzv:ZVal (cs && decide (0<lmN ls ck)) (ls.take (lmN ls ck)) (coM L p):=by rw [← Hz.out];exact intZ_made HLm.out.ok HLm.out.len cs);(have hzl:(ls.take (lmN ls ck)).length=lmN ls ck:=by rw [List.length_take,HLm.out.len];have:=lmN_le ls ck;omega);have hz0':=hzv.zero_iff;rw [hzl] at hz0';have v0:w11.cell? ⟨w10.heap.size,0,none⟩=some (.int .i64 x0):=hrow11.cell (i:=0) (by show 0<6;omega);have v1:w11.cell? ⟨w10.heap.size,1,none⟩=some (.int .i64 x1):=hrow11.cell (i:=1) (by show 1<6;omega);have v2:w11.cell? ⟨w10.heap.size,2,none⟩=some (.int .i64 x2):=hrow11.cell (i:=2) (by show 2<6;omega);have v3:w11.cell? ⟨w10.heap.size,3,none⟩=some (.int .i64 x3):=hrow11.cell (i:=3) (by show 3<6;omega);have v4:w11.cell? ⟨w10.heap.size,4,none⟩=some (.int .i64 x4):=hrow11.cell (i:=4) (by show 4<6;omega);have v5:w11.cell? ⟨w10.heap.size,5,none⟩=some (.int .i64 x5):=hrow11.cell (i:=5) (by show 5<6;omega);clear hzv hzl b2' hb11 hb1011 hrow hrow11 hen;by_cases h0:lmN ls ck=0
    · have hsg:signN cs (lmN ls ck)=0:=by rw [h0];rfl
      rw [hsg];have hco:Hid (coM L p=0):=hz0'.2 h0;clear hsg h0 hz0';(go_wp2_with (at_delete;go_must (refine wpList_delete_ranges _ rfl _ _ 63 68 rfl 41 plc_law Tryz.underlying63 intEl b wt.heap.size nc D _ cnt' rfl Hrg11.out _ _ rfl Hkey.out ?_);intro w12 cnt2 hrg2 hle hturn;go_frame));rw [Maps.strike_twice] at hrg2;have HR12:Hid (FstR w w12 b n B L (D.del (plcLit p)) best):=HR11.out.turn Hrg11.out.owns hturn.grown hbb Hgood.out hco.out;have HF12:Hid (FstP (D.del (plcLit p)) n L (fun z=>left z && !z.sameKey (plcLit p)) f best):=hF.out.zero Hgood.out;clear hturn;go_roundw
      case rel=>exact ⟨f,best,_,cnt2,_,rfl,hrg2,HR12,HF12⟩
      case measure=>rw [hrg2.left_eq,hm0];omega
    · have hsg:signN cs (lmN ls ck)≠0:=by
       obtain ⟨k,hk⟩:∃k,lmN ls ck=k+1:=⟨lmN ls ck - 1,by omega⟩;rw [hk];cases cs
       · show (1:Int)≠0;decide
       · show (-1:Int)≠0;decide
      have hco:Hid (coM L p≠0):=fun e=>h0 (hz0'.1 e);generalize signN cs (lmN ls ck)=sg at*
      have hs1':(sg==0)=false:=beq_eq_false_iff_ne.2 hsg;clear hsg h0 hz0';have hblen:=hF.out.len;obtain ⟨b0,b1,b2,b3,b4,b5,hbe⟩:∃b0 b1 b2 b3 b4 b5,best=[b0,b1,b2,b3,b4,b5]:=by
       match best,hblen with
       | [b0,b1,b2,b3,b4,b5],_=>exact ⟨_,_,_,_,_,_,rfl⟩
      have f0:=Row.frozen HR11.out.row 0;have f1:=Row.frozen HR11.out.row 1;have f2:=Row.frozen HR11.out.row 2;have f3:=Row.frozen HR11.out.row 3;have f4:=Row.frozen HR11.out.row 4;have f5:=Row.frozen HR11.out.row 5;have hPut:Hid (∀k,FstR w (((((((w11.drewN k).setCell ⟨w.heap.size+1+1,0,none⟩ (.int .i64 x0)).setCell ⟨w.heap.size+1+1,1,none⟩ (.int .i64 x1)).setCell ⟨w.heap.size+1+1,2,none⟩ (.int .i64 x2)).setCell ⟨w.heap.size+1+1,3,none⟩ (.int .i64 x3)).setCell ⟨w.heap.size+1+1,4,none⟩ (.int .i64 x4)).setCell ⟨w.heap.size+1+1,5,none⟩ (.int .i64 x5)) b n B L D [x0,x1,x2,x3,x4,x5]∧(((((((w11.drewN k).setCell ⟨w.heap.size+1+1,0,none⟩ (.int .i64 x0)).setCell ⟨w.heap.size+1+1,1,none⟩ (.int .i64 x1)).setCell ⟨w.heap.size+1+1,2,none⟩ (.int .i64 x2)).setCell ⟨w.heap.size+1+1,3,none⟩ (.int .i64 x3)).setCell ⟨w.heap.size+1+1,4,none⟩ (.int .i64 x4)).setCell ⟨w.heap.size+1+1,5,none⟩ (.int .i64 x5)).ranges Tryz.prog 68 intEl b wt.heap.size nc D (fun z=>left z && !z.sameKey (plcLit p)) cnt'):=fun k=>by
       have hbk:Below w11.heap.size w11 (w11.drewN k):=below_drewN bRr k;refine ⟨(HR11.out.bel hbk).put hblen x0 x1 x2 x3 x4 x5,(Hrg11.out.kept (grown_of_below hbk) (by simp) (by simp)).kept (grown_of_only (only_set6 _ _ x0 x1 x2 x3 x4 x5)) (fun e=>by injection e;omega) (fun e=>by injection e;omega)⟩
      (have hNew:Hid ((f=false∨ltP best p)→FstP D n L (fun z=>left z && !z.sameKey (plcLit p)) true [x0,x1,x2,x3,x4,x5]):=fun h=>by rw [← Hpe.out];exact hF.out.new Hgood.out Hin.out hco.out h);have hrb:=HR11.out.row;rw [hbe] at hrb;have q0:w11.cell? ⟨w.heap.size+1+1,0,none⟩=some (.int .i64 b0):=hrb.cell (i:=0) (by show 0<6;omega);have q1:w11.cell? ⟨w.heap.size+1+1,1,none⟩=some (.int .i64 b1):=hrb.cell (i:=1) (by show 1<6;omega);have q2:w11.cell? ⟨w.heap.size+1+1,2,none⟩=some (.int .i64 b2):=hrb.cell (i:=2) (by show 2<6;omega);have q3:w11.cell? ⟨w.heap.size+1+1,3,none⟩=some (.int .i64 b3):=hrb.cell (i:=3) (by show 3<6;omega);have q4:w11.cell? ⟨w.heap.size+1+1,4,none⟩=some (.int .i64 b4):=hrb.cell (i:=4) (by show 4<6;omega);have q5:w11.cell? ⟨w.heap.size+1+1,5,none⟩=some (.int .i64 b5):=hrb.cell (i:=5) (by show 5<6;omega);clear hrb;have Hbe:=hiD hbe;clear hblen hbe;cases f with
      | false=>
        have HN:=hiD (hNew.out (.inl rfl));(go_wp2_with fail);go_quiet (fail)
        obtain ⟨R1,R2⟩:=hPut.out nq;have HR1:=hiD R1;have HR2:=hiD R2;clear R1 R2;(go_wp2_with fail);go_roundw
        case rel=>exact ⟨true,_,_,cnt',D,rfl,HR2.out,HR1,HN⟩
        case measure=>rw [HR2.out.left_eq,hm0];omega
      | true=>
        have HI1:Hid (∀N,Ints (w11.drewN N) (some ⟨w10.heap.size,0,none⟩) 6 [x0,x1,x2,x3,x4,x5]):=fun N=>(ints_of_row Hrow11.out (by rw [← Hpe.out];exact Hgood.out.i64)).drewN N;have HI2:Hid (∀N,Ints (w11.drewN N) (some ⟨w.heap.size+1+1,0,none⟩) 6 [b0,b1,b2,b3,b4,b5]):=fun N=>by
         have h1:=HR11.out.row;rw [Hbe.out] at h1;exact (ints_of_row h1 (by rw [← Hbe.out];exact hF.out.i64)).drewN N
        have Cs:Hid (∀N,Calls Tryz.prog 78 #[.slice (some ⟨w10.heap.size,0,none⟩) 6 6,.slice (some ⟨w.heap.size+1+1,0,none⟩) 6 6] (w11.drewN N) fun e w'=>e=.returned (.int .i64 (cmpP p best))∧w11.drewN N=w'):=fun N=>by
         rw [Hpe.out,Hbe.out];exact scompare (some ⟨w10.heap.size,0,none⟩) (some ⟨w.heap.size+1+1,0,none⟩) 6 6 6 _ _ _ (HI1.out N) (HI2.out N) (by omega)
        by_cases hlt2:ltP best p
        · have HN:=hiD (hNew.out (.inr hlt2))
          have hcm:0<cmpP p best:=cmpP_pos.2 hlt2;generalize cmpP p best=cm at*
          clear hlt2;(go_wp2_with fail);go_quiet ((go_at_call 78;first | exact quiet_add_left (Cs.out _) | exact quiet_left (Cs.out _)))
          obtain ⟨R1,R2⟩:=hPut.out nq;have HR1:=hiD R1;have HR2:=hiD R2;clear R1 R2;(go_wp2_with fail);go_roundw
          case rel=>exact ⟨true,_,_,cnt',D,rfl,HR2.out,HR1,HN⟩
          case measure=>rw [HR2.out.left_eq,hm0];omega
        · have HN:=hiD (hF.out.keep Hgood.out hlt2)
          have hcm:¬0<cmpP p best:=fun h=>hlt2 (cmpP_pos.1 h);generalize cmpP p best=cm at*
          clear hlt2;(go_wp2_with fail);go_quiet ((go_at_call 78;first | exact quiet_add_left (Cs.out _) | exact quiet_left (Cs.out _)))
          have hbk:Below w11.heap.size w11 (w11.drewN nq):=below_drewN bRr nq;have HR1:Hid (FstR w (w11.drewN nq) b n B L D best):=HR11.out.bel hbk;have HR2:Hid ((w11.drewN nq).ranges Tryz.prog 68 intEl b wt.heap.size nc D (fun z=>left z && !z.sameKey (plcLit p)) cnt'):=Hrg11.out.kept (grown_of_below hbk) (by simp) (by simp);clear hbk;(go_wp2_with fail);go_roundw
          case rel=>exact ⟨true,best,_,cnt',D,rfl,HR2.out,HR1,HN⟩
          case measure=>rw [HR2.out.left_eq,hm0];omega
end Go.Proofs.YtehcoffbiplphaaGreat
namespace Cl
section
variable {n : Nat}
theorem mul_lead {s t:Trm} {L M:Mv}(h:PlainM n (s::L)) (k:PlainM n (t::M)):coM (mulM (s::L) (t::M)) (addP s.1 t.1)=s.2*t.2∧∀p,ltP (addP s.1 t.1) p→coM (mulM (s::L) (t::M)) p=0:=by
 have hs:=h.len s List.mem_cons_self
 have ht:=k.len t List.mem_cons_self
 have hle:∀a∈s::L,∀b∈t::M,(a=s∧b=t)∨ltP (addP a.1 b.1) (addP s.1 t.1):=fun a ha b hb=>by
  have la:=h.len a ha;have lb:=k.len b hb;rcases List.mem_cons.1 ha with rfl | ha'
  · rcases List.mem_cons.1 hb with rfl | hb'
    · exact .inl ⟨rfl,rfl⟩
    · refine .inr ?_
      rw [addP_comm,addP_comm a.1];exact ltP.add (by omega) (by omega) (by omega) ((List.pairwise_cons.1 k.ord).1 b hb') (.inr rfl)
  · refine .inr (ltP.add (by omega) (by omega) (by omega) ((List.pairwise_cons.1 h.ord).1 a ha') ?_)
    rcases List.mem_cons.1 hb with rfl | hb'
    · exact .inr rfl
    · exact .inl ((List.pairwise_cons.1 k.ord).1 b hb')
 have hpl:=addP_length hs ht
 refine ⟨?_,fun p hp=> ?_⟩
 · rw [coM_mulR h.len k.len hpl]
   show coM (s::L) (subP (addP s.1 t.1) t.1)*t.2+sumL _ M=_;have e1:s.1=subP (addP s.1 t.1) t.1:=(addP_iff (by omega) (by omega)).1 rfl;rw [← e1,h.co_head,sumL_congr (g:=fun _=>0) fun b hb=> ?_,sumL_zero]
   · omega
   · have lb:=k.len b (List.mem_cons_of_mem _ hb)
     rw [coM_none,Int.zero_mul];intro a ha e2;have la:=h.len a ha;have e3:=(addP_iff (a:=a.1) (b:=b.1) (p:=addP s.1 t.1) (by omega) (by omega)).2 e2;rcases hle a ha b (List.mem_cons_of_mem _ hb) with ⟨_,h2⟩ | h2
     · subst h2
       exact ltP.irrefl _ ((List.pairwise_cons.1 k.ord).1 b hb)
     · rw [e3] at h2;exact ltP.irrefl _ h2
 · refine coM_none fun x hx e=> ?_
   obtain ⟨a,ha,hx⟩:=List.mem_flatMap.1 hx;obtain ⟨b,hb,rfl⟩:=List.mem_map.1 hx;have e4:addP a.1 b.1=p:=e;rcases hle a ha b hb with ⟨rfl,rfl⟩ | h3
   · rw [e4] at hp;exact ltP.irrefl _ hp
   · rw [e4] at h3;exact ltP.irrefl _ (ltP.trans h3 hp)
theorem ltP_append:∀{a b:Plc}(c:Plc),ltP a b→ltP (a++c) (b++c)
 | x::a,y::b,c,h=>by
   rcases h with h | ⟨rfl,h⟩
   · exact .inl h
   · exact .inr ⟨rfl,ltP_append c h⟩
theorem lead_is {Lr:Mv} {s t:Trm} {L M T:Mv}(hn:n≤6) (h:PlainM n (s::L)) (k:PlainM n (t::M)) (hT:LenM n T) (hTe:EqM n (t::M) T) (hr:EqM 6 Lr (liftM n (mulM (s::L) T))) {p:Plc}(hp:GoodP n p) (h0:coM Lr p≠0) (hg:∀q,GoodP n q→coM Lr q≠0→¬ltP p q)
 (hs:∀x∈s.1,0≤x∧x≤1000) (ht:∀x∈t.1,0≤x∧x≤1000):p=padP n (addP s.1 t.1)∧coM Lr p=s.2*t.2:=by
 have hsl:=h.len s List.mem_cons_self
 have htl:=k.len t List.mem_cons_self
 have hal:=addP_length hsl htl
 obtain ⟨m1,m2⟩:=mul_lead h k
 have hco:∀q,q.length=n→coM Lr (padP n q)=coM (mulM (s::L) (t::M)) q:=fun q hq=>by
  rw [hr _ (padP_length hn hq),coM_lift (h.len.mul hT) hq];exact (((EqM.refl n (s::L)).mul hTe h.len h.len k.len hT) q hq).symm
 have hgood:GoodP n (padP n (addP s.1 t.1)):=padP_good hn hal fun x hx=>by
  obtain ⟨y,hy,z,hz,rfl⟩:=mem_addP hx;have:=hs y hy;have:=ht z hz;omega
 have hne:coM Lr (padP n (addP s.1 t.1))≠0:=by
  rw [hco _ hal,m1];exact Int.mul_ne_zero (h.ne s List.mem_cons_self) (k.ne t List.mem_cons_self)
 have hpp:=hp.pad hn
 have hpl:=hp.take_length hn
 have e:p.take n=addP s.1 t.1:=by
  rcases ltP.tri (a:=p.take n) (b:=addP s.1 t.1) (by omega) with h1 | h1 | h1
  · exact absurd (by rw [hpp];exact ltP_append _ h1) (hg _ hgood hne)
  · exact h1
  · exfalso
    rw [hpp,hco _ hpl] at h0;exact h0 (m2 _ h1)
 have e2:p=padP n (addP s.1 t.1):=by rw [← e];exact hpp
 refine ⟨e2,?_⟩
 rw [e2,hco _ hal,m1]
theorem coM_timesNeg (p:Plc) (z:Int) (T:Mv) (q:Plc):coM (timesT n p (-z) T) q= -coM (timesT n p z T) q:=by
 unfold coM timesT
 rw [sumL_map,sumL_map]
 have:∀L:Mv,sumL (fun b:Trm=>if addP p (padP n b.1)=q then -z*b.2 else 0) L= -sumL (fun b:Trm=>if addP p (padP n b.1)=q then z*b.2 else 0) L:=fun L=>by
  induction L with
  | nil=>rfl
  | cons a L ih=>
    show (if addP p (padP n a.1)=q then -z*a.2 else 0)+sumL _ L= -((if addP p (padP n a.1)=q then z*a.2 else 0)+sumL _ L);rw [ih];split
    · rw [Int.neg_mul];omega
    · omega
 exact this T
theorem lift_cons_mul {t:Trm} {Q T:Mv}(ht:t.1.length=n) (hT:LenM n T):liftM n (mulM (t::Q) T)=timesT n (padP n t.1) t.2 T++liftM n (mulM Q T):=by
 show liftM n ((T.map fun b=>(addP t.1 b.1,t.2*b.2))++mulM Q T)=_
 rw [liftM_append]
 congr 1
 unfold liftM timesT
 rw [List.map_map]
 refine List.map_congr_left fun b hb=> ?_
 show (padP n (addP t.1 b.1),t.2*b.2)=(addP (padP n t.1) (padP n b.1),t.2*b.2)
 rw [padP_add ht (hT b hb)]
theorem rest_step {Lr:Mv} {t:Trm} {Q T:Mv}(ht:t.1.length=n) (hT:LenM n T) (hr:EqM 6 Lr (liftM n (mulM (t::Q) T))):EqM 6 (Lr++timesT n (padP n t.1) (-t.2) T) (liftM n (mulM Q T)):=fun q hq=>by
 rw [coM_append,hr q hq,lift_cons_mul ht hT,coM_append,coM_timesNeg];omega
theorem quo_step {Lq:Mv} {t:Trm} {Q:Mv}(hq:EqM 6 Lq (liftM n Q)):EqM 6 (Lq++[(padP n t.1,t.2)]) (liftM n (Q++[t])):=by
 rw [liftM_append]
 exact hq.add (EqM.refl 6 _)
end
def midS (p q:Plc) (j:Nat):Plc:=(List.range 6).map fun i=>if i<j then nth p i - nth q i else nth p i
theorem midS_length (p q:Plc) (j:Nat):(midS p q j).length=6:=by simp [midS]
theorem nth_midS {p q:Plc} {i j:Nat}(hi:i<6):nth (midS p q j) i=if i<j then nth p i - nth q i else nth p i:=by
 unfold midS
 simp [nth,List.getD,hi]
theorem midS_zero {p q:Plc}(hp:p.length=6):midS p q 0=p:=list_ext (by rw [midS_length,hp]) fun i hi=>by
 rw [midS_length] at hi
 rw [nth_midS hi,if_neg (by omega)]
theorem midS_step {p q:Plc} {j:Nat}(hj:j<6):(midS p q j).set j (nth p j - nth q j)=midS p q (j+1):=list_ext (by rw [List.length_set,midS_length,midS_length]) fun i hi=>by
 rw [List.length_set,midS_length] at hi
 rw [nth_set (by rw [midS_length];omega),nth_midS hi,nth_midS hi]
 by_cases e:i=j
 · subst e;rw [if_pos rfl,if_pos (by omega)]
 · rw [if_neg e]
   by_cases h:i<j
   · rw [if_pos h,if_pos (by omega)]
   · rw [if_neg h,if_neg (by omega)]
theorem nth_addP {a b:Plc} {i:Nat}(ha:a.length=6) (hb:b.length=6) (hi:i<6):nth (addP a b) i=nth a i+nth b i:=by
 unfold addP nth
 simp [List.getD,ha,hb,hi]
theorem midS_add {a b:Plc}(ha:a.length=6) (hb:b.length=6):midS (addP a b) b 6=a:=list_ext (by rw [midS_length,ha]) fun i hi=>by
 rw [midS_length] at hi
 rw [nth_midS hi,if_pos hi,nth_addP ha hb hi];omega
end Cl
namespace Cl
theorem lead1 {n:Nat} {Lr T:Mv} {t:Trm} {M:Mv}(hn:n≤6) (k:PlainM n (t::M)) (hT:LenM n T) (hTe:EqM n (t::M) T) (hr:EqM 6 Lr (liftM n T)) {p:Plc}(hp:GoodP n p) (h0:coM Lr p≠0) (hg:∀q,GoodP n q→coM Lr q≠0→¬ltP p q)
 (ht:∀x∈t.1,0≤x∧x≤1000):p=padP n t.1∧coM Lr p=t.2:=by
 have htl:=k.len t List.mem_cons_self
 have hco:∀q,q.length=n→coM Lr (padP n q)=coM (t::M) q:=fun q hq=>by
  rw [hr _ (padP_length hn hq),coM_lift hT hq];exact (hTe q hq).symm
 have hgood:GoodP n (padP n t.1):=padP_good hn htl fun x hx=>by have:=ht x hx;omega
 have hne:coM Lr (padP n t.1)≠0:=by
  rw [hco _ htl,k.co_head];exact k.ne t List.mem_cons_self
 have hpp:=hp.pad hn
 have hpl:=hp.take_length hn
 have e:p.take n=t.1:=by
  rcases ltP.tri (a:=p.take n) (b:=t.1) (by omega) with h1 | h1 | h1
  · exact absurd (by rw [hpp];exact ltP_append _ h1) (hg _ hgood hne)
  · exact h1
  · exfalso
    rw [hpp,hco _ hpl] at h0;exact h0 (k.co_above h1)
 have e2:p=padP n t.1:=by rw [← e];exact hpp
 exact ⟨e2,by rw [e2,hco _ htl,k.co_head]⟩
end Cl
namespace Cl
theorem PlainM.drop {n:Nat}:∀{Q:Mv}(_:PlainM n Q) (j:Nat),PlainM n (Q.drop j)
 | _,h,0=>by rw [List.drop_zero];exact h
 | [],h,_+1=>h
 | t::Q,h,j+1=>PlainM.drop (Q:=Q) h.tail j
theorem div_lead {n:Nat} {Lr Q T:Mv} {pl:Plc} {cl:Int} {P':Mv} {j:Nat}(hn:n≤6) (hQ:PlainM n Q) (hj:j<Q.length) (hQb:BdM 1000 Q) (hP:PlainM n ((pl,cl)::P')) (hT:LenM n T) (hPT:EqM n ((pl,cl)::P') T) (hplb:∀x∈pl,0≤x∧x≤1000)
 (hr:EqM 6 Lr (liftM n (mulM (Q.drop j) T))):∃t,t∈Q∧Q.drop j=t::Q.drop (j+1)∧Q.take (j+1)=Q.take j++[t]∧GoodP n (padP n (addP t.1 pl))∧coM Lr (padP n (addP t.1 pl))≠0∧t.2≠0∧
   ∀p,GoodP n p→coM Lr p≠0→(∀q,GoodP n q→coM Lr q≠0→¬ltP p q)→p=padP n (addP t.1 pl)∧coM Lr p=t.2*cl:=by
 have hd:Q.drop j=Q[j]::Q.drop (j+1):=List.drop_eq_getElem_cons hj
 have hmem:Q[j]∈Q:=List.getElem_mem hj
 have hk:=hQ.drop j
 rw [hd] at hk hr
 have htb:=hQb _ hmem
 have htl:=hQ.len _ hmem
 have hpl:=hP.len (pl,cl) List.mem_cons_self
 have hal:(addP (Q[j]).1 pl).length=n:=addP_length htl hpl
 refine ⟨Q[j],hmem,hd,List.take_succ_eq_append_getElem hj,padP_good hn hal fun x hx=> ?_,?_,hQ.ne _ hmem,fun p hp h0 hg=>lead_is hn hk hP hT hPT hr hp h0 hg htb hplb⟩
 · obtain ⟨y,hy,z,hz,rfl⟩:=mem_addP hx
   have:=htb y hy;have:=hplb z hz;omega
 · rw [hr _ (padP_length hn hal),coM_lift (hk.len.mul hT) hal,←((EqM.refl n _).mul hPT hk.len hk.len hP.len hT) _ hal,(mul_lead hk hP).1]
   exact Int.mul_ne_zero (hQ.ne _ hmem) (hP.ne (pl,cl) List.mem_cons_self)
end Cl
namespace Go.Proofs.YtehcoffbiplphaaGreat
open Go.RowKit Cl
def U64 (w w':World):Prop:=w.heap.size≤w'.heap.size∧∀(p:Addr) (x:Int),p.block<w.heap.size→w.cell? p=some (.int .u64 x)→w'.cell? p=some (.int .u64 x)
theorem U64.trans {a b c:World}(h:U64 a b) (k:U64 b c):U64 a c:=⟨Nat.le_trans h.1 k.1,fun p x hp hc=>k.2 p x (Nat.lt_of_lt_of_le hp h.1) (h.2 p x hp hc)⟩
theorem U64.bel {w w':World}(h:Below w.heap.size w w'):U64 w w':=⟨h.size,fun _ _ hp hc=>(h.cell hp).trans hc⟩
theorem U64.map {w w':World} {k:TypeId} {R:Value→Option (DataW Value×List MemPlace)} {b m:Nat} {D:DataW Value}(hm:w.ownsMap Tryz.prog k R b m D) (hg:Only (fun x=>x=b) w w'):U64 w w':=⟨hg.size,fun _ _ hp hc=>cells_map hm hg hp hc⟩
theorem U64.sum {w w':World} {b nc n B:Nat} {L:Mv}(hm:SumM w b nc n B L) (hg:Only (fun x=>x=b) w w'):U64 w w':=by
 obtain ⟨D,m1,_⟩:=hm
 exact U64.map m1 hg
theorem U64.row {w w':World} {g:Nat} {t:TypeId} {ps:Plc}(hr:Row w g t ps) (ho:Only (fun x=>x=g) w w'):U64 w w':=⟨ho.size,fun p x hp hc=>by
 by_cases e:p.block=g
 · exfalso
   obtain ⟨qb,qo,qs⟩:=p;have e':qb=g:=e;subst e';obtain rfl:=World.cell?_spot hc;rw [cell_of_row w _ _ _ _ (0,0) hr] at hc;simp [ints] at hc
 · exact (ho.cell hp e).trans hc⟩
theorem U64.duo {w w':World} {g:Nat} {s:Bool} {A':Option Addr} {k c:Nat}(hr:Duo w g (.bool s) (.slice A' k c)) (ho:Only (fun x=>x=g) w w'):U64 w w':=⟨ho.size,fun p x hp hc=>by
 by_cases e:p.block=g
 · exfalso
   obtain ⟨qb,qo,qs⟩:=p;have e':qb=g:=e;subst e';obtain rfl:=World.cell?_spot hc;unfold Duo at hr;rw [cell_of_row w _ _ _ _ (0,0) hr] at hc;match qo with
   | 0=>simp at hc
   | 1=>simp at hc
   | j+2=>simp at hc
 · exact (ho.cell hp e).trans hc⟩
theorem limbs_u64 {w w':World} {A:Option Addr} {n:Nat} {xs:List Int}(h:Limbs w A n xs) (hu:U64 w w'):Limbs w' A n xs:=
 ⟨h.len,fun hn=>by
   obtain ⟨b,o,e,hb,hc⟩:=h.at_ hn;exact ⟨b,o,e,Nat.lt_of_lt_of_le hb hu.1,fun i hi=>hu.2 ⟨b,o+i,none⟩ _ hb (hc i hi)⟩,h.ok⟩
theorem sumD_u64 {w w':World} {D:DataW Value} {n B:Nat} {L:Mv}(h:SumD w D n B L) (hu:U64 w w'):SumD w' D n B L:=
 ⟨h.key,fun p hp hh=>by
   obtain ⟨v,h1,s,A,kk,c,ls,e,g1,g2,g3,g4,g5⟩:=h.at_ p hp hh;exact ⟨v,h1,⟨s,A,kk,c,ls,e,g1,g2,g3,limbs_u64 g4 hu,g5⟩⟩,h.none,h.isMap⟩
theorem sumM_keep {w w':World} {b nc n B:Nat} {L:Mv} {S:Nat→Prop}(h:SumM w b nc n B L) (hu:U64 w w') (ho:Only S w w') (hb:¬S b):SumM w' b nc n B L:=by
 obtain ⟨D,m1,m2⟩:=h
 obtain ⟨es,clock,hh,r⟩:=m1
 have hlt:b<w.heap.size:=(Array.getElem?_eq_some_iff.1 hh).1
 exact ⟨D,⟨es,clock,(ho.block b hlt hb).trans hh,r⟩,sumD_u64 m2 hu⟩
theorem only_new2 {S:Nat→Prop} {w0 w w':World} {S':Nat→Prop}(h:Only S w0 w) (ho:Only S' w w') (hS:∀x,x<w0.heap.size→S' x→S x):Only S w0 w':=
 ⟨ho.os.trans h.os,ho.tape.trans h.tape,ho.output.trans h.output,Nat.le_trans h.size ho.size,fun i hi hs=>(ho.block i (Nat.lt_of_lt_of_le hi h.size) (fun h2=>hs (hS i hi h2))).trans (h.block i hi hs)⟩
theorem below_only {S:Nat→Prop} {B:Nat} {w0 w w':World}(h:Below B w0 w) (ho:Only S w w') (hB:B≤w.heap.size) (hS:∀x,S x→B≤x):Below B w0 w':=h.trans (ho.below hB hS)
structure LowR (w:World) (gl:Nat) (low:Plc) (s:Bool) (A:Option Addr) (k c:Nat) (ls:List Int):Prop where
 row:Row w gl 68 low
 duo:Duo w (gl+1) (.bool s) (.slice A k c)
 lim:Limbs w A k ls
theorem LowR.keep {w w':World} {S:Nat→Prop} {gl:Nat} {low:Plc} {s:Bool} {A:Option Addr} {k c:Nat} {ls:List Int}(h:LowR w gl low s A k c ls) (hu:U64 w w') (ho:Only S w w') (h0:¬S gl) (h1:¬S (gl+1)):LowR w' gl low s A k c ls:=
 ⟨h.row.only ho h0,h.duo.keep (ho.block _ h.duo.lt h1),limbs_u64 h.lim hu⟩
theorem LowR.bel {w w':World} {gl:Nat} {low:Plc} {s:Bool} {A:Option Addr} {k c:Nat} {ls:List Int}(h:LowR w gl low s A k c ls) (hb:Below w.heap.size w w'):LowR w' gl low s A k c ls:=
 h.keep (S:=fun _=>False) (U64.bel hb) (only_of_bel hb) (fun h=>h) (fun h=>h)
theorem lowR_new (w:World) (x0 x1 x2 x3 x4 x5:Int) (s:Bool) (A:Option Addr) (k c:Nat) (ls:List Int) (h:Limbs w A k ls):
 LowR ((w.alloc (.cells #[.int .i64 x0,.int .i64 x1,.int .i64 x2,.int .i64 x3,.int .i64 x4,.int .i64 x5] 68)).alloc (.cells #[.bool s,.slice A k c] 41)) w.heap.size [x0,x1,x2,x3,x4,x5] s A k c ls:=by
 have hduo:=Duo.new (w.alloc (.cells #[.int .i64 x0,.int .i64 x1,.int .i64 x2,.int .i64 x3,.int .i64 x4,.int .i64 x5] 68)) (.bool s) (.slice A k c)
 rw [World.size_alloc] at hduo
 exact ⟨(heap_alloc_old _ _ (by simp)).trans (heap_alloc_new _ _),hduo,(h.alloc _).alloc _⟩
theorem below_two (w:World) (o1 o2:Obj):Below w.heap.size w ((w.alloc o1).alloc o2):=(bRr.alloc lRr _).alloc (by simp) _
theorem size_two (w:World) (o1 o2:Obj):((w.alloc o1).alloc o2).heap.size=w.heap.size+1+1:=by simp
structure DivR (w wr:World) (n Bn br bq ga ncr ncq:Nat) (Lr Lq:Mv) (P:Plc) (s:Bool) (A:Option Addr) (k c:Nat) (ls:List Int) (f:Bool):Prop where
 bel:Below w.heap.size w wr
 r:SumM wr br ncr n Bn Lr
 q:SumM wr bq ncq n (100000+ncq) Lq
 box:LowR wr ga P s A k c ls
 kc:k≤c
 cm:c≤9223372036854775807
 kb:k≤Bn
 val:intZ s ls=coM Lr P
 plen:P.length=6
 some_:f=true→GoodP n P∧coM Lr P≠0∧(∃t∈Lr,t.1=P)∧∀q,GoodP n q→coM Lr q≠0→¬ltP P q
 none_:f=false→∀q,GoodP n q→coM Lr q=0
end Go.Proofs.YtehcoffbiplphaaGreat
