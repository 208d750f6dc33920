/- The product of two polynomials, product by product; rows of nought trees. No program in sight. -/
import Derived.Test.YtehcoffbiplphaaGreatSTrs
import Derived.Laws.MakeOwn
set_option linter.unusedVariables false
set_option linter.unusedSimpArgs false
namespace Cl
open CRing
theorem nS_grow {n m:Nat}(f:Nat→Nat) (h:n≤m):nS n f≤nS m f:=by
 induction m with
 | zero=>rw [show n=0 by omega];exact lRr
 | succ m ih=>
   rcases Nat.lt_or_ge m n with hl | hl
   · rw [show n=m+1 by omega];exact lRr
   · have:=ih hl
     show nS n f≤nS m f+f m;omega
namespace Poly
section
variable {R : Type} [CRing R]
def cut (k:Nat) (f:Poly R):Poly R:=⟨fun i=>if i<k then f.co i else 0,k,fun i hi=>if_neg (by omega)⟩
theorem co_cut (k:Nat) (f:Poly R) (i:Nat):(cut k f).co i=if i<k then f.co i else 0:=rfl
theorem cut_sh (k:Nat) (f:Poly R):(cut k f).Sh k:=fun i hi=>if_neg (by omega)
theorem cut_zero (f:Poly R):cut 0 f=0:=sh_zero (cut_sh 0 f)
theorem cut_all {k:Nat} {f:Poly R}(h:f.Sh k):cut k f=f:=ext fun i=>by
 rw [co_cut]
 split
 · rfl
 · rw [h i (by omega)]
theorem cut_succ (k:Nat) (f:Poly R):cut (k+1) f=cut k f+mono k (f.co k):=ext fun i=>by
 rw [co_add,co_cut,co_cut,co_mono]
 rcases Nat.lt_trichotomy i k with h | h | h
 · rw [if_pos (by omega),if_pos h,if_neg (by omega),CRing.add_zero]
 · rw [if_pos (by omega),if_neg (by omega),if_pos h,CRing.zero_add,h]
 · rw [if_neg (by omega),if_neg (by omega),if_neg (by omega),CRing.add_zero]
def part (f g:Poly R) (k m:Nat):Poly R:=cut k f*g+mono k (f.co k)*cut m g
theorem part_start (f g:Poly R):part f g 0 0=0:=by unfold part;rw [cut_zero,cut_zero,CRing.zero_mul,CRing.mul_zero,CRing.add_zero]
theorem part_next (f g:Poly R) (k m:Nat):part f g k (m+1)=part f g k m+mono (k+m) (f.co k*g.co m):=by
 unfold part
 rw [cut_succ m,CRing.mul_add,mono_mul,CRing.add_assoc]
theorem part_row {f g:Poly R} {k m:Nat}(h:g.Sh m):part f g k m=part f g (k+1) 0:=by
 unfold part
 rw [cut_all h,cut_zero,CRing.mul_zero,CRing.add_zero,cut_succ,CRing.add_mul]
theorem part_end {f g:Poly R} {k:Nat}(h:f.Sh k):part f g k 0=f*g:=by
 unfold part
 rw [cut_all h,cut_zero,CRing.mul_zero,CRing.add_zero]
theorem part_co (f g:Poly R) (k m j:Nat):(part f g k (m+1)).co j=if j=k+m then (part f g k m).co j+f.co k*g.co m else (part f g k m).co j:=by
 rw [part_next,co_add,co_mono]
 split
 · rfl
 · rw [CRing.add_zero]
end
section
variable {R : Type} [Siz R]
theorem nmP_cut (k:Nat) (f:Poly R):nmP (cut k f)=nS k fun i=>Siz.nm (f.co i):=by
 rw [nmP_eq (cut_sh k f)]
 exact nS_congr fun i hi=>by rw [co_cut,if_pos hi]
theorem nmP_grow (k:Nat) (f:Poly R):(nS k fun i=>Siz.nm (f.co i))≤nmP f:=by
 rcases Nat.lt_or_ge k f.len with h | h
 · exact nS_grow _ (Nat.le_of_lt h)
 · exact Nat.le_of_eq (nmP_eq ((len_sh f).mono h)).symm
theorem nmP_cut_le (k:Nat) (f:Poly R):nmP (cut k f)≤nmP f:=by rw [nmP_cut];exact nmP_grow k f
theorem part_nm (f g:Poly R) (k m:Nat):nmP (part f g k m)≤nmP f*nmP g:=by
 unfold part
 have h1:=nmP_add (cut k f*g) (mono k (f.co k)*cut m g)
 have h2:=nmP_mul g k (cut k f) (cut_sh k f)
 have h3:=Nat.le_trans (nmP_mono_mul k (f.co k) (cut m g)) (Nat.mul_le_mul_left _ (nmP_cut_le m g))
 have h4:nmP (cut k f)+Siz.nm (f.co k)≤nmP f:=by
  rw [nmP_cut];exact nmP_grow (k+1) f
 have h5:=Nat.mul_le_mul_right (nmP g) h4
 rw [Nat.add_mul] at h5
 omega
theorem cut_dg {D:Nat→Nat} {f:Poly R}(h:∀i,Siz.dg D (f.co i)) (k i:Nat):Siz.dg D ((cut k f).co i):=by
 rw [co_cut]
 split
 · exact h i
 · exact Siz.dg_zero _
theorem part_dg {D E:Nat→Nat} {f g:Poly R}(h:∀i,Siz.dg D (f.co i)) (h2:∀i,Siz.dg E (g.co i)) (k m i:Nat):Siz.dg (fun j=>D j+E j) ((part f g k m).co i):=by
 unfold part
 rw [co_add,co_mul,co_mul]
 refine Siz.dg_add _ _ _ (dg_sum fun j _=>Siz.dg_mul D E _ _ (cut_dg h k j) (h2 _)) (dg_sum fun j _=>Siz.dg_mul D E _ _ ?_ (cut_dg h2 m _))
 rw [co_mono]
 split
 · exact h k
 · exact Siz.dg_zero _
end
end Poly
section
open Go Go.RowKit
variable {T : TypeId} {S X : Nat → Prop} {w0 wr : World} {H n : Nat} {v : Value} {E : List KE} {g g' : Nat → Pn n}
theorem TOut.congr (h:TOut T S X w0 H wr n v E g) (e:∀i,i<E.length→g i=g' i):TOut T S X w0 H wr n v E g':=
 ⟨h.lo,h.own,fun i hi=>by rw [← e i hi];exact h.ok i hi,h.bel⟩
theorem made_noughts (m:Nat):(madeCells #[Value.bool false,.slice none 0 0,.slice none 0 0] (m*3)).toList=kcells (List.replicate m KE.nought):=by
 rw [kcells_noughts]
 induction m with
 | zero=>simp [madeCells]
 | succ m ih=>
   rw [List.replicate_succ',List.flatten_append,← ih];unfold madeCells;simp only [Array.toList_map,Array.toList_range];rw [show (m+1)*3=m*3+1+1+1 by omega,List.range_succ,List.range_succ,List.range_succ];simp
theorem TOut.noughts (T:TypeId) (S X:Nat→Prop) (w0 w:World) (H n m:Nat) (hH:w0.heap.size≤H) (hw:H≤w.heap.size) (hb:Below w0.heap.size w0 w) (hm:m≤maxLen):
 TOut T S X w0 H (w.alloc (.cells (madeCells #[Value.bool false,.slice none 0 0,.slice none 0 0] (m*3)) T)) n (.slice (some ⟨w.heap.size,0,none⟩) m m) (List.replicate m KE.nought) (fun _=>0):=by
 refine ⟨hH,⟨by rw [kcells_length],.inr ⟨w.heap.size,m,_,by rw [List.length_replicate],hw,heap_alloc_new w _,by simp,hm,size_madeCells _ _,?_⟩⟩,fun i hi=> ?_,hb.alloc hb.size _⟩
 · rw [made_noughts,List.length_replicate]
   refine List.take_of_length_le ?_;rw [kcells_length,List.length_replicate];exact lRr
 · rw [List.getElem_replicate]
   exact TreW.nought _ _ n
end
end Cl
