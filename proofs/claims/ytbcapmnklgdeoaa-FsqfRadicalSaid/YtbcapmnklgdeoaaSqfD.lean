/- Layer 8's parts sorted: the library's sort at them. -/
import Derived.Test.YtbcapmnklgdeoaaSqfB
import Derived.Test.YtbcapmnklgdeoaaSortPart
namespace Go.Proofs.Ytbcapmnklgdeoaa
open Go.RowKit Cl
attribute [local go_sem ↓] Go.wp_at_zero Go.wp_at_succ

/-- An entry, its number below 2^62. -/
abbrev EntF := (Option Addr × Nat) × Fin 4611686018427387904
instance : Inhabited EntF := ⟨((none, 0), ⟨0, by omega⟩)⟩
def unF (x : EntF) : Ent := (x.1, x.2.val)
def toF (x : Ent) : EntF := (x.1, ⟨x.2 % 4611686018427387904, Nat.mod_lt _ (by omega)⟩)
theorem unF_toF {x : Ent} (h : x.2 < 4611686018427387904) : unF (toF x) = x := by
  unfold unF toF
  show (x.1, x.2 % 4611686018427387904) = x
  rw [Nat.mod_eq_of_lt h]
def encF (len : Nat → Nat) (x : EntF) : List Value := pcell len (unF x)
def cmpF (x y : EntF) : Int := (x.2.val : Int) - (y.2.val : Int)
theorem ltF (x y : EntF) : ltOf cmpF x y = decide (x.2.val < y.2.val) := by
  unfold ltOf cmpF
  by_cases h : x.2.val < y.2.val
  · simp [h]; omega
  · simp [h]; omega
theorem swoF : Sort.SWO (ltOf cmpF) where
  irrefl x := by rw [ltF]; simp
  trans x y z h1 h2 := by rw [ltF] at *; simp at *; omega
  ntrans x y z h1 h2 := by rw [ltF] at *; simp at *; omega

/-- What the sort leaves: but for one block nothing that was there has turned. -/
theorem only_sort (enc : EntF → List Value) (k : Nat) (w : World) (blk off m : Nat) (dk : Array EntF) (os : Array Obj) : Only (fun j => j = blk) w (sortWorldK enc k w blk off m dk os) := by
  unfold sortWorldK Sort.grow Sort.putRowK Sort.putRow Sort.mapBlock Sort.ahead
  refine ⟨rfl, rfl, rfl, by simp, fun j hj hne => ?_⟩
  have h1 : j < (w.heap.modify blk (Sort.onCells (Sort.putCells id off (Sort.flatK enc k dk)))).size := by simpa using hj
  show (w.heap.modify blk (Sort.onCells (Sort.putCells id off (Sort.flatK enc k dk))) ++ os)[j]? = _
  rw [Array.getElem?_append_left h1, Array.getElem?_modify, if_neg (fun e => hne e.symm)]

set_option maxHeartbeats 1000000 in
/-- The comparison of two parts, in whatever world: two blocks are laid. -/
theorem cmp_part (len : Nat → Nat) (x y : EntF) (W : World) : Calls Try.prog 27 #[.agg (encF len x).toArray, .agg (encF len y).toArray] W fun e w' => e = .returned (.int .i64 (cmpF x y)) ∧ ∃ q os', w' = Sort.grow (W.drewN q) os' := by
  obtain ⟨⟨xA, xc⟩, ⟨xk, hx⟩⟩ := x
  obtain ⟨⟨yA, yc⟩, ⟨yk, hy⟩⟩ := y
  have hx' : (xk : Int) < 4611686018427387904 := by omega
  have hy' : (yk : Int) < 4611686018427387904 := by omega
  have e1 : IntKind.i64.wrap ((xk : Int) - (yk : Int)) = (xk : Int) - (yk : Int) := IntWalk.i64_in _ (by omega)
  have hc : Hid (cmpF ((xA, xc), ⟨xk, hx⟩) ((yA, yc), ⟨yk, hy⟩) = (xk : Int) - (yk : Int)) := rfl
  show Calls Try.prog 27 #[.agg #[.slice xA (len xk) xc, .int .i64 (xk : Int)], .agg #[.slice yA (len yk) yc, .int .i64 (yk : Int)]] W _
  rw [hc.out]
  clear hc hx hy
  go_enter Try.func27, Try.ntmps27
  go_wp2
  go_ret
  exact ⟨rfl, 0, _, by rw [Sort.alloc_eq_grow, Sort.alloc_eq_grow, Sort.grow_grow]; rfl⟩

set_option maxHeartbeats 2000000 in
/-- The parts, sorted by how often. -/
theorem ssort_any (len : Nat → Nat) (w : World) (base g cap : Nat) (L : List Ent) (hown : w.ownsRow base 32 2 (.slice (some ⟨g, 0, none⟩) L.length cap) L.length (pcells len L)) (hgl : g < w.heap.size) (hk : ∀ x ∈ L, x.2 < 4611686018427387904) (hL : L.length < 1000000000) :
    Calls Try.prog 26 #[.slice (some ⟨g, 0, none⟩) L.length cap, .func (.func 27) #[] #[]] w fun e w' => e = .returned (.tuple #[]) ∧ ∃ L' : List Ent, L'.Perm L ∧ L'.Pairwise (fun x y => x.2 ≤ y.2) ∧
      (∀ i (h : i < L'.length), w'.cell? ⟨g, 2 * i, none⟩ = some (.slice (L'[i]).1.1 (len (L'[i]).2) (L'[i]).1.2) ∧ w'.cell? ⟨g, 2 * i + 1, none⟩ = some (.int .i64 ((L'[i]).2 : Int))) ∧ Only (fun j => j = g) w w' := by
  have hds : (L.map toF).toArray.size = L.length := by simp
  have hget : ∀ i (h : i < L.length), ((L.map toF).toArray)[i]! = toF (L[i]) := fun i h => by
    rw [getElem!_pos _ i (by simpa using h)]; simp
  have hun : ∀ i (h : i < L.length), unF (toF (L[i])) = L[i] := fun i h => unF_toF (hk _ (List.getElem_mem h))
  have hfz : ∀ o, w.frozen? ⟨g, o, none⟩ = false := fun o => by
    rcases hown.2 with ⟨hv, _⟩ | ⟨g', cap', cur, hv, _, hh, _⟩
    · cases hv
    · injection hv with h1; injection h1 with h1; injection h1 with h1; subst h1
      simp [World.frozen?, hh]
  have hcell : ∀ j u, (pcells len L)[j]? = some u → w.cell? ⟨g, j, none⟩ = some u := fun j u hu => by
    have := hown.cells (g := g) rfl j u hu
    rwa [Go.WideShapes.add_plain, Nat.zero_add] at this
  have hH : Sort.HoldsK (encF len) 2 w g 0 (L.map toF).toArray := by
    intro j hj
    rw [Sort.size_flatK, hds] at hj
    refine ⟨?_, hfz _⟩
    rw [Sort.get_flatK _ _ _ _ (by rw [hds]; exact hj), Nat.zero_add, hget (j / 2) (by omega)]
    unfold encF
    rw [hun _ (by omega)]
    rcases Nat.mod_two_eq_zero_or_one j with h2 | h2
    · have := hcell _ _ (pcells_get0 (len := len) (L := L) (i := j / 2) (by omega))
      rw [show 2 * (j / 2) = j by omega] at this
      rw [this, h2]; rfl
    · have := hcell _ _ (pcells_get1 (len := len) (L := L) (i := j / 2) (by omega))
      rw [show 2 * (j / 2) + 1 = j by omega] at this
      rw [this, h2]; rfl
  have eg : ∀ args w, (callFunc 27 args).run Try.prog w = .ok (.enter 27 args) w := enters_of Try.func27 (by kernel_rfl) rfl
  have hcon := AnyQ.slices_SortFunc sortPart 2 Try.isAgg32 Try.sizeOf32 (encF len) (fun _ => rfl) (fun x v hv => pcells_oneCell len [unF x] v (by simpa [pcells, encF] using hv)) cmpF swoF 27 #[] g 0 cap (L.map toF).toArray w eg (fun _ _ _ _ x y => cmp_part len x y _) hH hgl (by rw [hds]; omega)
  rw [hds] at hcon
  refine hcon.mono ?_
  rintro e w' ⟨rfl, d', n, os, hp, hs, rfl⟩
  have hsz : d'.size = L.length := by rw [hp.1, hds]
  have hH' := holdsK_sortWorldK_c (encF len) 2 w g 0 (L.map toF).toArray d' n os hH hgl (by rw [hsz, hds])
  refine ⟨rfl, d'.toList.map unF, ?_, ?_, fun i hi => ?_, only_sort _ _ _ _ _ _ _ _⟩
  · have h1 := hp.2.2
    rw [Array.extract_eq_self_of_le (by rw [hsz]; omega), Array.extract_eq_self_of_le (by omega)] at h1
    have h2 := h1.map unF
    have h3 : ((L.map toF).toArray.toList).map unF = L := by
      rw [List.toList_toArray, List.map_map]
      conv => rhs; rw [← List.map_id L]
      exact List.map_congr_left fun x hx => unF_toF (hk x hx)
    rwa [h3] at h2
  · rw [List.pairwise_map, List.pairwise_iff_getElem]
    intro i j hi hj hij
    have h1 := hs i j (Nat.zero_le _) hij (by rw [← hsz]; simpa using hj)
    rw [ltF] at h1
    simp only [decide_eq_false_iff_not] at h1
    rw [getElem!_pos _ i (by simpa using hi), getElem!_pos _ j (by simpa using hj)] at h1
    show (d'.toList[i]).2.val ≤ (d'.toList[j]).2.val
    simp only [Array.getElem_toList]
    omega
  · have hi' : i < d'.size := by simpa using hi
    have c0 := (Sort.HoldsK.cell hH' (i := i) (c := 0) hi' (by omega)).1
    have c1 := (Sort.HoldsK.cell hH' (i := i) (c := 1) hi' (by omega)).1
    rw [getElem!_pos d' i hi'] at c0 c1
    have e1 : (d'.toList.map unF)[i] = unF d'[i] := by simp
    rw [e1]
    rw [show 0 + i * 2 + 0 = 2 * i by omega] at c0
    rw [show 0 + i * 2 + 1 = 2 * i + 1 by omega] at c1
    exact ⟨c0, c1⟩
theorem ssort_none (c : Nat) (w : World) :
    Calls Try.prog 26 #[.slice none 0 c, .func (.func 27) #[] #[]] w fun e w' => e = .returned (.tuple #[]) ∧ w' = w :=
  AnyF.slices_SortFunc_none { sortPart with } none c _ w
end Go.Proofs.Ytbcapmnklgdeoaa
