/- Contracts: the rows of Euclid's way: the program's. -/
import Derived.Test.YtbcapmnklgdeoaaFpolyE
import Derived.Test.YtbcapmnklgdeoaaPolyB
import Derived.Deep.RegionWith
namespace Go.Proofs.Ytbcapmnklgdeoaa
open Go.RowKit Cl
attribute [local go_sem ↓] Go.wp_at_zero Go.wp_at_succ

theorem row_size : (Try.prog.info? 64).map (·.size) = some 3 := by kernel_rfl
/-- Three slices, as an array holds them. -/
def trd (A : Nat → Option Addr) (N C : Nat → Nat) : List Value := (List.range 3).map fun i => .slice (A i) (N i) (C i)
theorem trd_get {A : Nat → Option Addr} {N C : Nat → Nat} {i : Nat} (h : i < 3) : (trd A N C)[i]? = some (.slice (A i) (N i) (C i)) := by simp [trd, h]
theorem trd_set {A : Nat → Option Addr} {N C : Nat → Nat} (j : Nat) (a : Option Addr) (n c : Nat) : (trd A N C).set j (.slice a n c) = trd (fun i => if i = j then a else A i) (fun i => if i = j then n else N i) (fun i => if i = j then c else C i) := by
  apply List.ext_getElem (by simp [trd])
  intro i h1 h2
  simp only [trd, List.getElem_set, List.getElem_map, List.getElem_range]
  by_cases e : i = j
  · subst e; simp
  · rw [if_neg (fun h => e h.symm), if_neg e, if_neg e, if_neg e]
theorem trd_congr {A A' : Nat → Option Addr} {N N' C C' : Nat → Nat} (h : ∀ i, i < 3 → A i = A' i ∧ N i = N' i ∧ C i = C' i) : trd A N C = trd A' N' C' := by
  unfold trd
  refine List.map_congr_left fun i hi => ?_
  obtain ⟨h1, h2, h3⟩ := h i (List.mem_range.1 hi)
  rw [h1, h2, h3]
/-- Block g is just three slices. -/
def Tri (w : World) (g : Nat) (A : Nat → Option Addr) (N C : Nat → Nat) : Prop := w.heap[g]? = some (.cells (trd A N C).toArray 64 (0, 0))
section
variable {w w' : World} {g : Nat} {A : Nat → Option Addr} {N C : Nat → Nat}
theorem Tri.lt (h : Tri w g A N C) : g < w.heap.size := (Array.getElem?_eq_some_iff.1 h).1
theorem Tri.cell (h : Tri w g A N C) {i : Nat} (hi : i < 3) : w.cell? ⟨g, i, none⟩ = some (.slice (A i) (N i) (C i)) := by
  rw [cell_of_row w g i _ _ (0, 0) h]
  have := trd_get (A := A) (N := N) (C := C) hi
  simpa using this
theorem Tri.frozen (h : Tri w g A N C) (i : Nat) : w.frozen? ⟨g, i, none⟩ = false := by unfold Tri at h; simp [World.frozen?, h]
theorem Tri.keep (h : Tri w g A N C) (hk : w'.heap[g]? = w.heap[g]?) : Tri w' g A N C := hk.trans h
theorem Tri.bel (h : Tri w g A N C) (hb : Below w.heap.size w w') : Tri w' g A N C := h.keep (hb.block g h.lt)
theorem Tri.far (h : Tri w g A N C) {p : Addr} (hp : g ≠ p.block) (u : Value) : Tri (w.setCell p u) g A N C := h.keep (Below.heap_setCell w p u g hp)
theorem Tri.set (h : Tri w g A N C) (j : Nat) (a : Option Addr) (n c : Nat) : Tri (w.setCell ⟨g, j, none⟩ (.slice a n c)) g (fun i => if i = j then a else A i) (fun i => if i = j then n else N i) (fun i => if i = j then c else C i) := by
  unfold Tri at h ⊢
  rw [← trd_set]
  simp [World.setCell, Array.getElem?_modify, h]
theorem Tri.congr (h : Tri w g A N C) {A' : Nat → Option Addr} {N' C' : Nat → Nat} (he : ∀ i, i < 3 → A i = A' i ∧ N i = N' i ∧ C i = C' i) : Tri w g A' N' C' := by
  unfold Tri at h ⊢
  rw [← trd_congr he]; exact h
theorem Tri.new (w : World) (A : Nat → Option Addr) (N C : Nat → Nat) : Tri (w.alloc (.cells (trd A N C).toArray 64)) w.heap.size A N C := heap_alloc_new w _
end
section
variable {q : Prm}
/-- Three polynomials lie there. -/
def Ints3 (w : World) (A : Nat → Option Addr) (X : Nat → Poly (Zp q)) : Prop := ∀ i, i < 3 → Ints w (A i) (X i).len (fromP (X i))
theorem Ints3.bel {w w' : World} {A : Nat → Option Addr} {X : Nat → Poly (Zp q)} (h : Ints3 w A X) (hb : Below w.heap.size w w') : Ints3 w' A X := fun i hi => (h i hi).bel hb
theorem Ints3.drew {w : World} {A : Nat → Option Addr} {X : Nat → Poly (Zp q)} (h : Ints3 w A X) : Ints3 w.drew A X := fun i hi => (h i hi).drew
/-- A call that hands back three polynomials in an array. -/
def GivesTri (w : World) (Z : Nat → Poly (Zp q)) (e : Ending) (w' : World) : Prop :=
  ∃ (A : Nat → Option Addr) (C : Nat → Nat), e = .returned (.agg #[.slice (A 0) (Z 0).len (C 0), .slice (A 1) (Z 1).len (C 1), .slice (A 2) (Z 2).len (C 2)]) ∧ Ints3 w' A Z ∧ Below w.heap.size w w'
/-- The row that comes behind two. -/
noncomputable def nextZ (X Y : Nat → Poly (Zp q)) (i : Nat) : Poly (Zp q) := X i - Poly.quo (X 0) (Y 0) * Y i
noncomputable def mixZ (X Y : Nat → Poly (Zp q)) (k i : Nat) : Poly (Zp q) := if i < k then nextZ X Y i else X i
theorem mixZ_at (X Y : Nat → Poly (Zp q)) (k : Nat) : mixZ X Y k k = X k := if_neg (by omega)
theorem quo_len (a : Poly (Zp q)) {b : Poly (Zp q)} (hb : b ≠ 0) : (Poly.quo a b).len ≤ a.len := Cl.quo_len' a hb
theorem prod_len (a b : Poly (Zp q)) : (a * b).len ≤ a.len + b.len := Cl.prod_len' a b
end

set_option maxRecDepth 100000 in
set_option maxHeartbeats 4000000 in
theorem pnext_any {p : Int} {hp : Pr p} (A B : Nat → Option Addr) (C D : Nat → Nat) (X Y : Nat → Poly (Zp ⟨p, hp⟩)) (w : World) (hx : Ints3 w A X) (hy : Ints3 w B Y)
    (hsx : ∀ i, i < 3 → (X i).len ≤ 1000000000) (hsy : ∀ i, i < 3 → (Y i).len ≤ 1000000000) (hy0 : Y 0 ≠ 0) :
    Calls Try.prog 52 #[.agg #[.slice (A 0) (X 0).len (C 0), .slice (A 1) (X 1).len (C 1), .slice (A 2) (X 2).len (C 2)], .agg #[.slice (B 0) (Y 0).len (D 0), .slice (B 1) (Y 1).len (D 1), .slice (B 2) (Y 2).len (D 2)], .int .i64 p] w (GivesTri w (nextZ X Y)) := by
  have hp1 := hp.two
  have hp2 := hp.max
  have l0 := hsx 0 (by omega)
  have l1 := hsy 0 (by omega)
  have Hsx := Lib.hid hsx
  have Hsy := Lib.hid hsy
  have Hx := Lib.hid hx
  have Hy := Lib.hid hy
  have hql := quo_len (X 0) hy0
  have Cd := Lib.hid (fun W (h : Below w.heap.size w W) => pdivided_any (A 0) (B 0) _ _ (C 0) (D 0) _ _ W ((hx 0 (by omega)).bel h) ((hy 0 (by omega)).bel h) (by omega) (by omega) hy0)
  have hbA : Below w.heap.size w (((w.alloc (.cells (trd A (fun i => (X i).len) C).toArray 64)).alloc (.cells (trd B (fun i => (Y i).len) D).toArray 64)).alloc (.cells (trd (fun _ => none) (fun _ => 0) (fun _ => 0)).toArray 64)) :=
    (((Below.refl _ _).alloc (Nat.le_refl _) _).alloc (by simp) _).alloc (by simp; omega) _
  have ht1 : Tri (((w.alloc (.cells (trd A (fun i => (X i).len) C).toArray 64)).alloc (.cells (trd B (fun i => (Y i).len) D).toArray 64)).alloc (.cells (trd (fun _ => none) (fun _ => 0) (fun _ => 0)).toArray 64)) w.heap.size A (fun i => (X i).len) C :=
    ((Tri.new w A (fun i => (X i).len) C).bel ((Below.refl _ _).alloc (Nat.le_refl _) _)).bel ((Below.refl _ _).alloc (Nat.le_refl _) _)
  have ht2 : Tri (((w.alloc (.cells (trd A (fun i => (X i).len) C).toArray 64)).alloc (.cells (trd B (fun i => (Y i).len) D).toArray 64)).alloc (.cells (trd (fun _ => none) (fun _ => 0) (fun _ => 0)).toArray 64)) (w.heap.size + 1) B (fun i => (Y i).len) D := by
    have := (Tri.new (w.alloc (.cells (trd A (fun i => (X i).len) C).toArray 64)) B (fun i => (Y i).len) D).bel (w' := ((w.alloc (.cells (trd A (fun i => (X i).len) C).toArray 64)).alloc (.cells (trd B (fun i => (Y i).len) D).toArray 64)).alloc (.cells (trd (fun _ => none) (fun _ => 0) (fun _ => 0)).toArray 64)) ((Below.refl _ _).alloc (Nat.le_refl _) _)
    rw [World.size_alloc] at this
    exact this
  have ht3 : Tri (((w.alloc (.cells (trd A (fun i => (X i).len) C).toArray 64)).alloc (.cells (trd B (fun i => (Y i).len) D).toArray 64)).alloc (.cells (trd (fun _ => none) (fun _ => 0) (fun _ => 0)).toArray 64)) (w.heap.size + 1 + 1) (fun _ => none) (fun _ => 0) (fun _ => 0) := by
    have := Tri.new ((w.alloc (.cells (trd A (fun i => (X i).len) C).toArray 64)).alloc (.cells (trd B (fun i => (Y i).len) D).toArray 64)) (fun _ => none) (fun _ => 0) (fun _ => 0)
    rw [World.size_alloc, World.size_alloc] at this
    exact this
  have HbA := Lib.hid hbA
  have Ht1 := Lib.hid ht1
  have Ht2 := Lib.hid ht2
  have Ht3 := Lib.hid ht3
  clear hx hy hsx hsy hbA ht1 ht2 ht3
  go_enter Try.func52, Try.ntmps52
  go_wp2_with fail
  refine (Cd.out _ HbA.out).mono ?_
  rintro e w1 ⟨A1, c1, A2, c2, rfl, hn1, hn2⟩
  have hb1 := HbA.out.trans (hn1.bel.mono (by have := HbA.out.size; omega))
  have ht1 := Ht1.out.bel hn1.bel
  have ht2 := Ht2.out.bel hn1.bel
  have ht3 := Ht3.out.bel hn1.bel
  have hQ := Lib.hid hn1.rd
  have hX1 := Lib.hid (Hx.out.bel hb1)
  have hY1 := Lib.hid (Hy.out.bel hb1)
  clear hn1 hn2
  go_wp2_with fail
  generalize hQ' : Poly.quo (X 0) (Y 0) = Q at *
  have HQe := Lib.hid hQ'
  have HQl : Hid (Q.len ≤ 1000000000) := by show _ ≤ _; omega
  clear hQ' hql l0 l1
  have hs1 := hb1.size
  go_loopw [19] (fun i wr => ∃ (k : Nat) (A' : Nat → Option Addr) (C' : Nat → Nat), k ≤ 3 ∧ i = .int .i64 k ∧ Tri wr w.heap.size A' (fun i => (mixZ X Y k i).len) C' ∧ Hid (Ints3 wr A' (mixZ X Y k)) ∧ Hid (∀ i, k ≤ i → A' i = A i ∧ C' i = C i) ∧ Tri wr (w.heap.size + 1) B (fun i => (Y i).len) D ∧ Tri wr (w.heap.size + 1 + 1) (fun _ => none) (fun _ => 0) (fun _ => 0) ∧ Hid (Ints wr A1 Q.len (fromP Q)) ∧ Hid (Ints3 wr B Y) ∧ Below w.heap.size w wr) (fun i _ => 3 - (intOf i).toNat)
  case atStart => exact ⟨0, A, C, by omega, rfl, ht1, hX1, fun i _ => ⟨rfl, rfl⟩, ht2, ht3, hQ, hY1, hb1⟩
  case round =>
    obtain ⟨k, A', C', hk, rfl, hx, hI, hsame, hy, hz, hQ2, hY2, hbel⟩ := hrel
    obtain ⟨wo, rfl⟩ : ∃ wo : World, wo = wr := ⟨_, rfl⟩
    by_cases hlt : k < 3
    · have hcx := hx.cell hlt
      have hix := hI.out k hlt
      have hmk : mixZ X Y k k = X k := mixZ_at X Y k
      rw [hmk] at hcx hix
      have hcy := hy.cell hlt
      have hfx := hx.frozen k
      have hiy := hY2.out k hlt
      have hxl := Hsx.out k hlt
      have hyl := Hsy.out k hlt
      have hxlt := hx.lt
      have hylt := hy.lt
      have e1 : IntKind.i64.wrap (p - 1) = p - 1 := IntWalk.i64_in _ (by omega)
      have hk0 : (0 : Int) ≤ (k : Int) := by omega
      have hk3 : (k : Int) < 3 := by omega
      have hpl := prod_len Q (Y k)
      have hql := HQl.out
      have Hix := Lib.hid hix
      have Hiy := Lib.hid hiy
      clear hmk hix hiy
      go_wp2
      go_region_with (first
        | (go_at_call 37; refine (pprodP A1 (B k) c1 (D k) Q (Y k) _ hQ2.out.drew Hiy.out.drew (by omega)).mono ?_; rintro e w3 ⟨A3, c3, rfl, hn3⟩; have hcx3 : w3.cell? ⟨w.heap.size, k, none⟩ = some (.slice (A' k) (X k).len (C' k)) := (hn3.bel.cell (p := ⟨w.heap.size, k, none⟩) hxlt).trans hcx; have hcy3 : w3.cell? ⟨w.heap.size + 1, k, none⟩ = some (.slice (B k) (Y k).len (D k)) := (hn3.bel.cell (p := ⟨w.heap.size + 1, k, none⟩) hylt).trans hcy)
        | (go_at_call 70; refine (psumP (A' k) A3 (C' k) c3 (X k) (Q * Y k) (p - 1) _ (Hix.out.drew.bel hn3.bel) hn3.rd (by omega) (by omega) (by omega)).mono ?_; rintro e w4 ⟨A4, c4, rfl, hn4⟩; have hcx4 : w4.cell? ⟨w.heap.size, k, none⟩ = some (.slice (A' k) (X k).len (C' k)) := (hn4.bel.cell (p := ⟨w.heap.size, k, none⟩) (Nat.lt_of_lt_of_le hxlt hn3.bel.size)).trans hcx3; have hfx4 : w4.frozen? ⟨w.heap.size, k, none⟩ = false := (hn4.bel.frozen (p := ⟨w.heap.size, k, none⟩) (Nat.lt_of_lt_of_le hxlt hn3.bel.size)).trans ((hn3.bel.frozen (p := ⟨w.heap.size, k, none⟩) hxlt).trans hfx)))
      all_goals
        have hZ : X k + Poly.C (Zp.of ⟨p, hp⟩ (p - 1)) * (Q * Y k) = nextZ X Y k := by
          unfold nextZ
          rw [HQe.out]; exact less_times (q := ⟨p, hp⟩) _ _
        rw [hZ] at hn4 ⊢
        have hbt : Below wo.heap.size wo w4 := below_tr (below_tr ((Below.refl wo.heap.size wo).drew) hn3.bel) hn4.bel
        have hx9 : Tri (w4.setCell ⟨w.heap.size, k, none⟩ (.slice A4 (nextZ X Y k).len c4)) w.heap.size (fun i => if i = k then A4 else A' i) (fun i => (mixZ X Y (k + 1) i).len) (fun i => if i = k then c4 else C' i) :=
          ((hx.bel hbt).set k A4 _ c4).congr fun i hi => by
            refine ⟨rfl, ?_, rfl⟩
            show (if i = k then (nextZ X Y k).len else (mixZ X Y k i).len) = (mixZ X Y (k + 1) i).len
            unfold mixZ
            by_cases e : i = k
            · subst e; rw [if_pos rfl, if_pos (by omega)]
            · rw [if_neg e]
              by_cases e2 : i < k
              · rw [if_pos e2, if_pos (by omega)]
              · rw [if_neg e2, if_neg (by omega)]
        have hfar : ∀ {A : Option Addr} {n : Nat} {xs : List Int}, Ints w4 A n xs → Ints (w4.setCell ⟨w.heap.size, k, none⟩ (.slice A4 (nextZ X Y k).len c4)) A n xs := fun h => h.far hcx4 (fun _ _ => by simp)
        have hI9 : Hid (Ints3 (w4.setCell ⟨w.heap.size, k, none⟩ (.slice A4 (nextZ X Y k).len c4)) (fun i => if i = k then A4 else A' i) (mixZ X Y (k + 1))) := by
          intro i hi
          by_cases e : i = k
          · subst e
            simp only [if_true]
            have em : mixZ X Y (i + 1) i = nextZ X Y i := if_pos (by omega)
            rw [em]
            exact hfar hn4.rd
          · simp only [if_neg e]
            have em : mixZ X Y (k + 1) i = mixZ X Y k i := by
              unfold mixZ
              by_cases e2 : i < k
              · rw [if_pos e2, if_pos (by omega)]
              · rw [if_neg e2, if_neg (by omega)]
            rw [em]
            exact hfar ((hI.out i hi).bel hbt)
        have hs9 : Hid (∀ i, k + 1 ≤ i → (fun i => if i = k then A4 else A' i) i = A i ∧ (fun i => if i = k then c4 else C' i) i = C i) := fun i hi => by
          simp only [if_neg (show ¬ i = k by omega)]
          exact hsame.out i (by omega)
        have hy9 := (hy.bel hbt).far (p := ⟨w.heap.size, k, none⟩) (by show w.heap.size + 1 ≠ w.heap.size; omega) (.slice A4 (nextZ X Y k).len c4)
        have hz9 := (hz.bel hbt).far (p := ⟨w.heap.size, k, none⟩) (by show w.heap.size + 1 + 1 ≠ w.heap.size; omega) (.slice A4 (nextZ X Y k).len c4)
        have hq9 := Lib.hid (hfar (hQ2.out.bel hbt))
        have hY9 : Hid (Ints3 (w4.setCell ⟨w.heap.size, k, none⟩ (.slice A4 (nextZ X Y k).len c4)) B Y) := fun i hi => hfar ((hY2.out i hi).bel hbt)
        have hb9 := (hbel.trans (hbt.mono hbel.size)).setCell (p := ⟨w.heap.size, k, none⟩) (Nat.le_refl _) (.slice A4 (nextZ X Y k).len c4)
        clear hZ hfar hbt hcx3 hcy3 hcx4 hfx4 hn3 hn4 hx hy hz
        generalize w4.setCell ⟨w.heap.size, k, none⟩ (.slice A4 (nextZ X Y k).len c4) = w9 at *
        go_wp2
        go_roundw
        case rel => exact ⟨k + 1, _, _, by omega, by go_num, hx9, hI9, hs9, hy9, hz9, hq9, hY9, hb9⟩
        case measure => simp [intOf]; omega
    · obtain rfl : k = 3 := by omega
      have hm3 : Hid (∀ i, i < 3 → mixZ X Y 3 i = nextZ X Y i) := fun i hi => if_pos hi
      have hcz0 := hz.cell (i := 0) (by omega)
      have hcz1 := hz.cell (i := 1) (by omega)
      have hcz2 := hz.cell (i := 2) (by omega)
      have hfz0 := hz.frozen 0
      have hfz1 := hz.frozen 1
      have hfz2 := hz.frozen 2
      have hcx0 := hx.cell (i := 0) (by omega)
      have hcx1 := hx.cell (i := 1) (by omega)
      have hcx2 := hx.cell (i := 2) (by omega)
      rw [hm3.out 0 (by omega)] at hcx0
      rw [hm3.out 1 (by omega)] at hcx1
      rw [hm3.out 2 (by omega)] at hcx2
      go_wp2
      have hzf := ((hz.set 0 (A' 0) (nextZ X Y 0).len (C' 0)).set 1 (A' 1) (nextZ X Y 1).len (C' 1)).set 2 (A' 2) (nextZ X Y 2).len (C' 2)
      have hbf := ((hbel.setCell (p := ⟨w.heap.size + 1 + 1, 0, none⟩) (by simp; omega) (.slice (A' 0) (nextZ X Y 0).len (C' 0))).setCell (p := ⟨w.heap.size + 1 + 1, 1, none⟩) (by simp; omega) (.slice (A' 1) (nextZ X Y 1).len (C' 1))).setCell (p := ⟨w.heap.size + 1 + 1, 2, none⟩) (by simp; omega) (.slice (A' 2) (nextZ X Y 2).len (C' 2))
      have hif : Ints3 (((wo.setCell ⟨w.heap.size + 1 + 1, 0, none⟩ (.slice (A' 0) (nextZ X Y 0).len (C' 0))).setCell ⟨w.heap.size + 1 + 1, 1, none⟩ (.slice (A' 1) (nextZ X Y 1).len (C' 1))).setCell ⟨w.heap.size + 1 + 1, 2, none⟩ (.slice (A' 2) (nextZ X Y 2).len (C' 2))) A' (nextZ X Y) := fun i hi => by
        have h0 := hI.out i hi
        rw [hm3.out i hi] at h0
        exact ((h0.far (hz.cell (i := 0) (by omega)) (fun _ _ => by simp)).far ((hz.set 0 (A' 0) (nextZ X Y 0).len (C' 0)).cell (i := 1) (by omega)) (fun _ _ => by simp)).far (((hz.set 0 (A' 0) (nextZ X Y 0).len (C' 0)).set 1 (A' 1) (nextZ X Y 1).len (C' 1)).cell (i := 2) (by omega)) (fun _ _ => by simp)
      exact bodyPost_ret (v := .agg #[.slice (A' 0) (nextZ X Y 0).len (C' 0), .slice (A' 1) (nextZ X Y 1).len (C' 1), .slice (A' 2) (nextZ X Y 2).len (C' 2)]) (results_cell_row (fn := Try.f52) rfl _ _ _ _ _ _ _ rfl hzf Try.underlying64 rfl row_size) rfl ⟨A', C', rfl, hif, hbf⟩
end Go.Proofs.Ytbcapmnklgdeoaa
