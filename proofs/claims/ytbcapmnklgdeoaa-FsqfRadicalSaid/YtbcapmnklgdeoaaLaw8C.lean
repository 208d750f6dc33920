/- Layer 8's laws: the document's example, walked. -/
import Derived.Test.YtbcapmnklgdeoaaLaw8B
import Derived.Test.YtbcapmnklgdeoaaLaw8Ex
namespace Go.Proofs.Ytbcapmnklgdeoaa
open Go.RowKit Cl
attribute [local go_sem ↓] Go.wp_at_zero Go.wp_at_succ

theorem Ints.lit {w : World} {xs : List Int} (h : ∀ x ∈ xs, I64 x) : Ints (w.alloc (.cells (ints xs).toArray 3)) (some ⟨w.heap.size, 0, none⟩) xs.length xs :=
  (Row.new w 3 xs).ints (allI64_nth h)
theorem i64_list {xs : List Int} (h : xs.all (fun x => decide (0 ≤ x) && decide (x ≤ 9223372036854775807)) = true) : ∀ x ∈ xs, I64 x := fun x hx => by
  have := List.all_eq_true.1 h x hx
  simp only [Bool.and_eq_true, decide_eq_true_eq] at this
  exact I64.small this.1 this.2

/-- The example's parts as the law writes them. -/
theorem lit_prs (w : World) (b1 b2 : Nat) (c1 c2 : Nat) (h1 : Ints w (some ⟨b1, 0, none⟩) 2 [1, 1]) (h2 : Ints w (some ⟨b2, 0, none⟩) 2 [0, 1]) :
    Prs (w.alloc (.cells #[.slice (some ⟨b1, 0, none⟩) 2 c1, .int .i64 1, .slice (some ⟨b2, 0, none⟩) 2 c2, .int .i64 3] 47)) (some ⟨w.heap.size, 0, none⟩) 2 (Poly.partsL ex8) := by
  have l1 : (toP q3 [1, 1]).len = 2 := len_toP_of (by decide +kernel)
  have l0 : (toP q3 [0, 1]).len = 2 := len_toP_of (by decide +kernel)
  have f1 : fromP (toP q3 [1, 1]) = [1, 1] := fromP_toP_of (by decide +kernel)
  have f0 : fromP (toP q3 [0, 1]) = [0, 1] := fromP_toP_of (by decide +kernel)
  rw [ex8_parts]
  have hb := heap_alloc_new w (.cells #[.slice (some ⟨b1, 0, none⟩) 2 c1, .int .i64 1, .slice (some ⟨b2, 0, none⟩) 2 c2, .int .i64 3] 47)
  refine ⟨rfl, fun _ => ⟨w.heap.size, 0, rfl, by simp, fun i hi => ?_⟩⟩
  match i, hi with
  | 0, _ => exact ⟨some ⟨b1, 0, none⟩, c1, by simp only [World.cell?, hb]; show _ = some (Value.slice _ (toP q3 [1, 1]).len _); rw [l1]; rfl, by simp only [World.cell?, hb]; rfl, by show Ints _ _ (toP q3 [1, 1]).len (fromP (toP q3 [1, 1])); rw [l1, f1]; exact h1.alloc _⟩
  | 1, _ => exact ⟨some ⟨b2, 0, none⟩, c2, by simp only [World.cell?, hb]; show _ = some (Value.slice _ (toP q3 [0, 1]).len _); rw [l0]; rfl, by simp only [World.cell?, hb]; rfl, by show Ints _ _ (toP q3 [0, 1]).len (fromP (toP q3 [0, 1])); rw [l0, f0]; exact h2.alloc _⟩
  | i + 2, h => exact absurd h (by simp)
theorem lens_of {q : Prm} {a : Poly (Zp q)} (ha : a ≠ 0) (hl : a.len ≤ 900000000) (i : Nat) (h : i < (Poly.partsL a).length) : ((Poly.partsL a)[i]).1.len ≤ 900000000 ∧ ((Poly.partsL a)[i]).2 ≤ 900000000 := by
  rw [Poly.partsL_get]
  have h1 := (Poly.mem_lvls ha).1 (List.getElem_mem (l := Poly.lvls a) (n := i) (by rwa [Poly.partsL_length] at h))
  have h2 := Poly.lvl_lt ha h1.1 h1.2
  have h3 := Poly.lvl_len ha h1.1
  exact ⟨Nat.le_trans h3 hl, by omega⟩
set_option maxRecDepth 100000 in
set_option maxHeartbeats 4000000 in
theorem awake08 (w : World) : Calls Try.prog 8 #[] w fun e w' => e = .returned (.bool true) ∧ Below w.heap.size w w' := by
  have hlen2 : (Poly.partsL ex8).length = 2 := by rw [ex8_parts]; rfl
  have H2 := Lib.hid hlen2
  have hal5 : ex8.len = 5 := len_toP_of (by decide +kernel)
  have Hne := Lib.hid ex8_ne
  have Hal : Hid (ex8.len ≤ 900000000) := by show _ ≤ _; omega
  clear hlen2 hal5
  go_enter Try.func8, Try.ntmps8
  go_wp2_with fail
  have hx := Ints.lit (w := w) (xs := [0, 0, 0, 1, 1]) (i64_list (by decide))
  have hal : Below w.heap.size w (w.alloc (.cells (ints [0, 0, 0, 1, 1]).toArray 3)) := (Below.refl _ _).alloc (Nat.le_refl _) _
  refine (spartsR (hp := pr_three) (N := 5) (a := ex8) (Rd.of_list hx) (Nat.le_refl _) (by omega) Hne.out).mono ?_
  rintro e w1 ⟨A1, c1, rfl, hp1, hb1⟩
  rw [H2.out] at hp1 ⊢
  have Hp1 := Lib.hid hp1
  have hbel1 := hal.trans (hb1.mono hal.size)
  clear hp1 hx hal hb1
  go_wp2_with fail
  have hx := Ints.lit (w := w1) (xs := [0, 0, 0, 1, 1]) (i64_list (by decide))
  have hal : Below w1.heap.size w1 (w1.alloc (.cells (ints [0, 0, 0, 1, 1]).toArray 3)) := (Below.refl _ _).alloc (Nat.le_refl _) _
  refine (sradR (hp := pr_three) (N := 5) (a := ex8) (Rd.of_list hx) (Nat.le_refl _) (by omega) Hne.out).mono ?_
  rintro e w2 ⟨A2, c2, rfl, l2, h2, hb2⟩
  have hb12 : Below w1.heap.size w1 w2 := hal.trans (hb2.mono hal.size)
  have Hp2 := Lib.hid (Hp1.out.bel hb12)
  have hbel2 := below_tr hbel1 hb12
  have hrd := Lib.hid h2
  have hl3 : (Poly.rad ex8).len = 3 := by rw [← fromP_length, ex8_rad]; rfl
  have Hl3 : Hid ((Poly.rad (F := Zp ⟨3, pr_three⟩) ex8).len = 3) := hl3
  rw [Hl3.out] at h2 ⊢
  have h2' : Ints w2 A2 3 [0, 1, 1] := by rw [← ex8_rad]; exact h2
  have Hr := Lib.hid h2'
  clear h2 h2' hx hal hb2 hb12 Hp1 hbel1 hl3 hrd l2
  go_wp2_with fail
  refine (theirsR (q := q3) A1 2 c1 ex8 w2 Hne.out Hal.out Hp2.out (by omega)).mono ?_
  rintro e w3 ⟨B3, d3, rfl, hp3, hb3⟩
  have Hp3 := Lib.hid hp3
  have Hr3 := Lib.hid (Hr.out.bel hb3)
  have hbel3 := below_tr hbel2 hb3
  clear hp3 hb3 Hp2 Hr hbel2
  go_wp2_with fail
  have g1 := (Ints.lit (w := w3) (xs := [1, 1]) (i64_list (by decide))).alloc (.cells (ints [0, 1]).toArray 3)
  have g2 := Ints.lit (w := w3.alloc (.cells (ints [1, 1]).toArray 3)) (xs := [0, 1]) (i64_list (by decide))
  rw [World.size_alloc] at g2
  have hpy := lit_prs ((w3.alloc (.cells (ints [1, 1]).toArray 3)).alloc (.cells (ints [0, 1]).toArray 3)) w3.heap.size (w3.heap.size + 1) 2 2 g1 g2
  have hal : Below w3.heap.size w3 (((w3.alloc (.cells (ints [1, 1]).toArray 3)).alloc (.cells (ints [0, 1]).toArray 3)).alloc (.cells #[.slice (some ⟨w3.heap.size, 0, none⟩) 2 2, .int .i64 1, .slice (some ⟨w3.heap.size + 1, 0, none⟩) 2 2, .int .i64 3] 47)) := (((Below.refl _ w3).alloc (Nat.le_refl _) _).alloc (by simp) _).alloc (by simp; omega) _
  rw [World.size_alloc, World.size_alloc] at hpy
  refine (same8 (q := q3) B3 (some ⟨w3.heap.size + 1 + 1, 0, none⟩) 2 d3 2 (Poly.partsL ex8) _ (Hp3.out.bel hal) hpy (by omega) (lens_of Hne.out Hal.out)).mono ?_
  rintro e w4 ⟨rfl, k, hk⟩
  have hb4 : Below w3.heap.size w3 w4 := by rw [hk]; exact below_drewN hal k
  have Hr4 := Lib.hid (Hr3.out.bel hb4)
  have hbel4 := below_tr hbel3 hb4
  clear hk hb4 hal hpy g1 g2 Hp3 Hr3 hbel3
  go_wp2_with fail
  have hy := Ints.lit (w := w4) (xs := [0, 1, 1]) (i64_list (by decide))
  have hal : Below w4.heap.size w4 (w4.alloc (.cells (ints [0, 1, 1]).toArray 3)) := (Below.refl _ _).alloc (Nat.le_refl _) _
  refine (same06_true A2 (some ⟨w4.heap.size, 0, none⟩) 3 c2 3 [0, 1, 1] _ (Hr4.out.bel hal) hy (by omega)).mono ?_
  rintro e w5 ⟨rfl, k, hk⟩
  have hb5 : Below w4.heap.size w4 w5 := by rw [hk]; exact below_drewN hal k
  have hbel5 := below_tr hbel4 hb5
  clear hk hb5 hal hy Hr4 hbel4
  go_wp2_with fail
  go_ret
  exact ⟨rfl, hbel5⟩
end Go.Proofs.Ytbcapmnklgdeoaa
