/- Layer 6's statements: what they share. -/
import Derived.Test.YteddelfkjpljpaaFpolyI
import Derived.Test.YteddelfkjpljpaaFpolyF
import Derived.Test.YteddelfkjpljpaaFlinC
import Derived.Test.YteddelfkjpljpaaLaw6Ex
namespace Go.Proofs.Yteddelfkjpljpaa
open Go.RowKit Cl
attribute [local go_sem ↓] Go.wp_at_zero Go.wp_at_succ

theorem Ints.lit {w : World} {xs : List Int} (h : ∀ x ∈ xs, I64 x) : Ints (w.alloc (.cells (ints xs).toArray 3)) (some ⟨w.heap.size, 0, none⟩) xs.length xs :=
  (Row.new w 3 xs).ints (allI64_nth h)
theorem i64_list {xs : List Int} (h : xs.all (fun x => decide (0 ≤ x) && decide (x ≤ 9223372036854775807)) = true) : ∀ x ∈ xs, I64 x := fun x hx => by
  have := List.all_eq_true.1 h x hx
  simp only [Bool.and_eq_true, decide_eq_true_eq] at this
  exact I64.small this.1 this.2

/-- Same, as layer 6 names it. -/
theorem same06 (A B : Option Addr) (n m c d : Nat) (xs ys : List Int) (w : World) (hx : Ints w A n xs) (hy : Ints w B m ys) (hn : n ≤ 9223372036854775807) (hm : m ≤ 9223372036854775807) :
    Calls Try.prog 16 #[.slice A n c, .slice B m d] w fun e w' => e = .returned (.bool (eqI xs ys)) ∧ Below w.heap.size w w' := by
  go_enter Try.func16, Try.ntmps16
  go_wp2_with fail
  refine (same06_any A B n m c d xs ys _ hx hy hn hm).mono ?_
  rintro e w' ⟨rfl, k, rfl⟩
  have hb := below_drewN (Below.refl w.heap.size w) k
  go_wp2_with fail
  go_ret
  exact ⟨rfl, hb⟩
theorem sum06 (A B : Option Addr) (n c m d : Nat) (xs ys : List Int) (p : Int) (w : World) (hp : Pr p) (hx : Ints w A n xs) (hy : Ints w B m ys) (hn : n ≤ 900000000) (hm : m ≤ 900000000) :
    Calls Try.prog 21 #[.slice A n c, .slice B m d, .int .i64 p] w (GivesP w (toP ⟨p, hp⟩ xs + toP ⟨p, hp⟩ ys)) := by
  go_enter Try.func21, Try.ntmps21
  go_wp2_with fail
  refine (padd_yes A B n c m d xs ys p _ hp hx hy (by omega) (by omega)).mono ?_
  rintro e w1 ⟨A1, c1, rfl, hn1⟩
  go_wp2_with fail
  go_ret
  exact ⟨A1, c1, rfl, hn1⟩
theorem times06 (A B : Option Addr) (n c m d : Nat) (xs ys : List Int) (p : Int) (w : World) (hp : Pr p) (hx : Ints w A n xs) (hy : Ints w B m ys) (hn : n ≤ 900000000) (hm : m ≤ 900000000) :
    Calls Try.prog 20 #[.slice A n c, .slice B m d, .int .i64 p] w (GivesP w (toP ⟨p, hp⟩ xs * toP ⟨p, hp⟩ ys)) := by
  go_enter Try.func20, Try.ntmps20
  go_wp2_with fail
  refine (pmul_yes A B n c m d xs ys p _ hp hx hy (by omega) (by omega)).mono ?_
  rintro e w1 ⟨A1, c1, rfl, hn1⟩
  go_wp2_with fail
  go_ret
  exact ⟨A1, c1, rfl, hn1⟩

/-- Are rows short? -/
def shortB (N : Nat) (rows : List (List Int)) : Bool := rows.all fun r => decide (r.length ≤ N)
theorem shortB_iff {N : Nat} {rows : List (List Int)} : shortB N rows = true ↔ ∀ i, i < rows.length → (rAt rows i).length ≤ N := by
  unfold shortB
  rw [List.all_eq_true]
  constructor
  · intro h i hi
    have := h _ (rAt_mem hi)
    simpa using this
  · intro h r hr
    obtain ⟨i, hi, rfl⟩ := List.getElem_of_mem hr
    have := h i hi
    rw [rAt_lt hi] at this
    simpa using this
set_option maxRecDepth 100000 in
theorem short06 (Z : Int) (N m c : Nat) (hZ : Z = ((N : Nat) : Int)) (A : Option Addr) (rows : List (List Int)) (w : World) (hx : Mat w A m rows) (hl : ∀ i, (rAt rows i).length ≤ 9223372036854775807) :
    Calls Try.prog 13 #[.int .i64 Z, .slice A m c] w fun e w' => e = .returned (.bool (shortB N rows)) ∧ w' = w := by
  subst hZ
  have hm := hx.small
  have hlen := hx.len
  obtain ⟨wo, rfl⟩ : ∃ wo : World, wo = w := ⟨_, rfl⟩
  have Hl := Lib.hid hl
  have Hlen := Lib.hid hlen
  clear hl hlen
  go_enter Try.func13, Try.ntmps13
  go_wp2
  go_loopg [5] (m + 1) (fun gk i wr => ∃ k : Nat, k ≤ m ∧ m - k < gk ∧ i = .int .i64 k ∧ Hid (∀ i, i < k → (rAt rows i).length ≤ N) ∧ wr = wo)
  case atStart => exact ⟨0, by omega, by omega, rfl, fun i hi => absurd hi (by omega), rfl⟩
  case round =>
    obtain ⟨k, hk, hgk, rfl, hb, rfl⟩ := hrel
    by_cases hlt : k < m
    · obtain ⟨b, o, rfl, hbb, hc⟩ := hx.at_ (by omega)
      obtain ⟨Ai, ci, h1, h2⟩ := hc k hlt
      have hL := Hl.out k
      clear hc h2
      have Hrow : Hid ((rAt rows k).length = (rAt rows k).length) := rfl
      obtain ⟨L, hLe⟩ : ∃ L, (rAt rows k).length = L := ⟨_, rfl⟩
      have HL := Lib.hid hLe
      rw [hLe] at h1 hL
      clear hLe Hrow
      by_cases hN : L ≤ N
      · have hN' : ¬ (N : Int) < (L : Int) := by omega
        go_wp2
        go_roundg (gk - 1)
        case measure => omega
        case rel => exact ⟨k + 1, by omega, by omega, by go_num, fun i hi => by
          by_cases e : i = k
          · subst e; rw [HL.out]; exact hN
          · exact hb.out i (by omega), rfl⟩
      · have hN' : (N : Int) < (L : Int) := by omega
        have Hf : Hid (shortB N rows = false) := by
          show _ = _
          cases h : shortB N rows with
          | false => rfl
          | true =>
            have := shortB_iff.1 h k (by rw [Hlen.out]; exact hlt)
            rw [HL.out] at this; omega
        go_wp2
        go_ret
        exact ⟨by rw [Hf.out]; rfl, rfl⟩
    · obtain rfl : k = m := by omega
      have Hf : Hid (shortB N rows = true) := shortB_iff.2 fun i hi => hb.out i (by rw [Hlen.out] at hi; exact hi)
      go_wp2
      go_ret
      exact ⟨by rw [Hf.out]; rfl, rfl⟩
/-- Two and three slices in a new block. -/
theorem mat_two {w : World} {A B : Option Addr} {n m c d : Nat} {xs ys : List Int} (hx : Ints w A n xs) (hy : Ints w B m ys) :
    Mat (w.alloc (.cells #[.slice A n c, .slice B m d] 22)) (some ⟨w.heap.size, 0, none⟩) 2 [xs, ys] :=
  ⟨rfl, by omega, fun _ => ⟨_, 0, rfl, by simp, fun i hi => by
    match i, hi with
    | 0, _ =>
      refine ⟨A, c, ?_, ?_⟩
      · rw [cell_of_row _ _ _ _ _ (0, 0) (heap_alloc_new w _)]
        show _ = some (Value.slice A xs.length c)
        rw [hx.len]; rfl
      · have := hx.alloc (.cells #[.slice A n c, .slice B m d] 22)
        rw [← hx.len] at this ⊢; exact this
    | 1, _ =>
      refine ⟨B, d, ?_, ?_⟩
      · rw [cell_of_row _ _ _ _ _ (0, 0) (heap_alloc_new w _)]
        show _ = some (Value.slice B ys.length d)
        rw [hy.len]; rfl
      · have := hy.alloc (.cells #[.slice A n c, .slice B m d] 22)
        rw [← hy.len] at this ⊢; exact this⟩⟩
theorem mat_three {w : World} {A B C : Option Addr} {n m k c d e : Nat} {xs ys zs : List Int} (hx : Ints w A n xs) (hy : Ints w B m ys) (hz : Ints w C k zs) :
    Mat (w.alloc (.cells #[.slice A n c, .slice B m d, .slice C k e] 22)) (some ⟨w.heap.size, 0, none⟩) 3 [xs, ys, zs] :=
  ⟨rfl, by omega, fun _ => ⟨_, 0, rfl, by simp, fun i hi => by
    match i, hi with
    | 0, _ =>
      refine ⟨A, c, ?_, ?_⟩
      · rw [cell_of_row _ _ _ _ _ (0, 0) (heap_alloc_new w _)]
        show _ = some (Value.slice A xs.length c)
        rw [hx.len]; rfl
      · have := hx.alloc (.cells #[.slice A n c, .slice B m d, .slice C k e] 22)
        rw [← hx.len] at this ⊢; exact this
    | 1, _ =>
      refine ⟨B, d, ?_, ?_⟩
      · rw [cell_of_row _ _ _ _ _ (0, 0) (heap_alloc_new w _)]
        show _ = some (Value.slice B ys.length d)
        rw [hy.len]; rfl
      · have := hy.alloc (.cells #[.slice A n c, .slice B m d, .slice C k e] 22)
        rw [← hy.len] at this ⊢; exact this
    | 2, _ =>
      refine ⟨C, e, ?_, ?_⟩
      · rw [cell_of_row _ _ _ _ _ (0, 0) (heap_alloc_new w _)]
        show _ = some (Value.slice C zs.length e)
        rw [hz.len]; rfl
      · have := hz.alloc (.cells #[.slice A n c, .slice B m d, .slice C k e] 22)
        rw [← hz.len] at this ⊢; exact this⟩⟩

set_option maxRecDepth 100000 in
theorem awake06 (w : World) : Calls Try.prog 12 #[] w fun e w' => e = .returned (.bool true) ∧ Below w.heap.size w w' := by
  go_enter Try.func12, Try.ntmps12
  go_wp2_with fail
  have hx := (Ints.lit (w := w) (xs := [1, 0, 0, 1]) (i64_list (by decide))).alloc (.cells (ints [1, 2]).toArray 3)
  have hy := Ints.lit (w := w.alloc (.cells (ints [1, 0, 0, 1]).toArray 3)) (xs := [1, 2]) (i64_list (by decide))
  rw [World.size_alloc] at hy
  refine (pdiv_yes (some ⟨w.heap.size, 0, none⟩) (some ⟨w.heap.size + 1, 0, none⟩) 4 4 2 2 [1, 0, 0, 1] [1, 2] 7 _ pr_seven hx hy (by omega) (by omega) ex_ne).mono ?_
  rintro e w1 ⟨A1, c1, B1, d1, rfl, hn1, hm1⟩
  have hb1 : Below w.heap.size w w1 := (((Below.refl _ w).alloc (Nat.le_refl _) _).alloc (by simp) _).trans (hn1.bel.mono (by simp; omega))
  have Hq := Lib.hid hn1.rd
  have hrl : (Poly.rem (toP ⟨7, pr_seven⟩ [1, 0, 0, 1]) (toP ⟨7, pr_seven⟩ [1, 2])).len = 0 := by
    show (Poly.rem (toP q7 _) (toP q7 _)).len = 0
    rw [ex_div.2, Poly.len_zero]
  clear hn1 hm1 hx hy
  go_wp2_with fail
  have hx2 := Ints.lit (w := w1) (xs := [0, 1]) (i64_list (by decide))
  have hal : Below w1.heap.size w1 (w1.alloc (.cells (ints [0, 1]).toArray 3)) := (Below.refl _ _).alloc (Nat.le_refl _) _
  refine (zof_pos 7 _ (by omega) (by omega)).mono ?_
  rintro e w2 ⟨B2, d2, rfl, hd2, hd2', hl2, hb2⟩
  have hb2' : Below w.heap.size w w2 := (hb1.trans (hal.mono hb1.size)).trans (hb2.mono (by have := hb1.size; simp; omega))
  have Hq2 := Lib.hid ((Hq.out.bel hal).bel hb2)
  have Hx2 := Lib.hid (hx2.bel hb2)
  have Hl2 := Lib.hid hl2
  clear Hq hx2 hl2 hal hb2 hb1
  go_wp2_with fail
  have hal : Below w2.heap.size w2 (w2.alloc (.cells (ints [1, 0, 1]).toArray 3)) := (Below.refl _ _).alloc (Nat.le_refl _) _
  have hmm := Ints.lit (w := w2) (xs := [1, 0, 1]) (i64_list (by decide))
  refine (ppow_yes (some ⟨w1.heap.size, 0, none⟩) B2 (some ⟨w2.heap.size, 0, none⟩) 2 2 ([(7 : Int)].take (lmN [7] 1)).length d2 3 3 false [0, 1] ([(7 : Int)].take (lmN [7] 1)) [1, 0, 1] 7 _ pr_seven (Hx2.out.bel hal) (Hl2.out.bel hal) hmm (by omega) (by omega) (by decide) hd2 hd2' (by decide) ex_ne2).mono ?_
  rintro e w3 ⟨A3, c3, rfl, hn3⟩
  rw [limbs_of (x := 7) (by omega)] at hn3 ⊢
  have hb3 : Below w.heap.size w w3 := (hb2'.trans (hal.mono hb2'.size)).trans (hn3.bel.mono (by have := hb2'.size; simp; omega))
  have Hq3 := Lib.hid ((Hq2.out.bel hal).bel hn3.bel)
  have Hp3 := Lib.hid hn3.rd
  clear hn3 hal hmm Hx2 Hl2 Hq2 hb2'
  have eq1 : Hid (eqI (fromP (Poly.quo (toP ⟨7, pr_seven⟩ [1, 0, 0, 1]) (toP ⟨7, pr_seven⟩ [1, 2]))) [1, 5, 4] = true) := eqI_yes ex_quo
  have eq2 : Hid (eqI (fromP (powR (toP ⟨7, pr_seven⟩ [0, 1]) (Int.toNat 7) (toP ⟨7, pr_seven⟩ [1, 0, 1]))) [0, 6] = true) := eqI_yes ex_powl
  have hL1 : (Poly.quo (toP ⟨7, pr_seven⟩ [1, 0, 0, 1]) (toP ⟨7, pr_seven⟩ [1, 2])).len ≤ 900000000 := by
    have := fromP_length (Poly.quo (toP q7 [1, 0, 0, 1]) (toP q7 [1, 2]))
    rw [ex_quo] at this
    show (Poly.quo (toP q7 _) (toP q7 _)).len ≤ _
    rw [← this]; decide
  have hL2 : (powR (toP ⟨7, pr_seven⟩ [0, 1]) (Int.toNat 7) (toP ⟨7, pr_seven⟩ [1, 0, 1])).len ≤ 900000000 := by
    have := fromP_length (powR (toP q7 [0, 1]) 7 (toP q7 [1, 0, 1]))
    rw [ex_powl] at this
    show (powR (toP q7 _) 7 (toP q7 _)).len ≤ _
    rw [← this]; decide
  generalize Poly.quo (toP ⟨7, pr_seven⟩ [1, 0, 0, 1]) (toP ⟨7, pr_seven⟩ [1, 2]) = Q at *
  generalize Poly.rem (toP ⟨7, pr_seven⟩ [1, 0, 0, 1]) (toP ⟨7, pr_seven⟩ [1, 2]) = R at *
  generalize powR (toP ⟨7, pr_seven⟩ [0, 1]) (Int.toNat 7) (toP ⟨7, pr_seven⟩ [1, 0, 1]) = X at *
  go_wp2_with fail
  have hy1 := Ints.lit (w := w3) (xs := [1, 5, 4]) (i64_list (by decide))
  have hal : Below w3.heap.size w3 (w3.alloc (.cells (ints [1, 5, 4]).toArray 3)) := (Below.refl _ _).alloc (Nat.le_refl _) _
  refine (same06 A1 (some ⟨w3.heap.size, 0, none⟩) Q.len 3 c1 3 _ [1, 5, 4] _ (Hq3.out.bel hal) hy1 (by omega) (by omega)).mono ?_
  rintro e w4 ⟨rfl, hb4⟩
  rw [eq1.out]
  have hb4' : Below w.heap.size w w4 := (hb3.trans (hal.mono hb3.size)).trans (hb4.mono (by have := hb3.size; simp; omega))
  have Hp4 := Lib.hid ((Hp3.out.bel hal).bel hb4)
  clear hb3 hb4 hal Hq3 hy1 Hp3
  go_wp2_with fail
  have hy2 := Ints.lit (w := w4) (xs := [0, 6]) (i64_list (by decide))
  have hal : Below w4.heap.size w4 (w4.alloc (.cells (ints [0, 6]).toArray 3)) := (Below.refl _ _).alloc (Nat.le_refl _) _
  refine (same06 A3 (some ⟨w4.heap.size, 0, none⟩) X.len 2 c3 2 _ [0, 6] _ (Hp4.out.bel hal) hy2 (by omega) (by omega)).mono ?_
  rintro e w5 ⟨rfl, hb5⟩
  rw [eq2.out]
  have hb5' : Below w.heap.size w w5 := (hb4'.trans (hal.mono hb4'.size)).trans (hb5.mono (by have := hb4'.size; simp; omega))
  go_wp2_with fail
  go_ret
  exact ⟨rfl, hb5'⟩
end Go.Proofs.Yteddelfkjpljpaa
