/- What the matrices' statements lean on: plain rows are short; equal rows are told so. -/
import Derived.Test.YthpkpnpkkflfpaaFlinP
namespace Go.Proofs.Ythpkpnpkkflfpaa
open Go.RowKit Cl
attribute [local go_sem ↓] Go.wp_at_zero Go.wp_at_succ

theorem IsEch.short {rows : List (List Int)} {p : Int} {e : List (List Int)} (h : IsEch rows p e) (hm : matOk rows p = true) (i : Nat) : (rAt e i).length ≤ 64 := by
  obtain ⟨O, k, hr, rfl⟩ := h
  obtain ⟨hp, h64, hrow⟩ := matOk_iff.1 hm
  rw [rAt_rowsTab]
  split
  · next hi =>
    rw [hr.rref.len i hi]
    rcases Nat.eq_zero_or_pos rows.length with h0 | h0
    · rw [rAt_ge (by omega)]; simp
    · exact (hrow 0 h0).1
  · simp
theorem IsNull.short {rows : List (List Int)} {n : Nat} {p : Int} {e : List (List Int)} (h : IsNull rows n p e) (i : Nat) : (rAt e i).length ≤ n := by
  obtain ⟨O, hr, rfl⟩ := h
  by_cases hi : i < (nullTo O n p n).length
  · obtain ⟨c, _, _, h2⟩ := nullTo_row hi
    rw [h2, putTo_length]; omega
  · rw [rAt_ge (by omega)]; simp
theorem ints_none (w : World) (A : Option Addr) : Ints w A 0 [] := ⟨rfl, fun h => absurd h (by omega), fun i => by rw [nth_ge (by simp)]; exact I64.zero⟩
/-- Equal rows, wherever they lie. -/
theorem same_rows (A B : Option Addr) (n m c d : Nat) (xs ys : List (List Int)) (w : World) (hx : Mat w A n xs) (hy : Mat w B m ys) (hs : ∀ i, (rAt ys i).length ≤ 64) (he : xs = ys) :
    Calls Try.prog 34 #[.slice A n c, .slice B m d] w fun e w' => e = .returned (.bool true) ∧ Below w.heap.size w w' := by
  refine (rsame_any A B n m c d xs ys w hx hy (fun i => by have := hs i; omega)).mono ?_
  rintro e w' ⟨rfl, k, rfl⟩
  exact ⟨ret_bool (eqR_yes he), below_drewN (Below.refl _ _) _⟩
theorem same_ints (A B : Option Addr) (n m c d : Nat) (xs ys : List Int) (w : World) (hx : Ints w A n xs) (hy : Ints w B m ys) (hn : n ≤ 9223372036854775807) (he : xs = ys) :
    Calls Try.prog 39 #[.slice A n c, .slice B m d] w fun e w' => e = .returned (.bool true) ∧ Below w.heap.size w w' := by
  have hm : m ≤ 9223372036854775807 := by have := hx.len; have := hy.len; subst he; omega
  refine (same06_any A B n m c d xs ys w hx hy hn hm).mono ?_
  rintro e w' ⟨rfl, k, rfl⟩
  exact ⟨ret_bool (eqI_yes he), below_drewN (Below.refl _ _) _⟩
/-- Both answers of what is no matrix. -/
theorem ech_bad (A : Option Addr) (m c : Nat) (rows : List (List Int)) (p : Int) (w : World) (hx : Mat w A m rows) (h3 : -9223372036854775808 ≤ p) (h4 : p ≤ 9223372036854775807) (hok : matOk rows p = false) :
    Calls Try.prog 32 #[.slice A m c, .int .i64 p] w fun e w' => e = .returned (.tuple #[.slice none 0 0, .int .i64 1]) ∧ Below w.heap.size w w' :=
  (ech_no A m c rows p w hx h3 h4 hok).mono fun _ _ ⟨h, e⟩ => ⟨h, e ▸ Below.refl _ _⟩
theorem rech_bad (A : Option Addr) (m c : Nat) (rows : List (List Int)) (p : Int) (w : World) (hx : Mat w A m rows) (h3 : -9223372036854775808 ≤ p) (h4 : p ≤ 9223372036854775807) (hok : matOk rows p = false) :
    Calls Try.prog 33 #[.slice A m c, .int .i64 p] w fun e w' => e = .returned (.tuple #[.slice none 0 0, .int .i64 1]) ∧ Below w.heap.size w w' :=
  (rech_no A m c rows p w hx h3 h4 hok).mono fun _ _ ⟨h, k, e⟩ => ⟨h, e ▸ below_drewN (Below.refl _ _) _⟩
theorem null_bad (A : Option Addr) (m c : Nat) (rows : List (List Int)) (n p : Int) (w : World) (hx : Mat w A m rows) (h1 : -9223372036854775808 ≤ n) (h2 : n ≤ 9223372036854775807) (h3 : -9223372036854775808 ≤ p) (h4 : p ≤ 9223372036854775807) (hok : nullOk rows n p = false) :
    Calls Try.prog 35 #[.slice A m c, .int .i64 n, .int .i64 p] w fun e w' => e = .returned (.tuple #[.slice none 0 0, .int .i64 1]) ∧ Below w.heap.size w w' :=
  (null_no A m c rows n p w hx h1 h2 h3 h4 hok).mono fun _ _ ⟨h, e⟩ => ⟨h, e ▸ Below.refl _ _⟩
theorem rnull_bad (A : Option Addr) (m c : Nat) (rows : List (List Int)) (n p : Int) (w : World) (hx : Mat w A m rows) (h1 : -9223372036854775808 ≤ n) (h2 : n ≤ 9223372036854775807) (h3 : -9223372036854775808 ≤ p) (h4 : p ≤ 9223372036854775807) (hok : nullOk rows n p = false) :
    Calls Try.prog 36 #[.slice A m c, .int .i64 n, .int .i64 p] w fun e w' => e = .returned (.tuple #[.slice none 0 0, .int .i64 1]) ∧ Below w.heap.size w w' :=
  (rnull_no A m c rows n p w hx h1 h2 h3 h4 hok).mono fun _ _ ⟨h, k, e⟩ => ⟨h, e ▸ below_drewN (Below.refl _ _) _⟩
/-- Chains of calls that make memory. -/
theorem below_then {w w1 w2 : World} (h : Below w.heap.size w w1) (k : Below w1.heap.size w1 w2) : Below w.heap.size w w2 := h.trans (k.mono h.size)
end Go.Proofs.Ythpkpnpkkflfpaa
