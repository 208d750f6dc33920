/- Contracts: what a matrix makes nought: where it may not be asked. -/
import Derived.Test.YthpkpnpkkflfpaaFlinN
namespace Go.Proofs.Ythpkpnpkkflfpaa
open Go.RowKit Cl
attribute [local go_sem ↓] Go.wp_at_zero Go.wp_at_succ

theorem nullOk_false {rows : List (List Int)} {n p : Int} (h : nullOk rows n p = false) : matOk rows p = false ∨ (matOk rows p = true ∧ (n < 0 ∨ (0 ≤ n ∧ 64 < n) ∨ (0 ≤ n ∧ n ≤ 64 ∧ 0 < rows.length ∧ ((rAt rows 0).length : Int) ≠ n))) := by
  cases hm : matOk rows p with
  | false => exact .inl rfl
  | true =>
    refine .inr ⟨rfl, ?_⟩
    by_cases h1 : n < 0
    · exact .inl h1
    · by_cases h2 : 64 < n
      · exact .inr (.inl ⟨by omega, h2⟩)
      · refine .inr (.inr ⟨by omega, by omega, ?_⟩)
        have h3 : ¬ (rows.length = 0 ∨ ((rAt rows 0).length : Int) = n) := fun h4 => by
          have := nullOk_iff.2 ⟨hm, by omega, by omega, h4⟩
          rw [h] at this; cases this
        exact ⟨Nat.pos_of_ne_zero fun e => h3 (.inl e), fun e => h3 (.inr e)⟩

set_option maxRecDepth 100000 in
theorem null_no (A : Option Addr) (m c : Nat) (rows : List (List Int)) (n p : Int) (w : World) (hx : Mat w A m rows) (h1 : -9223372036854775808 ≤ n) (h2 : n ≤ 9223372036854775807) (h3 : -9223372036854775808 ≤ p) (h4 : p ≤ 9223372036854775807) (hok : nullOk rows n p = false) :
    Calls Try.prog 35 #[.slice A m c, .int .i64 n, .int .i64 p] w fun e w' => e = .returned (.tuple #[.slice none 0 0, .int .i64 1]) ∧ w = w' := by
  have c1 := right_any A m c rows p w hx h3 h4
  rcases nullOk_false hok with h | ⟨h, h5⟩
  · rw [matE_no h] at c1
    have C1 := Lib.hid c1
    clear c1 h hok
    go_enter Try.func35, Try.ntmps35
    go_wp2_with (go_at_call 42; refine C1.out.mono ?_; rintro e w' ⟨rfl, rfl⟩)
    go_ret2
    exact ⟨rfl, rfl⟩
  · rw [matE_yes h] at c1
    have C1 := Lib.hid c1
    clear c1 hok
    rcases h5 with h5 | ⟨h5, h6⟩ | ⟨h5, h6, h7, h8⟩
    · clear h
      go_enter Try.func35, Try.ntmps35
      go_wp2_with (go_at_call 42; refine C1.out.mono ?_; rintro e w' ⟨rfl, rfl⟩)
      go_ret2
      exact ⟨rfl, rfl⟩
    · have h5' : ¬ n < 0 := by omega
      clear h
      go_enter Try.func35, Try.ntmps35
      go_wp2_with (go_at_call 42; refine C1.out.mono ?_; rintro e w' ⟨rfl, rfl⟩)
      go_ret2
      exact ⟨rfl, rfl⟩
    · have hl := hx.len
      obtain ⟨b, o, rfl, hb, hc⟩ := hx.at_ (by omega)
      obtain ⟨A1, c1, hc1, _⟩ := hc 0 (by omega)
      rw [Nat.add_zero] at hc1
      have h5' : ¬ n < 0 := by omega
      have h6' : ¬ (64 : Int) < n := by omega
      have hd0 : decide ((0 : Int) < (m : Int)) = true := decide_eq_true (by omega)
      have hd1 : (((rAt rows 0).length : Int) != n) = true := by simpa using h8
      have hpb : (0 : Int) < (m : Int) := by omega
      clear h hc h8 hl h7
      go_enter Try.func35, Try.ntmps35
      go_wp2_with (go_at_call 42; refine C1.out.mono ?_; rintro e w' ⟨rfl, rfl⟩)
      go_ret2
      exact ⟨rfl, rfl⟩

set_option maxRecDepth 100000 in
theorem rnull_no (A : Option Addr) (m c : Nat) (rows : List (List Int)) (n p : Int) (w : World) (hx : Mat w A m rows) (h1 : -9223372036854775808 ≤ n) (h2 : n ≤ 9223372036854775807) (h3 : -9223372036854775808 ≤ p) (h4 : p ≤ 9223372036854775807) (hok : nullOk rows n p = false) :
    Calls Try.prog 36 #[.slice A m c, .int .i64 n, .int .i64 p] w fun e w' => e = .returned (.tuple #[.slice none 0 0, .int .i64 1]) ∧ ∃ k, w' = w.drewN k := by
  have c1 := rright_any A m c rows p w hx h3 h4
  rcases nullOk_false hok with h | ⟨h, h5⟩
  · rw [h] at c1
    have C1 := Lib.hid c1
    clear c1 h hok
    go_enter Try.func36, Try.ntmps36
    go_wp2_with (go_at_call 47; refine C1.out.mono ?_; rintro e w' ⟨rfl, kr, rfl⟩)
    go_ret2
    exact ⟨rfl, _, rfl⟩
  · rw [h] at c1
    have C1 := Lib.hid c1
    clear c1 hok
    rcases h5 with h5 | ⟨h5, h6⟩ | ⟨h5, h6, h7, h8⟩
    · clear h
      go_enter Try.func36, Try.ntmps36
      go_wp2_with (go_at_call 47; refine C1.out.mono ?_; rintro e w' ⟨rfl, kr, rfl⟩)
      go_ret2
      exact ⟨rfl, _, rfl⟩
    · have h5' : ¬ n < 0 := by omega
      clear h
      go_enter Try.func36, Try.ntmps36
      go_wp2_with (go_at_call 47; refine C1.out.mono ?_; rintro e w' ⟨rfl, kr, rfl⟩)
      go_ret2
      exact ⟨rfl, _, rfl⟩
    · have hl := hx.len
      obtain ⟨b, o, rfl, hb, hc⟩ := hx.at_ (by omega)
      obtain ⟨A1, c1, hc1, _⟩ := hc 0 (by omega)
      rw [Nat.add_zero] at hc1
      have h5' : ¬ n < 0 := by omega
      have h6' : ¬ (64 : Int) < n := by omega
      have hd0 : decide ((0 : Int) < (m : Int)) = true := decide_eq_true (by omega)
      have hd1 : (((rAt rows 0).length : Int) != n) = true := by simpa using h8
      have hpb : (0 : Int) < (m : Int) := by omega
      clear h hc h8 hl h7
      go_enter Try.func36, Try.ntmps36
      go_wp2_with (go_at_call 47; refine C1.out.mono ?_; rintro e w' ⟨rfl, kr, rfl⟩)
      go_ret2
      exact ⟨rfl, _, rfl⟩

end Go.Proofs.Ythpkpnpkkflfpaa
