/- FpRest: the statement's walk: where rests are. -/
import Derived.Test.YthpkpnpkkflfpaaFpE
namespace Go.Proofs.Ythpkpnpkkflfpaa
open Go.RowKit Cl

theorem tmod_cases (a : Int) {p : Int} (hp : 1 ≤ p) : (0 ≤ a.tmod p ∧ red a p = a.tmod p) ∨ (a.tmod p < 0 ∧ red a p - p = a.tmod p) := by
  rw [red_of_pos hp, Int.tmod_eq_emod]
  have h1 := Int.emod_nonneg a (b := p) (by omega)
  have h2 := Int.emod_lt_of_pos a (b := p) (by omega)
  split
  · exact .inl ⟨by omega, by omega⟩
  · exact .inr ⟨by omega, by omega⟩

theorem law_FpRest (a p : Int) (w : World) (h1 : -9223372036854775808 ≤ a) (h2 : a ≤ 9223372036854775807) (h3 : -9223372036854775808 ≤ p) (h4 : p ≤ 9223372036854775807) :
    Calls Try.prog 3 #[.int .i64 a, .int .i64 p] w fun e w' => e = .returned (.bool true) ∧ Below w.heap.size w w' := by
  by_cases hp : p < 1
  · have c := red_any a p w h1 h2 h3 h4
    rw [show red a p = 0 by unfold red; rw [if_pos hp]] at c
    have C := Lib.hid c; clear c
    go_enter Try.func3, Try.ntmps3
    go_wp2_with (first
      | (go_at_call 14; refine (awake05 _).mono ?_; rintro e w' ⟨rfl, rfl⟩)
      | (go_at_call 15; refine C.out.mono ?_; rintro e w' ⟨rfl, rfl⟩))
    go_ret
    exact ⟨rfl, Below.refl _ _⟩
  · obtain ⟨hr1, hr2⟩ := red_bd a (p := p) (by omega)
    rcases tmod_cases a (p := p) (by omega) with ⟨h5, h6⟩ | ⟨h5, h6⟩
    · have h7 : (a.tmod p == red a p) = true := by simp [h6]
      clear h6
      by_cases h0 : 0 ≤ a
      · have h8 : (a % p == red a p) = true := by rw [Int.tmod_eq_emod_of_nonneg h0] at h7; exact h7
        clear h7
        go_enter Try.func3, Try.ntmps3
        go_wp2_with (first
          | (go_at_call 14; refine (awake05 _).mono ?_; rintro e w' ⟨rfl, rfl⟩)
          | (go_at_call 15; refine (red_any _ _ _ (by omega) (by omega) (by omega) (by omega)).mono ?_; rintro e w' ⟨rfl, rfl⟩))
        go_ret
        exact ⟨rfl, Below.refl _ _⟩
      · go_enter Try.func3, Try.ntmps3
        go_wp2_with (first
          | (go_at_call 14; refine (awake05 _).mono ?_; rintro e w' ⟨rfl, rfl⟩)
          | (go_at_call 15; refine (red_any _ _ _ (by omega) (by omega) (by omega) (by omega)).mono ?_; rintro e w' ⟨rfl, rfl⟩))
        go_ret
        exact ⟨rfl, Below.refl _ _⟩
    · have h7 : (red a p - p == a.tmod p) = true := by simp [h6]
      have h9 : (a.tmod p == red a p) = false := by simp; omega
      clear h6
      go_enter Try.func3, Try.ntmps3
      go_wp2_with (first
        | (go_at_call 14; refine (awake05 _).mono ?_; rintro e w' ⟨rfl, rfl⟩)
        | (go_at_call 15; refine (red_any _ _ _ (by omega) (by omega) (by omega) (by omega)).mono ?_; rintro e w' ⟨rfl, rfl⟩))
      go_ret
      exact ⟨rfl, Below.refl _ _⟩

end Go.Proofs.Ythpkpnpkkflfpaa
