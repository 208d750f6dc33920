/- FpDivides: the statement's walk. -/
import Derived.Test.YthpkpnpkkflfpaaFpE
namespace Go.Proofs.Ythpkpnpkkflfpaa
open Go.RowKit Cl

set_option maxRecDepth 100000 in
theorem law_FpDivides (a b n p : Int) (w : World) (l_a : -9223372036854775808 ≤ a) (u_a : a ≤ 9223372036854775807) (l_b : -9223372036854775808 ≤ b) (u_b : b ≤ 9223372036854775807) (l_n : -9223372036854775808 ≤ n) (u_n : n ≤ 9223372036854775807) (l_p : -9223372036854775808 ≤ p) (u_p : p ≤ 9223372036854775807) :
    Calls Try.prog 5 #[.int .i64 a, .int .i64 b, .int .i64 n, .int .i64 p] w fun e w' => e = .returned (.bool true) ∧ Below w.heap.size w w' := by
  cases hp : isPrime p with
  | false =>
    go_enter Try.func5, Try.ntmps5
    go_wp2_with (first
          | (go_at_call 14; refine (awake05 _).mono ?_; rintro e w' ⟨rfl, rfl⟩)
          | (go_at_call 19; refine (inv_no _ _ _ (by omega) (by omega) hp).mono ?_; rintro e w' ⟨rfl, rfl⟩)
          | (go_at_call 20; refine (rinv_no _ _ _ (by omega) (by omega) hp).mono ?_; rintro e w' ⟨rfl, rfl⟩)
          | (go_at_call 21; refine (div_no _ _ _ _ (by omega) (by omega) hp).mono ?_; rintro e w' ⟨rfl, rfl⟩)
          | (go_at_call 22; refine (rdiv_no _ _ _ _ (by omega) (by omega) hp).mono ?_; rintro e w' ⟨rfl, rfl⟩)
          | (go_at_call 16; refine (pow_no _ _ _ _ (by omega) (by omega) hp).mono ?_; rintro e w' ⟨rfl, rfl⟩)
          | (go_at_call 23; refine (rpow_no _ _ _ _ (by omega) (by omega) hp).mono ?_; rintro e w' ⟨rfl, rfl⟩))
    go_ret
    exact ⟨rfl, Below.refl _ _⟩
  | true =>
    by_cases hb : Cg p b 0
    · by_cases hn : n < 0
      · go_enter Try.func5, Try.ntmps5
        go_wp2_with (first
              | (go_at_call 14; refine (awake05 _).mono ?_; rintro e w' ⟨rfl, rfl⟩)
              | (go_at_call 19; refine (inv_yes _ _ _ (by omega) (by omega) (by omega) (by omega) hp).mono ?_; rintro e w' ⟨rfl, rfl⟩)
              | (go_at_call 20; refine (rinv_yes _ _ _ (by omega) (by omega) (by omega) (by omega) hp).mono ?_; rintro e w' ⟨rfl, rfl⟩)
              | (go_at_call 21; refine (div_zero _ _ _ _ (by omega) (by omega) (by omega) (by omega) hp hb).mono ?_; rintro e w' ⟨rfl, rfl⟩)
              | (go_at_call 22; refine (rdiv_zero _ _ _ _ (by omega) (by omega) (by omega) (by omega) hp hb).mono ?_; rintro e w' ⟨rfl, rfl⟩)
              | (go_at_call 16; refine (pow_neg _ _ _ _ (by omega) (by omega) (by omega) hp).mono ?_; rintro e w' ⟨rfl, rfl⟩)
              | (go_at_call 23; refine (rpow_neg _ _ _ _ (by omega) (by omega) (by omega) hp).mono ?_; rintro e w' ⟨rfl, rfl⟩))
        go_ret
        exact ⟨rfl, Below.refl _ _⟩
      · go_enter Try.func5, Try.ntmps5
        go_wp2_with (first
              | (go_at_call 14; refine (awake05 _).mono ?_; rintro e w' ⟨rfl, rfl⟩)
              | (go_at_call 19; refine (inv_yes _ _ _ (by omega) (by omega) (by omega) (by omega) hp).mono ?_; rintro e w' ⟨rfl, rfl⟩)
              | (go_at_call 20; refine (rinv_yes _ _ _ (by omega) (by omega) (by omega) (by omega) hp).mono ?_; rintro e w' ⟨rfl, rfl⟩)
              | (go_at_call 21; refine (div_zero _ _ _ _ (by omega) (by omega) (by omega) (by omega) hp hb).mono ?_; rintro e w' ⟨rfl, rfl⟩)
              | (go_at_call 22; refine (rdiv_zero _ _ _ _ (by omega) (by omega) (by omega) (by omega) hp hb).mono ?_; rintro e w' ⟨rfl, rfl⟩)
              | (go_at_call 16; refine (pow_yes _ _ _ _ (by omega) (by omega) (by omega) (by omega) (by omega) (by omega) hp).mono ?_; rintro e w' ⟨rfl, rfl⟩)
              | (go_at_call 23; refine (rpow_yes _ _ _ _ (by omega) (by omega) (by omega) (by omega) (by omega) (by omega) hp).mono ?_; rintro e w' ⟨rfl, rfl⟩))
        go_ret
        exact ⟨rfl, Below.refl _ _⟩
    · by_cases hn : n < 0
      · go_enter Try.func5, Try.ntmps5
        go_wp2_with (first
              | (go_at_call 14; refine (awake05 _).mono ?_; rintro e w' ⟨rfl, rfl⟩)
              | (go_at_call 19; refine (inv_yes _ _ _ (by omega) (by omega) (by omega) (by omega) hp).mono ?_; rintro e w' ⟨rfl, rfl⟩)
              | (go_at_call 20; refine (rinv_yes _ _ _ (by omega) (by omega) (by omega) (by omega) hp).mono ?_; rintro e w' ⟨rfl, rfl⟩)
              | (go_at_call 21; refine (div_yes _ _ _ _ (by omega) (by omega) (by omega) (by omega) (by omega) (by omega) hp hb).mono ?_; rintro e w' ⟨rfl, rfl⟩)
              | (go_at_call 22; refine (rdiv_yes _ _ _ _ (by omega) (by omega) (by omega) (by omega) (by omega) (by omega) hp hb).mono ?_; rintro e w' ⟨rfl, rfl⟩)
              | (go_at_call 16; refine (pow_neg _ _ _ _ (by omega) (by omega) (by omega) hp).mono ?_; rintro e w' ⟨rfl, rfl⟩)
              | (go_at_call 23; refine (rpow_neg _ _ _ _ (by omega) (by omega) (by omega) hp).mono ?_; rintro e w' ⟨rfl, rfl⟩))
        go_ret
        exact ⟨rfl, Below.refl _ _⟩
      · go_enter Try.func5, Try.ntmps5
        go_wp2_with (first
              | (go_at_call 14; refine (awake05 _).mono ?_; rintro e w' ⟨rfl, rfl⟩)
              | (go_at_call 19; refine (inv_yes _ _ _ (by omega) (by omega) (by omega) (by omega) hp).mono ?_; rintro e w' ⟨rfl, rfl⟩)
              | (go_at_call 20; refine (rinv_yes _ _ _ (by omega) (by omega) (by omega) (by omega) hp).mono ?_; rintro e w' ⟨rfl, rfl⟩)
              | (go_at_call 21; refine (div_yes _ _ _ _ (by omega) (by omega) (by omega) (by omega) (by omega) (by omega) hp hb).mono ?_; rintro e w' ⟨rfl, rfl⟩)
              | (go_at_call 22; refine (rdiv_yes _ _ _ _ (by omega) (by omega) (by omega) (by omega) (by omega) (by omega) hp hb).mono ?_; rintro e w' ⟨rfl, rfl⟩)
              | (go_at_call 16; refine (pow_yes _ _ _ _ (by omega) (by omega) (by omega) (by omega) (by omega) (by omega) hp).mono ?_; rintro e w' ⟨rfl, rfl⟩)
              | (go_at_call 23; refine (rpow_yes _ _ _ _ (by omega) (by omega) (by omega) (by omega) (by omega) (by omega) hp).mono ?_; rintro e w' ⟨rfl, rfl⟩))
        go_ret
        exact ⟨rfl, Below.refl _ _⟩

end Go.Proofs.Ythpkpnpkkflfpaa
