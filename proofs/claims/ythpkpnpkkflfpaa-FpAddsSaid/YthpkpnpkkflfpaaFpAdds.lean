/- FpAdds: the statement's walk. -/
import Derived.Test.YthpkpnpkkflfpaaFpE
namespace Go.Proofs.Ythpkpnpkkflfpaa
open Go.RowKit Cl

set_option maxRecDepth 100000 in
theorem law_FpAdds (a b p : Int) (w : World) (l_a : -9223372036854775808 ≤ a) (u_a : a ≤ 9223372036854775807) (l_b : -9223372036854775808 ≤ b) (u_b : b ≤ 9223372036854775807) (l_p : -9223372036854775808 ≤ p) (u_p : p ≤ 9223372036854775807) :
    Calls Try.prog 6 #[.int .i64 a, .int .i64 b, .int .i64 p] w fun e w' => e = .returned (.bool true) ∧ Below w.heap.size w w' := by
  cases hp : isPrime p with
  | false =>
    go_enter Try.func6, Try.ntmps6
    go_wp2_with (first
      | (go_at_call 14; refine (awake05 _).mono ?_; rintro e w' ⟨rfl, rfl⟩)
      | (go_at_call 24; refine (add_no _ _ _ _ (by omega) (by omega) hp).mono ?_; rintro e w' ⟨rfl, rfl⟩)
      | (go_at_call 25; refine (radd_no _ _ _ _ (by omega) (by omega) hp).mono ?_; rintro e w' ⟨rfl, rfl⟩)
      | (go_at_call 26; refine (sub_no _ _ _ _ (by omega) (by omega) hp).mono ?_; rintro e w' ⟨rfl, rfl⟩)
      | (go_at_call 27; refine (rsub_no _ _ _ _ (by omega) (by omega) hp).mono ?_; rintro e w' ⟨rfl, rfl⟩)
      | (go_at_call 17; refine (mul_no _ _ _ _ (by omega) (by omega) hp).mono ?_; rintro e w' ⟨rfl, rfl⟩)
      | (go_at_call 28; refine (rmul_no _ _ _ _ (by omega) (by omega) hp).mono ?_; rintro e w' ⟨rfl, rfl⟩)
      | (go_at_call 18; refine (chk_no _ _ (by omega) (by omega) hp).mono ?_; rintro e w' ⟨rfl, rfl⟩)
      | (go_at_call 30; refine (rchk_no _ _ (by omega) (by omega) hp).mono ?_; rintro e w' ⟨rfl, rfl⟩)
      | (go_at_call 15; refine (red_any _ _ _ (by omega) (by omega) (by omega) (by omega)).mono ?_; rintro e w' ⟨rfl, rfl⟩)
      | (go_at_call 29; refine (rred_any _ _ _ (by omega) (by omega) (by omega) (by omega)).mono ?_; rintro e w' ⟨rfl, rfl⟩))
    go_ret
    exact ⟨rfl, Below.refl _ _⟩
  | true =>
    go_enter Try.func6, Try.ntmps6
    go_wp2_with (first
      | (go_at_call 14; refine (awake05 _).mono ?_; rintro e w' ⟨rfl, rfl⟩)
      | (go_at_call 24; refine (add_yes _ _ _ _ (by omega) (by omega) (by omega) (by omega) (by omega) (by omega) hp).mono ?_; rintro e w' ⟨rfl, rfl⟩)
      | (go_at_call 25; refine (radd_yes _ _ _ _ (by omega) (by omega) (by omega) (by omega) (by omega) (by omega) hp).mono ?_; rintro e w' ⟨rfl, rfl⟩)
      | (go_at_call 26; refine (sub_yes _ _ _ _ (by omega) (by omega) (by omega) (by omega) (by omega) (by omega) hp).mono ?_; rintro e w' ⟨rfl, rfl⟩)
      | (go_at_call 27; refine (rsub_yes _ _ _ _ (by omega) (by omega) (by omega) (by omega) (by omega) (by omega) hp).mono ?_; rintro e w' ⟨rfl, rfl⟩)
      | (go_at_call 17; refine (mul_yes _ _ _ _ (by omega) (by omega) (by omega) (by omega) (by omega) (by omega) hp).mono ?_; rintro e w' ⟨rfl, rfl⟩)
      | (go_at_call 28; refine (rmul_yes _ _ _ _ (by omega) (by omega) (by omega) (by omega) (by omega) (by omega) hp).mono ?_; rintro e w' ⟨rfl, rfl⟩)
      | (go_at_call 18; refine (chk_yes _ _ (by omega) (by omega) hp).mono ?_; rintro e w' ⟨rfl, rfl⟩)
      | (go_at_call 30; refine (rchk_yes _ _ (by omega) (by omega) hp).mono ?_; rintro e w' ⟨rfl, rfl⟩)
      | (go_at_call 15; refine (red_any _ _ _ (by omega) (by omega) (by omega) (by omega)).mono ?_; rintro e w' ⟨rfl, rfl⟩)
      | (go_at_call 29; refine (rred_any _ _ _ (by omega) (by omega) (by omega) (by omega)).mono ?_; rintro e w' ⟨rfl, rfl⟩))
    go_ret
    exact ⟨rfl, Below.refl _ _⟩

end Go.Proofs.Ythpkpnpkkflfpaa
