/- FpField: the statement's walk. -/
import Derived.Test.YthpkpnpkkflfpaaFpE
namespace Go.Proofs.Ythpkpnpkkflfpaa
open Go.RowKit Cl

set_option maxRecDepth 100000 in
theorem law_FpField (a b c p : Int) (w : World) (l_a : -9223372036854775808 ≤ a) (u_a : a ≤ 9223372036854775807) (l_b : -9223372036854775808 ≤ b) (u_b : b ≤ 9223372036854775807) (l_c : -9223372036854775808 ≤ c) (u_c : c ≤ 9223372036854775807) (l_p : -9223372036854775808 ≤ p) (u_p : p ≤ 9223372036854775807) :
    Calls Try.prog 7 #[.int .i64 a, .int .i64 b, .int .i64 c, .int .i64 p] w fun e w' => e = .returned (.bool true) ∧ Below w.heap.size w w' := by
  cases hp : isPrime p with
  | false =>
    go_enter Try.func7, Try.ntmps7
    go_wp2_with (first
          | (go_at_call 14; refine (awake05 _).mono ?_; rintro e w' ⟨rfl, rfl⟩)
          | (go_at_call 24; refine (add_no _ _ _ _ (by omega) (by omega) hp).mono ?_; rintro e w' ⟨rfl, rfl⟩)
          | (go_at_call 18; refine (chk_no _ _ (by omega) (by omega) hp).mono ?_; rintro e w' ⟨rfl, rfl⟩))
    go_ret
    exact ⟨rfl, Below.refl _ _⟩
  | true =>
    have Hp := Lib.hid ((isPrime_iff p).1 hp)
    have hp1 : 2 ≤ p := Hp.out.two
    have hp2 : p ≤ 65521 := Hp.out.max
    obtain ⟨q1_1, q1_2⟩ := addm_bd a b (p := p) (by omega)
    obtain ⟨q2_1, q2_2⟩ := addm_bd b c (p := p) (by omega)
    obtain ⟨q3_1, q3_2⟩ := mulm_bd a b (p := p) (by omega)
    obtain ⟨q4_1, q4_2⟩ := mulm_bd a c (p := p) (by omega)
    obtain ⟨q5_1, q5_2⟩ := mulm_bd b c (p := p) (by omega)
    obtain ⟨q6_1, q6_2⟩ := invm_bd a Hp.out
    have f1 : (addm a b p == addm b a p) = true := by rw [beq_iff_eq]; exact addm_of (Cg.of_eq (by grind))
    have f2 : (addm (addm a b p) c p == addm a (addm b c p) p) = true := by
      rw [beq_iff_eq]; exact addm_of (((addm_cg a b p).add (Cg.refl p c)).trans (((Cg.refl p a).add (addm_cg b c p)).symm.trans' (by grind)))
    have f3 : (mulm a (addm b c p) p == addm (mulm a b p) (mulm a c p) p) = true := by
      rw [beq_iff_eq]; exact addm_of (((Cg.refl p a).mul (addm_cg b c p)).trans (((mulm_cg a b p).add (mulm_cg a c p)).symm.trans' (by grind)))
    have f4 : (mulm (mulm a b p) c p == mulm a (mulm b c p) p) = true := by
      rw [beq_iff_eq]; exact mulm_of (((mulm_cg a b p).mul (Cg.refl p c)).trans (((Cg.refl p a).mul (mulm_cg b c p)).symm.trans' (by grind)))
    have f5 : (subm (addm a b p) b p == red a p) = true := by
      rw [beq_iff_eq, red_of_pos (by omega)]; exact emod_eq_of_cg (((addm_cg a b p).sub (Cg.refl p b)).trans (Cg.of_eq (by grind)))
    have c := inv_yes a p w l_a u_a l_p u_p hp
    by_cases hz : Cg p a 0
    · rw [invE_zero hz] at c
      have C := Lib.hid c; clear c
      have f6 : (red a p == 0) = true := by rw [beq_iff_eq, red_of_pos (by omega)]; exact Cg.zero_iff_emod.1 hz
      go_enter Try.func7, Try.ntmps7
      go_wp2_with (first
            | (go_at_call 14; refine (awake05 _).mono ?_; rintro e w' ⟨rfl, rfl⟩)
            | (go_at_call 24; refine (add_yes _ _ _ _ (by omega) (by omega) (by omega) (by omega) (by omega) (by omega) hp).mono ?_; rintro e w' ⟨rfl, rfl⟩)
            | (go_at_call 17; refine (mul_yes _ _ _ _ (by omega) (by omega) (by omega) (by omega) (by omega) (by omega) hp).mono ?_; rintro e w' ⟨rfl, rfl⟩)
            | (go_at_call 26; refine (sub_yes _ _ _ _ (by omega) (by omega) (by omega) (by omega) (by omega) (by omega) hp).mono ?_; rintro e w' ⟨rfl, rfl⟩)
            | (go_at_call 19; refine C.out.mono ?_; rintro e w' ⟨rfl, rfl⟩)
            | (go_at_call 18; refine (chk_yes _ _ (by omega) (by omega) hp).mono ?_; rintro e w' ⟨rfl, rfl⟩)
            | (go_at_call 15; refine (red_any _ _ _ (by omega) (by omega) (by omega) (by omega)).mono ?_; rintro e w' ⟨rfl, rfl⟩))
      go_ret
      exact ⟨rfl, Below.refl _ _⟩
    · rw [invE_ok hz] at c
      have C := Lib.hid c; clear c
      have f6 : (red a p == 0) = false := by rw [beq_eq_false_iff_ne, red_of_pos (by omega)]; exact fun h => hz (Cg.zero_iff_emod.2 h)
      have f7 : (mulm a (invm a p) p == 1) = true := by
        rw [beq_iff_eq]
        have := emod_eq_of_cg (invm_spec Hp.out hz).2.2
        rwa [Int.emod_eq_of_lt (a := 1) (by omega) (by omega)] at this
      go_enter Try.func7, Try.ntmps7
      go_wp2_with (first
            | (go_at_call 14; refine (awake05 _).mono ?_; rintro e w' ⟨rfl, rfl⟩)
            | (go_at_call 24; refine (add_yes _ _ _ _ (by omega) (by omega) (by omega) (by omega) (by omega) (by omega) hp).mono ?_; rintro e w' ⟨rfl, rfl⟩)
            | (go_at_call 17; refine (mul_yes _ _ _ _ (by omega) (by omega) (by omega) (by omega) (by omega) (by omega) hp).mono ?_; rintro e w' ⟨rfl, rfl⟩)
            | (go_at_call 26; refine (sub_yes _ _ _ _ (by omega) (by omega) (by omega) (by omega) (by omega) (by omega) hp).mono ?_; rintro e w' ⟨rfl, rfl⟩)
            | (go_at_call 19; refine C.out.mono ?_; rintro e w' ⟨rfl, rfl⟩)
            | (go_at_call 18; refine (chk_yes _ _ (by omega) (by omega) hp).mono ?_; rintro e w' ⟨rfl, rfl⟩)
            | (go_at_call 15; refine (red_any _ _ _ (by omega) (by omega) (by omega) (by omega)).mono ?_; rintro e w' ⟨rfl, rfl⟩))
      go_ret
      exact ⟨rfl, Below.refl _ _⟩

end Go.Proofs.Ythpkpnpkkflfpaa
