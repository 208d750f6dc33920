/- Contracts of the field's inverses, the program's: Euclid's rows. -/
import Derived.Test.YteddelfkjpljpaaFpB
namespace Go.Proofs.Yteddelfkjpljpaa
open Go.RowKit Cl

theorem inv_no (a p : Int) (w : World) (h5 : -9223372036854775808 ≤ p) (h6 : p ≤ 9223372036854775807) (hp : isPrime p = false) :
    Calls Try.prog 63 #[.int .i64 a, .int .i64 p] w fun e w' => e = .returned (.tuple #[.int .i64 0, .int .i64 1]) ∧ w = w' := by
  go_enter Try.func63, Try.ntmps63
  go_wp2
  go_step3
  go_wp2_with (go_at_call 17; refine (chk_no _ _ (by omega) (by omega) hp).mono ?_; rintro e w' ⟨rfl, rfl⟩)
  try rw [Exit.noGoto_ret]
  go_ret2
  exact ⟨rfl, rfl⟩

theorem inv_yes (a p : Int) (w : World) (h1 : -9223372036854775808 ≤ a) (h2 : a ≤ 9223372036854775807)
    (h5 : -9223372036854775808 ≤ p) (h6 : p ≤ 9223372036854775807) (hp : isPrime p = true) :
    Calls Try.prog 63 #[.int .i64 a, .int .i64 p] w fun e w' => e = .returned (.tuple #[.int .i64 (invm a p), .int .i64 (invE a p)]) ∧ w = w' := by
  have Hp := Lib.hid ((isPrime_iff p).1 hp)
  have hp1 : 2 ≤ p := Hp.out.two
  have hp2 : p ≤ 65521 := Hp.out.max
  have ha := red_bd a (p := p) (by omega)
  obtain ⟨ha1, ha2⟩ := ha
  go_enter Try.func63, Try.ntmps63
  go_wp2
  go_step3
  go_wp2_with (first
    | (go_at_call 17; refine (chk_yes _ _ (by omega) (by omega) hp).mono ?_; rintro e w' ⟨rfl, rfl⟩)
    | (go_at_call 59; refine (red_any _ _ _ (by omega) (by omega) (by omega) (by omega)).mono ?_; rintro e w' ⟨rfl, rfl⟩))
  go_step3
  go_wp2
  go_loop [7, 8, 9, 10] (fun c7 c8 c9 c10 => ∃ x y s t : Int, 2 ≤ x ∧ 0 ≤ y ∧ y < x ∧ x ≤ p ∧ Hid (Eu p a x y s t) ∧ c7 = .int .i64 x ∧ c8 = .int .i64 y ∧ c9 = .int .i64 s ∧ c10 = .int .i64 t) (fun _ c8 _ _ => (intOf c8).toNat)
  case atStart => exact ⟨p, red a p, 0, 1, by omega, by omega, by omega, by omega, Eu.start Hp.out, rfl, rfl, rfl, rfl⟩
  case round =>
    obtain ⟨x, y, s, t, hx2, hy0, hyx, hxp, hE, rfl, rfl, rfl, rfl⟩ := hrel
    by_cases hy1 : y = 0
    · subst hy1
      have hz := hE.out.zero Hp.out
      have hv := invm_zero Hp.out hz
      have he := invE_zero hz
      have Hv := Lib.hid hv; clear hv
      have He := Lib.hid he; clear he
      go_wp2
      try rw [Exit.noGoto_ret]
      go_ret2
      exact ⟨by rw [Hv.out, He.out]; rfl, rfl⟩
    · by_cases hy2 : y = 1
      · subst hy2
        obtain ⟨hv, hz⟩ := hE.out.one Hp.out
        have he := invE_ok hz
        have Hv := Lib.hid hv; clear hv
        have He := Lib.hid he; clear he
        have hb := hE.out.tbd (by omega)
        obtain ⟨hb1, hb2⟩ := hb
        have hy1' : ((1 : Int) == 0) = false := rfl
        go_wp2_with (go_at_call 59; refine (red_any _ _ _ (by omega) (by omega) (by omega) (by omega)).mono ?_; rintro e w' ⟨rfl, rfl⟩)
        try rw [Exit.noGoto_ret]
        go_ret2
        exact ⟨by rw [He.out, ← Hv.out]; rfl, rfl⟩
      · have hy3 : 2 ≤ y := by omega
        obtain ⟨q1, q2, q3, q4, q5, q6⟩ := hE.out.q hy3
        obtain ⟨b1, b2, b3, b4, b5, b6, b7, b8⟩ := hE.out.bd hy3
        have e1 : (y == 0) = false := by simpa using hy1
        have e2 : (y == 1) = false := by simpa using hy2
        have hn := hE.out.next hy3
        have Hn := Lib.hid hn; clear hn
        go_wp2
        go_round
        case rel => exact ⟨y, x - x / y * y, t, s - x / y * t, by omega, by omega, by omega, by omega, Hn.out, rfl, rfl, rfl, rfl⟩
        case measure => simp [intOf]; omega

end Go.Proofs.Yteddelfkjpljpaa
