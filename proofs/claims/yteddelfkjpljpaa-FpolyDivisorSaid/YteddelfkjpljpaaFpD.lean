/- Contracts of the field's quotients and powers, and of the document's inverse. -/
import Derived.Test.YteddelfkjpljpaaFpC
namespace Go.Proofs.Yteddelfkjpljpaa
open Go.RowKit Cl

theorem rpow_yes (a n p : Int) (w : World) (h1 : -9223372036854775808 ≤ a) (h2 : a ≤ 9223372036854775807) (hn : 0 ≤ n) (hn2 : n ≤ 9223372036854775807)
    (h5 : -9223372036854775808 ≤ p) (h6 : p ≤ 9223372036854775807) (hp : isPrime p = true) :
    Calls Try.prog 71 #[.int .i64 a, .int .i64 n, .int .i64 p] w fun e w' => e = .returned (.tuple #[.int .i64 (powm a n.toNat p), .int .i64 0]) ∧ w = w' := by
  have Hp := Lib.hid ((isPrime_iff p).1 hp)
  have hp1 : 2 ≤ p := Hp.out.two
  have hp2 : p ≤ 65521 := Hp.out.max
  have ha := red_bd a (p := p) (by omega)
  obtain ⟨ha1, ha2⟩ := ha
  have e1p : (1 : Int) % p = 1 := Int.emod_eq_of_lt (by omega) (by omega)
  go_enter Try.func71, Try.ntmps71
  go_wp2_with (first
    | (go_at_call 47; refine (rchk_yes _ _ (by omega) (by omega) hp).mono ?_; rintro e w' ⟨rfl, rfl⟩)
    | (go_at_call 60; refine (rred_any _ _ _ (by omega) (by omega) (by omega) (by omega)).mono ?_; rintro e w' ⟨rfl, rfl⟩))
  go_loop [8, 9, 10] (fun c8 c9 c1 => ∃ out base k : Int, 0 ≤ k ∧ k ≤ n ∧ 0 ≤ out ∧ out < p ∧ 0 ≤ base ∧ base < p ∧ Hid (Pw p a n.toNat out base k) ∧ c1 = .int .i64 k ∧ c8 = .int .i64 out ∧ c9 = .int .i64 base) (fun _ _ c1 => (intOf c1).toNat)
  case atStart => exact ⟨1, red a p, n, by omega, by omega, by omega, by omega, by omega, by omega, Pw.start Hp.out hn, rfl, rfl, rfl⟩
  case round =>
    obtain ⟨out, base, k, hk0, hkn, ho0, hop, hb0, hbp, hP, rfl, rfl, rfl⟩ := hrel
    have hm1 : 0 ≤ out * base := Int.mul_nonneg ho0 hb0
    have hm2 : out * base ≤ 65521 * 65521 := Int.mul_le_mul (by omega) (by omega) (by omega) (by omega)
    have hm3 : 0 ≤ base * base := Int.mul_nonneg hb0 hb0
    have hm4 : base * base ≤ 65521 * 65521 := Int.mul_le_mul (by omega) (by omega) (by omega) (by omega)
    by_cases hz : k = 0
    · subst hz
      have hd := hP.out.done
      have Hd := Lib.hid hd; clear hd
      go_wp2
      go_ret2
      exact ⟨ret_int2 Hd.out, rfl⟩
    · have hk1 : 1 ≤ k := by omega
      by_cases hodd : k % 2 = 1
      · have hn2' := hP.out.odd hodd
        have Hn := Lib.hid hn2'; clear hn2'
        have ho := emod_bd (out * base) (p := p) (by omega)
        have hb := emod_bd (base * base) (p := p) (by omega)
        obtain ⟨ho1, ho2⟩ := ho
        obtain ⟨hb1, hb2⟩ := hb
        have hbit : (k % 2 == 1) = true := by simpa using hodd
        clear hodd
        go_wp2
        go_round
        case rel => exact ⟨out * base % p, base * base % p, k / 2, by omega, by omega, by omega, by omega, by omega, by omega, Hn.out, rfl, rfl, rfl⟩
        case measure => simp [intOf]; omega
      · have hn2' := hP.out.even (by omega)
        have Hn := Lib.hid hn2'; clear hn2'
        have hb := emod_bd (base * base) (p := p) (by omega)
        obtain ⟨hb1, hb2⟩ := hb
        have hbit : (k % 2 == 1) = false := by simpa using hodd
        clear hodd
        go_wp2
        go_round
        case rel => exact ⟨out, base * base % p, k / 2, by omega, by omega, by omega, by omega, by omega, by omega, Hn.out, rfl, rfl, rfl⟩
        case measure => simp [intOf]; omega

theorem rpow_no (a n p : Int) (w : World) (h5 : -9223372036854775808 ≤ p) (h6 : p ≤ 9223372036854775807) (hp : isPrime p = false) :
    Calls Try.prog 71 #[.int .i64 a, .int .i64 n, .int .i64 p] w fun e w' => e = .returned (.tuple #[.int .i64 0, .int .i64 1]) ∧ w = w' := by
  go_enter Try.func71, Try.ntmps71
  go_wp2_with (go_at_call 47; refine (rchk_no _ _ (by omega) (by omega) hp).mono ?_; rintro e w' ⟨rfl, rfl⟩)
  go_ret2
  exact ⟨rfl, rfl⟩
theorem rpow_neg (a n p : Int) (w : World) (hn : n < 0) (h5 : -9223372036854775808 ≤ p) (h6 : p ≤ 9223372036854775807) (hp : isPrime p = true) :
    Calls Try.prog 71 #[.int .i64 a, .int .i64 n, .int .i64 p] w fun e w' => e = .returned (.tuple #[.int .i64 0, .int .i64 1]) ∧ w = w' := by
  go_enter Try.func71, Try.ntmps71
  go_wp2_with (go_at_call 47; refine (rchk_yes _ _ (by omega) (by omega) hp).mono ?_; rintro e w' ⟨rfl, rfl⟩)
  go_ret2
  exact ⟨rfl, rfl⟩

end Go.Proofs.Yteddelfkjpljpaa
