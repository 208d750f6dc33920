/- Contracts of the field's sums, differences, products: the program's and the document's. -/
import Derived.Test.YteddelfkjpljpaaFpA
namespace Go.Proofs.Yteddelfkjpljpaa
open Go.RowKit Cl


/-- What a modulus is told as: 0, if it is a prime that may be; else 1. -/
theorem chk_yes (p : Int) (w : World) (h1 : -9223372036854775808 ≤ p) (h2 : p ≤ 9223372036854775807) (hp : isPrime p = true) :
    Calls Try.prog 17 #[.int .i64 p] w fun e w' => e = .returned (.int .i64 0) ∧ w = w' := by
  go_enter Try.func17, Try.ntmps17
  go_wp2_with (go_at_call 52; refine (is_any _ _ (by omega) (by omega)).mono ?_; rintro e w' ⟨rfl, rfl⟩)
  go_ret
  exact ⟨rfl, rfl⟩
theorem chk_no (p : Int) (w : World) (h1 : -9223372036854775808 ≤ p) (h2 : p ≤ 9223372036854775807) (hp : isPrime p = false) :
    Calls Try.prog 17 #[.int .i64 p] w fun e w' => e = .returned (.int .i64 1) ∧ w = w' := by
  go_enter Try.func17, Try.ntmps17
  go_wp2_with (go_at_call 52; refine (is_any _ _ (by omega) (by omega)).mono ?_; rintro e w' ⟨rfl, rfl⟩)
  go_ret
  exact ⟨rfl, rfl⟩

/-- What a modulus is told as: 0, if it is a prime that may be; else 1. -/
theorem rchk_yes (p : Int) (w : World) (h1 : -9223372036854775808 ≤ p) (h2 : p ≤ 9223372036854775807) (hp : isPrime p = true) :
    Calls Try.prog 47 #[.int .i64 p] w fun e w' => e = .returned (.int .i64 0) ∧ w = w' := by
  go_enter Try.func47, Try.ntmps47
  go_wp2_with (go_at_call 66; refine (ris_any _ _ (by omega) (by omega)).mono ?_; rintro e w' ⟨rfl, rfl⟩)
  go_ret
  exact ⟨rfl, rfl⟩
theorem rchk_no (p : Int) (w : World) (h1 : -9223372036854775808 ≤ p) (h2 : p ≤ 9223372036854775807) (hp : isPrime p = false) :
    Calls Try.prog 47 #[.int .i64 p] w fun e w' => e = .returned (.int .i64 1) ∧ w = w' := by
  go_enter Try.func47, Try.ntmps47
  go_wp2_with (go_at_call 66; refine (ris_any _ _ (by omega) (by omega)).mono ?_; rintro e w' ⟨rfl, rfl⟩)
  go_ret
  exact ⟨rfl, rfl⟩

theorem add_yes (a b p : Int) (w : World) (h1 : -9223372036854775808 ≤ a) (h2 : a ≤ 9223372036854775807) (h3 : -9223372036854775808 ≤ b) (h4 : b ≤ 9223372036854775807)
    (h5 : -9223372036854775808 ≤ p) (h6 : p ≤ 9223372036854775807) (hp : isPrime p = true) :
    Calls Try.prog 40 #[.int .i64 a, .int .i64 b, .int .i64 p] w fun e w' => e = .returned (.tuple #[.int .i64 (addm a b p), .int .i64 0]) ∧ w = w' := by
  have Hp := Lib.hid ((isPrime_iff p).1 hp)
  have hp1 : 2 ≤ p := Hp.out.two
  have hp2 : p ≤ 65521 := Hp.out.max
  have ha := red_bd a (p := p) (by omega)
  have hb := red_bd b (p := p) (by omega)
  obtain ⟨ha1, ha2⟩ := ha
  obtain ⟨hb1, hb2⟩ := hb
  go_enter Try.func40, Try.ntmps40
  go_wp2_with (first
    | (go_at_call 17; refine (chk_yes _ _ (by omega) (by omega) hp).mono ?_; rintro e w' ⟨rfl, rfl⟩)
    | (go_at_call 59; refine (red_any _ _ _ (by omega) (by omega) (by omega) (by omega)).mono ?_; rintro e w' ⟨rfl, rfl⟩))
  go_ret2
  exact ⟨ret_int2 (addm_of ((red_cg (by omega)).add (red_cg (by omega)))), rfl⟩
theorem add_no (a b p : Int) (w : World) (h5 : -9223372036854775808 ≤ p) (h6 : p ≤ 9223372036854775807) (hp : isPrime p = false) :
    Calls Try.prog 40 #[.int .i64 a, .int .i64 b, .int .i64 p] w fun e w' => e = .returned (.tuple #[.int .i64 0, .int .i64 1]) ∧ w = w' := by
  go_enter Try.func40, Try.ntmps40
  go_wp2_with (go_at_call 17; refine (chk_no _ _ (by omega) (by omega) hp).mono ?_; rintro e w' ⟨rfl, rfl⟩)
  go_ret2
  exact ⟨rfl, rfl⟩

theorem mul_yes (a b p : Int) (w : World) (h1 : -9223372036854775808 ≤ a) (h2 : a ≤ 9223372036854775807) (h3 : -9223372036854775808 ≤ b) (h4 : b ≤ 9223372036854775807)
    (h5 : -9223372036854775808 ≤ p) (h6 : p ≤ 9223372036854775807) (hp : isPrime p = true) :
    Calls Try.prog 41 #[.int .i64 a, .int .i64 b, .int .i64 p] w fun e w' => e = .returned (.tuple #[.int .i64 (mulm a b p), .int .i64 0]) ∧ w = w' := by
  have Hp := Lib.hid ((isPrime_iff p).1 hp)
  have hp1 : 2 ≤ p := Hp.out.two
  have hp2 : p ≤ 65521 := Hp.out.max
  have ha := red_bd a (p := p) (by omega)
  have hb := red_bd b (p := p) (by omega)
  obtain ⟨ha1, ha2⟩ := ha
  obtain ⟨hb1, hb2⟩ := hb
  have hm1 : 0 ≤ red a p * red b p := Int.mul_nonneg ha1 hb1
  have hm2 : red a p * red b p ≤ 65521 * 65521 := Int.mul_le_mul (by omega) (by omega) hb1 (by omega)
  go_enter Try.func41, Try.ntmps41
  go_wp2_with (first
    | (go_at_call 17; refine (chk_yes _ _ (by omega) (by omega) hp).mono ?_; rintro e w' ⟨rfl, rfl⟩)
    | (go_at_call 59; refine (red_any _ _ _ (by omega) (by omega) (by omega) (by omega)).mono ?_; rintro e w' ⟨rfl, rfl⟩))
  go_ret2
  exact ⟨ret_int2 (mulm_of ((red_cg (by omega)).mul (red_cg (by omega)))), rfl⟩
theorem mul_no (a b p : Int) (w : World) (h5 : -9223372036854775808 ≤ p) (h6 : p ≤ 9223372036854775807) (hp : isPrime p = false) :
    Calls Try.prog 41 #[.int .i64 a, .int .i64 b, .int .i64 p] w fun e w' => e = .returned (.tuple #[.int .i64 0, .int .i64 1]) ∧ w = w' := by
  go_enter Try.func41, Try.ntmps41
  go_wp2_with (go_at_call 17; refine (chk_no _ _ (by omega) (by omega) hp).mono ?_; rintro e w' ⟨rfl, rfl⟩)
  go_ret2
  exact ⟨rfl, rfl⟩

end Go.Proofs.Yteddelfkjpljpaa
