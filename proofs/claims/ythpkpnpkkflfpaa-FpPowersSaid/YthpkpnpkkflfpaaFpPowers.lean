/- FpPowers: the statement's walk. -/
import Derived.Test.YthpkpnpkkflfpaaFpE
import Derived.Test.YthpkpnpkkflfpaaZp
namespace Go.Proofs.Ythpkpnpkkflfpaa
open Go.RowKit Cl

set_option maxRecDepth 100000 in
theorem law_FpPowers (a n m p : Int) (w : World) (l_a : -9223372036854775808 ≤ a) (u_a : a ≤ 9223372036854775807) (l_n : -9223372036854775808 ≤ n) (u_n : n ≤ 9223372036854775807) (l_m : -9223372036854775808 ≤ m) (u_m : m ≤ 9223372036854775807) (l_p : -9223372036854775808 ≤ p) (u_p : p ≤ 9223372036854775807) :
    Calls Try.prog 4 #[.int .i64 a, .int .i64 n, .int .i64 m, .int .i64 p] w fun e w' => e = .returned (.bool true) ∧ Below w.heap.size w w' := by
  have hi := i64_and_mask n 20 (by omega)
  have hj := i64_and_mask m 20 (by omega)
  have hi0 : 0 ≤ bits BinOp.and IntKind.i64 n 1048575 := by have e : bits BinOp.and IntKind.i64 n 1048575 = _ := hi; rw [e]; exact Int.emod_nonneg _ (by decide)
  have hi1 : bits BinOp.and IntKind.i64 n 1048575 < 1048576 := by have e : bits BinOp.and IntKind.i64 n 1048575 = _ := hi; rw [e]; exact Int.emod_lt_of_pos _ (by decide)
  have hj0 : 0 ≤ bits BinOp.and IntKind.i64 m 1048575 := by have e : bits BinOp.and IntKind.i64 m 1048575 = _ := hj; rw [e]; exact Int.emod_nonneg _ (by decide)
  have hj1 : bits BinOp.and IntKind.i64 m 1048575 < 1048576 := by have e : bits BinOp.and IntKind.i64 m 1048575 = _ := hj; rw [e]; exact Int.emod_lt_of_pos _ (by decide)
  clear hi hj
  cases hp : isPrime p with
  | false =>
    go_enter Try.func4, Try.ntmps4
    go_wp2_with (first
          | (go_at_call 14; refine (awake05 _).mono ?_; rintro e w' ⟨rfl, rfl⟩)
          | (go_at_call 16; refine (pow_no _ _ _ _ (by omega) (by omega) hp).mono ?_; rintro e w' ⟨rfl, rfl⟩)
          | (go_at_call 17; refine (mul_no _ _ _ _ (by omega) (by omega) hp).mono ?_; rintro e w' ⟨rfl, rfl⟩)
          | (go_at_call 18; refine (chk_no _ _ (by omega) (by omega) hp).mono ?_; rintro e w' ⟨rfl, rfl⟩))
    go_ret
    exact ⟨rfl, Below.refl _ _⟩
  | true =>
    have Hp := Lib.hid ((isPrime_iff p).1 hp)
    have hp1 : 2 ≤ p := Hp.out.two
    have hp2 : p ≤ 65521 := Hp.out.max
    obtain ⟨x1, x2⟩ := powm_bd a (bits BinOp.and IntKind.i64 n 1048575).toNat (p := p) (by omega)
    obtain ⟨y1, y2⟩ := powm_bd a (bits BinOp.and IntKind.i64 m 1048575).toNat (p := p) (by omega)
    have f1 : (mulm (powm a (bits BinOp.and IntKind.i64 n 1048575).toNat p) (powm a (bits BinOp.and IntKind.i64 m 1048575).toNat p) p == powm a (bits BinOp.and IntKind.i64 n 1048575 + bits BinOp.and IntKind.i64 m 1048575).toNat p) = true := by
      rw [beq_iff_eq, powm_add, Int.toNat_add hi0 hj0]
    have f2 : (powm a p.toNat p == red a p) = true := by rw [beq_iff_eq]; exact fermat Hp.out a
    go_enter Try.func4, Try.ntmps4
    go_wp2_with (first
          | (go_at_call 14; refine (awake05 _).mono ?_; rintro e w' ⟨rfl, rfl⟩)
          | (go_at_call 16; refine (pow_yes _ _ _ _ (by omega) (by omega) (by omega) (by omega) (by omega) (by omega) hp).mono ?_; rintro e w' ⟨rfl, rfl⟩)
          | (go_at_call 17; refine (mul_yes _ _ _ _ (by omega) (by omega) (by omega) (by omega) (by omega) (by omega) hp).mono ?_; rintro e w' ⟨rfl, rfl⟩)
          | (go_at_call 18; refine (chk_yes _ _ (by omega) (by omega) hp).mono ?_; rintro e w' ⟨rfl, rfl⟩)
          | (go_at_call 15; refine (red_any _ _ _ (by omega) (by omega) (by omega) (by omega)).mono ?_; rintro e w' ⟨rfl, rfl⟩))
    go_ret
    exact ⟨rfl, Below.refl _ _⟩

end Go.Proofs.Ythpkpnpkkflfpaa
