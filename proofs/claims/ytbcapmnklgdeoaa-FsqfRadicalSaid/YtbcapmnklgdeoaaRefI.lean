/- Contracts by polynomials: the greatest common divisor: the document's. -/
import Derived.Test.YtbcapmnklgdeoaaRefH
namespace Go.Proofs.Ytbcapmnklgdeoaa
open Go.RowKit Cl
attribute [local go_sem ↓] Go.wp_at_zero Go.wp_at_succ

theorem qbezout_no (A B : Option Addr) (n c m d : Nat) (p : Int) (w : World) (h3 : -9223372036854775808 ≤ p) (h4 : p ≤ 9223372036854775807) (hp : isPrime p = false) :
    Calls Try.prog 68 #[.slice A n c, .slice B m d, .int .i64 p] w fun e w' => e = .returned (.tuple #[.slice none 0 0, .slice none 0 0, .slice none 0 0, .int .i64 1]) ∧ w = w' := by
  go_enter Try.func68, Try.ntmps68
  go_wp2_with fail
  refine (rchk_no _ _ h3 h4 hp).mono ?_
  rintro e w' ⟨rfl, rfl⟩
  go_wp2_with fail
  (try simp only [Exit.inBlock, Exit.then]); refine bodyPost_ret (results_tmp4 rfl _ _ _) rfl ?_
  exact ⟨rfl, rfl⟩
theorem qgcd_no (A B : Option Addr) (n c m d : Nat) (p : Int) (w : World) (h3 : -9223372036854775808 ≤ p) (h4 : p ≤ 9223372036854775807) (hp : isPrime p = false) :
    Calls Try.prog 49 #[.slice A n c, .slice B m d, .int .i64 p] w fun e w' => e = .returned (.tuple #[.slice none 0 0, .int .i64 1]) ∧ w = w' := by
  go_enter Try.func49, Try.ntmps49
  go_wp2_with fail
  refine (qbezout_no _ _ _ _ _ _ _ _ h3 h4 hp).mono ?_
  rintro e w' ⟨rfl, rfl⟩
  go_wp2_with fail
  go_ret2
  exact ⟨rfl, rfl⟩

section
variable {A B : Option Addr} {n m c d N : Nat} {p : Int} {w : World} {hp : Pr p} {a b : Poly (Zp ⟨p, hp⟩)}
theorem qbezoutR (ha : Rd w A n a) (hb : Rd w B m b) (hn : n ≤ N) (hm : m ≤ N) (hN : N ≤ 90000000) :
    Calls Try.prog 68 #[.slice A n c, .slice B m d, .int .i64 p] w (GivesR3E w N (N + 1) (Poly.bezR a b).g (Poly.bezR a b).s (Poly.bezR a b).t 0) := by
  obtain ⟨xs, hx, rfl⟩ := ha
  obtain ⟨ys, hy, rfl⟩ := hb
  have h2 : (toP ⟨p, hp⟩ xs).len ≤ n := len_le_toP hx.len
  have h3 : (toP ⟨p, hp⟩ ys).len ≤ m := len_le_toP hy.len
  obtain ⟨h4, h5, h6⟩ := bezR_len (B := N) (Nat.le_trans h2 hn) (Nat.le_trans h3 hm)
  refine (qbezout_yes A B n c m d xs ys p w hp hx hy (by omega) (by omega)).mono ?_
  rintro e w' ⟨A1, k1, B1, l1, C1, m1, rfl, i1, i2, i3, hb⟩
  exact ⟨A1, k1, B1, l1, C1, m1, rfl, h4, h5, h6, i1, i2, i3, hb⟩
theorem qgcdR (ha : Rd w A n a) (hb : Rd w B m b) (hn : n ≤ N) (hm : m ≤ N) (hN : N ≤ 90000000) :
    Calls Try.prog 49 #[.slice A n c, .slice B m d, .int .i64 p] w (GivesRE w N (Poly.gcdP a b) 0) := by
  have Cb := Lib.hid (qbezoutR (c := c) (d := d) ha hb hn hm hN)
  have Hg := Lib.hid (Poly.bezR_g a b)
  go_enter Try.func49, Try.ntmps49
  go_wp2_with fail
  refine Cb.out.mono ?_
  rintro e w1 ⟨A1, k1, B1, l1, C1, m1, rfl, h4, h5, h6, i1, i2, i3, hb1⟩
  rw [Hg.out] at h4 i1 ⊢
  go_wp2_with fail
  go_ret2
  exact ⟨_, _, rfl, h4, i1, hb1⟩
end
end Go.Proofs.Ytbcapmnklgdeoaa
