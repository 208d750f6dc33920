/- Contracts by polynomials: the greatest common divisor: the document's. -/
import Derived.Test.YteddelfkjpljpaaRefH
namespace Go.Proofs.Yteddelfkjpljpaa
open Go.RowKit Cl
attribute [local go_sem ↓] Go.wp_at_zero Go.wp_at_succ

theorem qbezout_no (A B : Option Addr) (n c m d : Nat) (p : Int) (w : World) (h3 : -9223372036854775808 ≤ p) (h4 : p ≤ 9223372036854775807) (hp : isPrime p = false) :
    Calls Try.prog 38 #[.slice A n c, .slice B m d, .int .i64 p] w fun e w' => e = .returned (.tuple #[.slice none 0 0, .slice none 0 0, .slice none 0 0, .int .i64 1]) ∧ w = w' := by
  go_enter Try.func38, Try.ntmps38
  go_wp2_with fail
  refine (rchk_no _ _ h3 h4 hp).mono ?_
  rintro e w' ⟨rfl, rfl⟩
  go_wp2_with fail
  (try simp only [Exit.inBlock, Exit.then]); refine bodyPost_ret (results_tmp4 rfl _ _ _) rfl ?_
  exact ⟨rfl, rfl⟩
section
variable {A B : Option Addr} {n m c d N : Nat} {p : Int} {w : World} {hp : Pr p} {a b : Poly (Zp ⟨p, hp⟩)}
theorem qbezoutR (ha : Rd w A n a) (hb : Rd w B m b) (hn : n ≤ N) (hm : m ≤ N) (hN : N ≤ 90000000) :
    Calls Try.prog 38 #[.slice A n c, .slice B m d, .int .i64 p] w (GivesR3E w N (N + 1) (Poly.bezR a b).g (Poly.bezR a b).s (Poly.bezR a b).t 0) := by
  obtain ⟨xs, hx, rfl⟩ := ha
  obtain ⟨ys, hy, rfl⟩ := hb
  have h2 : (toP ⟨p, hp⟩ xs).len ≤ n := len_le_toP hx.len
  have h3 : (toP ⟨p, hp⟩ ys).len ≤ m := len_le_toP hy.len
  obtain ⟨h4, h5, h6⟩ := bezR_len (B := N) (Nat.le_trans h2 hn) (Nat.le_trans h3 hm)
  refine (qbezout_yes A B n c m d xs ys p w hp hx hy (by omega) (by omega)).mono ?_
  rintro e w' ⟨A1, k1, B1, l1, C1, m1, rfl, i1, i2, i3, hb⟩
  exact ⟨A1, k1, B1, l1, C1, m1, rfl, h4, h5, h6, i1, i2, i3, hb⟩
end
end Go.Proofs.Yteddelfkjpljpaa
