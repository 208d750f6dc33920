/- Layer 6's statements: contracts by polynomials, whatever list tells them. -/
import Derived.Test.YteddelfkjpljpaaGiv
import Derived.Test.YteddelfkjpljpaaLaw6A
namespace Go.Proofs.Yteddelfkjpljpaa
open Go.RowKit Cl
attribute [local go_sem ↓] Go.wp_at_zero Go.wp_at_succ

section
variable {A B : Option Addr} {n m c d N M K : Nat} {p : Int} {w : World} {hp : Pr p} {a b : Poly (Zp ⟨p, hp⟩)}
theorem sumR (ha : Rd w A n a) (hb : Rd w B m b) (hn : n ≤ N) (hm : m ≤ M) (hK : N + M ≤ K) (hK2 : K ≤ 900000000) :
    Calls Try.prog 21 #[.slice A n c, .slice B m d, .int .i64 p] w (GivesR w K (a + b)) := by
  obtain ⟨xs, hx, rfl⟩ := ha
  obtain ⟨ys, hy, rfl⟩ := hb
  have h1 := add_len (toP ⟨p, hp⟩ xs) (toP ⟨p, hp⟩ ys)
  have h2 : (toP ⟨p, hp⟩ xs).len ≤ n := len_le_toP hx.len
  have h3 : (toP ⟨p, hp⟩ ys).len ≤ m := len_le_toP hy.len
  exact (sum06 A B n c m d xs ys p w hp hx hy (by omega) (by omega)).mono fun e w' h => GivesR.of h (by omega)
theorem timesR (ha : Rd w A n a) (hb : Rd w B m b) (hn : n ≤ N) (hm : m ≤ M) (hK : N + M ≤ K) (hK2 : K ≤ 900000000) :
    Calls Try.prog 20 #[.slice A n c, .slice B m d, .int .i64 p] w (GivesR w K (a * b)) := by
  obtain ⟨xs, hx, rfl⟩ := ha
  obtain ⟨ys, hy, rfl⟩ := hb
  have h1 := prod_len' (toP ⟨p, hp⟩ xs) (toP ⟨p, hp⟩ ys)
  have h2 : (toP ⟨p, hp⟩ xs).len ≤ n := len_le_toP hx.len
  have h3 : (toP ⟨p, hp⟩ ys).len ≤ m := len_le_toP hy.len
  exact (times06 A B n c m d xs ys p w hp hx hy (by omega) (by omega)).mono fun e w' h => GivesR.of h (by omega)
theorem sameR (ha : Ints w A a.len (fromP a)) (hb : Ints w B b.len (fromP b)) (hn : a.len ≤ N) (hm : b.len ≤ M) (hK : N ≤ 900000000) (_hK2 : M ≤ 900000000) (e : a = b) :
    Calls Try.prog 16 #[.slice A a.len c, .slice B b.len d] w fun e w' => e = .returned (.bool true) ∧ Below w.heap.size w w' := by
  subst e
  refine (same06 A B _ _ c d _ _ w ha hb (by omega) (by omega)).mono ?_
  rintro e w' ⟨rfl, h⟩
  exact ⟨by rw [eqI_yes rfl], h⟩
end
end Go.Proofs.Yteddelfkjpljpaa
