/- Layer 6's statements: the program beside the document. -/
import Derived.Test.YteddelfkjpljpaaLaw6C
import Derived.Test.YteddelfkjpljpaaRefF
import Derived.Test.YteddelfkjpljpaaRefG
namespace Go.Proofs.Yteddelfkjpljpaa
open Go.RowKit Cl
attribute [local go_sem ↓] Go.wp_at_zero Go.wp_at_succ

theorem ints_nil0 (w : World) : Ints w none 0 [] := ⟨rfl, fun h => absurd h (by omega), fun i => by rw [nth_ge (by simp)]; exact I64.zero⟩
theorem sameN (c d : Nat) (w : World) : Calls Try.prog 16 #[.slice none 0 c, .slice none 0 d] w fun e w' => e = .returned (.bool true) ∧ Below w.heap.size w w' := by
  refine (same06 none none 0 0 c d [] [] w (ints_nil0 w) (ints_nil0 w) (by omega) (by omega)).mono ?_
  rintro e w' ⟨rfl, h⟩
  exact ⟨by rw [eqI_yes rfl], h⟩
section
variable {A B : Option Addr} {n m c d N M K : Nat} {p : Int} {w : World} {hp : Pr p} {a b : Poly (Zp ⟨p, hp⟩)}
theorem paddR (ha : Rd w A n a) (hb : Rd w B m b) (hn : n ≤ N) (hm : m ≤ M) (hK : N + M ≤ K) (hK2 : K ≤ 900000000) :
    Calls Try.prog 23 #[.slice A n c, .slice B m d, .int .i64 p] w (GivesRE w K (a + b) 0) := by
  obtain ⟨xs, hx, rfl⟩ := ha
  obtain ⟨ys, hy, rfl⟩ := hb
  have h1 := add_len (toP ⟨p, hp⟩ xs) (toP ⟨p, hp⟩ ys)
  have h2 : (toP ⟨p, hp⟩ xs).len ≤ n := len_le_toP hx.len
  have h3 : (toP ⟨p, hp⟩ ys).len ≤ m := len_le_toP hy.len
  exact (padd_yes A B n c m d xs ys p w hp hx hy (by omega) (by omega)).mono fun e w' h => GivesRE.of h (by omega)
theorem pmulR (ha : Rd w A n a) (hb : Rd w B m b) (hn : n ≤ N) (hm : m ≤ M) (hK : N + M ≤ K) (hK2 : K ≤ 900000000) :
    Calls Try.prog 27 #[.slice A n c, .slice B m d, .int .i64 p] w (GivesRE w K (a * b) 0) := by
  obtain ⟨xs, hx, rfl⟩ := ha
  obtain ⟨ys, hy, rfl⟩ := hb
  have h1 := prod_len' (toP ⟨p, hp⟩ xs) (toP ⟨p, hp⟩ ys)
  have h2 : (toP ⟨p, hp⟩ xs).len ≤ n := len_le_toP hx.len
  have h3 : (toP ⟨p, hp⟩ ys).len ≤ m := len_le_toP hy.len
  exact (pmul_yes A B n c m d xs ys p w hp hx hy (by omega) (by omega)).mono fun e w' h => GivesRE.of h (by omega)
end
end Go.Proofs.Yteddelfkjpljpaa
