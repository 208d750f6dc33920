/- Contracts: layer 8's small functions: the program's. -/
import Derived.Test.YtpikakapflebkaaGreatFpolyTop
import Derived.Test.YtpikakapflebkaaGreatPolyTop
namespace Go.Proofs.YtpikakapflebkaaGreat
open Go.RowKit Cl
attribute [local go_sem ↓] Go.wp_at_zero Go.wp_at_succ

section
variable {A B : Option Addr} {n m c d N M K : Nat} {p : Int} {w : World} {hp : Pr p} {a b : Poly (Zp ⟨p, hp⟩)}
theorem mulR (ha : Rd w A n a) (hb : Rd w B m b) (hn : n ≤ N) (hm : m ≤ M) (hK : N + M ≤ K) (hK2 : K ≤ 900000000) :
    Calls Tryz.prog 32 #[.slice A n c, .slice B m d, .int .i64 p] w (GivesRE w K (a * b) 0) := by
  obtain ⟨xs, hx, rfl⟩ := ha
  obtain ⟨ys, hy, rfl⟩ := hb
  have h1 := prod_len' (toP ⟨p, hp⟩ xs) (toP ⟨p, hp⟩ ys)
  have h2 : (toP ⟨p, hp⟩ xs).len ≤ n := len_le_toP hx.len
  have h3 : (toP ⟨p, hp⟩ ys).len ≤ m := len_le_toP hy.len
  exact (pmul_yes A B n c m d xs ys p w hp hx hy (by omega) (by omega)).mono fun e w' h => GivesRE.of h (by omega)
theorem smonicR (ha : Rd w A n a) (hn : n ≤ N) (hN : N ≤ 900000000) (h0 : a ≠ 0) :
    Calls Tryz.prog 54 #[.slice A n c, .int .i64 p] w (GivesRE w N a.monic 0) := by
  have C := Lib.hid (monicR (c := c) ha hn hN)
  have g0 : ((a.monic.len : Int) == 0) = false := beq_eq_false_iff_ne.2 (by have := Poly.len_pos h0; rw [Poly.monic_len h0]; omega)
  clear ha h0
  go_enter Tryz.func54, Tryz.ntmps54
  go_wp2_with fail
  refine C.out.mono ?_
  rintro e w1 ⟨A1, c1, rfl, l1, h1, hb1⟩
  go_wp2_with fail
  go_ret2
  exact ⟨_, _, rfl, l1, h1, hb1⟩
theorem smonic0R (ha : Rd w A n a) (hn : n ≤ N) (hN : N ≤ 900000000) (h0 : a = 0) :
    Calls Tryz.prog 54 #[.slice A n c, .int .i64 p] w fun e w' => e = .returned (.tuple #[.slice none 0 0, .int .i64 8]) ∧ Below w.heap.size w w' := by
  have C := Lib.hid (monicR (c := c) ha hn hN)
  have g0 : ((a.monic.len : Int) == 0) = true := by rw [h0, Poly.monic_zero, Poly.len_zero]; rfl
  clear ha h0
  go_enter Tryz.func54, Tryz.ntmps54
  go_wp2_with fail
  refine C.out.mono ?_
  rintro e w1 ⟨A1, c1, rfl, l1, h1, hb1⟩
  go_wp2_with fail
  go_ret2
  exact ⟨rfl, hb1⟩
theorem sbyR (ha : Rd w A n a) (hb : Rd w B m b) (hn : n ≤ N) (hm : m ≤ M) (hK : N ≤ 900000000) (hK2 : M ≤ 900000000) (h0 : b ≠ 0) :
    Calls Tryz.prog 57 #[.slice A n c, .slice B m d, .int .i64 p] w (GivesR w N (Poly.quo a b)) := by
  have C := Lib.hid (divR (c := c) (d := d) ha hb hn hm hK hK2 h0)
  clear ha hb h0
  go_enter Tryz.func57, Tryz.ntmps57
  go_wp2_with fail
  refine C.out.mono ?_
  rintro e w1 ⟨A1, c1, B1, d1, rfl, l1, m1, h1, k1, hb1⟩
  go_wp2_with fail
  go_ret
  exact ⟨_, _, rfl, l1, h1, hb1⟩
/-- Is a polynomial without a factor twice? -/
noncomputable def sqB (a : Poly (Zp ⟨p, hp⟩)) : Bool := ((Poly.gcdP a.monic a.monic.D).len : Int) == 1
theorem sisR (ha : Rd w A n a) (hn : n ≤ N) (hN : N ≤ 900000000) (h0 : a ≠ 0) :
    Calls Tryz.prog 36 #[.slice A n c, .int .i64 p] w fun e w' => e = .returned (.tuple #[.bool (sqB a), .int .i64 0]) ∧ Below w.heap.size w w' := by
  have C := Lib.hid (smonicR (c := c) ha hn hN h0)
  have Hs : Hid ((((Poly.gcdP a.monic a.monic.D).len : Int) == 1) = sqB a) := rfl
  clear ha h0
  go_enter Tryz.func36, Tryz.ntmps36
  go_wp2_with fail
  refine C.out.mono ?_
  rintro e w1 ⟨A1, c1, rfl, l1, h1, hb1⟩
  go_wp2_with fail
  refine (derivR (hp := hp) (N := N) (Rd.of h1) l1 hN).mono ?_
  rintro e w2 ⟨A2, c2, rfl, l2, h2, hb2⟩
  go_wp2_with fail
  refine (gcdR (hp := hp) (N := N) (Rd.of (h1.bel hb2)) (Rd.of h2) l1 l2 hN).mono ?_
  rintro e w3 ⟨A3, c3, rfl, l3, h3, hb3⟩
  go_wp2_with fail
  go_ret2
  exact ⟨by rw [← Hs.out]; rfl, below_tr (below_tr hb1 hb2) hb3⟩
theorem sis0R (ha : Rd w A n a) (hn : n ≤ N) (hN : N ≤ 900000000) (h0 : a = 0) :
    Calls Tryz.prog 36 #[.slice A n c, .int .i64 p] w fun e w' => e = .returned (.tuple #[.bool false, .int .i64 8]) ∧ Below w.heap.size w w' := by
  have C := Lib.hid (smonic0R (c := c) ha hn hN h0)
  clear ha h0
  go_enter Tryz.func36, Tryz.ntmps36
  go_wp2_with fail
  refine C.out.mono ?_
  rintro e w1 ⟨rfl, hb1⟩
  go_wp2_with fail
  go_ret2
  exact ⟨rfl, hb1⟩
end
theorem smonic_no (A : Option Addr) (n c : Nat) (p : Int) (w : World) (h3 : -9223372036854775808 ≤ p) (h4 : p ≤ 9223372036854775807) (hp : isPrime p = false) :
    Calls Tryz.prog 54 #[.slice A n c, .int .i64 p] w fun e w' => e = .returned (.tuple #[.slice none 0 0, .int .i64 1]) ∧ w = w' := by
  go_enter Tryz.func54, Tryz.ntmps54
  go_wp2_with fail
  refine (pmonic_no _ _ _ _ _ h3 h4 hp).mono ?_
  rintro e w' ⟨rfl, rfl⟩
  go_wp2_with fail
  go_ret2
  exact ⟨rfl, rfl⟩
theorem sis_no (A : Option Addr) (n c : Nat) (p : Int) (w : World) (h3 : -9223372036854775808 ≤ p) (h4 : p ≤ 9223372036854775807) (hp : isPrime p = false) :
    Calls Tryz.prog 36 #[.slice A n c, .int .i64 p] w fun e w' => e = .returned (.tuple #[.bool false, .int .i64 1]) ∧ w = w' := by
  go_enter Tryz.func36, Tryz.ntmps36
  go_wp2_with fail
  refine (smonic_no _ _ _ _ _ h3 h4 hp).mono ?_
  rintro e w' ⟨rfl, rfl⟩
  go_wp2_with fail
  go_ret2
  exact ⟨rfl, rfl⟩
end Go.Proofs.YtpikakapflebkaaGreat
