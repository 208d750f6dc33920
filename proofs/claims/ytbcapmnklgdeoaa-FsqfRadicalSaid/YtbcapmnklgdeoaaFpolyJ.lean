/- Contracts by polynomials: the greatest common divisor: the program's. -/
import Derived.Test.YtbcapmnklgdeoaaFpolyH
import Derived.Test.YtbcapmnklgdeoaaGiv
namespace Go.Proofs.Ytbcapmnklgdeoaa
open Go.RowKit Cl
attribute [local go_sem ↓] Go.wp_at_zero Go.wp_at_succ

section
variable {q : Prm}
theorem C_mul_len (c : Zp q) (a : Poly (Zp q)) : (Poly.C c * a).len ≤ a.len := Poly.len_le fun i hi => by rw [Poly.co_C_mul, Poly.len_sh a i hi, CRing.mul_zero]
theorem eucl_bd {B : Nat} : ∀ (n : Nat) (X Y : Nat → Poly (Zp q)), (Y 0).len ≤ n → Poly.EB B X Y → ∃ Z W, Poly.EB B Z W ∧ Poly.eucl (rowOf X) (rowOf Y) = rowOf Z := by
  intro n
  induction n with
  | zero =>
    intro X Y hn h
    exact ⟨X, Y, h, Poly.eucl_zero (x := rowOf X) (y := rowOf Y) (Poly.len_eq_zero.1 (by show (Y 0).len = 0; omega))⟩
  | succ n ih =>
    intro X Y hn h
    by_cases h0 : Y 0 = 0
    · exact ⟨X, Y, h, Poly.eucl_zero (x := rowOf X) (y := rowOf Y) h0⟩
    · have hlt : (nextZ X Y 0).len < (Y 0).len := by
        have e : nextZ X Y 0 = Poly.rem (X 0) (Y 0) := Poly.Row3.next_g (x := rowOf X) (y := rowOf Y) h0
        rw [e]; exact Cl.rem_len' _ h0
      obtain ⟨Z, W, h1, h2⟩ := ih Y (nextZ X Y) (by omega) (h.next h0 fun _ => rfl)
      exact ⟨Z, W, h1, (Poly.eucl_step (x := rowOf X) (y := rowOf Y) h0).trans h2⟩
theorem eucR_len {a b : Poly (Zp q)} {B : Nat} (ha : a.len ≤ B) (hb : b.len ≤ B) : (Poly.eucR a b).g.len ≤ B ∧ (Poly.eucR a b).s.len ≤ B + 1 ∧ (Poly.eucR a b).t.len ≤ B + 1 := by
  have heb : Poly.EB B (fnOf a 1 0) (fnOf b 0 1) := by
    refine ⟨ha, hb, fun i hi => ?_, fun i hi => ?_⟩
    · match i, hi with
      | 1, _ => show (1 : Poly (Zp q)).len + b.len ≤ _; rw [Poly.len_one]; omega
      | i + 2, _ => show (0 : Poly (Zp q)).len + b.len ≤ _; rw [Poly.len_zero]; omega
    · match i, hi with
      | 1, _ => show (0 : Poly (Zp q)).len + a.len ≤ _; rw [Poly.len_zero]; omega
      | i + 2, _ => show (1 : Poly (Zp q)).len + a.len ≤ _; rw [Poly.len_one]; omega
  obtain ⟨Z, W, h1, h2⟩ := eucl_bd _ _ _ (Nat.le_refl _) heb
  have h3 : Poly.eucR a b = rowOf Z := h2
  rw [h3]
  exact ⟨h1.x0, (h1.le 1).1, (h1.le 2).1⟩
theorem bezR_len {a b : Poly (Zp q)} {B : Nat} (ha : a.len ≤ B) (hb : b.len ≤ B) : (Poly.bezR a b).g.len ≤ B ∧ (Poly.bezR a b).s.len ≤ B + 1 ∧ (Poly.bezR a b).t.len ≤ B + 1 := by
  obtain ⟨h1, h2, h3⟩ := eucR_len ha hb
  by_cases h0 : (Poly.eucR a b).g = 0
  · rw [Poly.bezR_zero h0]; exact ⟨h1, h2, h3⟩
  · rw [Poly.bezR_ne h0]
    exact ⟨by have := monic_len_le (Poly.eucR a b).g; show (Poly.monic _).len ≤ _; omega, by have := C_mul_len (CField.inv (Poly.eucR a b).g.lc) (Poly.eucR a b).s; show (_ * _ : Poly (Zp q)).len ≤ _; omega, by have := C_mul_len (CField.inv (Poly.eucR a b).g.lc) (Poly.eucR a b).t; show (_ * _ : Poly (Zp q)).len ≤ _; omega⟩
theorem gcd_len {a b : Poly (Zp q)} {B : Nat} (ha : a.len ≤ B) (hb : b.len ≤ B) : (Poly.gcdP a b).len ≤ B := by
  rw [← Poly.bezR_g]; exact (bezR_len ha hb).1
/-- Three polynomials of no more than so many coefficients beside an error's number. -/
def GivesR3E (w : World) (K L : Nat) (a b c : Poly (Zp q)) (err : Int) (e : Ending) (w' : World) : Prop :=
  ∃ A k B l C m, e = .returned (.tuple #[.slice A a.len k, .slice B b.len l, .slice C c.len m, .int .i64 err]) ∧ a.len ≤ K ∧ b.len ≤ L ∧ c.len ≤ L ∧ Ints w' A a.len (fromP a) ∧ Ints w' B b.len (fromP b) ∧ Ints w' C c.len (fromP c) ∧ Below w.heap.size w w'
end

theorem pbezout_no (A B : Option Addr) (n c m d : Nat) (p : Int) (w : World) (h3 : -9223372036854775808 ≤ p) (h4 : p ≤ 9223372036854775807) (hp : isPrime p = false) :
    Calls Try.prog 35 #[.slice A n c, .slice B m d, .int .i64 p] w fun e w' => e = .returned (.tuple #[.slice none 0 0, .slice none 0 0, .slice none 0 0, .int .i64 1]) ∧ w = w' := by
  go_enter Try.func35, Try.ntmps35
  go_wp2_with fail
  refine (chk_no _ _ h3 h4 hp).mono ?_
  rintro e w' ⟨rfl, rfl⟩
  go_wp2_with fail
  (try simp only [Exit.inBlock, Exit.then]); refine bodyPost_ret (results_tmp4 rfl _ _ _) rfl ?_
  exact ⟨rfl, rfl⟩
theorem pgcd_no (A B : Option Addr) (n c m d : Nat) (p : Int) (w : World) (h3 : -9223372036854775808 ≤ p) (h4 : p ≤ 9223372036854775807) (hp : isPrime p = false) :
    Calls Try.prog 21 #[.slice A n c, .slice B m d, .int .i64 p] w fun e w' => e = .returned (.tuple #[.slice none 0 0, .int .i64 1]) ∧ w = w' := by
  go_enter Try.func21, Try.ntmps21
  go_wp2_with fail
  refine (pbezout_no _ _ _ _ _ _ _ _ h3 h4 hp).mono ?_
  rintro e w' ⟨rfl, rfl⟩
  go_wp2_with fail
  go_ret2
  exact ⟨rfl, rfl⟩

section
variable {A B : Option Addr} {n m c d N : Nat} {p : Int} {w : World} {hp : Pr p} {a b : Poly (Zp ⟨p, hp⟩)}
theorem bezoutR (ha : Rd w A n a) (hb : Rd w B m b) (hn : n ≤ N) (hm : m ≤ N) (hN : N ≤ 900000000) :
    Calls Try.prog 35 #[.slice A n c, .slice B m d, .int .i64 p] w (GivesR3E w N (N + 1) (Poly.bezR a b).g (Poly.bezR a b).s (Poly.bezR a b).t 0) := by
  obtain ⟨xs, hx, rfl⟩ := ha
  obtain ⟨ys, hy, rfl⟩ := hb
  have h2 : (toP ⟨p, hp⟩ xs).len ≤ n := len_le_toP hx.len
  have h3 : (toP ⟨p, hp⟩ ys).len ≤ m := len_le_toP hy.len
  obtain ⟨h4, h5, h6⟩ := bezR_len (B := N) (Nat.le_trans h2 hn) (Nat.le_trans h3 hm)
  refine (pbezout_yes A B n c m d xs ys p w hp hx hy (by omega) (by omega)).mono ?_
  rintro e w' ⟨A1, k1, B1, l1, C1, m1, rfl, i1, i2, i3, hb⟩
  exact ⟨A1, k1, B1, l1, C1, m1, rfl, h4, h5, h6, i1, i2, i3, hb⟩
theorem gcdR (ha : Rd w A n a) (hb : Rd w B m b) (hn : n ≤ N) (hm : m ≤ N) (hN : N ≤ 900000000) :
    Calls Try.prog 21 #[.slice A n c, .slice B m d, .int .i64 p] w (GivesRE w N (Poly.gcdP a b) 0) := by
  have Cb := Lib.hid (bezoutR (c := c) (d := d) ha hb hn hm hN)
  have Hg := Lib.hid (Poly.bezR_g a b)
  go_enter Try.func21, Try.ntmps21
  go_wp2_with fail
  refine Cb.out.mono ?_
  rintro e w1 ⟨A1, k1, B1, l1, C1, m1, rfl, h4, h5, h6, i1, i2, i3, hb1⟩
  rw [Hg.out] at h4 i1 ⊢
  go_wp2_with fail
  go_ret2
  exact ⟨_, _, rfl, h4, i1, hb1⟩
end
end Go.Proofs.Ytbcapmnklgdeoaa
