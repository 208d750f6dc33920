/- Contracts by polynomials, whatever list tells them. -/
import Derived.Test.YtbcapmnklgdeoaaFpolyF
namespace Go.Proofs.Ytbcapmnklgdeoaa
open Go.RowKit Cl
attribute [local go_sem ↓] Go.wp_at_zero Go.wp_at_succ

section
variable {q : Prm}
/-- Some list lies there that tells a. -/
def Rd (w : World) (A : Option Addr) (n : Nat) (a : Poly (Zp q)) : Prop := ∃ xs, Ints w A n xs ∧ toP q xs = a
theorem Rd.of {w : World} {A : Option Addr} {a : Poly (Zp q)} (h : Ints w A a.len (fromP a)) : Rd w A a.len a := ⟨_, h, toP_fromP a⟩
theorem Rd.of_list {w : World} {A : Option Addr} {n : Nat} {xs : List Int} (h : Ints w A n xs) : Rd w A n (toP q xs) := ⟨_, h, rfl⟩
/-- A call that hands back a plain polynomial of no more than K coefficients. -/
def GivesR (w : World) (K : Nat) (a : Poly (Zp q)) (e : Ending) (w' : World) : Prop :=
  ∃ A c, e = .returned (.slice A a.len c) ∧ a.len ≤ K ∧ Ints w' A a.len (fromP a) ∧ Below w.heap.size w w'
def GivesRE (w : World) (K : Nat) (a : Poly (Zp q)) (err : Int) (e : Ending) (w' : World) : Prop :=
  ∃ A c, e = .returned (.tuple #[.slice A a.len c, .int .i64 err]) ∧ a.len ≤ K ∧ Ints w' A a.len (fromP a) ∧ Below w.heap.size w w'
def GivesRRE (w : World) (K L : Nat) (a b : Poly (Zp q)) (err : Int) (e : Ending) (w' : World) : Prop :=
  ∃ A c B d, e = .returned (.tuple #[.slice A a.len c, .slice B b.len d, .int .i64 err]) ∧ a.len ≤ K ∧ b.len ≤ L ∧ Ints w' A a.len (fromP a) ∧ Ints w' B b.len (fromP b) ∧ Below w.heap.size w w'
theorem GivesR.of {w : World} {K : Nat} {a : Poly (Zp q)} {e : Ending} {w' : World} (h : GivesP w a e w') (hK : a.len ≤ K) : GivesR w K a e w' := by
  obtain ⟨A, c, he, hn⟩ := h
  exact ⟨A, c, he, hK, hn.rd, hn.bel⟩
theorem GivesRE.of {w : World} {K : Nat} {a : Poly (Zp q)} {err : Int} {e : Ending} {w' : World} (h : GivesPE w a err e w') (hK : a.len ≤ K) : GivesRE w K a err e w' := by
  obtain ⟨A, c, he, hn⟩ := h
  exact ⟨A, c, he, hK, hn.rd, hn.bel⟩
theorem GivesRRE.of {w : World} {K L : Nat} {a b : Poly (Zp q)} {err : Int} {e : Ending} {w' : World} (h : GivesPPE w a b err e w') (hK : a.len ≤ K) (hL : b.len ≤ L) : GivesRRE w K L a b err e w' := by
  obtain ⟨A, c, B, d, he, hn, hm⟩ := h
  exact ⟨A, c, B, d, he, hK, hL, hn.rd, hm.rd, hn.bel⟩
theorem add_len (a b : Poly (Zp q)) : (a + b).len ≤ max a.len b.len := Poly.len_le (((Poly.len_sh a).mono (by omega)).add ((Poly.len_sh b).mono (by omega)))
theorem sub_len (a b : Poly (Zp q)) : (a - b).len ≤ max a.len b.len := Poly.len_le (((Poly.len_sh a).mono (by omega)).sub ((Poly.len_sh b).mono (by omega)))
theorem monic_len_le (a : Poly (Zp q)) : a.monic.len ≤ a.len := by
  by_cases h : a = 0
  · rw [h, Poly.monic_zero]; omega
  · rw [Poly.monic_len h]; omega
theorem D_len_le (a : Poly (Zp q)) : a.D.len ≤ a.len := Poly.len_le fun i hi => by
  rw [Poly.co_D, Poly.len_sh a (i + 1) (by omega), CRing.nsmul_of_zero]
theorem deg_cases (a b : Poly (Zp q)) :
    (((a.len : Int) == 0) = true ∧ ((b.len : Int) == (b.len : Int)) = true ∧ (((a * b).len : Int) == 0) = true) ∨
    (((a.len : Int) == 0) = false ∧ ((b.len : Int) == 0) = true ∧ (((a * b).len : Int) == 0) = true) ∨
    ((((a * b).len : Int) == 0) = false ∧ (0 : Int) < ((a * b).len : Int) ∧ (((a * b).len : Int) == (a.len : Int) + (b.len : Int) - 1) = true) := by
  by_cases ha : a = 0
  · subst ha
    refine .inl ⟨?_, by simp, ?_⟩
    · rw [Poly.len_zero]; rfl
    · rw [CRing.zero_mul, Poly.len_zero]; rfl
  · have h1 := Poly.len_pos ha
    by_cases hb : b = 0
    · subst hb
      refine .inr (.inl ⟨beq_eq_false_iff_ne.2 (by omega), ?_, ?_⟩)
      · rw [Poly.len_zero]; rfl
      · rw [CRing.mul_zero, Poly.len_zero]; rfl
    · have h2 := Poly.len_pos hb
      have h3 := (Poly.len_mul ha hb).1
      exact .inr (.inr ⟨beq_eq_false_iff_ne.2 (by omega), by omega, beq_iff_eq.2 (by omega)⟩)
end

section
variable {A B : Option Addr} {n m c d N M K : Nat} {p : Int} {w : World} {hp : Pr p} {a b : Poly (Zp ⟨p, hp⟩)}
theorem normR (ha : Rd w A n a) (hn : n ≤ N) (hK2 : N ≤ 900000000) :
    Calls Try.prog 13 #[.slice A n c, .int .i64 p] w (GivesRE w N a 0) := by
  obtain ⟨xs, hx, rfl⟩ := ha
  have h2 : (toP ⟨p, hp⟩ xs).len ≤ n := len_le_toP hx.len
  exact (pnorm_yes A n c xs p w hp hx (by omega)).mono fun e w' h => GivesRE.of h (by omega)
theorem divR (ha : Rd w A n a) (hb : Rd w B m b) (hn : n ≤ N) (hm : m ≤ M) (hK : N ≤ 900000000) (hK2 : M ≤ 900000000) (h0 : b ≠ 0) :
    Calls Try.prog 22 #[.slice A n c, .slice B m d, .int .i64 p] w (GivesRRE w N M (Poly.quo a b) (Poly.rem a b) 0) := by
  obtain ⟨xs, hx, rfl⟩ := ha
  obtain ⟨ys, hy, rfl⟩ := hb
  have h1 := Cl.rem_len' (toP ⟨p, hp⟩ xs) h0
  have h4 := Cl.quo_len' (toP ⟨p, hp⟩ xs) h0
  have h2 : (toP ⟨p, hp⟩ xs).len ≤ n := len_le_toP hx.len
  have h3 : (toP ⟨p, hp⟩ ys).len ≤ m := len_le_toP hy.len
  exact (pdiv_yes A B n c m d xs ys p w hp hx hy (by omega) (by omega) h0).mono fun e w' h => GivesRRE.of h (by omega) (by omega)
theorem div0R (hb : Rd w B m b) (hm : m ≤ M) (hK2 : M ≤ 900000000) (h0 : b = 0) :
    Calls Try.prog 22 #[.slice A n c, .slice B m d, .int .i64 p] w fun e w' => e = .returned (.tuple #[.slice none 0 0, .slice none 0 0, .int .i64 3]) ∧ Below w.heap.size w w' := by
  obtain ⟨ys, hy, rfl⟩ := hb
  exact pdiv_zero A B n c m d ys p w hp hy (by omega) h0
theorem derivR (ha : Rd w A n a) (hn : n ≤ N) (hK2 : N ≤ 900000000) :
    Calls Try.prog 20 #[.slice A n c, .int .i64 p] w (GivesRE w N a.D 0) := by
  obtain ⟨xs, hx, rfl⟩ := ha
  have h1 := D_len_le (toP ⟨p, hp⟩ xs)
  have h2 : (toP ⟨p, hp⟩ xs).len ≤ n := len_le_toP hx.len
  exact (pderiv_yes A n c xs p w hp hx (by omega)).mono fun e w' h => GivesRE.of h (by omega)
/-- A polynomial's value at a whole number. -/
noncomputable def valR (a : Poly (Zp ⟨p, hp⟩)) (x : Int) : Int := (Poly.ev (fun a => a) a (Zp.of ⟨p, hp⟩ x)).val
theorem monicR (ha : Rd w A n a) (hn : n ≤ N) (hK2 : N ≤ 900000000) :
    Calls Try.prog 38 #[.slice A n c, .int .i64 p] w (GivesRE w N a.monic 0) := by
  obtain ⟨xs, hx, rfl⟩ := ha
  have h1 := monic_len_le (toP ⟨p, hp⟩ xs)
  have h2 : (toP ⟨p, hp⟩ xs).len ≤ n := len_le_toP hx.len
  exact (pmonic_yes A n c xs p w hp hx (by omega)).mono fun e w' h => GivesRE.of h (by omega)
end
end Go.Proofs.Ytbcapmnklgdeoaa
