/- The greatest common divisor and of how many of both it is made, as both programs answer; how long the rows of Euclid's way are. No program in sight. -/
import Derived.Test.YteddelfkjpljpaaPolyEuc
namespace Cl
open CRing
namespace Poly
variable {F : Type} [CField F]
/-- The row at which Euclid's way ends. -/
noncomputable def eucR (a b : Poly F) : Row3 F := eucl ⟨a, 1, 0⟩ ⟨b, 0, 1⟩
open Classical in
/-- By its last coefficient, where it is not nought. -/
noncomputable def bezR (a b : Poly F) : Row3 F :=
  if (eucR a b).g = 0 then eucR a b else ⟨(eucR a b).g.monic, C (CField.inv (eucR a b).g.lc) * (eucR a b).s, C (CField.inv (eucR a b).g.lc) * (eucR a b).t⟩
theorem eucR_spec (a b : Poly F) : (eucR a b).s * a + (eucR a b).t * b = (eucR a b).g ∧ ∀ d, d ∣ (eucR a b).g ↔ d ∣ a ∧ d ∣ b :=
  eucl_spec (a := a) (b := b) ⟨a, 1, 0⟩ ⟨b, 0, 1⟩ (by rw [one_mul, zero_mul, add_zero]) (by rw [one_mul, zero_mul, zero_add]) (fun d => Iff.rfl)
theorem bezR_zero {a b : Poly F} (h : (eucR a b).g = 0) : bezR a b = eucR a b := by unfold bezR; rw [if_pos h]
theorem bezR_ne {a b : Poly F} (h : (eucR a b).g ≠ 0) : bezR a b = ⟨(eucR a b).g.monic, C (CField.inv (eucR a b).g.lc) * (eucR a b).s, C (CField.inv (eucR a b).g.lc) * (eucR a b).t⟩ := by unfold bezR; rw [if_neg h]
theorem bezR_spec (a b : Poly F) : (bezR a b).s * a + (bezR a b).t * b = (bezR a b).g ∧ IsGcd a b (bezR a b).g := by
  obtain ⟨h1, h2⟩ := eucR_spec a b
  by_cases h0 : (eucR a b).g = 0
  · rw [bezR_zero h0]
    exact ⟨h1, .of_bezout ((h2 _).1 (dvd_refl _)).1 ((h2 _).1 (dvd_refl _)).2 h1 (.inl h0)⟩
  · rw [bezR_ne h0]
    have e : C (CField.inv (eucR a b).g.lc) * (eucR a b).s * a + C (CField.inv (eucR a b).g.lc) * (eucR a b).t * b = (eucR a b).g.monic := by
      rw [mul_assoc, mul_assoc, ← mul_add, h1]; rfl
    exact ⟨e, .of_bezout (monic_dvd ((h2 _).1 (dvd_refl _)).1) (monic_dvd ((h2 _).1 (dvd_refl _)).2) e (.inr (monic_mon h0))⟩
theorem bezR_g (a b : Poly F) : (bezR a b).g = gcdP a b := (bezR_spec a b).2.unique (gcd_is a b)
/-- Where both are nought. -/
theorem eucR_nought {a b : Poly F} (h : (eucR a b).g = 0) : a = 0 ∧ b = 0 ∧ eucR a b = ⟨0, 1, 0⟩ := by
  obtain ⟨_, h2⟩ := eucR_spec a b
  have h3 := (h2 0).1 (by rw [h]; exact dvd_refl 0)
  have ha := zero_dvd h3.1
  have hb := zero_dvd h3.2
  subst ha; subst hb
  exact ⟨rfl, rfl, eucl_zero rfl⟩

/-- How long three and three polynomials are. -/
structure EB (B : Nat) (X Y : Nat → Poly F) : Prop where
  x0 : (X 0).len ≤ B
  y0 : (Y 0).len ≤ B
  x : ∀ i, 1 ≤ i → (X i).len + (Y 0).len ≤ B + 1
  y : ∀ i, 1 ≤ i → (Y i).len + (X 0).len ≤ B + 1
theorem EB.le {B : Nat} {X Y : Nat → Poly F} (h : EB B X Y) (i : Nat) : (X i).len ≤ B + 1 ∧ (Y i).len ≤ B + 1 := by
  cases i with
  | zero => have := h.x0; have := h.y0; omega
  | succ i => have := h.x (i + 1) (by omega); have := h.y (i + 1) (by omega); omega
theorem EB.next {B : Nat} {X Y Z : Nat → Poly F} (h : EB B X Y) (hy : Y 0 ≠ 0) (hZ : ∀ i, Z i = X i - quo (X 0) (Y 0) * Y i) : EB B Y Z := by
  obtain ⟨h1, h2⟩ := div_spec (X 0) hy
  have hx0 := h.x0
  have hy0 := h.y0
  have hr : Z 0 = rem (X 0) (Y 0) := by
    rw [hZ]
    conv => lhs; lhs; rw [h1]
    rw [add_comm, add_sub_cancel]
  have hyp := len_pos hy
  have hrl : (Z 0).len ≤ (X 0).len := by
    rw [hr]
    by_cases hlt : (X 0).len < (Y 0).len
    · rw [(rem_of_lt hlt).1]; omega
    · omega
  refine ⟨hy0, by omega, fun i hi => ?_, fun i hi => ?_⟩
  · have := h.y i hi; omega
  · have hxi := h.x i hi
    have hyi := h.y i hi
    have hprod : (quo (X 0) (Y 0) * Y i).len + (Y 0).len ≤ B + 1 := by
      by_cases hq : quo (X 0) (Y 0) = 0
      · rw [hq, zero_mul, len_zero]; omega
      · by_cases hyz : Y i = 0
        · rw [hyz, mul_zero, len_zero]; omega
        · rw [(len_mul hq hyz).1]
          have h5 : quo (X 0) (Y 0) * Y 0 = X 0 - rem (X 0) (Y 0) := by
            conv => rhs; lhs; rw [h1]
            rw [add_sub_cancel]
          have h6 : (X 0 - rem (X 0) (Y 0)).len ≤ max (X 0).len (rem (X 0) (Y 0)).len := len_le (((len_sh (X 0)).mono (by omega)).sub ((len_sh (rem (X 0) (Y 0))).mono (by omega)))
          have h7 : (rem (X 0) (Y 0)).len ≤ (X 0).len := hr ▸ hrl
          rw [← h5, (len_mul hq hy).1] at h6
          have := len_pos hq
          have := len_pos hyz
          omega
    rw [hZ]
    have := len_le (((len_sh (X i)).mono (show _ ≤ max (X i).len (quo (X 0) (Y 0) * Y i).len by omega)).sub ((len_sh (quo (X 0) (Y 0) * Y i)).mono (show _ ≤ max (X i).len (quo (X 0) (Y 0) * Y i).len by omega)))
    omega
end Poly
end Cl
