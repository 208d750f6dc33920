/- Layer 6's statements: what the greatest common divisor's law wants. -/
import Derived.Test.YteddelfkjpljpaaLaw6C
import Derived.Test.YteddelfkjpljpaaFpolyJ
namespace Go.Proofs.Yteddelfkjpljpaa
open Go.RowKit Cl
attribute [local go_sem ↓] Go.wp_at_zero Go.wp_at_succ

section
variable {q : Prm}
/-- With a common factor more it is greater by that. -/
theorem gcd_more (a b c : Poly (Zp q)) : Poly.gcdP (a * c) (b * c) = (Poly.gcdP a b * c).monic := by
  obtain ⟨h1, h2⟩ := Poly.bezR_spec a b
  rw [Poly.bezR_g] at h1 h2
  refine (Poly.gcd_is _ _).unique ?_
  by_cases h0 : Poly.gcdP a b * c = 0
  · have e : Poly.gcdP a b = 0 ∨ c = 0 := Classical.byContradiction fun hn => Poly.mul_ne (fun h => hn (.inl h)) (fun h => hn (.inr h)) h0
    have e2 : a * c = 0 ∧ b * c = 0 := by
      rcases e with e | e
      · have ha := Poly.zero_dvd (e ▸ h2.l)
        have hb := Poly.zero_dvd (e ▸ h2.r)
        rw [ha, hb, CRing.zero_mul]; exact ⟨rfl, rfl⟩
      · rw [e, CRing.mul_zero, CRing.mul_zero]; exact ⟨rfl, rfl⟩
    rw [h0, e2.1, e2.2, Poly.monic_zero]
    exact Poly.IsGcd.of_bezout (s := 0) (t := 0) (Poly.dvd_refl 0) (Poly.dvd_refl 0) (by rw [CRing.zero_mul, CRing.add_zero]) (.inl rfl)
  · have l : (Poly.gcdP a b * c).monic ∣ a * c := Poly.monic_dvd (Poly.mul_dvd_mul h2.l (Poly.dvd_refl c))
    have r : (Poly.gcdP a b * c).monic ∣ b * c := Poly.monic_dvd (Poly.mul_dvd_mul h2.r (Poly.dvd_refl c))
    refine Poly.IsGcd.of_bezout (s := Poly.C (CField.inv (Poly.gcdP a b * c).lc) * (Poly.bezR a b).s) (t := Poly.C (CField.inv (Poly.gcdP a b * c).lc) * (Poly.bezR a b).t) l r ?_ (.inr (Poly.monic_mon h0))
    show _ = Poly.C (CField.inv (Poly.gcdP a b * c).lc) * (Poly.gcdP a b * c)
    rw [CRing.mul_assoc, CRing.mul_assoc, ← CRing.mul_add, ← CRing.mul_assoc (Poly.bezR a b).s, ← CRing.mul_assoc (Poly.bezR a b).t, ← CRing.add_mul, h1]
theorem fromP_mon {g : Poly (Zp q)} (h : g.Mon) : nth (fromP g) (g.len - 1) = 1 := by
  rw [nth_fromP]
  have : g.co (g.len - 1) = 1 := h
  rw [this, ← Zp.of_one, Zp.val_of]
  exact Int.emod_eq_of_lt (by omega) (by have := q.pr.two; omega)
end
end Go.Proofs.Yteddelfkjpljpaa
