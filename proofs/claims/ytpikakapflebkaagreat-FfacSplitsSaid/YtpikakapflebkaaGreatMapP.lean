/- Polynomials over another field: the product of x less all conjugates. No program in sight. -/
import Derived.Test.YtpikakapflebkaaGreatQuoK
namespace Cl
namespace Poly
section
variable {F K : Type} [CField F] [CField K] {φ : F → K}
theorem Hom.inj0 (hφ : Hom φ) {c : F} (h : φ c = 0) : c = 0 := by
  by_cases hc : c = 0
  · exact hc
  · exfalso
    have h1 := hφ.mul c (CField.inv c)
    rw [CField.mul_inv c hc, hφ.one, h, CRing.zero_mul] at h1
    exact CField.one_ne h1
/-- Each coefficient sent over. -/
def mapP (hφ : Hom φ) (a : Poly F) : Poly K := ⟨fun i => φ (a.co i), a.len, fun i hi => by rw [len_sh a i hi, hφ.zero]⟩
theorem co_mapP (hφ : Hom φ) (a : Poly F) (i : Nat) : (mapP hφ a).co i = φ (a.co i) := rfl
theorem mapP_sh (hφ : Hom φ) (a : Poly F) : (mapP hφ a).Sh a.len := fun i hi => by rw [co_mapP, len_sh a i hi, hφ.zero]
theorem mapP_mul (hφ : Hom φ) (a b : Poly F) : mapP hφ (a * b) = mapP hφ a * mapP hφ b := Poly.ext fun i => by
  rw [co_mapP, co_mul, co_mul, hφ.sum]
  exact CRing.sum_congr fun k _ => hφ.mul _ _
theorem mapP_one (hφ : Hom φ) : mapP hφ (1 : Poly F) = 1 := Poly.ext fun i => by
  rw [co_mapP, co_one, co_one]
  split
  · exact hφ.one
  · exact hφ.zero
theorem mapP_lin (hφ : Hom φ) (c : F) : mapP hφ (lin c) = lin (φ c) := Poly.ext fun i => by
  rw [co_mapP, co_lin, co_lin]
  split
  · exact hφ.one
  · split
    · exact hφ.neg c
    · exact hφ.zero
theorem mapP_len (hφ : Hom φ) (a : Poly F) : (mapP hφ a).len = a.len := by
  by_cases h : a = 0
  · have h1 := len_le (mapP_sh hφ a)
    rw [h, len_zero] at h1 ⊢
    omega
  · have hl := len_pos h
    have h1 : (mapP hφ a).len = (a.len - 1) + 1 := len_eq (fun i hi => mapP_sh hφ a i (by omega)) fun e => lc_ne h (Hom.inj0 hφ e)
    omega
theorem ev_mapP (hφ : Hom φ) (a : Poly F) (v : K) : ev (fun c => c) (mapP hφ a) v = ev φ a v := by
  rw [ev_eq hom_id (mapP_sh hφ a) v]
  rfl
/-- The product of x less v, v to the p-th power, and so on. -/
def conjP (p : Nat) (v : K) : Nat → Poly K
  | 0 => 1
  | n + 1 => conjP p v n * lin (v ^ p ^ n)
theorem conjP_mon (p : Nat) (v : K) : ∀ n, (conjP p v n).Mon
  | 0 => mon_one
  | n + 1 => (conjP_mon p v n).mul (lin_mon _)
theorem conjP_len (p : Nat) (v : K) : ∀ n, (conjP p v n).len = n + 1
  | 0 => len_one
  | n + 1 => by unfold conjP; rw [(len_mul (conjP_mon p v n).ne (lin_mon _).ne).1, conjP_len p v n, lin_len]; omega
theorem conjP_map {p : Nat} (hfr : Hom fun y : K => y ^ p) (v : K) : ∀ n, mapP hfr (conjP p v n) * lin v = conjP p v n * lin (v ^ p ^ n)
  | 0 => by
    unfold conjP
    rw [mapP_one, Nat.pow_zero, CRing.pow_succ, CRing.pow_zero]
    simp only [CRing.one_mul]
  | n + 1 => by
    unfold conjP
    rw [mapP_mul, mapP_lin, CRing.mul_assoc, CRing.mul_comm (lin _) (lin v), ← CRing.mul_assoc, conjP_map hfr v n]
    rw [show (v ^ p ^ n) ^ p = v ^ p ^ (n + 1) by rw [Nat.pow_succ, CRing.pow_mul]]
theorem conjP_root (p : Nat) (v : K) : ∀ n, 1 ≤ n → lin v ∣ conjP p v n
  | 0, h => absurd h (by omega)
  | 1, _ => ⟨1, by
    unfold conjP
    show conjP p v 0 * lin (v ^ p ^ 0) = _
    unfold conjP
    rw [Nat.pow_zero, CRing.pow_succ, CRing.pow_zero]
    simp only [CRing.one_mul, CRing.mul_one]⟩
  | n + 2, _ => by
    obtain ⟨x, hx⟩ := conjP_root p v (n + 1) (by omega)
    exact ⟨x * lin (v ^ p ^ (n + 1)), by show conjP p v (n + 1) * _ = _; rw [hx, CRing.mul_assoc]⟩
end
section
variable {F K : Type} [CField F] [CField K] {φ : F → K}
theorem conj_exists (hφ : Hom φ) {p : Nat} (hfr : Hom fun y : K => y ^ p) (hc : ∀ y : K, y ^ p = y → ∃ c, y = φ c) {v : K} {n : Nat} (hn : 1 ≤ n) (hv : v ^ p ^ n = v) : ∃ P : Poly F, P.len = n + 1 ∧ ev φ P v = 0 := by
  have h1 := conjP_map hfr v n
  rw [hv] at h1
  have h2 : mapP hfr (conjP p v n) = conjP p v n := mul_right_cancel (lin_mon v).ne h1
  have h3 : ∀ i, ∃ c, (conjP p v n).co i = φ c := fun i => hc _ (by
    have := congrArg (fun P : Poly K => P.co i) h2
    exact this)
  obtain ⟨g, hg⟩ : ∃ g : Nat → F, ∀ i, (conjP p v n).co i = φ (g i) := ⟨fun i => Classical.choose (h3 i), fun i => Classical.choose_spec (h3 i)⟩
  have h4 : ∀ i, n + 1 ≤ i → g i = 0 := fun i hi => Hom.inj0 hφ (by rw [← hg i]; exact len_sh (conjP p v n) i (by rw [conjP_len]; exact hi))
  have h5 : mapP hφ ⟨g, n + 1, h4⟩ = conjP p v n := Poly.ext fun i => (hg i).symm
  refine ⟨⟨g, n + 1, h4⟩, by rw [← mapP_len hφ, h5, conjP_len], ?_⟩
  rw [← ev_mapP hφ, h5]
  exact lin_dvd.1 (conjP_root p v n hn)
end
end Poly
end Cl
