/- Where p times anything is nought, the p-th power of a sum is the sum of p-th powers; Fermat's theorem. -/
import Derived.Test.YteddelfkjpljpaaAlg
import Derived.Test.YteddelfkjpljpaaFpMath
namespace Cl
open CRing

theorem choose_prime {p : Nat} (hp : Pr (p : Int)) {k : Nat} (h0 : 0 < k) (hk : k < p) : p ∣ choose p k := by
  obtain ⟨n, rfl⟩ : ∃ n, p = n + 1 := ⟨p - 1, by omega⟩
  obtain ⟨j, rfl⟩ : ∃ j, k = j + 1 := ⟨k - 1, by omega⟩
  have h := succ_mul_choose n j
  have h1 : Cg ((n + 1 : Nat) : Int) (((j + 1 : Nat) : Int) * (choose (n + 1) (j + 1) : Nat)) 0 := by
    refine ⟨(choose n j : Nat), ?_⟩
    rw [← Int.natCast_mul, h, Int.natCast_mul]; omega
  rcases hp.mul_zero h1 with h2 | h2
  · rw [Cg.zero_iff_emod, Int.emod_eq_of_lt (by omega) (by omega)] at h2; omega
  · rw [Cg.zero_iff] at h2; exact Int.natCast_dvd_natCast.1 h2

section
variable {R : Type} [CRing R]
/-- p times anything is nought. -/
def CharP (R : Type) [CRing R] (p : Nat) : Prop := nsmul p (1 : R) = 0
theorem CharP.nsmul {p : Nat} (h : CharP R p) {n : Nat} (hn : p ∣ n) (a : R) : nsmul n a = 0 := by
  obtain ⟨m, rfl⟩ := hn
  rw [Nat.mul_comm, nsmul_mul, nsmul_eq_mul p a, h, zero_mul, nsmul_of_zero]
theorem CharP.add_pow {p : Nat} (h : CharP R p) (hp : Pr (p : Int)) (a b : R) : (a + b) ^ p = a ^ p + b ^ p := by
  have h2 := hp.two
  obtain ⟨n, hn⟩ : ∃ n, p = n + 1 := ⟨p - 1, by omega⟩
  rw [binom, sum_succ, choose_self, nsmul_one, Nat.sub_self, CRing.pow_zero, CRing.mul_one]
  have e : sum p (fun k => CRing.nsmul (choose p k) (a ^ k * b ^ (p - k))) = b ^ p := by
    rw [hn, sum_succ', ← hn, choose_zero, nsmul_one, CRing.pow_zero, one_mul, Nat.sub_zero]
    rw [sum_eq_zero (fun i hi => h.nsmul (choose_prime hp (by omega) (by omega)) _), CRing.add_zero]
  rw [e, CRing.add_comm]
theorem CharP.add_pow_pow {p : Nat} (h : CharP R p) (hp : Pr (p : Int)) (a b : R) (k : Nat) : (a + b) ^ (p ^ k) = a ^ (p ^ k) + b ^ (p ^ k) := by
  induction k with
  | zero => rw [Nat.pow_zero, pow_one, pow_one, pow_one]
  | succ k ih => rw [Nat.pow_succ, pow_mul, ih, h.add_pow hp, pow_mul, pow_mul]
theorem CharP.sum_pow {p : Nat} (h : CharP R p) (hp : Pr (p : Int)) (n : Nat) (f : Nat → R) : (sum n f) ^ p = sum n (fun i => f i ^ p) := by
  induction n with
  | zero => exact zero_pow (by have := hp.two; omega)
  | succ n ih => rw [sum_succ, h.add_pow hp, ih, sum_succ]
end

end Cl
