/- The document's example of layer 6, in plain numbers. No program in sight. -/
import Derived.Test.YtbcapmnklgdeoaaPolyB
import Derived.Test.YtbcapmnklgdeoaaNum
namespace Cl
open CRing Poly
theorem pr_seven : Pr 7 := by
  rw [← isPrime_iff]; decide
def q7 : Prm := ⟨7, pr_seven⟩
theorem fromP_toP_of {q : Prm} {xs : List Int} (h : canon xs.length (nth xs) q.p = xs) : fromP (toP q xs) = xs := by rw [← canon_toP, h]
theorem len_toP_of {q : Prm} {xs : List Int} (h : canon xs.length (nth xs) q.p = xs) : (toP q xs).len = xs.length := by rw [← fromP_length, fromP_toP_of h]
theorem ne_toP_of {q : Prm} {xs : List Int} (h : canon xs.length (nth xs) q.p = xs) (h0 : 0 < xs.length) : toP q xs ≠ 0 := fun e => by
  have := len_toP_of h
  rw [e, len_zero] at this; omega
theorem ex_div : Poly.quo (toP q7 [1, 0, 0, 1]) (toP q7 [1, 2]) = toP q7 [1, 5, 4] ∧ Poly.rem (toP q7 [1, 0, 0, 1]) (toP q7 [1, 2]) = 0 := by
  refine div_eq ?_ ?_
  · rw [CRing.add_zero, ← toP_mulL, show mulL [1, 5, 4] [1, 2] q7.p = [1, 0, 0, 1] by decide +kernel]
  · rw [len_zero, len_toP_of (by decide +kernel)]; decide
theorem ex_quo : fromP (Poly.quo (toP q7 [1, 0, 0, 1]) (toP q7 [1, 2])) = [1, 5, 4] := by rw [ex_div.1]; exact fromP_toP_of (by decide +kernel)
theorem ex_ne : toP q7 [1, 2] ≠ 0 := ne_toP_of (by decide +kernel) (by decide)
theorem ex_ne2 : toP q7 [1, 0, 1] ≠ 0 := ne_toP_of (by decide +kernel) (by decide)
theorem ex_pow7 : toP q7 [0, 1] ^ 7 = toP q7 [0, 0, 0, 0, 0, 0, 0, 1] := by
  have h1 : toP q7 [0, 1] * toP q7 [0, 1] = toP q7 [0, 0, 1] := by rw [← toP_mulL, show mulL [0, 1] [0, 1] q7.p = [0, 0, 1] by decide +kernel]
  have h2 : toP q7 [0, 0, 1] * toP q7 [0, 1] = toP q7 [0, 0, 0, 1] := by rw [← toP_mulL, show mulL [0, 0, 1] [0, 1] q7.p = [0, 0, 0, 1] by decide +kernel]
  have h3 : toP q7 [0, 0, 0, 1] * toP q7 [0, 0, 0, 1] = toP q7 [0, 0, 0, 0, 0, 0, 1] := by rw [← toP_mulL, show mulL [0, 0, 0, 1] [0, 0, 0, 1] q7.p = [0, 0, 0, 0, 0, 0, 1] by decide +kernel]
  have h4 : toP q7 [0, 0, 0, 0, 0, 0, 1] * toP q7 [0, 1] = toP q7 [0, 0, 0, 0, 0, 0, 0, 1] := by rw [← toP_mulL, show mulL [0, 0, 0, 0, 0, 0, 1] [0, 1] q7.p = [0, 0, 0, 0, 0, 0, 0, 1] by decide +kernel]
  have e3 : toP q7 [0, 1] ^ 3 = toP q7 [0, 0, 0, 1] := by
    rw [CRing.pow_succ, CRing.pow_succ, CRing.pow_succ, CRing.pow_zero, CRing.one_mul, h1, h2]
  rw [show 7 = 3 + 3 + 1 from rfl, CRing.pow_succ, CRing.pow_add, e3, h3, h4]
theorem ex_pow : powR (toP q7 [0, 1]) 7 (toP q7 [1, 0, 1]) = toP q7 [0, 6] := by
  unfold powR
  rw [ex_pow7]
  refine (div_eq (q := toP q7 [0, 1, 0, 6, 0, 1]) ?_ ?_).2
  · have h := toP_addL (q := q7) (mulL [0, 1, 0, 6, 0, 1] [1, 0, 1] q7.p) [0, 6] 1
    rw [Zp.of_one, C_one, CRing.one_mul, toP_mulL] at h
    rw [← h, show addL (mulL [0, 1, 0, 6, 0, 1] [1, 0, 1] q7.p) [0, 6] 1 q7.p = [0, 0, 0, 0, 0, 0, 0, 1] by decide +kernel]
  · rw [len_toP_of (by decide +kernel), len_toP_of (by decide +kernel)]; decide
theorem ex_powl : fromP (powR (toP q7 [0, 1]) 7 (toP q7 [1, 0, 1])) = [0, 6] := by rw [ex_pow]; exact fromP_toP_of (by decide +kernel)
end Cl
