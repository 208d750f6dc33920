/- How both programs multiply: place by place. No program in sight. -/
import Derived.Test.YteddelfkjpljpaaPolyWays
namespace Cl
open CRing Poly
variable {q : Prm}
theorem toP_upd {xs : List Int} {n : Nat} (hn : n < xs.length) (v : Int) : toP q (xs.set n v) = toP q xs + mono n (Zp.of q v - Zp.of q (nth xs n)) := Poly.ext fun i => by
  rw [co_add, co_mono, co_toP, co_toP, nth_set hn]
  by_cases e : i = n
  · subst e; rw [if_pos rfl, if_pos rfl, CRing.add_comm, CRing.sub_add_cancel]
  · rw [if_neg e, if_neg e, CRing.add_zero]
/-- The product's list, i rows and k places of the next one done. -/
structure MulSt (q : Prm) (xs ys : List Int) (i k : Nat) (out : List Int) : Prop where
  len : out.length = xs.length + ys.length
  pl : Pl q.p out
  eq : toP q out = sum i (fun t => mono t (Zp.of q (nth xs t))) * toP q ys + sum k (fun s => mono (i + s) (Zp.of q (nth xs i) * Zp.of q (nth ys s)))
theorem MulSt.start (xs ys : List Int) : MulSt q xs ys 0 0 (List.replicate (xs.length + ys.length) 0) := by
  have hz : ∀ i, nth (List.replicate (xs.length + ys.length) 0) i = 0 := fun i => by
    by_cases h : i < xs.length + ys.length
    · rw [nth_lt (by simpa using h)]; simp
    · exact nth_ge (by simp; omega)
  refine ⟨by simp, fun i => by rw [hz]; have := q.pr.two; omega, ?_⟩
  rw [sum_zero, sum_zero, CRing.zero_mul, CRing.add_zero]
  exact Poly.ext fun i => by rw [co_toP, hz]; rfl
theorem MulSt.step {xs ys out : List Int} {i k : Nat} (h : MulSt q xs ys i k out) (hi : i < xs.length) (hk : k < ys.length) : MulSt q xs ys i (k + 1) (out.set (i + k) ((nth out (i + k) + nth xs i * nth ys k) % q.p)) := by
  have hl := h.len
  refine ⟨by simp [hl], set_pl h.pl (emod_bd _ (by have := q.pr.two; omega)), ?_⟩
  rw [toP_upd (by omega), h.eq, sum_succ, CRing.add_assoc]
  congr 2
  congr 1
  have e : Zp.of q ((nth out (i + k) + nth xs i * nth ys k) % q.p) = Zp.of q (nth out (i + k)) + Zp.of q (nth xs i) * Zp.of q (nth ys k) := by
    rw [← Zp.of_mul, ← Zp.of_add]; exact Zp.of_cg (Cg.emod_left _ _)
  rw [e, CRing.add_comm, CRing.add_sub_cancel]
theorem MulSt.row {xs ys out : List Int} {i : Nat} (h : MulSt q xs ys i ys.length out) : MulSt q xs ys (i + 1) 0 out := by
  refine ⟨h.len, h.pl, ?_⟩
  rw [h.eq, sum_succ, sum_zero, CRing.add_zero, CRing.add_mul]
  congr 1
  conv => rhs; rw [eq_sum (toP_sh (q := q) ys)]
  rw [mul_sum]
  exact sum_congr fun s _ => by rw [mono_mul]; rfl
theorem MulSt.done {xs ys out : List Int} (h : MulSt q xs ys xs.length 0 out) : toP q out = toP q xs * toP q ys := by
  rw [h.eq, sum_zero, CRing.add_zero]
  conv => rhs; rw [eq_sum (toP_sh (q := q) xs)]
  rfl
end Cl
