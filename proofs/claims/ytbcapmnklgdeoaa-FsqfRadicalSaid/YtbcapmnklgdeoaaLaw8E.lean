/- Layer 8's laws: what the parts are to each other. -/
import Derived.Test.YtbcapmnklgdeoaaLaw8D
namespace Go.Proofs.Ytbcapmnklgdeoaa
open Go.RowKit Cl
attribute [local go_sem ↓] Go.wp_at_zero Go.wp_at_succ

section
variable {q : Prm}
theorem mon_top {g : Poly (Zp q)} (h : g.Mon) : nth (fromP g) (g.len - 1) = 1 := by
  rw [nth_fromP]
  have : g.co (g.len - 1) = 1 := h
  rw [this, ← Zp.of_one, Zp.val_of]
  exact Int.emod_eq_of_lt (by omega) (by have := q.pr.two; omega)
theorem lvl_rad {a : Poly (Zp q)} (ha : a ≠ 0) {k : Nat} (hk : 1 ≤ k) : Poly.lvl a k = Poly.rad (Poly.lvl a k) :=
  (Poly.lvl_mon ha k).eq_rad (Poly.lvl_mon ha k).ne fun f hf => by
    rw [Poly.val_lvl ha hk hf]
    by_cases h : Poly.val f a = k
    · rw [if_pos h]; rfl
    · rw [if_neg h]; rfl
theorem sq_gcd {m : Poly (Zp q)} (hm : m.Mon) (h : m = Poly.rad m) : Poly.gcdP m m.D = 1 := by
  have h1 := (sq_iff hm).2 h
  exact (((Poly.gcd_is m m.D).mon_of (.inl hm.ne)).len_one).1 h1
theorem sq_bool {m : Poly (Zp q)} (hm : m.Mon) (h : m = Poly.rad m) : (((Poly.gcdP m.monic m.monic.D).len : Int) == 1) = true := by
  rw [hm.monic_eq, sq_gcd hm h, Poly.len_one]; rfl
theorem lvl_apart {a : Poly (Zp q)} (ha : a ≠ 0) {i j : Nat} (hi : 1 ≤ i) (hj : 1 ≤ j) (h : i ≠ j) : Poly.gcdP (Poly.lvl a i) (Poly.lvl a j) = 1 := by
  have hg := Poly.gcd_is (Poly.lvl a i) (Poly.lvl a j)
  have hi' := Poly.lvl_mon ha i
  have hj' := Poly.lvl_mon ha j
  refine (hg.mon_of (.inl hi'.ne)).eq_one_of_val fun f hf => ?_
  rw [hg.val hi'.ne hj'.ne hf, Poly.val_lvl ha hi hf, Poly.val_lvl ha hj hf]
  split
  · next e => rw [if_neg (by omega)]; omega
  · omega
end
section
variable {A : Option Addr} {p : Int} {w : World} {hp : Pr p} {g : Poly (Zp ⟨p, hp⟩)}
theorem same_one (h : Ints w A g.len (fromP g)) (e : g = 1) (c : Nat) :
    Calls Try.prog 12 #[.slice A g.len c, .slice (some ⟨w.heap.size, 0, none⟩) 1 1] (w.alloc (.cells #[.int .i64 1] 3)) fun e w' => e = .returned (.bool true) ∧ Below w.heap.size w w' := by
  have h1 := one_ints hp w
  have hl := Poly.len_one (F := Zp ⟨p, hp⟩)
  subst e
  rw [hl] at h h1 ⊢
  refine (same06_true A _ 1 c 1 _ _ (h.alloc _) h1 (by omega)).mono ?_
  rintro e w' ⟨rfl, k, rfl⟩
  exact ⟨rfl, below_drewN ((Below.refl _ _).alloc (Nat.le_refl _) _) k⟩
end
end Go.Proofs.Ytbcapmnklgdeoaa
