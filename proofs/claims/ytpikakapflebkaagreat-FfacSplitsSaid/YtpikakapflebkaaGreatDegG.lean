/- What a step of ffac.Degrees parts off. No program in sight. -/
import Derived.Test.YtpikakapflebkaaGreatDegN
namespace Cl
namespace Poly
variable {q : Prm}
/-- The gcd of x^(p^n) - x with what has no factor of a degree below n: those of degree n. -/
theorem deg_gcd {m h : Poly (Zp q)} {n : Nat} (hm : m ≠ 0) (hn : 1 ≤ n) (hh : Eqm (pick (fun f => n + 1 ≤ f.len) m) h (X (Zp q) ^ q.p.toNat ^ n)) :
    gcdP (h - X (Zp q)) (pick (fun f => n + 1 ≤ f.len) m) = pick (fun f => f.len = n + 1) m := by
  have hL := pick_spec (fun f : Poly (Zp q) => n + 1 ≤ f.len) hm
  have hR := pick_spec (fun f : Poly (Zp q) => f.len = n + 1) hm
  have hg := gcd_is (h - X (Zp q)) (pick (fun f => n + 1 ≤ f.len) m)
  generalize pick (fun f : Poly (Zp q) => n + 1 ≤ f.len) m = L at *
  generalize gcdP (h - X (Zp q)) L = g at *
  have hgm : g.Mon := hg.mon_of (.inr hL.1.ne)
  refine hgm.eq_of_val hR.1 fun f hf => ?_
  have h1 := val_le_of_dvd hf hL.1.ne hg.r
  rw [hL.2 f hf] at h1
  rw [hR.2 f hf]
  have hiff : f ∣ g ↔ (1 ≤ val f m ∧ f.len = n + 1) := by
    constructor
    · intro hd
      have h2 : f ∣ L := dvd_trans hd hg.r
      have h3 := (hf.dvd_val hL.1.ne).1 h2
      rw [hL.2 f hf] at h3
      have h4 : 1 ≤ val f m ∧ n + 1 ≤ f.len := by
        by_cases hc : 1 ≤ val f m ∧ n + 1 ≤ f.len
        · exact hc
        · rw [if_neg hc] at h3; omega
      have h5 : Eqm f h (X (Zp q)) := dvd_trans hd hg.l
      have h6 : Eqm f h (X (Zp q) ^ q.p.toNat ^ n) := Eqm.of_dvd hh h2
      have h7 := hf.deg_le hn (h6.symm.trans h5)
      exact ⟨h4.1, by omega⟩
    · rintro ⟨h2, h3⟩
      have h4 : f ∣ L := (hf.dvd_val hL.1.ne).2 (by rw [hL.2 f hf, if_pos ⟨h2, by omega⟩]; omega)
      have h5 := hf.deg_dvd
      rw [show f.len - 1 = n by omega] at h5
      exact hg.top f ((Eqm.of_dvd hh h4).trans h5) h4
  rw [hf.dvd_val hgm.ne] at hiff
  by_cases hc : 1 ≤ val f m ∧ f.len = n + 1
  · rw [if_pos hc]
    have h2 := hiff.2 hc
    split at h1 <;> omega
  · rw [if_neg hc]
    have h2 : ¬ 1 ≤ val f g := fun h => hc (hiff.1 h)
    omega
/-- What is left then. -/
theorem deg_quo {m : Poly (Zp q)} {n : Nat} (hm : m ≠ 0) : pick (fun f : Poly (Zp q) => n + 1 ≤ f.len) m = pick (fun f => f.len = n + 1) m * pick (fun f => n + 2 ≤ f.len) m := by
  have hA := pick_spec (fun f : Poly (Zp q) => n + 1 ≤ f.len) hm
  have hB := pick_spec (fun f : Poly (Zp q) => f.len = n + 1) hm
  have hC := pick_spec (fun f : Poly (Zp q) => n + 2 ≤ f.len) hm
  refine hA.1.eq_of_val (hB.1.mul hC.1) fun f hf => ?_
  rw [hf.val_mul hB.1.ne hC.1.ne, hA.2 f hf, hB.2 f hf, hC.2 f hf]
  by_cases h1 : 1 ≤ val f m
  · by_cases h2 : f.len = n + 1
    · rw [if_pos ⟨h1, by omega⟩, if_pos ⟨h1, h2⟩, if_neg fun h => by omega]
    · by_cases h3 : n + 2 ≤ f.len
      · rw [if_pos ⟨h1, by omega⟩, if_neg fun h => h2 h.2, if_pos ⟨h1, h3⟩]
      · rw [if_neg fun h => by omega, if_neg fun h => h2 h.2, if_neg fun h => h3 h.2]
  · rw [if_neg fun h => h1 h.1, if_neg fun h => h1 h.1, if_neg fun h => h1 h.1]
end Poly
end Cl
