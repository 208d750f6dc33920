/- The factors of a degree, multiplied. No program in sight. -/
import Derived.Test.YtpikakapflebkaaGreatDegN
import Derived.Test.YtpikakapflebkaaGreatFacP
namespace Cl
namespace Poly
variable {q : Prm}
theorem filt_pick {a : Poly (Zp q)} {L : List (Poly (Zp q) × Nat)} (ha : a ≠ 0) (h : IsFac a L) (h1 : ∀ x ∈ L, x.2 = 1) (n : Nat) : powF (L.filter fun x => decide (x.1.len = n + 1)) = pick (fun f => f.len = n + 1) a := by
  have hP := pick_spec (fun f : Poly (Zp q) => f.len = n + 1) ha
  have hsub : ∀ x ∈ L.filter (fun x => decide (x.1.len = n + 1)), x ∈ L := fun x hx => (List.mem_filter.1 hx).1
  refine (powF_mon _ fun x hx => (h.irr (hsub x hx)).1.mon).eq_of_val hP.1 fun f hf => ?_
  have hne : ((L.filter fun x => decide (x.1.len = n + 1)).map (·.1)).Pairwise (· ≠ ·) := h.ne.sublist (List.filter_sublist.map _)
  obtain ⟨h2, h3⟩ := val_powF hf _ (fun x hx => (h.irr (hsub x hx)).1) hne
  rw [hP.2 f hf]
  by_cases hc : 1 ≤ val f a ∧ f.len = n + 1
  · rw [if_pos hc]
    have hm : (f, val f a) ∈ L := (h.mem f _).2 ⟨hf, hc.1, rfl⟩
    have hv : val f a = 1 := h1 _ hm
    rw [hv] at hm
    exact h2 1 (List.mem_filter.2 ⟨hm, by simp [hc.2]⟩)
  · rw [if_neg hc]
    refine h3 fun m hm => hc ?_
    obtain ⟨hm1, hm2⟩ := List.mem_filter.1 hm
    have := (h.mem f m).1 hm1
    exact ⟨by omega, by simpa using hm2⟩
end Poly
end Cl
