/- A sorted list of irreducible polynomials whose product is the polynomial made monic is the list of its factors; a factor more, put in its place. No program in sight. -/
import Derived.Test.YtpikakapflebkaaGreatFacP
namespace Cl
namespace Poly
variable {q : Prm}
theorem IsFac.of_powF {a : Poly (Zp q)} {L : List (Poly (Zp q) × Nat)} (ha : a ≠ 0) (ho : L.Pairwise (fun x y => Bef x.1 y.1)) (hi : ∀ x ∈ L, x.1.Irr ∧ 1 ≤ x.2) (h : powF L = a.monic) : IsFac a L := by
  have hne : (L.map (·.1)).Pairwise (· ≠ ·) := List.pairwise_map.2 (ho.imp fun {x y} (hb : Bef x.1 y.1) (e : x.1 = y.1) => Bef.irrefl y.1 (by rw [e] at hb; exact hb))
  have hv : ∀ f : Poly (Zp q), f.Irr → (∀ n, (f, n) ∈ L → val f a = n) ∧ ((∀ n, (f, n) ∉ L) → val f a = 0) := fun f hf => by
    have h1 := val_powF hf L (fun x hx => (hi x hx).1) hne
    rw [h, hf.val_monic ha] at h1
    exact h1
  refine ⟨ho, fun f n => ⟨fun hm => ⟨(hi _ hm).1, (hi _ hm).2, (hv f (hi _ hm).1).1 n hm⟩, fun ⟨hf, h1, h2⟩ => ?_⟩⟩
  by_cases hm : ∃ m, (f, m) ∈ L
  · obtain ⟨m, hm⟩ := hm
    have h3 := (hv f hf).1 m hm
    have h4 : m = n := by omega
    rw [← h4]
    exact hm
  · have h3 := (hv f hf).2 fun m h => hm ⟨m, h⟩
    omega
theorem monic_mul_mon {b f : Poly (Zp q)} (hb : b ≠ 0) (hf : f.Mon) : (b * f).monic = b.monic * f :=
  (monic_mon (mul_ne hb hf.ne)).eq_of_val ((monic_mon hb).mul hf) fun g hg => by
    rw [hg.val_monic (mul_ne hb hf.ne), hg.val_mul hb hf.ne, hg.val_mul (monic_mon hb).ne hf.ne, hg.val_monic hb]
theorem IsFac.prod {a : Poly (Zp q)} {L : List (Poly (Zp q) × Nat)} (ha : a ≠ 0) (h : IsFac a L) : powF L = a.monic := h.powF_monic ha
/-- A factor that is there, once more. -/
theorem IsFac.put_same {b f : Poly (Zp q)} {L : List (Poly (Zp q) × Nat)} (hb : b ≠ 0) (h : IsFac b L) (hf : f.Irr) {k : Nat} (hk : k < L.length) (e : (L[k]).1 = f) : IsFac (b * f) (L.set k (f, (L[k]).2 + 1)) := by
  have h1 : L = L.take k ++ (L[k] :: L.drop (k + 1)) := by rw [List.getElem_cons_drop, List.take_append_drop]
  have h2 : L.set k (f, (L[k]).2 + 1) = L.take k ++ ((f, (L[k]).2 + 1) :: L.drop (k + 1)) := List.set_eq_take_append_cons_drop ▸ (by simp [hk])
  have hm : (L.set k (f, (L[k]).2 + 1)).map (·.1) = L.map (·.1) := by
    rw [List.map_set]
    show (L.map (·.1)).set k f = _
    rw [← e]
    refine List.ext_getElem (by simp) fun i h3 h4 => ?_
    rw [List.getElem_set]
    split
    · next e2 => subst e2; simp
    · rfl
  refine IsFac.of_powF (mul_ne hb hf.ne) ?_ ?_ ?_
  · have h3 : (L.map (·.1)).Pairwise Bef := List.pairwise_map.2 h.ord
    rw [← hm] at h3
    exact List.pairwise_map.1 h3
  · intro x hx
    rw [h2] at hx
    rcases List.mem_append.1 hx with hx | hx
    · have := h.irr (List.mem_of_mem_take hx); exact ⟨this.1, this.2.1⟩
    · rcases List.mem_cons.1 hx with rfl | hx
      · exact ⟨hf, by show 1 ≤ (L[k]).2 + 1; omega⟩
      · have := h.irr (List.mem_of_mem_drop hx); exact ⟨this.1, this.2.1⟩
  · rw [monic_mul_mon hb hf.mon, ← h.powF_monic hb, h2]
    have h4 : powF L = powF (L.take k) * (f ^ (L[k]).2 * powF (L.drop (k + 1))) := by
      conv => lhs; rw [h1, show L.take k ++ (L[k] :: L.drop (k + 1)) = (L.take k ++ [L[k]]) ++ L.drop (k + 1) by simp]
      rw [powF_append, powF_snoc, e, CRing.mul_assoc]
    rw [h4, show L.take k ++ ((f, (L[k]).2 + 1) :: L.drop (k + 1)) = (L.take k ++ [(f, (L[k]).2 + 1)]) ++ L.drop (k + 1) by simp, powF_append, powF_snoc]
    show powF (L.take k) * f ^ ((L[k]).2 + 1) * powF (L.drop (k + 1)) = _
    rw [CRing.pow_succ]
    simp only [CRing.mul_assoc]
    rw [CRing.mul_comm f (powF (L.drop (k + 1)))]
/-- A new factor, in its place. -/
theorem IsFac.put_new {b f : Poly (Zp q)} {L : List (Poly (Zp q) × Nat)} (hb : b ≠ 0) (h : IsFac b L) (hf : f.Irr) {k : Nat} (hk : k ≤ L.length) (hl : ∀ j (hj : j < L.length), j < k → Bef (L[j]).1 f) (hg : ∀ hk : k < L.length, Bef f (L[k]).1) : IsFac (b * f) (L.take k ++ ((f, 1) :: L.drop k)) := by
  refine IsFac.of_powF (mul_ne hb hf.ne) ?_ ?_ ?_
  · rw [List.pairwise_append, List.pairwise_cons]
    have hd : ∀ y ∈ L.drop k, Bef f y.1 := fun y hy => by
      obtain ⟨i, hi, rfl⟩ := List.mem_iff_getElem.1 hy
      rw [List.length_drop] at hi
      rw [List.getElem_drop]
      have hkl : k < L.length := by omega
      cases i with
      | zero => exact hg hkl
      | succ i => exact Bef.trans (hg hkl) (List.pairwise_iff_getElem.1 h.ord k (k + (i + 1)) hkl (by omega) (by omega))
    have ht : ∀ y ∈ L.take k, Bef y.1 f := fun y hy => by
      obtain ⟨i, hi, rfl⟩ := List.mem_iff_getElem.1 hy
      rw [List.length_take] at hi
      rw [List.getElem_take]
      exact hl i (by omega) (by omega)
    refine ⟨h.ord.sublist (List.take_sublist _ _), ⟨hd, h.ord.sublist (List.drop_sublist _ _)⟩, fun x hx y hy => ?_⟩
    rcases List.mem_cons.1 hy with rfl | hy
    · exact ht x hx
    · exact Bef.trans (ht x hx) (hd y hy)
  · intro x hx
    rcases List.mem_append.1 hx with hx | hx
    · have := h.irr (List.mem_of_mem_take hx); exact ⟨this.1, this.2.1⟩
    · rcases List.mem_cons.1 hx with rfl | hx
      · exact ⟨hf, Nat.le_refl _⟩
      · have := h.irr (List.mem_of_mem_drop hx); exact ⟨this.1, this.2.1⟩
  · rw [monic_mul_mon hb hf.mon, ← h.powF_monic hb]
    conv => rhs; rw [← List.take_append_drop k L, powF_append]
    rw [show L.take k ++ ((f, 1) :: L.drop k) = (L.take k ++ [(f, 1)]) ++ L.drop k by simp, powF_append, powF_snoc]
    show powF (L.take k) * f ^ 1 * powF (L.drop k) = _
    rw [CRing.pow_succ, CRing.pow_zero, CRing.one_mul, CRing.mul_assoc, CRing.mul_assoc, CRing.mul_comm f]
end Poly
end Cl
