/- Values and derivatives of lists of terms: they go by what stands at each place; sums and products. No program in sight. -/
import Derived.Test.YtjmbejodcloapaaMv17
namespace Cl
/-- What is the same for each place is the same for the sum. -/
theorem func_zero {n : Nat} (g : Plc → Int) : ∀ (k : Nat) (L : Mv), L.length ≤ k → LenM n L → (∀ p, p.length = n → coM L p = 0) → sumL (fun t : Trm => t.2 * g t.1) L = 0
  | _, [], _, _, _ => rfl
  | 0, t :: L, hk, _, _ => by simp at hk
  | k + 1, t :: L, hk, hl, h0 => by
    have split : ∀ M : Mv, sumL (fun s : Trm => s.2 * g s.1) M = sumL (fun s : Trm => s.2 * g s.1) (M.filter fun s => decide (s.1 = t.1)) + sumL (fun s : Trm => s.2 * g s.1) (M.filter fun s => !decide (s.1 = t.1)) := fun M => by
      induction M with
      | nil => rfl
      | cons a M ih =>
        by_cases e : a.1 = t.1
        · rw [List.filter_cons_of_pos (by simp [e]), List.filter_cons_of_neg (by simp [e])]
          show a.2 * g a.1 + sumL _ M = a.2 * g a.1 + sumL _ _ + _
          rw [ih]; omega
        · rw [List.filter_cons_of_neg (by simp [e]), List.filter_cons_of_pos (by simp [e])]
          show a.2 * g a.1 + sumL _ M = _ + (a.2 * g a.1 + sumL _ _)
          rw [ih]; omega
    have same : ∀ M : Mv, sumL (fun s : Trm => s.2 * g s.1) (M.filter fun s => decide (s.1 = t.1)) = coM M t.1 * g t.1 := fun M => by
      induction M with
      | nil => show 0 = 0 * _; rw [Int.zero_mul]
      | cons a M ih =>
        rw [coM_cons]
        by_cases e : a.1 = t.1
        · rw [List.filter_cons_of_pos (by simp [e]), if_pos e, Int.add_mul]
          show a.2 * g a.1 + sumL _ _ = _
          rw [ih, e]
        · rw [List.filter_cons_of_neg (by simp [e]), if_neg e, ih]; rw [Int.zero_add]
    have rest : ∀ (M : Mv) (p : Plc), coM (M.filter fun s => !decide (s.1 = t.1)) p = if p = t.1 then 0 else coM M p := fun M p => by
      induction M with
      | nil => show 0 = _; split <;> rfl
      | cons a M ih =>
        by_cases e : a.1 = t.1
        · rw [List.filter_cons_of_neg (by simp [e]), ih, coM_cons]
          by_cases ep : p = t.1
          · rw [if_pos ep, if_pos ep]
          · rw [if_neg ep, if_neg ep, if_neg (fun h => ep (h.symm.trans e))]; omega
        · rw [List.filter_cons_of_pos (by simp [e]), coM_cons, ih, coM_cons]
          by_cases ep : p = t.1
          · rw [if_pos ep, if_pos ep, if_neg (fun h => e (h.trans ep))]; rfl
          · rw [if_neg ep, if_neg ep]
    rw [split, same, h0 t.1 (hl t List.mem_cons_self), Int.zero_mul, Int.zero_add]
    refine func_zero g k _ ?_ (fun s hs => hl s (List.mem_filter.1 hs).1) fun p hp => ?_
    · have h1 : ((t :: L).filter fun s => !decide (s.1 = t.1)) = L.filter fun s => !decide (s.1 = t.1) := List.filter_cons_of_neg (by simp)
      rw [h1]
      have := List.length_filter_le (fun s : Trm => !decide (s.1 = t.1)) L
      simp at hk
      omega
    · rw [rest]
      split
      · rfl
      · exact h0 p hp
theorem func_eq {n : Nat} (g : Plc → Int) {L M : Mv} (hL : LenM n L) (hM : LenM n M) (h : EqM n L M) : sumL (fun t : Trm => t.2 * g t.1) L = sumL (fun t : Trm => t.2 * g t.1) M := by
  have h1 := func_zero (n := n) g _ (L ++ scaleM (-1) M) (Nat.le_refl _) (hL.append (hM.scale _)) fun p hp => by
    rw [coM_append, coM_scale, h p hp]; omega
  rw [sumL_append] at h1
  have h2 : sumL (fun t : Trm => t.2 * g t.1) (scaleM (-1) M) = -1 * sumL (fun t : Trm => t.2 * g t.1) M := by
    unfold scaleM
    rw [sumL_map, ← sumL_mul]
    exact sumL_congr fun t _ => Int.mul_assoc _ _ _
  rw [h2] at h1
  omega
/-- A map of terms that goes by the place. -/
def mapM (f : Plc → Plc) (g : Plc → Int) (L : Mv) : Mv := L.map fun t => (f t.1, t.2 * g t.1)
theorem mapM_append (f : Plc → Plc) (g : Plc → Int) (L M : Mv) : mapM f g (L ++ M) = mapM f g L ++ mapM f g M := List.map_append
theorem coM_map (f : Plc → Plc) (g : Plc → Int) (L : Mv) (p : Plc) : coM (mapM f g L) p = sumL (fun t : Trm => t.2 * (if f t.1 = p then g t.1 else 0)) L := by
  unfold coM mapM
  rw [sumL_map]
  refine sumL_congr fun t _ => ?_
  show (if f t.1 = p then t.2 * g t.1 else 0) = _
  split
  · rfl
  · rw [Int.mul_zero]
theorem mapM_eq {n : Nat} (f : Plc → Plc) (g : Plc → Int) {L M : Mv} (hL : LenM n L) (hM : LenM n M) (h : EqM n L M) : EqM n (mapM f g L) (mapM f g M) := fun p _ => by
  rw [coM_map, coM_map, func_eq (fun q => if f q = p then g q else 0) hL hM h]
theorem mapM_len {n : Nat} {f : Plc → Plc} {g : Plc → Int} {L : Mv} (h : LenM n L) (hf : ∀ p, p.length = n → (f p).length = n) : LenM n (mapM f g L) := fun t ht => by
  obtain ⟨s, hs, rfl⟩ := List.mem_map.1 ht
  exact hf _ (h s hs)
/-- What puts places and numbers together goes through products. -/
theorem mapM_mul {n : Nat} {f : Plc → Plc} {g : Plc → Int} {L M : Mv} (hL : LenM n L) (hM : LenM n M) (hLn : BdM 1000000 L) (hMn : BdM 1000000 M)
    (hf : ∀ a b : Plc, a.length = n → b.length = n → (∀ x ∈ a, 0 ≤ x ∧ x ≤ 1000000) → (∀ x ∈ b, 0 ≤ x ∧ x ≤ 1000000) → f (addP a b) = addP (f a) (f b) ∧ g (addP a b) = g a * g b) : mapM f g (mulM L M) = mulM (mapM f g L) (mapM f g M) := by
  unfold mapM mulM
  rw [List.map_flatMap, List.flatMap_map]
  refine flat_congr fun a ha => ?_
  rw [List.map_map, List.map_map]
  refine List.map_congr_left fun b hb => ?_
  obtain ⟨h1, h2⟩ := hf a.1 b.1 (hL a ha) (hM b hb) (hLn a ha) (hMn b hb)
  show (f (addP a.1 b.1), a.2 * b.2 * g (addP a.1 b.1)) = (addP (f a.1) (f b.1), a.2 * g a.1 * (b.2 * g b.1))
  rw [h1, h2]
  congr 1
  ac_rfl
end Cl
