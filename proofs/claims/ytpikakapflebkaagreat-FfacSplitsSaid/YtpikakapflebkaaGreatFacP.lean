/- A polynomial is the product of its factors. No program in sight. -/
import Derived.Test.YtpikakapflebkaaGreatPrsAll
namespace Cl
namespace Poly
variable {q : Prm}
/-- The product of the factors of a list, each as often as it is told. -/
def powF (L : List (Poly (Zp q) × Nat)) : Poly (Zp q) := L.foldl (fun P x => P * x.1 ^ x.2) 1
theorem powF_snoc (L : List (Poly (Zp q) × Nat)) (x : Poly (Zp q) × Nat) : powF (L ++ [x]) = powF L * x.1 ^ x.2 := by simp [powF, List.foldl_append]
theorem powF_nil : powF ([] : List (Poly (Zp q) × Nat)) = 1 := rfl
theorem powF_append (L : List (Poly (Zp q) × Nat)) : ∀ M : List (Poly (Zp q) × Nat), powF (L ++ M) = powF L * powF M :=
  list_snoc (by rw [powF_nil, List.append_nil, CRing.mul_one]) fun M x h => by rw [← List.append_assoc, powF_snoc, powF_snoc, h, CRing.mul_assoc]
theorem powF_mon : ∀ L : List (Poly (Zp q) × Nat), (∀ x ∈ L, x.1.Mon) → (powF L).Mon :=
  list_snoc (fun _ => one_mon) fun L x h hm => by
    rw [powF_snoc]
    exact (h fun y hy => hm y (List.mem_append_left _ hy)).mul ((hm x (List.mem_append_right _ (List.mem_singleton.2 rfl))).pow x.2)
theorem val_powF {f : Poly (Zp q)} (hf : f.Irr) : ∀ L : List (Poly (Zp q) × Nat), (∀ x ∈ L, x.1.Irr) → (L.map (·.1)).Pairwise (· ≠ ·) → (∀ n, (f, n) ∈ L → val f (powF L) = n) ∧ ((∀ n, (f, n) ∉ L) → val f (powF L) = 0) :=
  list_snoc (fun _ _ => ⟨fun n h => (by cases h), fun _ => (by rw [powF_nil, val_one hf])⟩) fun L x ih hi hp => by
    have hL : ∀ y ∈ L, y.1.Irr := fun y hy => hi y (List.mem_append_left _ hy)
    have hx : x.1.Irr := hi x (List.mem_append_right _ (List.mem_singleton.2 rfl))
    rw [List.map_append, List.pairwise_append] at hp
    obtain ⟨h1, h2⟩ := ih hL hp.1
    rw [powF_snoc, hf.val_mul (powF_mon L fun y hy => (hL y hy).mon).ne (pow_ne hx.ne _), hf.val_pow hx.ne, hf.val_irr hx]
    by_cases e : f = x.1
    · have hn : ∀ n, (f, n) ∉ L := fun n hm => hp.2.2 f (List.mem_map.2 ⟨_, hm, rfl⟩) x.1 (List.mem_singleton.2 rfl) e
      rw [if_pos e, h2 hn]
      refine ⟨fun n h => ?_, fun h => absurd (List.mem_append_right L (List.mem_singleton.2 (show (f, x.2) = x by rw [e]))) (h x.2)⟩
      rcases List.mem_append.1 h with h | h
      · exact absurd h (hn n)
      · have := List.mem_singleton.1 h
        rw [← this]; omega
    · rw [if_neg e]
      refine ⟨fun n h => ?_, fun h => by rw [h2 fun n hm => h n (List.mem_append_left _ hm)]; omega⟩
      rcases List.mem_append.1 h with h | h
      · rw [h1 n h]; omega
      · have := List.mem_singleton.1 h
        exact absurd (show f = x.1 by rw [← this]) e
/-- The factors' product is the polynomial made monic. -/
theorem IsFac.powF_monic {a : Poly (Zp q)} {L : List (Poly (Zp q) × Nat)} (ha : a ≠ 0) (h : IsFac a L) : powF L = a.monic :=
  (powF_mon L fun x hx => (h.irr hx).1.mon).eq_of_val (monic_mon ha) fun f hf => by
    obtain ⟨h1, h2⟩ := val_powF hf L (fun x hx => (h.irr hx).1) h.ne
    rw [hf.val_monic ha]
    by_cases hv : 1 ≤ val f a
    · exact h1 _ ((h.mem f (val f a)).2 ⟨hf, hv, rfl⟩)
    · rw [h2 fun n hm => hv (by have := (h.mem f n).1 hm; omega)]; omega
theorem IsFac.part_len {a : Poly (Zp q)} {L : List (Poly (Zp q) × Nat)} (ha : a ≠ 0) (h : IsFac a L) {i : Nat} (hi : i < L.length) {j : Nat} (hj : j ≤ (L[i]).2) : (C a.lc * (powF (L.take i) * (L[i]).1 ^ j)).len ≤ a.len := by
  rw [len_C_mul (lc_ne ha)]
  refine len_le_of_dvd ?_ ha
  have h1 : L = L.take i ++ (L[i] :: L.drop (i + 1)) := by
    rw [List.getElem_cons_drop, List.take_append_drop]
  have h2 : powF L = powF (L.take i) * (L[i]).1 ^ j * ((L[i]).1 ^ ((L[i]).2 - j) * powF (L.drop (i + 1))) := by
    conv => lhs; rw [h1, show L.take i ++ (L[i] :: L.drop (i + 1)) = (L.take i ++ [L[i]]) ++ L.drop (i + 1) by simp]
    rw [powF_append, powF_snoc]
    have e : (L[i]).1 ^ (L[i]).2 = (L[i]).1 ^ j * (L[i]).1 ^ ((L[i]).2 - j) := by rw [← CRing.pow_add, show j + ((L[i]).2 - j) = (L[i]).2 by omega]
    rw [e]
    simp only [CRing.mul_assoc]
  rw [h.powF_monic ha] at h2
  have h3 : powF (L.take i) * (L[i]).1 ^ j ∣ a.monic := ⟨_, h2⟩
  have h4 : a.monic ∣ a := ⟨C a.lc, by rw [CRing.mul_comm, C_lc_monic ha]⟩
  exact dvd_trans h3 h4
theorem take_succ_getF (L : List (Poly (Zp q) × Nat)) {i : Nat} (hi : i < L.length) : L.take (i + 1) = L.take i ++ [L[i]] := by simp
end Poly
/-- The top number of a monic polynomial. -/
theorem fromP_mon9 {q : Prm} {g : Poly (Zp q)} (h : g.Mon) : nth (fromP g) (g.len - 1) = 1 := by
  have h2 := q.pr.two
  have h1 : Zp.of q (nth (fromP g) (g.len - 1)) = Zp.of q 1 := by rw [fromP_top h.ne]; exact (show g.lc = 1 from h)
  have h3 := fromP_lt g (g.len - 1)
  exact (Zp.of_eq_iff.1 h1).eq_of_lt h3.1 h3.2 (by omega) (by omega)
end Cl
