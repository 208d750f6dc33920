/- Plain facts on levels: how a polynomial, a power, a product are made of them. No program in sight. -/
import Derived.Test.YtbcapmnklgdeoaaSqfN
namespace Cl
namespace Poly
section
variable {F : Type} [CField F]
/-- The product of the levels of a list of numbers, each as often as it is told. -/
noncomputable def powL (a : Poly F) (l : List Nat) : Poly F := l.foldl (fun P k => P * lvl a k ^ k) 1
theorem powL_snoc (a : Poly F) (l : List Nat) (k : Nat) : powL a (l ++ [k]) = powL a l * lvl a k ^ k := by simp [powL, List.foldl_append]
theorem powL_mon {a : Poly F} (ha : a ≠ 0) : ∀ l : List Nat, (powL a l).Mon :=
  list_snoc one_mon fun l k h => by rw [powL_snoc]; exact h.mul ((lvl_mon ha k).pow k)
theorem val_powL {a : Poly F} (ha : a ≠ 0) {f : Poly F} (hf : f.Irr) : ∀ l : List Nat, l.Pairwise (· < ·) → (∀ k ∈ l, 1 ≤ k) → val f (powL a l) = if val f a ∈ l then val f a else 0 :=
  list_snoc (fun _ _ => by simp [powL, val_one hf]) fun l k ih hp h1 => by
    rw [List.pairwise_append] at hp
    have hk := lvl_mon ha k
    rw [powL_snoc, hf.val_mul (powL_mon ha l).ne (hk.pow k).ne, hf.val_pow hk.ne, ih hp.1 fun j hj => h1 j (List.mem_append_left _ hj), val_lvl ha (h1 k (List.mem_append_right _ (List.mem_singleton.2 rfl))) hf]
    by_cases e : val f a = k
    · have hn : ¬ val f a ∈ l := fun hm => by have := hp.2.2 _ hm k (List.mem_singleton.2 rfl); omega
      rw [if_neg hn, if_pos e, if_pos (List.mem_append_right _ (List.mem_singleton.2 e)), e]; omega
    · rw [if_neg e]
      by_cases hm : val f a ∈ l
      · rw [if_pos hm, if_pos (List.mem_append_left _ hm)]; omega
      · rw [if_neg hm, if_neg fun h => (List.mem_append.1 h).elim hm fun h2 => e (List.mem_singleton.1 h2)]; omega
theorem powL_monic {a : Poly F} (ha : a ≠ 0) : powL a (lvls a) = a.monic :=
  (powL_mon ha _).eq_of_val (monic_mon ha) fun f hf => by
    rw [val_powL ha hf _ (lvls_rising a) fun k hk => ((mem_lvls ha).1 hk).1, hf.val_monic ha]
    by_cases h : 1 ≤ val f a
    · rw [if_pos ((mem_lvls ha).2 ⟨h, fun e => (lvl_one_iff ha h).1 e f hf rfl⟩)]
    · split <;> omega
/-- Under way: the levels so far, the next one j times. -/
theorem powL_len {a : Poly F} (ha : a ≠ 0) {i : Nat} (hi : i < (lvls a).length) {j : Nat} (hj : j ≤ (lvls a)[i]) : (C a.lc * (powL a ((lvls a).take i) * lvl a ((lvls a)[i]) ^ j)).len ≤ a.len := by
  rw [len_C_mul (lc_ne ha)]
  have hk := (mem_lvls ha).1 (List.getElem_mem hi)
  have hm := (lvl_mon ha ((lvls a)[i])).pow j
  refine len_of_val ha ((powL_mon ha _).mul hm).ne fun f hf => ?_
  rw [hf.val_mul (powL_mon ha _).ne hm.ne, hf.val_pow (lvl_mon ha _).ne, val_lvl ha hk.1 hf, val_powL ha hf _ ((lvls_rising a).sublist (List.take_sublist _ _)) fun _ h => ((mem_lvls ha).1 (List.mem_of_mem_take h)).1]
  by_cases e : val f a = (lvls a)[i]
  · have hn : ¬ val f a ∈ (lvls a).take i := fun hm => by
      obtain ⟨t, ht, e2⟩ := List.getElem_of_mem hm
      rw [List.getElem_take] at e2
      rw [List.length_take] at ht
      have := List.pairwise_iff_getElem.1 (lvls_rising a) t i (by omega) hi (by omega)
      omega
    rw [if_neg hn, if_pos e]; omega
  · rw [if_neg e]
    split <;> omega
theorem powL_take_len {a : Poly F} (ha : a ≠ 0) (i : Nat) : (C a.lc * powL a ((lvls a).take i)).len ≤ a.len := by
  rw [len_C_mul (lc_ne ha)]
  refine len_of_val ha (powL_mon ha _).ne fun f hf => ?_
  rw [val_powL ha hf _ ((lvls_rising a).sublist (List.take_sublist _ _)) fun _ h => ((mem_lvls ha).1 (List.mem_of_mem_take h)).1]
  split <;> omega
/-- A power's levels. -/
theorem lvl_pow {a : Poly F} (ha : a ≠ 0) {k j : Nat} (hk : 1 ≤ k) (hj : 1 ≤ j) : lvl (a ^ k) (k * j) = lvl a j :=
  ((lvl_mon ha j).eq_lvl (pow_ne ha k) (Nat.mul_pos hk hj) fun f hf => by
    rw [val_lvl ha hj hf, hf.val_pow ha]
    by_cases e : val f a = j
    · rw [if_pos e, if_pos (by rw [e])]
    · rw [if_neg e, if_neg fun h => e (Nat.eq_of_mul_eq_mul_left hk h)]).symm
theorem lvls_pow {a : Poly F} (ha : a ≠ 0) {k : Nat} (hk : 1 ≤ k) : lvls (a ^ k) = (lvls a).map (k * ·) := by
  refine rising_ext (lvls_rising _) ?_ fun m => ?_
  · rw [List.pairwise_map]
    exact (lvls_rising a).imp fun h => Nat.mul_lt_mul_of_pos_left h hk
  · rw [mem_lvls (pow_ne ha k), List.mem_map]
    constructor
    · rintro ⟨h1, h2⟩
      obtain ⟨f, hf, hv⟩ := (lvl_mon (pow_ne ha k) m).exists_irr_of_ne h2
      rw [val_lvl (pow_ne ha k) h1 hf, hf.val_pow ha] at hv
      have e : k * val f a = m := by
        split at hv
        · next e => exact e
        · omega
      have hp : 1 ≤ val f a := by
        rcases Nat.eq_zero_or_pos (val f a) with h | h
        · rw [h, Nat.mul_zero] at e; omega
        · exact h
      exact ⟨val f a, (mem_lvls ha).2 ⟨hp, fun e2 => (lvl_one_iff ha hp).1 e2 f hf rfl⟩, e⟩
    · rintro ⟨j, hj, rfl⟩
      obtain ⟨h1, h2⟩ := (mem_lvls ha).1 hj
      exact ⟨Nat.mul_pos hk h1, by rw [lvl_pow ha hk h1]; exact h2⟩
theorem rad_pow {a : Poly F} (ha : a ≠ 0) {k : Nat} (hk : 1 ≤ k) : rad (a ^ k) = rad a :=
  rad_congr (pow_ne ha k) ha fun f hf => by
    rw [hf.val_pow ha]
    constructor
    · intro h
      rcases Nat.eq_zero_or_pos (val f a) with e | e
      · rw [e, Nat.mul_zero] at h; omega
      · exact e
    · intro h; exact Nat.mul_pos hk h
theorem rad_rad {a : Poly F} (ha : a ≠ 0) : rad a = rad (rad a) :=
  (rad_mon ha).eq_rad (rad_mon ha).ne fun f hf => by
    rw [val_rad ha hf]
    by_cases h : 1 ≤ val f a
    · rw [if_pos h]; rfl
    · rw [if_neg h]; rfl
/-- The polynomial divides a power of its radical. -/
theorem dvd_rad_pow {a : Poly F} (ha : a ≠ 0) {n : Nat} (h : a.len ≤ n) : a ∣ rad a ^ n := by
  have hr := rad_mon ha
  refine dvd_of_val ha (hr.pow n).ne fun f hf => ?_
  rw [hf.val_pow hr.ne, val_rad ha hf]
  have := val_lt ha hf
  split
  · omega
  · omega
theorem rad_mul {a b : Poly F} (ha : a ≠ 0) (hb : b ≠ 0) : quo (rad a * rad b) (gcdP (rad a) (rad b)) = rad (a * b) := by
  have hr := rad_mon ha
  have hs := rad_mon hb
  have hg := gcd_is (rad a) (rad b)
  have hgm := hg.mon_of (.inl hr.ne)
  have hd : gcdP (rad a) (rad b) ∣ rad a * rad b := dvd_of_val hgm.ne (hr.mul hs).ne fun f hf => by
    rw [hg.val hr.ne hs.ne hf, hf.val_mul hr.ne hs.ne]; omega
  refine (quo_mon (hr.mul hs) hgm hd).eq_rad (mul_ne ha hb) fun f hf => ?_
  rw [val_quo hf (hr.mul hs).ne hgm.ne hd, hg.val hr.ne hs.ne hf, hf.val_mul hr.ne hs.ne, hf.val_mul ha hb, val_rad ha hf, val_rad hb hf]
  by_cases h1 : 1 ≤ val f a
  · rw [if_pos h1]
    by_cases h2 : 1 ≤ val f b
    · rw [if_pos h2, if_pos (by omega)]; rfl
    · rw [if_neg h2, if_pos (by omega)]; rfl
  · rw [if_neg h1]
    by_cases h2 : 1 ≤ val f b
    · rw [if_pos h2, if_pos (by omega)]; rfl
    · rw [if_neg h2, if_neg (by omega)]; rfl
end
end Poly
end Cl
