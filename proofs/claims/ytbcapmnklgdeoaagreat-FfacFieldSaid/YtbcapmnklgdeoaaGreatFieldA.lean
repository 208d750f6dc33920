/- The product of x less each number: its factors, in order. -/
import Derived.Test.YtbcapmnklgdeoaaGreatPolyTop
namespace Cl
namespace Poly
variable {q : Prm}
/-- x plus a number. -/
def linP (q : Prm) (j : Nat) : Poly (Zp q) := toP q [(j : Int), 1]
theorem linP_lin (j : Nat) : linP q j = lin (-(Zp.of q (j : Int))) := Poly.ext fun i => by
  unfold linP
  rw [co_toP, co_lin]
  match i with
  | 0 => rw [if_neg (by omega), if_pos rfl, CRing.neg_neg]; rfl
  | 1 => rw [if_pos rfl]; rfl
  | i + 2 => rw [if_neg (by omega), if_neg (by omega), nth_ge (by simp)]; rfl
theorem linP_pl {j : Nat} (hj : (j : Int) < q.p) : IsPl q.p [(j : Int), 1] := by
  have h2 := q.pr.two
  refine ⟨fun i => ?_, fun _ => ?_⟩
  · match i with
    | 0 => show 0 ≤ (j : Int) ∧ (j : Int) < q.p; omega
    | 1 => show 0 ≤ (1 : Int) ∧ (1 : Int) < q.p; omega
    | i + 2 => rw [nth_ge (by simp)]; omega
  · show (1 : Int) ≠ 0; omega
theorem linP_from {j : Nat} (hj : (j : Int) < q.p) : fromP (linP q j) = [(j : Int), 1] := (linP_pl hj).eq_fromP
theorem linP_len {j : Nat} (hj : (j : Int) < q.p) : (linP q j).len = 2 := by rw [← fromP_length, linP_from hj]; rfl
theorem linP_irr (j : Nat) : (linP q j).Irr := by rw [linP_lin]; exact lin_irr _
theorem linP_bef {i j : Nat} (hi : (i : Int) < q.p) (hj : (j : Int) < q.p) (h : i < j) : Bef (linP q i) (linP q j) := by
  unfold Bef
  rw [linP_from hi, linP_from hj, cmpI_to (xs := [(i : Int), 1]) (ys := [(j : Int), 1]) rfl]
  show cmpTo _ _ 2 < 0
  rw [show cmpTo [(i : Int), 1] [(j : Int), 1] 2 = cmpTo [(i : Int), 1] [(j : Int), 1] 1 by
    show (if (1 : Int) < 1 then (-1 : Int) else if (1 : Int) < 1 then 1 else _) = _
    rw [if_neg (by omega), if_neg (by omega)]]
  rw [cmpTo_lt (show nth [(i : Int), 1] 0 < nth [(j : Int), 1] 0 by show (i : Int) < (j : Int); omega)]
  omega
theorem lin_val (c : Zp q) : val (lin c) (allLin q q.p.toNat) = 1 := by
  have h2 := q.pr.two
  have h1 := (val_allLin (q := q) (n := q.p.toNat) (by omega) (lin_irr c)).1
  have h3 : lin c ∣ (X (Zp q)) ^ q.p.toNat - X (Zp q) := by
    rw [lin_dvd, ev_sub hom_id, ev_pow hom_id, ev_X hom_id, Zp.pow_p, CRing.sub_self]
  rw [X_pow_p] at h3
  have := ((lin_irr c).dvd_val (allLin_mon _).ne).1 h3
  omega
/-- Those are all the factors. -/
theorem isFac_allLin : IsFac (allLin q q.p.toNat) ((List.range q.p.toNat).map fun j => (linP q j, 1)) := by
  have h2 := q.pr.two
  refine ⟨List.pairwise_map.2 ?_, fun f n => ?_⟩
  · rw [List.pairwise_iff_getElem]
    intro i j hi hj hij
    rw [List.length_range] at hi hj
    rw [List.getElem_range, List.getElem_range]
    exact linP_bef (by omega) (by omega) hij
  · rw [List.mem_map]
    constructor
    · rintro ⟨j, hj, e⟩
      cases e
      exact ⟨linP_irr j, Nat.le_refl _, by rw [linP_lin]; exact lin_val _⟩
    · rintro ⟨hf, h1, hv⟩
      obtain ⟨h3, h4⟩ := val_allLin (q := q) (n := q.p.toNat) (by omega) hf
      obtain ⟨i, hi, rfl⟩ := h4 (by omega)
      obtain rfl : n = 1 := by omega
      obtain ⟨c, hc⟩ : ∃ c : Zp q, c = -(Zp.of q (i : Int)) := ⟨_, rfl⟩
      refine ⟨c.val.toNat, List.mem_range.2 (by have := c.lo; have := c.hi; omega), ?_⟩
      have e : Zp.of q (c.val.toNat : Int) = c := by
        rw [Int.toNat_of_nonneg c.lo, Zp.of_val]
      rw [linP_lin, e, hc, CRing.neg_neg]
/-- The list of numbers that is x to the p-th power less x. -/
def fieldRow (k : Nat) : List Int := ((List.replicate (k + 1) 0).set 1 (-1)).set k 1
theorem fieldRow_length (k : Nat) : (fieldRow k).length = k + 1 := by unfold fieldRow; simp
theorem toP_fieldRow {k : Nat} (hk : q.p = (k : Int)) : toP q (fieldRow k) = allLin q q.p.toNat := by
  have h2 := q.pr.two
  rw [← X_pow_p]
  refine Poly.ext fun i => ?_
  rw [co_toP, X_pow, co_sub]
  show Zp.of q (nth (fieldRow k) i) = (if i = q.p.toNat then 1 else 0) - (if i = 1 then 1 else 0)
  have hk2 : q.p.toNat = k := by omega
  have h3 : 2 ≤ k := by omega
  rw [hk2]
  have hz : ∀ i, nth (List.replicate (k + 1) (0 : Int)) i = 0 := fun i => by
    unfold nth
    by_cases h : i < k + 1
    · simp [List.getD, h]
    · simp [List.getD, h]
  unfold fieldRow
  rw [nth_set (by simp), nth_set (by simp; omega), hz]
  by_cases e1 : i = k
  · rw [if_pos e1, if_pos e1, if_neg (by omega), CRing.sub_zero]; rfl
  · rw [if_neg e1, if_neg e1]
    by_cases e2 : i = 1
    · rw [if_pos e2, if_pos e2, CRing.zero_sub, Zp.of_neg]; rfl
    · rw [if_neg e2, if_neg e2, CRing.sub_self]; rfl
theorem fieldRow_i64 (k : Nat) : ∀ i, I64 (nth (fieldRow k) i) := fun i => by
  have hz : ∀ i, nth (List.replicate (k + 1) (0 : Int)) i = 0 := fun i => by
    unfold nth
    by_cases h : i < k + 1
    · simp [List.getD, h]
    · simp [List.getD, h]
  have h1 : I64 (-1) := ⟨by omega, by omega⟩
  unfold fieldRow
  by_cases hk : 1 < k + 1
  · rw [nth_set (by simp), nth_set (by simp; omega), hz]
    split
    · exact I64.small (by omega) (by omega)
    · split
      · exact h1
      · exact I64.zero
  · obtain rfl : k = 0 := by omega
    match i with
    | 0 => exact I64.small (show 0 ≤ (1 : Int) by omega) (show (1 : Int) ≤ _ by omega)
    | i + 1 => rw [nth_ge (by simp)]; exact I64.zero
/-- What those factors are, one by one. -/
theorem linL_get {k i : Nat} (h : i < ((List.range k).map fun j => (linP q j, 1)).length) : ((List.range k).map fun j => (linP q j, 1))[i] = (linP q i, 1) := by
  rw [List.getElem_map, List.getElem_range]
end Poly
end Cl
