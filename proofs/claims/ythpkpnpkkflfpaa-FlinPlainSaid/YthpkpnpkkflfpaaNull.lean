/- Plain facts: what plain rows make nought, as the program and the document make it. -/
import Derived.Test.YthpkpnpkkflfpaaFlinMath
import Derived.Test.YthpkpnpkkflfpaaSpanRef
namespace Cl

/-- Rows of n plain numbers, none of them nought. -/
def Plains (e : List (List Int)) (n : Nat) (p : Int) : Prop := ∀ i, i < e.length → (rAt e i).length = n ∧ leadN (rAt e i) < n ∧ Pl p (rAt e i)
/-- A vector on the way: k rows have told. -/
def putTo (e : List (List Int)) (n : Nat) (p : Int) (c : Nat) : Nat → List Int
  | 0 => (List.replicate n 0).set c 1
  | k + 1 => (putTo e n p c k).set (leadN (rAt e k)) (red (-(nth (rAt e k) c)) p)
/-- The same, but a row that leads at c tells nothing. -/
def putTo' (e : List (List Int)) (n : Nat) (p : Int) (c : Nat) : Nat → List Int
  | 0 => (List.replicate n 0).set c 1
  | k + 1 => if leadN (rAt e k) = c then putTo' e n p c k else (putTo' e n p c k).set (leadN (rAt e k)) (red (-(nth (rAt e k) c)) p)
theorem putTo'_zero (e : List (List Int)) (n : Nat) (p : Int) (c : Nat) : putTo' e n p c 0 = (List.replicate n 0).set c 1 := by unfold putTo'; rfl
theorem putTo'_hit {e : List (List Int)} {n : Nat} {p : Int} {c k : Nat} (h : leadN (rAt e k) = c) : putTo' e n p c (k + 1) = putTo' e n p c k := by
  conv => lhs; unfold putTo'
  rw [if_pos h]
theorem putTo'_miss {e : List (List Int)} {n : Nat} {p : Int} {c k : Nat} (h : leadN (rAt e k) ≠ c) : putTo' e n p c (k + 1) = (putTo' e n p c k).set (leadN (rAt e k)) (red (-(nth (rAt e k) c)) p) := by
  conv => lhs; unfold putTo'
  rw [if_neg h]
@[simp] theorem putTo_length (e : List (List Int)) (n : Nat) (p : Int) (c k : Nat) : (putTo e n p c k).length = n := by
  induction k with
  | zero => simp [putTo]
  | succ k ih => simp [putTo, ih]
@[simp] theorem putTo'_length (e : List (List Int)) (n : Nat) (p : Int) (c k : Nat) : (putTo' e n p c k).length = n := by
  induction k with
  | zero => simp [putTo']
  | succ k ih => unfold putTo'; split <;> simp [ih]
/-- No one of the first k rows leads at c. -/
def freeTo (e : List (List Int)) (c k : Nat) : Bool := (List.range k).all fun i => leadN (rAt e i) != c
theorem freeTo_iff {e : List (List Int)} {c k : Nat} : freeTo e c k = true ↔ ∀ i, i < k → leadN (rAt e i) ≠ c := by
  unfold freeTo
  simp [List.all_eq_true, List.mem_range]
theorem freeTo_zero (e : List (List Int)) (c : Nat) : freeTo e c 0 = true := rfl
theorem freeTo_hit {e : List (List Int)} {c k : Nat} (h : leadN (rAt e k) = c) : freeTo e c (k + 1) = false := by
  apply Bool.eq_false_iff.2; intro h'; exact freeTo_iff.1 h' k (by omega) h
theorem freeTo_miss {e : List (List Int)} {c k : Nat} (h : leadN (rAt e k) ≠ c) : freeTo e c (k + 1) = freeTo e c k := by
  apply Bool.eq_iff_iff.2
  rw [freeTo_iff, freeTo_iff]
  constructor
  · intro h' i hi; exact h' i (by omega)
  · intro h' i hi
    by_cases e : i = k
    · exact e ▸ h
    · exact h' i (by omega)
theorem putTo_free {e : List (List Int)} {n : Nat} {p : Int} {c k : Nat} (h : freeTo e c k = true) : putTo' e n p c k = putTo e n p c k := by
  induction k with
  | zero => rfl
  | succ k ih =>
    have h' := freeTo_iff.1 h
    unfold putTo' putTo
    rw [if_neg (h' k (by omega)), ih (freeTo_iff.2 fun i hi => h' i (by omega))]
theorem put_small {n : Nat} {p : Int} {xs : List Int} {i : Nat} {v : Int} (hx : Pl p xs) (hv : 0 ≤ v ∧ v < p) : Pl p (xs.set i v) := by
  intro j
  by_cases hi : i < xs.length
  · rw [nth_set hi]; split
    · exact hv
    · exact hx j
  · rw [List.set_eq_of_length_le (by omega)]; exact hx j
theorem zeros_pl {n : Nat} {p : Int} (hp : 2 ≤ p) : Pl p (List.replicate n 0) := by
  rw [← fillTo_zero n (fun _ => 0)]
  exact Pl.of_tab (by omega) fun i hi => by simp; omega
theorem putTo_pl {e : List (List Int)} {n : Nat} {p : Int} {c k : Nat} (hp : 2 ≤ p) : Pl p (putTo e n p c k) := by
  induction k with
  | zero => exact put_small (n := n) (zeros_pl hp) (by omega)
  | succ k ih => exact put_small (n := n) ih (red_bd _ (by omega))
theorem putTo'_pl {e : List (List Int)} {n : Nat} {p : Int} {c k : Nat} (hp : 2 ≤ p) : Pl p (putTo' e n p c k) := by
  induction k with
  | zero => exact put_small (n := n) (zeros_pl hp) (by omega)
  | succ k ih =>
    unfold putTo'; split
    · exact ih
    · exact put_small (n := n) ih (red_bd _ (by omega))

/-- The vectors that the first c columns bear. -/
def nullTo (e : List (List Int)) (n : Nat) (p : Int) (c : Nat) : List (List Int) := ((List.range c).filter (fun i => freeTo e i e.length)).map (fun i => putTo e n p i e.length)
theorem nullTo_zero (e : List (List Int)) (n : Nat) (p : Int) : nullTo e n p 0 = [] := rfl
theorem nullTo_free {e : List (List Int)} {n : Nat} {p : Int} {c : Nat} (h : freeTo e c e.length = true) : nullTo e n p (c + 1) = nullTo e n p c ++ [putTo e n p c e.length] := by
  unfold nullTo; simp [List.range_succ, List.filter_append, h]
theorem nullTo_held {e : List (List Int)} {n : Nat} {p : Int} {c : Nat} (h : freeTo e c e.length = false) : nullTo e n p (c + 1) = nullTo e n p c := by
  unfold nullTo; simp [List.range_succ, List.filter_append, h]
theorem nullTo_len (e : List (List Int)) (n : Nat) (p : Int) (c : Nat) : (nullTo e n p c).length ≤ c := by
  unfold nullTo; rw [List.length_map]; exact Nat.le_trans (List.length_filter_le _ _) (by simp)
theorem nullTo_row {e : List (List Int)} {n : Nat} {p : Int} {c i : Nat} (h : i < (nullTo e n p c).length) : ∃ q, q < c ∧ freeTo e q e.length = true ∧ rAt (nullTo e n p c) i = putTo e n p q e.length := by
  have := rAt_mem h
  unfold nullTo at this ⊢
  simp only [List.mem_map, List.mem_filter, List.mem_range] at this
  obtain ⟨q, ⟨h1, h2⟩, h3⟩ := this
  exact ⟨q, h1, h2, h3.symm⟩

theorem nullTo_prefix (e : List (List Int)) (n : Nat) (p : Int) (c d : Nat) : ∃ t, nullTo e n p (c + d) = nullTo e n p c ++ t := by
  induction d with
  | zero => exact ⟨[], by simp⟩
  | succ d ih =>
    obtain ⟨t, ht⟩ := ih
    cases h : freeTo e (c + d) e.length with
    | true => exact ⟨t ++ [putTo e n p (c + d) e.length], by rw [← Nat.add_assoc, nullTo_free h, ht, List.append_assoc]⟩
    | false => exact ⟨t, by rw [← Nat.add_assoc, nullTo_held h, ht]⟩
theorem nullTo_at {e : List (List Int)} {n : Nat} {p : Int} {c N : Nat} (hc : c < N) (h : freeTo e c e.length = true) : rAt (nullTo e n p N) (nullTo e n p c).length = putTo e n p c e.length := by
  obtain ⟨d, rfl⟩ : ∃ d, N = (c + 1) + d := ⟨N - (c + 1), by omega⟩
  obtain ⟨t, ht⟩ := nullTo_prefix e n p (c + 1) d
  rw [ht, nullTo_free h]
  unfold rAt
  simp [List.getD]
theorem rowsTab_rAt (l : List (List Int)) : rowsTab l.length (rAt l) = l := by
  refine rows_ext (by rw [rowsTab_length]) fun i hi => ?_
  rw [rowsTab_length] at hi
  rw [rAt_rowsTab, if_pos hi]

/-- May it be asked what the matrix makes nought? -/
def nullOk (rows : List (List Int)) (n p : Int) : Bool := matOk rows p && (decide (0 ≤ n) && decide (n ≤ 64) && (decide (rows.length = 0) || decide (((rAt rows 0).length : Int) = n)))
theorem nullOk_iff {rows : List (List Int)} {n p : Int} : nullOk rows n p = true ↔ matOk rows p = true ∧ 0 ≤ n ∧ n ≤ 64 ∧ (rows.length = 0 ∨ ((rAt rows 0).length : Int) = n) := by
  unfold nullOk; simp only [Bool.and_eq_true, Bool.or_eq_true, decide_eq_true_eq, and_assoc]

end Cl
