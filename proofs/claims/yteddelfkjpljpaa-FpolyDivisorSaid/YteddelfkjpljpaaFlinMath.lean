/- Plain facts on matrices of numbers: which may be. -/
import Derived.Test.YteddelfkjpljpaaFpMath
import Derived.Test.YteddelfkjpljpaaMem
namespace Cl

/-- Rows of at most 64 numbers, all as long as the first one. -/
def rowsOk (rows : List (List Int)) : Bool := rows.all (fun r => decide (r.length ≤ 64) && decide (r.length = (rAt rows 0).length))
/-- Is it a matrix over a field? -/
def matOk (rows : List (List Int)) (p : Int) : Bool := isPrime p && decide (rows.length ≤ 64) && rowsOk rows

theorem rowsOk_iff {rows : List (List Int)} : rowsOk rows = true ↔ ∀ i, i < rows.length → (rAt rows i).length ≤ 64 ∧ (rAt rows i).length = (rAt rows 0).length := by
  unfold rowsOk
  simp only [List.all_eq_true, Bool.and_eq_true, decide_eq_true_eq]
  constructor
  · intro h i hi; exact h _ (rAt_mem hi)
  · intro h r hr
    obtain ⟨i, hi, rfl⟩ := List.getElem_of_mem hr
    have := h i hi
    rwa [rAt_lt hi] at this
theorem matOk_iff {rows : List (List Int)} {p : Int} : matOk rows p = true ↔ isPrime p = true ∧ rows.length ≤ 64 ∧ ∀ i, i < rows.length → (rAt rows i).length ≤ 64 ∧ (rAt rows i).length = (rAt rows 0).length := by
  unfold matOk
  simp only [Bool.and_eq_true, decide_eq_true_eq, rowsOk_iff, and_assoc]
theorem matOk_no_prime {rows : List (List Int)} {p : Int} (h : isPrime p = false) : matOk rows p = false := by unfold matOk; rw [h]; rfl
theorem matOk_no_many {rows : List (List Int)} {p : Int} (h : 64 < rows.length) : matOk rows p = false := by
  rw [Bool.eq_false_iff]; intro h1; have := (matOk_iff.1 h1).2.1; omega
theorem matOk_no_row {rows : List (List Int)} {p : Int} {i : Nat} (hi : i < rows.length) (h : ¬ ((rAt rows i).length ≤ 64 ∧ (rAt rows i).length = (rAt rows 0).length)) : matOk rows p = false := by
  rw [Bool.eq_false_iff]; intro h1; exact h ((matOk_iff.1 h1).2.2 i hi)
/-- What a matrix is told as. -/
def matE (rows : List (List Int)) (p : Int) : Int := if matOk rows p then 0 else 1
theorem matE_no {rows : List (List Int)} {p : Int} (h : matOk rows p = false) : matE rows p = 1 := by unfold matE; rw [h]; rfl
theorem matE_yes {rows : List (List Int)} {p : Int} (h : matOk rows p = true) : matE rows p = 0 := by unfold matE; rw [h]; rfl

/-- The sum of products of the first k residues. -/
def dotTo (row v : List Int) (p : Int) : Nat → Int
  | 0 => 0
  | k + 1 => (dotTo row v p k + red (nth row k) p * red (nth v k) p) % p
theorem dotTo_succ (row v : List Int) (p : Int) (k : Nat) : dotTo row v p (k + 1) = (dotTo row v p k + red (nth row k) p * red (nth v k) p) % p := rfl
theorem dotTo_bd (row v : List Int) {p : Int} (hp : 1 ≤ p) (k : Nat) : 0 ≤ dotTo row v p k ∧ dotTo row v p k < p := by
  cases k with
  | zero => exact ⟨by show (0 : Int) ≤ 0; omega, by show (0 : Int) < p; omega⟩
  | succ k => exact emod_bd _ hp
/-- What a matrix makes of residues. -/
def applyM (rows : List (List Int)) (v : List Int) (p : Int) : List Int := tab rows.length (fun i => dotTo (rAt rows i) v p v.length)
/-- May it be applied? -/
def appOk (rows : List (List Int)) (v : List Int) (p : Int) : Bool := matOk rows p && (decide (rows.length = 0) || decide ((rAt rows 0).length = v.length))
theorem appOk_iff {rows : List (List Int)} {v : List Int} {p : Int} : appOk rows v p = true ↔ matOk rows p = true ∧ (rows.length = 0 ∨ (rAt rows 0).length = v.length) := by
  unfold appOk; simp only [Bool.and_eq_true, Bool.or_eq_true, decide_eq_true_eq]

/-- A row's rests. -/
def redRow (xs : List Int) (p : Int) : List Int := tab xs.length (fun i => red (nth xs i) p)
@[simp] theorem redRow_length (xs : List Int) (p : Int) : (redRow xs p).length = xs.length := tab_length _ _
theorem nth_redRow {xs : List Int} {p : Int} (i : Nat) : nth (redRow xs p) i = red (nth xs i) p := by
  unfold redRow
  rw [nth_tab]
  split
  · rfl
  · rw [nth_ge (by omega)]; unfold red; split <;> simp
theorem red_i64 (a : Int) {p : Int} (h1 : -9223372036854775808 ≤ p) (h2 : p ≤ 9223372036854775807) : I64 (red a p) := by
  have h3 := red_nonneg a p
  by_cases h : p < 1
  · unfold red; rw [if_pos h]; exact I64.zero
  · have := red_lt (a := a) (p := p) (by omega)
    exact ⟨by omega, by omega⟩

/-- A row less k times another one. -/
def lessRow (n : Nat) (xs ys : List Int) (k p : Int) : List Int := tab n (fun i => red (nth xs i - k * nth ys i) p)
@[simp] theorem lessRow_length (n : Nat) (xs ys : List Int) (k p : Int) : (lessRow n xs ys k p).length = n := tab_length _ _

/-- A row from which another one is taken away so often that it has nought in a column. -/
def strikeRow (own : List Int) (c : Nat) (p : Int) (row : List Int) : List Int := tab row.length (fun i => (nth row i + (p - nth row c) * nth own i) % p)
@[simp] theorem strikeRow_length (own : List Int) (c : Nat) (p : Int) (row : List Int) : (strikeRow own c p row).length = row.length := tab_length _ _
/-- All numbers are plain. -/
def Pl (p : Int) (row : List Int) : Prop := ∀ i, 0 ≤ nth row i ∧ nth row i < p
theorem Pl.of_tab {p : Int} {n : Nat} {f : Nat → Int} (hp : 1 ≤ p) (h : ∀ i, i < n → 0 ≤ f i ∧ f i < p) : Pl p (tab n f) := by
  intro i; rw [nth_tab]; split
  · exact h i (by assumption)
  · omega
theorem strikeRow_pl {own row : List Int} {c : Nat} {p : Int} (hp : 1 ≤ p) : Pl p (strikeRow own c p row) := Pl.of_tab hp (fun _ _ => emod_bd _ hp)
theorem redRow_pl (xs : List Int) {p : Int} (hp : 1 ≤ p) : Pl p (redRow xs p) := Pl.of_tab hp (fun _ _ => red_bd _ hp)
theorem Pl.i64 {p : Int} {row : List Int} (h : Pl p row) (hp : p ≤ 65521) (i : Nat) : I64 (nth row i) := by have := h i; exact I64.small this.1 (by omega)
/-- A row on the way of being struck: as far as k. -/
def strikeTo (own : List Int) (c : Nat) (p : Int) (row : List Int) (k : Nat) : List Int := tab row.length (fun i => if i < k then (nth row i + (p - nth row c) * nth own i) % p else nth row i)
@[simp] theorem strikeTo_length (own : List Int) (c : Nat) (p : Int) (row : List Int) (k : Nat) : (strikeTo own c p row k).length = row.length := tab_length _ _
theorem strikeTo_zero (own : List Int) (c : Nat) (p : Int) (row : List Int) : strikeTo own c p row 0 = row := by
  conv => rhs; rw [eq_tab row]
  exact tab_congr fun i _ => if_neg (by omega)
theorem strikeTo_full (own : List Int) (c : Nat) (p : Int) (row : List Int) : strikeTo own c p row row.length = strikeRow own c p row := tab_congr fun _i hi => if_pos hi
theorem strikeTo_set (own : List Int) (c : Nat) (p : Int) (row : List Int) {k : Nat} (hk : k < row.length) : (strikeTo own c p row k).set k ((nth row k + (p - nth row c) * nth own k) % p) = strikeTo own c p row (k + 1) := by
  unfold strikeTo
  rw [tab_set hk]
  refine tab_congr fun i _ => ?_
  by_cases e : i = k
  · subst e; rw [if_pos rfl, if_pos (by omega)]
  · rw [if_neg e]
    by_cases h : i < k
    · rw [if_pos h, if_pos (by omega)]
    · rw [if_neg h, if_neg (by omega)]
theorem nth_strikeTo (own : List Int) (c : Nat) (p : Int) (row : List Int) {k : Nat} : nth (strikeTo own c p row k) k = nth row k := by
  unfold strikeTo
  rw [nth_tab]
  split
  · rw [if_neg (by omega)]
  · rw [nth_ge (by omega)]

theorem Pl.small {p : Int} {row : List Int} (h : Pl p row) (hp : p ≤ 65521) (i : Nat) : 0 ≤ nth row i ∧ nth row i ≤ 65521 := by have := h i; omega
theorem leadI_of {xs : List Int} (h : leadN xs < xs.length) : leadI xs = leadN xs := by unfold leadI; rw [if_pos h]

end Cl
