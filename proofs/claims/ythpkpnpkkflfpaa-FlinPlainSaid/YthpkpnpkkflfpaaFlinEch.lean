/- What the program makes of a matrix, as a function on lists: column by column. No program in sight. -/
import Derived.Test.YthpkpnpkkflfpaaFlinMath
namespace Cl

/-- The list of f's first m rows. -/
def rowsTab (m : Nat) (f : Nat → List Int) : List (List Int) := (List.range m).map f
@[simp] theorem rowsTab_length (m : Nat) (f : Nat → List Int) : (rowsTab m f).length = m := by simp [rowsTab]
theorem rAt_rowsTab (m : Nat) (f : Nat → List Int) (i : Nat) : rAt (rowsTab m f) i = if i < m then f i else [] := by
  unfold rAt rowsTab
  by_cases h : i < m <;> simp [List.getD, h]
theorem rowsTab_congr {m : Nat} {f g : Nat → List Int} (h : ∀ i, i < m → f i = g i) : rowsTab m f = rowsTab m g := by
  refine rows_ext (by rw [rowsTab_length, rowsTab_length]) fun i hi => ?_
  rw [rowsTab_length] at hi
  rw [rAt_rowsTab, rAt_rowsTab, if_pos hi, if_pos hi, h i hi]
theorem eq_rowsTab (rows : List (List Int)) : rows = rowsTab rows.length (rAt rows) := by
  refine rows_ext (by rw [rowsTab_length]) fun i hi => ?_
  rw [rAt_rowsTab, if_pos hi]
theorem rowsTab_take {m n : Nat} (h : n ≤ m) (f : Nat → List Int) : (rowsTab m f).take n = rowsTab n f := by
  refine rows_ext (by rw [List.length_take, rowsTab_length, rowsTab_length]; omega) fun i hi => ?_
  have hin : i < n := by rw [List.length_take] at hi; omega
  rw [rAt_rowsTab, if_pos hin]
  unfold rAt rowsTab
  simp [List.getD, hin, show i < m by omega]

/-- Two rows changed about. -/
def swapR (R : Nat → List Int) (a b : Nat) : Nat → List Int := fun i => if i = a then R b else if i = b then R a else R i
/-- A row times a residue. -/
def scaleRow (x p : Int) (row : List Int) : List Int := tab row.length (fun i => nth row i * x % p)
@[simp] theorem scaleRow_length (x p : Int) (row : List Int) : (scaleRow x p row).length = row.length := tab_length _ _
theorem scaleRow_pl (x : Int) {p : Int} (hp : 1 ≤ p) (row : List Int) : Pl p (scaleRow x p row) := Pl.of_tab hp (fun _ _ => emod_bd _ hp)
/-- The rows behind a pivot: row n stands for the pivot, times what makes it 1 in column c; the others are struck. -/
def pivotR (R : Nat → List Int) (n k c : Nat) (p : Int) : Nat → List Int := fun i =>
  if i = n then scaleRow (invm (nth (R k) c) p) p (R k) else strikeRow (scaleRow (invm (nth (R k) c) p) p (R k)) c p (swapR R n k i)

/-- Row k is the first one from n on that is not nought in column c. -/
structure Hit (R : Nat → List Int) (m n k c : Nat) : Prop where
  ge : n ≤ k
  lt : k < m
  no : ∀ i, n ≤ i → i < k → nth (R i) c = 0
  yes : nth (R k) c ≠ 0
def Miss (R : Nat → List Int) (m n c : Nat) : Prop := ∀ i, n ≤ i → i < m → nth (R i) c = 0
theorem hit_or_miss (R : Nat → List Int) (m n c : Nat) : (∃ k, Hit R m n k c) ∨ Miss R m n c := by
  classical
  by_cases h : ∃ i, n ≤ i ∧ i < m ∧ nth (R i) c ≠ 0
  · left
    have : ∀ b : Nat, (∃ i, n ≤ i ∧ i < m ∧ i ≤ b ∧ nth (R i) c ≠ 0) → ∃ k, Hit R m n k c := by
      intro b
      induction b with
      | zero =>
        rintro ⟨i, h1, h2, h3, h4⟩
        exact ⟨i, h1, h2, fun j hj hji => by omega, h4⟩
      | succ b ih =>
        rintro ⟨i, h1, h2, h3, h4⟩
        by_cases hb : ∃ i, n ≤ i ∧ i < m ∧ i ≤ b ∧ nth (R i) c ≠ 0
        · exact ih hb
        · refine ⟨i, h1, h2, fun j hj hji => ?_, h4⟩
          apply Classical.byContradiction
          intro hne
          exact hb ⟨j, hj, by omega, by omega, hne⟩
    obtain ⟨i, h1, h2, h3⟩ := h
    exact this i ⟨i, h1, h2, Nat.le_refl _, h3⟩
  · right
    intro i h1 h2
    apply Classical.byContradiction
    intro hne
    exact h ⟨i, h1, h2, hne⟩
theorem Hit.unique {R : Nat → List Int} {m n k k' c : Nat} (h : Hit R m n k c) (h' : Hit R m n k' c) : k = k' := by
  rcases Nat.lt_trichotomy k k' with hl | he | hg
  · exact absurd (h'.no k h.ge hl) h.yes
  · exact he
  · exact absurd (h.no k' h'.ge hg) h'.yes

/-- What the program's rows are behind c columns, and how many pivots there are: as a relation. -/
inductive Ech (m L : Nat) (R0 : Nat → List Int) (p : Int) : Nat → (Nat → List Int) → Nat → Prop where
  | start : Ech m L R0 p 0 R0 0
  | miss {c R n} : Ech m L R0 p c R n → Miss R m n c → Ech m L R0 p (c + 1) R n
  | hit {c R n k} : Ech m L R0 p c R n → Hit R m n k c → Ech m L R0 p (c + 1) (pivotR R n k c p) (n + 1)
theorem Ech.le {m L : Nat} {R0 : Nat → List Int} {p : Int} {c : Nat} {R : Nat → List Int} {n : Nat} (h : Ech m L R0 p c R n) : n ≤ m := by
  induction h with
  | start => exact Nat.zero_le _
  | miss _ _ ih => exact ih
  | hit _ hh _ => have := hh.ge; have := hh.lt; omega
theorem Ech.full {m L : Nat} {R0 : Nat → List Int} {p : Int} {c : Nat} {R : Nat → List Int} (h : Ech m L R0 p c R m) {d : Nat} (hd : c ≤ d) : Ech m L R0 p d R m := by
  induction d with
  | zero => obtain rfl : c = 0 := by omega
            exact h
  | succ d ih =>
    by_cases e : c = d + 1
    · subst e; exact h
    · exact (ih (by omega)).miss (fun i h1 h2 => by omega)

/-- A row on the way of being multiplied: as far as k. -/
def scaleTo (x p : Int) (row : List Int) (k : Nat) : List Int := tab row.length (fun i => if i < k then nth row i * x % p else nth row i)
@[simp] theorem scaleTo_length (x p : Int) (row : List Int) (k : Nat) : (scaleTo x p row k).length = row.length := tab_length _ _
theorem scaleTo_zero (x p : Int) (row : List Int) : scaleTo x p row 0 = row := by
  conv => rhs; rw [eq_tab row]
  exact tab_congr fun i _ => if_neg (by omega)
theorem scaleTo_full (x p : Int) (row : List Int) : scaleTo x p row row.length = scaleRow x p row := tab_congr fun i hi => if_pos hi
theorem scaleTo_set (x p : Int) (row : List Int) {k : Nat} (hk : k < row.length) : (scaleTo x p row k).set k (nth row k * x % p) = scaleTo x p row (k + 1) := by
  unfold scaleTo
  rw [tab_set hk]
  refine tab_congr fun i _ => ?_
  by_cases e : i = k
  · subst e; rw [if_pos rfl, if_pos (by omega)]
  · rw [if_neg e]
    by_cases h : i < k
    · rw [if_pos h, if_pos (by omega)]
    · rw [if_neg h, if_neg (by omega)]
theorem nth_scaleTo (x p : Int) (row : List Int) {k : Nat} : nth (scaleTo x p row k) k = nth row k := by
  unfold scaleTo
  rw [nth_tab]
  split
  · rw [if_neg (by omega)]
  · rw [nth_ge (by omega)]
theorem swapR_left (R : Nat → List Int) (a b : Nat) : swapR R a b a = R b := if_pos rfl

theorem pivotR_eq {R : Nat → List Int} {n k c m : Nat} {p : Int} (hn : n < m) (own : List Int) (ho : own = scaleRow (invm (nth (R k) c) p) p (R k)) (t : Nat) (ht : t < m) :
    (if n + 1 ≤ t ∧ t < n + 1 + (m - (n + 1)) then strikeRow own c p (if 0 ≤ t ∧ t < 0 + n then strikeRow own c p (if t = n then own else swapR R n k t) else if t = n then own else swapR R n k t)
      else if 0 ≤ t ∧ t < 0 + n then strikeRow own c p (if t = n then own else swapR R n k t) else if t = n then own else swapR R n k t) = pivotR R n k c p t := by
  unfold pivotR
  rw [← ho]
  by_cases e : t = n
  · subst e
    rw [if_neg (by omega), if_neg (by omega), if_pos rfl, if_pos rfl]
  · simp only [if_neg e]
    by_cases h : t < n
    · rw [if_neg (by omega), if_pos (by omega)]
    · rw [if_pos (by omega), if_neg (by omega)]

theorem pivotR_eq0 {R : Nat → List Int} {n k c m : Nat} {p : Int} (hn : m ≤ n + 1) (own : List Int) (ho : own = scaleRow (invm (nth (R k) c) p) p (R k)) (t : Nat) (ht : t < m) :
    (if 0 ≤ t ∧ t < 0 + n then strikeRow own c p (if t = n then own else swapR R n k t) else if t = n then own else swapR R n k t) = pivotR R n k c p t := by
  unfold pivotR
  rw [← ho]
  by_cases e : t = n
  · subst e
    rw [if_neg (by omega), if_pos rfl, if_pos rfl]
  · simp only [if_neg e]
    rw [if_pos (by omega)]

end Cl
