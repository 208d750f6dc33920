/- Plain facts on matrices of numbers: which may be.
   Polynomials over a commutative ring: they are one themselves; degrees over a field. No program in sight.
   Polynomials over a field: what divides what; greatest common divisors; irreducible ones; how often one is a factor. No program in sight.
   Derivatives of polynomials; over residues by a prime: p-th powers and roots; how often a factor is in the derivative. No program in sight.
   Lists of residues as polynomials, and back; plain lists. No program in sight.
   Quotients, rests, greatest common divisors as functions; Euclid's way, whose rows are told. No program in sight.
   Values of polynomials, at places in any ring; roots; x to the p-th power less x. No program in sight.
   How the programs divide: what a round makes of the rest and the quotient. No program in sight.
   How both programs multiply: place by place. No program in sight.
   How the programs make derivatives, values, powers. No program in sight.
   The greatest common divisor and of how many of both it is made, as both programs answer; how long the rows of Euclid's way are. No program in sight. -/
import Derived.Test.YtpikakapflebkaaGreatNum
import Derived.Test.YtpikakapflebkaaGreatBase
namespace Cl

/-- Rows of at most 64 numbers, all as long as the first one. -/
def rowsOk (rows : List (List Int)) : Bool := rows.all (fun r => decide (r.length ≤ 64) && decide (r.length = (rAt rows 0).length))
/-- Is it a matrix over a field? -/
def matOk (rows : List (List Int)) (p : Int) : Bool := isPrime p && decide (rows.length ≤ 64) && rowsOk rows

theorem rowsOk_iff {rows : List (List Int)} : rowsOk rows = true ↔ ∀ i, i < rows.length → (rAt rows i).length ≤ 64 ∧ (rAt rows i).length = (rAt rows 0).length := by
  unfold rowsOk
  simp only [List.all_eq_true, Bool.and_eq_true, decide_eq_true_eq]
  constructor
  · intro h i hi; exact h _ (rAt_mem hi)
  · intro h r hr
    obtain ⟨i, hi, rfl⟩ := List.getElem_of_mem hr
    have := h i hi
    rwa [rAt_lt hi] at this
theorem matOk_iff {rows : List (List Int)} {p : Int} : matOk rows p = true ↔ isPrime p = true ∧ rows.length ≤ 64 ∧ ∀ i, i < rows.length → (rAt rows i).length ≤ 64 ∧ (rAt rows i).length = (rAt rows 0).length := by
  unfold matOk
  simp only [Bool.and_eq_true, decide_eq_true_eq, rowsOk_iff, and_assoc]
theorem matOk_no_prime {rows : List (List Int)} {p : Int} (h : isPrime p = false) : matOk rows p = false := by unfold matOk; rw [h]; rfl
theorem matOk_no_many {rows : List (List Int)} {p : Int} (h : 64 < rows.length) : matOk rows p = false := by
  rw [Bool.eq_false_iff]; intro h1; have := (matOk_iff.1 h1).2.1; omega
theorem matOk_no_row {rows : List (List Int)} {p : Int} {i : Nat} (hi : i < rows.length) (h : ¬ ((rAt rows i).length ≤ 64 ∧ (rAt rows i).length = (rAt rows 0).length)) : matOk rows p = false := by
  rw [Bool.eq_false_iff]; intro h1; exact h ((matOk_iff.1 h1).2.2 i hi)
/-- What a matrix is told as. -/
def matE (rows : List (List Int)) (p : Int) : Int := if matOk rows p then 0 else 1
theorem matE_no {rows : List (List Int)} {p : Int} (h : matOk rows p = false) : matE rows p = 1 := by unfold matE; rw [h]; rfl
theorem matE_yes {rows : List (List Int)} {p : Int} (h : matOk rows p = true) : matE rows p = 0 := by unfold matE; rw [h]; rfl

/-- The sum of products of the first k residues. -/
def dotTo (row v : List Int) (p : Int) : Nat → Int
  | 0 => 0
  | k + 1 => (dotTo row v p k + red (nth row k) p * red (nth v k) p) % p
theorem dotTo_succ (row v : List Int) (p : Int) (k : Nat) : dotTo row v p (k + 1) = (dotTo row v p k + red (nth row k) p * red (nth v k) p) % p := rfl
theorem dotTo_bd (row v : List Int) {p : Int} (hp : 1 ≤ p) (k : Nat) : 0 ≤ dotTo row v p k ∧ dotTo row v p k < p := by
  cases k with
  | zero => exact ⟨by show (0 : Int) ≤ 0; omega, by show (0 : Int) < p; omega⟩
  | succ k => exact emod_bd _ hp
/-- What a matrix makes of residues. -/
def applyM (rows : List (List Int)) (v : List Int) (p : Int) : List Int := tab rows.length (fun i => dotTo (rAt rows i) v p v.length)
/-- May it be applied? -/
def appOk (rows : List (List Int)) (v : List Int) (p : Int) : Bool := matOk rows p && (decide (rows.length = 0) || decide ((rAt rows 0).length = v.length))
theorem appOk_iff {rows : List (List Int)} {v : List Int} {p : Int} : appOk rows v p = true ↔ matOk rows p = true ∧ (rows.length = 0 ∨ (rAt rows 0).length = v.length) := by
  unfold appOk; simp only [Bool.and_eq_true, Bool.or_eq_true, decide_eq_true_eq]

/-- A row's rests. -/
def redRow (xs : List Int) (p : Int) : List Int := tab xs.length (fun i => red (nth xs i) p)
@[simp] theorem redRow_length (xs : List Int) (p : Int) : (redRow xs p).length = xs.length := tab_length _ _
theorem nth_redRow {xs : List Int} {p : Int} (i : Nat) : nth (redRow xs p) i = red (nth xs i) p := by
  unfold redRow
  rw [nth_tab]
  split
  · rfl
  · rw [nth_ge (by omega)]; unfold red; split <;> simp
theorem red_i64 (a : Int) {p : Int} (h1 : -9223372036854775808 ≤ p) (h2 : p ≤ 9223372036854775807) : I64 (red a p) := by
  have h3 := red_nonneg a p
  by_cases h : p < 1
  · unfold red; rw [if_pos h]; exact I64.zero
  · have := red_lt (a := a) (p := p) (by omega)
    exact ⟨by omega, by omega⟩

/-- A row less k times another one. -/
def lessRow (n : Nat) (xs ys : List Int) (k p : Int) : List Int := tab n (fun i => red (nth xs i - k * nth ys i) p)
@[simp] theorem lessRow_length (n : Nat) (xs ys : List Int) (k p : Int) : (lessRow n xs ys k p).length = n := tab_length _ _

/-- A row from which another one is taken away so often that it has nought in a column. -/
def strikeRow (own : List Int) (c : Nat) (p : Int) (row : List Int) : List Int := tab row.length (fun i => (nth row i + (p - nth row c) * nth own i) % p)
@[simp] theorem strikeRow_length (own : List Int) (c : Nat) (p : Int) (row : List Int) : (strikeRow own c p row).length = row.length := tab_length _ _
/-- All numbers are plain. -/
def Pl (p : Int) (row : List Int) : Prop := ∀ i, 0 ≤ nth row i ∧ nth row i < p
theorem Pl.of_tab {p : Int} {n : Nat} {f : Nat → Int} (hp : 1 ≤ p) (h : ∀ i, i < n → 0 ≤ f i ∧ f i < p) : Pl p (tab n f) := by
  intro i; rw [nth_tab]; split
  · exact h i (by assumption)
  · omega
theorem strikeRow_pl {own row : List Int} {c : Nat} {p : Int} (hp : 1 ≤ p) : Pl p (strikeRow own c p row) := Pl.of_tab hp (fun _ _ => emod_bd _ hp)
theorem redRow_pl (xs : List Int) {p : Int} (hp : 1 ≤ p) : Pl p (redRow xs p) := Pl.of_tab hp (fun _ _ => red_bd _ hp)
theorem Pl.i64 {p : Int} {row : List Int} (h : Pl p row) (hp : p ≤ 65521) (i : Nat) : I64 (nth row i) := by have := h i; exact I64.small this.1 (by omega)
/-- A row on the way of being struck: as far as k. -/
def strikeTo (own : List Int) (c : Nat) (p : Int) (row : List Int) (k : Nat) : List Int := tab row.length (fun i => if i < k then (nth row i + (p - nth row c) * nth own i) % p else nth row i)
@[simp] theorem strikeTo_length (own : List Int) (c : Nat) (p : Int) (row : List Int) (k : Nat) : (strikeTo own c p row k).length = row.length := tab_length _ _
theorem strikeTo_zero (own : List Int) (c : Nat) (p : Int) (row : List Int) : strikeTo own c p row 0 = row := by
  conv => rhs; rw [eq_tab row]
  exact tab_congr fun i _ => if_neg (by omega)
theorem strikeTo_full (own : List Int) (c : Nat) (p : Int) (row : List Int) : strikeTo own c p row row.length = strikeRow own c p row := tab_congr fun _i hi => if_pos hi
theorem strikeTo_set (own : List Int) (c : Nat) (p : Int) (row : List Int) {k : Nat} (hk : k < row.length) : (strikeTo own c p row k).set k ((nth row k + (p - nth row c) * nth own k) % p) = strikeTo own c p row (k + 1) := by
  unfold strikeTo
  rw [tab_set hk]
  refine tab_congr fun i _ => ?_
  by_cases e : i = k
  · subst e; rw [if_pos rfl, if_pos (by omega)]
  · rw [if_neg e]
    by_cases h : i < k
    · rw [if_pos h, if_pos (by omega)]
    · rw [if_neg h, if_neg (by omega)]
theorem nth_strikeTo (own : List Int) (c : Nat) (p : Int) (row : List Int) {k : Nat} : nth (strikeTo own c p row k) k = nth row k := by
  unfold strikeTo
  rw [nth_tab]
  split
  · rw [if_neg (by omega)]
  · rw [nth_ge (by omega)]

theorem Pl.small {p : Int} {row : List Int} (h : Pl p row) (hp : p ≤ 65521) (i : Nat) : 0 ≤ nth row i ∧ nth row i ≤ 65521 := by have := h i; omega
theorem leadI_of {xs : List Int} (h : leadN xs < xs.length) : leadI xs = leadN xs := by unfold leadI; rw [if_pos h]

end Cl

namespace Cl
open CRing

/-- A polynomial: its coefficients; none from some place on. -/
structure Poly (F : Type) [CRing F] where
  co : Nat → F
  fin : ∃ n, ∀ i, n ≤ i → co i = 0

namespace Poly
variable {F : Type} [CRing F]
theorem ext {a b : Poly F} (h : ∀ i, a.co i = b.co i) : a = b := by
  have h' : a.co = b.co := funext h
  cases a; cases b; simp only [mk.injEq]; exact h'

instance : Add (Poly F) := ⟨fun a b => ⟨fun i => a.co i + b.co i, by
  obtain ⟨n, hn⟩ := a.fin
  obtain ⟨m, hm⟩ := b.fin
  exact ⟨n + m, fun i hi => by rw [hn i (by omega), hm i (by omega), add_zero]⟩⟩⟩
instance : Neg (Poly F) := ⟨fun a => ⟨fun i => -a.co i, by
  obtain ⟨n, hn⟩ := a.fin
  exact ⟨n, fun i hi => by rw [hn i hi, neg_zero]⟩⟩⟩
instance : Sub (Poly F) := ⟨fun a b => a + -b⟩
instance : Zero (Poly F) := ⟨⟨fun _ => 0, 0, fun _ _ => rfl⟩⟩
/-- One term. -/
def mono (n : Nat) (c : F) : Poly F := ⟨fun i => if i = n then c else 0, n + 1, fun i hi => if_neg (by omega)⟩
/-- A number. -/
def C (c : F) : Poly F := mono 0 c
instance : One (Poly F) := ⟨C 1⟩
/-- The coefficients of a product. -/
def mulc (a b : Nat → F) (n : Nat) : F := sum (n + 1) (fun k => a k * b (n - k))
theorem mulc_zero {a b : Nat → F} {n m i : Nat} (ha : ∀ i, n ≤ i → a i = 0) (hb : ∀ i, m ≤ i → b i = 0) (h : n + m ≤ i + 1) : mulc a b i = 0 := by
  unfold mulc
  refine sum_eq_zero fun k hk => ?_
  by_cases h1 : n ≤ k
  · rw [ha k h1, zero_mul]
  · rw [hb (i - k) (by omega), mul_zero]
instance : Mul (Poly F) := ⟨fun a b => ⟨mulc a.co b.co, by
  obtain ⟨n, hn⟩ := a.fin
  obtain ⟨m, hm⟩ := b.fin
  exact ⟨n + m, fun i hi => mulc_zero hn hm (by omega)⟩⟩⟩
def npow (a : Poly F) : Nat → Poly F
  | 0 => 1
  | n + 1 => npow a n * a
instance : NatPow (Poly F) := ⟨npow⟩

theorem co_add (a b : Poly F) (i : Nat) : (a + b).co i = a.co i + b.co i := rfl
theorem co_neg (a : Poly F) (i : Nat) : (-a).co i = -a.co i := rfl
theorem co_sub (a b : Poly F) (i : Nat) : (a - b).co i = a.co i - b.co i := by
  rw [CRing.sub_def]; rfl
theorem co_zero (i : Nat) : (0 : Poly F).co i = 0 := rfl
theorem co_mono (n : Nat) (c : F) (i : Nat) : (mono n c).co i = if i = n then c else 0 := rfl
theorem co_C (c : F) (i : Nat) : (C c).co i = if i = 0 then c else 0 := rfl
theorem co_one (i : Nat) : (1 : Poly F).co i = if i = 0 then 1 else 0 := rfl
theorem co_mul (a b : Poly F) (n : Nat) : (a * b).co n = sum (n + 1) (fun k => a.co k * b.co (n - k)) := rfl

theorem mulc_comm (a b : Nat → F) (n : Nat) : mulc a b n = mulc b a n := by
  unfold mulc
  rw [sum_flip]
  refine sum_congr fun k hk => ?_
  rw [mul_comm]
  congr 2 <;> omega
/-- A triangle of numbers, by its rows and by its columns. -/
theorem sum_tri (n : Nat) (h : Nat → Nat → F) : sum (n + 1) (fun k => sum (k + 1) (fun j => h k j)) = sum (n + 1) (fun j => sum (n + 1 - j) (fun i => h (j + i) j)) := by
  induction n with
  | zero => rfl
  | succ n ih =>
    rw [sum_succ, ih]
    have e : sum (n + 1 + 1) (fun j => sum (n + 1 + 1 - j) (fun i => h (j + i) j)) = sum (n + 1 + 1) (fun j => sum (n + 1 - j) (fun i => h (j + i) j) + h (n + 1) j) := by
      refine sum_congr fun j hj => ?_
      rw [show n + 1 + 1 - j = (n + 1 - j) + 1 by omega, sum_succ, show j + (n + 1 - j) = n + 1 by omega]
    rw [e, sum_add, sum_succ (n + 1) (fun j => sum (n + 1 - j) (fun i => h (j + i) j)), Nat.sub_self, sum_zero, add_zero]
theorem mulc_assoc (a b c : Nat → F) (n : Nat) : mulc (mulc a b) c n = mulc a (mulc b c) n := by
  unfold mulc
  have e1 : sum (n + 1) (fun k => sum (k + 1) (fun j => a j * b (k - j)) * c (n - k)) = sum (n + 1) (fun k => sum (k + 1) (fun j => a j * b (k - j) * c (n - k))) := sum_congr fun k _ => sum_mul _ _ _
  rw [e1, sum_tri]
  refine sum_congr fun j hj => ?_
  rw [mul_sum, show n + 1 - j = n - j + 1 by omega]
  refine sum_congr fun i hi => ?_
  rw [mul_assoc, show j + i - j = i by omega, show n - (j + i) = n - j - i by omega]
theorem mulc_one (a : Nat → F) (n : Nat) : mulc a (fun i => if i = 0 then 1 else 0) n = a n := by
  unfold mulc
  rw [sum_single (k := n) (by omega) (fun i hi hne => by show a i * (if n - i = 0 then 1 else 0) = 0; rw [if_neg (by omega), mul_zero]), Nat.sub_self]
  show a n * (if 0 = 0 then 1 else 0) = a n
  rw [if_pos rfl, mul_one]

instance : CRing (Poly F) where
  add_assoc a b c := ext fun i => add_assoc _ _ _
  add_comm a b := ext fun i => add_comm _ _
  add_zero a := ext fun i => add_zero _
  add_neg a := ext fun i => add_neg _
  mul_assoc a b c := ext fun i => mulc_assoc _ _ _ _
  mul_comm a b := ext fun i => mulc_comm _ _ _
  mul_one a := ext fun i => mulc_one _ _
  mul_add a b c := ext fun i => by
    rw [co_add, co_mul, co_mul, co_mul, ← sum_add]
    exact sum_congr fun k _ => mul_add _ _ _
  sub_def a b := rfl
  pow_zero a := rfl
  pow_succ a n := rfl

/-- Are there no coefficients from n on? -/
def Sh (a : Poly F) (n : Nat) : Prop := ∀ i, n ≤ i → a.co i = 0
theorem Sh.mono {a : Poly F} {n m : Nat} (h : a.Sh n) (hm : n ≤ m) : a.Sh m := fun i hi => h i (by omega)
theorem Sh.add {a b : Poly F} {n : Nat} (ha : a.Sh n) (hb : b.Sh n) : (a + b).Sh n := fun i hi => by rw [co_add, ha i hi, hb i hi, add_zero]
theorem Sh.neg {a : Poly F} {n : Nat} (ha : a.Sh n) : (-a).Sh n := fun i hi => by rw [co_neg, ha i hi, neg_zero]
theorem Sh.sub {a b : Poly F} {n : Nat} (ha : a.Sh n) (hb : b.Sh n) : (a - b).Sh n := ha.add hb.neg
theorem Sh.mul {a b : Poly F} {n m k : Nat} (ha : a.Sh n) (hb : b.Sh m) (hk : n + m ≤ k + 1) : (a * b).Sh k := fun i hi => mulc_zero ha hb (by omega)
theorem sh_C (c : F) : (C c).Sh 1 := fun i hi => by rw [co_C, if_neg (by omega)]
theorem sh_zero {a : Poly F} (h : a.Sh 0) : a = 0 := ext fun i => h i (by omega)
theorem zero_sh (n : Nat) : (0 : Poly F).Sh n := fun _ _ => rfl
/-- The top coefficient of a product. -/
theorem co_mul_top {a b : Poly F} {n m : Nat} (ha : a.Sh (n + 1)) (hb : b.Sh (m + 1)) : (a * b).co (n + m) = a.co n * b.co m := by
  rw [co_mul, sum_single (k := n) (by omega) (fun i hi hne => ?_), show n + m - n = m by omega]
  by_cases h1 : i < n
  · rw [hb (n + m - i) (by omega), mul_zero]
  · rw [ha i (by omega), zero_mul]
theorem co_mono_mul (n : Nat) (c : F) (a : Poly F) (i : Nat) : (mono n c * a).co i = if n ≤ i then c * a.co (i - n) else 0 := by
  rw [co_mul]
  by_cases h : n ≤ i
  · rw [if_pos h, sum_single (k := n) (by omega) (fun k hk hne => by rw [co_mono, if_neg hne, zero_mul]), co_mono, if_pos rfl]
  · rw [if_neg h]
    exact sum_eq_zero fun k hk => by rw [co_mono, if_neg (by omega), zero_mul]
theorem co_C_mul (c : F) (a : Poly F) (i : Nat) : (C c * a).co i = c * a.co i := by
  unfold C; rw [co_mono_mul, if_pos (by omega), Nat.sub_zero]
theorem C_mul_C (a b : F) : C a * C b = C (a * b) := ext fun i => by
  rw [co_C_mul, co_C, co_C]; split
  · rfl
  · exact mul_zero _
theorem C_add (a b : F) : C (a + b) = C a + C b := ext fun i => by
  rw [co_add, co_C, co_C, co_C]; split
  · rfl
  · exact (add_zero _).symm
theorem C_one : C (1 : F) = 1 := rfl
theorem C_zero : C (0 : F) = 0 := ext fun i => by rw [co_C]; split <;> rfl
theorem C_neg (a : F) : C (-a) = -C a := ext fun i => by
  rw [co_neg, co_C, co_C]; split
  · rfl
  · exact neg_zero.symm
theorem C_inj {a b : F} (h : C a = C b) : a = b := by
  have := congrArg (fun q => q.co 0) h
  simpa [co_C] using this
theorem mono_mul (n m : Nat) (a b : F) : mono n a * mono m b = mono (n + m) (a * b) := ext fun i => by
  rw [co_mono_mul, co_mono, co_mono]
  by_cases h : n ≤ i
  · rw [if_pos h]
    by_cases e : i - n = m
    · rw [if_pos e, if_pos (by omega)]
    · rw [if_neg e, if_neg (by omega), mul_zero]
  · rw [if_neg h, if_neg (by omega)]
theorem eq_C {a : Poly F} (h : a.Sh 1) : a = C (a.co 0) := ext fun i => by
  rw [co_C]; split
  · next e => rw [e]
  · exact h i (by omega)

/-- The number of coefficients: the least bound. -/
theorem least (P : Nat → Prop) (h : ∃ n, P n) : ∃ n, P n ∧ ∀ m, m < n → ¬ P m := by
  obtain ⟨n, hn⟩ := h
  induction n using Nat.strongRecOn with
  | ind n ih =>
    by_cases h' : ∃ m, m < n ∧ P m
    · obtain ⟨m, hm, hp⟩ := h'
      exact ih m hm hp
    · exact ⟨n, hn, fun m hm hp => h' ⟨m, hm, hp⟩⟩
noncomputable def len (a : Poly F) : Nat := Classical.choose (least a.Sh a.fin)
theorem len_sh (a : Poly F) : a.Sh a.len := (Classical.choose_spec (least a.Sh a.fin)).1
theorem len_le {a : Poly F} {n : Nat} (h : a.Sh n) : a.len ≤ n := Nat.le_of_not_lt fun hl => (Classical.choose_spec (least a.Sh a.fin)).2 n hl h
theorem len_top {a : Poly F} (h : 0 < a.len) : a.co (a.len - 1) ≠ 0 := fun e => by
  have : a.Sh (a.len - 1) := fun i hi => by
    by_cases e' : i = a.len - 1
    · rw [e', e]
    · exact len_sh a i (by omega)
  have := len_le this
  omega
theorem len_eq {a : Poly F} {n : Nat} (h : a.Sh (n + 1)) (ht : a.co n ≠ 0) : a.len = n + 1 := by
  have h1 := len_le h
  refine Nat.le_antisymm h1 (Nat.le_of_not_lt fun hl => ht (len_sh a n (by omega)))
theorem len_zero : (0 : Poly F).len = 0 := Nat.le_zero.1 (len_le (zero_sh 0))
theorem len_eq_zero {a : Poly F} : a.len = 0 ↔ a = 0 := ⟨fun h => sh_zero (h ▸ len_sh a), fun h => h ▸ len_zero⟩
theorem len_pos {a : Poly F} (h : a ≠ 0) : 0 < a.len := Nat.pos_of_ne_zero fun e => h (len_eq_zero.1 e)
/-- The last coefficient. -/
noncomputable def lc (a : Poly F) : F := a.co (a.len - 1)
theorem lc_ne {a : Poly F} (h : a ≠ 0) : a.lc ≠ 0 := len_top (len_pos h)
end Poly

namespace Poly
variable {F : Type} [CField F]
theorem len_mul {a b : Poly F} (ha : a ≠ 0) (hb : b ≠ 0) : (a * b).len = a.len + b.len - 1 ∧ (a * b).lc = a.lc * b.lc := by
  have h1 := len_pos ha
  have h2 := len_pos hb
  have ea : a.len = (a.len - 1) + 1 := by omega
  have eb : b.len = (b.len - 1) + 1 := by omega
  have hsa : a.Sh ((a.len - 1) + 1) := ea ▸ len_sh a
  have hsb : b.Sh ((b.len - 1) + 1) := eb ▸ len_sh b
  have htop := co_mul_top hsa hsb
  have hne : (a * b).co ((a.len - 1) + (b.len - 1)) ≠ 0 := by
    rw [htop]; exact CField.mul_ne (len_top h1) (len_top h2)
  have hl := len_eq (hsa.mul hsb (by omega)) hne
  refine ⟨by rw [hl]; omega, ?_⟩
  unfold lc
  rw [hl, Nat.add_sub_cancel, htop]
theorem mul_ne {a b : Poly F} (ha : a ≠ 0) (hb : b ≠ 0) : a * b ≠ 0 := fun e => by
  have h := (len_mul ha hb).1
  rw [e, len_zero] at h
  have h1 := len_pos ha
  have h2 := len_pos hb
  omega
theorem no_zero {a b : Poly F} (h : a * b = 0) : a = 0 ∨ b = 0 := by
  by_cases ha : a = 0
  · exact .inl ha
  · by_cases hb : b = 0
    · exact .inr hb
    · exact absurd h (mul_ne ha hb)
theorem mul_left_cancel {a b c : Poly F} (ha : a ≠ 0) (h : a * b = a * c) : b = c := by
  have : a * (b - c) = 0 := by rw [mul_sub, h, sub_self]
  rcases no_zero this with h' | h'
  · exact absurd h' ha
  · exact sub_eq_zero.1 h'
theorem mul_right_cancel {a b c : Poly F} (ha : a ≠ 0) (h : b * a = c * a) : b = c := by
  rw [mul_comm b, mul_comm c] at h; exact mul_left_cancel ha h
theorem one_ne : (1 : Poly F) ≠ 0 := fun h => by
  have : (1 : Poly F).co 0 = (0 : Poly F).co 0 := by rw [h]
  exact CField.one_ne this
theorem len_one : (1 : Poly F).len = 1 := len_eq (n := 0) (sh_C 1) (by rw [co_one, if_pos rfl]; exact CField.one_ne)
theorem len_C {c : F} (h : c ≠ 0) : (C c).len = 1 := len_eq (n := 0) (sh_C c) (by rw [co_C, if_pos rfl]; exact h)
theorem len_C_mul {c : F} (h : c ≠ 0) (a : Poly F) : (C c * a).len = a.len := by
  by_cases ha : a = 0
  · rw [ha, mul_zero]
  · rw [(len_mul (fun e => h (C_inj (e.trans C_zero.symm))) ha).1, len_C h]; omega
theorem len_one_iff {a : Poly F} : a.len = 1 ↔ ∃ c, c ≠ 0 ∧ a = C c := by
  constructor
  · intro h
    refine ⟨a.co 0, ?_, eq_C (h ▸ len_sh a)⟩
    have := len_top (a := a) (by omega)
    rwa [h] at this
  · rintro ⟨c, hc, rfl⟩; exact len_C hc

/-- Division with a rest. -/
theorem div_exists (a : Poly F) {b : Poly F} (hb : b ≠ 0) : ∃ q r, a = q * b + r ∧ r.len < b.len := by
  induction hn : a.len using Nat.strongRecOn generalizing a with
  | ind n ih =>
    by_cases hlt : a.len < b.len
    · exact ⟨0, a, by rw [zero_mul, zero_add], hlt⟩
    · have hbp := len_pos hb
      have hap : 0 < a.len := by omega
      let c := a.lc * CField.inv b.lc
      let d := a.len - b.len
      have hcb : c * b.lc = a.lc := by
        show a.lc * CField.inv b.lc * b.lc = a.lc
        rw [mul_assoc, CField.inv_mul (lc_ne hb), mul_one]
      have hlen : (a - mono d c * b).Sh (a.len - 1) := fun i hi => by
        rw [co_sub, co_mono_mul, if_pos (by omega)]
        by_cases e : i = a.len - 1
        · have e2 : i - d = b.len - 1 := by omega
          rw [e2, e]
          show a.lc - c * b.lc = 0
          rw [hcb, sub_self]
        · rw [len_sh a i (by omega), len_sh b (i - d) (by omega), mul_zero, sub_self]
      obtain ⟨q, r, hqr, hr⟩ := ih (a - mono d c * b).len (by have := len_le hlen; omega) _ rfl
      refine ⟨mono d c + q, r, ?_, hr⟩
      rw [add_mul, add_assoc, ← hqr, sub_def, add_comm, add_assoc, neg_add, add_zero]
theorem div_unique {b q r q' r' : Poly F} (h : q * b + r = q' * b + r') (hr : r.len < b.len) (hr' : r'.len < b.len) : q = q' ∧ r = r' := by
  have hb : b ≠ 0 := fun e => by rw [e, len_zero] at hr; omega
  have h1 : (q - q') * b = r' - r := by
    rw [sub_mul]
    apply sub_eq_zero.1
    have : q * b - q' * b - (r' - r) = (q * b + r) - (q' * b + r') := by
      simp only [sub_def, neg_add_rev, neg_neg]; ac_rfl
    rw [this, h, sub_self]
  by_cases hq : q - q' = 0
  · have e := sub_eq_zero.1 hq
    refine ⟨e, ?_⟩
    rw [hq, zero_mul] at h1
    exact (sub_eq_zero.1 h1.symm).symm
  · exfalso
    have h2 := (len_mul hq hb).1
    have h3 : (r' - r).len ≤ max r'.len r.len := len_le (((len_sh r').mono (by omega)).sub ((len_sh r).mono (by omega)))
    have h4 := len_pos hq
    rw [h1] at h2
    omega
end Poly

end Cl

namespace Cl
open CRing
namespace Poly
variable {F : Type} [CField F]

instance : Dvd (Poly F) := ⟨fun a b => ∃ c, b = a * c⟩
theorem dvd_def {a b : Poly F} : a ∣ b ↔ ∃ c, b = a * c := Iff.rfl
theorem dvd_refl (a : Poly F) : a ∣ a := ⟨1, (mul_one a).symm⟩
theorem dvd_trans {a b c : Poly F} (h : a ∣ b) (k : b ∣ c) : a ∣ c := by
  obtain ⟨x, rfl⟩ := h
  obtain ⟨y, rfl⟩ := k
  exact ⟨x * y, mul_assoc _ _ _⟩
theorem dvd_mul_right (a b : Poly F) : a ∣ a * b := ⟨b, rfl⟩
theorem dvd_mul_left (a b : Poly F) : a ∣ b * a := ⟨b, mul_comm _ _⟩
theorem Dvd.mul_r {a b : Poly F} (h : a ∣ b) (c : Poly F) : a ∣ b * c := dvd_trans h (dvd_mul_right _ _)
theorem Dvd.mul_l {a b : Poly F} (h : a ∣ b) (c : Poly F) : a ∣ c * b := dvd_trans h (dvd_mul_left _ _)
theorem dvd_zero (a : Poly F) : a ∣ 0 := ⟨0, (mul_zero a).symm⟩
theorem one_dvd (a : Poly F) : 1 ∣ a := ⟨a, (one_mul a).symm⟩
theorem dvd_add {a b c : Poly F} (h : a ∣ b) (k : a ∣ c) : a ∣ b + c := by
  obtain ⟨x, rfl⟩ := h
  obtain ⟨y, rfl⟩ := k
  exact ⟨x + y, (mul_add _ _ _).symm⟩
theorem dvd_neg {a b : Poly F} (h : a ∣ b) : a ∣ -b := by
  obtain ⟨x, rfl⟩ := h
  exact ⟨-x, (mul_neg _ _).symm⟩
theorem dvd_sub {a b c : Poly F} (h : a ∣ b) (k : a ∣ c) : a ∣ b - c := by rw [sub_def]; exact dvd_add h (dvd_neg k)
theorem dvd_of_add {a b c : Poly F} (h : a ∣ b + c) (k : a ∣ b) : a ∣ c := by
  have : c = b + c - b := by rw [add_comm, add_sub_cancel]
  rw [this]; exact dvd_sub h k
theorem zero_dvd {a : Poly F} (h : (0 : Poly F) ∣ a) : a = 0 := by obtain ⟨x, rfl⟩ := h; exact zero_mul _
theorem mul_dvd_mul {a b c d : Poly F} (h : a ∣ b) (k : c ∣ d) : a * c ∣ b * d := by
  obtain ⟨x, rfl⟩ := h
  obtain ⟨y, rfl⟩ := k
  exact ⟨x * y, by ac_rfl⟩
theorem dvd_of_mul {a b c : Poly F} (ha : a ≠ 0) (h : a * b ∣ a * c) : b ∣ c := by
  obtain ⟨x, hx⟩ := h
  exact ⟨x, mul_left_cancel ha (by rw [hx, mul_assoc])⟩
theorem pow_ne {a : Poly F} (h : a ≠ 0) (n : Nat) : a ^ n ≠ 0 := by
  induction n with
  | zero => rw [CRing.pow_zero]; exact one_ne
  | succ n ih => rw [CRing.pow_succ]; exact mul_ne ih h
theorem pow_dvd_pow (a : Poly F) {m n : Nat} (h : m ≤ n) : a ^ m ∣ a ^ n := by
  obtain ⟨k, rfl⟩ := Nat.le.dest h
  rw [CRing.pow_add]; exact dvd_mul_right _ _
theorem len_le_of_dvd {a b : Poly F} (h : a ∣ b) (hb : b ≠ 0) : a.len ≤ b.len := by
  obtain ⟨x, rfl⟩ := h
  have ha : a ≠ 0 := fun e => hb (by rw [e, zero_mul])
  have hx : x ≠ 0 := fun e => hb (by rw [e, mul_zero])
  have := (len_mul ha hx).1
  have := len_pos hx
  omega
theorem len_pow {a : Poly F} (h : a ≠ 0) (n : Nat) : (a ^ n).len = n * (a.len - 1) + 1 := by
  have h1 := len_pos h
  induction n with
  | zero => rw [CRing.pow_zero, len_one]; omega
  | succ n ih => rw [CRing.pow_succ, (len_mul (pow_ne h n) h).1, ih, Nat.succ_mul]; omega

/-- Is its last coefficient 1? -/
def Mon (a : Poly F) : Prop := a.lc = 1
theorem Mon.ne {a : Poly F} (h : a.Mon) : a ≠ 0 := fun e => by
  unfold Mon lc at h
  rw [e] at h
  exact CField.one_ne h.symm
theorem mon_one : (1 : Poly F).Mon := by unfold Mon lc; rw [len_one]; rfl
theorem Mon.mul {a b : Poly F} (ha : a.Mon) (hb : b.Mon) : (a * b).Mon := by
  unfold Mon
  rw [(len_mul ha.ne hb.ne).2, show a.lc = 1 from ha, show b.lc = 1 from hb, mul_one]
theorem Mon.pow {a : Poly F} (ha : a.Mon) (n : Nat) : (a ^ n).Mon := by
  induction n with
  | zero => rw [CRing.pow_zero]; exact mon_one
  | succ n ih => rw [CRing.pow_succ]; exact ih.mul ha
theorem Mon.of_mul {a b : Poly F} (ha : a.Mon) (h : (a * b).Mon) : b.Mon := by
  have hb : b ≠ 0 := fun e => h.ne (by rw [e, mul_zero])
  unfold Mon at h ⊢
  rwa [(len_mul ha.ne hb).2, show a.lc = 1 from ha, one_mul] at h
theorem Mon.one_of_len {a : Poly F} (h : a.Mon) (hl : a.len = 1) : a = 1 := by
  obtain ⟨c, hc, rfl⟩ := len_one_iff.1 hl
  unfold Mon lc at h
  rw [hl] at h
  have : c = 1 := by simpa [co_C] using h
  rw [this, C_one]
theorem Mon.len_one {a : Poly F} (h : a.Mon) : a.len = 1 ↔ a = 1 := ⟨h.one_of_len, fun e => e ▸ Poly.len_one⟩
/-- By its last coefficient. -/
noncomputable def monic (a : Poly F) : Poly F := C (CField.inv a.lc) * a
theorem C_ne {c : F} (h : c ≠ 0) : C c ≠ 0 := fun e => h (C_inj (e.trans C_zero.symm))
theorem lc_C {c : F} (h : c ≠ 0) : (C c).lc = c := by
  show (C c).co ((C c).len - 1) = c
  rw [len_C h]; rfl
theorem monic_mon {a : Poly F} (h : a ≠ 0) : a.monic.Mon := by
  have h1 := CField.inv_ne (lc_ne h)
  unfold Mon monic
  rw [(len_mul (C_ne h1) h).2]
  rw [lc_C h1, CField.inv_mul (lc_ne h)]
theorem C_lc_monic {a : Poly F} (h : a ≠ 0) : C a.lc * a.monic = a := by
  unfold monic
  rw [← mul_assoc, C_mul_C, CField.mul_inv _ (lc_ne h), C_one, one_mul]
theorem monic_len {a : Poly F} (h : a ≠ 0) : a.monic.len = a.len := len_C_mul (CField.inv_ne (lc_ne h)) a
theorem Mon.monic_eq {a : Poly F} (h : a.Mon) : a.monic = a := by
  have := C_lc_monic h.ne
  rwa [show a.lc = 1 from h, C_one, one_mul] at this
theorem monic_zero : (0 : Poly F).monic = 0 := mul_zero _
theorem C_dvd {c : F} (hc : c ≠ 0) (a : Poly F) : C c ∣ a := ⟨C (CField.inv c) * a, by rw [← mul_assoc, C_mul_C, CField.mul_inv c hc, C_one, one_mul]⟩
theorem monic_dvd {a b : Poly F} (h : a ∣ b) : a.monic ∣ b := by
  by_cases ha : a = 0
  · rw [ha, monic_zero]; rwa [ha] at h
  · obtain ⟨x, rfl⟩ := h
    exact ⟨C a.lc * x, by conv => lhs; rw [← C_lc_monic ha]
                          ac_rfl⟩
theorem dvd_monic {a b : Poly F} (h : a ∣ b) : a ∣ b.monic := by
  obtain ⟨x, rfl⟩ := h
  exact ⟨C (CField.inv (a * x).lc) * x, by unfold monic; ac_rfl⟩
theorem Mon.eq_of_dvd {a b : Poly F} (ha : a.Mon) (hb : b.Mon) (h : a ∣ b) (k : b ∣ a) : a = b := by
  obtain ⟨x, rfl⟩ := h
  have h1 := len_le_of_dvd k ha.ne
  have hx : x.Mon := ha.of_mul hb
  have h2 := (len_mul ha.ne hx.ne).1
  have h3 := len_pos hx.ne
  have h4 := len_pos ha.ne
  rw [hx.one_of_len (by omega), mul_one]

/-- The greatest common divisor. -/
structure IsGcd (a b g : Poly F) : Prop where
  l : g ∣ a
  r : g ∣ b
  top : ∀ d, d ∣ a → d ∣ b → d ∣ g
  mon : g = 0 ∨ g.Mon
theorem IsGcd.unique {a b g g' : Poly F} (h : IsGcd a b g) (h' : IsGcd a b g') : g = g' := by
  have h1 := h'.top g h.l h.r
  have h2 := h.top g' h'.l h'.r
  rcases h.mon with e | m
  · rw [e] at h1; rw [e, zero_dvd h1]
  · rcases h'.mon with e | m'
    · rw [e] at h2; rw [e, zero_dvd h2]
    · exact m.eq_of_dvd m' h1 h2
theorem IsGcd.symm {a b g : Poly F} (h : IsGcd a b g) : IsGcd b a g := ⟨h.r, h.l, fun d h1 h2 => h.top d h2 h1, h.mon⟩
theorem IsGcd.of_bezout {a b g s t : Poly F} (l : g ∣ a) (r : g ∣ b) (h : s * a + t * b = g) (m : g = 0 ∨ g.Mon) : IsGcd a b g :=
  ⟨l, r, fun d h1 h2 => by rw [← h]; exact dvd_add (Dvd.mul_l h1 s) (Dvd.mul_l h2 t), m⟩
theorem bezout_raw (a b : Poly F) : ∃ g s t, s * a + t * b = g ∧ g ∣ a ∧ g ∣ b := by
  induction hn : b.len using Nat.strongRecOn generalizing a b with
  | ind n ih =>
    by_cases hb : b = 0
    · exact ⟨a, 1, 0, by rw [one_mul, zero_mul, add_zero], dvd_refl a, by rw [hb]; exact dvd_zero a⟩
    · obtain ⟨q, r, hqr, hr⟩ := div_exists a hb
      obtain ⟨g, s, t, h, h1, h2⟩ := ih r.len (by omega) b r rfl
      refine ⟨g, t, s - t * q, ?_, ?_, h1⟩
      · rw [← h]
        conv => lhs; lhs; rw [hqr]
        rw [sub_mul, mul_add, mul_assoc, sub_def]
        have e : t * (q * b) + t * r + (s * b + -(t * (q * b))) = (t * (q * b) + -(t * (q * b))) + (s * b + t * r) := by ac_rfl
        rw [e, add_neg, zero_add]
      · rw [hqr]; exact dvd_add (Dvd.mul_l h1 q) h2
theorem gcd_exists (a b : Poly F) : ∃ g s t, IsGcd a b g ∧ s * a + t * b = g := by
  obtain ⟨g, s, t, h, h1, h2⟩ := bezout_raw a b
  have e : (C (CField.inv g.lc) * s) * a + (C (CField.inv g.lc) * t) * b = g.monic := by
    rw [mul_assoc, mul_assoc, ← mul_add, h]; rfl
  refine ⟨g.monic, _, _, .of_bezout (monic_dvd h1) (monic_dvd h2) e ?_, e⟩
  by_cases hg : g = 0
  · exact .inl (by rw [hg, monic_zero])
  · exact .inr (monic_mon hg)
theorem IsGcd.bezout {a b g : Poly F} (h : IsGcd a b g) : ∃ s t, s * a + t * b = g := by
  obtain ⟨g', s, t, h', e⟩ := gcd_exists a b
  exact ⟨s, t, by rw [e]; exact h'.unique h⟩
theorem IsGcd.mon_of {a b g : Poly F} (h : IsGcd a b g) (hn : a ≠ 0 ∨ b ≠ 0) : g.Mon := by
  rcases h.mon with e | m
  · exfalso
    have h1 := h.l; have h2 := h.r
    rw [e] at h1 h2
    rcases hn with hn | hn
    · exact hn (zero_dvd h1)
    · exact hn (zero_dvd h2)
  · exact m
/-- What has nothing in common with one of two that make a product divides the other one. -/
theorem coprime_dvd {a b c : Poly F} (h : IsGcd a b 1) (hd : a ∣ b * c) : a ∣ c := by
  obtain ⟨s, t, e⟩ := h.bezout
  have : c = (s * c) * a + t * (b * c) := by
    conv => lhs; rw [← one_mul c, ← e]
    rw [add_mul]; ac_rfl
  rw [this]
  exact dvd_add (dvd_mul_left _ _) (Dvd.mul_l hd t)

/-- Monic, not constant, and no product of two such. -/
structure Irr (q : Poly F) : Prop where
  mon : q.Mon
  len : 1 < q.len
  no : ∀ a b, q = a * b → a.len = 1 ∨ b.len = 1
theorem Irr.ne {q : Poly F} (h : q.Irr) : q ≠ 0 := h.mon.ne
theorem Irr.gcd {q : Poly F} (h : q.Irr) (a : Poly F) (hd : ¬ q ∣ a) : IsGcd q a 1 := by
  obtain ⟨g, s, t, hg, e⟩ := gcd_exists q a
  have hm := hg.mon_of (.inl h.ne)
  obtain ⟨x, hx⟩ := hg.l
  rcases h.no g x hx with h1 | h1
  · rw [hm.one_of_len h1] at hg; exact hg
  · exfalso
    obtain ⟨c, hc, rfl⟩ := len_one_iff.1 h1
    have hxm : (C c).Mon := hm.of_mul (hx ▸ h.mon)
    rw [hxm.one_of_len h1, mul_one] at hx
    exact hd (hx ▸ hg.r)
theorem Irr.prime {q a b : Poly F} (h : q.Irr) (hd : q ∣ a * b) : q ∣ a ∨ q ∣ b := by
  by_cases ha : q ∣ a
  · exact .inl ha
  · exact .inr (coprime_dvd (h.gcd a ha) hd)
theorem Irr.prime_pow {q a : Poly F} (h : q.Irr) {n : Nat} (hd : q ∣ a ^ n) : q ∣ a := by
  induction n with
  | zero =>
    exfalso
    rw [CRing.pow_zero] at hd
    have := len_le_of_dvd hd one_ne
    rw [len_one] at this
    have := h.len
    omega
  | succ n ih =>
    rw [CRing.pow_succ] at hd
    rcases h.prime hd with h1 | h1
    · exact ih h1
    · exact h1
theorem Irr.not_dvd_one {q : Poly F} (h : q.Irr) : ¬ q ∣ 1 := fun hd => by
  have := len_le_of_dvd hd one_ne
  rw [len_one] at this
  have := h.len
  omega
theorem Irr.not_dvd_C {q : Poly F} (h : q.Irr) {c : F} (hc : c ≠ 0) : ¬ q ∣ C c := fun hd => by
  have := len_le_of_dvd hd (C_ne hc)
  rw [len_C hc] at this
  have := h.len
  omega
theorem Irr.eq_of_dvd {q r : Poly F} (h : q.Irr) (k : r.Irr) (hd : q ∣ r) : q = r := by
  obtain ⟨x, hx⟩ := hd
  rcases k.no q x hx with h1 | h1
  · have := h.len; omega
  · have hxm : x.Mon := h.mon.of_mul (hx ▸ k.mon)
    rw [hx, hxm.one_of_len h1, mul_one]
theorem exists_irr {a : Poly F} (ha : 1 < a.len) : ∃ q, q.Irr ∧ q ∣ a := by
  induction hn : a.len using Nat.strongRecOn generalizing a with
  | ind n ih =>
    have ha0 : a ≠ 0 := fun e => by rw [e, len_zero] at ha; omega
    by_cases h : ∃ x y, a = x * y ∧ x.len ≠ 1 ∧ y.len ≠ 1
    · obtain ⟨x, y, hxy, hx, hy⟩ := h
      have hx0 : x ≠ 0 := fun e => ha0 (by rw [hxy, e, zero_mul])
      have hy0 : y ≠ 0 := fun e => ha0 (by rw [hxy, e, mul_zero])
      have h1 := (len_mul hx0 hy0).1
      have h2 := len_pos hx0
      have h3 := len_pos hy0
      rw [← hxy] at h1
      obtain ⟨q, hq, hd⟩ := ih x.len (by omega) (a := x) (by omega) rfl
      exact ⟨q, hq, by rw [hxy]; exact Dvd.mul_r hd y⟩
    · refine ⟨a.monic, ⟨monic_mon ha0, by rw [monic_len ha0]; exact ha, fun x y e => ?_⟩, monic_dvd (dvd_refl a)⟩
      have e2 : a = (C a.lc * x) * y := by rw [mul_assoc, ← e, C_lc_monic ha0]
      by_cases h1 : y.len = 1
      · exact .inr h1
      · left
        by_cases h2 : x.len = 1
        · exact h2
        · exact absurd ⟨C a.lc * x, y, e2, by rw [len_C_mul (lc_ne ha0)]; exact h2, h1⟩ h

/-- How often q is a factor. -/
theorem val_exists {q a : Poly F} (hq : 1 < q.len) (ha : a ≠ 0) : ∃ k, q ^ k ∣ a ∧ ¬ q ^ (k + 1) ∣ a := by
  have hq0 : q ≠ 0 := fun e => by rw [e, len_zero] at hq; omega
  have hb : ∃ n, ¬ q ^ n ∣ a := ⟨a.len, fun hd => by
    have h1 := len_le_of_dvd hd ha
    rw [len_pow hq0] at h1
    have : a.len * 1 ≤ a.len * (q.len - 1) := Nat.mul_le_mul_left _ (by omega)
    omega⟩
  obtain ⟨n, hn, hmin⟩ := least (fun n => ¬ q ^ n ∣ a) hb
  cases n with
  | zero => exact absurd (by rw [CRing.pow_zero]; exact one_dvd a) hn
  | succ k => exact ⟨k, Classical.not_not.1 (hmin k (by omega)), hn⟩
open Classical in
noncomputable def val (q a : Poly F) : Nat := if h : 1 < q.len ∧ a ≠ 0 then Classical.choose (val_exists h.1 h.2) else 0
theorem val_spec {q a : Poly F} (hq : 1 < q.len) (ha : a ≠ 0) : q ^ val q a ∣ a ∧ ¬ q ^ (val q a + 1) ∣ a := by
  unfold val
  rw [dif_pos ⟨hq, ha⟩]
  exact Classical.choose_spec (val_exists hq ha)
theorem dvd_iff_val {q a : Poly F} (hq : 1 < q.len) (ha : a ≠ 0) {k : Nat} : q ^ k ∣ a ↔ k ≤ val q a := by
  have h := val_spec hq ha
  constructor
  · intro hd
    refine Nat.le_of_not_lt fun hl => h.2 (dvd_trans (pow_dvd_pow q (by omega)) hd)
  · intro hk; exact dvd_trans (pow_dvd_pow q hk) h.1
theorem val_eq {q a : Poly F} (hq : 1 < q.len) (ha : a ≠ 0) {k : Nat} (h1 : q ^ k ∣ a) (h2 : ¬ q ^ (k + 1) ∣ a) : val q a = k := by
  have h3 := (dvd_iff_val hq ha).1 h1
  have h4 : ¬ k + 1 ≤ val q a := fun h => h2 ((dvd_iff_val hq ha).2 h)
  omega
theorem Irr.val_mul {q a b : Poly F} (h : q.Irr) (ha : a ≠ 0) (hb : b ≠ 0) : val q (a * b) = val q a + val q b := by
  obtain ⟨⟨x, hx⟩, h2⟩ := val_spec h.len ha
  obtain ⟨⟨y, hy⟩, h4⟩ := val_spec h.len hb
  have nx : ¬ q ∣ x := fun ⟨z, hz⟩ => h2 ⟨z, hx.trans (by rw [hz, CRing.pow_succ, mul_assoc])⟩
  have ny : ¬ q ∣ y := fun ⟨z, hz⟩ => h4 ⟨z, hy.trans (by rw [hz, CRing.pow_succ, mul_assoc])⟩
  have e : a * b = q ^ (val q a + val q b) * (x * y) := by
    conv => lhs; rw [hx, hy]
    rw [CRing.pow_add]; ac_rfl
  refine val_eq h.len (mul_ne ha hb) ⟨_, e⟩ fun hd => ?_
  rw [e, CRing.pow_succ] at hd
  rcases h.prime (dvd_of_mul (pow_ne h.ne _) hd) with h5 | h5
  · exact nx h5
  · exact ny h5
theorem val_one {q : Poly F} (h : q.Irr) : val q 1 = 0 := val_eq h.len one_ne (by rw [CRing.pow_zero]; exact dvd_refl 1) (by rw [CRing.pow_succ, CRing.pow_zero, one_mul]; exact h.not_dvd_one)
theorem Irr.val_C {q : Poly F} (h : q.Irr) {c : F} (hc : c ≠ 0) : val q (C c) = 0 :=
  val_eq h.len (C_ne hc) (by rw [CRing.pow_zero]; exact one_dvd _) (by rw [CRing.pow_succ, CRing.pow_zero, one_mul]; exact h.not_dvd_C hc)
theorem Irr.val_pow {q a : Poly F} (h : q.Irr) (ha : a ≠ 0) (n : Nat) : val q (a ^ n) = n * val q a := by
  induction n with
  | zero => rw [CRing.pow_zero, val_one h]; omega
  | succ n ih => rw [CRing.pow_succ, h.val_mul (pow_ne ha n) ha, ih, Nat.succ_mul]
theorem Irr.val_monic {q a : Poly F} (h : q.Irr) (ha : a ≠ 0) : val q a.monic = val q a := by
  unfold monic
  have h1 := CField.inv_ne (lc_ne ha)
  rw [h.val_mul (C_ne h1) ha, h.val_C h1, Nat.zero_add]
theorem Irr.dvd_val {q a : Poly F} (h : q.Irr) (ha : a ≠ 0) : q ∣ a ↔ 1 ≤ val q a := by
  rw [← dvd_iff_val h.len ha, CRing.pow_one]
open Classical in
theorem Irr.val_irr {q r : Poly F} (h : q.Irr) (k : r.Irr) : val q r = if q = r then 1 else 0 := by
  split
  · next e =>
    subst e
    refine val_eq h.len h.ne (by rw [CRing.pow_one]; exact dvd_refl q) fun hd => ?_
    have := len_le_of_dvd hd h.ne
    rw [len_pow h.ne] at this
    have := h.len
    omega
  · next e =>
    have : ¬ 1 ≤ val q r := fun hv => e (h.eq_of_dvd k ((h.dvd_val k.ne).2 hv))
    omega
theorem val_le_of_dvd {q a b : Poly F} (h : q.Irr) (hb : b ≠ 0) (hd : a ∣ b) : val q a ≤ val q b := by
  obtain ⟨x, rfl⟩ := hd
  have ha : a ≠ 0 := fun e => hb (by rw [e, zero_mul])
  have hx : x ≠ 0 := fun e => hb (by rw [e, mul_zero])
  rw [h.val_mul ha hx]; omega
/-- What has each factor no more often divides. -/
theorem dvd_of_val {a b : Poly F} (ha : a ≠ 0) (hb : b ≠ 0) (h : ∀ q, q.Irr → val q a ≤ val q b) : a ∣ b := by
  induction hn : a.len using Nat.strongRecOn generalizing a b with
  | ind n ih =>
    have hp := len_pos ha
    by_cases h1 : a.len = 1
    · obtain ⟨c, hc, rfl⟩ := len_one_iff.1 h1
      exact C_dvd hc b
    · obtain ⟨q, hq, x, hx⟩ := exists_irr (a := a) (by omega)
      have hx0 : x ≠ 0 := fun e => ha (by rw [hx, e, mul_zero])
      have h2 := h q hq
      have h3 : 1 ≤ val q a := (hq.dvd_val ha).1 ⟨x, hx⟩
      obtain ⟨y, hy⟩ := (hq.dvd_val hb).2 (by omega)
      have hy0 : y ≠ 0 := fun e => hb (by rw [hy, e, mul_zero])
      have h4 := (len_mul hq.ne hx0).1
      have h5 := len_pos hx0
      have h6 := hq.len
      rw [← hx] at h4
      have := ih x.len (by omega) hx0 hy0 (fun r hr => by
        have := h r hr
        rw [hx, hy, hr.val_mul hq.ne hx0, hr.val_mul hq.ne hy0] at this
        omega) rfl
      rw [hx, hy]
      exact mul_dvd_mul (dvd_refl q) this
theorem dvd_iff {a b : Poly F} (ha : a ≠ 0) (hb : b ≠ 0) : a ∣ b ↔ ∀ q, q.Irr → val q a ≤ val q b :=
  ⟨fun h _q hq => val_le_of_dvd hq hb h, dvd_of_val ha hb⟩
/-- What has the same factors, as often, is the same. -/
theorem Mon.eq_of_val {a b : Poly F} (ha : a.Mon) (hb : b.Mon) (h : ∀ q, q.Irr → val q a = val q b) : a = b :=
  ha.eq_of_dvd hb (dvd_of_val ha.ne hb.ne fun q hq => by rw [h q hq]; omega) (dvd_of_val hb.ne ha.ne fun q hq => by rw [h q hq]; omega)
theorem IsGcd.val {a b g : Poly F} (h : IsGcd a b g) (ha : a ≠ 0) (hb : b ≠ 0) {q : Poly F} (hq : q.Irr) : val q g = min (val q a) (val q b) := by
  have hg := (h.mon_of (.inl ha)).ne
  have h1 := val_le_of_dvd hq ha h.l
  have h2 := val_le_of_dvd hq hb h.r
  have h3 : q ^ min (Poly.val q a) (Poly.val q b) ∣ g := h.top _ ((dvd_iff_val hq.len ha).2 (by omega)) ((dvd_iff_val hq.len hb).2 (by omega))
  have h4 := (dvd_iff_val hq.len hg).1 h3
  omega
theorem IsGcd.zero_right {a g : Poly F} (h : IsGcd a 0 g) : g = a.monic := by
  refine h.unique ⟨monic_dvd (dvd_refl a), dvd_zero _, fun d h1 _ => dvd_monic h1, ?_⟩
  by_cases ha : a = 0
  · exact .inl (by rw [ha, monic_zero])
  · exact .inr (monic_mon ha)
theorem val_quot {q a b c : Poly F} (hq : q.Irr) (h : a = b * c) (ha : a ≠ 0) : val q c = val q a - val q b := by
  have hb : b ≠ 0 := fun e => ha (by rw [h, e, zero_mul])
  have hc : c ≠ 0 := fun e => ha (by rw [h, e, mul_zero])
  rw [h, hq.val_mul hb hc]; omega
theorem Mon.eq_one_of_val {a : Poly F} (ha : a.Mon) (h : ∀ q, q.Irr → val q a = 0) : a = 1 :=
  ha.eq_of_val mon_one fun q hq => by rw [h q hq, val_one hq]
end Poly
end Cl

namespace Cl
open CRing
theorem nsmul_add_right {R : Type} [CRing R] (n : Nat) (a b : R) : nsmul n (a + b) = nsmul n a + nsmul n b := by
  induction n with
  | zero => rw [nsmul_zero, nsmul_zero, nsmul_zero, add_zero]
  | succ n ih => rw [nsmul_succ, ih, nsmul_succ, nsmul_succ]; ac_rfl
theorem nsmul_neg {R : Type} [CRing R] (n : Nat) (a : R) : nsmul n (-a) = -nsmul n a := by
  induction n with
  | zero => rw [nsmul_zero, nsmul_zero, neg_zero]
  | succ n ih => rw [nsmul_succ, ih, nsmul_succ, neg_add_rev]
theorem mul_nsmul {R : Type} [CRing R] (n : Nat) (a b : R) : a * nsmul n b = nsmul n (a * b) := by
  rw [mul_comm, nsmul_mul_left, mul_comm]
theorem nsmul_sum {R : Type} [CRing R] (n m : Nat) (f : Nat → R) : nsmul n (sum m f) = sum m (fun i => nsmul n (f i)) := by
  induction m with
  | zero => rw [sum_zero, sum_zero, nsmul_of_zero]
  | succ m ih => rw [sum_succ, nsmul_add_right, ih, sum_succ]

namespace Poly
section
variable {F : Type} [CRing F]
/-- The derivative. -/
def D (a : Poly F) : Poly F := ⟨fun i => nsmul (i + 1) (a.co (i + 1)), by
  obtain ⟨n, hn⟩ := a.fin
  exact ⟨n, fun i hi => by rw [hn (i + 1) (by omega), nsmul_of_zero]⟩⟩
theorem co_D (a : Poly F) (i : Nat) : a.D.co i = nsmul (i + 1) (a.co (i + 1)) := rfl
theorem D_add (a b : Poly F) : (a + b).D = a.D + b.D := ext fun i => by
  rw [co_D, co_add, nsmul_add_right]; rfl
theorem D_neg (a : Poly F) : (-a).D = -a.D := ext fun i => by rw [co_D, co_neg, nsmul_neg]; rfl
theorem D_sub (a b : Poly F) : (a - b).D = a.D - b.D := by rw [sub_def, D_add, D_neg, sub_def]
theorem D_C (c : F) : (C c).D = 0 := ext fun i => by rw [co_D, co_C, if_neg (by omega), nsmul_of_zero]; rfl
theorem D_mul (a b : Poly F) : (a * b).D = a.D * b + a * b.D := ext fun n => by
  rw [co_D, co_add, co_mul, co_mul, co_mul, nsmul_sum]
  have e : sum (n + 1 + 1) (fun k => nsmul (n + 1) (a.co k * b.co (n + 1 - k))) = sum (n + 1 + 1) (fun k => nsmul k (a.co k) * b.co (n + 1 - k) + a.co k * nsmul (n + 1 - k) (b.co (n + 1 - k))) := by
    refine sum_congr fun k hk => ?_
    rw [nsmul_mul_left, mul_nsmul, ← nsmul_add, show k + (n + 1 - k) = n + 1 by omega]
  rw [e, sum_add]
  congr 1
  · rw [sum_succ', nsmul_zero, zero_mul, zero_add]
    refine sum_congr fun k hk => ?_
    rw [show n + 1 - (k + 1) = n - k by omega]; rfl
  · rw [sum_succ, Nat.sub_self, nsmul_zero, mul_zero, add_zero]
    refine sum_congr fun k hk => ?_
    rw [show n + 1 - k = n - k + 1 by omega]; rfl
theorem D_one : (1 : Poly F).D = 0 := D_C 1
theorem D_pow (a : Poly F) (n : Nat) : (a ^ (n + 1)).D = nsmul (n + 1) (a ^ n * a.D) := by
  induction n with
  | zero => rw [nsmul_one, CRing.pow_zero, one_mul, Nat.zero_add, CRing.pow_one]
  | succ n ih =>
    rw [CRing.pow_succ, D_mul, ih, nsmul_mul_left, nsmul_succ (n + 1)]
    congr 1
    congr 1
    rw [CRing.pow_succ]; ac_rfl
theorem Sh.D {a : Poly F} {n : Nat} (h : a.Sh (n + 1)) : a.D.Sh n := fun i hi => by rw [co_D, h (i + 1) (by omega), nsmul_of_zero]
/-- The value at a place. -/
def evalTo (a : Poly F) (x : F) (n : Nat) : F := sum n (fun i => a.co i * x ^ i)
end

variable {q : Prm}
theorem charP : CharP (Poly (Zp q)) q.p.toNat := by
  show nsmul _ _ = _
  have e : ∀ n, nsmul n (1 : Poly (Zp q)) = C (nsmul n 1) := by
    intro n
    induction n with
    | zero => rw [nsmul_zero, nsmul_zero, C_zero]
    | succ n ih => rw [nsmul_succ, ih, nsmul_succ, C_add, C_one]
  rw [e, Zp.charP q, C_zero]
theorem pnat_pos (q : Prm) : 0 < q.p.toNat := by have := q.pr.two; omega
/-- A polynomial is the sum of its terms. -/
theorem eq_sum {F : Type} [CRing F] {a : Poly F} {n : Nat} (h : a.Sh n) : a = sum n (fun i => mono i (a.co i)) := by
  have hs : ∀ m j, (sum m (fun i => mono i (a.co i))).co j = if j < m then a.co j else 0 := by
    intro m j
    induction m with
    | zero => rw [sum_zero, if_neg (by omega)]; rfl
    | succ m ih =>
      rw [sum_succ, co_add, ih, co_mono]
      by_cases e : j = m
      · subst e; rw [if_neg (by omega), if_pos rfl, if_pos (by omega), zero_add]
      · rw [if_neg e, add_zero]
        by_cases h1 : j < m
        · rw [if_pos h1, if_pos (by omega)]
        · rw [if_neg h1, if_neg (by omega)]
  exact ext fun j => by
    rw [hs]
    by_cases h1 : j < n
    · rw [if_pos h1]
    · rw [if_neg h1, h j (by omega)]
theorem mono_pow {F : Type} [CRing F] (n : Nat) (c : F) (k : Nat) : (mono n c) ^ k = mono (n * k) (c ^ k) := by
  induction k with
  | zero => rw [CRing.pow_zero, CRing.pow_zero, Nat.mul_zero]; rfl
  | succ k ih => rw [CRing.pow_succ, ih, mono_mul, CRing.pow_succ, Nat.mul_succ]
theorem co_sum {F : Type} [CRing F] (m : Nat) (f : Nat → Poly F) (j : Nat) : (sum m f).co j = sum m (fun i => (f i).co j) := by
  induction m with
  | zero => rfl
  | succ m ih => rw [sum_succ, co_add, ih, sum_succ]
/-- The coefficients of a p-th power. -/
theorem co_pow_p (a : Poly (Zp q)) (j : Nat) : (a ^ q.p.toNat).co j = if q.p.toNat ∣ j then a.co (j / q.p.toNat) else 0 := by
  obtain ⟨n, hn⟩ := a.fin
  have hp := pnat_pos q
  have e : a ^ q.p.toNat = sum n (fun i => mono (i * q.p.toNat) (a.co i)) := by
    conv => lhs; rw [eq_sum hn]
    rw [(charP (q := q)).sum_pow (Zp.pr_nat q)]
    exact sum_congr fun i _ => by rw [mono_pow, Zp.pow_p]
  rw [e, co_sum]
  split
  · next h =>
    obtain ⟨k, rfl⟩ := h
    rw [Nat.mul_div_cancel_left k hp]
    by_cases hk : k < n
    · rw [sum_single hk (fun i hi hne => ?_), co_mono, if_pos (Nat.mul_comm _ _)]
      rw [co_mono, if_neg fun e => hne (Nat.eq_of_mul_eq_mul_left hp (by rw [e, Nat.mul_comm])).symm]
    · rw [hn k (by omega)]
      exact sum_eq_zero fun i hi => by
        rw [co_mono, if_neg fun e => by
          have : k = i := Nat.eq_of_mul_eq_mul_left hp (by rw [e, Nat.mul_comm])
          omega]
  · next h =>
    exact sum_eq_zero fun i hi => by rw [co_mono, if_neg fun e => h ⟨i, by rw [e, Nat.mul_comm]⟩]
/-- Every p-th coefficient. -/
def root (a : Poly (Zp q)) : Poly (Zp q) := ⟨fun i => a.co (i * q.p.toNat), by
  obtain ⟨n, hn⟩ := a.fin
  exact ⟨n, fun i hi => hn _ (Nat.le_trans hi (Nat.le_mul_of_pos_right i (pnat_pos q)))⟩⟩
theorem nsmul_zp {n : Nat} {a : Zp q} : nsmul n a = Zp.of q n * a := by rw [nsmul_eq_mul, Zp.nsmul_one]
theorem of_nat_zero {n : Nat} : Zp.of q (n : Int) = 0 ↔ q.p.toNat ∣ n := by
  have h2 := q.pr.two
  rw [Zp.eq_zero_iff, Cg.zero_iff]
  constructor
  · intro h
    have : ((q.p.toNat : Nat) : Int) ∣ (n : Int) := by rwa [Int.toNat_of_nonneg (by omega)]
    exact Int.natCast_dvd_natCast.1 this
  · intro h
    have : ((q.p.toNat : Nat) : Int) ∣ (n : Int) := Int.natCast_dvd_natCast.2 h
    rwa [Int.toNat_of_nonneg (by omega)] at this
theorem D_zero_iff {a : Poly (Zp q)} : a.D = 0 ↔ ∀ i, ¬ q.p.toNat ∣ i → a.co i = 0 := by
  constructor
  · intro h i hi
    have hpos : 0 < i := Nat.pos_of_ne_zero fun e => hi ⟨0, by omega⟩
    have h1 : a.D.co (i - 1) = 0 := by rw [h]; rfl
    rw [co_D, show i - 1 + 1 = i by omega, nsmul_zp] at h1
    rcases CField.no_zero h1 with h2 | h2
    · exact absurd (of_nat_zero.1 h2) hi
    · exact h2
  · intro h
    refine ext fun i => ?_
    rw [co_D, nsmul_zp]
    by_cases hd : q.p.toNat ∣ i + 1
    · rw [of_nat_zero.2 hd, zero_mul]; rfl
    · rw [h _ hd, CRing.mul_zero]; rfl
theorem root_pow {a : Poly (Zp q)} (h : a.D = 0) : a.root ^ q.p.toNat = a := ext fun i => by
  rw [co_pow_p]
  split
  · next hd =>
    show a.co (i / q.p.toNat * q.p.toNat) = _
    rw [Nat.div_mul_cancel hd]
  · next hd => exact (D_zero_iff.1 h i hd).symm
theorem pow_p_D (a : Poly (Zp q)) : (a ^ q.p.toNat).D = 0 := by
  rw [D_zero_iff]
  intro i hi
  rw [co_pow_p, if_neg hi]
theorem root_ne {a : Poly (Zp q)} (h : a.D = 0) (ha : a ≠ 0) : a.root ≠ 0 := fun e => ha (by
  rw [← root_pow h, e]
  exact CRing.zero_pow (pnat_pos q))
theorem pow_p_inj {a b : Poly (Zp q)} (h : a ^ q.p.toNat = b ^ q.p.toNat) : a = b := ext fun i => by
  have := congrArg (fun x => x.co (i * q.p.toNat)) h
  simp only [co_pow_p] at this
  rwa [if_pos (Nat.dvd_mul_left _ _), if_pos (Nat.dvd_mul_left _ _), Nat.mul_div_cancel _ (pnat_pos q)] at this
theorem root_of_pow (a : Poly (Zp q)) : (a ^ q.p.toNat).root = a := pow_p_inj (root_pow (pow_p_D a))
/-- The derivative of one that can't be parted is not nought. -/
theorem Irr.D_ne {f : Poly (Zp q)} (h : f.Irr) : f.D ≠ 0 := fun e => by
  have hr := root_pow e
  have hp : 2 ≤ q.p.toNat := by have := q.pr.two; omega
  obtain ⟨n, hn⟩ : ∃ n, q.p.toNat = n + 1 := ⟨q.p.toNat - 1, by omega⟩
  have hne := root_ne e h.ne
  have hl := len_pow hne q.p.toNat
  rw [hr] at hl
  have h1 := h.len
  have h2 := len_pos hne
  rw [hn, CRing.pow_succ] at hr
  rcases h.no _ _ hr.symm with h3 | h3
  · rw [len_pow hne] at h3
    have : n * (f.root.len - 1) = 0 := by omega
    rcases Nat.mul_eq_zero.1 this with h4 | h4
    · omega
    · rw [h4, Nat.mul_zero] at hl; omega
  · rw [h3] at hl; simp at hl; omega
theorem D_len (a : Poly (Zp q)) : a.D.len ≤ a.len - 1 := by
  refine len_le fun i hi => ?_
  rw [co_D, len_sh a (i + 1) (by omega), nsmul_of_zero]
theorem Irr.not_dvd_D {f : Poly (Zp q)} (h : f.Irr) : ¬ f ∣ f.D := fun hd => by
  have h1 := len_le_of_dvd hd h.D_ne
  have h2 := D_len f
  have h3 := h.len
  omega
/-- How often a factor is in the derivative. -/
theorem Irr.val_D {f a : Poly (Zp q)} (h : f.Irr) (ha : a ≠ 0) : (¬ q.p.toNat ∣ val f a → f ^ (val f a - 1) ∣ a.D ∧ ¬ f ^ (val f a) ∣ a.D) ∧ (q.p.toNat ∣ val f a → f ^ (val f a) ∣ a.D) := by
  obtain ⟨⟨x, hx⟩, h2⟩ := val_spec h.len ha
  have nx : ¬ f ∣ x := fun ⟨z, hz⟩ => h2 ⟨z, hx.trans (by rw [hz, CRing.pow_succ, mul_assoc])⟩
  generalize val f a = e at *
  cases e with
  | zero =>
    refine ⟨fun hp => absurd ⟨0, by omega⟩ hp, fun _ => by rw [CRing.pow_zero]; exact one_dvd _⟩
  | succ e =>
    have hD : a.D = f ^ e * (nsmul (e + 1) (f.D * x) + f * x.D) := by
      rw [hx, D_mul, D_pow, nsmul_mul_left, mul_add, mul_nsmul, CRing.pow_succ]
      congr 1
      · congr 1; ac_rfl
      · ac_rfl
    constructor
    · intro hp
      refine ⟨⟨_, hD⟩, fun hd => ?_⟩
      rw [hD, CRing.pow_succ] at hd
      have h3 := dvd_of_mul (pow_ne h.ne _) hd
      rw [add_comm] at h3
      have h4 := dvd_of_add h3 (dvd_mul_right _ _)
      have h5 : nsmul (e + 1) (f.D * x) = C (Zp.of q ((e + 1 : Nat) : Int)) * (f.D * x) := by
        rw [nsmul_eq_mul]
        congr 1
        rw [← Zp.nsmul_one]
        have : ∀ n, nsmul n (1 : Poly (Zp q)) = C (nsmul n 1) := by
          intro n
          induction n with
          | zero => rw [nsmul_zero, nsmul_zero, C_zero]
          | succ n ih => rw [nsmul_succ, ih, nsmul_succ, C_add, C_one]
        exact this _
      rw [h5] at h4
      have hc : Zp.of q ((e + 1 : Nat) : Int) ≠ 0 := fun h0 => hp (of_nat_zero.1 h0)
      rcases h.prime h4 with h6 | h6
      · exact h.not_dvd_C hc h6
      · rcases h.prime h6 with h7 | h7
        · exact h.not_dvd_D h7
        · exact nx h7
    · intro hp
      rw [hD, (charP (q := q)).nsmul hp, zero_add, CRing.pow_succ]
      exact ⟨x.D, by ac_rfl⟩
/-- How often a factor is in what a polynomial has in common with its derivative. -/
theorem Irr.val_gcd_D {f a g : Poly (Zp q)} (h : f.Irr) (ha : a ≠ 0) (hg : IsGcd a a.D g) : val f g = if q.p.toNat ∣ val f a then val f a else val f a - 1 := by
  have hgm := (hg.mon_of (.inl ha)).ne
  have hle := val_le_of_dvd h ha hg.l
  obtain ⟨k1, k2⟩ := h.val_D ha
  split
  · next hp =>
    have := hg.top _ (val_spec h.len ha).1 (k2 hp)
    have := (dvd_iff_val h.len hgm).1 this
    omega
  · next hp =>
    obtain ⟨h1, h3⟩ := k1 hp
    have h4 := hg.top _ (dvd_trans (pow_dvd_pow f (by omega)) (val_spec h.len ha).1) h1
    have h5 := (dvd_iff_val h.len hgm).1 h4
    have h6 : ¬ val f a ≤ val f g := fun hv => h3 (dvd_trans ((dvd_iff_val h.len hgm).2 hv) hg.r)
    omega
end Poly
end Cl

namespace Cl
open CRing Poly

/-- The number of f's values up to n that are left without noughts at the end. -/
def plen (f : Nat → Int) : Nat → Nat
  | 0 => 0
  | n + 1 => if f n = 0 then plen f n else n + 1
theorem plen_le (f : Nat → Int) (n : Nat) : plen f n ≤ n := by
  induction n with
  | zero => exact Nat.le_refl _
  | succ n ih => unfold plen; split <;> omega
theorem plen_zero {f : Nat → Int} {n i : Nat} (h1 : plen f n ≤ i) (h2 : i < n) : f i = 0 := by
  induction n with
  | zero => omega
  | succ n ih =>
    unfold plen at h1
    split at h1
    · next h0 =>
      by_cases e : i = n
      · rw [e, h0]
      · exact ih h1 (by omega)
    · omega
theorem plen_top {f : Nat → Int} {n : Nat} (h : 0 < plen f n) : f (plen f n - 1) ≠ 0 := by
  induction n with
  | zero => unfold plen at h; omega
  | succ n ih =>
    unfold plen at h ⊢
    split at h
    · next h0 => rw [if_pos h0]; exact ih h
    · next h0 => rw [if_neg h0]; exact h0
theorem plen_drop {f : Nat → Int} {n : Nat} (h : f n = 0) : plen f (n + 1) = plen f n := by
  conv => lhs; unfold plen
  rw [if_pos h]
theorem plen_stop {f : Nat → Int} {n : Nat} (h : f n ≠ 0) : plen f (n + 1) = n + 1 := by
  conv => lhs; unfold plen
  rw [if_neg h]
theorem plen_congr {f g : Nat → Int} {n : Nat} (h : ∀ i, i < n → f i = g i) : plen f n = plen g n := by
  induction n with
  | zero => rfl
  | succ n ih => unfold plen; rw [h n (by omega), ih (fun i hi => h i (by omega))]

/-- Plain: residues, the last one not nought. -/
structure IsPl (p : Int) (xs : List Int) : Prop where
  pl : Pl p xs
  top : 0 < xs.length → nth xs (xs.length - 1) ≠ 0

section
variable {q : Prm}
/-- A list's polynomial. -/
def toP (q : Prm) (xs : List Int) : Poly (Zp q) := ⟨fun i => Zp.of q (nth xs i), xs.length, fun i hi => by rw [nth_ge hi]; rfl⟩
theorem co_toP (xs : List Int) (i : Nat) : (toP q xs).co i = Zp.of q (nth xs i) := rfl
/-- A polynomial's plain list. -/
noncomputable def fromP (a : Poly (Zp q)) : List Int := tab a.len (fun i => (a.co i).val)
theorem fromP_length (a : Poly (Zp q)) : (fromP a).length = a.len := tab_length _ _
theorem nth_fromP (a : Poly (Zp q)) (i : Nat) : nth (fromP a) i = (a.co i).val := by
  unfold fromP
  rw [nth_tab]
  split
  · rfl
  · next h => rw [len_sh a i (by omega)]; show 0 = (Zp.of q 0).val; rw [Zp.val_of, Int.zero_emod]
theorem toP_fromP (a : Poly (Zp q)) : toP q (fromP a) = a := Poly.ext fun i => by rw [co_toP, nth_fromP, Zp.of_val]
theorem zp_val_zero {a : Zp q} : a.val = 0 ↔ a = 0 := by
  constructor
  · intro h; rw [← Zp.of_val a, h]; rfl
  · rintro rfl; show (Zp.of q 0).val = 0; rw [Zp.val_of, Int.zero_emod]
theorem fromP_pl (a : Poly (Zp q)) : IsPl q.p (fromP a) := ⟨fun i => by rw [nth_fromP]; exact ⟨(a.co i).lo, (a.co i).hi⟩, fun h => by
  rw [fromP_length] at h ⊢
  rw [nth_fromP]
  exact fun e => len_top h (zp_val_zero.1 e)⟩
theorem of_pl {x : Int} (h1 : 0 ≤ x) (h2 : x < q.p) : (Zp.of q x).val = x := by rw [Zp.val_of]; exact Int.emod_eq_of_lt h1 h2
theorem IsPl.eq_fromP {xs : List Int} (h : IsPl q.p xs) : fromP (toP q xs) = xs := by
  have hl : (toP q xs).len = xs.length := by
    by_cases h0 : xs.length = 0
    · rw [h0]; exact Nat.le_zero.1 (len_le fun i _ => by rw [co_toP, nth_ge (by omega)]; rfl)
    · have e : xs.length = (xs.length - 1) + 1 := by omega
      rw [e]
      refine len_eq (fun i hi => by rw [co_toP, nth_ge (by omega)]; rfl) ?_
      rw [co_toP]
      intro hz
      have h1 := h.pl (xs.length - 1)
      have := zp_val_zero.2 hz
      rw [of_pl h1.1 h1.2] at this
      exact h.top (by omega) this
  refine list_ext (by rw [fromP_length, hl]) fun i hi => ?_
  rw [nth_fromP, co_toP, of_pl (h.pl i).1 (h.pl i).2]
theorem IsPl.len {xs : List Int} (h : IsPl q.p xs) : (toP q xs).len = xs.length := by
  conv => rhs; rw [← h.eq_fromP]
  rw [fromP_length]
theorem fromP_inj {a b : Poly (Zp q)} (h : fromP a = fromP b) : a = b := by rw [← toP_fromP a, h, toP_fromP]
theorem fromP_iff {a b : Poly (Zp q)} : eqI (fromP a) (fromP b) = decide (fromP a = fromP b) := rfl
theorem fromP_zero : fromP (0 : Poly (Zp q)) = [] := List.eq_nil_of_length_eq_zero (by rw [fromP_length, len_zero])
theorem fromP_nil {a : Poly (Zp q)} : (fromP a).length = 0 ↔ a = 0 := by rw [fromP_length]; exact len_eq_zero
/-- The residues of f's first n values, without noughts at the end. -/
def canon (n : Nat) (f : Nat → Int) (p : Int) : List Int := tab (plen (fun i => red (f i) p) n) (fun i => red (f i) p)
theorem canon_length (n : Nat) (f : Nat → Int) (p : Int) : (canon n f p).length = plen (fun i => red (f i) p) n := tab_length _ _
theorem canon_le (n : Nat) (f : Nat → Int) (p : Int) : (canon n f p).length ≤ n := by rw [canon_length]; exact plen_le _ _
theorem canon_eq {n : Nat} {f : Nat → Int} {a : Poly (Zp q)} (h : ∀ i, i < n → Zp.of q (f i) = a.co i) (hs : a.Sh n) : canon n f q.p = fromP a := by
  have hp := q.pr.two
  have hv : ∀ i, i < n → red (f i) q.p = (a.co i).val := fun i hi => by rw [red_of_pos (by omega), ← Zp.val_of, h i hi]
  have hl : plen (fun i => red (f i) q.p) n = a.len := by
    refine Nat.le_antisymm ?_ ?_
    · refine Nat.le_of_not_lt fun hlt => ?_
      refine plen_top (f := fun i => red (f i) q.p) (n := n) (by omega) ?_
      have := plen_le (fun i => red (f i) q.p) n
      show red (f _) q.p = 0
      rw [hv _ (by omega), len_sh a _ (by omega)]
      exact zp_val_zero.2 rfl
    · refine len_le fun i hi => ?_
      by_cases hin : i < n
      · have := plen_zero hi hin
        rw [hv i hin] at this
        exact zp_val_zero.1 this
      · exact hs i (by omega)
  unfold canon
  refine list_ext (by rw [tab_length, fromP_length, hl]) fun i hi => ?_
  rw [tab_length] at hi
  rw [nth_tab, if_pos hi, nth_fromP, hv i (by have := plen_le (fun i => red (f i) q.p) n; omega)]
theorem canon_toP (xs : List Int) : canon xs.length (nth xs) q.p = fromP (toP q xs) := canon_eq (fun _ _ => rfl) (fun i hi => by rw [co_toP, nth_ge hi]; rfl)

theorem toP_nil : toP q [] = 0 := Poly.ext fun i => by rw [co_toP, nth_ge (by simp)]; rfl
theorem toP_one (c : Int) : toP q [c] = C (Zp.of q c) := Poly.ext fun i => by
  rw [co_toP, co_C]
  by_cases h : i = 0
  · subst h; rfl
  · rw [if_neg h, nth_ge (by simp; omega)]; rfl
theorem toP_sh (xs : List Int) : (toP q xs).Sh xs.length := fun i hi => by rw [co_toP, nth_ge hi]; rfl
theorem len_toP_le (xs : List Int) : (toP q xs).len ≤ xs.length := len_le (toP_sh xs)
theorem toP_red (xs : List Int) : toP q (redRow xs q.p) = toP q xs := Poly.ext fun i => by
  rw [co_toP, nth_redRow, co_toP]
  exact Zp.of_cg (red_cg (by have := q.pr.two; omega))
theorem of_sum (n : Nat) (f : Nat → Int) : Zp.of q (sum n f) = sum n (fun i => Zp.of q (f i)) := by
  induction n with
  | zero => rfl
  | succ n ih => rw [sum_succ, Zp.of_add, ih, sum_succ]
/-- The coefficients of a product, of lists. -/
def mulAt (xs ys : List Int) (i : Nat) : Int := sum (i + 1) (fun k => nth xs k * nth ys (i - k))
theorem of_mulAt (xs ys : List Int) (i : Nat) : Zp.of q (mulAt xs ys i) = (toP q xs * toP q ys).co i := by
  unfold mulAt
  rw [of_sum, co_mul]
  exact sum_congr fun k _ => by rw [Zp.of_mul]; rfl
/-- The product of two lists. -/
def mulL (xs ys : List Int) (p : Int) : List Int := canon (xs.length + ys.length) (mulAt xs ys) p
theorem mulL_eq (xs ys : List Int) : mulL xs ys q.p = fromP (toP q xs * toP q ys) :=
  canon_eq (fun i _ => of_mulAt xs ys i) ((toP_sh xs).mul (toP_sh ys) (by omega))
def addL (xs ys : List Int) (k p : Int) : List Int := canon (max xs.length ys.length) (fun i => nth xs i + k * nth ys i) p
theorem of_add_mul (a b c : Int) : Zp.of q (a + c * b) = Zp.of q a + Zp.of q c * Zp.of q b := by rw [Zp.of_add, Zp.of_mul]
theorem addL_eq (xs ys : List Int) (k : Int) : addL xs ys k q.p = fromP (toP q xs + C (Zp.of q k) * toP q ys) := by
  refine canon_eq (fun i _ => ?_) (((toP_sh xs).mono (by omega)).add ?_)
  · rw [of_add_mul, co_add, co_C_mul]; rfl
  · intro i hi
    rw [co_C_mul, toP_sh ys i (by omega), CRing.mul_zero]
theorem toP_mulL (xs ys : List Int) : toP q (mulL xs ys q.p) = toP q xs * toP q ys := by rw [mulL_eq, toP_fromP]
theorem toP_addL (xs ys : List Int) (k : Int) : toP q (addL xs ys k q.p) = toP q xs + C (Zp.of q k) * toP q ys := by rw [addL_eq, toP_fromP]
theorem fromP_lt (a : Poly (Zp q)) (i : Nat) : 0 ≤ nth (fromP a) i ∧ nth (fromP a) i < q.p := (fromP_pl a).pl i
theorem fromP_i64 (a : Poly (Zp q)) (i : Nat) : I64 (nth (fromP a) i) := by
  have := fromP_lt a i
  have := q.pr.max
  exact I64.small (by omega) (by omega)
theorem fromP_top {a : Poly (Zp q)} (_h : a ≠ 0) : Zp.of q (nth (fromP a) (a.len - 1)) = a.lc := by rw [nth_fromP, Zp.of_val]; rfl
end

end Cl

namespace Cl
open CRing
namespace Poly
variable {F : Type} [CField F]
open Classical in
noncomputable def quo (a b : Poly F) : Poly F := if h : b ≠ 0 then Classical.choose (div_exists a h) else 0
open Classical in
noncomputable def rem (a b : Poly F) : Poly F := if h : b ≠ 0 then Classical.choose (Classical.choose_spec (div_exists a h)) else a
theorem div_spec (a : Poly F) {b : Poly F} (hb : b ≠ 0) : a = quo a b * b + rem a b ∧ (rem a b).len < b.len := by
  have h := Classical.choose_spec (Classical.choose_spec (div_exists a hb))
  unfold quo rem
  rw [dif_pos hb, dif_pos hb]
  exact h
theorem div_eq {a b q r : Poly F} (h : a = q * b + r) (hr : r.len < b.len) : quo a b = q ∧ rem a b = r := by
  have hb : b ≠ 0 := fun e => by rw [e, len_zero] at hr; omega
  obtain ⟨h1, h2⟩ := div_spec a hb
  exact div_unique (h1.symm.trans h) h2 hr
theorem rem_zero_iff {a b : Poly F} (hb : b ≠ 0) : rem a b = 0 ↔ b ∣ a := by
  obtain ⟨h1, h2⟩ := div_spec a hb
  constructor
  · intro h; rw [h, add_zero] at h1; exact ⟨quo a b, h1.trans (mul_comm _ _)⟩
  · rintro ⟨x, hx⟩
    exact (div_eq (q := x) (r := 0) (by rw [add_zero, hx, mul_comm]) (by rw [len_zero]; exact len_pos hb)).2
theorem quo_mul {a b : Poly F} (hb : b ≠ 0) (h : b ∣ a) : quo a b * b = a := by
  obtain ⟨h1, _⟩ := div_spec a hb
  rw [(rem_zero_iff hb).2 h, add_zero] at h1
  exact h1.symm
theorem quo_of_mul {b : Poly F} (hb : b ≠ 0) (c : Poly F) : quo (c * b) b = c ∧ rem (c * b) b = 0 :=
  div_eq (by rw [add_zero]) (by rw [len_zero]; exact len_pos hb)
theorem rem_of_lt {a b : Poly F} (h : a.len < b.len) : rem a b = a ∧ quo a b = 0 := by
  have := div_eq (a := a) (b := b) (q := 0) (r := a) (by rw [zero_mul, zero_add]) h
  exact ⟨this.2, this.1⟩
/-- Equal but for so many times b. -/
def Eqm (b x y : Poly F) : Prop := b ∣ x - y
section
variable {b x y z x' y' : Poly F}
theorem Eqm.refl (b x : Poly F) : Eqm b x x := by unfold Eqm; rw [sub_self]; exact dvd_zero b
theorem Eqm.symm (h : Eqm b x y) : Eqm b y x := by unfold Eqm at *; rw [← neg_sub]; exact dvd_neg h
theorem Eqm.trans (h : Eqm b x y) (k : Eqm b y z) : Eqm b x z := by
  unfold Eqm at *
  have e : x - z = (x - y) + (y - z) := by rw [sub_def, sub_def, sub_def, add_assoc, neg_add_cancel_left]
  rw [e]; exact dvd_add h k
theorem Eqm.add (h : Eqm b x y) (k : Eqm b x' y') : Eqm b (x + x') (y + y') := by
  unfold Eqm at *
  have e : x + x' - (y + y') = (x - y) + (x' - y') := by simp only [sub_def, neg_add_rev]; ac_rfl
  rw [e]; exact dvd_add h k
theorem Eqm.neg (h : Eqm b x y) : Eqm b (-x) (-y) := by
  unfold Eqm at *
  have e : -x - -y = -(x - y) := by simp only [sub_def, neg_add_rev]
  rw [e]; exact dvd_neg h
theorem Eqm.sub (h : Eqm b x y) (k : Eqm b x' y') : Eqm b (x - x') (y - y') := by rw [sub_def, sub_def]; exact h.add k.neg
theorem Eqm.mul (h : Eqm b x y) (k : Eqm b x' y') : Eqm b (x * x') (y * y') := by
  unfold Eqm at *
  have e : x * x' - y * y' = (x - y) * x' + y * (x' - y') := by
    rw [sub_mul, mul_sub, sub_def, sub_def, sub_def, add_assoc, neg_add_cancel_left]
  rw [e]; exact dvd_add (Dvd.mul_r h _) (Dvd.mul_l k _)
theorem Eqm.pow (h : Eqm b x y) (n : Nat) : Eqm b (x ^ n) (y ^ n) := by
  induction n with
  | zero => rw [CRing.pow_zero, CRing.pow_zero]; exact Eqm.refl _ _
  | succ n ih => rw [CRing.pow_succ, CRing.pow_succ]; exact ih.mul h
theorem Eqm.of_dvd {d : Poly F} (h : Eqm b x y) (hd : d ∣ b) : Eqm d x y := dvd_trans hd h
theorem eqm_zero : Eqm b x 0 ↔ b ∣ x := by unfold Eqm; rw [sub_zero]
theorem eqm_rem (x : Poly F) (hb : b ≠ 0) : Eqm b (rem x b) x := by
  obtain ⟨h1, _⟩ := div_spec x hb
  refine Eqm.symm ⟨quo x b, ?_⟩
  conv => lhs; lhs; rw [h1]
  rw [add_sub_cancel, mul_comm]
theorem rem_eq_of_eqm (hb : b ≠ 0) (h : Eqm b x y) : rem x b = rem y b := by
  obtain ⟨h1, h2⟩ := div_spec x hb
  obtain ⟨h3, h4⟩ := div_spec y hb
  obtain ⟨c, hc⟩ := h
  refine (div_eq (q := quo y b + c) (r := rem y b) ?_ h4).2
  have : x = y + b * c := by rw [← hc, add_comm, sub_add_cancel]
  rw [this, add_mul]
  conv => lhs; lhs; rw [h3]
  ac_rfl
theorem eqm_iff_rem (hb : b ≠ 0) : Eqm b x y ↔ rem x b = rem y b :=
  ⟨rem_eq_of_eqm hb, fun h => (eqm_rem x hb).symm.trans (by rw [h]; exact eqm_rem y hb)⟩
theorem rem_rem (x : Poly F) (hb : b ≠ 0) : rem (rem x b) b = rem x b := rem_eq_of_eqm hb (eqm_rem x hb)
theorem rem_len (x : Poly F) (hb : b ≠ 0) : (rem x b).len < b.len := (div_spec x hb).2
theorem rem_add (x y : Poly F) (hb : b ≠ 0) : rem (x + y) b = rem x b + rem y b := by
  obtain ⟨h1, h2⟩ := div_spec x hb
  obtain ⟨h3, h4⟩ := div_spec y hb
  refine (div_eq (q := quo x b + quo y b) ?_ ?_).2
  · rw [add_mul]
    conv => lhs; rw [h1, h3]
    ac_rfl
  · have h5 := ((len_sh (rem x b)).mono (show _ ≤ max (rem x b).len (rem y b).len by omega)).add ((len_sh (rem y b)).mono (show _ ≤ max (rem x b).len (rem y b).len by omega))
    have := len_le h5
    omega
end

noncomputable def gcdP (a b : Poly F) : Poly F := Classical.choose (gcd_exists a b)
theorem gcd_is (a b : Poly F) : IsGcd a b (gcdP a b) := by
  obtain ⟨s, t, h, _⟩ := Classical.choose_spec (gcd_exists a b)
  exact h

/-- A row of Euclid's way. -/
structure Row3 (F : Type) [CRing F] where
  g : Poly F
  s : Poly F
  t : Poly F
/-- The row that comes behind two. -/
noncomputable def Row3.next (x y : Row3 F) : Row3 F := ⟨x.g - quo x.g y.g * y.g, x.s - quo x.g y.g * y.s, x.t - quo x.g y.g * y.t⟩
theorem Row3.next_g {x y : Row3 F} (h : y.g ≠ 0) : (Row3.next x y).g = rem x.g y.g := by
  show x.g - quo x.g y.g * y.g = _
  have h1 := (div_spec x.g h).1
  conv => lhs; lhs; rw [h1]
  rw [add_comm, add_sub_cancel]
open Classical in
/-- The row at which Euclid's way ends. -/
noncomputable def euc : Nat → Row3 F → Row3 F → Row3 F
  | 0, x, _ => x
  | n + 1, x, y => if y.g = 0 then x else euc n y (Row3.next x y)
theorem euc_zero {n : Nat} {x y : Row3 F} (h : y.g = 0) : euc n x y = x := by
  cases n with
  | zero => rfl
  | succ n => unfold euc; rw [if_pos h]
theorem euc_fuel {n m : Nat} {x y : Row3 F} (hn : y.g.len ≤ n) (hm : y.g.len ≤ m) : euc n x y = euc m x y := by
  induction n generalizing m x y with
  | zero => rw [euc_zero (len_eq_zero.1 (by omega)), euc_zero (len_eq_zero.1 (by omega))]
  | succ n ih =>
    by_cases h : y.g = 0
    · rw [euc_zero h, euc_zero h]
    · have hp := len_pos h
      obtain ⟨k, rfl⟩ : ∃ k, m = k + 1 := ⟨m - 1, by omega⟩
      have hl := rem_len x.g h
      conv => lhs; unfold euc
      conv => rhs; unfold euc
      rw [if_neg h, if_neg h]
      exact ih (by rw [Row3.next_g h]; omega) (by rw [Row3.next_g h]; omega)
noncomputable def eucl (x y : Row3 F) : Row3 F := euc y.g.len x y
theorem eucl_zero {x y : Row3 F} (h : y.g = 0) : eucl x y = x := euc_zero h
theorem eucl_step {x y : Row3 F} (h : y.g ≠ 0) : eucl x y = eucl y (Row3.next x y) := by
  have hp := len_pos h
  have hl := rem_len x.g h
  unfold eucl
  obtain ⟨k, hk⟩ : ∃ k, y.g.len = k + 1 := ⟨y.g.len - 1, by omega⟩
  rw [hk]
  conv => lhs; unfold euc
  rw [if_neg h]
  exact euc_fuel (by rw [Row3.next_g h]; omega) (Nat.le_refl _)
/-- The row of Bezout: the divisor, monic, and of how many of both it is made. -/
noncomputable def bez (a b : Poly F) : Row3 F :=
  let r := eucl ⟨a, 1, 0⟩ ⟨b, 0, 1⟩
  ⟨r.g.monic, C (CField.inv r.g.lc) * r.s, C (CField.inv r.g.lc) * r.t⟩
theorem eucl_spec {a b : Poly F} (x y : Row3 F) (hx : x.s * a + x.t * b = x.g) (hy : y.s * a + y.t * b = y.g) (hd : ∀ d, d ∣ x.g ∧ d ∣ y.g ↔ d ∣ a ∧ d ∣ b) :
    (eucl x y).s * a + (eucl x y).t * b = (eucl x y).g ∧ ∀ d, d ∣ (eucl x y).g ↔ d ∣ a ∧ d ∣ b := by
  induction hn : y.g.len using Nat.strongRecOn generalizing x y with
  | ind n ih =>
    by_cases h : y.g = 0
    · rw [eucl_zero h]
      refine ⟨hx, fun d => ?_⟩
      rw [← hd d, h]
      exact ⟨fun k => ⟨k, dvd_zero d⟩, fun k => k.1⟩
    · rw [eucl_step h]
      refine ih (Row3.next x y).g.len (by rw [Row3.next_g h, ← hn]; exact rem_len _ h) y _ hy ?_ ?_ rfl
      · show (x.s - quo x.g y.g * y.s) * a + (x.t - quo x.g y.g * y.t) * b = x.g - quo x.g y.g * y.g
        rw [← hx, ← hy]
        generalize quo (x.s * a + x.t * b) (y.s * a + y.t * b) = u
        rw [sub_mul, sub_mul, mul_add, sub_def, sub_def, sub_def, neg_add_rev]
        have e1 : u * y.s * a = u * (y.s * a) := mul_assoc _ _ _
        have e2 : u * y.t * b = u * (y.t * b) := mul_assoc _ _ _
        rw [e1, e2]; ac_rfl
      · intro d
        rw [← hd d, Row3.next_g h]
        have h1 := (div_spec x.g h).1
        constructor
        · rintro ⟨k1, k2⟩
          exact ⟨by rw [h1]; exact dvd_add (Dvd.mul_l k1 _) k2, k1⟩
        · rintro ⟨k1, k2⟩
          refine ⟨k2, ?_⟩
          rw [h1] at k1
          exact dvd_of_add k1 (Dvd.mul_l k2 _)
theorem bez_spec (a b : Poly F) : (bez a b).s * a + (bez a b).t * b = (bez a b).g ∧ IsGcd a b (bez a b).g := by
  have h := eucl_spec (a := a) (b := b) ⟨a, 1, 0⟩ ⟨b, 0, 1⟩ (by rw [one_mul, zero_mul, add_zero]) (by rw [one_mul, zero_mul, zero_add]) (fun d => Iff.rfl)
  generalize hr : eucl (⟨a, 1, 0⟩ : Row3 F) ⟨b, 0, 1⟩ = r at h
  have e : bez a b = ⟨r.g.monic, C (CField.inv r.g.lc) * r.s, C (CField.inv r.g.lc) * r.t⟩ := by unfold bez; rw [hr]
  rw [e]
  have h1 : C (CField.inv r.g.lc) * r.s * a + C (CField.inv r.g.lc) * r.t * b = r.g.monic := by
    rw [mul_assoc, mul_assoc, ← mul_add, h.1]; rfl
  refine ⟨h1, .of_bezout (monic_dvd ((h.2 r.g).1 (dvd_refl _)).1) (monic_dvd ((h.2 r.g).1 (dvd_refl _)).2) h1 ?_⟩
  by_cases hg : r.g = 0
  · exact .inl (by rw [hg, monic_zero])
  · exact .inr (monic_mon hg)
theorem bez_g (a b : Poly F) : (bez a b).g = gcdP a b := (bez_spec a b).2.unique (gcd_is a b)
end Poly
end Cl

namespace Cl
open CRing
/-- A map that keeps sums and products. -/
structure Hom {F R : Type} [CRing F] [CRing R] (φ : F → R) : Prop where
  add : ∀ a b, φ (a + b) = φ a + φ b
  mul : ∀ a b, φ (a * b) = φ a * φ b
  one : φ 1 = 1
theorem Hom.zero {F R : Type} [CRing F] [CRing R] {φ : F → R} (h : Hom φ) : φ 0 = 0 := by
  have := h.add 0 0
  rw [add_zero] at this
  exact add_left_cancel (a := φ 0) (by rw [add_zero]; exact this.symm)
theorem Hom.neg {F R : Type} [CRing F] [CRing R] {φ : F → R} (h : Hom φ) (a : F) : φ (-a) = -φ a :=
  eq_neg_of_add (by rw [← h.add, add_neg, h.zero])
theorem Hom.sum {F R : Type} [CRing F] [CRing R] {φ : F → R} (h : Hom φ) (n : Nat) (f : Nat → F) : φ (sum n f) = CRing.sum n (fun i => φ (f i)) := by
  induction n with
  | zero => exact h.zero
  | succ n ih => rw [sum_succ, h.add, ih, sum_succ]
theorem hom_id {F : Type} [CRing F] : Hom (fun a : F => a) := ⟨fun _ _ => rfl, fun _ _ => rfl, rfl⟩
namespace Poly
theorem hom_C {F : Type} [CRing F] : Hom (C : F → Poly F) := ⟨C_add, fun a b => (C_mul_C a b).symm, C_one⟩

section
variable {F R : Type} [CRing F] [CRing R] {φ : F → R}
/-- The value, of the first n coefficients. -/
def evN (φ : F → R) (P : Poly F) (v : R) (n : Nat) : R := sum n (fun i => φ (P.co i) * v ^ i)
theorem evN_sh (hφ : Hom φ) {P : Poly F} {n m : Nat} (h : P.Sh n) (hm : n ≤ m) (v : R) : evN φ P v m = evN φ P v n :=
  sum_extend hm fun i h1 _ => by rw [h i h1, hφ.zero, zero_mul]
/-- The value. -/
noncomputable def ev (φ : F → R) (P : Poly F) (v : R) : R := evN φ P v P.len
theorem ev_eq (hφ : Hom φ) {P : Poly F} {n : Nat} (h : P.Sh n) (v : R) : ev φ P v = evN φ P v n := by
  have h1 := len_le h
  exact (evN_sh hφ (len_sh P) h1 v).symm
theorem ev_add (hφ : Hom φ) (P Q : Poly F) (v : R) : ev φ (P + Q) v = ev φ P v + ev φ Q v := by
  have hp := (len_sh P).mono (show P.len ≤ max P.len Q.len by omega)
  have hq := (len_sh Q).mono (show Q.len ≤ max P.len Q.len by omega)
  rw [ev_eq hφ (hp.add hq), ev_eq hφ hp, ev_eq hφ hq]
  unfold evN
  rw [← sum_add]
  exact sum_congr fun i _ => by rw [co_add, hφ.add, add_mul]
theorem ev_C (hφ : Hom φ) (c : F) (v : R) : ev φ (C c) v = φ c := by
  rw [ev_eq hφ (sh_C c)]
  unfold evN
  rw [sum_succ, sum_zero, zero_add, CRing.pow_zero, CRing.mul_one]; rfl
theorem ev_one (hφ : Hom φ) (v : R) : ev φ 1 v = 1 := by rw [← C_one, ev_C hφ, hφ.one]
theorem ev_zero (hφ : Hom φ) (v : R) : ev φ 0 v = 0 := by rw [← C_zero, ev_C hφ, hφ.zero]
theorem ev_mono (hφ : Hom φ) (n : Nat) (c : F) (v : R) : ev φ (mono n c) v = φ c * v ^ n := by
  rw [ev_eq hφ (n := n + 1) (fun i hi => by rw [co_mono, if_neg (by omega)])]
  unfold evN
  rw [sum_single (k := n) (by omega) (fun i _ hne => by rw [co_mono, if_neg hne, hφ.zero, zero_mul]), co_mono, if_pos rfl]
theorem ev_mul (hφ : Hom φ) (P Q : Poly F) (v : R) : ev φ (P * Q) v = ev φ P v * ev φ Q v := by
  have e1 : ev φ (P * Q) v = evN φ (P * Q) v (P.len + Q.len + 1) := ev_eq hφ ((len_sh P).mul (len_sh Q) (by omega)) v
  rw [e1]
  unfold evN
  have e2 : sum (P.len + Q.len + 1) (fun n => φ ((P * Q).co n) * v ^ n) = sum (P.len + Q.len + 1) (fun n => sum (n + 1) (fun k => φ (P.co k) * φ (Q.co (n - k)) * v ^ n)) := by
    refine sum_congr fun n _ => ?_
    rw [co_mul, hφ.sum, sum_mul]
    exact sum_congr fun k _ => by rw [hφ.mul]
  rw [e2, sum_tri (P.len + Q.len) (fun n k => φ (P.co k) * φ (Q.co (n - k)) * v ^ n)]
  have e3 : ∀ j, j < P.len + Q.len + 1 → sum (P.len + Q.len + 1 - j) (fun i => φ (P.co j) * φ (Q.co (j + i - j)) * v ^ (j + i)) = φ (P.co j) * v ^ j * ev φ Q v := by
    intro j hj
    by_cases hjp : j < P.len
    · have : ev φ Q v = evN φ Q v (P.len + Q.len + 1 - j) := ev_eq hφ ((len_sh Q).mono (by omega)) v
      rw [this]
      unfold evN
      rw [mul_sum]
      refine sum_congr fun i _ => ?_
      rw [show j + i - j = i by omega, CRing.pow_add]; ac_rfl
    · rw [len_sh P j (by omega), hφ.zero, zero_mul, zero_mul]
      exact sum_eq_zero fun i _ => by rw [zero_mul, zero_mul]
  rw [sum_congr e3, ← sum_mul]
  congr 1
  exact (ev_eq hφ ((len_sh P).mono (by omega)) v).symm
theorem ev_neg (hφ : Hom φ) (P : Poly F) (v : R) : ev φ (-P) v = -ev φ P v := eq_neg_of_add (by rw [← ev_add hφ, add_neg, ev_zero hφ])
theorem ev_sub (hφ : Hom φ) (P Q : Poly F) (v : R) : ev φ (P - Q) v = ev φ P v - ev φ Q v := by rw [CRing.sub_def, ev_add hφ, ev_neg hφ, CRing.sub_def]
theorem ev_pow (hφ : Hom φ) (P : Poly F) (v : R) (n : Nat) : ev φ (P ^ n) v = ev φ P v ^ n := by
  induction n with
  | zero => rw [CRing.pow_zero, CRing.pow_zero, ev_one hφ]
  | succ n ih => rw [CRing.pow_succ, ev_mul hφ, ih, CRing.pow_succ]
end

/-- x. -/
def X (F : Type) [CRing F] : Poly F := mono 1 1
theorem ev_X {F R : Type} [CRing F] [CRing R] {φ : F → R} (hφ : Hom φ) (v : R) : ev φ (X F) v = v := by
  unfold X; rw [ev_mono hφ, hφ.one, CRing.one_mul, CRing.pow_one]
theorem X_pow {F : Type} [CRing F] (n : Nat) : (X F) ^ n = mono n 1 := by
  unfold X; rw [mono_pow, Nat.one_mul, CRing.one_pow]
theorem sh_mono {F : Type} [CRing F] (n : Nat) (c : F) : (mono n c).Sh (n + 1) := fun i hi => by rw [co_mono, if_neg (by omega)]

section
variable {F : Type} [CField F]
theorem len_mono {n : Nat} {c : F} (h : c ≠ 0) : (mono n c).len = n + 1 := len_eq (sh_mono n c) (by rw [co_mono, if_pos rfl]; exact h)
/-- x less a number. -/
def lin (c : F) : Poly F := X F - C c
theorem co_lin (c : F) (i : Nat) : (lin c).co i = if i = 1 then 1 else if i = 0 then -c else 0 := by
  unfold lin X
  rw [co_sub, co_mono, co_C]
  by_cases h1 : i = 1
  · subst h1; rw [if_pos rfl, if_pos rfl, if_neg (by omega), CRing.sub_zero]
  · rw [if_neg h1, if_neg h1]
    split
    · rw [CRing.zero_sub]
    · rw [CRing.sub_zero]
theorem lin_len (c : F) : (lin c).len = 2 := len_eq (n := 1) (fun i hi => by rw [co_lin, if_neg (by omega), if_neg (by omega)]) (by rw [co_lin, if_pos rfl]; exact CField.one_ne)
theorem lin_mon (c : F) : (lin c).Mon := by
  unfold Mon lc
  rw [lin_len, co_lin, if_pos rfl]
theorem lin_irr (c : F) : (lin c).Irr := by
  refine ⟨lin_mon c, by rw [lin_len]; omega, fun a b e => ?_⟩
  have ha : a ≠ 0 := fun h => (lin_mon c).ne (by rw [e, h, CRing.zero_mul])
  have hb : b ≠ 0 := fun h => (lin_mon c).ne (by rw [e, h, CRing.mul_zero])
  have h1 := (len_mul ha hb).1
  rw [← e, lin_len] at h1
  have := len_pos ha
  have := len_pos hb
  omega
theorem lin_inj {a b : F} (h : lin a = lin b) : a = b := by
  have h1 : (lin a).co 0 = (lin b).co 0 := by rw [h]
  rw [co_lin, co_lin, if_neg (by omega), if_pos rfl, if_neg (by omega), if_pos rfl] at h1
  exact CRing.neg_inj h1
/-- A root parts. -/
theorem lin_dvd {P : Poly F} {c : F} : lin c ∣ P ↔ ev (fun a => a) P c = 0 := by
  have hid : Hom (fun a : F => a) := hom_id
  have hl : ev (fun a => a) (lin c) c = 0 := by
    unfold lin
    rw [ev_sub hid, ev_X hid, ev_C hid, CRing.sub_self]
  constructor
  · rintro ⟨x, rfl⟩
    rw [ev_mul hid, hl, CRing.zero_mul]
  · intro h
    obtain ⟨h1, h2⟩ := div_spec P (lin_mon c).ne
    rw [lin_len] at h2
    have h3 := eq_C ((len_sh (rem P (lin c))).mono (show _ ≤ 1 by omega))
    rw [h1, ev_add hid, ev_mul hid, hl, CRing.mul_zero, CRing.zero_add, h3, ev_C hid] at h
    rw [← rem_zero_iff (lin_mon c).ne, h3, h, C_zero]
end

variable {q : Prm}
/-- The product of x less each residue below n. -/
def allLin (q : Prm) : Nat → Poly (Zp q)
  | 0 => 1
  | n + 1 => allLin q n * lin (Zp.of q n)
theorem allLin_mon (n : Nat) : (allLin q n).Mon := by
  induction n with
  | zero => exact mon_one
  | succ n ih => exact ih.mul (lin_mon _)
theorem allLin_len (n : Nat) : (allLin q n).len = n + 1 := by
  induction n with
  | zero => exact len_one
  | succ n ih => unfold allLin; rw [(len_mul (allLin_mon n).ne (lin_mon _).ne).1, ih, lin_len]; omega
theorem of_inj_lt {i j : Nat} (hi : (i : Int) < q.p) (hj : (j : Int) < q.p) (h : Zp.of q i = Zp.of q j) : i = j := by
  have := (Zp.of_eq_iff.1 h).eq_of_lt (by omega) hi (by omega) hj
  omega
theorem val_allLin {n : Nat} (hn : (n : Int) ≤ q.p) {f : Poly (Zp q)} (hf : f.Irr) : val f (allLin q n) ≤ 1 ∧ (1 ≤ val f (allLin q n) → ∃ i, i < n ∧ f = lin (Zp.of q i)) := by
  induction n with
  | zero => unfold allLin; rw [val_one hf]; exact ⟨by omega, fun h => absurd h (by omega)⟩
  | succ n ih =>
    obtain ⟨h1, h2⟩ := ih (by omega)
    unfold allLin
    rw [hf.val_mul (allLin_mon n).ne (lin_mon _).ne, hf.val_irr (lin_irr _)]
    by_cases e : f = lin (Zp.of q n)
    · rw [if_pos e]
      have h3 : ¬ 1 ≤ val f (allLin q n) := fun h => by
        obtain ⟨i, hi, he⟩ := h2 h
        have := of_inj_lt (by omega) (by omega) (lin_inj (he.symm.trans e))
        omega
      exact ⟨by omega, fun _ => ⟨n, by omega, e⟩⟩
    · rw [if_neg e]
      exact ⟨by omega, fun h => by
        obtain ⟨i, hi, he⟩ := h2 (by omega)
        exact ⟨i, by omega, he⟩⟩
/-- x to the p-th power less x is that product. -/
theorem X_pow_p : (X (Zp q)) ^ q.p.toNat - X (Zp q) = allLin q q.p.toNat := by
  have h2 := q.pr.two
  have hid : Hom (fun a : Zp q => a) := hom_id
  have hco : ∀ i, ((X (Zp q)) ^ q.p.toNat - X (Zp q)).co i = (if i = q.p.toNat then 1 else 0) - (if i = 1 then 1 else 0) := fun i => by
    rw [X_pow, co_sub]; rfl
  have hlen : ((X (Zp q)) ^ q.p.toNat - X (Zp q)).len = q.p.toNat + 1 := len_eq (fun i hi => by rw [hco, if_neg (by omega), if_neg (by omega), CRing.sub_self]) (by rw [hco, if_pos rfl, if_neg (by omega), CRing.sub_zero]; exact CField.one_ne)
  have hmon : ((X (Zp q)) ^ q.p.toNat - X (Zp q)).Mon := by
    unfold Mon lc
    rw [hlen, Nat.add_sub_cancel, hco, if_pos rfl, if_neg (by omega), CRing.sub_zero]
  have hd : allLin q q.p.toNat ∣ (X (Zp q)) ^ q.p.toNat - X (Zp q) := dvd_of_val (allLin_mon _).ne hmon.ne fun f hf => by
    obtain ⟨h3, h4⟩ := val_allLin (q := q) (n := q.p.toNat) (by omega) hf
    by_cases h5 : 1 ≤ val f (allLin q q.p.toNat)
    · obtain ⟨i, hi, rfl⟩ := h4 h5
      have : lin (Zp.of q i) ∣ (X (Zp q)) ^ q.p.toNat - X (Zp q) := by
        rw [lin_dvd, ev_sub hid, ev_pow hid, ev_X hid, Zp.pow_p, CRing.sub_self]
      have := (hf.dvd_val hmon.ne).1 this
      omega
    · omega
  obtain ⟨x, hx⟩ := hd
  have hxm : x.Mon := (allLin_mon _).of_mul (hx ▸ hmon)
  have h5 := (len_mul (allLin_mon (q := q) q.p.toNat).ne hxm.ne).1
  rw [← hx, hlen, allLin_len] at h5
  have := len_pos hxm.ne
  rw [hx, hxm.one_of_len (by omega), CRing.mul_one]
/-- The same, of any polynomial in x's place. -/
def allSub (v : Poly (Zp q)) : Nat → Poly (Zp q)
  | 0 => 1
  | n + 1 => allSub v n * (v - C (Zp.of q n))
theorem ev_allLin (v : Poly (Zp q)) (n : Nat) : ev C (allLin q n) v = allSub v n := by
  induction n with
  | zero => exact ev_one hom_C v
  | succ n ih =>
    unfold allLin allSub lin
    rw [ev_mul hom_C, ih, ev_sub hom_C, ev_X hom_C, ev_C hom_C]
theorem pow_p_sub (v : Poly (Zp q)) : v ^ q.p.toNat - v = allSub v q.p.toNat := by
  rw [← ev_allLin, ← X_pow_p, ev_sub hom_C, ev_pow hom_C, ev_X hom_C]
/-- By an irreducible polynomial, what is its own p-th power is a number. -/
theorem Irr.const {f v : Poly (Zp q)} (hf : f.Irr) (h : Eqm f (v ^ q.p.toNat) v) : ∃ c : Zp q, Eqm f v (C c) := by
  unfold Eqm at h
  rw [pow_p_sub] at h
  have : ∀ n, f ∣ allSub v n → ∃ c : Zp q, f ∣ v - C c := by
    intro n
    induction n with
    | zero => intro h; exact absurd h hf.not_dvd_one
    | succ n ih =>
      intro h
      rcases hf.prime h with h1 | h1
      · exact ih h1
      · exact ⟨_, h1⟩
  exact this _ h
theorem Irr.eqm_C {f : Poly (Zp q)} (hf : f.Irr) {a b : Zp q} (h : Eqm f (C a) (C b)) : a = b := by
  apply Classical.byContradiction
  intro hne
  unfold Eqm at h
  have e : C a - C b = C (a - b) := by rw [CRing.sub_def, CRing.sub_def, C_add, C_neg]
  rw [e] at h
  exact hf.not_dvd_C (fun h0 => hne (CRing.sub_eq_zero.1 h0)) h
end Poly
end Cl

namespace Cl
open CRing Poly

/-- A list less so many times another one, moved n places up; the first k of them are done. -/
def subAt (r b : List Int) (c : Int) (n : Nat) (p : Int) (k : Nat) : List Int := tab r.length (fun i => if n ≤ i ∧ i < n + k then (nth r i + (p - c) * nth b (i - n)) % p else nth r i)
@[simp] theorem subAt_length (r b : List Int) (c : Int) (n : Nat) (p : Int) (k : Nat) : (subAt r b c n p k).length = r.length := tab_length _ _
theorem subAt_zero (r b : List Int) (c : Int) (n : Nat) (p : Int) : subAt r b c n p 0 = r := by
  conv => rhs; rw [eq_tab r]
  exact tab_congr fun i _ => if_neg (by omega)
theorem nth_subAt (r b : List Int) (c : Int) (n : Nat) (p : Int) (k : Nat) {i : Nat} (h : i < r.length) : nth (subAt r b c n p k) i = if n ≤ i ∧ i < n + k then (nth r i + (p - c) * nth b (i - n)) % p else nth r i := by
  unfold subAt; rw [nth_tab, if_pos h]
theorem nth_subAt_at (r b : List Int) (c : Int) (n : Nat) (p : Int) (k : Nat) (h : n + k < r.length) : nth (subAt r b c n p k) (n + k) = nth r (n + k) := by
  rw [nth_subAt r b c n p k h, if_neg (by omega)]
theorem subAt_set (r b : List Int) (c : Int) (n : Nat) (p : Int) (k : Nat) (h : n + k < r.length) : (subAt r b c n p k).set (n + k) ((nth r (n + k) + (p - c) * nth b k) % p) = subAt r b c n p (k + 1) := by
  unfold subAt
  rw [tab_set h]
  refine tab_congr fun i _ => ?_
  by_cases e : i = n + k
  · subst e; rw [if_pos rfl, if_pos (by omega), show n + k - n = k by omega]
  · rw [if_neg e]
    by_cases h1 : n ≤ i ∧ i < n + k
    · rw [if_pos h1, if_pos (by omega)]
    · rw [if_neg h1, if_neg (by omega)]
theorem subAt_pl {r b : List Int} {c : Int} {n : Nat} {p : Int} {k : Nat} (hp : 1 ≤ p) (h : Pl p r) : Pl p (subAt r b c n p k) := by
  refine Pl.of_tab hp fun i _ => ?_
  split
  · exact emod_bd _ hp
  · exact h i

section
variable {q : Prm}
theorem toP_subAt {r b : List Int} {c : Int} {n : Nat} (hn : n + b.length ≤ r.length) : toP q (subAt r b c n q.p b.length) = toP q r - mono n (Zp.of q c) * toP q b := Poly.ext fun i => by
  rw [co_sub, co_mono_mul, co_toP, co_toP]
  by_cases hi : i < r.length
  · rw [nth_subAt _ _ _ _ _ _ hi]
    by_cases h1 : n ≤ i
    · rw [if_pos h1]
      by_cases h2 : i < n + b.length
      · rw [if_pos ⟨h1, h2⟩, co_toP, ← Zp.of_mul, ← Zp.of_sub]
        refine Zp.of_cg ((Cg.emod_left _ _).trans ⟨nth b (i - n), by grind⟩)
      · rw [if_neg (by omega), co_toP, nth_ge (xs := b) (by omega), Zp.of_zero, CRing.mul_zero, CRing.sub_zero]
    · rw [if_neg (by omega), if_neg h1, CRing.sub_zero]
  · rw [nth_ge (xs := subAt r b c n q.p b.length) (by simp; omega), nth_ge (xs := r) (by omega), if_pos (by omega), co_toP, nth_ge (xs := b) (by omega), Zp.of_zero, CRing.mul_zero, CRing.sub_zero]
theorem toP_set {xs : List Int} {n : Nat} (hn : n < xs.length) (h0 : nth xs n = 0) (c : Int) : toP q (xs.set n c) = toP q xs + mono n (Zp.of q c) := Poly.ext fun i => by
  rw [co_add, co_mono, co_toP, co_toP, nth_set hn]
  by_cases e : i = n
  · rw [if_pos e, if_pos e, e, h0, Zp.of_zero, CRing.zero_add]
  · rw [if_neg e, if_neg e, CRing.add_zero]
theorem set_pl {p : Int} {xs : List Int} {n : Nat} {c : Int} (h : Pl p xs) (hc : 0 ≤ c ∧ c < p) : Pl p (xs.set n c) := by
  intro j
  by_cases hi : n < xs.length
  · rw [nth_set hi]; split
    · exact hc
    · exact h j
  · rw [List.set_eq_of_length_le (by omega)]; exact h j

/-- The program's way: m rounds are left. -/
structure DivSt (q : Prm) (a b : List Int) (m : Nat) (qs r : List Int) : Prop where
  eq : toP q a = toP q qs * toP q b + toP q r
  zr : ∀ i, m + b.length ≤ i + 1 → nth r i = 0
  zq : ∀ i, i < m → nth qs i = 0
  pr : Pl q.p r
  pq : Pl q.p qs
  lr : r.length = a.length
  lq : qs.length = a.length - b.length + 1
theorem DivSt.start {a b : List Int} (ha : Pl q.p a) (hl : b.length ≤ a.length) : DivSt q a b (a.length - b.length + 1) (List.replicate (a.length - b.length + 1) 0) a := by
  have hz : ∀ i, nth (List.replicate (a.length - b.length + 1) 0) i = 0 := fun i => by
    by_cases h : i < a.length - b.length + 1
    · rw [nth_lt (by simpa using h)]; simp
    · exact nth_ge (by simp; omega)
  refine ⟨?_, fun i hi => nth_ge (by omega), fun i _ => hz i, ha, fun i => ?_, rfl, by simp⟩
  · have : toP q (List.replicate (a.length - b.length + 1) 0) = 0 := Poly.ext fun i => by rw [co_toP, hz]; rfl
    rw [this, CRing.zero_mul, CRing.zero_add]
  · rw [hz]; have := q.pr.two; omega
theorem DivSt.step {a b : List Int} {m : Nat} {qs r : List Int} (h : DivSt q a b (m + 1) qs r) (hb : IsPl q.p b) (hb0 : 0 < b.length) (hm : m + b.length ≤ a.length) {top c : Int} (ht : top = invm (nth b (b.length - 1)) q.p)
    (hc : c = nth r (m + b.length - 1) * top % q.p) : DivSt q a b m (qs.set m c) (subAt r b c m q.p b.length) := by
  have hp := q.pr.two
  have hcb : 0 ≤ c ∧ c < q.p := by rw [hc]; exact emod_bd _ (by omega)
  have hlr := h.lr
  refine ⟨?_, fun i hi => ?_, fun i hi => ?_, subAt_pl (by omega) h.pr, set_pl h.pq hcb, by simp [hlr], by simp [h.lq]⟩
  · have hlq := h.lq
    rw [toP_set (by omega) (h.zq m (by omega)), toP_subAt (by omega), h.eq, CRing.add_mul, CRing.sub_def]
    generalize toP q qs * toP q b = x
    generalize mono m (Zp.of q c) * toP q b = y
    rw [CRing.add_assoc, CRing.add_left_comm y, CRing.add_neg, CRing.add_zero]
  · by_cases hi2 : i < r.length
    · rw [nth_subAt _ _ _ _ _ _ hi2]
      by_cases e : i + 1 = m + b.length
      · rw [if_pos (by omega), show i - m = b.length - 1 by omega, ← Cg.zero_iff_emod]
        have hne : ¬ Cg q.p (nth b (b.length - 1)) 0 := fun hz => by
          have h1 := hb.pl (b.length - 1)
          rw [Cg.zero_iff_emod, Int.emod_eq_of_lt h1.1 h1.2] at hz
          exact hb.top hb0 hz
        have hs := (invm_spec q.pr hne).2.2
        rw [← ht] at hs
        have e2 : m + b.length - 1 = i := by omega
        rw [e2] at hc
        have h3 : Cg q.p c (nth r i * top) := by rw [hc]; exact Cg.emod_left _ _
        have h4 : Cg q.p (c * nth b (b.length - 1)) (nth r i * 1) := ((h3.mul (Cg.refl _ _)).trans (Cg.of_eq (by grind : nth r i * top * nth b (b.length - 1) = nth r i * (nth b (b.length - 1) * top)))).trans ((Cg.refl _ _).mul hs)
        obtain ⟨k, hk⟩ := h4
        exact ⟨nth b (b.length - 1) - k, by grind⟩
      · rw [if_neg (by omega)]; exact h.zr i (by omega)
    · exact nth_ge (by simp; omega)
  · have hlq := h.lq
    rw [nth_set (by omega), if_neg (by omega)]; exact h.zq i (by omega)
theorem DivSt.done {a b : List Int} {qs r : List Int} (h : DivSt q a b 0 qs r) (hb : IsPl q.p b) (hb0 : 0 < b.length) : quo (toP q a) (toP q b) = toP q qs ∧ rem (toP q a) (toP q b) = toP q r := by
  refine div_eq h.eq ?_
  rw [hb.len]
  have : (toP q r).Sh (b.length - 1) := fun i hi => by rw [co_toP, h.zr i (by omega)]; rfl
  have := len_le this
  omega

/-- The document's way. -/
structure RDivSt (q : Prm) (A B : Poly (Zp q)) (qs : List Int) (R : Poly (Zp q)) : Prop where
  eq : A = toP q qs * B + R
  zq : ∀ i, i + B.len ≤ R.len → nth qs i = 0
  pq : Pl q.p qs
  lq : qs.length = A.len + 1
  lr : R.len ≤ A.len
theorem RDivSt.start (A B : Poly (Zp q)) : RDivSt q A B (List.replicate (A.len + 1) 0) A := by
  have hz : ∀ i, nth (List.replicate (A.len + 1) 0) i = 0 := fun i => by
    by_cases h : i < A.len + 1
    · rw [nth_lt (by simpa using h)]; simp
    · exact nth_ge (by simp; omega)
  refine ⟨?_, fun i _ => hz i, fun i => ?_, by simp, Nat.le_refl _⟩
  · have : toP q (List.replicate (A.len + 1) 0) = 0 := Poly.ext fun i => by rw [co_toP, hz]; rfl
    rw [this, CRing.zero_mul, CRing.zero_add]
  · rw [hz]; have := q.pr.two; omega
theorem RDivSt.step {A B R : Poly (Zp q)} {qs : List Int} (h : RDivSt q A B qs R) (hB : B ≠ 0) (hl : B.len ≤ R.len) {c : Int} (hcb : 0 ≤ c ∧ c < q.p) (hc : Zp.of q c = R.lc * CField.inv B.lc) :
    RDivSt q A B (qs.set (R.len - B.len) c) (R - mono (R.len - B.len) (Zp.of q c) * B) ∧ (R - mono (R.len - B.len) (Zp.of q c) * B).len < R.len := by
  have hBp := len_pos hB
  have hlq := h.lq
  have hlr := h.lr
  have hlen : (R - mono (R.len - B.len) (Zp.of q c) * B).Sh (R.len - 1) := fun i hi => by
    rw [co_sub, co_mono_mul, if_pos (by omega)]
    by_cases e : i = R.len - 1
    · have e2 : i - (R.len - B.len) = B.len - 1 := by omega
      rw [e2, e, hc]
      show R.lc - R.lc * CField.inv B.lc * B.lc = 0
      rw [CRing.mul_assoc, CField.inv_mul (lc_ne hB), CRing.mul_one, CRing.sub_self]
    · rw [len_sh R i (by omega), len_sh B _ (by omega), CRing.mul_zero, CRing.sub_self]
  have hlt := len_le hlen
  refine ⟨⟨?_, fun i hi => ?_, set_pl h.pq hcb, by simp [hlq], by omega⟩, by omega⟩
  · rw [toP_set (by omega) (h.zq _ (by omega))]
    conv => lhs; rw [h.eq]
    rw [CRing.add_mul, CRing.sub_def]
    generalize toP q qs * B = x
    generalize mono (R.len - B.len) (Zp.of q c) * B = y
    rw [CRing.add_assoc, CRing.add_left_comm y, CRing.add_neg, CRing.add_zero]
  · rw [nth_set (by omega), if_neg (by omega)]; exact h.zq i (by omega)
theorem RDivSt.done {A B R : Poly (Zp q)} {qs : List Int} (h : RDivSt q A B qs R) (hl : R.len < B.len) : quo A B = toP q qs ∧ rem A B = R := div_eq h.eq hl
/-- So many noughts, and then a list times a number. -/
def movedL (n : Nat) (ys : List Int) (c p : Int) : List Int := tab (n + ys.length) (fun i => if i < n then 0 else nth ys (i - n) * c % p)
theorem toP_movedL (n : Nat) (ys : List Int) (c : Int) : toP q (movedL n ys c q.p) = mono n (Zp.of q c) * toP q ys := Poly.ext fun i => by
  rw [co_mono_mul, co_toP]
  unfold movedL
  rw [nth_tab]
  by_cases h : n ≤ i
  · rw [if_pos h]
    by_cases h2 : i < n + ys.length
    · rw [if_pos h2, if_neg (by omega), co_toP, ← Zp.of_mul]
      exact Zp.of_cg ((Cg.emod_left _ _).trans (Cg.of_eq (Int.mul_comm _ _)))
    · rw [if_neg h2, co_toP, nth_ge (xs := ys) (by omega), Zp.of_zero, CRing.mul_zero]
  · rw [if_neg h]; split
    · rw [if_pos (by omega)]; rfl
    · rfl
/-- Fermat's inverse. -/
theorem fermat_inv {p : Int} (hp : Pr p) {a : Int} (ha : 0 < a ∧ a < p) (h2 : 2 < p) : powm a (p - 2).toNat p = invm a p := by
  have hne : ¬ Cg p a 0 := fun h => by rw [Cg.zero_iff_emod, Int.emod_eq_of_lt (by omega) ha.2] at h; omega
  have hb := powm_bd a (p - 2).toNat (p := p) (by omega)
  refine invm_unique hp hb.1 hb.2 ?_
  have h1 : Cg p (a * powm a (p - 2).toNat p) (a ^ ((p - 2).toNat + 1)) := ((Cg.refl p a).mul (powm_cg a _ p)).trans (Cg.of_eq (by rw [Int.pow_succ, Int.mul_comm]))
  refine h1.trans ?_
  have h3 : Cg p (a * a ^ ((p - 2).toNat + 1)) (a * 1) := by
    have e : a * a ^ ((p - 2).toNat + 1) = a ^ p.toNat := by
      rw [show p.toNat = (p - 2).toNat + 1 + 1 by omega, Int.pow_succ a ((p - 2).toNat + 1), Int.mul_comm]
    rw [e, Int.mul_one]
    have h4 := fermat hp a
    have h5 := powm_cg a p.toNat p
    rw [h4] at h5
    exact h5.symm.trans (red_cg (by omega))
  exact hp.cancel hne h3
end
end Cl

namespace Cl
open CRing Poly
variable {q : Prm}
theorem toP_upd {xs : List Int} {n : Nat} (hn : n < xs.length) (v : Int) : toP q (xs.set n v) = toP q xs + mono n (Zp.of q v - Zp.of q (nth xs n)) := Poly.ext fun i => by
  rw [co_add, co_mono, co_toP, co_toP, nth_set hn]
  by_cases e : i = n
  · subst e; rw [if_pos rfl, if_pos rfl, CRing.add_comm, CRing.sub_add_cancel]
  · rw [if_neg e, if_neg e, CRing.add_zero]
/-- The product's list, i rows and k places of the next one done. -/
structure MulSt (q : Prm) (xs ys : List Int) (i k : Nat) (out : List Int) : Prop where
  len : out.length = xs.length + ys.length
  pl : Pl q.p out
  eq : toP q out = sum i (fun t => mono t (Zp.of q (nth xs t))) * toP q ys + sum k (fun s => mono (i + s) (Zp.of q (nth xs i) * Zp.of q (nth ys s)))
theorem MulSt.start (xs ys : List Int) : MulSt q xs ys 0 0 (List.replicate (xs.length + ys.length) 0) := by
  have hz : ∀ i, nth (List.replicate (xs.length + ys.length) 0) i = 0 := fun i => by
    by_cases h : i < xs.length + ys.length
    · rw [nth_lt (by simpa using h)]; simp
    · exact nth_ge (by simp; omega)
  refine ⟨by simp, fun i => by rw [hz]; have := q.pr.two; omega, ?_⟩
  rw [sum_zero, sum_zero, CRing.zero_mul, CRing.add_zero]
  exact Poly.ext fun i => by rw [co_toP, hz]; rfl
theorem MulSt.step {xs ys out : List Int} {i k : Nat} (h : MulSt q xs ys i k out) (hi : i < xs.length) (hk : k < ys.length) : MulSt q xs ys i (k + 1) (out.set (i + k) ((nth out (i + k) + nth xs i * nth ys k) % q.p)) := by
  have hl := h.len
  refine ⟨by simp [hl], set_pl h.pl (emod_bd _ (by have := q.pr.two; omega)), ?_⟩
  rw [toP_upd (by omega), h.eq, sum_succ, CRing.add_assoc]
  congr 2
  congr 1
  have e : Zp.of q ((nth out (i + k) + nth xs i * nth ys k) % q.p) = Zp.of q (nth out (i + k)) + Zp.of q (nth xs i) * Zp.of q (nth ys k) := by
    rw [← Zp.of_mul, ← Zp.of_add]; exact Zp.of_cg (Cg.emod_left _ _)
  rw [e, CRing.add_comm, CRing.add_sub_cancel]
theorem MulSt.row {xs ys out : List Int} {i : Nat} (h : MulSt q xs ys i ys.length out) : MulSt q xs ys (i + 1) 0 out := by
  refine ⟨h.len, h.pl, ?_⟩
  rw [h.eq, sum_succ, sum_zero, CRing.add_zero, CRing.add_mul]
  congr 1
  conv => rhs; rw [eq_sum (toP_sh (q := q) ys)]
  rw [mul_sum]
  exact sum_congr fun s _ => by rw [mono_mul]; rfl
theorem MulSt.done {xs ys out : List Int} (h : MulSt q xs ys xs.length 0 out) : toP q out = toP q xs * toP q ys := by
  rw [h.eq, sum_zero, CRing.add_zero]
  conv => rhs; rw [eq_sum (toP_sh (q := q) xs)]
  rfl
end Cl

namespace Cl
open CRing Poly
variable {q : Prm}
/-- The derivative's list. -/
theorem canon_D {xs : List Int} {f : Nat → Int} (h : ∀ i, i + 1 < xs.length → Cg q.p (f i) (((i + 1 : Nat) : Int) * nth xs (i + 1))) : canon (xs.length - 1) f q.p = fromP (toP q xs).D := by
  refine canon_eq (fun i hi => ?_) (fun i hi => ?_)
  · rw [co_D, nsmul_zp, co_toP, ← Zp.of_mul]
    exact Zp.of_cg (h i (by omega))
  · rw [co_D, co_toP, nth_ge (by omega), Zp.of_zero, nsmul_of_zero]
/-- Horner's way: the first d of n numbers, from the top. -/
def horn (f : Nat → Int) (x p : Int) (n : Nat) : Nat → Int
  | 0 => 0
  | d + 1 => (horn f x p n d * x + f (n - 1 - d)) % p
theorem horn_bd (f : Nat → Int) (x : Int) {p : Int} (hp : 1 ≤ p) (n d : Nat) : 0 ≤ horn f x p n d ∧ horn f x p n d < p := by
  cases d with
  | zero => show 0 ≤ (0 : Int) ∧ (0 : Int) < p; omega
  | succ d => exact emod_bd _ hp
theorem of_horn (f : Nat → Int) (x : Int) (n : Nat) {d : Nat} (hd : d ≤ n) : Zp.of q (horn f x q.p n d) = sum d (fun i => Zp.of q (f (n - d + i)) * Zp.of q x ^ i) := by
  induction d with
  | zero => rfl
  | succ d ih =>
    have e : Zp.of q (horn f x q.p n (d + 1)) = Zp.of q (horn f x q.p n d) * Zp.of q x + Zp.of q (f (n - 1 - d)) := by
      rw [← Zp.of_mul, ← Zp.of_add]
      exact Zp.of_cg (Cg.emod_left _ _)
    rw [e, ih (by omega), sum_succ', sum_mul, add_comm]
    congr 1
    · rw [CRing.pow_zero, CRing.mul_one]; congr 2; omega
    · refine sum_congr fun i _ => ?_
      rw [CRing.pow_succ, show n - (d + 1) + (i + 1) = n - d + i by omega]; ac_rfl
/-- The value of a list at a place. -/
noncomputable def valP (q : Prm) (xs : List Int) (x : Int) : Int := (ev (fun a => a) (toP q xs) (Zp.of q x)).val
theorem horn_val {f : Nat → Int} {x : Int} {n : Nat} {xs : List Int} (hn : xs.length ≤ n) (h : ∀ i, i < n → Cg q.p (f i) (nth xs i)) : horn f x q.p n n = valP q xs x := by
  have hb := horn_bd f x (p := q.p) (by have := q.pr.two; omega) n n
  have e := of_horn (q := q) f x n (Nat.le_refl n)
  unfold valP
  rw [ev_eq hom_id ((toP_sh xs).mono hn)]
  unfold evN
  have e2 : sum n (fun i => Zp.of q (f (n - n + i)) * Zp.of q x ^ i) = sum n (fun i => (toP q xs).co i * Zp.of q x ^ i) := sum_congr fun i hi => by
    rw [Nat.sub_self, Nat.zero_add, co_toP, Zp.of_cg (h i hi)]
  rw [e2] at e
  rw [← e, of_pl hb.1 hb.2]
theorem valP_bd (xs : List Int) (x : Int) : 0 ≤ valP q xs x ∧ valP q xs x < q.p := ⟨Zp.lo _, Zp.hi _⟩
theorem of_valP (xs : List Int) (x : Int) : Zp.of q (valP q xs x) = ev (fun a => a) (toP q xs) (Zp.of q x) := Zp.of_val _

/-- A natural number's bits, from the top: what d of n of them tell. -/
def topN (N n d : Nat) : Nat := N / 2 ^ (n - d)
theorem topN_zero {N n : Nat} (h : N < 2 ^ n) : topN N n 0 = 0 := Nat.div_eq_of_lt h
theorem topN_full (N n : Nat) : topN N n n = N := by unfold topN; rw [Nat.sub_self, Nat.pow_zero, Nat.div_one]
theorem topN_succ {N n d : Nat} (h : d < n) : topN N n (d + 1) = 2 * topN N n d + (N / 2 ^ (n - (d + 1))) % 2 := by
  unfold topN
  have e : n - d = (n - (d + 1)) + 1 := by omega
  rw [e, Nat.pow_succ, ← Nat.div_div_eq_div_mul]
  omega
/-- The rest of a power. -/
noncomputable def powR (a : Poly (Zp q)) (N : Nat) (m : Poly (Zp q)) : Poly (Zp q) := rem (a ^ N) m
theorem powR_zero (a m : Poly (Zp q)) : powR a 0 m = rem 1 m := by unfold powR; rw [CRing.pow_zero]
theorem powR_eqm (a : Poly (Zp q)) (N : Nat) {m : Poly (Zp q)} (hm : m ≠ 0) : Eqm m (powR a N m) (a ^ N) := eqm_rem _ hm
theorem powR_sq (a : Poly (Zp q)) (N : Nat) {m : Poly (Zp q)} (hm : m ≠ 0) : rem (powR a N m * powR a N m) m = powR a (2 * N) m := by
  refine rem_eq_of_eqm hm (((powR_eqm a N hm).mul (powR_eqm a N hm)).trans ?_)
  rw [← CRing.pow_add, Nat.two_mul]; exact Eqm.refl _ _
theorem powR_mul (a : Poly (Zp q)) (N : Nat) {m b : Poly (Zp q)} (hm : m ≠ 0) (hb : Eqm m b a) : rem (powR a N m * b) m = powR a (N + 1) m := by
  refine rem_eq_of_eqm hm (((powR_eqm a N hm).mul hb).trans ?_)
  rw [← CRing.pow_succ]; exact Eqm.refl _ _

theorem rem_len' (a : Poly (Zp q)) {b : Poly (Zp q)} (hb : b ≠ 0) : (rem a b).len < b.len := (div_spec a hb).2
theorem prod_len' (a b : Poly (Zp q)) : (a * b).len ≤ a.len + b.len := len_le ((len_sh a).mul (len_sh b) (by omega))
theorem quo_len' (a : Poly (Zp q)) {b : Poly (Zp q)} (hb : b ≠ 0) : (quo a b).len ≤ a.len := by
  obtain ⟨h1, h2⟩ := div_spec a hb
  by_cases h0 : quo a b = 0
  · rw [h0, len_zero]; omega
  · have h3 := (len_mul h0 hb).1
    have h4 := len_pos hb
    have h5 : quo a b * b = a - rem a b := by
      conv => rhs; lhs; rw [h1]
      rw [CRing.add_sub_cancel]
    have h6 : (a - rem a b).len ≤ max a.len (rem a b).len := len_le (((len_sh a).mono (by omega)).sub ((len_sh (rem a b)).mono (by omega)))
    rw [← h5, h3] at h6
    have h7 := len_pos h0
    omega
/-- The number that limbs of 64 bits tell. -/
def limbs : List Int → Nat
  | [] => 0
  | x :: xs => x.toNat + 2 ^ 64 * limbs xs
/-- Are they limbs? -/
def IsLimbs (l : List Int) : Prop := ∀ i, 0 ≤ nth l i ∧ nth l i < 18446744073709551616
theorem nth_cons_zero (x : Int) (l : List Int) : nth (x :: l) 0 = x := rfl
theorem nth_cons_succ (x : Int) (l : List Int) (i : Nat) : nth (x :: l) (i + 1) = nth l i := rfl
theorem IsLimbs.tail {x : Int} {l : List Int} (h : IsLimbs (x :: l)) : IsLimbs l := fun i => h (i + 1)
/-- The k-th bit stands in limb k / 64. -/
theorem limbs_bit {l : List Int} (h : IsLimbs l) (k : Nat) : limbs l / 2 ^ k % 2 = (nth l (k / 64)).toNat / 2 ^ (k % 64) % 2 := by
  induction l generalizing k with
  | nil => show 0 / 2 ^ k % 2 = (0 : Int).toNat / 2 ^ (k % 64) % 2; simp
  | cons x l ih =>
    have hx := h 0
    rw [nth_cons_zero] at hx
    show (x.toNat + 2 ^ 64 * limbs l) / 2 ^ k % 2 = _
    by_cases hk : k < 64
    · rw [Nat.div_eq_of_lt hk, Nat.mod_eq_of_lt hk, nth_cons_zero]
      obtain ⟨d, hd⟩ : ∃ d, 64 = k + (d + 1) := ⟨63 - k, by omega⟩
      have e : 2 ^ 64 * limbs l = 2 ^ k * (2 * (2 ^ d * limbs l)) := by
        conv => lhs; rw [hd, Nat.pow_add, Nat.pow_succ]
        ac_rfl
      rw [e, Nat.add_mul_div_left _ _ (Nat.two_pow_pos k), Nat.add_mul_mod_self_left]
    · obtain ⟨j, rfl⟩ : ∃ j, k = j + 64 := ⟨k - 64, by omega⟩
      have e1 : (x.toNat + 2 ^ 64 * limbs l) / 2 ^ (j + 64) = limbs l / 2 ^ j := by
        rw [Nat.add_comm j 64, Nat.pow_add, ← Nat.div_div_eq_div_mul, Nat.add_mul_div_left _ _ (by decide), Nat.div_eq_of_lt (a := x.toNat) (by omega), Nat.zero_add]
      rw [e1, ih h.tail, show (j + 64) / 64 = j / 64 + 1 by omega, nth_cons_succ, show (j + 64) % 64 = j % 64 by omega]
theorem limbs_lt {l : List Int} (h : IsLimbs l) : limbs l < 2 ^ (64 * l.length) := by
  induction l with
  | nil => decide
  | cons x l ih =>
    have hx := h 0
    rw [nth_cons_zero] at hx
    have := ih h.tail
    show x.toNat + 2 ^ 64 * limbs l < 2 ^ (64 * (l.length + 1))
    rw [Nat.mul_succ, Nat.add_comm (64 * l.length), Nat.pow_add]
    have h1 : 2 ^ 64 * (limbs l + 1) ≤ 2 ^ 64 * 2 ^ (64 * l.length) := Nat.mul_le_mul_left _ this
    have h2 : x.toNat < 2 ^ 64 := by omega
    omega
end Cl

namespace Cl
open CRing
namespace Poly
variable {F : Type} [CField F]
/-- The row at which Euclid's way ends. -/
noncomputable def eucR (a b : Poly F) : Row3 F := eucl ⟨a, 1, 0⟩ ⟨b, 0, 1⟩
open Classical in
/-- By its last coefficient, where it is not nought. -/
noncomputable def bezR (a b : Poly F) : Row3 F :=
  if (eucR a b).g = 0 then eucR a b else ⟨(eucR a b).g.monic, C (CField.inv (eucR a b).g.lc) * (eucR a b).s, C (CField.inv (eucR a b).g.lc) * (eucR a b).t⟩
theorem eucR_spec (a b : Poly F) : (eucR a b).s * a + (eucR a b).t * b = (eucR a b).g ∧ ∀ d, d ∣ (eucR a b).g ↔ d ∣ a ∧ d ∣ b :=
  eucl_spec (a := a) (b := b) ⟨a, 1, 0⟩ ⟨b, 0, 1⟩ (by rw [one_mul, zero_mul, add_zero]) (by rw [one_mul, zero_mul, zero_add]) (fun d => Iff.rfl)
theorem bezR_zero {a b : Poly F} (h : (eucR a b).g = 0) : bezR a b = eucR a b := by unfold bezR; rw [if_pos h]
theorem bezR_ne {a b : Poly F} (h : (eucR a b).g ≠ 0) : bezR a b = ⟨(eucR a b).g.monic, C (CField.inv (eucR a b).g.lc) * (eucR a b).s, C (CField.inv (eucR a b).g.lc) * (eucR a b).t⟩ := by unfold bezR; rw [if_neg h]
theorem bezR_spec (a b : Poly F) : (bezR a b).s * a + (bezR a b).t * b = (bezR a b).g ∧ IsGcd a b (bezR a b).g := by
  obtain ⟨h1, h2⟩ := eucR_spec a b
  by_cases h0 : (eucR a b).g = 0
  · rw [bezR_zero h0]
    exact ⟨h1, .of_bezout ((h2 _).1 (dvd_refl _)).1 ((h2 _).1 (dvd_refl _)).2 h1 (.inl h0)⟩
  · rw [bezR_ne h0]
    have e : C (CField.inv (eucR a b).g.lc) * (eucR a b).s * a + C (CField.inv (eucR a b).g.lc) * (eucR a b).t * b = (eucR a b).g.monic := by
      rw [mul_assoc, mul_assoc, ← mul_add, h1]; rfl
    exact ⟨e, .of_bezout (monic_dvd ((h2 _).1 (dvd_refl _)).1) (monic_dvd ((h2 _).1 (dvd_refl _)).2) e (.inr (monic_mon h0))⟩
theorem bezR_g (a b : Poly F) : (bezR a b).g = gcdP a b := (bezR_spec a b).2.unique (gcd_is a b)
/-- Where both are nought. -/
theorem eucR_nought {a b : Poly F} (h : (eucR a b).g = 0) : a = 0 ∧ b = 0 ∧ eucR a b = ⟨0, 1, 0⟩ := by
  obtain ⟨_, h2⟩ := eucR_spec a b
  have h3 := (h2 0).1 (by rw [h]; exact dvd_refl 0)
  have ha := zero_dvd h3.1
  have hb := zero_dvd h3.2
  subst ha; subst hb
  exact ⟨rfl, rfl, eucl_zero rfl⟩

/-- How long three and three polynomials are. -/
structure EB (B : Nat) (X Y : Nat → Poly F) : Prop where
  x0 : (X 0).len ≤ B
  y0 : (Y 0).len ≤ B
  x : ∀ i, 1 ≤ i → (X i).len + (Y 0).len ≤ B + 1
  y : ∀ i, 1 ≤ i → (Y i).len + (X 0).len ≤ B + 1
theorem EB.le {B : Nat} {X Y : Nat → Poly F} (h : EB B X Y) (i : Nat) : (X i).len ≤ B + 1 ∧ (Y i).len ≤ B + 1 := by
  cases i with
  | zero => have := h.x0; have := h.y0; omega
  | succ i => have := h.x (i + 1) (by omega); have := h.y (i + 1) (by omega); omega
theorem EB.next {B : Nat} {X Y Z : Nat → Poly F} (h : EB B X Y) (hy : Y 0 ≠ 0) (hZ : ∀ i, Z i = X i - quo (X 0) (Y 0) * Y i) : EB B Y Z := by
  obtain ⟨h1, h2⟩ := div_spec (X 0) hy
  have hx0 := h.x0
  have hy0 := h.y0
  have hr : Z 0 = rem (X 0) (Y 0) := by
    rw [hZ]
    conv => lhs; lhs; rw [h1]
    rw [add_comm, add_sub_cancel]
  have hyp := len_pos hy
  have hrl : (Z 0).len ≤ (X 0).len := by
    rw [hr]
    by_cases hlt : (X 0).len < (Y 0).len
    · rw [(rem_of_lt hlt).1]; omega
    · omega
  refine ⟨hy0, by omega, fun i hi => ?_, fun i hi => ?_⟩
  · have := h.y i hi; omega
  · have hxi := h.x i hi
    have hyi := h.y i hi
    have hprod : (quo (X 0) (Y 0) * Y i).len + (Y 0).len ≤ B + 1 := by
      by_cases hq : quo (X 0) (Y 0) = 0
      · rw [hq, zero_mul, len_zero]; omega
      · by_cases hyz : Y i = 0
        · rw [hyz, mul_zero, len_zero]; omega
        · rw [(len_mul hq hyz).1]
          have h5 : quo (X 0) (Y 0) * Y 0 = X 0 - rem (X 0) (Y 0) := by
            conv => rhs; lhs; rw [h1]
            rw [add_sub_cancel]
          have h6 : (X 0 - rem (X 0) (Y 0)).len ≤ max (X 0).len (rem (X 0) (Y 0)).len := len_le (((len_sh (X 0)).mono (by omega)).sub ((len_sh (rem (X 0) (Y 0))).mono (by omega)))
          have h7 : (rem (X 0) (Y 0)).len ≤ (X 0).len := hr ▸ hrl
          rw [← h5, (len_mul hq hy).1] at h6
          have := len_pos hq
          have := len_pos hyz
          omega
    rw [hZ]
    have := len_le (((len_sh (X i)).mono (show _ ≤ max (X i).len (quo (X 0) (Y 0) * Y i).len by omega)).sub ((len_sh (quo (X 0) (Y 0) * Y i)).mono (show _ ≤ max (X i).len (quo (X 0) (Y 0) * Y i).len by omega)))
    omega
end Poly
end Cl
