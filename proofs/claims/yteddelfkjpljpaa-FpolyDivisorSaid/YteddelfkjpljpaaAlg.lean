/- Commutative rings, their powers and sums, the binomial theorem, and the p-th power of a sum. No program in sight. -/
namespace Cl

class CRing (R : Type) extends Add R, Mul R, Neg R, Sub R, Zero R, One R, NatPow R where
  add_assoc : ∀ a b c : R, a + b + c = a + (b + c)
  add_comm : ∀ a b : R, a + b = b + a
  add_zero : ∀ a : R, a + 0 = a
  add_neg : ∀ a : R, a + -a = 0
  mul_assoc : ∀ a b c : R, a * b * c = a * (b * c)
  mul_comm : ∀ a b : R, a * b = b * a
  mul_one : ∀ a : R, a * 1 = a
  mul_add : ∀ a b c : R, a * (b + c) = a * b + a * c
  sub_def : ∀ a b : R, a - b = a + -b
  pow_zero : ∀ a : R, a ^ 0 = 1
  pow_succ : ∀ (a : R) (n : Nat), a ^ (n + 1) = a ^ n * a

namespace CRing
variable {R : Type} [CRing R]
theorem zero_add (a : R) : 0 + a = a := by rw [add_comm, add_zero]
theorem neg_add (a : R) : -a + a = 0 := by rw [add_comm, add_neg]
theorem one_mul (a : R) : 1 * a = a := by rw [mul_comm, mul_one]
theorem add_mul (a b c : R) : (a + b) * c = a * c + b * c := by rw [mul_comm, mul_add, mul_comm c a, mul_comm c b]
theorem add_left_comm (a b c : R) : a + (b + c) = b + (a + c) := by rw [← add_assoc, add_comm a b, add_assoc]
theorem mul_left_comm (a b c : R) : a * (b * c) = b * (a * c) := by rw [← mul_assoc, mul_comm a b, mul_assoc]
theorem add_left_cancel {a b c : R} (h : a + b = a + c) : b = c := by
  have : -a + (a + b) = -a + (a + c) := by rw [h]
  rwa [← add_assoc, ← add_assoc, neg_add, zero_add, zero_add] at this
theorem add_right_cancel {a b c : R} (h : b + a = c + a) : b = c := by rw [add_comm b, add_comm c] at h; exact add_left_cancel h
theorem mul_zero (a : R) : a * 0 = 0 := by
  have h : a * 0 + a * 0 = a * 0 + 0 := by rw [← mul_add, add_zero, add_zero]
  exact add_left_cancel h
theorem zero_mul (a : R) : 0 * a = 0 := by rw [mul_comm, mul_zero]
theorem eq_neg_of_add {a b : R} (h : a + b = 0) : b = -a := by
  apply add_left_cancel (a := a); rw [h, add_neg]
theorem neg_mul (a b : R) : -a * b = -(a * b) := by
  apply eq_neg_of_add; rw [← add_mul, add_neg, zero_mul]
theorem mul_neg (a b : R) : a * -b = -(a * b) := by rw [mul_comm, neg_mul, mul_comm]
theorem neg_neg (a : R) : - -a = a := (eq_neg_of_add (neg_add a)).symm
theorem neg_zero : -(0 : R) = 0 := (eq_neg_of_add (add_zero (0 : R))).symm
theorem neg_add_rev (a b : R) : -(a + b) = -a + -b := by
  symm; apply eq_neg_of_add
  rw [add_assoc, add_left_comm b, add_neg, add_zero, add_neg]
theorem neg_eq_zero {a : R} : -a = 0 ↔ a = 0 := ⟨fun h => by rw [← neg_neg a, h, neg_zero], fun h => by rw [h, neg_zero]⟩
theorem neg_inj {a b : R} (h : -a = -b) : a = b := by rw [← neg_neg a, h, neg_neg]
theorem add_neg_cancel (a b : R) : a + (b + -b) = a := by rw [add_neg, add_zero]
theorem add_neg_cancel_left (a b : R) : a + (-a + b) = b := by rw [← add_assoc, add_neg, zero_add]
theorem neg_add_cancel_left (a b : R) : -a + (a + b) = b := by rw [← add_assoc, neg_add, zero_add]

instance : Std.Associative (α := R) (· + ·) := ⟨add_assoc⟩
instance : Std.Commutative (α := R) (· + ·) := ⟨add_comm⟩
instance : Std.Associative (α := R) (· * ·) := ⟨mul_assoc⟩
instance : Std.Commutative (α := R) (· * ·) := ⟨mul_comm⟩

theorem sub_self (a : R) : a - a = 0 := by rw [sub_def, add_neg]
theorem sub_eq_zero {a b : R} : a - b = 0 ↔ a = b := by
  constructor
  · intro h
    rw [sub_def] at h
    exact (neg_inj (eq_neg_of_add h)).symm
  · rintro rfl; exact sub_self a
theorem sub_add_cancel (a b : R) : a - b + b = a := by rw [sub_def, add_assoc, neg_add, add_zero]
theorem add_sub_cancel (a b : R) : a + b - b = a := by rw [sub_def, add_assoc, add_neg, add_zero]
theorem eq_sub_of_add {a b c : R} (h : a + b = c) : a = c - b := by rw [← h, add_sub_cancel]
theorem eq_add_of_sub {a b c : R} (h : a - b = c) : a = c + b := by rw [← h, sub_add_cancel]
theorem mul_sub (a b c : R) : a * (b - c) = a * b - a * c := by rw [sub_def, mul_add, mul_neg, sub_def]
theorem sub_mul (a b c : R) : (a - b) * c = a * c - b * c := by rw [mul_comm, mul_sub, mul_comm c a, mul_comm c b]
theorem neg_sub (a b : R) : -(a - b) = b - a := by rw [sub_def, neg_add_rev, neg_neg, add_comm, sub_def]
theorem sub_zero (a : R) : a - 0 = a := by rw [sub_def, neg_zero, add_zero]
theorem zero_sub (a : R) : 0 - a = -a := by rw [sub_def, zero_add]

theorem pow_one (a : R) : a ^ 1 = a := by rw [pow_succ, pow_zero, one_mul]
theorem pow_add (a : R) (m n : Nat) : a ^ (m + n) = a ^ m * a ^ n := by
  induction n with
  | zero => rw [pow_zero, mul_one, Nat.add_zero]
  | succ n ih => rw [← Nat.add_assoc, pow_succ, ih, pow_succ, mul_assoc]
theorem mul_pow (a b : R) (n : Nat) : (a * b) ^ n = a ^ n * b ^ n := by
  induction n with
  | zero => rw [pow_zero, pow_zero, pow_zero, mul_one]
  | succ n ih => rw [pow_succ, ih, pow_succ, pow_succ]; ac_rfl
theorem pow_mul (a : R) (m n : Nat) : a ^ (m * n) = (a ^ m) ^ n := by
  induction n with
  | zero => rw [pow_zero, Nat.mul_zero, pow_zero]
  | succ n ih => rw [Nat.mul_succ, pow_add, ih, pow_succ]
theorem one_pow (n : Nat) : (1 : R) ^ n = 1 := by
  induction n with
  | zero => exact pow_zero 1
  | succ n ih => rw [pow_succ, ih, mul_one]
theorem zero_pow {n : Nat} (h : 0 < n) : (0 : R) ^ n = 0 := by
  obtain ⟨k, rfl⟩ : ∃ k, n = k + 1 := ⟨n - 1, by omega⟩
  rw [pow_succ, mul_zero]

/-- So many times. -/
def nsmul : Nat → R → R
  | 0, _ => 0
  | n + 1, a => nsmul n a + a
theorem nsmul_zero (a : R) : nsmul 0 a = 0 := rfl
theorem nsmul_succ (n : Nat) (a : R) : nsmul (n + 1) a = nsmul n a + a := rfl
theorem nsmul_one (a : R) : nsmul 1 a = a := by rw [nsmul_succ, nsmul_zero, zero_add]
theorem nsmul_add (m n : Nat) (a : R) : nsmul (m + n) a = nsmul m a + nsmul n a := by
  induction n with
  | zero => rw [nsmul_zero, add_zero, Nat.add_zero]
  | succ n ih => rw [← Nat.add_assoc, nsmul_succ, ih, nsmul_succ, add_assoc]
theorem nsmul_mul_left (n : Nat) (a b : R) : nsmul n a * b = nsmul n (a * b) := by
  induction n with
  | zero => rw [nsmul_zero, nsmul_zero, zero_mul]
  | succ n ih => rw [nsmul_succ, add_mul, ih, nsmul_succ]
theorem nsmul_eq_mul (n : Nat) (a : R) : nsmul n a = nsmul n 1 * a := by rw [nsmul_mul_left, one_mul]
theorem nsmul_mul (m n : Nat) (a : R) : nsmul (m * n) a = nsmul m (nsmul n a) := by
  induction m with
  | zero => rw [Nat.zero_mul, nsmul_zero, nsmul_zero]
  | succ m ih => rw [Nat.succ_mul, nsmul_add, ih, nsmul_succ]
theorem nsmul_of_zero (n : Nat) : nsmul n (0 : R) = 0 := by
  induction n with
  | zero => rfl
  | succ n ih => rw [nsmul_succ, ih, add_zero]

/-- Sums over the first n numbers. -/
def sum : Nat → (Nat → R) → R
  | 0, _ => 0
  | n + 1, f => sum n f + f n
theorem sum_zero (f : Nat → R) : sum 0 f = 0 := rfl
theorem sum_succ (n : Nat) (f : Nat → R) : sum (n + 1) f = sum n f + f n := rfl
theorem sum_congr {n : Nat} {f g : Nat → R} (h : ∀ i, i < n → f i = g i) : sum n f = sum n g := by
  induction n with
  | zero => rfl
  | succ n ih => rw [sum_succ, sum_succ, ih (fun i hi => h i (by omega)), h n (by omega)]
theorem sum_add (n : Nat) (f g : Nat → R) : sum n (fun i => f i + g i) = sum n f + sum n g := by
  induction n with
  | zero => rw [sum_zero, sum_zero, sum_zero, add_zero]
  | succ n ih => rw [sum_succ, ih, sum_succ, sum_succ]; ac_rfl
theorem sum_mul (n : Nat) (f : Nat → R) (c : R) : sum n f * c = sum n (fun i => f i * c) := by
  induction n with
  | zero => rw [sum_zero, sum_zero, zero_mul]
  | succ n ih => rw [sum_succ, sum_succ, add_mul, ih]
theorem mul_sum (n : Nat) (f : Nat → R) (c : R) : c * sum n f = sum n (fun i => c * f i) := by
  rw [mul_comm, sum_mul]; exact sum_congr fun i _ => mul_comm _ _
theorem sum_zero_fun (n : Nat) : sum n (fun _ => (0 : R)) = 0 := by
  induction n with
  | zero => rfl
  | succ n ih => rw [sum_succ, ih, add_zero]
theorem sum_eq_zero {n : Nat} {f : Nat → R} (h : ∀ i, i < n → f i = 0) : sum n f = 0 := by
  rw [sum_congr h, sum_zero_fun]
theorem sum_succ' (n : Nat) (f : Nat → R) : sum (n + 1) f = f 0 + sum n (fun i => f (i + 1)) := by
  induction n with
  | zero => rw [sum_succ, sum_zero, sum_zero, zero_add, add_zero]
  | succ n ih => rw [sum_succ, ih, sum_succ, add_assoc]
theorem sum_append (m n : Nat) (f : Nat → R) : sum (m + n) f = sum m f + sum n (fun i => f (m + i)) := by
  induction n with
  | zero => rw [sum_zero, add_zero, Nat.add_zero]
  | succ n ih => rw [← Nat.add_assoc, sum_succ, ih, sum_succ, add_assoc]
theorem sum_neg (n : Nat) (f : Nat → R) : sum n (fun i => -f i) = -sum n f := by
  induction n with
  | zero => rw [sum_zero, sum_zero, neg_zero]
  | succ n ih => rw [sum_succ, ih, sum_succ, neg_add_rev]
/-- Only one is not nought. -/
theorem sum_single {n k : Nat} {f : Nat → R} (hk : k < n) (h : ∀ i, i < n → i ≠ k → f i = 0) : sum n f = f k := by
  induction n with
  | zero => omega
  | succ n ih =>
    rw [sum_succ]
    by_cases e : k = n
    · subst e
      rw [sum_eq_zero (fun i hi => h i (by omega) (by omega)), zero_add]
    · rw [ih (by omega) (fun i hi hne => h i (by omega) hne), h n (by omega) (fun e' => e e'.symm), add_zero]
/-- A longer sum whose further ones are nought. -/
theorem sum_extend {m n : Nat} {f : Nat → R} (h : m ≤ n) (h0 : ∀ i, m ≤ i → i < n → f i = 0) : sum n f = sum m f := by
  obtain ⟨k, rfl⟩ := Nat.le.dest h
  rw [sum_append, sum_eq_zero (n := k) (fun i hi => h0 _ (by omega) (by omega)), add_zero]
theorem sum_comm (m n : Nat) (f : Nat → Nat → R) : sum m (fun i => sum n (f i)) = sum n (fun j => sum m (fun i => f i j)) := by
  induction m with
  | zero => rw [sum_zero]; exact (sum_eq_zero fun _ _ => rfl).symm
  | succ m ih => rw [sum_succ, ih, ← sum_add]; rfl
/-- From the other end. -/
theorem sum_flip (n : Nat) (f : Nat → R) : sum n f = sum n (fun i => f (n - 1 - i)) := by
  induction n with
  | zero => rfl
  | succ n ih =>
    rw [sum_succ, ih, sum_succ', add_comm]
    congr 1
    · exact sum_congr fun i hi => by congr 1; omega

end CRing

instance : CRing Int where
  add_assoc := Int.add_assoc
  add_comm := Int.add_comm
  add_zero := Int.add_zero
  add_neg := Int.add_right_neg
  mul_assoc := Int.mul_assoc
  mul_comm := Int.mul_comm
  mul_one := Int.mul_one
  mul_add := Int.mul_add
  sub_def := fun _ _ => Int.sub_eq_add_neg
  pow_zero := Int.pow_zero
  pow_succ := Int.pow_succ

/-- Binomial numbers. -/
def choose : Nat → Nat → Nat
  | _, 0 => 1
  | 0, _ + 1 => 0
  | n + 1, k + 1 => choose n k + choose n (k + 1)
theorem choose_zero (n : Nat) : choose n 0 = 1 := by cases n <;> rfl
theorem choose_succ (n k : Nat) : choose (n + 1) (k + 1) = choose n k + choose n (k + 1) := rfl
theorem choose_gt {n k : Nat} (h : n < k) : choose n k = 0 := by
  induction n generalizing k with
  | zero => cases k with
    | zero => omega
    | succ k => rfl
  | succ n ih => cases k with
    | zero => omega
    | succ k => rw [choose_succ, ih (by omega), ih (by omega)]
theorem choose_self (n : Nat) : choose n n = 1 := by
  induction n with
  | zero => rfl
  | succ n ih => rw [choose_succ, ih, choose_gt (by omega)]
/-- (k + 1) C(n + 1, k + 1) = (n + 1) C(n, k). -/
theorem succ_mul_choose (n k : Nat) : (k + 1) * choose (n + 1) (k + 1) = (n + 1) * choose n k := by
  induction n generalizing k with
  | zero =>
    cases k with
    | zero => rfl
    | succ k => rw [choose_succ, choose_gt (show 0 < k + 1 by omega), choose_gt (show 0 < k + 1 + 1 by omega)]; simp
  | succ n ih =>
    rw [choose_succ (n + 1) k, Nat.mul_add, ih k]
    cases k with
    | zero => rw [choose_zero, choose_zero]; omega
    | succ k =>
      have h1 := ih k
      have h3 := choose_succ n k
      grind

namespace CRing
variable {R : Type} [CRing R]
theorem binom (a b : R) (n : Nat) : (a + b) ^ n = sum (n + 1) (fun k => nsmul (choose n k) (a ^ k * b ^ (n - k))) := by
  induction n with
  | zero => rw [pow_zero, sum_succ, sum_zero, zero_add, choose_zero, nsmul_one, pow_zero, Nat.sub_zero, pow_zero, mul_one]
  | succ n ih =>
    rw [pow_succ, ih, mul_add, sum_mul, sum_mul]
    have e1 : sum (n + 1) (fun k => nsmul (choose n k) (a ^ k * b ^ (n - k)) * a) = sum (n + 1) (fun k => nsmul (choose n k) (a ^ (k + 1) * b ^ (n + 1 - (k + 1)))) := by
      refine sum_congr fun k _ => ?_
      rw [nsmul_mul_left, pow_succ, Nat.add_sub_add_right]
      congr 1; ac_rfl
    have e2 : sum (n + 1) (fun k => nsmul (choose n k) (a ^ k * b ^ (n - k)) * b) = sum (n + 1) (fun k => nsmul (choose n k) (a ^ k * b ^ (n + 1 - k))) := by
      refine sum_congr fun k hk => ?_
      rw [nsmul_mul_left, show n + 1 - k = (n - k) + 1 by omega, pow_succ]
      congr 1; ac_rfl
    rw [e1, e2, sum_succ' (n + 1), sum_succ' n (fun k => nsmul (choose n k) (a ^ k * b ^ (n + 1 - k)))]
    have e3 : sum (n + 1) (fun k => nsmul (choose (n + 1) (k + 1)) (a ^ (k + 1) * b ^ (n + 1 - (k + 1)))) = sum (n + 1) (fun k => nsmul (choose n k) (a ^ (k + 1) * b ^ (n + 1 - (k + 1)))) + sum n (fun k => nsmul (choose n (k + 1)) (a ^ (k + 1) * b ^ (n + 1 - (k + 1)))) := by
      rw [sum_congr (g := fun k => nsmul (choose n k) (a ^ (k + 1) * b ^ (n + 1 - (k + 1))) + nsmul (choose n (k + 1)) (a ^ (k + 1) * b ^ (n + 1 - (k + 1)))) (fun k _ => by rw [choose_succ, nsmul_add]), sum_add]
      congr 1
      rw [sum_succ, choose_gt (show n < n + 1 by omega), nsmul_zero, add_zero]
    rw [e3, choose_zero, choose_zero]
    ac_rfl

end CRing
end Cl
