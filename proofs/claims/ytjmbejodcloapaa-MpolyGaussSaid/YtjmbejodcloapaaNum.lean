/- Commutative rings, their powers and sums, the binomial theorem, and the p-th power of a sum. No program in sight.
   Plain facts on residues: rests, primes, inverses. No program in sight.
   Where p times anything is nought, the p-th power of a sum is the sum of p-th powers; Fermat's theorem.
   The field of residues by a prime, as a type. No program in sight. -/

namespace Cl

class CRing (R : Type) extends Add R, Mul R, Neg R, Sub R, Zero R, One R, NatPow R where
  add_assoc : ∀ a b c : R, a + b + c = a + (b + c)
  add_comm : ∀ a b : R, a + b = b + a
  add_zero : ∀ a : R, a + 0 = a
  add_neg : ∀ a : R, a + -a = 0
  mul_assoc : ∀ a b c : R, a * b * c = a * (b * c)
  mul_comm : ∀ a b : R, a * b = b * a
  mul_one : ∀ a : R, a * 1 = a
  mul_add : ∀ a b c : R, a * (b + c) = a * b + a * c
  sub_def : ∀ a b : R, a - b = a + -b
  pow_zero : ∀ a : R, a ^ 0 = 1
  pow_succ : ∀ (a : R) (n : Nat), a ^ (n + 1) = a ^ n * a

namespace CRing
variable {R : Type} [CRing R]
theorem zero_add (a : R) : 0 + a = a := by rw [add_comm, add_zero]
theorem neg_add (a : R) : -a + a = 0 := by rw [add_comm, add_neg]
theorem one_mul (a : R) : 1 * a = a := by rw [mul_comm, mul_one]
theorem add_mul (a b c : R) : (a + b) * c = a * c + b * c := by rw [mul_comm, mul_add, mul_comm c a, mul_comm c b]
theorem add_left_comm (a b c : R) : a + (b + c) = b + (a + c) := by rw [← add_assoc, add_comm a b, add_assoc]
theorem mul_left_comm (a b c : R) : a * (b * c) = b * (a * c) := by rw [← mul_assoc, mul_comm a b, mul_assoc]
theorem add_left_cancel {a b c : R} (h : a + b = a + c) : b = c := by
  have : -a + (a + b) = -a + (a + c) := by rw [h]
  rwa [← add_assoc, ← add_assoc, neg_add, zero_add, zero_add] at this
theorem add_right_cancel {a b c : R} (h : b + a = c + a) : b = c := by rw [add_comm b, add_comm c] at h; exact add_left_cancel h
theorem mul_zero (a : R) : a * 0 = 0 := by
  have h : a * 0 + a * 0 = a * 0 + 0 := by rw [← mul_add, add_zero, add_zero]
  exact add_left_cancel h
theorem zero_mul (a : R) : 0 * a = 0 := by rw [mul_comm, mul_zero]
theorem eq_neg_of_add {a b : R} (h : a + b = 0) : b = -a := by
  apply add_left_cancel (a := a); rw [h, add_neg]
theorem neg_mul (a b : R) : -a * b = -(a * b) := by
  apply eq_neg_of_add; rw [← add_mul, add_neg, zero_mul]
theorem mul_neg (a b : R) : a * -b = -(a * b) := by rw [mul_comm, neg_mul, mul_comm]
theorem neg_neg (a : R) : - -a = a := (eq_neg_of_add (neg_add a)).symm
theorem neg_zero : -(0 : R) = 0 := (eq_neg_of_add (add_zero (0 : R))).symm
theorem neg_add_rev (a b : R) : -(a + b) = -a + -b := by
  symm; apply eq_neg_of_add
  rw [add_assoc, add_left_comm b, add_neg, add_zero, add_neg]
theorem neg_eq_zero {a : R} : -a = 0 ↔ a = 0 := ⟨fun h => by rw [← neg_neg a, h, neg_zero], fun h => by rw [h, neg_zero]⟩
theorem neg_inj {a b : R} (h : -a = -b) : a = b := by rw [← neg_neg a, h, neg_neg]
theorem add_neg_cancel (a b : R) : a + (b + -b) = a := by rw [add_neg, add_zero]
theorem add_neg_cancel_left (a b : R) : a + (-a + b) = b := by rw [← add_assoc, add_neg, zero_add]
theorem neg_add_cancel_left (a b : R) : -a + (a + b) = b := by rw [← add_assoc, neg_add, zero_add]

instance : Std.Associative (α := R) (· + ·) := ⟨add_assoc⟩
instance : Std.Commutative (α := R) (· + ·) := ⟨add_comm⟩
instance : Std.Associative (α := R) (· * ·) := ⟨mul_assoc⟩
instance : Std.Commutative (α := R) (· * ·) := ⟨mul_comm⟩

theorem sub_self (a : R) : a - a = 0 := by rw [sub_def, add_neg]
theorem sub_eq_zero {a b : R} : a - b = 0 ↔ a = b := by
  constructor
  · intro h
    rw [sub_def] at h
    exact (neg_inj (eq_neg_of_add h)).symm
  · rintro rfl; exact sub_self a
theorem sub_add_cancel (a b : R) : a - b + b = a := by rw [sub_def, add_assoc, neg_add, add_zero]
theorem add_sub_cancel (a b : R) : a + b - b = a := by rw [sub_def, add_assoc, add_neg, add_zero]
theorem eq_sub_of_add {a b c : R} (h : a + b = c) : a = c - b := by rw [← h, add_sub_cancel]
theorem eq_add_of_sub {a b c : R} (h : a - b = c) : a = c + b := by rw [← h, sub_add_cancel]
theorem mul_sub (a b c : R) : a * (b - c) = a * b - a * c := by rw [sub_def, mul_add, mul_neg, sub_def]
theorem sub_mul (a b c : R) : (a - b) * c = a * c - b * c := by rw [mul_comm, mul_sub, mul_comm c a, mul_comm c b]
theorem neg_sub (a b : R) : -(a - b) = b - a := by rw [sub_def, neg_add_rev, neg_neg, add_comm, sub_def]
theorem sub_zero (a : R) : a - 0 = a := by rw [sub_def, neg_zero, add_zero]
theorem zero_sub (a : R) : 0 - a = -a := by rw [sub_def, zero_add]

theorem pow_one (a : R) : a ^ 1 = a := by rw [pow_succ, pow_zero, one_mul]
theorem pow_add (a : R) (m n : Nat) : a ^ (m + n) = a ^ m * a ^ n := by
  induction n with
  | zero => rw [pow_zero, mul_one, Nat.add_zero]
  | succ n ih => rw [← Nat.add_assoc, pow_succ, ih, pow_succ, mul_assoc]
theorem mul_pow (a b : R) (n : Nat) : (a * b) ^ n = a ^ n * b ^ n := by
  induction n with
  | zero => rw [pow_zero, pow_zero, pow_zero, mul_one]
  | succ n ih => rw [pow_succ, ih, pow_succ, pow_succ]; ac_rfl
theorem pow_mul (a : R) (m n : Nat) : a ^ (m * n) = (a ^ m) ^ n := by
  induction n with
  | zero => rw [pow_zero, Nat.mul_zero, pow_zero]
  | succ n ih => rw [Nat.mul_succ, pow_add, ih, pow_succ]
theorem one_pow (n : Nat) : (1 : R) ^ n = 1 := by
  induction n with
  | zero => exact pow_zero 1
  | succ n ih => rw [pow_succ, ih, mul_one]
theorem zero_pow {n : Nat} (h : 0 < n) : (0 : R) ^ n = 0 := by
  obtain ⟨k, rfl⟩ : ∃ k, n = k + 1 := ⟨n - 1, by omega⟩
  rw [pow_succ, mul_zero]

/-- So many times. -/
def nsmul : Nat → R → R
  | 0, _ => 0
  | n + 1, a => nsmul n a + a
theorem nsmul_zero (a : R) : nsmul 0 a = 0 := rfl
theorem nsmul_succ (n : Nat) (a : R) : nsmul (n + 1) a = nsmul n a + a := rfl
theorem nsmul_one (a : R) : nsmul 1 a = a := by rw [nsmul_succ, nsmul_zero, zero_add]
theorem nsmul_add (m n : Nat) (a : R) : nsmul (m + n) a = nsmul m a + nsmul n a := by
  induction n with
  | zero => rw [nsmul_zero, add_zero, Nat.add_zero]
  | succ n ih => rw [← Nat.add_assoc, nsmul_succ, ih, nsmul_succ, add_assoc]
theorem nsmul_mul_left (n : Nat) (a b : R) : nsmul n a * b = nsmul n (a * b) := by
  induction n with
  | zero => rw [nsmul_zero, nsmul_zero, zero_mul]
  | succ n ih => rw [nsmul_succ, add_mul, ih, nsmul_succ]
theorem nsmul_eq_mul (n : Nat) (a : R) : nsmul n a = nsmul n 1 * a := by rw [nsmul_mul_left, one_mul]
theorem nsmul_mul (m n : Nat) (a : R) : nsmul (m * n) a = nsmul m (nsmul n a) := by
  induction m with
  | zero => rw [Nat.zero_mul, nsmul_zero, nsmul_zero]
  | succ m ih => rw [Nat.succ_mul, nsmul_add, ih, nsmul_succ]
theorem nsmul_of_zero (n : Nat) : nsmul n (0 : R) = 0 := by
  induction n with
  | zero => rfl
  | succ n ih => rw [nsmul_succ, ih, add_zero]

/-- Sums over the first n numbers. -/
def sum : Nat → (Nat → R) → R
  | 0, _ => 0
  | n + 1, f => sum n f + f n
theorem sum_zero (f : Nat → R) : sum 0 f = 0 := rfl
theorem sum_succ (n : Nat) (f : Nat → R) : sum (n + 1) f = sum n f + f n := rfl
theorem sum_congr {n : Nat} {f g : Nat → R} (h : ∀ i, i < n → f i = g i) : sum n f = sum n g := by
  induction n with
  | zero => rfl
  | succ n ih => rw [sum_succ, sum_succ, ih (fun i hi => h i (by omega)), h n (by omega)]
theorem sum_add (n : Nat) (f g : Nat → R) : sum n (fun i => f i + g i) = sum n f + sum n g := by
  induction n with
  | zero => rw [sum_zero, sum_zero, sum_zero, add_zero]
  | succ n ih => rw [sum_succ, ih, sum_succ, sum_succ]; ac_rfl
theorem sum_mul (n : Nat) (f : Nat → R) (c : R) : sum n f * c = sum n (fun i => f i * c) := by
  induction n with
  | zero => rw [sum_zero, sum_zero, zero_mul]
  | succ n ih => rw [sum_succ, sum_succ, add_mul, ih]
theorem mul_sum (n : Nat) (f : Nat → R) (c : R) : c * sum n f = sum n (fun i => c * f i) := by
  rw [mul_comm, sum_mul]; exact sum_congr fun i _ => mul_comm _ _
theorem sum_zero_fun (n : Nat) : sum n (fun _ => (0 : R)) = 0 := by
  induction n with
  | zero => rfl
  | succ n ih => rw [sum_succ, ih, add_zero]
theorem sum_eq_zero {n : Nat} {f : Nat → R} (h : ∀ i, i < n → f i = 0) : sum n f = 0 := by
  rw [sum_congr h, sum_zero_fun]
theorem sum_succ' (n : Nat) (f : Nat → R) : sum (n + 1) f = f 0 + sum n (fun i => f (i + 1)) := by
  induction n with
  | zero => rw [sum_succ, sum_zero, sum_zero, zero_add, add_zero]
  | succ n ih => rw [sum_succ, ih, sum_succ, add_assoc]
theorem sum_append (m n : Nat) (f : Nat → R) : sum (m + n) f = sum m f + sum n (fun i => f (m + i)) := by
  induction n with
  | zero => rw [sum_zero, add_zero, Nat.add_zero]
  | succ n ih => rw [← Nat.add_assoc, sum_succ, ih, sum_succ, add_assoc]
theorem sum_neg (n : Nat) (f : Nat → R) : sum n (fun i => -f i) = -sum n f := by
  induction n with
  | zero => rw [sum_zero, sum_zero, neg_zero]
  | succ n ih => rw [sum_succ, ih, sum_succ, neg_add_rev]
/-- Only one is not nought. -/
theorem sum_single {n k : Nat} {f : Nat → R} (hk : k < n) (h : ∀ i, i < n → i ≠ k → f i = 0) : sum n f = f k := by
  induction n with
  | zero => omega
  | succ n ih =>
    rw [sum_succ]
    by_cases e : k = n
    · subst e
      rw [sum_eq_zero (fun i hi => h i (by omega) (by omega)), zero_add]
    · rw [ih (by omega) (fun i hi hne => h i (by omega) hne), h n (by omega) (fun e' => e e'.symm), add_zero]
/-- A longer sum whose further ones are nought. -/
theorem sum_extend {m n : Nat} {f : Nat → R} (h : m ≤ n) (h0 : ∀ i, m ≤ i → i < n → f i = 0) : sum n f = sum m f := by
  obtain ⟨k, rfl⟩ := Nat.le.dest h
  rw [sum_append, sum_eq_zero (n := k) (fun i hi => h0 _ (by omega) (by omega)), add_zero]
theorem sum_comm (m n : Nat) (f : Nat → Nat → R) : sum m (fun i => sum n (f i)) = sum n (fun j => sum m (fun i => f i j)) := by
  induction m with
  | zero => rw [sum_zero]; exact (sum_eq_zero fun _ _ => rfl).symm
  | succ m ih => rw [sum_succ, ih, ← sum_add]; rfl
/-- From the other end. -/
theorem sum_flip (n : Nat) (f : Nat → R) : sum n f = sum n (fun i => f (n - 1 - i)) := by
  induction n with
  | zero => rfl
  | succ n ih =>
    rw [sum_succ, ih, sum_succ', add_comm]
    congr 1
    · exact sum_congr fun i hi => by congr 1; omega

end CRing

instance : CRing Int where
  add_assoc := Int.add_assoc
  add_comm := Int.add_comm
  add_zero := Int.add_zero
  add_neg := Int.add_right_neg
  mul_assoc := Int.mul_assoc
  mul_comm := Int.mul_comm
  mul_one := Int.mul_one
  mul_add := Int.mul_add
  sub_def := fun _ _ => Int.sub_eq_add_neg
  pow_zero := Int.pow_zero
  pow_succ := Int.pow_succ

/-- Binomial numbers. -/
def choose : Nat → Nat → Nat
  | _, 0 => 1
  | 0, _ + 1 => 0
  | n + 1, k + 1 => choose n k + choose n (k + 1)
theorem choose_zero (n : Nat) : choose n 0 = 1 := by cases n <;> rfl
theorem choose_succ (n k : Nat) : choose (n + 1) (k + 1) = choose n k + choose n (k + 1) := rfl
theorem choose_gt {n k : Nat} (h : n < k) : choose n k = 0 := by
  induction n generalizing k with
  | zero => cases k with
    | zero => omega
    | succ k => rfl
  | succ n ih => cases k with
    | zero => omega
    | succ k => rw [choose_succ, ih (by omega), ih (by omega)]
theorem choose_self (n : Nat) : choose n n = 1 := by
  induction n with
  | zero => rfl
  | succ n ih => rw [choose_succ, ih, choose_gt (by omega)]
/-- (k + 1) C(n + 1, k + 1) = (n + 1) C(n, k). -/
theorem succ_mul_choose (n k : Nat) : (k + 1) * choose (n + 1) (k + 1) = (n + 1) * choose n k := by
  induction n generalizing k with
  | zero =>
    cases k with
    | zero => rfl
    | succ k => rw [choose_succ, choose_gt (show 0 < k + 1 by omega), choose_gt (show 0 < k + 1 + 1 by omega)]; simp
  | succ n ih =>
    rw [choose_succ (n + 1) k, Nat.mul_add, ih k]
    cases k with
    | zero => rw [choose_zero, choose_zero]; omega
    | succ k =>
      have h1 := ih k
      have h3 := choose_succ n k
      grind

namespace CRing
variable {R : Type} [CRing R]
theorem binom (a b : R) (n : Nat) : (a + b) ^ n = sum (n + 1) (fun k => nsmul (choose n k) (a ^ k * b ^ (n - k))) := by
  induction n with
  | zero => rw [pow_zero, sum_succ, sum_zero, zero_add, choose_zero, nsmul_one, pow_zero, Nat.sub_zero, pow_zero, mul_one]
  | succ n ih =>
    rw [pow_succ, ih, mul_add, sum_mul, sum_mul]
    have e1 : sum (n + 1) (fun k => nsmul (choose n k) (a ^ k * b ^ (n - k)) * a) = sum (n + 1) (fun k => nsmul (choose n k) (a ^ (k + 1) * b ^ (n + 1 - (k + 1)))) := by
      refine sum_congr fun k _ => ?_
      rw [nsmul_mul_left, pow_succ, Nat.add_sub_add_right]
      congr 1; ac_rfl
    have e2 : sum (n + 1) (fun k => nsmul (choose n k) (a ^ k * b ^ (n - k)) * b) = sum (n + 1) (fun k => nsmul (choose n k) (a ^ k * b ^ (n + 1 - k))) := by
      refine sum_congr fun k hk => ?_
      rw [nsmul_mul_left, show n + 1 - k = (n - k) + 1 by omega, pow_succ]
      congr 1; ac_rfl
    rw [e1, e2, sum_succ' (n + 1), sum_succ' n (fun k => nsmul (choose n k) (a ^ k * b ^ (n + 1 - k)))]
    have e3 : sum (n + 1) (fun k => nsmul (choose (n + 1) (k + 1)) (a ^ (k + 1) * b ^ (n + 1 - (k + 1)))) = sum (n + 1) (fun k => nsmul (choose n k) (a ^ (k + 1) * b ^ (n + 1 - (k + 1)))) + sum n (fun k => nsmul (choose n (k + 1)) (a ^ (k + 1) * b ^ (n + 1 - (k + 1)))) := by
      rw [sum_congr (g := fun k => nsmul (choose n k) (a ^ (k + 1) * b ^ (n + 1 - (k + 1))) + nsmul (choose n (k + 1)) (a ^ (k + 1) * b ^ (n + 1 - (k + 1)))) (fun k _ => by rw [choose_succ, nsmul_add]), sum_add]
      congr 1
      rw [sum_succ, choose_gt (show n < n + 1 by omega), nsmul_zero, add_zero]
    rw [e3, choose_zero, choose_zero]
    ac_rfl

end CRing
end Cl

namespace Cl

/-- The rest of a by p, from 0 on; 0 where p is below 1. -/
def red (a p : Int) : Int := if p < 1 then 0 else a % p

/-- Is n a prime that may be? -/
def isPrime (n : Int) : Bool := decide (2 ≤ n) && decide (n ≤ 65521) && (List.range n.toNat).all (fun d => decide (d < 2) || decide (n % (d : Int) ≠ 0))

structure Pr (p : Int) : Prop where
  two : 2 ≤ p
  max : p ≤ 65521
  no : ∀ d : Int, 2 ≤ d → d < p → p % d ≠ 0

theorem isPrime_iff (p : Int) : isPrime p = true ↔ Pr p := by
  unfold isPrime
  simp only [Bool.and_eq_true, decide_eq_true_eq, List.all_eq_true, List.mem_range, Bool.or_eq_true]
  constructor
  · rintro ⟨⟨h1, h2⟩, h3⟩
    refine ⟨h1, h2, fun d hd hlt => ?_⟩
    have := h3 d.toNat (by omega)
    rcases this with h | h
    · omega
    · rwa [Int.toNat_of_nonneg (by omega)] at h
  · rintro ⟨h1, h2, h3⟩
    refine ⟨⟨h1, h2⟩, fun d hd => ?_⟩
    by_cases h : d < 2
    · exact .inl h
    · exact .inr (h3 d (by omega) (by omega))

theorem red_of_pos {a p : Int} (h : 1 ≤ p) : red a p = a % p := by unfold red; rw [if_neg (by omega)]
theorem red_nonneg (a p : Int) : 0 ≤ red a p := by
  unfold red; split
  · omega
  · exact Int.emod_nonneg _ (by omega)
theorem red_lt {a p : Int} (h : 1 ≤ p) : red a p < p := by
  rw [red_of_pos h]; exact Int.emod_lt_of_pos _ (by omega)

theorem Pr.of_sqrt {n d : Int} (h2 : 2 ≤ n) (hm : n ≤ 65521) (hd : 2 ≤ d) (h : ∀ k : Int, 2 ≤ k → k < d → n % k ≠ 0) (hdd : n < d * d) : Pr n := by
  refine ⟨h2, hm, fun k hk hkn h0 => ?_⟩
  have hn : k * (n / k) = n := Int.mul_ediv_cancel' (Int.dvd_of_emod_eq_zero h0)
  by_cases hkd : k < d
  · exact h k hk hkd h0
  · have hm2 : 2 ≤ n / k := by
      apply Int.not_lt.1
      intro hlt
      have h1 : n / k ≤ 1 := by omega
      have := Int.mul_le_mul_of_nonneg_left h1 (show 0 ≤ k by omega)
      omega
    have hmd : n / k < d := by
      apply Int.not_le.1
      intro hge
      have := Int.mul_le_mul (show d ≤ k by omega) hge (by omega) (by omega)
      omega
    exact h (n / k) hm2 hmd (Int.emod_eq_zero_of_dvd ⟨k, by rw [Int.mul_comm]; exact hn.symm⟩)

theorem isPrime_no {n : Int} (h : n < 2 ∨ 65521 < n) : isPrime n = false := by
  rw [Bool.eq_false_iff]; intro hp
  have q := (isPrime_iff n).1 hp
  have := q.two; have := q.max; omega
theorem isPrime_no_of {n d : Int} (hd : 2 ≤ d) (hn : d < n) (h : n % d = 0) : isPrime n = false := by
  rw [Bool.eq_false_iff]; intro hp
  exact ((isPrime_iff n).1 hp).no d hd hn h

/-- a and b have the same rest by p. -/
def Cg (p a b : Int) : Prop := ∃ k, a - b = p * k
namespace Cg
variable {p a b c d : Int}
theorem refl (p a : Int) : Cg p a a := ⟨0, by grind⟩
theorem of_eq (h : a = b) : Cg p a b := by subst h; exact refl _ _
theorem symm (h : Cg p a b) : Cg p b a := by obtain ⟨k, h⟩ := h; exact ⟨-k, by grind⟩
theorem trans (h : Cg p a b) (g : Cg p b c) : Cg p a c := by obtain ⟨k, h⟩ := h; obtain ⟨l, g⟩ := g; exact ⟨k + l, by grind⟩
theorem trans' (h : Cg p b c) (g : a = b) : Cg p a c := (of_eq g).trans h
theorem add (h : Cg p a b) (g : Cg p c d) : Cg p (a + c) (b + d) := by obtain ⟨k, h⟩ := h; obtain ⟨l, g⟩ := g; exact ⟨k + l, by grind⟩
theorem sub (h : Cg p a b) (g : Cg p c d) : Cg p (a - c) (b - d) := by obtain ⟨k, h⟩ := h; obtain ⟨l, g⟩ := g; exact ⟨k - l, by grind⟩
theorem neg (h : Cg p a b) : Cg p (-a) (-b) := by obtain ⟨k, h⟩ := h; exact ⟨-k, by grind⟩
theorem mul (h : Cg p a b) (g : Cg p c d) : Cg p (a * c) (b * d) := by obtain ⟨k, h⟩ := h; obtain ⟨l, g⟩ := g; exact ⟨k * c + b * l, by grind⟩
theorem pow (h : Cg p a b) (n : Nat) : Cg p (a ^ n) (b ^ n) := by
  induction n with
  | zero => exact of_eq (by rw [Int.pow_zero, Int.pow_zero])
  | succ n ih => rw [Int.pow_succ, Int.pow_succ]; exact ih.mul h
theorem iff_emod : Cg p a b ↔ a % p = b % p := by
  constructor
  · rintro ⟨k, h⟩
    have : a = b + p * k := by omega
    rw [this, Int.add_mul_emod_self_left]
  · intro h
    have h1 := Int.emod_add_mul_ediv a p
    have h2 := Int.emod_add_mul_ediv b p
    exact ⟨a / p - b / p, by rw [Int.mul_sub]; omega⟩
theorem emod_left (a p : Int) : Cg p (a % p) a := iff_emod.2 (Int.emod_emod_of_dvd a (Int.dvd_refl p))
theorem emod_right (a p : Int) : Cg p a (a % p) := (emod_left a p).symm
theorem iff_dvd : Cg p a b ↔ p ∣ a - b := ⟨fun ⟨k, h⟩ => ⟨k, h⟩, fun ⟨k, h⟩ => ⟨k, h⟩⟩
theorem zero_iff : Cg p a 0 ↔ p ∣ a := by rw [iff_dvd, Int.sub_zero]
theorem zero_iff_emod : Cg p a 0 ↔ a % p = 0 := by rw [iff_emod, Int.zero_emod]
end Cg
/-- Two plain numbers of the same rest are one. -/
theorem Cg.eq_of_lt {p a b : Int} (h : Cg p a b) (ha : 0 ≤ a) (ha' : a < p) (hb : 0 ≤ b) (hb' : b < p) : a = b := by
  have := Cg.iff_emod.1 h
  rwa [Int.emod_eq_of_lt ha ha', Int.emod_eq_of_lt hb hb'] at this

theorem red_cg {a p : Int} (h : 1 ≤ p) : Cg p (red a p) a := by rw [red_of_pos h]; exact Cg.emod_left _ _

namespace Pr
variable {p : Int}
theorem pos (hp : Pr p) : 0 < p := by have := hp.two; omega
theorem one_not (hp : Pr p) : ¬ Cg p 1 0 := by
  rw [Cg.zero_iff_emod, Int.emod_eq_of_lt (by omega) (by have := hp.two; omega)]; omega

/-- Each number from 1 to p - 1 has one whose product with it has the rest 1. -/
theorem inv_small (hp : Pr p) : ∀ n : Nat, ∀ y : Int, y.toNat = n → 0 < y → y < p → ∃ t, Cg p (t * y) 1 := by
  intro n
  induction n using Nat.strongRecOn with
  | ind n ih =>
    intro y hn h0 hlt
    by_cases h1 : y = 1
    · exact ⟨1, Cg.of_eq (by omega)⟩
    · have hr0 := hp.no y (by omega) hlt
      have hr1 := Int.emod_nonneg p (b := y) (by omega)
      have hr2 := Int.emod_lt_of_pos p h0
      obtain ⟨u, hu⟩ := ih (p % y).toNat (by omega) (p % y) rfl (by omega) (by omega)
      refine ⟨-(u * (p / y)), Cg.trans (Cg.iff_dvd.2 ⟨-u, ?_⟩) hu⟩
      have := Int.emod_add_mul_ediv p y
      grind
theorem inv_exists (hp : Pr p) {a : Int} (ha : ¬ Cg p a 0) : ∃ t, 0 < t ∧ t < p ∧ Cg p (a * t) 1 := by
  have h0 := hp.pos
  have h1 := Int.emod_nonneg a (b := p) (by omega)
  have h2 := Int.emod_lt_of_pos a h0
  have h3 : a % p ≠ 0 := fun h => ha (Cg.zero_iff_emod.2 h)
  obtain ⟨t, ht⟩ := hp.inv_small _ (a % p) rfl (by omega) h2
  have h4 : Cg p (a * (t % p)) 1 := by
    refine Cg.trans ?_ ht
    rw [Int.mul_comm]
    exact (Cg.emod_left t p).mul (Cg.emod_right a p)
  refine ⟨t % p, ?_, Int.emod_lt_of_pos t h0, h4⟩
  have h5 := Int.emod_nonneg t (b := p) (by omega)
  have h6 : t % p ≠ 0 := by
    intro h; rw [h, Int.mul_zero] at h4
    exact hp.one_not h4.symm
  omega
/-- There are no divisors of nought. -/
theorem mul_zero (hp : Pr p) {a b : Int} (h : Cg p (a * b) 0) : Cg p a 0 ∨ Cg p b 0 := by
  by_cases ha : Cg p a 0
  · exact .inl ha
  · obtain ⟨t, _, _, ht⟩ := hp.inv_exists ha
    right
    have h1 := (Cg.refl p t).mul h
    have h2 := ht.mul (Cg.refl p b)
    obtain ⟨k, h1⟩ := h1
    obtain ⟨l, h2⟩ := h2
    exact ⟨k - l, by grind⟩
theorem cancel (hp : Pr p) {a b c : Int} (ha : ¬ Cg p a 0) (h : Cg p (a * b) (a * c)) : Cg p b c := by
  have : Cg p (a * (b - c)) 0 := by obtain ⟨k, h⟩ := h; exact ⟨k, by grind⟩
  rcases hp.mul_zero this with h1 | h1
  · exact (ha h1).elim
  · obtain ⟨k, h⟩ := h1; exact ⟨k, by grind⟩
end Pr

/-- The inverse by p: the first plain number whose product with a has the rest 1; 0, if there is none. -/
def invm (a p : Int) : Int := (((List.range p.toNat).find? (fun x : Nat => decide (a * (x : Int) % p = 1))).getD 0 : Nat)

theorem invm_spec {a p : Int} (hp : Pr p) (ha : ¬ Cg p a 0) : 0 < invm a p ∧ invm a p < p ∧ Cg p (a * invm a p) 1 := by
  obtain ⟨t, h1, h2, h3⟩ := hp.inv_exists ha
  have hone : ∀ x : Int, Cg p x 1 ↔ x % p = 1 := fun x => by
    rw [Cg.iff_emod, Int.emod_eq_of_lt (a := 1) (by omega) (by have := hp.two; omega)]
  unfold invm
  cases hf : (List.range p.toNat).find? (fun x : Nat => decide (a * (x : Int) % p = 1)) with
  | none =>
    have := List.find?_eq_none.1 hf t.toNat (by simp; omega)
    simp only [decide_eq_true_eq] at this
    rw [Int.toNat_of_nonneg (by omega)] at this
    exact (this ((hone _).1 h3)).elim
  | some x =>
    have h4 := List.mem_of_find?_eq_some hf
    have h5 := List.find?_some hf
    simp only [decide_eq_true_eq, List.mem_range] at h4 h5
    simp only [Option.getD_some]
    refine ⟨?_, by omega, (hone _).2 h5⟩
    have : x ≠ 0 := by rintro rfl; simp at h5
    omega
theorem invm_unique {a p t : Int} (hp : Pr p) (h0 : 0 ≤ t) (h1 : t < p) (h : Cg p (a * t) 1) : t = invm a p := by
  have ha : ¬ Cg p a 0 := by
    intro h2
    have := h2.mul (Cg.refl p t)
    rw [Int.zero_mul] at this
    exact hp.one_not (h.symm.trans this)
  obtain ⟨h2, h3, h4⟩ := invm_spec hp ha
  exact (hp.cancel ha (h.trans h4.symm)).eq_of_lt h0 h1 (by omega) h3
theorem invm_zero {a p : Int} (_hp : Pr p) (ha : Cg p a 0) : invm a p = 0 := by
  unfold invm
  rw [List.find?_eq_none.2]
  · rfl
  · intro x _
    simp only [decide_eq_true_eq]
    intro h
    have : Cg p (a * x) 0 := by have := ha.mul (Cg.refl p (x : Int)); rwa [Int.zero_mul] at this
    rw [Cg.zero_iff_emod, h] at this
    omega

/-- Sum, difference, product, power by p. -/
def addm (a b p : Int) : Int := (a + b) % p
def subm (a b p : Int) : Int := (a - b) % p
def mulm (a b p : Int) : Int := (a * b) % p
def powm (a : Int) (n : Nat) (p : Int) : Int := a ^ n % p

theorem addm_cg (a b p : Int) : Cg p (addm a b p) (a + b) := Cg.emod_left _ _
theorem subm_cg (a b p : Int) : Cg p (subm a b p) (a - b) := Cg.emod_left _ _
theorem mulm_cg (a b p : Int) : Cg p (mulm a b p) (a * b) := Cg.emod_left _ _
theorem powm_cg (a : Int) (n : Nat) (p : Int) : Cg p (powm a n p) (a ^ n) := Cg.emod_left _ _
theorem emod_bd (a : Int) {p : Int} (hp : 1 ≤ p) : 0 ≤ a % p ∧ a % p < p := ⟨Int.emod_nonneg _ (by omega), Int.emod_lt_of_pos _ (by omega)⟩
theorem addm_bd (a b : Int) {p : Int} (hp : 1 ≤ p) : 0 ≤ addm a b p ∧ addm a b p < p := emod_bd _ hp
theorem subm_bd (a b : Int) {p : Int} (hp : 1 ≤ p) : 0 ≤ subm a b p ∧ subm a b p < p := emod_bd _ hp
theorem mulm_bd (a b : Int) {p : Int} (hp : 1 ≤ p) : 0 ≤ mulm a b p ∧ mulm a b p < p := emod_bd _ hp
theorem powm_bd (a : Int) (n : Nat) {p : Int} (hp : 1 ≤ p) : 0 ≤ powm a n p ∧ powm a n p < p := emod_bd _ hp
theorem red_bd (a : Int) {p : Int} (hp : 1 ≤ p) : 0 ≤ red a p ∧ red a p < p := ⟨red_nonneg _ _, red_lt hp⟩
theorem invm_bd (a : Int) {p : Int} (hp : Pr p) : 0 ≤ invm a p ∧ invm a p < p := by
  by_cases h : Cg p a 0
  · rw [invm_zero hp h]; exact ⟨by omega, hp.pos⟩
  · have := invm_spec hp h; omega

theorem emod_eq_of_cg {p a b : Int} (h : Cg p a b) : a % p = b % p := Cg.iff_emod.1 h
theorem addm_of {a b p x : Int} (h : Cg p x (a + b)) : x % p = addm a b p := emod_eq_of_cg h
theorem subm_of {a b p x : Int} (h : Cg p x (a - b)) : x % p = subm a b p := emod_eq_of_cg h
theorem mulm_of {a b p x : Int} (h : Cg p x (a * b)) : x % p = mulm a b p := emod_eq_of_cg h

/-- What holds of Euclid's rows at the head of each round. -/
structure Eu (p a x y s t : Int) : Prop where
  x2 : 2 ≤ x
  y0 : 0 ≤ y
  yx : y < x
  xp : x ≤ p
  cs : Cg p (s * a) x
  ct : Cg p (t * a) y
  sg : (0 ≤ t ∧ s ≤ 0 ∧ t * x - s * y = p) ∨ (t ≤ 0 ∧ 0 ≤ s ∧ s * y - t * x = p)
  dv : ∀ d, d ∣ x → d ∣ y → d ∣ p ∧ d ∣ red a p
theorem Eu.start {p a : Int} (hp : Pr p) : Eu p a p (red a p) 0 1 := by
  have h2 := hp.two
  have hr := red_bd a (p := p) (by omega)
  refine ⟨by omega, hr.1, hr.2, by omega, ⟨-1, by omega⟩, ?_, .inl ⟨by omega, by omega, by omega⟩, fun d h1 h2 => ⟨h1, h2⟩⟩
  rw [Int.one_mul]; exact (red_cg (by omega)).symm
theorem Eu.q {p a x y s t : Int} (h : Eu p a x y s t) (hy : 2 ≤ y) : 0 ≤ x / y ∧ x / y ≤ x ∧ 0 ≤ x / y * y ∧ x / y * y ≤ x ∧ 0 ≤ x - x / y * y ∧ x - x / y * y < y := by
  have h1 := h.x2
  have h2 : 0 ≤ x / y := Int.ediv_nonneg (by omega) (by omega)
  have h3 := Int.emod_add_mul_ediv x y
  rw [Int.mul_comm] at h3
  have h4 := Int.emod_nonneg x (b := y) (by omega)
  have h5 := Int.emod_lt_of_pos x (b := y) (by omega)
  have h6 := Int.mul_nonneg h2 h.y0
  have h7 : x / y * 1 ≤ x / y * y := Int.mul_le_mul_of_nonneg_left (by omega) h2
  omega
theorem Eu.bd {p a x y s t : Int} (h : Eu p a x y s t) (hy : 2 ≤ y) : -p ≤ s ∧ s ≤ p ∧ -p ≤ t ∧ t ≤ p ∧ -p ≤ x / y * t ∧ x / y * t ≤ p ∧ -p ≤ s - x / y * t ∧ s - x / y * t ≤ p := by
  have hx := h.x2
  obtain ⟨q1, q2, q3, q4, q5, q6⟩ := h.q hy
  rcases h.sg with ⟨h1, h2, h3⟩ | ⟨h1, h2, h3⟩
  · have e1 : t * 1 ≤ t * x := Int.mul_le_mul_of_nonneg_left (by omega) h1
    have e2 : t * (x / y) ≤ t * x := Int.mul_le_mul_of_nonneg_left q2 h1
    have e3 : (-s) * 1 ≤ (-s) * y := Int.mul_le_mul_of_nonneg_left (by omega) (by omega)
    have e4 : 0 ≤ t * (x / y) := Int.mul_nonneg h1 q1
    have e5 : x / y * t = t * (x / y) := Int.mul_comm _ _
    have e6 : (-s) * y = -(s * y) := by grind
    omega
  · have e1 : (-t) * 1 ≤ (-t) * x := Int.mul_le_mul_of_nonneg_left (by omega) (by omega)
    have e2 : (-t) * (x / y) ≤ (-t) * x := Int.mul_le_mul_of_nonneg_left q2 (by omega)
    have e3 : s * 1 ≤ s * y := Int.mul_le_mul_of_nonneg_left (by omega) (by omega)
    have e4 : 0 ≤ (-t) * (x / y) := Int.mul_nonneg (by omega) q1
    have e5 : x / y * t = -((-t) * (x / y)) := by grind
    have e6 : (-t) * x = -(t * x) := by grind
    omega
theorem Eu.next {p a x y s t : Int} (h : Eu p a x y s t) (hy : 2 ≤ y) : Eu p a y (x - x / y * y) t (s - x / y * t) := by
  obtain ⟨q1, q2, q3, q4, q5, q6⟩ := h.q hy
  have hyx := h.yx; have hxp := h.xp
  refine ⟨hy, q5, q6, by omega, h.ct, ?_, ?_, ?_⟩
  · have := h.cs.sub ((Cg.refl p (x / y)).mul h.ct)
    exact (Cg.of_eq (by grind)).trans this
  · rcases h.sg with ⟨h1, h2, h3⟩ | ⟨h1, h2, h3⟩
    · have e4 : 0 ≤ x / y * t := Int.mul_nonneg q1 h1
      exact .inr ⟨by omega, h1, by grind⟩
    · have e4 : 0 ≤ x / y * (-t) := Int.mul_nonneg q1 (by omega)
      have e5 : x / y * (-t) = -(x / y * t) := by grind
      exact .inl ⟨by omega, h1, by grind⟩
  · intro d hd1 hd2
    refine h.dv d ?_ hd1
    have : d ∣ (x - x / y * y) + x / y * y := Int.dvd_add hd2 (Int.dvd_trans hd1 (Int.dvd_mul_left _ _))
    rwa [Int.sub_add_cancel] at this
theorem Eu.one {p a x s t : Int} (h : Eu p a x 1 s t) (hp : Pr p) : red t p = invm a p ∧ ¬ Cg p a 0 := by
  have h2 := hp.two
  have hr := red_bd t (p := p) (by omega)
  have h1 : Cg p (a * red t p) 1 := by
    rw [Int.mul_comm]
    exact ((red_cg (by omega)).mul (Cg.refl p a)).trans h.ct
  refine ⟨invm_unique hp hr.1 hr.2 h1, fun h0 => ?_⟩
  have := h0.mul (Cg.refl p (red t p))
  rw [Int.zero_mul] at this
  exact hp.one_not (h1.symm.trans this)
theorem Eu.zero {p a x s t : Int} (h : Eu p a x 0 s t) (hp : Pr p) : Cg p a 0 := by
  have h2 := hp.two
  obtain ⟨h3, h4⟩ := h.dv x (Int.dvd_refl x) (Int.dvd_zero x)
  have h5 : x = p := by
    have hx := h.x2; have hxp := h.xp
    by_cases hlt : x < p
    · exact (hp.no x hx hlt (Int.emod_eq_zero_of_dvd h3)).elim
    · omega
  subst h5
  exact (red_cg (by omega)).symm.trans (Cg.zero_iff.2 h4)
theorem Eu.tbd {p a x y s t : Int} (h : Eu p a x y s t) (hy : 0 ≤ y) : -p ≤ t ∧ t ≤ p := by
  have hx := h.x2
  rcases h.sg with ⟨h1, h2, h3⟩ | ⟨h1, h2, h3⟩
  · have e1 : t * 1 ≤ t * x := Int.mul_le_mul_of_nonneg_left (by omega) h1
    have e3 : 0 ≤ (-s) * y := Int.mul_nonneg (by omega) hy
    have e6 : (-s) * y = -(s * y) := by grind
    omega
  · have e1 : (-t) * 1 ≤ (-t) * x := Int.mul_le_mul_of_nonneg_left (by omega) (by omega)
    have e3 : 0 ≤ s * y := Int.mul_nonneg h2 hy
    have e6 : (-t) * x = -(t * x) := by grind
    omega

/-- What an inverse is told with: 3, if there is none. -/
def invE (a p : Int) : Int := if a % p = 0 then 3 else 0
theorem invE_zero {a p : Int} (h : Cg p a 0) : invE a p = 3 := by unfold invE; rw [if_pos (Cg.zero_iff_emod.1 h)]
theorem invE_ok {a p : Int} (h : ¬ Cg p a 0) : invE a p = 0 := by unfold invE; rw [if_neg (fun h0 => h (Cg.zero_iff_emod.2 h0))]

/-- What holds at the head of each round where a power is made by squares. -/
structure Pw (p a : Int) (N : Nat) (out base n : Int) : Prop where
  n0 : 0 ≤ n
  o0 : 0 ≤ out
  op : out < p
  b0 : 0 ≤ base
  bp : base < p
  cg : Cg p (out * base ^ n.toNat) (a ^ N)
theorem Pw.start {p a : Int} (hp : Pr p) {n : Int} (hn : 0 ≤ n) : Pw p a n.toNat 1 (red a p) n := by
  have h2 := hp.two
  have hr := red_bd a (p := p) (by omega)
  refine ⟨hn, by omega, by omega, hr.1, hr.2, ?_⟩
  rw [Int.one_mul]; exact (red_cg (by omega)).pow _
theorem Pw.done {p a out base : Int} {N : Nat} (h : Pw p a N out base 0) : out = powm a N p := by
  have h1 := h.cg
  rw [Int.toNat_zero, Int.pow_zero, Int.mul_one] at h1
  have := emod_eq_of_cg h1
  rwa [Int.emod_eq_of_lt h.o0 h.op] at this
theorem Pw.even {p a out base n : Int} {N : Nat} (h : Pw p a N out base n) (he : n % 2 = 0) : Pw p a N out (base * base % p) (n / 2) := by
  have hn := h.n0
  have hp : 1 ≤ p := by have := h.o0; have := h.op; omega
  have hb := emod_bd (base * base) hp
  refine ⟨by omega, h.o0, h.op, hb.1, hb.2, Cg.trans ?_ h.cg⟩
  refine (Cg.refl p out).mul ?_
  have e : n.toNat = 2 * (n / 2).toNat := by omega
  rw [e, Int.pow_mul, Int.pow_succ, Int.pow_succ, Int.pow_zero, Int.one_mul]
  exact (Cg.emod_left _ _).pow _
theorem Pw.odd {p a out base n : Int} {N : Nat} (h : Pw p a N out base n) (he : n % 2 = 1) : Pw p a N (out * base % p) (base * base % p) (n / 2) := by
  have hn := h.n0
  have hp : 1 ≤ p := by have := h.o0; have := h.op; omega
  have hb := emod_bd (base * base) hp
  have ho := emod_bd (out * base) hp
  refine ⟨by omega, ho.1, ho.2, hb.1, hb.2, Cg.trans ?_ h.cg⟩
  have e : n.toNat = 2 * (n / 2).toNat + 1 := by omega
  rw [e, Int.pow_succ, Int.pow_mul, Int.pow_succ, Int.pow_succ, Int.pow_zero, Int.one_mul]
  have := (Cg.emod_left (out * base) p).mul ((Cg.emod_left (base * base) p).pow (n / 2).toNat)
  exact this.trans (Cg.of_eq (by grind))

end Cl

namespace Cl
open CRing

theorem choose_prime {p : Nat} (hp : Pr (p : Int)) {k : Nat} (h0 : 0 < k) (hk : k < p) : p ∣ choose p k := by
  obtain ⟨n, rfl⟩ : ∃ n, p = n + 1 := ⟨p - 1, by omega⟩
  obtain ⟨j, rfl⟩ : ∃ j, k = j + 1 := ⟨k - 1, by omega⟩
  have h := succ_mul_choose n j
  have h1 : Cg ((n + 1 : Nat) : Int) (((j + 1 : Nat) : Int) * (choose (n + 1) (j + 1) : Nat)) 0 := by
    refine ⟨(choose n j : Nat), ?_⟩
    rw [← Int.natCast_mul, h, Int.natCast_mul]; omega
  rcases hp.mul_zero h1 with h2 | h2
  · rw [Cg.zero_iff_emod, Int.emod_eq_of_lt (by omega) (by omega)] at h2; omega
  · rw [Cg.zero_iff] at h2; exact Int.natCast_dvd_natCast.1 h2

section
variable {R : Type} [CRing R]
/-- p times anything is nought. -/
def CharP (R : Type) [CRing R] (p : Nat) : Prop := nsmul p (1 : R) = 0
theorem CharP.nsmul {p : Nat} (h : CharP R p) {n : Nat} (hn : p ∣ n) (a : R) : nsmul n a = 0 := by
  obtain ⟨m, rfl⟩ := hn
  rw [Nat.mul_comm, nsmul_mul, nsmul_eq_mul p a, h, zero_mul, nsmul_of_zero]
theorem CharP.add_pow {p : Nat} (h : CharP R p) (hp : Pr (p : Int)) (a b : R) : (a + b) ^ p = a ^ p + b ^ p := by
  have h2 := hp.two
  obtain ⟨n, hn⟩ : ∃ n, p = n + 1 := ⟨p - 1, by omega⟩
  rw [binom, sum_succ, choose_self, nsmul_one, Nat.sub_self, CRing.pow_zero, CRing.mul_one]
  have e : sum p (fun k => CRing.nsmul (choose p k) (a ^ k * b ^ (p - k))) = b ^ p := by
    rw [hn, sum_succ', ← hn, choose_zero, nsmul_one, CRing.pow_zero, one_mul, Nat.sub_zero]
    rw [sum_eq_zero (fun i hi => h.nsmul (choose_prime hp (by omega) (by omega)) _), CRing.add_zero]
  rw [e, CRing.add_comm]
theorem CharP.add_pow_pow {p : Nat} (h : CharP R p) (hp : Pr (p : Int)) (a b : R) (k : Nat) : (a + b) ^ (p ^ k) = a ^ (p ^ k) + b ^ (p ^ k) := by
  induction k with
  | zero => rw [Nat.pow_zero, pow_one, pow_one, pow_one]
  | succ k ih => rw [Nat.pow_succ, pow_mul, ih, h.add_pow hp, pow_mul, pow_mul]
theorem CharP.sum_pow {p : Nat} (h : CharP R p) (hp : Pr (p : Int)) (n : Nat) (f : Nat → R) : (sum n f) ^ p = sum n (fun i => f i ^ p) := by
  induction n with
  | zero => exact zero_pow (by have := hp.two; omega)
  | succ n ih => rw [sum_succ, h.add_pow hp, ih, sum_succ]
end

end Cl

namespace Cl
open CRing

class CField (F : Type) extends CRing F where
  inv : F → F
  mul_inv : ∀ a : F, a ≠ 0 → a * inv a = 1
  one_ne : (1 : F) ≠ 0
namespace CField
variable {F : Type} [CField F]
theorem inv_mul {a : F} (h : a ≠ 0) : inv a * a = 1 := by rw [mul_comm, mul_inv a h]
theorem no_zero {a b : F} (h : a * b = 0) : a = 0 ∨ b = 0 := by
  by_cases ha : a = 0
  · exact .inl ha
  · right
    have : inv a * (a * b) = inv a * 0 := by rw [h]
    rwa [← CRing.mul_assoc, inv_mul ha, one_mul, CRing.mul_zero] at this
theorem mul_ne {a b : F} (ha : a ≠ 0) (hb : b ≠ 0) : a * b ≠ 0 := fun h => (no_zero h).elim ha hb
theorem inv_ne {a : F} (h : a ≠ 0) : inv a ≠ 0 := fun e => by
  have := mul_inv a h
  rw [e, CRing.mul_zero] at this
  exact one_ne this.symm
theorem mul_left_cancel {a b c : F} (ha : a ≠ 0) (h : a * b = a * c) : b = c := by
  have : inv a * (a * b) = inv a * (a * c) := by rw [h]
  rwa [← CRing.mul_assoc, ← CRing.mul_assoc, inv_mul ha, one_mul, one_mul] at this
end CField

/-- A prime, with what is known of it. -/
structure Prm where
  p : Int
  pr : Pr p

/-- A residue. -/
structure Zp (q : Prm) where
  val : Int
  lo : 0 ≤ val
  hi : val < q.p

namespace Zp
variable {q : Prm}
theorem ext {a b : Zp q} (h : a.val = b.val) : a = b := by cases a; cases b; simp only [mk.injEq]; exact h
/-- A number's residue. -/
def of (q : Prm) (a : Int) : Zp q := ⟨a % q.p, Int.emod_nonneg _ (by have := q.pr.two; omega), Int.emod_lt_of_pos _ q.pr.pos⟩
theorem of_val (a : Zp q) : of q a.val = a := ext (Int.emod_eq_of_lt a.lo a.hi)
theorem val_of (a : Int) : (of q a).val = a % q.p := rfl
theorem of_eq_iff {a b : Int} : of q a = of q b ↔ Cg q.p a b := by
  rw [Cg.iff_emod]
  constructor
  · intro h; exact congrArg val h
  · intro h; exact ext h
theorem of_cg {a b : Int} (h : Cg q.p a b) : of q a = of q b := of_eq_iff.2 h
theorem val_cg (a : Int) : Cg q.p (of q a).val a := Cg.emod_left _ _

instance : Add (Zp q) := ⟨fun a b => of q (a.val + b.val)⟩
instance : Mul (Zp q) := ⟨fun a b => of q (a.val * b.val)⟩
instance : Neg (Zp q) := ⟨fun a => of q (-a.val)⟩
instance : Sub (Zp q) := ⟨fun a b => of q (a.val - b.val)⟩
instance : Zero (Zp q) := ⟨of q 0⟩
instance : One (Zp q) := ⟨of q 1⟩
instance : NatPow (Zp q) := ⟨fun a n => of q (a.val ^ n)⟩

theorem of_add (a b : Int) : of q (a + b) = of q a + of q b := of_cg ((val_cg a).add (val_cg b)).symm
theorem of_mul (a b : Int) : of q (a * b) = of q a * of q b := of_cg ((val_cg a).mul (val_cg b)).symm
theorem of_sub (a b : Int) : of q (a - b) = of q a - of q b := of_cg ((val_cg a).sub (val_cg b)).symm
theorem of_neg (a : Int) : of q (-a) = -of q a := of_cg (val_cg a).neg.symm
theorem of_pow (a : Int) (n : Nat) : of q (a ^ n) = of q a ^ n := of_cg ((val_cg a).pow n).symm
theorem of_zero : of q 0 = 0 := rfl
theorem of_one : of q 1 = 1 := rfl
theorem ind {P : Zp q → Prop} (h : ∀ a, P (of q a)) (a : Zp q) : P a := by rw [← of_val a]; exact h _

instance : CField (Zp q) where
  add_assoc a b c := by
    rw [← of_val a, ← of_val b, ← of_val c, ← of_add, ← of_add, ← of_add, ← of_add, Int.add_assoc]
  add_comm a b := by rw [← of_val a, ← of_val b, ← of_add, ← of_add, Int.add_comm]
  add_zero a := by rw [← of_val a, ← of_zero, ← of_add, Int.add_zero]
  add_neg a := by rw [← of_val a, ← of_neg, ← of_add, Int.add_right_neg]; rfl
  mul_assoc a b c := by
    rw [← of_val a, ← of_val b, ← of_val c, ← of_mul, ← of_mul, ← of_mul, ← of_mul, Int.mul_assoc]
  mul_comm a b := by rw [← of_val a, ← of_val b, ← of_mul, ← of_mul, Int.mul_comm]
  mul_one a := by rw [← of_val a, ← of_one, ← of_mul, Int.mul_one]
  mul_add a b c := by
    rw [← of_val a, ← of_val b, ← of_val c, ← of_add, ← of_mul, ← of_mul, ← of_mul, ← of_add, Int.mul_add]
  sub_def a b := by rw [← of_val a, ← of_val b, ← of_sub, ← of_neg, ← of_add, Int.sub_eq_add_neg]
  pow_zero a := by rw [← of_val a, ← of_pow, Int.pow_zero]; rfl
  pow_succ a n := by rw [← of_val a, ← of_pow, ← of_pow, ← of_mul, Int.pow_succ]
  inv a := of q (invm a.val q.p)
  mul_inv a h := by
    have ha : ¬ Cg q.p a.val 0 := fun h0 => h (by rw [← of_val a]; exact of_cg h0)
    conv => lhs; lhs; rw [← of_val a]
    rw [← of_mul]
    exact of_cg (invm_spec q.pr ha).2.2
  one_ne h := q.pr.one_not (of_eq_iff.1 h)

theorem eq_zero_iff {a : Int} : of q a = 0 ↔ Cg q.p a 0 := of_eq_iff
theorem inv_of (a : Int) : CField.inv (of q a) = of q (invm a q.p) := by
  by_cases ha : Cg q.p a 0
  · show of q (invm (of q a).val q.p) = _
    rw [invm_zero q.pr ha, invm_zero q.pr ((val_cg a).trans ha)]
  · have ha' : of q a ≠ 0 := fun h => ha (eq_zero_iff.1 h)
    apply CField.mul_left_cancel ha'
    rw [CField.mul_inv _ ha', ← of_mul]
    exact (of_cg (invm_spec q.pr ha).2.2).symm
theorem nsmul_one (n : Nat) : nsmul n (1 : Zp q) = of q n := by
  induction n with
  | zero => rfl
  | succ n ih => rw [nsmul_succ, ih, ← of_one, ← of_add]; rfl
theorem charP (q : Prm) : CharP (Zp q) q.p.toNat := by
  show nsmul _ _ = _
  rw [nsmul_one, Int.toNat_of_nonneg (by have := q.pr.two; omega)]
  exact of_cg ⟨1, by omega⟩
theorem pr_nat (q : Prm) : Pr (q.p.toNat : Int) := by
  rw [Int.toNat_of_nonneg (by have := q.pr.two; omega)]; exact q.pr
/-- Fermat: the p-th power of each residue is itself. -/
theorem pow_p (a : Zp q) : a ^ q.p.toNat = a := by
  have key : ∀ n : Nat, (of q n) ^ q.p.toNat = of q n := by
    intro n
    induction n with
    | zero => exact zero_pow (by have := q.pr.two; omega)
    | succ n ih =>
      have e : of q ((n + 1 : Nat) : Int) = of q n + 1 := by rw [← of_one, ← of_add]; rfl
      rw [e, (charP q).add_pow (pr_nat q), ih, one_pow]
  have h := key a.val.toNat
  rwa [Int.toNat_of_nonneg a.lo, of_val] at h
end Zp

theorem fermat {p : Int} (hp : Pr p) (a : Int) : powm a p.toNat p = red a p := by
  have h := Zp.pow_p (Zp.of ⟨p, hp⟩ a)
  rw [← Zp.of_pow, Zp.of_eq_iff, Cg.iff_emod] at h
  rw [red_of_pos (by have := hp.two; omega)]
  exact h
theorem powm_add (a : Int) (m n : Nat) (p : Int) : mulm (powm a m p) (powm a n p) p = powm a (m + n) p := by
  refine emod_eq_of_cg (((powm_cg a m p).mul (powm_cg a n p)).trans (Cg.of_eq ?_))
  rw [Int.pow_add]

end Cl
