/- How the programs make derivatives, values, powers. No program in sight. -/
import Derived.Test.YteddelfkjpljpaaPolyWays
import Derived.Test.YteddelfkjpljpaaPolyEv
namespace Cl
open CRing Poly
variable {q : Prm}
/-- The derivative's list. -/
theorem canon_D {xs : List Int} {f : Nat → Int} (h : ∀ i, i + 1 < xs.length → Cg q.p (f i) (((i + 1 : Nat) : Int) * nth xs (i + 1))) : canon (xs.length - 1) f q.p = fromP (toP q xs).D := by
  refine canon_eq (fun i hi => ?_) (fun i hi => ?_)
  · rw [co_D, nsmul_zp, co_toP, ← Zp.of_mul]
    exact Zp.of_cg (h i (by omega))
  · rw [co_D, co_toP, nth_ge (by omega), Zp.of_zero, nsmul_of_zero]
/-- Horner's way: the first d of n numbers, from the top. -/
def horn (f : Nat → Int) (x p : Int) (n : Nat) : Nat → Int
  | 0 => 0
  | d + 1 => (horn f x p n d * x + f (n - 1 - d)) % p
theorem horn_bd (f : Nat → Int) (x : Int) {p : Int} (hp : 1 ≤ p) (n d : Nat) : 0 ≤ horn f x p n d ∧ horn f x p n d < p := by
  cases d with
  | zero => show 0 ≤ (0 : Int) ∧ (0 : Int) < p; omega
  | succ d => exact emod_bd _ hp
theorem of_horn (f : Nat → Int) (x : Int) (n : Nat) {d : Nat} (hd : d ≤ n) : Zp.of q (horn f x q.p n d) = sum d (fun i => Zp.of q (f (n - d + i)) * Zp.of q x ^ i) := by
  induction d with
  | zero => rfl
  | succ d ih =>
    have e : Zp.of q (horn f x q.p n (d + 1)) = Zp.of q (horn f x q.p n d) * Zp.of q x + Zp.of q (f (n - 1 - d)) := by
      rw [← Zp.of_mul, ← Zp.of_add]
      exact Zp.of_cg (Cg.emod_left _ _)
    rw [e, ih (by omega), sum_succ', sum_mul, add_comm]
    congr 1
    · rw [CRing.pow_zero, CRing.mul_one]; congr 2; omega
    · refine sum_congr fun i _ => ?_
      rw [CRing.pow_succ, show n - (d + 1) + (i + 1) = n - d + i by omega]; ac_rfl
/-- The value of a list at a place. -/
noncomputable def valP (q : Prm) (xs : List Int) (x : Int) : Int := (ev (fun a => a) (toP q xs) (Zp.of q x)).val
theorem horn_val {f : Nat → Int} {x : Int} {n : Nat} {xs : List Int} (hn : xs.length ≤ n) (h : ∀ i, i < n → Cg q.p (f i) (nth xs i)) : horn f x q.p n n = valP q xs x := by
  have hb := horn_bd f x (p := q.p) (by have := q.pr.two; omega) n n
  have e := of_horn (q := q) f x n (Nat.le_refl n)
  unfold valP
  rw [ev_eq hom_id ((toP_sh xs).mono hn)]
  unfold evN
  have e2 : sum n (fun i => Zp.of q (f (n - n + i)) * Zp.of q x ^ i) = sum n (fun i => (toP q xs).co i * Zp.of q x ^ i) := sum_congr fun i hi => by
    rw [Nat.sub_self, Nat.zero_add, co_toP, Zp.of_cg (h i hi)]
  rw [e2] at e
  rw [← e, of_pl hb.1 hb.2]
theorem valP_bd (xs : List Int) (x : Int) : 0 ≤ valP q xs x ∧ valP q xs x < q.p := ⟨Zp.lo _, Zp.hi _⟩
theorem of_valP (xs : List Int) (x : Int) : Zp.of q (valP q xs x) = ev (fun a => a) (toP q xs) (Zp.of q x) := Zp.of_val _

/-- A natural number's bits, from the top: what d of n of them tell. -/
def topN (N n d : Nat) : Nat := N / 2 ^ (n - d)
theorem topN_zero {N n : Nat} (h : N < 2 ^ n) : topN N n 0 = 0 := Nat.div_eq_of_lt h
theorem topN_full (N n : Nat) : topN N n n = N := by unfold topN; rw [Nat.sub_self, Nat.pow_zero, Nat.div_one]
theorem topN_succ {N n d : Nat} (h : d < n) : topN N n (d + 1) = 2 * topN N n d + (N / 2 ^ (n - (d + 1))) % 2 := by
  unfold topN
  have e : n - d = (n - (d + 1)) + 1 := by omega
  rw [e, Nat.pow_succ, ← Nat.div_div_eq_div_mul]
  omega
/-- The rest of a power. -/
noncomputable def powR (a : Poly (Zp q)) (N : Nat) (m : Poly (Zp q)) : Poly (Zp q) := rem (a ^ N) m
theorem powR_zero (a m : Poly (Zp q)) : powR a 0 m = rem 1 m := by unfold powR; rw [CRing.pow_zero]
theorem powR_eqm (a : Poly (Zp q)) (N : Nat) {m : Poly (Zp q)} (hm : m ≠ 0) : Eqm m (powR a N m) (a ^ N) := eqm_rem _ hm
theorem powR_sq (a : Poly (Zp q)) (N : Nat) {m : Poly (Zp q)} (hm : m ≠ 0) : rem (powR a N m * powR a N m) m = powR a (2 * N) m := by
  refine rem_eq_of_eqm hm (((powR_eqm a N hm).mul (powR_eqm a N hm)).trans ?_)
  rw [← CRing.pow_add, Nat.two_mul]; exact Eqm.refl _ _
theorem powR_mul (a : Poly (Zp q)) (N : Nat) {m b : Poly (Zp q)} (hm : m ≠ 0) (hb : Eqm m b a) : rem (powR a N m * b) m = powR a (N + 1) m := by
  refine rem_eq_of_eqm hm (((powR_eqm a N hm).mul hb).trans ?_)
  rw [← CRing.pow_succ]; exact Eqm.refl _ _

theorem rem_len' (a : Poly (Zp q)) {b : Poly (Zp q)} (hb : b ≠ 0) : (rem a b).len < b.len := (div_spec a hb).2
theorem prod_len' (a b : Poly (Zp q)) : (a * b).len ≤ a.len + b.len := len_le ((len_sh a).mul (len_sh b) (by omega))
theorem quo_len' (a : Poly (Zp q)) {b : Poly (Zp q)} (hb : b ≠ 0) : (quo a b).len ≤ a.len := by
  obtain ⟨h1, h2⟩ := div_spec a hb
  by_cases h0 : quo a b = 0
  · rw [h0, len_zero]; omega
  · have h3 := (len_mul h0 hb).1
    have h4 := len_pos hb
    have h5 : quo a b * b = a - rem a b := by
      conv => rhs; lhs; rw [h1]
      rw [CRing.add_sub_cancel]
    have h6 : (a - rem a b).len ≤ max a.len (rem a b).len := len_le (((len_sh a).mono (by omega)).sub ((len_sh (rem a b)).mono (by omega)))
    rw [← h5, h3] at h6
    have h7 := len_pos h0
    omega
/-- The number that limbs of 64 bits tell. -/
def limbs : List Int → Nat
  | [] => 0
  | x :: xs => x.toNat + 2 ^ 64 * limbs xs
/-- Are they limbs? -/
def IsLimbs (l : List Int) : Prop := ∀ i, 0 ≤ nth l i ∧ nth l i < 18446744073709551616
theorem nth_cons_zero (x : Int) (l : List Int) : nth (x :: l) 0 = x := rfl
theorem nth_cons_succ (x : Int) (l : List Int) (i : Nat) : nth (x :: l) (i + 1) = nth l i := rfl
theorem IsLimbs.tail {x : Int} {l : List Int} (h : IsLimbs (x :: l)) : IsLimbs l := fun i => h (i + 1)
/-- The k-th bit stands in limb k / 64. -/
theorem limbs_bit {l : List Int} (h : IsLimbs l) (k : Nat) : limbs l / 2 ^ k % 2 = (nth l (k / 64)).toNat / 2 ^ (k % 64) % 2 := by
  induction l generalizing k with
  | nil => show 0 / 2 ^ k % 2 = (0 : Int).toNat / 2 ^ (k % 64) % 2; simp
  | cons x l ih =>
    have hx := h 0
    rw [nth_cons_zero] at hx
    show (x.toNat + 2 ^ 64 * limbs l) / 2 ^ k % 2 = _
    by_cases hk : k < 64
    · rw [Nat.div_eq_of_lt hk, Nat.mod_eq_of_lt hk, nth_cons_zero]
      obtain ⟨d, hd⟩ : ∃ d, 64 = k + (d + 1) := ⟨63 - k, by omega⟩
      have e : 2 ^ 64 * limbs l = 2 ^ k * (2 * (2 ^ d * limbs l)) := by
        conv => lhs; rw [hd, Nat.pow_add, Nat.pow_succ]
        ac_rfl
      rw [e, Nat.add_mul_div_left _ _ (Nat.two_pow_pos k), Nat.add_mul_mod_self_left]
    · obtain ⟨j, rfl⟩ : ∃ j, k = j + 64 := ⟨k - 64, by omega⟩
      have e1 : (x.toNat + 2 ^ 64 * limbs l) / 2 ^ (j + 64) = limbs l / 2 ^ j := by
        rw [Nat.add_comm j 64, Nat.pow_add, ← Nat.div_div_eq_div_mul, Nat.add_mul_div_left _ _ (by decide), Nat.div_eq_of_lt (a := x.toNat) (by omega), Nat.zero_add]
      rw [e1, ih h.tail, show (j + 64) / 64 = j / 64 + 1 by omega, nth_cons_succ, show (j + 64) % 64 = j % 64 by omega]
theorem limbs_lt {l : List Int} (h : IsLimbs l) : limbs l < 2 ^ (64 * l.length) := by
  induction l with
  | nil => decide
  | cons x l ih =>
    have hx := h 0
    rw [nth_cons_zero] at hx
    have := ih h.tail
    show x.toNat + 2 ^ 64 * limbs l < 2 ^ (64 * (l.length + 1))
    rw [Nat.mul_succ, Nat.add_comm (64 * l.length), Nat.pow_add]
    have h1 : 2 ^ 64 * (limbs l + 1) ≤ 2 ^ 64 * 2 ^ (64 * l.length) := Nat.mul_le_mul_left _ this
    have h2 : x.toNat < 2 ^ 64 := by omega
    omega
end Cl
