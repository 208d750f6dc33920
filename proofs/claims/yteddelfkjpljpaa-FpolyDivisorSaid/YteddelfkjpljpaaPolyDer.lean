/- Derivatives of polynomials; over residues by a prime: p-th powers and roots; how often a factor is in the derivative. No program in sight. -/
import Derived.Test.YteddelfkjpljpaaPolyDiv
namespace Cl
open CRing
theorem nsmul_add_right {R : Type} [CRing R] (n : Nat) (a b : R) : nsmul n (a + b) = nsmul n a + nsmul n b := by
  induction n with
  | zero => rw [nsmul_zero, nsmul_zero, nsmul_zero, add_zero]
  | succ n ih => rw [nsmul_succ, ih, nsmul_succ, nsmul_succ]; ac_rfl
theorem nsmul_neg {R : Type} [CRing R] (n : Nat) (a : R) : nsmul n (-a) = -nsmul n a := by
  induction n with
  | zero => rw [nsmul_zero, nsmul_zero, neg_zero]
  | succ n ih => rw [nsmul_succ, ih, nsmul_succ, neg_add_rev]
theorem mul_nsmul {R : Type} [CRing R] (n : Nat) (a b : R) : a * nsmul n b = nsmul n (a * b) := by
  rw [mul_comm, nsmul_mul_left, mul_comm]
theorem nsmul_sum {R : Type} [CRing R] (n m : Nat) (f : Nat → R) : nsmul n (sum m f) = sum m (fun i => nsmul n (f i)) := by
  induction m with
  | zero => rw [sum_zero, sum_zero, nsmul_of_zero]
  | succ m ih => rw [sum_succ, nsmul_add_right, ih, sum_succ]

namespace Poly
section
variable {F : Type} [CRing F]
/-- The derivative. -/
def D (a : Poly F) : Poly F := ⟨fun i => nsmul (i + 1) (a.co (i + 1)), by
  obtain ⟨n, hn⟩ := a.fin
  exact ⟨n, fun i hi => by rw [hn (i + 1) (by omega), nsmul_of_zero]⟩⟩
theorem co_D (a : Poly F) (i : Nat) : a.D.co i = nsmul (i + 1) (a.co (i + 1)) := rfl
theorem D_add (a b : Poly F) : (a + b).D = a.D + b.D := ext fun i => by
  rw [co_D, co_add, nsmul_add_right]; rfl
theorem D_neg (a : Poly F) : (-a).D = -a.D := ext fun i => by rw [co_D, co_neg, nsmul_neg]; rfl
theorem D_sub (a b : Poly F) : (a - b).D = a.D - b.D := by rw [sub_def, D_add, D_neg, sub_def]
theorem D_C (c : F) : (C c).D = 0 := ext fun i => by rw [co_D, co_C, if_neg (by omega), nsmul_of_zero]; rfl
theorem D_mul (a b : Poly F) : (a * b).D = a.D * b + a * b.D := ext fun n => by
  rw [co_D, co_add, co_mul, co_mul, co_mul, nsmul_sum]
  have e : sum (n + 1 + 1) (fun k => nsmul (n + 1) (a.co k * b.co (n + 1 - k))) = sum (n + 1 + 1) (fun k => nsmul k (a.co k) * b.co (n + 1 - k) + a.co k * nsmul (n + 1 - k) (b.co (n + 1 - k))) := by
    refine sum_congr fun k hk => ?_
    rw [nsmul_mul_left, mul_nsmul, ← nsmul_add, show k + (n + 1 - k) = n + 1 by omega]
  rw [e, sum_add]
  congr 1
  · rw [sum_succ', nsmul_zero, zero_mul, zero_add]
    refine sum_congr fun k hk => ?_
    rw [show n + 1 - (k + 1) = n - k by omega]; rfl
  · rw [sum_succ, Nat.sub_self, nsmul_zero, mul_zero, add_zero]
    refine sum_congr fun k hk => ?_
    rw [show n + 1 - k = n - k + 1 by omega]; rfl
theorem D_one : (1 : Poly F).D = 0 := D_C 1
theorem D_pow (a : Poly F) (n : Nat) : (a ^ (n + 1)).D = nsmul (n + 1) (a ^ n * a.D) := by
  induction n with
  | zero => rw [nsmul_one, CRing.pow_zero, one_mul, Nat.zero_add, CRing.pow_one]
  | succ n ih =>
    rw [CRing.pow_succ, D_mul, ih, nsmul_mul_left, nsmul_succ (n + 1)]
    congr 1
    congr 1
    rw [CRing.pow_succ]; ac_rfl
theorem Sh.D {a : Poly F} {n : Nat} (h : a.Sh (n + 1)) : a.D.Sh n := fun i hi => by rw [co_D, h (i + 1) (by omega), nsmul_of_zero]
/-- The value at a place. -/
def evalTo (a : Poly F) (x : F) (n : Nat) : F := sum n (fun i => a.co i * x ^ i)
end

variable {q : Prm}
theorem charP : CharP (Poly (Zp q)) q.p.toNat := by
  show nsmul _ _ = _
  have e : ∀ n, nsmul n (1 : Poly (Zp q)) = C (nsmul n 1) := by
    intro n
    induction n with
    | zero => rw [nsmul_zero, nsmul_zero, C_zero]
    | succ n ih => rw [nsmul_succ, ih, nsmul_succ, C_add, C_one]
  rw [e, Zp.charP q, C_zero]
theorem pnat_pos (q : Prm) : 0 < q.p.toNat := by have := q.pr.two; omega
/-- A polynomial is the sum of its terms. -/
theorem eq_sum {F : Type} [CRing F] {a : Poly F} {n : Nat} (h : a.Sh n) : a = sum n (fun i => mono i (a.co i)) := by
  have hs : ∀ m j, (sum m (fun i => mono i (a.co i))).co j = if j < m then a.co j else 0 := by
    intro m j
    induction m with
    | zero => rw [sum_zero, if_neg (by omega)]; rfl
    | succ m ih =>
      rw [sum_succ, co_add, ih, co_mono]
      by_cases e : j = m
      · subst e; rw [if_neg (by omega), if_pos rfl, if_pos (by omega), zero_add]
      · rw [if_neg e, add_zero]
        by_cases h1 : j < m
        · rw [if_pos h1, if_pos (by omega)]
        · rw [if_neg h1, if_neg (by omega)]
  exact ext fun j => by
    rw [hs]
    by_cases h1 : j < n
    · rw [if_pos h1]
    · rw [if_neg h1, h j (by omega)]
theorem mono_pow {F : Type} [CRing F] (n : Nat) (c : F) (k : Nat) : (mono n c) ^ k = mono (n * k) (c ^ k) := by
  induction k with
  | zero => rw [CRing.pow_zero, CRing.pow_zero, Nat.mul_zero]; rfl
  | succ k ih => rw [CRing.pow_succ, ih, mono_mul, CRing.pow_succ, Nat.mul_succ]
theorem co_sum {F : Type} [CRing F] (m : Nat) (f : Nat → Poly F) (j : Nat) : (sum m f).co j = sum m (fun i => (f i).co j) := by
  induction m with
  | zero => rfl
  | succ m ih => rw [sum_succ, co_add, ih, sum_succ]
/-- The coefficients of a p-th power. -/
theorem co_pow_p (a : Poly (Zp q)) (j : Nat) : (a ^ q.p.toNat).co j = if q.p.toNat ∣ j then a.co (j / q.p.toNat) else 0 := by
  obtain ⟨n, hn⟩ := a.fin
  have hp := pnat_pos q
  have e : a ^ q.p.toNat = sum n (fun i => mono (i * q.p.toNat) (a.co i)) := by
    conv => lhs; rw [eq_sum hn]
    rw [(charP (q := q)).sum_pow (Zp.pr_nat q)]
    exact sum_congr fun i _ => by rw [mono_pow, Zp.pow_p]
  rw [e, co_sum]
  split
  · next h =>
    obtain ⟨k, rfl⟩ := h
    rw [Nat.mul_div_cancel_left k hp]
    by_cases hk : k < n
    · rw [sum_single hk (fun i hi hne => ?_), co_mono, if_pos (Nat.mul_comm _ _)]
      rw [co_mono, if_neg fun e => hne (Nat.eq_of_mul_eq_mul_left hp (by rw [e, Nat.mul_comm])).symm]
    · rw [hn k (by omega)]
      exact sum_eq_zero fun i hi => by
        rw [co_mono, if_neg fun e => by
          have : k = i := Nat.eq_of_mul_eq_mul_left hp (by rw [e, Nat.mul_comm])
          omega]
  · next h =>
    exact sum_eq_zero fun i hi => by rw [co_mono, if_neg fun e => h ⟨i, by rw [e, Nat.mul_comm]⟩]
/-- Every p-th coefficient. -/
def root (a : Poly (Zp q)) : Poly (Zp q) := ⟨fun i => a.co (i * q.p.toNat), by
  obtain ⟨n, hn⟩ := a.fin
  exact ⟨n, fun i hi => hn _ (Nat.le_trans hi (Nat.le_mul_of_pos_right i (pnat_pos q)))⟩⟩
theorem nsmul_zp {n : Nat} {a : Zp q} : nsmul n a = Zp.of q n * a := by rw [nsmul_eq_mul, Zp.nsmul_one]
theorem of_nat_zero {n : Nat} : Zp.of q (n : Int) = 0 ↔ q.p.toNat ∣ n := by
  have h2 := q.pr.two
  rw [Zp.eq_zero_iff, Cg.zero_iff]
  constructor
  · intro h
    have : ((q.p.toNat : Nat) : Int) ∣ (n : Int) := by rwa [Int.toNat_of_nonneg (by omega)]
    exact Int.natCast_dvd_natCast.1 this
  · intro h
    have : ((q.p.toNat : Nat) : Int) ∣ (n : Int) := Int.natCast_dvd_natCast.2 h
    rwa [Int.toNat_of_nonneg (by omega)] at this
theorem D_zero_iff {a : Poly (Zp q)} : a.D = 0 ↔ ∀ i, ¬ q.p.toNat ∣ i → a.co i = 0 := by
  constructor
  · intro h i hi
    have hpos : 0 < i := Nat.pos_of_ne_zero fun e => hi ⟨0, by omega⟩
    have h1 : a.D.co (i - 1) = 0 := by rw [h]; rfl
    rw [co_D, show i - 1 + 1 = i by omega, nsmul_zp] at h1
    rcases CField.no_zero h1 with h2 | h2
    · exact absurd (of_nat_zero.1 h2) hi
    · exact h2
  · intro h
    refine ext fun i => ?_
    rw [co_D, nsmul_zp]
    by_cases hd : q.p.toNat ∣ i + 1
    · rw [of_nat_zero.2 hd, zero_mul]; rfl
    · rw [h _ hd, CRing.mul_zero]; rfl
theorem root_pow {a : Poly (Zp q)} (h : a.D = 0) : a.root ^ q.p.toNat = a := ext fun i => by
  rw [co_pow_p]
  split
  · next hd =>
    show a.co (i / q.p.toNat * q.p.toNat) = _
    rw [Nat.div_mul_cancel hd]
  · next hd => exact (D_zero_iff.1 h i hd).symm
theorem pow_p_D (a : Poly (Zp q)) : (a ^ q.p.toNat).D = 0 := by
  rw [D_zero_iff]
  intro i hi
  rw [co_pow_p, if_neg hi]
theorem root_ne {a : Poly (Zp q)} (h : a.D = 0) (ha : a ≠ 0) : a.root ≠ 0 := fun e => ha (by
  rw [← root_pow h, e]
  exact CRing.zero_pow (pnat_pos q))
theorem pow_p_inj {a b : Poly (Zp q)} (h : a ^ q.p.toNat = b ^ q.p.toNat) : a = b := ext fun i => by
  have := congrArg (fun x => x.co (i * q.p.toNat)) h
  simp only [co_pow_p] at this
  rwa [if_pos (Nat.dvd_mul_left _ _), if_pos (Nat.dvd_mul_left _ _), Nat.mul_div_cancel _ (pnat_pos q)] at this
theorem root_of_pow (a : Poly (Zp q)) : (a ^ q.p.toNat).root = a := pow_p_inj (root_pow (pow_p_D a))
/-- The derivative of one that can't be parted is not nought. -/
theorem Irr.D_ne {f : Poly (Zp q)} (h : f.Irr) : f.D ≠ 0 := fun e => by
  have hr := root_pow e
  have hp : 2 ≤ q.p.toNat := by have := q.pr.two; omega
  obtain ⟨n, hn⟩ : ∃ n, q.p.toNat = n + 1 := ⟨q.p.toNat - 1, by omega⟩
  have hne := root_ne e h.ne
  have hl := len_pow hne q.p.toNat
  rw [hr] at hl
  have h1 := h.len
  have h2 := len_pos hne
  rw [hn, CRing.pow_succ] at hr
  rcases h.no _ _ hr.symm with h3 | h3
  · rw [len_pow hne] at h3
    have : n * (f.root.len - 1) = 0 := by omega
    rcases Nat.mul_eq_zero.1 this with h4 | h4
    · omega
    · rw [h4, Nat.mul_zero] at hl; omega
  · rw [h3] at hl; simp at hl; omega
theorem D_len (a : Poly (Zp q)) : a.D.len ≤ a.len - 1 := by
  refine len_le fun i hi => ?_
  rw [co_D, len_sh a (i + 1) (by omega), nsmul_of_zero]
theorem Irr.not_dvd_D {f : Poly (Zp q)} (h : f.Irr) : ¬ f ∣ f.D := fun hd => by
  have h1 := len_le_of_dvd hd h.D_ne
  have h2 := D_len f
  have h3 := h.len
  omega
/-- How often a factor is in the derivative. -/
theorem Irr.val_D {f a : Poly (Zp q)} (h : f.Irr) (ha : a ≠ 0) : (¬ q.p.toNat ∣ val f a → f ^ (val f a - 1) ∣ a.D ∧ ¬ f ^ (val f a) ∣ a.D) ∧ (q.p.toNat ∣ val f a → f ^ (val f a) ∣ a.D) := by
  obtain ⟨⟨x, hx⟩, h2⟩ := val_spec h.len ha
  have nx : ¬ f ∣ x := fun ⟨z, hz⟩ => h2 ⟨z, hx.trans (by rw [hz, CRing.pow_succ, mul_assoc])⟩
  generalize val f a = e at *
  cases e with
  | zero =>
    refine ⟨fun hp => absurd ⟨0, by omega⟩ hp, fun _ => by rw [CRing.pow_zero]; exact one_dvd _⟩
  | succ e =>
    have hD : a.D = f ^ e * (nsmul (e + 1) (f.D * x) + f * x.D) := by
      rw [hx, D_mul, D_pow, nsmul_mul_left, mul_add, mul_nsmul, CRing.pow_succ]
      congr 1
      · congr 1; ac_rfl
      · ac_rfl
    constructor
    · intro hp
      refine ⟨⟨_, hD⟩, fun hd => ?_⟩
      rw [hD, CRing.pow_succ] at hd
      have h3 := dvd_of_mul (pow_ne h.ne _) hd
      rw [add_comm] at h3
      have h4 := dvd_of_add h3 (dvd_mul_right _ _)
      have h5 : nsmul (e + 1) (f.D * x) = C (Zp.of q ((e + 1 : Nat) : Int)) * (f.D * x) := by
        rw [nsmul_eq_mul]
        congr 1
        rw [← Zp.nsmul_one]
        have : ∀ n, nsmul n (1 : Poly (Zp q)) = C (nsmul n 1) := by
          intro n
          induction n with
          | zero => rw [nsmul_zero, nsmul_zero, C_zero]
          | succ n ih => rw [nsmul_succ, ih, nsmul_succ, C_add, C_one]
        exact this _
      rw [h5] at h4
      have hc : Zp.of q ((e + 1 : Nat) : Int) ≠ 0 := fun h0 => hp (of_nat_zero.1 h0)
      rcases h.prime h4 with h6 | h6
      · exact h.not_dvd_C hc h6
      · rcases h.prime h6 with h7 | h7
        · exact h.not_dvd_D h7
        · exact nx h7
    · intro hp
      rw [hD, (charP (q := q)).nsmul hp, zero_add, CRing.pow_succ]
      exact ⟨x.D, by ac_rfl⟩
/-- How often a factor is in what a polynomial has in common with its derivative. -/
theorem Irr.val_gcd_D {f a g : Poly (Zp q)} (h : f.Irr) (ha : a ≠ 0) (hg : IsGcd a a.D g) : val f g = if q.p.toNat ∣ val f a then val f a else val f a - 1 := by
  have hgm := (hg.mon_of (.inl ha)).ne
  have hle := val_le_of_dvd h ha hg.l
  obtain ⟨k1, k2⟩ := h.val_D ha
  split
  · next hp =>
    have := hg.top _ (val_spec h.len ha).1 (k2 hp)
    have := (dvd_iff_val h.len hgm).1 this
    omega
  · next hp =>
    obtain ⟨h1, h3⟩ := k1 hp
    have h4 := hg.top _ (dvd_trans (pow_dvd_pow f (by omega)) (val_spec h.len ha).1) h1
    have h5 := (dvd_iff_val h.len hgm).1 h4
    have h6 : ¬ val f a ≤ val f g := fun hv => h3 (dvd_trans ((dvd_iff_val h.len hgm).2 hv) hg.r)
    omega
end Poly
end Cl
