/- Polynomials over a commutative ring: they are one themselves; degrees over a field. No program in sight. -/
import Derived.Test.YteddelfkjpljpaaZp
namespace Cl
open CRing

/-- A polynomial: its coefficients; none from some place on. -/
structure Poly (F : Type) [CRing F] where
  co : Nat → F
  fin : ∃ n, ∀ i, n ≤ i → co i = 0

namespace Poly
variable {F : Type} [CRing F]
theorem ext {a b : Poly F} (h : ∀ i, a.co i = b.co i) : a = b := by
  have h' : a.co = b.co := funext h
  cases a; cases b; simp only [mk.injEq]; exact h'

instance : Add (Poly F) := ⟨fun a b => ⟨fun i => a.co i + b.co i, by
  obtain ⟨n, hn⟩ := a.fin
  obtain ⟨m, hm⟩ := b.fin
  exact ⟨n + m, fun i hi => by rw [hn i (by omega), hm i (by omega), add_zero]⟩⟩⟩
instance : Neg (Poly F) := ⟨fun a => ⟨fun i => -a.co i, by
  obtain ⟨n, hn⟩ := a.fin
  exact ⟨n, fun i hi => by rw [hn i hi, neg_zero]⟩⟩⟩
instance : Sub (Poly F) := ⟨fun a b => a + -b⟩
instance : Zero (Poly F) := ⟨⟨fun _ => 0, 0, fun _ _ => rfl⟩⟩
/-- One term. -/
def mono (n : Nat) (c : F) : Poly F := ⟨fun i => if i = n then c else 0, n + 1, fun i hi => if_neg (by omega)⟩
/-- A number. -/
def C (c : F) : Poly F := mono 0 c
instance : One (Poly F) := ⟨C 1⟩
/-- The coefficients of a product. -/
def mulc (a b : Nat → F) (n : Nat) : F := sum (n + 1) (fun k => a k * b (n - k))
theorem mulc_zero {a b : Nat → F} {n m i : Nat} (ha : ∀ i, n ≤ i → a i = 0) (hb : ∀ i, m ≤ i → b i = 0) (h : n + m ≤ i + 1) : mulc a b i = 0 := by
  unfold mulc
  refine sum_eq_zero fun k hk => ?_
  by_cases h1 : n ≤ k
  · rw [ha k h1, zero_mul]
  · rw [hb (i - k) (by omega), mul_zero]
instance : Mul (Poly F) := ⟨fun a b => ⟨mulc a.co b.co, by
  obtain ⟨n, hn⟩ := a.fin
  obtain ⟨m, hm⟩ := b.fin
  exact ⟨n + m, fun i hi => mulc_zero hn hm (by omega)⟩⟩⟩
def npow (a : Poly F) : Nat → Poly F
  | 0 => 1
  | n + 1 => npow a n * a
instance : NatPow (Poly F) := ⟨npow⟩

theorem co_add (a b : Poly F) (i : Nat) : (a + b).co i = a.co i + b.co i := rfl
theorem co_neg (a : Poly F) (i : Nat) : (-a).co i = -a.co i := rfl
theorem co_sub (a b : Poly F) (i : Nat) : (a - b).co i = a.co i - b.co i := by
  rw [CRing.sub_def]; rfl
theorem co_zero (i : Nat) : (0 : Poly F).co i = 0 := rfl
theorem co_mono (n : Nat) (c : F) (i : Nat) : (mono n c).co i = if i = n then c else 0 := rfl
theorem co_C (c : F) (i : Nat) : (C c).co i = if i = 0 then c else 0 := rfl
theorem co_one (i : Nat) : (1 : Poly F).co i = if i = 0 then 1 else 0 := rfl
theorem co_mul (a b : Poly F) (n : Nat) : (a * b).co n = sum (n + 1) (fun k => a.co k * b.co (n - k)) := rfl

theorem mulc_comm (a b : Nat → F) (n : Nat) : mulc a b n = mulc b a n := by
  unfold mulc
  rw [sum_flip]
  refine sum_congr fun k hk => ?_
  rw [mul_comm]
  congr 2 <;> omega
/-- A triangle of numbers, by its rows and by its columns. -/
theorem sum_tri (n : Nat) (h : Nat → Nat → F) : sum (n + 1) (fun k => sum (k + 1) (fun j => h k j)) = sum (n + 1) (fun j => sum (n + 1 - j) (fun i => h (j + i) j)) := by
  induction n with
  | zero => rfl
  | succ n ih =>
    rw [sum_succ, ih]
    have e : sum (n + 1 + 1) (fun j => sum (n + 1 + 1 - j) (fun i => h (j + i) j)) = sum (n + 1 + 1) (fun j => sum (n + 1 - j) (fun i => h (j + i) j) + h (n + 1) j) := by
      refine sum_congr fun j hj => ?_
      rw [show n + 1 + 1 - j = (n + 1 - j) + 1 by omega, sum_succ, show j + (n + 1 - j) = n + 1 by omega]
    rw [e, sum_add, sum_succ (n + 1) (fun j => sum (n + 1 - j) (fun i => h (j + i) j)), Nat.sub_self, sum_zero, add_zero]
theorem mulc_assoc (a b c : Nat → F) (n : Nat) : mulc (mulc a b) c n = mulc a (mulc b c) n := by
  unfold mulc
  have e1 : sum (n + 1) (fun k => sum (k + 1) (fun j => a j * b (k - j)) * c (n - k)) = sum (n + 1) (fun k => sum (k + 1) (fun j => a j * b (k - j) * c (n - k))) := sum_congr fun k _ => sum_mul _ _ _
  rw [e1, sum_tri]
  refine sum_congr fun j hj => ?_
  rw [mul_sum, show n + 1 - j = n - j + 1 by omega]
  refine sum_congr fun i hi => ?_
  rw [mul_assoc, show j + i - j = i by omega, show n - (j + i) = n - j - i by omega]
theorem mulc_one (a : Nat → F) (n : Nat) : mulc a (fun i => if i = 0 then 1 else 0) n = a n := by
  unfold mulc
  rw [sum_single (k := n) (by omega) (fun i hi hne => by show a i * (if n - i = 0 then 1 else 0) = 0; rw [if_neg (by omega), mul_zero]), Nat.sub_self]
  show a n * (if 0 = 0 then 1 else 0) = a n
  rw [if_pos rfl, mul_one]

instance : CRing (Poly F) where
  add_assoc a b c := ext fun i => add_assoc _ _ _
  add_comm a b := ext fun i => add_comm _ _
  add_zero a := ext fun i => add_zero _
  add_neg a := ext fun i => add_neg _
  mul_assoc a b c := ext fun i => mulc_assoc _ _ _ _
  mul_comm a b := ext fun i => mulc_comm _ _ _
  mul_one a := ext fun i => mulc_one _ _
  mul_add a b c := ext fun i => by
    rw [co_add, co_mul, co_mul, co_mul, ← sum_add]
    exact sum_congr fun k _ => mul_add _ _ _
  sub_def a b := rfl
  pow_zero a := rfl
  pow_succ a n := rfl

/-- Are there no coefficients from n on? -/
def Sh (a : Poly F) (n : Nat) : Prop := ∀ i, n ≤ i → a.co i = 0
theorem Sh.mono {a : Poly F} {n m : Nat} (h : a.Sh n) (hm : n ≤ m) : a.Sh m := fun i hi => h i (by omega)
theorem Sh.add {a b : Poly F} {n : Nat} (ha : a.Sh n) (hb : b.Sh n) : (a + b).Sh n := fun i hi => by rw [co_add, ha i hi, hb i hi, add_zero]
theorem Sh.neg {a : Poly F} {n : Nat} (ha : a.Sh n) : (-a).Sh n := fun i hi => by rw [co_neg, ha i hi, neg_zero]
theorem Sh.sub {a b : Poly F} {n : Nat} (ha : a.Sh n) (hb : b.Sh n) : (a - b).Sh n := ha.add hb.neg
theorem Sh.mul {a b : Poly F} {n m k : Nat} (ha : a.Sh n) (hb : b.Sh m) (hk : n + m ≤ k + 1) : (a * b).Sh k := fun i hi => mulc_zero ha hb (by omega)
theorem sh_C (c : F) : (C c).Sh 1 := fun i hi => by rw [co_C, if_neg (by omega)]
theorem sh_zero {a : Poly F} (h : a.Sh 0) : a = 0 := ext fun i => h i (by omega)
theorem zero_sh (n : Nat) : (0 : Poly F).Sh n := fun _ _ => rfl
/-- The top coefficient of a product. -/
theorem co_mul_top {a b : Poly F} {n m : Nat} (ha : a.Sh (n + 1)) (hb : b.Sh (m + 1)) : (a * b).co (n + m) = a.co n * b.co m := by
  rw [co_mul, sum_single (k := n) (by omega) (fun i hi hne => ?_), show n + m - n = m by omega]
  by_cases h1 : i < n
  · rw [hb (n + m - i) (by omega), mul_zero]
  · rw [ha i (by omega), zero_mul]
theorem co_mono_mul (n : Nat) (c : F) (a : Poly F) (i : Nat) : (mono n c * a).co i = if n ≤ i then c * a.co (i - n) else 0 := by
  rw [co_mul]
  by_cases h : n ≤ i
  · rw [if_pos h, sum_single (k := n) (by omega) (fun k hk hne => by rw [co_mono, if_neg hne, zero_mul]), co_mono, if_pos rfl]
  · rw [if_neg h]
    exact sum_eq_zero fun k hk => by rw [co_mono, if_neg (by omega), zero_mul]
theorem co_C_mul (c : F) (a : Poly F) (i : Nat) : (C c * a).co i = c * a.co i := by
  unfold C; rw [co_mono_mul, if_pos (by omega), Nat.sub_zero]
theorem C_mul_C (a b : F) : C a * C b = C (a * b) := ext fun i => by
  rw [co_C_mul, co_C, co_C]; split
  · rfl
  · exact mul_zero _
theorem C_add (a b : F) : C (a + b) = C a + C b := ext fun i => by
  rw [co_add, co_C, co_C, co_C]; split
  · rfl
  · exact (add_zero _).symm
theorem C_one : C (1 : F) = 1 := rfl
theorem C_zero : C (0 : F) = 0 := ext fun i => by rw [co_C]; split <;> rfl
theorem C_neg (a : F) : C (-a) = -C a := ext fun i => by
  rw [co_neg, co_C, co_C]; split
  · rfl
  · exact neg_zero.symm
theorem C_inj {a b : F} (h : C a = C b) : a = b := by
  have := congrArg (fun q => q.co 0) h
  simpa [co_C] using this
theorem mono_mul (n m : Nat) (a b : F) : mono n a * mono m b = mono (n + m) (a * b) := ext fun i => by
  rw [co_mono_mul, co_mono, co_mono]
  by_cases h : n ≤ i
  · rw [if_pos h]
    by_cases e : i - n = m
    · rw [if_pos e, if_pos (by omega)]
    · rw [if_neg e, if_neg (by omega), mul_zero]
  · rw [if_neg h, if_neg (by omega)]
theorem eq_C {a : Poly F} (h : a.Sh 1) : a = C (a.co 0) := ext fun i => by
  rw [co_C]; split
  · next e => rw [e]
  · exact h i (by omega)

/-- The number of coefficients: the least bound. -/
theorem least (P : Nat → Prop) (h : ∃ n, P n) : ∃ n, P n ∧ ∀ m, m < n → ¬ P m := by
  obtain ⟨n, hn⟩ := h
  induction n using Nat.strongRecOn with
  | ind n ih =>
    by_cases h' : ∃ m, m < n ∧ P m
    · obtain ⟨m, hm, hp⟩ := h'
      exact ih m hm hp
    · exact ⟨n, hn, fun m hm hp => h' ⟨m, hm, hp⟩⟩
noncomputable def len (a : Poly F) : Nat := Classical.choose (least a.Sh a.fin)
theorem len_sh (a : Poly F) : a.Sh a.len := (Classical.choose_spec (least a.Sh a.fin)).1
theorem len_le {a : Poly F} {n : Nat} (h : a.Sh n) : a.len ≤ n := Nat.le_of_not_lt fun hl => (Classical.choose_spec (least a.Sh a.fin)).2 n hl h
theorem len_top {a : Poly F} (h : 0 < a.len) : a.co (a.len - 1) ≠ 0 := fun e => by
  have : a.Sh (a.len - 1) := fun i hi => by
    by_cases e' : i = a.len - 1
    · rw [e', e]
    · exact len_sh a i (by omega)
  have := len_le this
  omega
theorem len_eq {a : Poly F} {n : Nat} (h : a.Sh (n + 1)) (ht : a.co n ≠ 0) : a.len = n + 1 := by
  have h1 := len_le h
  refine Nat.le_antisymm h1 (Nat.le_of_not_lt fun hl => ht (len_sh a n (by omega)))
theorem len_zero : (0 : Poly F).len = 0 := Nat.le_zero.1 (len_le (zero_sh 0))
theorem len_eq_zero {a : Poly F} : a.len = 0 ↔ a = 0 := ⟨fun h => sh_zero (h ▸ len_sh a), fun h => h ▸ len_zero⟩
theorem len_pos {a : Poly F} (h : a ≠ 0) : 0 < a.len := Nat.pos_of_ne_zero fun e => h (len_eq_zero.1 e)
/-- The last coefficient. -/
noncomputable def lc (a : Poly F) : F := a.co (a.len - 1)
theorem lc_ne {a : Poly F} (h : a ≠ 0) : a.lc ≠ 0 := len_top (len_pos h)
end Poly

namespace Poly
variable {F : Type} [CField F]
theorem len_mul {a b : Poly F} (ha : a ≠ 0) (hb : b ≠ 0) : (a * b).len = a.len + b.len - 1 ∧ (a * b).lc = a.lc * b.lc := by
  have h1 := len_pos ha
  have h2 := len_pos hb
  have ea : a.len = (a.len - 1) + 1 := by omega
  have eb : b.len = (b.len - 1) + 1 := by omega
  have hsa : a.Sh ((a.len - 1) + 1) := ea ▸ len_sh a
  have hsb : b.Sh ((b.len - 1) + 1) := eb ▸ len_sh b
  have htop := co_mul_top hsa hsb
  have hne : (a * b).co ((a.len - 1) + (b.len - 1)) ≠ 0 := by
    rw [htop]; exact CField.mul_ne (len_top h1) (len_top h2)
  have hl := len_eq (hsa.mul hsb (by omega)) hne
  refine ⟨by rw [hl]; omega, ?_⟩
  unfold lc
  rw [hl, Nat.add_sub_cancel, htop]
theorem mul_ne {a b : Poly F} (ha : a ≠ 0) (hb : b ≠ 0) : a * b ≠ 0 := fun e => by
  have h := (len_mul ha hb).1
  rw [e, len_zero] at h
  have h1 := len_pos ha
  have h2 := len_pos hb
  omega
theorem no_zero {a b : Poly F} (h : a * b = 0) : a = 0 ∨ b = 0 := by
  by_cases ha : a = 0
  · exact .inl ha
  · by_cases hb : b = 0
    · exact .inr hb
    · exact absurd h (mul_ne ha hb)
theorem mul_left_cancel {a b c : Poly F} (ha : a ≠ 0) (h : a * b = a * c) : b = c := by
  have : a * (b - c) = 0 := by rw [mul_sub, h, sub_self]
  rcases no_zero this with h' | h'
  · exact absurd h' ha
  · exact sub_eq_zero.1 h'
theorem mul_right_cancel {a b c : Poly F} (ha : a ≠ 0) (h : b * a = c * a) : b = c := by
  rw [mul_comm b, mul_comm c] at h; exact mul_left_cancel ha h
theorem one_ne : (1 : Poly F) ≠ 0 := fun h => by
  have : (1 : Poly F).co 0 = (0 : Poly F).co 0 := by rw [h]
  exact CField.one_ne this
theorem len_one : (1 : Poly F).len = 1 := len_eq (n := 0) (sh_C 1) (by rw [co_one, if_pos rfl]; exact CField.one_ne)
theorem len_C {c : F} (h : c ≠ 0) : (C c).len = 1 := len_eq (n := 0) (sh_C c) (by rw [co_C, if_pos rfl]; exact h)
theorem len_C_mul {c : F} (h : c ≠ 0) (a : Poly F) : (C c * a).len = a.len := by
  by_cases ha : a = 0
  · rw [ha, mul_zero]
  · rw [(len_mul (fun e => h (C_inj (e.trans C_zero.symm))) ha).1, len_C h]; omega
theorem len_one_iff {a : Poly F} : a.len = 1 ↔ ∃ c, c ≠ 0 ∧ a = C c := by
  constructor
  · intro h
    refine ⟨a.co 0, ?_, eq_C (h ▸ len_sh a)⟩
    have := len_top (a := a) (by omega)
    rwa [h] at this
  · rintro ⟨c, hc, rfl⟩; exact len_C hc

/-- Division with a rest. -/
theorem div_exists (a : Poly F) {b : Poly F} (hb : b ≠ 0) : ∃ q r, a = q * b + r ∧ r.len < b.len := by
  induction hn : a.len using Nat.strongRecOn generalizing a with
  | ind n ih =>
    by_cases hlt : a.len < b.len
    · exact ⟨0, a, by rw [zero_mul, zero_add], hlt⟩
    · have hbp := len_pos hb
      have hap : 0 < a.len := by omega
      let c := a.lc * CField.inv b.lc
      let d := a.len - b.len
      have hcb : c * b.lc = a.lc := by
        show a.lc * CField.inv b.lc * b.lc = a.lc
        rw [mul_assoc, CField.inv_mul (lc_ne hb), mul_one]
      have hlen : (a - mono d c * b).Sh (a.len - 1) := fun i hi => by
        rw [co_sub, co_mono_mul, if_pos (by omega)]
        by_cases e : i = a.len - 1
        · have e2 : i - d = b.len - 1 := by omega
          rw [e2, e]
          show a.lc - c * b.lc = 0
          rw [hcb, sub_self]
        · rw [len_sh a i (by omega), len_sh b (i - d) (by omega), mul_zero, sub_self]
      obtain ⟨q, r, hqr, hr⟩ := ih (a - mono d c * b).len (by have := len_le hlen; omega) _ rfl
      refine ⟨mono d c + q, r, ?_, hr⟩
      rw [add_mul, add_assoc, ← hqr, sub_def, add_comm, add_assoc, neg_add, add_zero]
theorem div_unique {b q r q' r' : Poly F} (h : q * b + r = q' * b + r') (hr : r.len < b.len) (hr' : r'.len < b.len) : q = q' ∧ r = r' := by
  have hb : b ≠ 0 := fun e => by rw [e, len_zero] at hr; omega
  have h1 : (q - q') * b = r' - r := by
    rw [sub_mul]
    apply sub_eq_zero.1
    have : q * b - q' * b - (r' - r) = (q * b + r) - (q' * b + r') := by
      simp only [sub_def, neg_add_rev, neg_neg]; ac_rfl
    rw [this, h, sub_self]
  by_cases hq : q - q' = 0
  · have e := sub_eq_zero.1 hq
    refine ⟨e, ?_⟩
    rw [hq, zero_mul] at h1
    exact (sub_eq_zero.1 h1.symm).symm
  · exfalso
    have h2 := (len_mul hq hb).1
    have h3 : (r' - r).len ≤ max r'.len r.len := len_le (((len_sh r').mono (by omega)).sub ((len_sh r).mono (by omega)))
    have h4 := len_pos hq
    rw [h1] at h2
    omega
end Poly

end Cl
