/- Polynomials over a field: what divides what; greatest common divisors; irreducible ones; how often one is a factor. No program in sight. -/
import Derived.Test.YteddelfkjpljpaaPoly
namespace Cl
open CRing
namespace Poly
variable {F : Type} [CField F]

instance : Dvd (Poly F) := ⟨fun a b => ∃ c, b = a * c⟩
theorem dvd_def {a b : Poly F} : a ∣ b ↔ ∃ c, b = a * c := Iff.rfl
theorem dvd_refl (a : Poly F) : a ∣ a := ⟨1, (mul_one a).symm⟩
theorem dvd_trans {a b c : Poly F} (h : a ∣ b) (k : b ∣ c) : a ∣ c := by
  obtain ⟨x, rfl⟩ := h
  obtain ⟨y, rfl⟩ := k
  exact ⟨x * y, mul_assoc _ _ _⟩
theorem dvd_mul_right (a b : Poly F) : a ∣ a * b := ⟨b, rfl⟩
theorem dvd_mul_left (a b : Poly F) : a ∣ b * a := ⟨b, mul_comm _ _⟩
theorem Dvd.mul_r {a b : Poly F} (h : a ∣ b) (c : Poly F) : a ∣ b * c := dvd_trans h (dvd_mul_right _ _)
theorem Dvd.mul_l {a b : Poly F} (h : a ∣ b) (c : Poly F) : a ∣ c * b := dvd_trans h (dvd_mul_left _ _)
theorem dvd_zero (a : Poly F) : a ∣ 0 := ⟨0, (mul_zero a).symm⟩
theorem one_dvd (a : Poly F) : 1 ∣ a := ⟨a, (one_mul a).symm⟩
theorem dvd_add {a b c : Poly F} (h : a ∣ b) (k : a ∣ c) : a ∣ b + c := by
  obtain ⟨x, rfl⟩ := h
  obtain ⟨y, rfl⟩ := k
  exact ⟨x + y, (mul_add _ _ _).symm⟩
theorem dvd_neg {a b : Poly F} (h : a ∣ b) : a ∣ -b := by
  obtain ⟨x, rfl⟩ := h
  exact ⟨-x, (mul_neg _ _).symm⟩
theorem dvd_sub {a b c : Poly F} (h : a ∣ b) (k : a ∣ c) : a ∣ b - c := by rw [sub_def]; exact dvd_add h (dvd_neg k)
theorem dvd_of_add {a b c : Poly F} (h : a ∣ b + c) (k : a ∣ b) : a ∣ c := by
  have : c = b + c - b := by rw [add_comm, add_sub_cancel]
  rw [this]; exact dvd_sub h k
theorem zero_dvd {a : Poly F} (h : (0 : Poly F) ∣ a) : a = 0 := by obtain ⟨x, rfl⟩ := h; exact zero_mul _
theorem mul_dvd_mul {a b c d : Poly F} (h : a ∣ b) (k : c ∣ d) : a * c ∣ b * d := by
  obtain ⟨x, rfl⟩ := h
  obtain ⟨y, rfl⟩ := k
  exact ⟨x * y, by ac_rfl⟩
theorem dvd_of_mul {a b c : Poly F} (ha : a ≠ 0) (h : a * b ∣ a * c) : b ∣ c := by
  obtain ⟨x, hx⟩ := h
  exact ⟨x, mul_left_cancel ha (by rw [hx, mul_assoc])⟩
theorem pow_ne {a : Poly F} (h : a ≠ 0) (n : Nat) : a ^ n ≠ 0 := by
  induction n with
  | zero => rw [CRing.pow_zero]; exact one_ne
  | succ n ih => rw [CRing.pow_succ]; exact mul_ne ih h
theorem pow_dvd_pow (a : Poly F) {m n : Nat} (h : m ≤ n) : a ^ m ∣ a ^ n := by
  obtain ⟨k, rfl⟩ := Nat.le.dest h
  rw [CRing.pow_add]; exact dvd_mul_right _ _
theorem len_le_of_dvd {a b : Poly F} (h : a ∣ b) (hb : b ≠ 0) : a.len ≤ b.len := by
  obtain ⟨x, rfl⟩ := h
  have ha : a ≠ 0 := fun e => hb (by rw [e, zero_mul])
  have hx : x ≠ 0 := fun e => hb (by rw [e, mul_zero])
  have := (len_mul ha hx).1
  have := len_pos hx
  omega
theorem len_pow {a : Poly F} (h : a ≠ 0) (n : Nat) : (a ^ n).len = n * (a.len - 1) + 1 := by
  have h1 := len_pos h
  induction n with
  | zero => rw [CRing.pow_zero, len_one]; omega
  | succ n ih => rw [CRing.pow_succ, (len_mul (pow_ne h n) h).1, ih, Nat.succ_mul]; omega

/-- Is its last coefficient 1? -/
def Mon (a : Poly F) : Prop := a.lc = 1
theorem Mon.ne {a : Poly F} (h : a.Mon) : a ≠ 0 := fun e => by
  unfold Mon lc at h
  rw [e] at h
  exact CField.one_ne h.symm
theorem mon_one : (1 : Poly F).Mon := by unfold Mon lc; rw [len_one]; rfl
theorem Mon.mul {a b : Poly F} (ha : a.Mon) (hb : b.Mon) : (a * b).Mon := by
  unfold Mon
  rw [(len_mul ha.ne hb.ne).2, show a.lc = 1 from ha, show b.lc = 1 from hb, mul_one]
theorem Mon.pow {a : Poly F} (ha : a.Mon) (n : Nat) : (a ^ n).Mon := by
  induction n with
  | zero => rw [CRing.pow_zero]; exact mon_one
  | succ n ih => rw [CRing.pow_succ]; exact ih.mul ha
theorem Mon.of_mul {a b : Poly F} (ha : a.Mon) (h : (a * b).Mon) : b.Mon := by
  have hb : b ≠ 0 := fun e => h.ne (by rw [e, mul_zero])
  unfold Mon at h ⊢
  rwa [(len_mul ha.ne hb).2, show a.lc = 1 from ha, one_mul] at h
theorem Mon.one_of_len {a : Poly F} (h : a.Mon) (hl : a.len = 1) : a = 1 := by
  obtain ⟨c, hc, rfl⟩ := len_one_iff.1 hl
  unfold Mon lc at h
  rw [hl] at h
  have : c = 1 := by simpa [co_C] using h
  rw [this, C_one]
theorem Mon.len_one {a : Poly F} (h : a.Mon) : a.len = 1 ↔ a = 1 := ⟨h.one_of_len, fun e => e ▸ Poly.len_one⟩
/-- By its last coefficient. -/
noncomputable def monic (a : Poly F) : Poly F := C (CField.inv a.lc) * a
theorem C_ne {c : F} (h : c ≠ 0) : C c ≠ 0 := fun e => h (C_inj (e.trans C_zero.symm))
theorem lc_C {c : F} (h : c ≠ 0) : (C c).lc = c := by
  show (C c).co ((C c).len - 1) = c
  rw [len_C h]; rfl
theorem monic_mon {a : Poly F} (h : a ≠ 0) : a.monic.Mon := by
  have h1 := CField.inv_ne (lc_ne h)
  unfold Mon monic
  rw [(len_mul (C_ne h1) h).2]
  rw [lc_C h1, CField.inv_mul (lc_ne h)]
theorem C_lc_monic {a : Poly F} (h : a ≠ 0) : C a.lc * a.monic = a := by
  unfold monic
  rw [← mul_assoc, C_mul_C, CField.mul_inv _ (lc_ne h), C_one, one_mul]
theorem monic_len {a : Poly F} (h : a ≠ 0) : a.monic.len = a.len := len_C_mul (CField.inv_ne (lc_ne h)) a
theorem Mon.monic_eq {a : Poly F} (h : a.Mon) : a.monic = a := by
  have := C_lc_monic h.ne
  rwa [show a.lc = 1 from h, C_one, one_mul] at this
theorem monic_zero : (0 : Poly F).monic = 0 := mul_zero _
theorem C_dvd {c : F} (hc : c ≠ 0) (a : Poly F) : C c ∣ a := ⟨C (CField.inv c) * a, by rw [← mul_assoc, C_mul_C, CField.mul_inv c hc, C_one, one_mul]⟩
theorem monic_dvd {a b : Poly F} (h : a ∣ b) : a.monic ∣ b := by
  by_cases ha : a = 0
  · rw [ha, monic_zero]; rwa [ha] at h
  · obtain ⟨x, rfl⟩ := h
    exact ⟨C a.lc * x, by conv => lhs; rw [← C_lc_monic ha]
                          ac_rfl⟩
theorem dvd_monic {a b : Poly F} (h : a ∣ b) : a ∣ b.monic := by
  obtain ⟨x, rfl⟩ := h
  exact ⟨C (CField.inv (a * x).lc) * x, by unfold monic; ac_rfl⟩
theorem Mon.eq_of_dvd {a b : Poly F} (ha : a.Mon) (hb : b.Mon) (h : a ∣ b) (k : b ∣ a) : a = b := by
  obtain ⟨x, rfl⟩ := h
  have h1 := len_le_of_dvd k ha.ne
  have hx : x.Mon := ha.of_mul hb
  have h2 := (len_mul ha.ne hx.ne).1
  have h3 := len_pos hx.ne
  have h4 := len_pos ha.ne
  rw [hx.one_of_len (by omega), mul_one]

/-- The greatest common divisor. -/
structure IsGcd (a b g : Poly F) : Prop where
  l : g ∣ a
  r : g ∣ b
  top : ∀ d, d ∣ a → d ∣ b → d ∣ g
  mon : g = 0 ∨ g.Mon
theorem IsGcd.unique {a b g g' : Poly F} (h : IsGcd a b g) (h' : IsGcd a b g') : g = g' := by
  have h1 := h'.top g h.l h.r
  have h2 := h.top g' h'.l h'.r
  rcases h.mon with e | m
  · rw [e] at h1; rw [e, zero_dvd h1]
  · rcases h'.mon with e | m'
    · rw [e] at h2; rw [e, zero_dvd h2]
    · exact m.eq_of_dvd m' h1 h2
theorem IsGcd.symm {a b g : Poly F} (h : IsGcd a b g) : IsGcd b a g := ⟨h.r, h.l, fun d h1 h2 => h.top d h2 h1, h.mon⟩
theorem IsGcd.of_bezout {a b g s t : Poly F} (l : g ∣ a) (r : g ∣ b) (h : s * a + t * b = g) (m : g = 0 ∨ g.Mon) : IsGcd a b g :=
  ⟨l, r, fun d h1 h2 => by rw [← h]; exact dvd_add (Dvd.mul_l h1 s) (Dvd.mul_l h2 t), m⟩
theorem bezout_raw (a b : Poly F) : ∃ g s t, s * a + t * b = g ∧ g ∣ a ∧ g ∣ b := by
  induction hn : b.len using Nat.strongRecOn generalizing a b with
  | ind n ih =>
    by_cases hb : b = 0
    · exact ⟨a, 1, 0, by rw [one_mul, zero_mul, add_zero], dvd_refl a, by rw [hb]; exact dvd_zero a⟩
    · obtain ⟨q, r, hqr, hr⟩ := div_exists a hb
      obtain ⟨g, s, t, h, h1, h2⟩ := ih r.len (by omega) b r rfl
      refine ⟨g, t, s - t * q, ?_, ?_, h1⟩
      · rw [← h]
        conv => lhs; lhs; rw [hqr]
        rw [sub_mul, mul_add, mul_assoc, sub_def]
        have e : t * (q * b) + t * r + (s * b + -(t * (q * b))) = (t * (q * b) + -(t * (q * b))) + (s * b + t * r) := by ac_rfl
        rw [e, add_neg, zero_add]
      · rw [hqr]; exact dvd_add (Dvd.mul_l h1 q) h2
theorem gcd_exists (a b : Poly F) : ∃ g s t, IsGcd a b g ∧ s * a + t * b = g := by
  obtain ⟨g, s, t, h, h1, h2⟩ := bezout_raw a b
  have e : (C (CField.inv g.lc) * s) * a + (C (CField.inv g.lc) * t) * b = g.monic := by
    rw [mul_assoc, mul_assoc, ← mul_add, h]; rfl
  refine ⟨g.monic, _, _, .of_bezout (monic_dvd h1) (monic_dvd h2) e ?_, e⟩
  by_cases hg : g = 0
  · exact .inl (by rw [hg, monic_zero])
  · exact .inr (monic_mon hg)
theorem IsGcd.bezout {a b g : Poly F} (h : IsGcd a b g) : ∃ s t, s * a + t * b = g := by
  obtain ⟨g', s, t, h', e⟩ := gcd_exists a b
  exact ⟨s, t, by rw [e]; exact h'.unique h⟩
theorem IsGcd.mon_of {a b g : Poly F} (h : IsGcd a b g) (hn : a ≠ 0 ∨ b ≠ 0) : g.Mon := by
  rcases h.mon with e | m
  · exfalso
    have h1 := h.l; have h2 := h.r
    rw [e] at h1 h2
    rcases hn with hn | hn
    · exact hn (zero_dvd h1)
    · exact hn (zero_dvd h2)
  · exact m
/-- What has nothing in common with one of two that make a product divides the other one. -/
theorem coprime_dvd {a b c : Poly F} (h : IsGcd a b 1) (hd : a ∣ b * c) : a ∣ c := by
  obtain ⟨s, t, e⟩ := h.bezout
  have : c = (s * c) * a + t * (b * c) := by
    conv => lhs; rw [← one_mul c, ← e]
    rw [add_mul]; ac_rfl
  rw [this]
  exact dvd_add (dvd_mul_left _ _) (Dvd.mul_l hd t)

/-- Monic, not constant, and no product of two such. -/
structure Irr (q : Poly F) : Prop where
  mon : q.Mon
  len : 1 < q.len
  no : ∀ a b, q = a * b → a.len = 1 ∨ b.len = 1
theorem Irr.ne {q : Poly F} (h : q.Irr) : q ≠ 0 := h.mon.ne
theorem Irr.gcd {q : Poly F} (h : q.Irr) (a : Poly F) (hd : ¬ q ∣ a) : IsGcd q a 1 := by
  obtain ⟨g, s, t, hg, e⟩ := gcd_exists q a
  have hm := hg.mon_of (.inl h.ne)
  obtain ⟨x, hx⟩ := hg.l
  rcases h.no g x hx with h1 | h1
  · rw [hm.one_of_len h1] at hg; exact hg
  · exfalso
    obtain ⟨c, hc, rfl⟩ := len_one_iff.1 h1
    have hxm : (C c).Mon := hm.of_mul (hx ▸ h.mon)
    rw [hxm.one_of_len h1, mul_one] at hx
    exact hd (hx ▸ hg.r)
theorem Irr.prime {q a b : Poly F} (h : q.Irr) (hd : q ∣ a * b) : q ∣ a ∨ q ∣ b := by
  by_cases ha : q ∣ a
  · exact .inl ha
  · exact .inr (coprime_dvd (h.gcd a ha) hd)
theorem Irr.prime_pow {q a : Poly F} (h : q.Irr) {n : Nat} (hd : q ∣ a ^ n) : q ∣ a := by
  induction n with
  | zero =>
    exfalso
    rw [CRing.pow_zero] at hd
    have := len_le_of_dvd hd one_ne
    rw [len_one] at this
    have := h.len
    omega
  | succ n ih =>
    rw [CRing.pow_succ] at hd
    rcases h.prime hd with h1 | h1
    · exact ih h1
    · exact h1
theorem Irr.not_dvd_one {q : Poly F} (h : q.Irr) : ¬ q ∣ 1 := fun hd => by
  have := len_le_of_dvd hd one_ne
  rw [len_one] at this
  have := h.len
  omega
theorem Irr.not_dvd_C {q : Poly F} (h : q.Irr) {c : F} (hc : c ≠ 0) : ¬ q ∣ C c := fun hd => by
  have := len_le_of_dvd hd (C_ne hc)
  rw [len_C hc] at this
  have := h.len
  omega
theorem Irr.eq_of_dvd {q r : Poly F} (h : q.Irr) (k : r.Irr) (hd : q ∣ r) : q = r := by
  obtain ⟨x, hx⟩ := hd
  rcases k.no q x hx with h1 | h1
  · have := h.len; omega
  · have hxm : x.Mon := h.mon.of_mul (hx ▸ k.mon)
    rw [hx, hxm.one_of_len h1, mul_one]
theorem exists_irr {a : Poly F} (ha : 1 < a.len) : ∃ q, q.Irr ∧ q ∣ a := by
  induction hn : a.len using Nat.strongRecOn generalizing a with
  | ind n ih =>
    have ha0 : a ≠ 0 := fun e => by rw [e, len_zero] at ha; omega
    by_cases h : ∃ x y, a = x * y ∧ x.len ≠ 1 ∧ y.len ≠ 1
    · obtain ⟨x, y, hxy, hx, hy⟩ := h
      have hx0 : x ≠ 0 := fun e => ha0 (by rw [hxy, e, zero_mul])
      have hy0 : y ≠ 0 := fun e => ha0 (by rw [hxy, e, mul_zero])
      have h1 := (len_mul hx0 hy0).1
      have h2 := len_pos hx0
      have h3 := len_pos hy0
      rw [← hxy] at h1
      obtain ⟨q, hq, hd⟩ := ih x.len (by omega) (a := x) (by omega) rfl
      exact ⟨q, hq, by rw [hxy]; exact Dvd.mul_r hd y⟩
    · refine ⟨a.monic, ⟨monic_mon ha0, by rw [monic_len ha0]; exact ha, fun x y e => ?_⟩, monic_dvd (dvd_refl a)⟩
      have e2 : a = (C a.lc * x) * y := by rw [mul_assoc, ← e, C_lc_monic ha0]
      by_cases h1 : y.len = 1
      · exact .inr h1
      · left
        by_cases h2 : x.len = 1
        · exact h2
        · exact absurd ⟨C a.lc * x, y, e2, by rw [len_C_mul (lc_ne ha0)]; exact h2, h1⟩ h

/-- How often q is a factor. -/
theorem val_exists {q a : Poly F} (hq : 1 < q.len) (ha : a ≠ 0) : ∃ k, q ^ k ∣ a ∧ ¬ q ^ (k + 1) ∣ a := by
  have hq0 : q ≠ 0 := fun e => by rw [e, len_zero] at hq; omega
  have hb : ∃ n, ¬ q ^ n ∣ a := ⟨a.len, fun hd => by
    have h1 := len_le_of_dvd hd ha
    rw [len_pow hq0] at h1
    have : a.len * 1 ≤ a.len * (q.len - 1) := Nat.mul_le_mul_left _ (by omega)
    omega⟩
  obtain ⟨n, hn, hmin⟩ := least (fun n => ¬ q ^ n ∣ a) hb
  cases n with
  | zero => exact absurd (by rw [CRing.pow_zero]; exact one_dvd a) hn
  | succ k => exact ⟨k, Classical.not_not.1 (hmin k (by omega)), hn⟩
open Classical in
noncomputable def val (q a : Poly F) : Nat := if h : 1 < q.len ∧ a ≠ 0 then Classical.choose (val_exists h.1 h.2) else 0
theorem val_spec {q a : Poly F} (hq : 1 < q.len) (ha : a ≠ 0) : q ^ val q a ∣ a ∧ ¬ q ^ (val q a + 1) ∣ a := by
  unfold val
  rw [dif_pos ⟨hq, ha⟩]
  exact Classical.choose_spec (val_exists hq ha)
theorem dvd_iff_val {q a : Poly F} (hq : 1 < q.len) (ha : a ≠ 0) {k : Nat} : q ^ k ∣ a ↔ k ≤ val q a := by
  have h := val_spec hq ha
  constructor
  · intro hd
    refine Nat.le_of_not_lt fun hl => h.2 (dvd_trans (pow_dvd_pow q (by omega)) hd)
  · intro hk; exact dvd_trans (pow_dvd_pow q hk) h.1
theorem val_eq {q a : Poly F} (hq : 1 < q.len) (ha : a ≠ 0) {k : Nat} (h1 : q ^ k ∣ a) (h2 : ¬ q ^ (k + 1) ∣ a) : val q a = k := by
  have h3 := (dvd_iff_val hq ha).1 h1
  have h4 : ¬ k + 1 ≤ val q a := fun h => h2 ((dvd_iff_val hq ha).2 h)
  omega
theorem Irr.val_mul {q a b : Poly F} (h : q.Irr) (ha : a ≠ 0) (hb : b ≠ 0) : val q (a * b) = val q a + val q b := by
  obtain ⟨⟨x, hx⟩, h2⟩ := val_spec h.len ha
  obtain ⟨⟨y, hy⟩, h4⟩ := val_spec h.len hb
  have nx : ¬ q ∣ x := fun ⟨z, hz⟩ => h2 ⟨z, hx.trans (by rw [hz, CRing.pow_succ, mul_assoc])⟩
  have ny : ¬ q ∣ y := fun ⟨z, hz⟩ => h4 ⟨z, hy.trans (by rw [hz, CRing.pow_succ, mul_assoc])⟩
  have e : a * b = q ^ (val q a + val q b) * (x * y) := by
    conv => lhs; rw [hx, hy]
    rw [CRing.pow_add]; ac_rfl
  refine val_eq h.len (mul_ne ha hb) ⟨_, e⟩ fun hd => ?_
  rw [e, CRing.pow_succ] at hd
  rcases h.prime (dvd_of_mul (pow_ne h.ne _) hd) with h5 | h5
  · exact nx h5
  · exact ny h5
theorem val_one {q : Poly F} (h : q.Irr) : val q 1 = 0 := val_eq h.len one_ne (by rw [CRing.pow_zero]; exact dvd_refl 1) (by rw [CRing.pow_succ, CRing.pow_zero, one_mul]; exact h.not_dvd_one)
theorem Irr.val_C {q : Poly F} (h : q.Irr) {c : F} (hc : c ≠ 0) : val q (C c) = 0 :=
  val_eq h.len (C_ne hc) (by rw [CRing.pow_zero]; exact one_dvd _) (by rw [CRing.pow_succ, CRing.pow_zero, one_mul]; exact h.not_dvd_C hc)
theorem Irr.val_pow {q a : Poly F} (h : q.Irr) (ha : a ≠ 0) (n : Nat) : val q (a ^ n) = n * val q a := by
  induction n with
  | zero => rw [CRing.pow_zero, val_one h]; omega
  | succ n ih => rw [CRing.pow_succ, h.val_mul (pow_ne ha n) ha, ih, Nat.succ_mul]
theorem Irr.val_monic {q a : Poly F} (h : q.Irr) (ha : a ≠ 0) : val q a.monic = val q a := by
  unfold monic
  have h1 := CField.inv_ne (lc_ne ha)
  rw [h.val_mul (C_ne h1) ha, h.val_C h1, Nat.zero_add]
theorem Irr.dvd_val {q a : Poly F} (h : q.Irr) (ha : a ≠ 0) : q ∣ a ↔ 1 ≤ val q a := by
  rw [← dvd_iff_val h.len ha, CRing.pow_one]
open Classical in
theorem Irr.val_irr {q r : Poly F} (h : q.Irr) (k : r.Irr) : val q r = if q = r then 1 else 0 := by
  split
  · next e =>
    subst e
    refine val_eq h.len h.ne (by rw [CRing.pow_one]; exact dvd_refl q) fun hd => ?_
    have := len_le_of_dvd hd h.ne
    rw [len_pow h.ne] at this
    have := h.len
    omega
  · next e =>
    have : ¬ 1 ≤ val q r := fun hv => e (h.eq_of_dvd k ((h.dvd_val k.ne).2 hv))
    omega
theorem val_le_of_dvd {q a b : Poly F} (h : q.Irr) (hb : b ≠ 0) (hd : a ∣ b) : val q a ≤ val q b := by
  obtain ⟨x, rfl⟩ := hd
  have ha : a ≠ 0 := fun e => hb (by rw [e, zero_mul])
  have hx : x ≠ 0 := fun e => hb (by rw [e, mul_zero])
  rw [h.val_mul ha hx]; omega
/-- What has each factor no more often divides. -/
theorem dvd_of_val {a b : Poly F} (ha : a ≠ 0) (hb : b ≠ 0) (h : ∀ q, q.Irr → val q a ≤ val q b) : a ∣ b := by
  induction hn : a.len using Nat.strongRecOn generalizing a b with
  | ind n ih =>
    have hp := len_pos ha
    by_cases h1 : a.len = 1
    · obtain ⟨c, hc, rfl⟩ := len_one_iff.1 h1
      exact C_dvd hc b
    · obtain ⟨q, hq, x, hx⟩ := exists_irr (a := a) (by omega)
      have hx0 : x ≠ 0 := fun e => ha (by rw [hx, e, mul_zero])
      have h2 := h q hq
      have h3 : 1 ≤ val q a := (hq.dvd_val ha).1 ⟨x, hx⟩
      obtain ⟨y, hy⟩ := (hq.dvd_val hb).2 (by omega)
      have hy0 : y ≠ 0 := fun e => hb (by rw [hy, e, mul_zero])
      have h4 := (len_mul hq.ne hx0).1
      have h5 := len_pos hx0
      have h6 := hq.len
      rw [← hx] at h4
      have := ih x.len (by omega) hx0 hy0 (fun r hr => by
        have := h r hr
        rw [hx, hy, hr.val_mul hq.ne hx0, hr.val_mul hq.ne hy0] at this
        omega) rfl
      rw [hx, hy]
      exact mul_dvd_mul (dvd_refl q) this
theorem dvd_iff {a b : Poly F} (ha : a ≠ 0) (hb : b ≠ 0) : a ∣ b ↔ ∀ q, q.Irr → val q a ≤ val q b :=
  ⟨fun h _q hq => val_le_of_dvd hq hb h, dvd_of_val ha hb⟩
/-- What has the same factors, as often, is the same. -/
theorem Mon.eq_of_val {a b : Poly F} (ha : a.Mon) (hb : b.Mon) (h : ∀ q, q.Irr → val q a = val q b) : a = b :=
  ha.eq_of_dvd hb (dvd_of_val ha.ne hb.ne fun q hq => by rw [h q hq]; omega) (dvd_of_val hb.ne ha.ne fun q hq => by rw [h q hq]; omega)
theorem IsGcd.val {a b g : Poly F} (h : IsGcd a b g) (ha : a ≠ 0) (hb : b ≠ 0) {q : Poly F} (hq : q.Irr) : val q g = min (val q a) (val q b) := by
  have hg := (h.mon_of (.inl ha)).ne
  have h1 := val_le_of_dvd hq ha h.l
  have h2 := val_le_of_dvd hq hb h.r
  have h3 : q ^ min (Poly.val q a) (Poly.val q b) ∣ g := h.top _ ((dvd_iff_val hq.len ha).2 (by omega)) ((dvd_iff_val hq.len hb).2 (by omega))
  have h4 := (dvd_iff_val hq.len hg).1 h3
  omega
theorem IsGcd.zero_right {a g : Poly F} (h : IsGcd a 0 g) : g = a.monic := by
  refine h.unique ⟨monic_dvd (dvd_refl a), dvd_zero _, fun d h1 _ => dvd_monic h1, ?_⟩
  by_cases ha : a = 0
  · exact .inl (by rw [ha, monic_zero])
  · exact .inr (monic_mon ha)
theorem val_quot {q a b c : Poly F} (hq : q.Irr) (h : a = b * c) (ha : a ≠ 0) : val q c = val q a - val q b := by
  have hb : b ≠ 0 := fun e => ha (by rw [h, e, zero_mul])
  have hc : c ≠ 0 := fun e => ha (by rw [h, e, mul_zero])
  rw [h, hq.val_mul hb hc]; omega
theorem Mon.eq_one_of_val {a : Poly F} (ha : a.Mon) (h : ∀ q, q.Irr → val q a = 0) : a = 1 :=
  ha.eq_of_val mon_one fun q hq => by rw [h q hq, val_one hq]
end Poly
end Cl
