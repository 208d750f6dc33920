/- Quotients, rests, greatest common divisors as functions; Euclid's way, whose rows are told. No program in sight. -/
import Derived.Test.YteddelfkjpljpaaPolyDer
namespace Cl
open CRing
namespace Poly
variable {F : Type} [CField F]
open Classical in
noncomputable def quo (a b : Poly F) : Poly F := if h : b ≠ 0 then Classical.choose (div_exists a h) else 0
open Classical in
noncomputable def rem (a b : Poly F) : Poly F := if h : b ≠ 0 then Classical.choose (Classical.choose_spec (div_exists a h)) else a
theorem div_spec (a : Poly F) {b : Poly F} (hb : b ≠ 0) : a = quo a b * b + rem a b ∧ (rem a b).len < b.len := by
  have h := Classical.choose_spec (Classical.choose_spec (div_exists a hb))
  unfold quo rem
  rw [dif_pos hb, dif_pos hb]
  exact h
theorem div_eq {a b q r : Poly F} (h : a = q * b + r) (hr : r.len < b.len) : quo a b = q ∧ rem a b = r := by
  have hb : b ≠ 0 := fun e => by rw [e, len_zero] at hr; omega
  obtain ⟨h1, h2⟩ := div_spec a hb
  exact div_unique (h1.symm.trans h) h2 hr
theorem rem_zero_iff {a b : Poly F} (hb : b ≠ 0) : rem a b = 0 ↔ b ∣ a := by
  obtain ⟨h1, h2⟩ := div_spec a hb
  constructor
  · intro h; rw [h, add_zero] at h1; exact ⟨quo a b, h1.trans (mul_comm _ _)⟩
  · rintro ⟨x, hx⟩
    exact (div_eq (q := x) (r := 0) (by rw [add_zero, hx, mul_comm]) (by rw [len_zero]; exact len_pos hb)).2
theorem quo_mul {a b : Poly F} (hb : b ≠ 0) (h : b ∣ a) : quo a b * b = a := by
  obtain ⟨h1, _⟩ := div_spec a hb
  rw [(rem_zero_iff hb).2 h, add_zero] at h1
  exact h1.symm
theorem quo_of_mul {b : Poly F} (hb : b ≠ 0) (c : Poly F) : quo (c * b) b = c ∧ rem (c * b) b = 0 :=
  div_eq (by rw [add_zero]) (by rw [len_zero]; exact len_pos hb)
theorem rem_of_lt {a b : Poly F} (h : a.len < b.len) : rem a b = a ∧ quo a b = 0 := by
  have := div_eq (a := a) (b := b) (q := 0) (r := a) (by rw [zero_mul, zero_add]) h
  exact ⟨this.2, this.1⟩
/-- Equal but for so many times b. -/
def Eqm (b x y : Poly F) : Prop := b ∣ x - y
section
variable {b x y z x' y' : Poly F}
theorem Eqm.refl (b x : Poly F) : Eqm b x x := by unfold Eqm; rw [sub_self]; exact dvd_zero b
theorem Eqm.symm (h : Eqm b x y) : Eqm b y x := by unfold Eqm at *; rw [← neg_sub]; exact dvd_neg h
theorem Eqm.trans (h : Eqm b x y) (k : Eqm b y z) : Eqm b x z := by
  unfold Eqm at *
  have e : x - z = (x - y) + (y - z) := by rw [sub_def, sub_def, sub_def, add_assoc, neg_add_cancel_left]
  rw [e]; exact dvd_add h k
theorem Eqm.add (h : Eqm b x y) (k : Eqm b x' y') : Eqm b (x + x') (y + y') := by
  unfold Eqm at *
  have e : x + x' - (y + y') = (x - y) + (x' - y') := by simp only [sub_def, neg_add_rev]; ac_rfl
  rw [e]; exact dvd_add h k
theorem Eqm.neg (h : Eqm b x y) : Eqm b (-x) (-y) := by
  unfold Eqm at *
  have e : -x - -y = -(x - y) := by simp only [sub_def, neg_add_rev]
  rw [e]; exact dvd_neg h
theorem Eqm.sub (h : Eqm b x y) (k : Eqm b x' y') : Eqm b (x - x') (y - y') := by rw [sub_def, sub_def]; exact h.add k.neg
theorem Eqm.mul (h : Eqm b x y) (k : Eqm b x' y') : Eqm b (x * x') (y * y') := by
  unfold Eqm at *
  have e : x * x' - y * y' = (x - y) * x' + y * (x' - y') := by
    rw [sub_mul, mul_sub, sub_def, sub_def, sub_def, add_assoc, neg_add_cancel_left]
  rw [e]; exact dvd_add (Dvd.mul_r h _) (Dvd.mul_l k _)
theorem Eqm.pow (h : Eqm b x y) (n : Nat) : Eqm b (x ^ n) (y ^ n) := by
  induction n with
  | zero => rw [CRing.pow_zero, CRing.pow_zero]; exact Eqm.refl _ _
  | succ n ih => rw [CRing.pow_succ, CRing.pow_succ]; exact ih.mul h
theorem Eqm.of_dvd {d : Poly F} (h : Eqm b x y) (hd : d ∣ b) : Eqm d x y := dvd_trans hd h
theorem eqm_zero : Eqm b x 0 ↔ b ∣ x := by unfold Eqm; rw [sub_zero]
theorem eqm_rem (x : Poly F) (hb : b ≠ 0) : Eqm b (rem x b) x := by
  obtain ⟨h1, _⟩ := div_spec x hb
  refine Eqm.symm ⟨quo x b, ?_⟩
  conv => lhs; lhs; rw [h1]
  rw [add_sub_cancel, mul_comm]
theorem rem_eq_of_eqm (hb : b ≠ 0) (h : Eqm b x y) : rem x b = rem y b := by
  obtain ⟨h1, h2⟩ := div_spec x hb
  obtain ⟨h3, h4⟩ := div_spec y hb
  obtain ⟨c, hc⟩ := h
  refine (div_eq (q := quo y b + c) (r := rem y b) ?_ h4).2
  have : x = y + b * c := by rw [← hc, add_comm, sub_add_cancel]
  rw [this, add_mul]
  conv => lhs; lhs; rw [h3]
  ac_rfl
theorem eqm_iff_rem (hb : b ≠ 0) : Eqm b x y ↔ rem x b = rem y b :=
  ⟨rem_eq_of_eqm hb, fun h => (eqm_rem x hb).symm.trans (by rw [h]; exact eqm_rem y hb)⟩
theorem rem_rem (x : Poly F) (hb : b ≠ 0) : rem (rem x b) b = rem x b := rem_eq_of_eqm hb (eqm_rem x hb)
theorem rem_len (x : Poly F) (hb : b ≠ 0) : (rem x b).len < b.len := (div_spec x hb).2
theorem rem_add (x y : Poly F) (hb : b ≠ 0) : rem (x + y) b = rem x b + rem y b := by
  obtain ⟨h1, h2⟩ := div_spec x hb
  obtain ⟨h3, h4⟩ := div_spec y hb
  refine (div_eq (q := quo x b + quo y b) ?_ ?_).2
  · rw [add_mul]
    conv => lhs; rw [h1, h3]
    ac_rfl
  · have h5 := ((len_sh (rem x b)).mono (show _ ≤ max (rem x b).len (rem y b).len by omega)).add ((len_sh (rem y b)).mono (show _ ≤ max (rem x b).len (rem y b).len by omega))
    have := len_le h5
    omega
end

noncomputable def gcdP (a b : Poly F) : Poly F := Classical.choose (gcd_exists a b)
theorem gcd_is (a b : Poly F) : IsGcd a b (gcdP a b) := by
  obtain ⟨s, t, h, _⟩ := Classical.choose_spec (gcd_exists a b)
  exact h

/-- A row of Euclid's way. -/
structure Row3 (F : Type) [CRing F] where
  g : Poly F
  s : Poly F
  t : Poly F
/-- The row that comes behind two. -/
noncomputable def Row3.next (x y : Row3 F) : Row3 F := ⟨x.g - quo x.g y.g * y.g, x.s - quo x.g y.g * y.s, x.t - quo x.g y.g * y.t⟩
theorem Row3.next_g {x y : Row3 F} (h : y.g ≠ 0) : (Row3.next x y).g = rem x.g y.g := by
  show x.g - quo x.g y.g * y.g = _
  have h1 := (div_spec x.g h).1
  conv => lhs; lhs; rw [h1]
  rw [add_comm, add_sub_cancel]
open Classical in
/-- The row at which Euclid's way ends. -/
noncomputable def euc : Nat → Row3 F → Row3 F → Row3 F
  | 0, x, _ => x
  | n + 1, x, y => if y.g = 0 then x else euc n y (Row3.next x y)
theorem euc_zero {n : Nat} {x y : Row3 F} (h : y.g = 0) : euc n x y = x := by
  cases n with
  | zero => rfl
  | succ n => unfold euc; rw [if_pos h]
theorem euc_fuel {n m : Nat} {x y : Row3 F} (hn : y.g.len ≤ n) (hm : y.g.len ≤ m) : euc n x y = euc m x y := by
  induction n generalizing m x y with
  | zero => rw [euc_zero (len_eq_zero.1 (by omega)), euc_zero (len_eq_zero.1 (by omega))]
  | succ n ih =>
    by_cases h : y.g = 0
    · rw [euc_zero h, euc_zero h]
    · have hp := len_pos h
      obtain ⟨k, rfl⟩ : ∃ k, m = k + 1 := ⟨m - 1, by omega⟩
      have hl := rem_len x.g h
      conv => lhs; unfold euc
      conv => rhs; unfold euc
      rw [if_neg h, if_neg h]
      exact ih (by rw [Row3.next_g h]; omega) (by rw [Row3.next_g h]; omega)
noncomputable def eucl (x y : Row3 F) : Row3 F := euc y.g.len x y
theorem eucl_zero {x y : Row3 F} (h : y.g = 0) : eucl x y = x := euc_zero h
theorem eucl_step {x y : Row3 F} (h : y.g ≠ 0) : eucl x y = eucl y (Row3.next x y) := by
  have hp := len_pos h
  have hl := rem_len x.g h
  unfold eucl
  obtain ⟨k, hk⟩ : ∃ k, y.g.len = k + 1 := ⟨y.g.len - 1, by omega⟩
  rw [hk]
  conv => lhs; unfold euc
  rw [if_neg h]
  exact euc_fuel (by rw [Row3.next_g h]; omega) (Nat.le_refl _)
/-- The row of Bezout: the divisor, monic, and of how many of both it is made. -/
noncomputable def bez (a b : Poly F) : Row3 F :=
  let r := eucl ⟨a, 1, 0⟩ ⟨b, 0, 1⟩
  ⟨r.g.monic, C (CField.inv r.g.lc) * r.s, C (CField.inv r.g.lc) * r.t⟩
theorem eucl_spec {a b : Poly F} (x y : Row3 F) (hx : x.s * a + x.t * b = x.g) (hy : y.s * a + y.t * b = y.g) (hd : ∀ d, d ∣ x.g ∧ d ∣ y.g ↔ d ∣ a ∧ d ∣ b) :
    (eucl x y).s * a + (eucl x y).t * b = (eucl x y).g ∧ ∀ d, d ∣ (eucl x y).g ↔ d ∣ a ∧ d ∣ b := by
  induction hn : y.g.len using Nat.strongRecOn generalizing x y with
  | ind n ih =>
    by_cases h : y.g = 0
    · rw [eucl_zero h]
      refine ⟨hx, fun d => ?_⟩
      rw [← hd d, h]
      exact ⟨fun k => ⟨k, dvd_zero d⟩, fun k => k.1⟩
    · rw [eucl_step h]
      refine ih (Row3.next x y).g.len (by rw [Row3.next_g h, ← hn]; exact rem_len _ h) y _ hy ?_ ?_ rfl
      · show (x.s - quo x.g y.g * y.s) * a + (x.t - quo x.g y.g * y.t) * b = x.g - quo x.g y.g * y.g
        rw [← hx, ← hy]
        generalize quo (x.s * a + x.t * b) (y.s * a + y.t * b) = u
        rw [sub_mul, sub_mul, mul_add, sub_def, sub_def, sub_def, neg_add_rev]
        have e1 : u * y.s * a = u * (y.s * a) := mul_assoc _ _ _
        have e2 : u * y.t * b = u * (y.t * b) := mul_assoc _ _ _
        rw [e1, e2]; ac_rfl
      · intro d
        rw [← hd d, Row3.next_g h]
        have h1 := (div_spec x.g h).1
        constructor
        · rintro ⟨k1, k2⟩
          exact ⟨by rw [h1]; exact dvd_add (Dvd.mul_l k1 _) k2, k1⟩
        · rintro ⟨k1, k2⟩
          refine ⟨k2, ?_⟩
          rw [h1] at k1
          exact dvd_of_add k1 (Dvd.mul_l k2 _)
theorem bez_spec (a b : Poly F) : (bez a b).s * a + (bez a b).t * b = (bez a b).g ∧ IsGcd a b (bez a b).g := by
  have h := eucl_spec (a := a) (b := b) ⟨a, 1, 0⟩ ⟨b, 0, 1⟩ (by rw [one_mul, zero_mul, add_zero]) (by rw [one_mul, zero_mul, zero_add]) (fun d => Iff.rfl)
  generalize hr : eucl (⟨a, 1, 0⟩ : Row3 F) ⟨b, 0, 1⟩ = r at h
  have e : bez a b = ⟨r.g.monic, C (CField.inv r.g.lc) * r.s, C (CField.inv r.g.lc) * r.t⟩ := by unfold bez; rw [hr]
  rw [e]
  have h1 : C (CField.inv r.g.lc) * r.s * a + C (CField.inv r.g.lc) * r.t * b = r.g.monic := by
    rw [mul_assoc, mul_assoc, ← mul_add, h.1]; rfl
  refine ⟨h1, .of_bezout (monic_dvd ((h.2 r.g).1 (dvd_refl _)).1) (monic_dvd ((h.2 r.g).1 (dvd_refl _)).2) h1 ?_⟩
  by_cases hg : r.g = 0
  · exact .inl (by rw [hg, monic_zero])
  · exact .inr (monic_mon hg)
theorem bez_g (a b : Poly F) : (bez a b).g = gcdP a b := (bez_spec a b).2.unique (gcd_is a b)
end Poly
end Cl
