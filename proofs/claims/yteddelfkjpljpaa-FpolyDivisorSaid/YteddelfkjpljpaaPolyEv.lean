/- Values of polynomials, at places in any ring; roots; x to the p-th power less x. No program in sight. -/
import Derived.Test.YteddelfkjpljpaaPolyEuc
namespace Cl
open CRing
/-- A map that keeps sums and products. -/
structure Hom {F R : Type} [CRing F] [CRing R] (φ : F → R) : Prop where
  add : ∀ a b, φ (a + b) = φ a + φ b
  mul : ∀ a b, φ (a * b) = φ a * φ b
  one : φ 1 = 1
theorem Hom.zero {F R : Type} [CRing F] [CRing R] {φ : F → R} (h : Hom φ) : φ 0 = 0 := by
  have := h.add 0 0
  rw [add_zero] at this
  exact add_left_cancel (a := φ 0) (by rw [add_zero]; exact this.symm)
theorem Hom.neg {F R : Type} [CRing F] [CRing R] {φ : F → R} (h : Hom φ) (a : F) : φ (-a) = -φ a :=
  eq_neg_of_add (by rw [← h.add, add_neg, h.zero])
theorem Hom.sum {F R : Type} [CRing F] [CRing R] {φ : F → R} (h : Hom φ) (n : Nat) (f : Nat → F) : φ (sum n f) = CRing.sum n (fun i => φ (f i)) := by
  induction n with
  | zero => exact h.zero
  | succ n ih => rw [sum_succ, h.add, ih, sum_succ]
theorem hom_id {F : Type} [CRing F] : Hom (fun a : F => a) := ⟨fun _ _ => rfl, fun _ _ => rfl, rfl⟩
namespace Poly
theorem hom_C {F : Type} [CRing F] : Hom (C : F → Poly F) := ⟨C_add, fun a b => (C_mul_C a b).symm, C_one⟩

section
variable {F R : Type} [CRing F] [CRing R] {φ : F → R}
/-- The value, of the first n coefficients. -/
def evN (φ : F → R) (P : Poly F) (v : R) (n : Nat) : R := sum n (fun i => φ (P.co i) * v ^ i)
theorem evN_sh (hφ : Hom φ) {P : Poly F} {n m : Nat} (h : P.Sh n) (hm : n ≤ m) (v : R) : evN φ P v m = evN φ P v n :=
  sum_extend hm fun i h1 _ => by rw [h i h1, hφ.zero, zero_mul]
/-- The value. -/
noncomputable def ev (φ : F → R) (P : Poly F) (v : R) : R := evN φ P v P.len
theorem ev_eq (hφ : Hom φ) {P : Poly F} {n : Nat} (h : P.Sh n) (v : R) : ev φ P v = evN φ P v n := by
  have h1 := len_le h
  exact (evN_sh hφ (len_sh P) h1 v).symm
theorem ev_add (hφ : Hom φ) (P Q : Poly F) (v : R) : ev φ (P + Q) v = ev φ P v + ev φ Q v := by
  have hp := (len_sh P).mono (show P.len ≤ max P.len Q.len by omega)
  have hq := (len_sh Q).mono (show Q.len ≤ max P.len Q.len by omega)
  rw [ev_eq hφ (hp.add hq), ev_eq hφ hp, ev_eq hφ hq]
  unfold evN
  rw [← sum_add]
  exact sum_congr fun i _ => by rw [co_add, hφ.add, add_mul]
theorem ev_C (hφ : Hom φ) (c : F) (v : R) : ev φ (C c) v = φ c := by
  rw [ev_eq hφ (sh_C c)]
  unfold evN
  rw [sum_succ, sum_zero, zero_add, CRing.pow_zero, CRing.mul_one]; rfl
theorem ev_one (hφ : Hom φ) (v : R) : ev φ 1 v = 1 := by rw [← C_one, ev_C hφ, hφ.one]
theorem ev_zero (hφ : Hom φ) (v : R) : ev φ 0 v = 0 := by rw [← C_zero, ev_C hφ, hφ.zero]
theorem ev_mono (hφ : Hom φ) (n : Nat) (c : F) (v : R) : ev φ (mono n c) v = φ c * v ^ n := by
  rw [ev_eq hφ (n := n + 1) (fun i hi => by rw [co_mono, if_neg (by omega)])]
  unfold evN
  rw [sum_single (k := n) (by omega) (fun i _ hne => by rw [co_mono, if_neg hne, hφ.zero, zero_mul]), co_mono, if_pos rfl]
theorem ev_mul (hφ : Hom φ) (P Q : Poly F) (v : R) : ev φ (P * Q) v = ev φ P v * ev φ Q v := by
  have e1 : ev φ (P * Q) v = evN φ (P * Q) v (P.len + Q.len + 1) := ev_eq hφ ((len_sh P).mul (len_sh Q) (by omega)) v
  rw [e1]
  unfold evN
  have e2 : sum (P.len + Q.len + 1) (fun n => φ ((P * Q).co n) * v ^ n) = sum (P.len + Q.len + 1) (fun n => sum (n + 1) (fun k => φ (P.co k) * φ (Q.co (n - k)) * v ^ n)) := by
    refine sum_congr fun n _ => ?_
    rw [co_mul, hφ.sum, sum_mul]
    exact sum_congr fun k _ => by rw [hφ.mul]
  rw [e2, sum_tri (P.len + Q.len) (fun n k => φ (P.co k) * φ (Q.co (n - k)) * v ^ n)]
  have e3 : ∀ j, j < P.len + Q.len + 1 → sum (P.len + Q.len + 1 - j) (fun i => φ (P.co j) * φ (Q.co (j + i - j)) * v ^ (j + i)) = φ (P.co j) * v ^ j * ev φ Q v := by
    intro j hj
    by_cases hjp : j < P.len
    · have : ev φ Q v = evN φ Q v (P.len + Q.len + 1 - j) := ev_eq hφ ((len_sh Q).mono (by omega)) v
      rw [this]
      unfold evN
      rw [mul_sum]
      refine sum_congr fun i _ => ?_
      rw [show j + i - j = i by omega, CRing.pow_add]; ac_rfl
    · rw [len_sh P j (by omega), hφ.zero, zero_mul, zero_mul]
      exact sum_eq_zero fun i _ => by rw [zero_mul, zero_mul]
  rw [sum_congr e3, ← sum_mul]
  congr 1
  exact (ev_eq hφ ((len_sh P).mono (by omega)) v).symm
theorem ev_neg (hφ : Hom φ) (P : Poly F) (v : R) : ev φ (-P) v = -ev φ P v := eq_neg_of_add (by rw [← ev_add hφ, add_neg, ev_zero hφ])
theorem ev_sub (hφ : Hom φ) (P Q : Poly F) (v : R) : ev φ (P - Q) v = ev φ P v - ev φ Q v := by rw [CRing.sub_def, ev_add hφ, ev_neg hφ, CRing.sub_def]
theorem ev_pow (hφ : Hom φ) (P : Poly F) (v : R) (n : Nat) : ev φ (P ^ n) v = ev φ P v ^ n := by
  induction n with
  | zero => rw [CRing.pow_zero, CRing.pow_zero, ev_one hφ]
  | succ n ih => rw [CRing.pow_succ, ev_mul hφ, ih, CRing.pow_succ]
end

/-- x. -/
def X (F : Type) [CRing F] : Poly F := mono 1 1
theorem ev_X {F R : Type} [CRing F] [CRing R] {φ : F → R} (hφ : Hom φ) (v : R) : ev φ (X F) v = v := by
  unfold X; rw [ev_mono hφ, hφ.one, CRing.one_mul, CRing.pow_one]
theorem X_pow {F : Type} [CRing F] (n : Nat) : (X F) ^ n = mono n 1 := by
  unfold X; rw [mono_pow, Nat.one_mul, CRing.one_pow]
theorem sh_mono {F : Type} [CRing F] (n : Nat) (c : F) : (mono n c).Sh (n + 1) := fun i hi => by rw [co_mono, if_neg (by omega)]

section
variable {F : Type} [CField F]
theorem len_mono {n : Nat} {c : F} (h : c ≠ 0) : (mono n c).len = n + 1 := len_eq (sh_mono n c) (by rw [co_mono, if_pos rfl]; exact h)
/-- x less a number. -/
def lin (c : F) : Poly F := X F - C c
theorem co_lin (c : F) (i : Nat) : (lin c).co i = if i = 1 then 1 else if i = 0 then -c else 0 := by
  unfold lin X
  rw [co_sub, co_mono, co_C]
  by_cases h1 : i = 1
  · subst h1; rw [if_pos rfl, if_pos rfl, if_neg (by omega), CRing.sub_zero]
  · rw [if_neg h1, if_neg h1]
    split
    · rw [CRing.zero_sub]
    · rw [CRing.sub_zero]
theorem lin_len (c : F) : (lin c).len = 2 := len_eq (n := 1) (fun i hi => by rw [co_lin, if_neg (by omega), if_neg (by omega)]) (by rw [co_lin, if_pos rfl]; exact CField.one_ne)
theorem lin_mon (c : F) : (lin c).Mon := by
  unfold Mon lc
  rw [lin_len, co_lin, if_pos rfl]
theorem lin_irr (c : F) : (lin c).Irr := by
  refine ⟨lin_mon c, by rw [lin_len]; omega, fun a b e => ?_⟩
  have ha : a ≠ 0 := fun h => (lin_mon c).ne (by rw [e, h, CRing.zero_mul])
  have hb : b ≠ 0 := fun h => (lin_mon c).ne (by rw [e, h, CRing.mul_zero])
  have h1 := (len_mul ha hb).1
  rw [← e, lin_len] at h1
  have := len_pos ha
  have := len_pos hb
  omega
theorem lin_inj {a b : F} (h : lin a = lin b) : a = b := by
  have h1 : (lin a).co 0 = (lin b).co 0 := by rw [h]
  rw [co_lin, co_lin, if_neg (by omega), if_pos rfl, if_neg (by omega), if_pos rfl] at h1
  exact CRing.neg_inj h1
/-- A root parts. -/
theorem lin_dvd {P : Poly F} {c : F} : lin c ∣ P ↔ ev (fun a => a) P c = 0 := by
  have hid : Hom (fun a : F => a) := hom_id
  have hl : ev (fun a => a) (lin c) c = 0 := by
    unfold lin
    rw [ev_sub hid, ev_X hid, ev_C hid, CRing.sub_self]
  constructor
  · rintro ⟨x, rfl⟩
    rw [ev_mul hid, hl, CRing.zero_mul]
  · intro h
    obtain ⟨h1, h2⟩ := div_spec P (lin_mon c).ne
    rw [lin_len] at h2
    have h3 := eq_C ((len_sh (rem P (lin c))).mono (show _ ≤ 1 by omega))
    rw [h1, ev_add hid, ev_mul hid, hl, CRing.mul_zero, CRing.zero_add, h3, ev_C hid] at h
    rw [← rem_zero_iff (lin_mon c).ne, h3, h, C_zero]
end

variable {q : Prm}
/-- The product of x less each residue below n. -/
def allLin (q : Prm) : Nat → Poly (Zp q)
  | 0 => 1
  | n + 1 => allLin q n * lin (Zp.of q n)
theorem allLin_mon (n : Nat) : (allLin q n).Mon := by
  induction n with
  | zero => exact mon_one
  | succ n ih => exact ih.mul (lin_mon _)
theorem allLin_len (n : Nat) : (allLin q n).len = n + 1 := by
  induction n with
  | zero => exact len_one
  | succ n ih => unfold allLin; rw [(len_mul (allLin_mon n).ne (lin_mon _).ne).1, ih, lin_len]; omega
theorem of_inj_lt {i j : Nat} (hi : (i : Int) < q.p) (hj : (j : Int) < q.p) (h : Zp.of q i = Zp.of q j) : i = j := by
  have := (Zp.of_eq_iff.1 h).eq_of_lt (by omega) hi (by omega) hj
  omega
theorem val_allLin {n : Nat} (hn : (n : Int) ≤ q.p) {f : Poly (Zp q)} (hf : f.Irr) : val f (allLin q n) ≤ 1 ∧ (1 ≤ val f (allLin q n) → ∃ i, i < n ∧ f = lin (Zp.of q i)) := by
  induction n with
  | zero => unfold allLin; rw [val_one hf]; exact ⟨by omega, fun h => absurd h (by omega)⟩
  | succ n ih =>
    obtain ⟨h1, h2⟩ := ih (by omega)
    unfold allLin
    rw [hf.val_mul (allLin_mon n).ne (lin_mon _).ne, hf.val_irr (lin_irr _)]
    by_cases e : f = lin (Zp.of q n)
    · rw [if_pos e]
      have h3 : ¬ 1 ≤ val f (allLin q n) := fun h => by
        obtain ⟨i, hi, he⟩ := h2 h
        have := of_inj_lt (by omega) (by omega) (lin_inj (he.symm.trans e))
        omega
      exact ⟨by omega, fun _ => ⟨n, by omega, e⟩⟩
    · rw [if_neg e]
      exact ⟨by omega, fun h => by
        obtain ⟨i, hi, he⟩ := h2 (by omega)
        exact ⟨i, by omega, he⟩⟩
/-- x to the p-th power less x is that product. -/
theorem X_pow_p : (X (Zp q)) ^ q.p.toNat - X (Zp q) = allLin q q.p.toNat := by
  have h2 := q.pr.two
  have hid : Hom (fun a : Zp q => a) := hom_id
  have hco : ∀ i, ((X (Zp q)) ^ q.p.toNat - X (Zp q)).co i = (if i = q.p.toNat then 1 else 0) - (if i = 1 then 1 else 0) := fun i => by
    rw [X_pow, co_sub]; rfl
  have hlen : ((X (Zp q)) ^ q.p.toNat - X (Zp q)).len = q.p.toNat + 1 := len_eq (fun i hi => by rw [hco, if_neg (by omega), if_neg (by omega), CRing.sub_self]) (by rw [hco, if_pos rfl, if_neg (by omega), CRing.sub_zero]; exact CField.one_ne)
  have hmon : ((X (Zp q)) ^ q.p.toNat - X (Zp q)).Mon := by
    unfold Mon lc
    rw [hlen, Nat.add_sub_cancel, hco, if_pos rfl, if_neg (by omega), CRing.sub_zero]
  have hd : allLin q q.p.toNat ∣ (X (Zp q)) ^ q.p.toNat - X (Zp q) := dvd_of_val (allLin_mon _).ne hmon.ne fun f hf => by
    obtain ⟨h3, h4⟩ := val_allLin (q := q) (n := q.p.toNat) (by omega) hf
    by_cases h5 : 1 ≤ val f (allLin q q.p.toNat)
    · obtain ⟨i, hi, rfl⟩ := h4 h5
      have : lin (Zp.of q i) ∣ (X (Zp q)) ^ q.p.toNat - X (Zp q) := by
        rw [lin_dvd, ev_sub hid, ev_pow hid, ev_X hid, Zp.pow_p, CRing.sub_self]
      have := (hf.dvd_val hmon.ne).1 this
      omega
    · omega
  obtain ⟨x, hx⟩ := hd
  have hxm : x.Mon := (allLin_mon _).of_mul (hx ▸ hmon)
  have h5 := (len_mul (allLin_mon (q := q) q.p.toNat).ne hxm.ne).1
  rw [← hx, hlen, allLin_len] at h5
  have := len_pos hxm.ne
  rw [hx, hxm.one_of_len (by omega), CRing.mul_one]
/-- The same, of any polynomial in x's place. -/
def allSub (v : Poly (Zp q)) : Nat → Poly (Zp q)
  | 0 => 1
  | n + 1 => allSub v n * (v - C (Zp.of q n))
theorem ev_allLin (v : Poly (Zp q)) (n : Nat) : ev C (allLin q n) v = allSub v n := by
  induction n with
  | zero => exact ev_one hom_C v
  | succ n ih =>
    unfold allLin allSub lin
    rw [ev_mul hom_C, ih, ev_sub hom_C, ev_X hom_C, ev_C hom_C]
theorem pow_p_sub (v : Poly (Zp q)) : v ^ q.p.toNat - v = allSub v q.p.toNat := by
  rw [← ev_allLin, ← X_pow_p, ev_sub hom_C, ev_pow hom_C, ev_X hom_C]
/-- By an irreducible polynomial, what is its own p-th power is a number. -/
theorem Irr.const {f v : Poly (Zp q)} (hf : f.Irr) (h : Eqm f (v ^ q.p.toNat) v) : ∃ c : Zp q, Eqm f v (C c) := by
  unfold Eqm at h
  rw [pow_p_sub] at h
  have : ∀ n, f ∣ allSub v n → ∃ c : Zp q, f ∣ v - C c := by
    intro n
    induction n with
    | zero => intro h; exact absurd h hf.not_dvd_one
    | succ n ih =>
      intro h
      rcases hf.prime h with h1 | h1
      · exact ih h1
      · exact ⟨_, h1⟩
  exact this _ h
theorem Irr.eqm_C {f : Poly (Zp q)} (hf : f.Irr) {a b : Zp q} (h : Eqm f (C a) (C b)) : a = b := by
  apply Classical.byContradiction
  intro hne
  unfold Eqm at h
  have e : C a - C b = C (a - b) := by rw [CRing.sub_def, CRing.sub_def, C_add, C_neg]
  rw [e] at h
  exact hf.not_dvd_C (fun h0 => hne (CRing.sub_eq_zero.1 h0)) h
end Poly
end Cl
