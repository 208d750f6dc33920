/- Polynomials parted by how often their factors are in them: the levels; what a round of the program's makes of them. No program in sight.
   Why a squarefree polynomial is parted by what is its own p-th power: as many dimensions as factors; for two of them a basis element and a residue tell them apart. No program in sight.
   Plain facts: the order of polynomials; lists of factors in order. No program in sight.
   Plain facts: a squarefree polynomial parted by trials. No program in sight.
   Plain facts: what has been tried, on the way. No program in sight. -/
import Derived.Test.YtpikakapflebkaaGreatPolyB
namespace Cl
open CRing
namespace Poly
section
variable {F : Type} [CField F]
open Classical in
/-- The product of those factors of which S holds, each once. -/
theorem pick_exists (S : Poly F → Prop) {a : Poly F} (ha : a ≠ 0) : ∃ P : Poly F, P.Mon ∧ ∀ f, f.Irr → val f P = if 1 ≤ val f a ∧ S f then 1 else 0 := by
  induction hn : a.len using Nat.strongRecOn generalizing a with
  | ind n ih =>
    have hp := len_pos ha
    by_cases h1 : a.len = 1
    · refine ⟨1, mon_one, fun f hf => ?_⟩
      obtain ⟨c, hc, rfl⟩ := len_one_iff.1 h1
      rw [val_one hf, hf.val_C hc, if_neg (by omega)]
    · obtain ⟨q, hq, hd⟩ := exists_irr (a := a) (by omega)
      obtain ⟨⟨b, hb⟩, h2⟩ := val_spec hq.len ha
      have hv := (hq.dvd_val ha).1 hd
      have nb : ¬ q ∣ b := fun ⟨z, hz⟩ => h2 ⟨z, hb.trans (by rw [hz, CRing.pow_succ, mul_assoc])⟩
      have hb0 : b ≠ 0 := fun e => ha (by rw [hb, e, mul_zero])
      have hlen : b.len < n := by
        have h3 := (len_mul (pow_ne hq.ne (val q a)) hb0).1
        rw [← hb, len_pow hq.ne] at h3
        have h4 := len_pos hb0
        have h5 := hq.len
        have : 1 * 1 ≤ val q a * (q.len - 1) := Nat.mul_le_mul hv (by omega)
        omega
      obtain ⟨P, hP, hval⟩ := ih b.len hlen hb0 rfl
      have hva : ∀ f, f.Irr → val f a = (if f = q then val q a else 0) + val f b := fun f hf => by
        conv => lhs; rw [hb]
        rw [hf.val_mul (pow_ne hq.ne _) hb0, hf.val_pow hq.ne, hf.val_irr hq]
        split <;> omega
      have hvb : val q b = 0 := by
        have : ¬ 1 ≤ val q b := fun h => nb ((hq.dvd_val hb0).2 h)
        omega
      by_cases hS : S q
      · refine ⟨q * P, hq.mon.mul hP, fun f hf => ?_⟩
        rw [hf.val_mul hq.ne hP.ne, hf.val_irr hq, hval f hf, hva f hf]
        by_cases e : f = q
        · subst e; simp [hvb, hS]; omega
        · simp [e]
      · refine ⟨P, hP, fun f hf => ?_⟩
        rw [hval f hf, hva f hf]
        by_cases e : f = q
        · subst e; simp [hvb, hS]
        · simp [e]
open Classical in
noncomputable def pick (S : Poly F → Prop) (a : Poly F) : Poly F := if h : a ≠ 0 then Classical.choose (pick_exists S h) else 1
open Classical in
theorem pick_spec (S : Poly F → Prop) {a : Poly F} (ha : a ≠ 0) : (pick S a).Mon ∧ ∀ f, f.Irr → val f (pick S a) = if 1 ≤ val f a ∧ S f then 1 else 0 := by
  unfold pick
  rw [dif_pos ha]
  exact Classical.choose_spec (pick_exists S ha)
/-- The product of the factors that are n times in a. -/
noncomputable def lvl (a : Poly F) (n : Nat) : Poly F := pick (fun f => val f a = n) a
/-- The product of all factors, each once. -/
noncomputable def rad (a : Poly F) : Poly F := pick (fun _ => True) a
theorem lvl_mon {a : Poly F} (ha : a ≠ 0) (n : Nat) : (lvl a n).Mon := (pick_spec _ ha).1
theorem rad_mon {a : Poly F} (ha : a ≠ 0) : (rad a).Mon := (pick_spec _ ha).1
theorem val_lvl {a : Poly F} (ha : a ≠ 0) {n : Nat} (hn : 1 ≤ n) {f : Poly F} (hf : f.Irr) : val f (lvl a n) = if val f a = n then 1 else 0 := by
  unfold lvl
  rw [(pick_spec _ ha).2 f hf]
  by_cases h : val f a = n
  · rw [if_pos h, if_pos ⟨by omega, h⟩]
  · rw [if_neg h, if_neg fun h' => h h'.2]
theorem val_rad {a : Poly F} (ha : a ≠ 0) {f : Poly F} (hf : f.Irr) : val f (rad a) = if 1 ≤ val f a then 1 else 0 := by
  unfold rad
  rw [(pick_spec _ ha).2 f hf]
  by_cases h : 1 ≤ val f a
  · rw [if_pos h, if_pos ⟨h, trivial⟩]
  · rw [if_neg h, if_neg fun h' => h h'.1]
theorem Mon.eq_lvl {a P : Poly F} (ha : a ≠ 0) {n : Nat} (hn : 1 ≤ n) (hP : P.Mon) (h : ∀ f, f.Irr → val f P = if val f a = n then 1 else 0) : P = lvl a n :=
  hP.eq_of_val (lvl_mon ha n) fun f hf => by rw [h f hf, val_lvl ha hn hf]
theorem Mon.eq_rad {a P : Poly F} (ha : a ≠ 0) (hP : P.Mon) (h : ∀ f, f.Irr → val f P = if 1 ≤ val f a then 1 else 0) : P = rad a :=
  hP.eq_of_val (rad_mon ha) fun f hf => by rw [h f hf, val_rad ha hf]
theorem lvl_one_iff {a : Poly F} (ha : a ≠ 0) {n : Nat} (hn : 1 ≤ n) : lvl a n = 1 ↔ ∀ f, f.Irr → val f a ≠ n := by
  constructor
  · intro h f hf e
    have := val_lvl ha hn hf
    rw [h, val_one hf, if_pos e] at this
    omega
  · intro h
    exact (lvl_mon ha n).eq_one_of_val fun f hf => by rw [val_lvl ha hn hf, if_neg (h f hf)]
theorem val_lt {a f : Poly F} (ha : a ≠ 0) (hf : f.Irr) : val f a < a.len := by
  have h := len_le_of_dvd (val_spec hf.len ha).1 ha
  rw [len_pow hf.ne] at h
  have := hf.len
  have : val f a * 1 ≤ val f a * (f.len - 1) := Nat.mul_le_mul_left _ (by omega)
  omega
theorem Mon.len_gt {P : Poly F} (h : P.Mon) : 1 < P.len ↔ P ≠ 1 := by
  have := len_pos h.ne
  constructor
  · intro h1 e; rw [e, Poly.len_one] at h1; omega
  · intro h1
    refine Nat.lt_of_le_of_ne this fun e => h1 (h.one_of_len e.symm)
theorem Mon.exists_irr_of_ne {P : Poly F} (h : P.Mon) (h1 : P ≠ 1) : ∃ f, f.Irr ∧ 1 ≤ val f P := by
  obtain ⟨f, hf, hd⟩ := exists_irr (h.len_gt.2 h1)
  exact ⟨f, hf, (hf.dvd_val h.ne).1 hd⟩
theorem quo_mon {a b : Poly F} (ha : a.Mon) (hb : b.Mon) (h : b ∣ a) : (quo a b).Mon := by
  have e := quo_mul hb.ne h
  rw [mul_comm] at e
  exact hb.of_mul (by rw [e]; exact ha)
theorem val_quo {a b f : Poly F} (hf : f.Irr) (ha : a ≠ 0) (hb : b ≠ 0) (h : b ∣ a) : val f (quo a b) = val f a - val f b := by
  have e := quo_mul hb h
  exact val_quot hf (by rw [mul_comm]; exact e.symm) ha
end

variable {q : Prm}
/-- Where p divides how often each factor is in it, the derivative is nought. -/
theorem Mon.D_zero {c : Poly (Zp q)} (hc : c.Mon) (h : ∀ f, f.Irr → q.p.toNat ∣ val f c) : c.D = 0 := by
  apply Classical.byContradiction
  intro hD
  have hd : c ∣ c.D := dvd_of_val hc.ne hD fun f hf => (dvd_iff_val hf.len hD).1 ((hf.val_D hc.ne).2 (h f hf))
  have h1 := len_le_of_dvd hd hD
  have h2 := D_len c
  have h3 := len_pos hc.ne
  have h4 := len_pos hD
  omega
theorem Mon.root_mon {c : Poly (Zp q)} (hc : c.Mon) (h : c.D = 0) : c.root.Mon := by
  have hr := root_pow h
  have hne := root_ne h hc.ne
  have hpn : ∀ n, (c.root ^ n).lc = c.root.lc ^ n := by
    intro n
    induction n with
    | zero => rw [CRing.pow_zero, CRing.pow_zero]; exact mon_one
    | succ n ih => rw [CRing.pow_succ, (len_mul (pow_ne hne n) hne).2, ih, CRing.pow_succ]
  have := hpn q.p.toNat
  rw [hr, Zp.pow_p] at this
  exact this.symm.trans hc
theorem val_root {c f : Poly (Zp q)} (hc : c ≠ 0) (h : c.D = 0) (hf : f.Irr) : q.p.toNat * val f c.root = val f c := by
  have := hf.val_pow (root_ne h hc) q.p.toNat
  rw [root_pow h] at this
  exact this.symm
theorem root_len {c : Poly (Zp q)} (hc : c ≠ 0) (h : c.D = 0) : c.len = q.p.toNat * (c.root.len - 1) + 1 := by
  have := len_pow (root_ne h hc) q.p.toNat
  rwa [root_pow h] at this

/-- The program's inner loop at n: what is left of f, and of what it has in common with its derivative. -/
structure SqIn (f : Poly (Zp q)) (n : Nat) (w c : Poly (Zp q)) : Prop where
  wm : w.Mon
  cm : c.Mon
  w : ∀ g, g.Irr → val g w = if ¬ q.p.toNat ∣ val g f ∧ n ≤ val g f then 1 else 0
  c : ∀ g, g.Irr → val g c = if q.p.toNat ∣ val g f then val g f else val g f - n
theorem SqIn.start {f c : Poly (Zp q)} (hf : f.Mon) (hc : c = gcdP f f.D) : SqIn f 1 (quo f c) c := by
  have hg : IsGcd f f.D c := by rw [hc]; exact gcd_is _ _
  have hcm := hg.mon_of (.inl hf.ne)
  refine ⟨quo_mon hf hcm hg.l, hcm, fun g hi => ?_, fun g hi => ?_⟩
  · rw [val_quo hi hf.ne hcm.ne hg.l, hi.val_gcd_D hf.ne hg]
    by_cases h : q.p.toNat ∣ val g f
    · rw [if_pos h, if_neg fun h' => h'.1 h]; omega
    · have : val g f ≠ 0 := fun e => h (by rw [e]; exact ⟨0, by omega⟩)
      rw [if_neg h, if_pos ⟨h, by omega⟩]; omega
  · rw [hi.val_gcd_D hf.ne hg]
theorem SqIn.step {f w c y : Poly (Zp q)} {n : Nat} (h : SqIn f n w c) (hy : y = gcdP w c) :
    SqIn f (n + 1) y (quo c y) ∧ (quo w y).Mon ∧ ∀ g, g.Irr → val g (quo w y) = if ¬ q.p.toNat ∣ val g f ∧ val g f = n then 1 else 0 := by
  have hg : IsGcd w c y := by rw [hy]; exact gcd_is _ _
  have hym := hg.mon_of (.inl h.wm.ne)
  have hv : ∀ g, g.Irr → val g y = if ¬ q.p.toNat ∣ val g f ∧ n + 1 ≤ val g f then 1 else 0 := fun g hi => by
    rw [hg.val h.wm.ne h.cm.ne hi, h.w g hi, h.c g hi]
    by_cases h1 : q.p.toNat ∣ val g f
    · simp only [h1, not_true, false_and, if_false, if_true]; omega
    · simp only [h1, not_false_iff, true_and, if_false]
      by_cases h2 : n + 1 ≤ val g f
      · rw [if_pos (by omega), if_pos h2]; omega
      · rw [if_neg h2]; omega
  refine ⟨⟨hym, quo_mon h.cm hym hg.r, hv, fun g hi => ?_⟩, quo_mon h.wm hym hg.l, fun g hi => ?_⟩
  · rw [val_quo hi h.cm.ne hym.ne hg.r, h.c g hi, hv g hi]
    by_cases h1 : q.p.toNat ∣ val g f
    · rw [if_pos h1, if_pos h1, if_neg fun h' => h'.1 h1]; omega
    · rw [if_neg h1, if_neg h1]
      by_cases h2 : n + 1 ≤ val g f
      · rw [if_pos ⟨h1, h2⟩]; omega
      · rw [if_neg fun h' => h2 h'.2]; omega
  · rw [val_quo hi h.wm.ne hym.ne hg.l, h.w g hi, hv g hi]
    by_cases h1 : q.p.toNat ∣ val g f
    · rw [if_neg fun h' => h'.1 h1, if_neg fun h' => h'.1 h1, if_neg fun h' => h'.1 h1]
    · by_cases h2 : n + 1 ≤ val g f
      · rw [if_pos ⟨h1, by omega⟩, if_pos ⟨h1, h2⟩, if_neg (by omega)]
      · by_cases h3 : n ≤ val g f
        · rw [if_pos ⟨h1, h3⟩, if_neg fun h' => h2 h'.2, if_pos ⟨h1, by omega⟩]
        · rw [if_neg fun h' => h3 h'.2, if_neg fun h' => h2 h'.2, if_neg (by omega)]
/-- The program's outer loop: f is what is left, each factor's number divided by s, a power of p. -/
structure SqOut (a : Poly (Zp q)) (s : Nat) (f : Poly (Zp q)) : Prop where
  fm : f.Mon
  sp : 0 < s
  val : ∀ g, g.Irr → Poly.val g f = if s ∣ Poly.val g a then Poly.val g a / s else 0
theorem SqOut.start {a : Poly (Zp q)} (ha : a ≠ 0) : SqOut a 1 a.monic :=
  ⟨monic_mon ha, by omega, fun g hi => by rw [hi.val_monic ha, if_pos ⟨_, (Nat.one_mul _).symm⟩, Nat.div_one]⟩
theorem SqOut.eq_iff {a f g : Poly (Zp q)} {s n : Nat} (h : SqOut a s f) (hi : g.Irr) (hn : 1 ≤ n) : Poly.val g f = n ↔ Poly.val g a = n * s := by
  rw [h.val g hi]
  constructor
  · intro e
    split at e
    · next hd => rw [← e, Nat.div_mul_cancel hd]
    · omega
  · intro e
    rw [e, if_pos (Nat.dvd_mul_left _ _), Nat.mul_div_cancel _ h.sp]
/-- What a round finds is a level. -/
theorem SqOut.own {a f w c : Poly (Zp q)} {s n : Nat} (h : SqOut a s f) (ha : a ≠ 0) (hn : 1 ≤ n) (hp : ¬ q.p.toNat ∣ n) (hi : SqIn f n w c) : quo w (gcdP w c) = lvl a (n * s) := by
  obtain ⟨_, h2, h3⟩ := hi.step rfl
  refine h2.eq_lvl ha (Nat.mul_pos (by omega) h.sp) fun g hg => ?_
  rw [h3 g hg]
  by_cases e : Poly.val g f = n
  · rw [if_pos ((h.eq_iff hg hn).1 e), if_pos ⟨by rw [e]; exact hp, e⟩]
  · rw [if_neg fun h' => e ((h.eq_iff hg hn).2 h'), if_neg fun h' => e h'.2]
theorem SqIn.own_one {f w c : Poly (Zp q)} {n : Nat} (hi : SqIn f n w c) (hp : q.p.toNat ∣ n) : quo w (gcdP w c) = 1 := by
  obtain ⟨_, h2, h3⟩ := hi.step rfl
  exact h2.eq_one_of_val fun g hg => by rw [h3 g hg, if_neg fun h' => h'.1 (by rw [h'.2]; exact hp)]
/-- Nothing is left of w: all levels that p does not divide were met. -/
theorem SqIn.w_one {f c : Poly (Zp q)} {n : Nat} (hi : SqIn f n 1 c) {g : Poly (Zp q)} (hg : g.Irr) (hp : ¬ q.p.toNat ∣ val g f) : val g f < n := by
  have := hi.w g hg
  rw [val_one hg] at this
  refine Nat.lt_of_not_le fun hle => ?_
  rw [if_pos ⟨hp, hle⟩] at this
  omega
theorem SqIn.c_D {f c : Poly (Zp q)} {n : Nat} (hi : SqIn f n 1 c) : c.D = 0 ∧ ∀ g, g.Irr → val g c = if q.p.toNat ∣ val g f then val g f else 0 := by
  have hv : ∀ g, g.Irr → val g c = if q.p.toNat ∣ val g f then val g f else 0 := fun g hg => by
    rw [hi.c g hg]
    by_cases h : q.p.toNat ∣ val g f
    · rw [if_pos h, if_pos h]
    · rw [if_neg h, if_neg h]; have := hi.w_one hg h; omega
  refine ⟨hi.cm.D_zero fun g hg => ?_, hv⟩
  rw [hv g hg]
  split
  · next h => exact h
  · exact ⟨0, by omega⟩
theorem SqOut.next {a f c : Poly (Zp q)} {s n : Nat} (h : SqOut a s f) (hi : SqIn f n 1 c) : SqOut a (s * q.p.toNat) c.root := by
  obtain ⟨hD, hv⟩ := hi.c_D
  have hp := pnat_pos q
  refine ⟨hi.cm.root_mon hD, Nat.mul_pos h.sp hp, fun g hg => ?_⟩
  have h1 := val_root hi.cm.ne hD hg
  rw [hv g hg, h.val g hg] at h1
  have h2 : Poly.val g c.root = (if q.p.toNat ∣ (if s ∣ Poly.val g a then Poly.val g a / s else 0) then (if s ∣ Poly.val g a then Poly.val g a / s else 0) else 0) / q.p.toNat := by
    rw [← h1, Nat.mul_div_cancel_left _ hp]
  rw [h2]
  by_cases hd : s ∣ Poly.val g a
  · simp only [if_pos hd]
    obtain ⟨k, hk⟩ := hd
    rw [hk, Nat.mul_div_cancel_left _ h.sp]
    by_cases hd2 : q.p.toNat ∣ k
    · obtain ⟨m, rfl⟩ := hd2
      rw [if_pos ⟨m, rfl⟩, if_pos ⟨m, by rw [Nat.mul_assoc]⟩, Nat.mul_div_cancel_left _ hp, ← Nat.mul_assoc, Nat.mul_div_cancel_left _ (Nat.mul_pos h.sp hp)]
    · rw [if_neg hd2, if_neg fun ⟨m, hm⟩ => hd2 ⟨m, Nat.eq_of_mul_eq_mul_left h.sp (by rw [hm, Nat.mul_assoc])⟩, Nat.zero_div]
  · simp only [if_neg hd]
    rw [if_pos ⟨0, by omega⟩, Nat.zero_div, if_neg fun h' => hd (Nat.dvd_trans (Nat.dvd_mul_right _ _) h')]
theorem SqIn.root_lt {f c : Poly (Zp q)} {n : Nat} (hf : f.Mon) (hi : SqIn f n 1 c) (hc : 1 < c.len) : c.root.len < f.len := by
  obtain ⟨hD, hv⟩ := hi.c_D
  have h1 := root_len hi.cm.ne hD
  have h2 : c ∣ f := dvd_of_val hi.cm.ne hf.ne fun g hg => by rw [hv g hg]; split <;> omega
  have h3 := len_le_of_dvd h2 hf.ne
  have h4 : 2 ≤ q.p.toNat := by have := q.pr.two; omega
  have : 2 * (c.root.len - 1) ≤ q.p.toNat * (c.root.len - 1) := Nat.mul_le_mul_right _ h4
  omega
/-- The last round: each level's number is no multiple of s p. -/
theorem SqOut.last {a f : Poly (Zp q)} {s n : Nat} (h : SqOut a s f) (hi : SqIn f n 1 1) {g : Poly (Zp q)} (hg : g.Irr) (hd : s * q.p.toNat ∣ Poly.val g a) : Poly.val g a = 0 := by
  obtain ⟨_, hv⟩ := hi.c_D
  have h1 := hv g hg
  rw [val_one hg, h.val g hg, if_pos (Nat.dvd_trans (Nat.dvd_mul_right _ _) hd)] at h1
  obtain ⟨k, hk⟩ := hd
  have e : Poly.val g a / s = q.p.toNat * k := by rw [hk, Nat.mul_assoc, Nat.mul_div_cancel_left _ h.sp]
  rw [e, if_pos ⟨k, rfl⟩] at h1
  rw [hk, Nat.mul_assoc, ← h1]; rfl
end Poly
end Cl

namespace Cl
open CRing
section
variable {F : Type} [CField F]
def sk (j0 j : Nat) : Nat := if j < j0 then j else j + 1
theorem sum_skip {R : Type} [CRing R] (M : Nat) (g : Nat → R) {j0 : Nat} (h : j0 ≤ M) : sum (M + 1) g = g j0 + sum M (fun j => g (sk j0 j)) := by
  induction M with
  | zero => obtain rfl : j0 = 0 := by omega
            rw [sum_succ, sum_zero, sum_zero, zero_add, add_zero]
  | succ M ih =>
    by_cases e : j0 = M + 1
    · subst e
      rw [sum_succ, add_comm]
      congr 1
      exact sum_congr fun i hi => by unfold sk; rw [if_pos hi]
    · rw [sum_succ, ih (by omega), sum_succ M, add_assoc]
      congr 2
      unfold sk; rw [if_neg (by omega)]
/-- More unknowns than equations: a solution that is not nought. -/
theorem solve (k : Nat) : ∀ (m : Nat) (A : Nat → Nat → F), k < m → ∃ x : Nat → F, (∃ j, j < m ∧ x j ≠ 0) ∧ ∀ i, i < k → sum m (fun j => A i j * x j) = 0 := by
  induction k with
  | zero => exact fun m A h => ⟨fun _ => 1, ⟨0, h, CField.one_ne⟩, fun i hi => absurd hi (by omega)⟩
  | succ k ih =>
    intro m A h
    by_cases hz : ∃ j0, j0 < m ∧ A k j0 ≠ 0
    · obtain ⟨j0, hj, hne⟩ := hz
      obtain ⟨M, rfl⟩ : ∃ M, m = M + 1 := ⟨m - 1, by omega⟩
      obtain ⟨y, ⟨j, hjM, hy⟩, hs⟩ := ih M (fun i j => A i (sk j0 j) - A i j0 * (CField.inv (A k j0) * A k (sk j0 j))) (by omega)
      let S := sum M (fun j => A k (sk j0 j) * y j)
      let x : Nat → F := fun i => if i = j0 then -(CField.inv (A k j0) * S) else if i < j0 then y i else y (i - 1)
      have hxs : ∀ j, x (sk j0 j) = y j := fun j => by
        show (if sk j0 j = j0 then _ else if sk j0 j < j0 then y (sk j0 j) else y (sk j0 j - 1)) = y j
        unfold sk
        by_cases hl : j < j0
        · rw [if_pos hl, if_neg (by omega), if_pos hl]
        · rw [if_neg hl, if_neg (by omega), if_neg (by omega), Nat.add_sub_cancel]
      have hx0 : x j0 = -(CField.inv (A k j0) * S) := if_pos rfl
      have hsum : ∀ i, sum (M + 1) (fun j => A i j * x j) = A i j0 * x j0 + sum M (fun j => A i (sk j0 j) * y j) := fun i => by
        rw [sum_skip M _ (show j0 ≤ M by omega)]
        congr 1
        exact sum_congr fun j _ => by rw [hxs]
      refine ⟨x, ⟨sk j0 j, by unfold sk; split <;> omega, by rw [hxs]; exact hy⟩, fun i hi => ?_⟩
      rw [hsum, hx0]
      by_cases e : i = k
      · subst e
        rw [mul_neg, ← mul_assoc, CField.mul_inv _ hne, one_mul, neg_add]
      · have := hs i (by omega)
        have e2 : sum M (fun j => (A i (sk j0 j) - A i j0 * (CField.inv (A k j0) * A k (sk j0 j))) * y j) = sum M (fun j => A i (sk j0 j) * y j) + -(A i j0 * (CField.inv (A k j0) * S)) := by
          show _ = _ + -(A i j0 * (CField.inv (A k j0) * sum M (fun j => A k (sk j0 j) * y j)))
          rw [mul_sum, mul_sum, ← sum_neg, ← sum_add]
          refine sum_congr fun j _ => ?_
          rw [sub_mul, CRing.sub_def]
          congr 2
          ac_rfl
        rw [e2] at this
        rw [mul_neg, add_comm]
        exact this
    · obtain ⟨x, hx, hs⟩ := ih m A (by omega)
      refine ⟨x, hx, fun i hi => ?_⟩
      by_cases e : i = k
      · subst e
        refine sum_eq_zero fun j hj => ?_
        have : A i j = 0 := Classical.byContradiction fun hne => hz ⟨j, hj, hne⟩
        rw [this, zero_mul]
      · exact hs i (by omega)
end
/-- No more things than places, if no two lie in one. -/
theorem pigeon (n : Nat) : ∀ (m : Nat) (a : Nat → Nat), (∀ i, i < n → a i < m) → (∀ i j, i < n → j < n → a i = a j → i = j) → n ≤ m := by
  induction n with
  | zero => exact fun _ _ _ _ => by omega
  | succ n ih =>
    intro m a ha hi
    have h0 := ha n (by omega)
    have := ih (m - 1) (fun i => if a i < a n then a i else a i - 1) (fun i hin => by
      have h1 := ha i (by omega)
      have h2 : a i ≠ a n := fun e => by have := hi i n (by omega) (by omega) e; omega
      show (if a i < a n then a i else a i - 1) < m - 1
      split <;> omega) (fun i j hin hjn e => by
      have h1 : a i ≠ a n := fun e => by have := hi i n (by omega) (by omega) e; omega
      have h2 : a j ≠ a n := fun e => by have := hi j n (by omega) (by omega) e; omega
      apply hi i j (by omega) (by omega)
      have e' : (if a i < a n then a i else a i - 1) = (if a j < a n then a j else a j - 1) := e
      split at e' <;> split at e' <;> omega)
    omega

namespace Poly
variable {q : Prm}
/-- All irreducible factors of a squarefree polynomial. -/
structure Facs (m : Poly (Zp q)) (k : Nat) (fs : Nat → Poly (Zp q)) : Prop where
  mon : m.Mon
  irr : ∀ i, i < k → (fs i).Irr
  inj : ∀ i j, i < k → j < k → fs i = fs j → i = j
  dvd : ∀ i, i < k → fs i ∣ m
  all : ∀ g, g.Irr → g ∣ m → ∃ i, i < k ∧ g = fs i
  sq : ∀ g, g.Irr → val g m ≤ 1
theorem facs_exist {m : Poly (Zp q)} (hm : m.Mon) (hs : ∀ g : Poly (Zp q), g.Irr → val g m ≤ 1) : ∃ k fs, Facs m k fs := by
  induction hn : m.len using Nat.strongRecOn generalizing m with
  | ind n ih =>
    have hp := len_pos hm.ne
    by_cases h1 : m.len = 1
    · have := hm.one_of_len h1
      subst this
      exact ⟨0, fun _ => 1, hm, fun i hi => absurd hi (by omega), fun i j hi => absurd hi (by omega), fun i hi => absurd hi (by omega), fun g hg hd => absurd hd hg.not_dvd_one, hs⟩
    · obtain ⟨f, hf, b, hb⟩ := exists_irr (a := m) (by omega)
      have hbm : b.Mon := hf.mon.of_mul (hb ▸ hm)
      have hv : ∀ g, g.Irr → val g m = val g f + val g b := fun g hg => by rw [hb, hg.val_mul hf.ne hbm.ne]
      have hl := (len_mul hf.ne hbm.ne).1
      rw [← hb] at hl
      have := hf.len
      have := len_pos hbm.ne
      obtain ⟨k, fs, h⟩ := ih b.len (by omega) hbm (fun g hg => by have := hv g hg; have := hs g hg; omega) rfl
      have nf : ¬ f ∣ b := fun hd => by
        have h3 := (hf.dvd_val hbm.ne).1 hd
        have h4 := hv f hf
        have h5 := hs f hf
        classical
        rw [hf.val_irr hf, if_pos rfl] at h4
        omega
      refine ⟨k + 1, fun i => if i = k then f else fs i, hm, fun i hi => ?_, fun i j hi hj e => ?_, fun i hi => ?_, fun g hg hd => ?_, hs⟩
      · split
        · exact hf
        · exact h.irr i (by omega)
      · by_cases e1 : i = k <;> by_cases e2 : j = k
        · omega
        · simp only [if_pos e1, if_neg e2] at e; exact absurd (e ▸ h.dvd j (by omega)) nf
        · simp only [if_neg e1, if_pos e2] at e; exact absurd (e ▸ h.dvd i (by omega)) nf
        · simp only [if_neg e1, if_neg e2] at e; exact h.inj i j (by omega) (by omega) e
      · split
        · exact ⟨b, hb⟩
        · rw [hb]; exact Dvd.mul_l (h.dvd i (by omega)) f
      · rw [hb] at hd
        rcases hg.prime hd with h3 | h3
        · exact ⟨k, by omega, by rw [if_pos rfl]; exact hg.eq_of_dvd hf h3⟩
        · obtain ⟨i, hi, e⟩ := h.all g hg h3
          exact ⟨i, by omega, by rw [if_neg (by omega)]; exact e⟩
theorem Facs.dvd_of {m x : Poly (Zp q)} {k : Nat} {fs : Nat → Poly (Zp q)} (h : Facs m k fs) (hx : ∀ i, i < k → fs i ∣ x) : m ∣ x := by
  by_cases hx0 : x = 0
  · rw [hx0]; exact dvd_zero m
  · refine dvd_of_val h.mon.ne hx0 fun g hg => ?_
    have h1 := h.sq g hg
    by_cases h2 : 1 ≤ val g m
    · obtain ⟨i, hi, e⟩ := h.all g hg ((hg.dvd_val h.mon.ne).2 h2)
      have := (hg.dvd_val hx0).1 (e ▸ hx i hi)
      omega
    · omega
/-- 1 by one factor, nought by the others. -/
theorem Facs.idem {m : Poly (Zp q)} {k : Nat} {fs : Nat → Poly (Zp q)} (h : Facs m k fs) {i : Nat} (hi : i < k) :
    ∃ e : Poly (Zp q), e.len < m.len ∧ Eqm m (e ^ q.p.toNat) e ∧ Eqm (fs i) e 1 ∧ ∀ j, j < k → j ≠ i → Eqm (fs j) e 0 := by
  obtain ⟨g, hg⟩ := h.dvd i hi
  have hf := h.irr i hi
  have hgm : g.Mon := hf.mon.of_mul (hg ▸ h.mon)
  have nf : ¬ fs i ∣ g := fun hd => by
    have h3 := (hf.dvd_val hgm.ne).1 hd
    have h4 := h.sq _ hf
    classical
    rw [hg, hf.val_mul hf.ne hgm.ne, hf.val_irr hf, if_pos rfl] at h4
    omega
  obtain ⟨s, t, hst⟩ := (hf.gcd g nf).bezout
  have hm0 := h.mon.ne
  have e1 : Eqm m (rem (t * g) m) (t * g) := eqm_rem _ hm0
  have ei : Eqm (fs i) (rem (t * g) m) 1 := (e1.of_dvd (h.dvd i hi)).trans (Eqm.symm (by
    unfold Eqm
    have : (1 : Poly (Zp q)) - t * g = s * fs i := by rw [← hst, add_sub_cancel]
    rw [this]; exact dvd_mul_left _ _))
  have ej : ∀ j, j < k → j ≠ i → Eqm (fs j) (rem (t * g) m) 0 := fun j hj hne => by
    refine (e1.of_dvd (h.dvd j hj)).trans ?_
    rw [eqm_zero]
    have hd := h.dvd j hj
    rw [hg] at hd
    rcases (h.irr j hj).prime hd with h5 | h5
    · exact absurd (h.inj j i hj hi ((h.irr j hj).eq_of_dvd hf h5)) hne
    · exact Dvd.mul_l h5 t
  refine ⟨rem (t * g) m, rem_len _ hm0, h.dvd_of fun j hj => ?_, ei, ej⟩
  by_cases e : j = i
  · subst e
    exact (ei.pow _).trans (by rw [CRing.one_pow]; exact ei.symm)
  · have := ej j hj e
    exact (this.pow _).trans (by rw [CRing.zero_pow (pnat_pos q)]; exact this.symm)

/-- A basis of what is its own p-th power by m: each tells its own place. -/
structure Bas (m : Poly (Zp q)) (n d : Nat) (B : Nat → Poly (Zp q)) (col : Nat → Nat) : Prop where
  len : m.len = n + 1
  sh : ∀ c, c < d → (B c).Sh n
  fix : ∀ c, c < d → Eqm m (B c ^ q.p.toNat) (B c)
  unit : ∀ c c', c < d → c' < d → (B c).co (col c') = if c = c' then 1 else 0
  span : ∀ v : Poly (Zp q), v.Sh n → Eqm m (v ^ q.p.toNat) v → v = sum d (fun c => C (v.co (col c)) * B c)
  pos : 0 < d
  first : B 0 = 1
theorem Eqm.sum {m : Poly (Zp q)} {d : Nat} {f g : Nat → Poly (Zp q)} (h : ∀ c, c < d → Eqm m (f c) (g c)) : Eqm m (sum d f) (CRing.sum d g) := by
  induction d with
  | zero => exact Eqm.refl _ _
  | succ d ih => rw [sum_succ, sum_succ]; exact (ih fun c hc => h c (by omega)).add (h d (by omega))
theorem C_pow_p (c : Zp q) : (C c) ^ q.p.toNat = C c := by
  have : ∀ n, (C c) ^ n = C (c ^ n) := by
    intro n
    induction n with
    | zero => rw [CRing.pow_zero, CRing.pow_zero, C_one]
    | succ n ih => rw [CRing.pow_succ, ih, C_mul_C, CRing.pow_succ]
  rw [this, Zp.pow_p]
theorem fix_sum {m : Poly (Zp q)} {d : Nat} {x : Nat → Zp q} {B : Nat → Poly (Zp q)} (h : ∀ c, c < d → Eqm m (B c ^ q.p.toNat) (B c)) : Eqm m ((sum d (fun c => C (x c) * B c)) ^ q.p.toNat) (sum d (fun c => C (x c) * B c)) := by
  rw [(charP (q := q)).sum_pow (Zp.pr_nat q)]
  refine Eqm.sum fun c hc => ?_
  rw [CRing.mul_pow, C_pow_p]
  exact (Eqm.refl _ _).mul (h c hc)
theorem sh_sum {d n : Nat} {x : Nat → Zp q} {B : Nat → Poly (Zp q)} (h : ∀ c, c < d → (B c).Sh n) : (sum d (fun c => C (x c) * B c)).Sh n := by
  induction d with
  | zero => exact zero_sh n
  | succ d ih =>
    rw [sum_succ]
    exact (ih fun c hc => h c (by omega)).add fun i hi => by rw [co_C_mul, h d (by omega) i hi, CRing.mul_zero]
theorem co_sum_C {d : Nat} {x : Nat → Zp q} {B : Nat → Poly (Zp q)} (j : Nat) : (sum d (fun c => C (x c) * B c)).co j = sum d (fun c => x c * (B c).co j) := by
  rw [co_sum]
  exact sum_congr fun c _ => co_C_mul _ _ _
/-- The number that a fixed one is by a factor. -/
theorem Facs.consts {m : Poly (Zp q)} {k : Nat} {fs : Nat → Poly (Zp q)} (h : Facs m k fs) : ∃ s : Nat → Poly (Zp q) → Zp q, ∀ i, i < k → ∀ v, Eqm m (v ^ q.p.toNat) v → Eqm (fs i) v (C (s i v)) := by
  classical
  have : ∀ i v, ∃ c : Zp q, i < k → Eqm m (v ^ q.p.toNat) v → Eqm (fs i) v (C c) := fun i v => by
    by_cases hi : i < k
    · by_cases hv : Eqm m (v ^ q.p.toNat) v
      · obtain ⟨c, hc⟩ := (h.irr i hi).const (hv.of_dvd (h.dvd i hi))
        exact ⟨c, fun _ _ => hc⟩
      · exact ⟨0, fun _ h => absurd h hv⟩
    · exact ⟨0, fun h => absurd h hi⟩
  exact ⟨fun i v => Classical.choose (this i v), fun i hi v hv => Classical.choose_spec (this i v) hi hv⟩
theorem sum_C (d : Nat) (f : Nat → Zp q) : sum d (fun c => C (f c)) = C (CRing.sum d f) := (hom_C.sum d f).symm
/-- No fewer basis elements than factors. -/
theorem Facs.le {m : Poly (Zp q)} {k n d : Nat} {fs B : Nat → Poly (Zp q)} {col : Nat → Nat} (h : Facs m k fs) (hb : Bas m n d B col) : k ≤ d := by
  refine Nat.le_of_not_lt fun hlt => ?_
  classical
  have hex : ∀ i, ∃ e : Poly (Zp q), i < k → e.len < m.len ∧ Eqm m (e ^ q.p.toNat) e ∧ Eqm (fs i) e 1 ∧ ∀ j, j < k → j ≠ i → Eqm (fs j) e 0 := fun i => by
    by_cases hi : i < k
    · obtain ⟨e, he⟩ := h.idem hi; exact ⟨e, fun _ => he⟩
    · exact ⟨0, fun h => absurd h hi⟩
  let E := fun i => Classical.choose (hex i)
  have hE : ∀ i, i < k → (E i).len < m.len ∧ Eqm m (E i ^ q.p.toNat) (E i) ∧ Eqm (fs i) (E i) 1 ∧ ∀ j, j < k → j ≠ i → Eqm (fs j) (E i) 0 := fun i hi => Classical.choose_spec (hex i) hi
  obtain ⟨x, ⟨j, hj, hxj⟩, hs⟩ := solve d k (fun c i => (E i).co (col c)) hlt
  have hlen := hb.len
  have hv := hb.span (sum k (fun i => C (x i) * E i)) (sh_sum fun i hi => (len_sh (E i)).mono (by have := (hE i hi).1; omega)) (fix_sum fun i hi => (hE i hi).2.1)
  have hz : sum k (fun i => C (x i) * E i) = 0 := by
    rw [hv]
    refine sum_eq_zero fun c hc => ?_
    have : (sum k (fun i => C (x i) * E i)).co (col c) = 0 := by
      rw [co_sum_C, ← hs c hc]
      exact sum_congr fun i _ => mul_comm _ _
    rw [this, C_zero, zero_mul]
  have h1 : Eqm (fs j) (sum k (fun i => C (x i) * E i)) (sum k (fun i => if i = j then C (x j) else 0)) := Eqm.sum fun i hi => by
    by_cases e : i = j
    · subst e
      rw [if_pos rfl]
      have := (Eqm.refl (fs i) (C (x i))).mul (hE i hi).2.2.1
      rwa [CRing.mul_one] at this
    · rw [if_neg e]
      have := (Eqm.refl (fs j) (C (x i))).mul ((hE i hi).2.2.2 j hj (fun e' => e e'.symm))
      rwa [CRing.mul_zero] at this
  rw [hz, sum_single hj (fun i _ hne => if_neg hne), if_pos rfl, ← C_zero] at h1
  exact hxj ((h.irr j hj).eqm_C h1).symm
/-- No more basis elements than factors. -/
theorem Facs.ge {m : Poly (Zp q)} {k n d : Nat} {fs B : Nat → Poly (Zp q)} {col : Nat → Nat} (h : Facs m k fs) (hb : Bas m n d B col) : d ≤ k := by
  refine Nat.le_of_not_lt fun hlt => ?_
  obtain ⟨s, hs⟩ := h.consts
  obtain ⟨x, ⟨j, hj, hxj⟩, hx⟩ := solve k d (fun i c => s i (B c)) hlt
  have hd : m ∣ sum d (fun c => C (x c) * B c) := h.dvd_of fun i hi => by
    rw [← eqm_zero]
    have h1 : Eqm (fs i) (sum d (fun c => C (x c) * B c)) (sum d (fun c => C (s i (B c) * x c))) := Eqm.sum fun c hc => by
      rw [mul_comm (s i (B c)), ← C_mul_C]
      exact (Eqm.refl _ _).mul (hs i hi (B c) (hb.fix c hc))
    rw [sum_C, hx i hi, C_zero] at h1
    exact h1
  have hlen := hb.len
  have hz : sum d (fun c => C (x c) * B c) = 0 := by
    apply Classical.byContradiction
    intro hne
    have h1 := len_le_of_dvd hd hne
    have h2 := len_le (sh_sum (x := x) hb.sh)
    omega
  have := co_sum_C (x := x) (B := B) (d := d) (col j)
  rw [hz, sum_single hj (fun c hc hne => by rw [hb.unit c j hc hj, if_neg hne, CRing.mul_zero]), hb.unit j j hj hj, if_pos rfl, CRing.mul_one] at this
  exact hxj this.symm
/-- Two factors are told apart by a basis element. -/
theorem Facs.apart {m : Poly (Zp q)} {k n d : Nat} {fs B : Nat → Poly (Zp q)} {col : Nat → Nat} (h : Facs m k fs) (hb : Bas m n d B col) {i j : Nat} (hi : i < k) (hj : j < k) (hne : i ≠ j) :
    ∃ c u w, 0 < c ∧ c < d ∧ u ≠ w ∧ Eqm (fs i) (B c) (C u) ∧ Eqm (fs j) (B c) (C w) := by
  obtain ⟨s, hs⟩ := h.consts
  apply Classical.byContradiction
  intro hno
  have hall : ∀ c, c < d → s i (B c) = s j (B c) := fun c hc => by
    apply Classical.byContradiction
    intro hne2
    by_cases h0 : c = 0
    · subst h0
      have h1 := hs i hi (B 0) (hb.fix 0 hc)
      have h2 := hs j hj (B 0) (hb.fix 0 hc)
      rw [hb.first, ← C_one] at h1 h2
      exact hne2 (((h.irr i hi).eqm_C h1).symm.trans ((h.irr j hj).eqm_C h2) |> fun e => by rw [hb.first, ← C_one]; exact e)
    · exact hno ⟨c, _, _, by omega, hc, hne2, hs i hi _ (hb.fix c hc), hs j hj _ (hb.fix c hc)⟩
  obtain ⟨e, he1, he2, he3, he4⟩ := h.idem hi
  have hlen := hb.len
  have hsp := hb.span e ((len_sh e).mono (by omega)) he2
  have key : ∀ t, t < k → Eqm (fs t) e (C (sum d (fun c => e.co (col c) * s t (B c)))) := fun t ht => by
    have h1 : Eqm (fs t) (sum d (fun c => C (e.co (col c)) * B c)) (sum d (fun c => C (e.co (col c) * s t (B c)))) := Eqm.sum fun c hc => by
      rw [← C_mul_C]
      exact (Eqm.refl _ _).mul (hs t ht (B c) (hb.fix c hc))
    rw [sum_C, ← hsp] at h1
    exact h1
  have k1 := key i hi
  have k2 := key j hj
  rw [sum_congr (g := fun c => e.co (col c) * s j (B c)) (fun c hc => by rw [hall c hc])] at k1
  have k3 := he3.symm.trans k1
  have k4 := (he4 j hj (fun e => hne e.symm)).symm.trans k2
  rw [← C_one] at k3
  rw [← C_zero] at k4
  have := ((h.irr i hi).eqm_C k3).trans ((h.irr j hj).eqm_C k4).symm
  exact CField.one_ne this

/-- Half the power. -/
def half (q : Prm) : Nat := ((q.p - 1) / 2).toNat
/-- What may part: as it is for 2, else to half the power less 1. -/
noncomputable def trialP (v : Poly (Zp q)) (c : Zp q) : Poly (Zp q) := if q.p = 2 then v + C c else (v + C c) ^ half q - 1
/-- The like of a number. -/
def Chi (x : Zp q) : Prop := if q.p = 2 then x = 0 else x ^ half q = 1
theorem C_pow (c : Zp q) (n : Nat) : (C c) ^ n = C (c ^ n) := by
  induction n with
  | zero => rw [CRing.pow_zero, CRing.pow_zero, C_one]
  | succ n ih => rw [CRing.pow_succ, ih, C_mul_C, CRing.pow_succ]
theorem dvd_C_iff {f : Poly (Zp q)} (hf : f.Irr) {y : Zp q} : f ∣ C y ↔ y = 0 := by
  constructor
  · intro h; exact Classical.byContradiction fun hne => hf.not_dvd_C hne h
  · rintro rfl; rw [C_zero]; exact dvd_zero f
theorem dvd_trial {f v : Poly (Zp q)} (hf : f.Irr) {u : Zp q} (hv : Eqm f v (C u)) (c : Zp q) : f ∣ trialP v c ↔ Chi (u + c) := by
  unfold trialP Chi
  have h1 : Eqm f (v + C c) (C (u + c)) := by rw [C_add]; exact hv.add (Eqm.refl _ _)
  split
  · rw [← dvd_C_iff hf]
    constructor
    · intro h; rw [← eqm_zero] at h ⊢; exact h1.symm.trans h
    · intro h; rw [← eqm_zero] at h ⊢; exact h1.trans h
  · have h2 : Eqm f ((v + C c) ^ half q - 1) (C ((u + c) ^ half q - 1)) := by
      have := (h1.pow (half q)).sub (Eqm.refl f 1)
      rw [C_pow] at this
      have e : C ((u + c) ^ half q - 1) = C ((u + c) ^ half q) - 1 := by rw [CRing.sub_def, C_add, C_neg, C_one, CRing.sub_def]
      rw [e]; exact this
    rw [← CRing.sub_eq_zero, ← dvd_C_iff hf]
    constructor
    · intro h; rw [← eqm_zero] at h ⊢; exact h2.symm.trans h
    · intro h; rw [← eqm_zero] at h ⊢; exact h2.trans h
theorem half_pos (h : q.p ≠ 2) : 0 < half q := by
  unfold half; have := q.pr.two; omega
/-- Two numbers are told apart by one that is added to both. -/
theorem chi_apart {u w : Zp q} (hne : u ≠ w) : ∃ c : Zp q, ¬ (Chi (u + c) ↔ Chi (w + c)) := by
  apply Classical.byContradiction
  intro hno
  have hall : ∀ c : Zp q, Chi (u + c) ↔ Chi (w + c) := fun c => Classical.byContradiction fun h => hno ⟨c, h⟩
  by_cases h2 : q.p = 2
  · have h := hall (-u)
    unfold Chi at h
    rw [if_pos h2, if_pos h2, add_neg] at h
    have := h.1 rfl
    rw [← CRing.sub_def] at this
    exact hne (CRing.sub_eq_zero.1 this).symm
  · have hd : w - u ≠ 0 := fun e => hne (CRing.sub_eq_zero.1 e).symm
    have step : ∀ x : Zp q, Chi x ↔ Chi (x + (w - u)) := fun x => by
      have := hall (x - u)
      have e1 : u + (x - u) = x := by rw [add_comm, CRing.sub_add_cancel]
      have e2 : w + (x - u) = x + (w - u) := by rw [CRing.sub_def, CRing.sub_def]; ac_rfl
      rwa [e1, e2] at this
    have many : ∀ n : Nat, Chi (0 : Zp q) ↔ Chi (Zp.of q n * (w - u)) := by
      intro n
      induction n with
      | zero => have : Zp.of q ((0 : Nat) : Int) = 0 := rfl
                rw [this, zero_mul]
      | succ n ih =>
        rw [ih, step]
        have : Zp.of q ((n + 1 : Nat) : Int) = Zp.of q n + 1 := by rw [← Zp.of_one, ← Zp.of_add]; rfl
        rw [this, CRing.add_mul, CRing.one_mul]
    have h0 : ¬ Chi (0 : Zp q) := fun h => by
      unfold Chi at h
      rw [if_neg h2, CRing.zero_pow (half_pos h2)] at h
      exact CField.one_ne h.symm
    have h1 : Chi (1 : Zp q) := by unfold Chi; rw [if_neg h2, CRing.one_pow]
    have h3 := many (CField.inv (w - u)).val.toNat
    rw [Int.toNat_of_nonneg (CField.inv (w - u)).lo, Zp.of_val, CField.inv_mul hd] at h3
    exact h0 (h3.2 h1)

/-- Do all factors of x think the same of w? -/
def Uni (w x : Poly (Zp q)) : Prop := ∀ f g : Poly (Zp q), f.Irr → g.Irr → f ∣ x → g ∣ x → (f ∣ w ↔ g ∣ w)
theorem Uni.of_dvd {w x y : Poly (Zp q)} (h : Uni w x) (hd : y ∣ x) : Uni w y := fun f g hf hg h1 h2 => h f g hf hg (dvd_trans h1 hd) (dvd_trans h2 hd)
/-- What all trials leave whole can't be parted. -/
theorem Facs.whole {m : Poly (Zp q)} {k n d : Nat} {fs B : Nat → Poly (Zp q)} {col : Nat → Nat} (h : Facs m k fs) (hb : Bas m n d B col) {x : Poly (Zp q)} (hx : x.Mon) (hl : 1 < x.len) (hd : x ∣ m)
    (hu : ∀ c, 0 < c → c < d → ∀ r : Nat, (r : Int) < q.p → Uni (trialP (B c) (Zp.of q r)) x) : x.Irr := by
  obtain ⟨f, hf, hfx⟩ := exists_irr hl
  have hone : ∀ g : Poly (Zp q), g.Irr → g ∣ x → g = f := fun g hg hgx => by
    obtain ⟨i, hi, rfl⟩ := h.all f hf (dvd_trans hfx hd)
    obtain ⟨j, hj, rfl⟩ := h.all g hg (dvd_trans hgx hd)
    apply Classical.byContradiction
    intro hne
    obtain ⟨c, u, w, hc0, hcd, huw, h1, h2⟩ := h.apart hb hi hj (fun e => hne (by rw [e]))
    obtain ⟨r, hr⟩ := chi_apart huw
    have := hu c hc0 hcd r.val.toNat (by have := r.lo; have := r.hi; omega) (fs i) (fs j) hf hg hfx hgx
    rw [Int.toNat_of_nonneg r.lo, Zp.of_val, dvd_trial hf h1, dvd_trial hg h2] at this
    exact hr this
  have : x = f := hx.eq_of_val hf.mon fun g hg => by
    classical
    rw [hg.val_irr hf]
    have h1 := h.sq g hg
    have h2 := val_le_of_dvd hg h.mon.ne hd
    by_cases e : g = f
    · subst e
      rw [if_pos rfl]
      have := (hg.dvd_val hx.ne).1 hfx
      omega
    · rw [if_neg e]
      have : ¬ 1 ≤ val g x := fun hv => e (hone g hg ((hg.dvd_val hx.ne).2 hv))
      omega
  rw [this]; exact hf
end Poly
end Cl

namespace Cl
open CRing Poly

/-- How two lists of one length stand, by their first k places: the last place in which they part decides. -/
def cmpTo (xs ys : List Int) : Nat → Int
  | 0 => 0
  | k + 1 => if nth xs k < nth ys k then -1 else if nth ys k < nth xs k then 1 else cmpTo xs ys k
theorem cmpTo_lt {xs ys : List Int} {k : Nat} (h : nth xs k < nth ys k) : cmpTo xs ys (k + 1) = -1 := by
  show (if _ then _ else _) = _
  rw [if_pos h]
theorem cmpTo_gt {xs ys : List Int} {k : Nat} (h : nth ys k < nth xs k) : cmpTo xs ys (k + 1) = 1 := by
  show (if _ then _ else if _ then _ else _) = _
  rw [if_neg (by omega), if_pos h]
theorem cmpTo_eq {xs ys : List Int} {k : Nat} (h : nth xs k = nth ys k) : cmpTo xs ys (k + 1) = cmpTo xs ys k := by
  show (if _ then _ else if _ then _ else _) = _
  rw [if_neg (by omega), if_neg (by omega)]
theorem cmpTo_bd (xs ys : List Int) : ∀ k, -1 ≤ cmpTo xs ys k ∧ cmpTo xs ys k ≤ 1
  | 0 => by show -1 ≤ (0 : Int) ∧ (0 : Int) ≤ 1; omega
  | k + 1 => by
    have := cmpTo_bd xs ys k
    rcases Int.lt_trichotomy (nth xs k) (nth ys k) with h | h | h
    · rw [cmpTo_lt h]; omega
    · rw [cmpTo_eq h]; exact this
    · rw [cmpTo_gt h]; omega
theorem cmpTo_swap (xs ys : List Int) : ∀ k, cmpTo ys xs k = -cmpTo xs ys k
  | 0 => rfl
  | k + 1 => by
    rcases Int.lt_trichotomy (nth xs k) (nth ys k) with h | h | h
    · rw [cmpTo_lt h, cmpTo_gt h]; rfl
    · rw [cmpTo_eq h, cmpTo_eq h.symm, cmpTo_swap xs ys k]
    · rw [cmpTo_gt h, cmpTo_lt h]
theorem cmpTo_zero {xs ys : List Int} : ∀ {k : Nat}, cmpTo xs ys k = 0 → ∀ j, j < k → nth xs j = nth ys j
  | k + 1, h, j, hj => by
    rcases Int.lt_trichotomy (nth xs k) (nth ys k) with h1 | h1 | h1
    · rw [cmpTo_lt h1] at h; omega
    · rw [cmpTo_eq h1] at h
      by_cases e : j = k
      · rw [e]; exact h1
      · exact cmpTo_zero h j (by omega)
    · rw [cmpTo_gt h1] at h; omega
theorem cmpTo_self (xs : List Int) : ∀ k, cmpTo xs xs k = 0
  | 0 => rfl
  | k + 1 => by rw [cmpTo_eq rfl, cmpTo_self xs k]
theorem cmpTo_trans {xs ys zs : List Int} : ∀ {k : Nat}, cmpTo xs ys k < 0 → cmpTo ys zs k < 0 → cmpTo xs zs k < 0
  | 0, h, _ => h
  | k + 1, h1, h2 => by
    rcases Int.lt_trichotomy (nth xs k) (nth ys k) with a | a | a
    · rcases Int.lt_trichotomy (nth ys k) (nth zs k) with b | b | b
      · rw [cmpTo_lt (by omega)]; decide
      · rw [cmpTo_lt (by omega)]; decide
      · rw [cmpTo_gt b] at h2; omega
    · rcases Int.lt_trichotomy (nth ys k) (nth zs k) with b | b | b
      · rw [cmpTo_lt (by omega)]; decide
      · rw [cmpTo_eq a] at h1
        rw [cmpTo_eq b] at h2
        rw [cmpTo_eq (a.trans b)]
        exact cmpTo_trans h1 h2
      · rw [cmpTo_gt b] at h2; omega
    · rw [cmpTo_gt a] at h1; omega
/-- How two lists stand: the shorter one ahead. -/
def cmpI (xs ys : List Int) : Int := if xs.length = ys.length then cmpTo xs ys xs.length else (xs.length : Int) - (ys.length : Int)
theorem cmpI_len {xs ys : List Int} (h : xs.length ≠ ys.length) : cmpI xs ys = (xs.length : Int) - (ys.length : Int) := if_neg h
theorem cmpI_to {xs ys : List Int} (h : xs.length = ys.length) : cmpI xs ys = cmpTo xs ys xs.length := if_pos h
theorem cmpI_swap (xs ys : List Int) : cmpI ys xs = -cmpI xs ys := by
  by_cases h : xs.length = ys.length
  · rw [cmpI_to h, cmpI_to h.symm, h, cmpTo_swap]
  · rw [cmpI_len h, cmpI_len (fun e => h e.symm)]; omega
theorem cmpI_self (xs : List Int) : cmpI xs xs = 0 := by rw [cmpI_to rfl, cmpTo_self]
theorem cmpI_zero {xs ys : List Int} (h : cmpI xs ys = 0) : xs = ys := by
  by_cases hl : xs.length = ys.length
  · rw [cmpI_to hl] at h
    exact list_ext hl (cmpTo_zero h)
  · rw [cmpI_len hl] at h; omega
theorem cmpI_trans {xs ys zs : List Int} (h1 : cmpI xs ys < 0) (h2 : cmpI ys zs < 0) : cmpI xs zs < 0 := by
  by_cases a : xs.length = ys.length
  · by_cases b : ys.length = zs.length
    · rw [cmpI_to a] at h1
      rw [cmpI_to b, ← a] at h2
      rw [cmpI_to (a.trans b)]
      exact cmpTo_trans h1 h2
    · rw [cmpI_len b] at h2
      rw [cmpI_len (by omega)]; omega
  · rw [cmpI_len a] at h1
    by_cases b : ys.length = zs.length
    · rw [cmpI_len (by omega)]; omega
    · rw [cmpI_len b] at h2
      rw [cmpI_len (by omega)]; omega
theorem cmpI_ntrans {xs ys zs : List Int} (h1 : ¬ cmpI xs ys < 0) (h2 : ¬ cmpI ys zs < 0) : ¬ cmpI xs zs < 0 := fun h => by
  have e1 := cmpI_swap xs ys
  have e2 := cmpI_swap ys zs
  by_cases a : cmpI xs ys = 0
  · rw [cmpI_zero a] at h; exact h2 h
  · by_cases b : cmpI ys zs = 0
    · rw [cmpI_zero b] at h1; exact h1 h
    · have h3 : cmpI zs xs < 0 := cmpI_trans (ys := ys) (by omega) (by omega)
      have e3 := cmpI_swap zs xs
      omega
theorem cmpI_bd {xs ys : List Int} {n m : Nat} (hx : xs.length = n) (hy : ys.length = m) : -(m : Int) - 1 ≤ cmpI xs ys ∧ cmpI xs ys ≤ (n : Int) + 1 := by
  by_cases a : xs.length = ys.length
  · rw [cmpI_to a]
    have := cmpTo_bd xs ys xs.length
    omega
  · rw [cmpI_len a]; omega
/-- Does a list stand ahead? -/
def lessI (xs ys : List Int) : Bool := decide (cmpI xs ys < 0)
theorem lessI_iff {xs ys : List Int} : lessI xs ys = true ↔ cmpI xs ys < 0 := decide_eq_true_iff
theorem lessI_asymm (xs ys : List Int) : (lessI xs ys && lessI ys xs) = false := by
  unfold lessI
  rw [cmpI_swap xs ys]
  by_cases h : cmpI xs ys < 0
  · rw [decide_eq_false (p := -cmpI xs ys < 0) (by omega), Bool.and_false]
  · rw [decide_eq_false h, Bool.false_and]

/-- Two lists in strict order of the same members are one. -/
theorem sorted_ext {α : Type} {R : α → α → Prop} (hi : ∀ x, ¬ R x x) (ht : ∀ x y z, R x y → R y z → R x z) : ∀ {l m : List α}, l.Pairwise R → m.Pairwise R → (∀ x, x ∈ l ↔ x ∈ m) → l = m
  | [], [], _, _, _ => rfl
  | [], y :: m, _, _, h => absurd ((h y).2 List.mem_cons_self) (by simp)
  | x :: l, [], _, _, h => absurd ((h x).1 List.mem_cons_self) (by simp)
  | x :: l, y :: m, hl, hm, h => by
    rw [List.pairwise_cons] at hl hm
    have e : x = y := by
      rcases List.mem_cons.1 ((h x).1 List.mem_cons_self) with e | hx
      · exact e
      · rcases List.mem_cons.1 ((h y).2 List.mem_cons_self) with e | hy
        · exact e.symm
        · exact absurd (ht _ _ _ (hl.1 y hy) (hm.1 x hx)) (hi x)
    subst e
    rw [sorted_ext hi ht hl.2 hm.2 fun z => ?_]
    constructor
    · intro hz
      rcases List.mem_cons.1 ((h z).1 (List.mem_cons_of_mem _ hz)) with e | h1
      · subst e; exact absurd (hl.1 _ hz) (hi _)
      · exact h1
    · intro hz
      rcases List.mem_cons.1 ((h z).2 (List.mem_cons_of_mem _ hz)) with e | h1
      · subst e; exact absurd (hm.1 _ hz) (hi _)
      · exact h1
namespace Poly
variable {q : Prm}
/-- Does a polynomial stand ahead of another one? -/
def Bef (a b : Poly (Zp q)) : Prop := cmpI (fromP a) (fromP b) < 0
theorem Bef.irrefl (a : Poly (Zp q)) : ¬ Bef a a := fun h => by unfold Bef at h; rw [cmpI_self] at h; omega
theorem Bef.trans {a b c : Poly (Zp q)} (h : Bef a b) (k : Bef b c) : Bef a c := cmpI_trans h k
theorem Bef.tri (a b : Poly (Zp q)) : Bef a b ∨ a = b ∨ Bef b a := by
  have e := cmpI_swap (fromP a) (fromP b)
  unfold Bef
  by_cases h : cmpI (fromP a) (fromP b) = 0
  · exact .inr (.inl (fromP_inj (cmpI_zero h)))
  · omega
theorem Bef.of_len {a b : Poly (Zp q)} (h : a.len < b.len) : Bef a b := by
  unfold Bef
  rw [cmpI_len (by rw [fromP_length, fromP_length]; omega), fromP_length, fromP_length]; omega
/-- All factors of a, and how often, in order. -/
structure IsFac (a : Poly (Zp q)) (L : List (Poly (Zp q) × Nat)) : Prop where
  ord : L.Pairwise (fun x y => Bef x.1 y.1)
  mem : ∀ f n, (f, n) ∈ L ↔ f.Irr ∧ 1 ≤ n ∧ val f a = n
theorem IsFac.unique {a : Poly (Zp q)} {L M : List (Poly (Zp q) × Nat)} (h : IsFac a L) (k : IsFac a M) : L = M :=
  sorted_ext (R := fun (x y : Poly (Zp q) × Nat) => Bef x.1 y.1) (fun x => Bef.irrefl x.1) (fun _ _ _ h k => Bef.trans h k) h.ord k.ord fun ⟨f, n⟩ => (h.mem f n).trans (k.mem f n).symm
/-- The same factors as often: the same list. -/
theorem IsFac.of_val {a b : Poly (Zp q)} {L : List (Poly (Zp q) × Nat)} (h : IsFac a L) (hv : ∀ f : Poly (Zp q), f.Irr → val f a = val f b) : IsFac b L :=
  ⟨h.ord, fun f n => (h.mem f n).trans ⟨fun ⟨h1, h2, h3⟩ => ⟨h1, h2, by rw [← hv f h1]; exact h3⟩, fun ⟨h1, h2, h3⟩ => ⟨h1, h2, by rw [hv f h1]; exact h3⟩⟩⟩
/-- A squarefree polynomial's factors, each once, in order. -/
structure IsSpl (a : Poly (Zp q)) (L : List (Poly (Zp q))) : Prop where
  ord : L.Pairwise Bef
  mem : ∀ f, f ∈ L ↔ f.Irr ∧ f ∣ a
theorem IsSpl.unique {a : Poly (Zp q)} {L M : List (Poly (Zp q))} (h : IsSpl a L) (k : IsSpl a M) : L = M :=
  sorted_ext (R := fun (x y : Poly (Zp q)) => Bef x y) Bef.irrefl (fun _ _ _ h k => Bef.trans h k) h.ord k.ord fun f => (h.mem f).trans (k.mem f).symm
end Poly
end Cl

namespace Cl
open CRing Poly
namespace Poly
section
variable {F : Type} [CField F]
/-- How often f is in a list's polynomials. -/
noncomputable def tot (f : Poly F) : List (Poly F) → Nat
  | [] => 0
  | x :: l => val f x + tot f l
theorem tot_append (f : Poly F) : ∀ (l m : List (Poly F)), tot f (l ++ m) = tot f l + tot f m
  | [], m => by show _ = 0 + _; rw [Nat.zero_add]; rfl
  | x :: l, m => by show val f x + tot f (l ++ m) = val f x + tot f l + tot f m; rw [tot_append f l m, Nat.add_assoc]
theorem tot_set (f : Poly F) : ∀ {l : List (Poly F)} {i : Nat} (h : i < l.length) (y : Poly F), tot f (l.set i y) + val f l[i] = tot f l + val f y
  | x :: l, 0, _, y => by show val f y + tot f l + val f x = val f x + tot f l + val f y; omega
  | x :: l, i + 1, h, y => by
    show val f x + tot f (l.set i y) + val f (l[i]'(by simpa using h)) = val f x + tot f l + val f y
    have := tot_set f (l := l) (i := i) (by simpa using h) y
    omega
theorem tot_one (f : Poly F) : ∀ {l : List (Poly F)} {i : Nat} (h : i < l.length), val f l[i] ≤ tot f l
  | x :: l, 0, _ => by show val f x ≤ val f x + tot f l; omega
  | x :: l, i + 1, h => by
    show val f (l[i]'(by simpa using h)) ≤ val f x + tot f l
    have := tot_one f (l := l) (i := i) (by simpa using h)
    omega
theorem tot_two (f : Poly F) : ∀ {l : List (Poly F)} {i j : Nat} (hi : i < l.length) (hj : j < l.length), i < j → val f l[i] + val f l[j] ≤ tot f l
  | x :: l, 0, j + 1, _, hj, _ => by
    show val f x + val f (l[j]'(by simpa using hj)) ≤ val f x + tot f l
    have := tot_one f (l := l) (i := j) (by simpa using hj)
    omega
  | x :: l, i + 1, j + 1, hi, hj, hij => by
    show val f (l[i]'(by simpa using hi)) + val f (l[j]'(by simpa using hj)) ≤ val f x + tot f l
    have := tot_two f (l := l) (i := i) (j := j) (by simpa using hi) (by simpa using hj) (by omega)
    omega
theorem tot_mem (f : Poly F) {l : List (Poly F)} {x : Poly F} (h : x ∈ l) : val f x ≤ tot f l := by
  obtain ⟨i, hi, rfl⟩ := List.getElem_of_mem h
  exact tot_one f hi
theorem tot_pos (f : Poly F) : ∀ {l : List (Poly F)}, 1 ≤ tot f l → ∃ x ∈ l, 1 ≤ val f x
  | x :: l, h => by
    have h' : 1 ≤ val f x + tot f l := h
    by_cases h1 : 1 ≤ val f x
    · exact ⟨x, List.mem_cons_self, h1⟩
    · obtain ⟨y, hy, h2⟩ := tot_pos f (l := l) (by omega)
      exact ⟨y, List.mem_cons_of_mem _ hy, h2⟩
  | [], h => absurd h (by show ¬ 1 ≤ 0; omega)
theorem tot_perm (f : Poly F) {l m : List (Poly F)} (h : l.Perm m) : tot f l = tot f m := by
  induction h with
  | nil => rfl
  | cons x _ ih => show val f x + _ = val f x + _; rw [ih]
  | swap x y l => show val f y + (val f x + tot f l) = val f x + (val f y + tot f l); omega
  | trans _ _ i1 i2 => exact i1.trans i2

/-- Parts of m: monic, none constant, together m. -/
structure PInv (m : Poly F) (ls : List (Poly F)) : Prop where
  mon : ∀ x ∈ ls, x.Mon
  len : ∀ x ∈ ls, 1 < x.len
  all : ∀ f : Poly F, f.Irr → tot f ls = val f m
theorem PInv.start {m : Poly F} (hm : m.Mon) (hl : 1 < m.len) : PInv m [m] :=
  ⟨fun x hx => by rw [List.mem_singleton.1 hx]; exact hm, fun x hx => by rw [List.mem_singleton.1 hx]; exact hl, fun f _ => by show val f m + 0 = _; omega⟩
theorem quo_len_gt {x g : Poly F} (hg : g ≠ 0) (hx : x ≠ 0) (hd : g ∣ x) : (quo x g).len + g.len = x.len + 1 := by
  have h1 := quo_mul hg hd
  have h2 : quo x g ≠ 0 := fun e => hx (by rw [← h1, e, zero_mul])
  have h3 := (len_mul h2 hg).1
  rw [h1] at h3
  have := len_pos h2
  have := len_pos hg
  omega
theorem PInv.split {m g : Poly F} {ls : List (Poly F)} (h : PInv m ls) {i : Nat} (hi : i < ls.length) (hg : g.Mon) (hd : g ∣ ls[i]) (h1 : 1 < g.len) (h2 : g.len < ls[i].len) : PInv m (ls.set i g ++ [quo ls[i] g]) := by
  have hx := h.mon _ (List.getElem_mem hi)
  have hq := quo_mon hx hg hd
  have hql := quo_len_gt hg.ne hx.ne hd
  refine ⟨fun x hx => ?_, fun x hx => ?_, fun f hf => ?_⟩
  · rcases List.mem_append.1 hx with h3 | h3
    · rcases List.mem_or_eq_of_mem_set h3 with h4 | h4
      · exact h.mon x h4
      · rw [h4]; exact hg
    · rw [List.mem_singleton.1 h3]; exact hq
  · rcases List.mem_append.1 hx with h3 | h3
    · rcases List.mem_or_eq_of_mem_set h3 with h4 | h4
      · exact h.len x h4
      · rw [h4]; exact h1
    · rw [List.mem_singleton.1 h3]; omega
  · have e1 := tot_set f hi g
    have e2 := val_quo hf hx.ne hg.ne hd
    have e3 := val_le_of_dvd hf hx.ne hd
    have e4 := h.all f hf
    rw [tot_append]
    show _ + (val f (quo ls[i] g) + 0) = _
    omega
theorem PInv.dvd {m : Poly F} {ls : List (Poly F)} (h : PInv m ls) (hm : m ≠ 0) {x : Poly F} (hx : x ∈ ls) : x ∣ m :=
  dvd_of_val (h.mon x hx).ne hm fun f hf => by rw [← h.all f hf]; exact tot_mem f hx
theorem PInv.ne_nil {m : Poly F} {ls : List (Poly F)} (h : PInv m ls) (hm : 1 < m.len) : 0 < ls.length := by
  have hm0 : m ≠ 0 := fun e => by rw [e, len_zero] at hm; omega
  obtain ⟨f, hf, hd⟩ := exists_irr hm
  have h1 := (hf.dvd_val hm0).1 hd
  rw [← h.all f hf] at h1
  obtain ⟨x, hx, _⟩ := tot_pos f h1
  exact List.length_pos_of_mem hx
/-- What is no product of two is irreducible. -/
theorem irr_or_split {x : Poly F} (hx : x.Mon) (hl : 1 < x.len) : x.Irr ∨ ∃ g : Poly F, g.Mon ∧ g ∣ x ∧ 1 < g.len ∧ g.len < x.len := by
  obtain ⟨f, hf, hd⟩ := exists_irr hl
  have h1 := len_le_of_dvd hd hx.ne
  by_cases h2 : f.len = x.len
  · left
    have h3 := quo_len_gt hf.ne hx.ne hd
    have h4 := (quo_mon hx hf.mon hd).one_of_len (by omega)
    have h5 := quo_mul hf.ne hd
    rw [h4, CRing.one_mul] at h5
    rw [← h5]; exact hf
  · exact .inr ⟨f, hf.mon, hd, hf.len, by omega⟩
end
variable {q : Prm}
theorem PInv.count {m : Poly (Zp q)} {ls : List (Poly (Zp q))} {k : Nat} {fs : Nat → Poly (Zp q)} (h : PInv m ls) (hf : Facs m k fs) : ls.length ≤ k := by
  have hex : ∀ i, ∃ j, i < ls.length → j < k ∧ ∃ hi : i < ls.length, 1 ≤ val (fs j) ls[i] := fun i => by
    by_cases hi : i < ls.length
    · obtain ⟨f, hfi, hd⟩ := exists_irr (h.len _ (List.getElem_mem hi))
      obtain ⟨j, hj, e⟩ := hf.all f hfi (dvd_trans hd (h.dvd hf.mon.ne (List.getElem_mem hi)))
      exact ⟨j, fun _ => ⟨hj, hi, e ▸ (hfi.dvd_val (h.mon _ (List.getElem_mem hi)).ne).1 hd⟩⟩
    · exact ⟨0, fun h => absurd h hi⟩
  refine pigeon ls.length k (fun i => Classical.choose (hex i)) (fun i hi => (Classical.choose_spec (hex i) hi).1) (fun i j hi hj e => ?_)
  obtain ⟨h1, _, h2⟩ := Classical.choose_spec (hex i) hi
  obtain ⟨_, _, h4⟩ := Classical.choose_spec (hex j) hj
  have e' : Classical.choose (hex i) = Classical.choose (hex j) := e
  rw [← e'] at h4
  have h5 := hf.sq _ (hf.irr _ h1)
  rw [← h.all _ (hf.irr _ h1)] at h5
  apply Classical.byContradiction
  intro hne
  rcases Nat.lt_or_gt_of_ne hne with h6 | h6
  · have := tot_two (fs (Classical.choose (hex i))) hi hj h6; omega
  · have := tot_two (fs (Classical.choose (hex i))) hj hi h6; omega
/-- As many parts as factors: none can be parted. -/
theorem PInv.full {m : Poly (Zp q)} {ls : List (Poly (Zp q))} {k : Nat} {fs : Nat → Poly (Zp q)} (h : PInv m ls) (hf : Facs m k fs) (hk : ls.length = k) : ∀ x ∈ ls, x.Irr := fun x hx => by
  rcases irr_or_split (h.mon x hx) (h.len x hx) with h1 | ⟨g, hg, hd, h2, h3⟩
  · exact h1
  · obtain ⟨i, hi, rfl⟩ := List.getElem_of_mem hx
    have := (h.split hi hg hd h2 h3).count hf
    rw [List.length_append, List.length_set] at this
    simp at this
    omega

/-- What is tried, made by x. -/
noncomputable def trialM (v : Poly (Zp q)) (c : Zp q) (x : Poly (Zp q)) : Poly (Zp q) := if q.p = 2 then v + C c else powR (v + C c) (half q) x - 1
theorem trialM_eqm (v : Poly (Zp q)) (c : Zp q) {x : Poly (Zp q)} (hx : x ≠ 0) : Eqm x (trialM v c x) (trialP v c) := by
  unfold trialM trialP
  split
  · exact Eqm.refl _ _
  · exact (powR_eqm _ _ hx).sub (Eqm.refl _ _)
theorem eqm_dvd {x a b f : Poly (Zp q)} (h : Eqm x a b) (hd : f ∣ x) : f ∣ a ↔ f ∣ b := by
  have h1 := h.of_dvd hd
  constructor
  · intro h2
    rw [← eqm_zero] at h2 ⊢
    exact h1.symm.trans h2
  · intro h2
    rw [← eqm_zero] at h2 ⊢
    exact h1.trans h2
/-- What a trial finds: all that think so. -/
theorem trial_dvd {v : Poly (Zp q)} {c : Zp q} {x f : Poly (Zp q)} (hx : x ≠ 0) (hd : f ∣ x) : f ∣ gcdP (trialM v c x) x ↔ f ∣ trialP v c := by
  have hg := gcd_is (trialM v c x) x
  rw [← eqm_dvd (trialM_eqm v c hx) hd]
  exact ⟨fun h => dvd_trans h hg.l, fun h => hg.top f h hd⟩
theorem gcd_mon {w x : Poly (Zp q)} (hx : x ≠ 0) : (gcdP w x).Mon := (gcd_is w x).mon_of (.inr hx)
/-- Behind a trial that parts nothing all think the same. -/
theorem uni_still {v : Poly (Zp q)} {c : Zp q} {x : Poly (Zp q)} (hx : x.Mon) (h : ¬ (1 < (gcdP (trialM v c x) x).len ∧ (gcdP (trialM v c x) x).len < x.len)) : Uni (trialP v c) x := fun f g hf hg h1 h2 => by
  rw [← trial_dvd (v := v) (c := c) hx.ne h1, ← trial_dvd (v := v) (c := c) hx.ne h2]
  have hgm := gcd_mon (w := trialM v c x) hx.ne
  have hd := (gcd_is (trialM v c x) x).r
  have hle := len_le_of_dvd hd hx.ne
  by_cases h3 : 1 < (gcdP (trialM v c x) x).len
  · have h4 := quo_len_gt hgm.ne hx.ne hd
    have h5 := (quo_mon hx hgm hd).one_of_len (by omega)
    have h6 := quo_mul hgm.ne hd
    rw [h5, CRing.one_mul] at h6
    rw [h6]
    exact ⟨fun _ => h2, fun _ => h1⟩
  · have := len_pos hgm.ne
    have h4 := hgm.one_of_len (by omega)
    rw [h4]
    exact ⟨fun h => absurd h hf.not_dvd_one, fun h => absurd h hg.not_dvd_one⟩
/-- What is found thinks the same, and what is left. -/
theorem uni_found {v : Poly (Zp q)} {c : Zp q} {x : Poly (Zp q)} (hx : x.Mon) : Uni (trialP v c) (gcdP (trialM v c x) x) := fun f g hf hg h1 h2 => by
  have hd := (gcd_is (trialM v c x) x).r
  rw [← trial_dvd (v := v) (c := c) hx.ne (dvd_trans h1 hd), ← trial_dvd (v := v) (c := c) hx.ne (dvd_trans h2 hd)]
  exact ⟨fun _ => h2, fun _ => h1⟩
theorem uni_left {v : Poly (Zp q)} {c : Zp q} {x : Poly (Zp q)} (hx : x.Mon) (hs : ∀ f : Poly (Zp q), f.Irr → val f x ≤ 1) : Uni (trialP v c) (quo x (gcdP (trialM v c x) x)) := fun f g hf hg h1 h2 => by
  have hgm := gcd_mon (w := trialM v c x) hx.ne
  have hd := (gcd_is (trialM v c x) x).r
  have hq := quo_mon hx hgm hd
  have no : ∀ f : Poly (Zp q), f.Irr → f ∣ quo x (gcdP (trialM v c x) x) → ¬ f ∣ trialP v c := fun f hf h1 => by
    have hfx : f ∣ x := by
      have := Dvd.mul_r h1 (gcdP (trialM v c x) x)
      rwa [quo_mul hgm.ne hd] at this
    rw [← trial_dvd (v := v) (c := c) hx.ne hfx]
    intro h3
    have e1 := (hf.dvd_val hq.ne).1 h1
    have e2 := (hf.dvd_val hgm.ne).1 h3
    have e3 := val_quo hf hx.ne hgm.ne hd
    have e4 := hs f hf
    omega
  exact ⟨fun h => absurd h (no f hf h1), fun h => absurd h (no g hg h2)⟩
/-- All factors of all parts think the same of w. -/
def UniL (w : Poly (Zp q)) (ls : List (Poly (Zp q))) : Prop := ∀ x ∈ ls, Uni w x
theorem UniL.split {w g : Poly (Zp q)} {ls : List (Poly (Zp q))} (h : UniL w ls) {i : Nat} (hi : i < ls.length) (hg : g ≠ 0) (hd : g ∣ ls[i]) : UniL w (ls.set i g ++ [quo ls[i] g]) := fun x hx => by
  have h0 := h _ (List.getElem_mem hi)
  rcases List.mem_append.1 hx with h3 | h3
  · rcases List.mem_or_eq_of_mem_set h3 with h4 | h4
    · exact h x h4
    · rw [h4]; exact h0.of_dvd hd
  · rw [List.mem_singleton.1 h3]
    exact h0.of_dvd ⟨g, (quo_mul hg hd).symm⟩
/-- All trials done: none can be parted. -/
theorem PInv.tried {m : Poly (Zp q)} {ls : List (Poly (Zp q))} {k n d : Nat} {fs B : Nat → Poly (Zp q)} {col : Nat → Nat} (h : PInv m ls) (hf : Facs m k fs) (hb : Bas m n d B col)
    (hu : ∀ c, 0 < c → c < d → ∀ r : Nat, (r : Int) < q.p → UniL (trialP (B c) (Zp.of q r)) ls) : ∀ x ∈ ls, x.Irr := fun x hx =>
  hf.whole hb (h.mon x hx) (h.len x hx) (h.dvd hf.mon.ne hx) fun c h0 h1 r hr => hu c h0 h1 r hr x hx
/-- Irreducible parts of m are its factors. -/
theorem PInv.mem {F : Type} [CField F] {m : Poly F} {ls : List (Poly F)} (h : PInv m ls) (hm : m ≠ 0) (hi : ∀ x ∈ ls, x.Irr) (f : Poly F) : f ∈ ls ↔ f.Irr ∧ f ∣ m := by
  constructor
  · intro hx; exact ⟨hi f hx, h.dvd hm hx⟩
  · rintro ⟨hf, hd⟩
    have h1 := (hf.dvd_val hm).1 hd
    rw [← h.all f hf] at h1
    obtain ⟨x, hx, h2⟩ := tot_pos f h1
    have h3 := (hf.dvd_val (hi x hx).ne).2 h2
    rw [hf.eq_of_dvd (hi x hx) h3]; exact hx
theorem PInv.nodup {F : Type} [CField F] {m : Poly F} {ls : List (Poly F)} (h : PInv m ls) (hi : ∀ x ∈ ls, x.Irr) (hs : ∀ f : Poly F, f.Irr → val f m ≤ 1) : ls.Pairwise (· ≠ ·) := by
  rw [List.pairwise_iff_getElem]
  intro i j h1 h2 hij e
  have hf := hi _ (List.getElem_mem h1)
  have h3 := tot_two ls[i] h1 h2 hij
  have h4 := hs _ hf
  rw [← e] at h3
  classical
  rw [hf.val_irr hf, if_pos rfl, h.all _ hf] at h3
  omega
end Poly
end Cl

namespace Cl
open CRing Poly
namespace Poly
variable {q : Prm}
/-- What all parts think the same of: all trials of kk rounds, those of the next round's first basis elements, and the next one's at the first ii parts. -/
structure DoneL (T : Nat → Nat → Poly (Zp q)) (d kk cc ii : Nat) (ls : List (Poly (Zp q))) : Prop where
  rounds : ∀ k, k < kk → ∀ c, 0 < c → c < d → UniL (T c k) ls
  elems : ∀ c, 0 < c → c < cc → UniL (T c kk) ls
  parts : ∀ i (h : i < ls.length), i < ii → Uni (T cc kk) ls[i]
variable {T : Nat → Nat → Poly (Zp q)} {d kk cc ii : Nat} {ls : List (Poly (Zp q))}
theorem DoneL.start (T : Nat → Nat → Poly (Zp q)) (d : Nat) (ls : List (Poly (Zp q))) : DoneL T d 0 1 0 ls :=
  ⟨fun k hk => absurd hk (by omega), fun c h0 h1 => absurd h1 (by omega), fun i _ h => absurd h (by omega)⟩
theorem DoneL.still (h : DoneL T d kk cc ii ls) (hi : ii < ls.length) (hu : Uni (T cc kk) ls[ii]) : DoneL T d kk cc (ii + 1) ls :=
  ⟨h.rounds, h.elems, fun i hl hlt => by
    by_cases e : i = ii
    · subst e; exact hu
    · exact h.parts i hl (by omega)⟩
theorem DoneL.split (h : DoneL T d kk cc ii ls) (hi : ii < ls.length) {g : Poly (Zp q)} (hg : g ≠ 0) (hd : g ∣ ls[ii]) (hu : Uni (T cc kk) g) : DoneL T d kk cc (ii + 1) (ls.set ii g ++ [quo ls[ii] g]) :=
  ⟨fun k hk c h0 h1 => (h.rounds k hk c h0 h1).split hi hg hd, fun c h0 h1 => (h.elems c h0 h1).split hi hg hd, fun i hl hlt => by
    have hl2 : i < (ls.set ii g).length := by rw [List.length_set]; omega
    rw [List.getElem_append_left hl2]
    by_cases e : i = ii
    · subst e; rw [List.getElem_set_self]; exact hu
    · rw [List.getElem_set_ne (fun e2 => e e2.symm)]
      exact h.parts i (by omega) (by omega)⟩
theorem DoneL.elem (h : DoneL T d kk cc ii ls) (hi : ls.length ≤ ii) : DoneL T d kk (cc + 1) 0 ls :=
  ⟨h.rounds, fun c h0 h1 => by
    by_cases e : c = cc
    · subst e
      intro x hx
      obtain ⟨i, hl, rfl⟩ := List.getElem_of_mem hx
      exact h.parts i hl (by omega)
    · exact h.elems c h0 (by omega), fun i _ h => absurd h (by omega)⟩
theorem DoneL.round (h : DoneL T d kk cc ii ls) (hc : d ≤ cc) : DoneL T d (kk + 1) 1 0 ls :=
  ⟨fun k hk c h0 h1 => by
    by_cases e : k = kk
    · subst e; exact h.elems c h0 (by omega)
    · exact h.rounds k (by omega) c h0 h1, fun c h0 h1 => absurd h1 (by omega), fun i _ h => absurd h (by omega)⟩
end Poly
end Cl
