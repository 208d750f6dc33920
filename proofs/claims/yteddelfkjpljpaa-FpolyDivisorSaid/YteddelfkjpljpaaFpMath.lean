/- Plain facts on residues: rests, primes, inverses. No program in sight. -/
namespace Cl

/-- The rest of a by p, from 0 on; 0 where p is below 1. -/
def red (a p : Int) : Int := if p < 1 then 0 else a % p

/-- Is n a prime that may be? -/
def isPrime (n : Int) : Bool := decide (2 ≤ n) && decide (n ≤ 65521) && (List.range n.toNat).all (fun d => decide (d < 2) || decide (n % (d : Int) ≠ 0))

structure Pr (p : Int) : Prop where
  two : 2 ≤ p
  max : p ≤ 65521
  no : ∀ d : Int, 2 ≤ d → d < p → p % d ≠ 0

theorem isPrime_iff (p : Int) : isPrime p = true ↔ Pr p := by
  unfold isPrime
  simp only [Bool.and_eq_true, decide_eq_true_eq, List.all_eq_true, List.mem_range, Bool.or_eq_true]
  constructor
  · rintro ⟨⟨h1, h2⟩, h3⟩
    refine ⟨h1, h2, fun d hd hlt => ?_⟩
    have := h3 d.toNat (by omega)
    rcases this with h | h
    · omega
    · rwa [Int.toNat_of_nonneg (by omega)] at h
  · rintro ⟨h1, h2, h3⟩
    refine ⟨⟨h1, h2⟩, fun d hd => ?_⟩
    by_cases h : d < 2
    · exact .inl h
    · exact .inr (h3 d (by omega) (by omega))

theorem red_of_pos {a p : Int} (h : 1 ≤ p) : red a p = a % p := by unfold red; rw [if_neg (by omega)]
theorem red_nonneg (a p : Int) : 0 ≤ red a p := by
  unfold red; split
  · omega
  · exact Int.emod_nonneg _ (by omega)
theorem red_lt {a p : Int} (h : 1 ≤ p) : red a p < p := by
  rw [red_of_pos h]; exact Int.emod_lt_of_pos _ (by omega)

theorem Pr.of_sqrt {n d : Int} (h2 : 2 ≤ n) (hm : n ≤ 65521) (hd : 2 ≤ d) (h : ∀ k : Int, 2 ≤ k → k < d → n % k ≠ 0) (hdd : n < d * d) : Pr n := by
  refine ⟨h2, hm, fun k hk hkn h0 => ?_⟩
  have hn : k * (n / k) = n := Int.mul_ediv_cancel' (Int.dvd_of_emod_eq_zero h0)
  by_cases hkd : k < d
  · exact h k hk hkd h0
  · have hm2 : 2 ≤ n / k := by
      apply Int.not_lt.1
      intro hlt
      have h1 : n / k ≤ 1 := by omega
      have := Int.mul_le_mul_of_nonneg_left h1 (show 0 ≤ k by omega)
      omega
    have hmd : n / k < d := by
      apply Int.not_le.1
      intro hge
      have := Int.mul_le_mul (show d ≤ k by omega) hge (by omega) (by omega)
      omega
    exact h (n / k) hm2 hmd (Int.emod_eq_zero_of_dvd ⟨k, by rw [Int.mul_comm]; exact hn.symm⟩)

theorem isPrime_no {n : Int} (h : n < 2 ∨ 65521 < n) : isPrime n = false := by
  rw [Bool.eq_false_iff]; intro hp
  have q := (isPrime_iff n).1 hp
  have := q.two; have := q.max; omega
theorem isPrime_no_of {n d : Int} (hd : 2 ≤ d) (hn : d < n) (h : n % d = 0) : isPrime n = false := by
  rw [Bool.eq_false_iff]; intro hp
  exact ((isPrime_iff n).1 hp).no d hd hn h

/-- a and b have the same rest by p. -/
def Cg (p a b : Int) : Prop := ∃ k, a - b = p * k
namespace Cg
variable {p a b c d : Int}
theorem refl (p a : Int) : Cg p a a := ⟨0, by grind⟩
theorem of_eq (h : a = b) : Cg p a b := by subst h; exact refl _ _
theorem symm (h : Cg p a b) : Cg p b a := by obtain ⟨k, h⟩ := h; exact ⟨-k, by grind⟩
theorem trans (h : Cg p a b) (g : Cg p b c) : Cg p a c := by obtain ⟨k, h⟩ := h; obtain ⟨l, g⟩ := g; exact ⟨k + l, by grind⟩
theorem trans' (h : Cg p b c) (g : a = b) : Cg p a c := (of_eq g).trans h
theorem add (h : Cg p a b) (g : Cg p c d) : Cg p (a + c) (b + d) := by obtain ⟨k, h⟩ := h; obtain ⟨l, g⟩ := g; exact ⟨k + l, by grind⟩
theorem sub (h : Cg p a b) (g : Cg p c d) : Cg p (a - c) (b - d) := by obtain ⟨k, h⟩ := h; obtain ⟨l, g⟩ := g; exact ⟨k - l, by grind⟩
theorem neg (h : Cg p a b) : Cg p (-a) (-b) := by obtain ⟨k, h⟩ := h; exact ⟨-k, by grind⟩
theorem mul (h : Cg p a b) (g : Cg p c d) : Cg p (a * c) (b * d) := by obtain ⟨k, h⟩ := h; obtain ⟨l, g⟩ := g; exact ⟨k * c + b * l, by grind⟩
theorem pow (h : Cg p a b) (n : Nat) : Cg p (a ^ n) (b ^ n) := by
  induction n with
  | zero => exact of_eq (by rw [Int.pow_zero, Int.pow_zero])
  | succ n ih => rw [Int.pow_succ, Int.pow_succ]; exact ih.mul h
theorem iff_emod : Cg p a b ↔ a % p = b % p := by
  constructor
  · rintro ⟨k, h⟩
    have : a = b + p * k := by omega
    rw [this, Int.add_mul_emod_self_left]
  · intro h
    have h1 := Int.emod_add_mul_ediv a p
    have h2 := Int.emod_add_mul_ediv b p
    exact ⟨a / p - b / p, by rw [Int.mul_sub]; omega⟩
theorem emod_left (a p : Int) : Cg p (a % p) a := iff_emod.2 (Int.emod_emod_of_dvd a (Int.dvd_refl p))
theorem emod_right (a p : Int) : Cg p a (a % p) := (emod_left a p).symm
theorem iff_dvd : Cg p a b ↔ p ∣ a - b := ⟨fun ⟨k, h⟩ => ⟨k, h⟩, fun ⟨k, h⟩ => ⟨k, h⟩⟩
theorem zero_iff : Cg p a 0 ↔ p ∣ a := by rw [iff_dvd, Int.sub_zero]
theorem zero_iff_emod : Cg p a 0 ↔ a % p = 0 := by rw [iff_emod, Int.zero_emod]
end Cg
/-- Two plain numbers of the same rest are one. -/
theorem Cg.eq_of_lt {p a b : Int} (h : Cg p a b) (ha : 0 ≤ a) (ha' : a < p) (hb : 0 ≤ b) (hb' : b < p) : a = b := by
  have := Cg.iff_emod.1 h
  rwa [Int.emod_eq_of_lt ha ha', Int.emod_eq_of_lt hb hb'] at this

theorem red_cg {a p : Int} (h : 1 ≤ p) : Cg p (red a p) a := by rw [red_of_pos h]; exact Cg.emod_left _ _

namespace Pr
variable {p : Int}
theorem pos (hp : Pr p) : 0 < p := by have := hp.two; omega
theorem one_not (hp : Pr p) : ¬ Cg p 1 0 := by
  rw [Cg.zero_iff_emod, Int.emod_eq_of_lt (by omega) (by have := hp.two; omega)]; omega

/-- Each number from 1 to p - 1 has one whose product with it has the rest 1. -/
theorem inv_small (hp : Pr p) : ∀ n : Nat, ∀ y : Int, y.toNat = n → 0 < y → y < p → ∃ t, Cg p (t * y) 1 := by
  intro n
  induction n using Nat.strongRecOn with
  | ind n ih =>
    intro y hn h0 hlt
    by_cases h1 : y = 1
    · exact ⟨1, Cg.of_eq (by omega)⟩
    · have hr0 := hp.no y (by omega) hlt
      have hr1 := Int.emod_nonneg p (b := y) (by omega)
      have hr2 := Int.emod_lt_of_pos p h0
      obtain ⟨u, hu⟩ := ih (p % y).toNat (by omega) (p % y) rfl (by omega) (by omega)
      refine ⟨-(u * (p / y)), Cg.trans (Cg.iff_dvd.2 ⟨-u, ?_⟩) hu⟩
      have := Int.emod_add_mul_ediv p y
      grind
theorem inv_exists (hp : Pr p) {a : Int} (ha : ¬ Cg p a 0) : ∃ t, 0 < t ∧ t < p ∧ Cg p (a * t) 1 := by
  have h0 := hp.pos
  have h1 := Int.emod_nonneg a (b := p) (by omega)
  have h2 := Int.emod_lt_of_pos a h0
  have h3 : a % p ≠ 0 := fun h => ha (Cg.zero_iff_emod.2 h)
  obtain ⟨t, ht⟩ := hp.inv_small _ (a % p) rfl (by omega) h2
  have h4 : Cg p (a * (t % p)) 1 := by
    refine Cg.trans ?_ ht
    rw [Int.mul_comm]
    exact (Cg.emod_left t p).mul (Cg.emod_right a p)
  refine ⟨t % p, ?_, Int.emod_lt_of_pos t h0, h4⟩
  have h5 := Int.emod_nonneg t (b := p) (by omega)
  have h6 : t % p ≠ 0 := by
    intro h; rw [h, Int.mul_zero] at h4
    exact hp.one_not h4.symm
  omega
/-- There are no divisors of nought. -/
theorem mul_zero (hp : Pr p) {a b : Int} (h : Cg p (a * b) 0) : Cg p a 0 ∨ Cg p b 0 := by
  by_cases ha : Cg p a 0
  · exact .inl ha
  · obtain ⟨t, _, _, ht⟩ := hp.inv_exists ha
    right
    have h1 := (Cg.refl p t).mul h
    have h2 := ht.mul (Cg.refl p b)
    obtain ⟨k, h1⟩ := h1
    obtain ⟨l, h2⟩ := h2
    exact ⟨k - l, by grind⟩
theorem cancel (hp : Pr p) {a b c : Int} (ha : ¬ Cg p a 0) (h : Cg p (a * b) (a * c)) : Cg p b c := by
  have : Cg p (a * (b - c)) 0 := by obtain ⟨k, h⟩ := h; exact ⟨k, by grind⟩
  rcases hp.mul_zero this with h1 | h1
  · exact (ha h1).elim
  · obtain ⟨k, h⟩ := h1; exact ⟨k, by grind⟩
end Pr

/-- The inverse by p: the first plain number whose product with a has the rest 1; 0, if there is none. -/
def invm (a p : Int) : Int := (((List.range p.toNat).find? (fun x : Nat => decide (a * (x : Int) % p = 1))).getD 0 : Nat)

theorem invm_spec {a p : Int} (hp : Pr p) (ha : ¬ Cg p a 0) : 0 < invm a p ∧ invm a p < p ∧ Cg p (a * invm a p) 1 := by
  obtain ⟨t, h1, h2, h3⟩ := hp.inv_exists ha
  have hone : ∀ x : Int, Cg p x 1 ↔ x % p = 1 := fun x => by
    rw [Cg.iff_emod, Int.emod_eq_of_lt (a := 1) (by omega) (by have := hp.two; omega)]
  unfold invm
  cases hf : (List.range p.toNat).find? (fun x : Nat => decide (a * (x : Int) % p = 1)) with
  | none =>
    have := List.find?_eq_none.1 hf t.toNat (by simp; omega)
    simp only [decide_eq_true_eq] at this
    rw [Int.toNat_of_nonneg (by omega)] at this
    exact (this ((hone _).1 h3)).elim
  | some x =>
    have h4 := List.mem_of_find?_eq_some hf
    have h5 := List.find?_some hf
    simp only [decide_eq_true_eq, List.mem_range] at h4 h5
    simp only [Option.getD_some]
    refine ⟨?_, by omega, (hone _).2 h5⟩
    have : x ≠ 0 := by rintro rfl; simp at h5
    omega
theorem invm_unique {a p t : Int} (hp : Pr p) (h0 : 0 ≤ t) (h1 : t < p) (h : Cg p (a * t) 1) : t = invm a p := by
  have ha : ¬ Cg p a 0 := by
    intro h2
    have := h2.mul (Cg.refl p t)
    rw [Int.zero_mul] at this
    exact hp.one_not (h.symm.trans this)
  obtain ⟨h2, h3, h4⟩ := invm_spec hp ha
  exact (hp.cancel ha (h.trans h4.symm)).eq_of_lt h0 h1 (by omega) h3
theorem invm_zero {a p : Int} (_hp : Pr p) (ha : Cg p a 0) : invm a p = 0 := by
  unfold invm
  rw [List.find?_eq_none.2]
  · rfl
  · intro x _
    simp only [decide_eq_true_eq]
    intro h
    have : Cg p (a * x) 0 := by have := ha.mul (Cg.refl p (x : Int)); rwa [Int.zero_mul] at this
    rw [Cg.zero_iff_emod, h] at this
    omega

/-- Sum, difference, product, power by p. -/
def addm (a b p : Int) : Int := (a + b) % p
def subm (a b p : Int) : Int := (a - b) % p
def mulm (a b p : Int) : Int := (a * b) % p
def powm (a : Int) (n : Nat) (p : Int) : Int := a ^ n % p

theorem addm_cg (a b p : Int) : Cg p (addm a b p) (a + b) := Cg.emod_left _ _
theorem subm_cg (a b p : Int) : Cg p (subm a b p) (a - b) := Cg.emod_left _ _
theorem mulm_cg (a b p : Int) : Cg p (mulm a b p) (a * b) := Cg.emod_left _ _
theorem powm_cg (a : Int) (n : Nat) (p : Int) : Cg p (powm a n p) (a ^ n) := Cg.emod_left _ _
theorem emod_bd (a : Int) {p : Int} (hp : 1 ≤ p) : 0 ≤ a % p ∧ a % p < p := ⟨Int.emod_nonneg _ (by omega), Int.emod_lt_of_pos _ (by omega)⟩
theorem addm_bd (a b : Int) {p : Int} (hp : 1 ≤ p) : 0 ≤ addm a b p ∧ addm a b p < p := emod_bd _ hp
theorem subm_bd (a b : Int) {p : Int} (hp : 1 ≤ p) : 0 ≤ subm a b p ∧ subm a b p < p := emod_bd _ hp
theorem mulm_bd (a b : Int) {p : Int} (hp : 1 ≤ p) : 0 ≤ mulm a b p ∧ mulm a b p < p := emod_bd _ hp
theorem powm_bd (a : Int) (n : Nat) {p : Int} (hp : 1 ≤ p) : 0 ≤ powm a n p ∧ powm a n p < p := emod_bd _ hp
theorem red_bd (a : Int) {p : Int} (hp : 1 ≤ p) : 0 ≤ red a p ∧ red a p < p := ⟨red_nonneg _ _, red_lt hp⟩
theorem invm_bd (a : Int) {p : Int} (hp : Pr p) : 0 ≤ invm a p ∧ invm a p < p := by
  by_cases h : Cg p a 0
  · rw [invm_zero hp h]; exact ⟨by omega, hp.pos⟩
  · have := invm_spec hp h; omega

theorem emod_eq_of_cg {p a b : Int} (h : Cg p a b) : a % p = b % p := Cg.iff_emod.1 h
theorem addm_of {a b p x : Int} (h : Cg p x (a + b)) : x % p = addm a b p := emod_eq_of_cg h
theorem subm_of {a b p x : Int} (h : Cg p x (a - b)) : x % p = subm a b p := emod_eq_of_cg h
theorem mulm_of {a b p x : Int} (h : Cg p x (a * b)) : x % p = mulm a b p := emod_eq_of_cg h

/-- What holds of Euclid's rows at the head of each round. -/
structure Eu (p a x y s t : Int) : Prop where
  x2 : 2 ≤ x
  y0 : 0 ≤ y
  yx : y < x
  xp : x ≤ p
  cs : Cg p (s * a) x
  ct : Cg p (t * a) y
  sg : (0 ≤ t ∧ s ≤ 0 ∧ t * x - s * y = p) ∨ (t ≤ 0 ∧ 0 ≤ s ∧ s * y - t * x = p)
  dv : ∀ d, d ∣ x → d ∣ y → d ∣ p ∧ d ∣ red a p
theorem Eu.start {p a : Int} (hp : Pr p) : Eu p a p (red a p) 0 1 := by
  have h2 := hp.two
  have hr := red_bd a (p := p) (by omega)
  refine ⟨by omega, hr.1, hr.2, by omega, ⟨-1, by omega⟩, ?_, .inl ⟨by omega, by omega, by omega⟩, fun d h1 h2 => ⟨h1, h2⟩⟩
  rw [Int.one_mul]; exact (red_cg (by omega)).symm
theorem Eu.q {p a x y s t : Int} (h : Eu p a x y s t) (hy : 2 ≤ y) : 0 ≤ x / y ∧ x / y ≤ x ∧ 0 ≤ x / y * y ∧ x / y * y ≤ x ∧ 0 ≤ x - x / y * y ∧ x - x / y * y < y := by
  have h1 := h.x2
  have h2 : 0 ≤ x / y := Int.ediv_nonneg (by omega) (by omega)
  have h3 := Int.emod_add_mul_ediv x y
  rw [Int.mul_comm] at h3
  have h4 := Int.emod_nonneg x (b := y) (by omega)
  have h5 := Int.emod_lt_of_pos x (b := y) (by omega)
  have h6 := Int.mul_nonneg h2 h.y0
  have h7 : x / y * 1 ≤ x / y * y := Int.mul_le_mul_of_nonneg_left (by omega) h2
  omega
theorem Eu.bd {p a x y s t : Int} (h : Eu p a x y s t) (hy : 2 ≤ y) : -p ≤ s ∧ s ≤ p ∧ -p ≤ t ∧ t ≤ p ∧ -p ≤ x / y * t ∧ x / y * t ≤ p ∧ -p ≤ s - x / y * t ∧ s - x / y * t ≤ p := by
  have hx := h.x2
  obtain ⟨q1, q2, q3, q4, q5, q6⟩ := h.q hy
  rcases h.sg with ⟨h1, h2, h3⟩ | ⟨h1, h2, h3⟩
  · have e1 : t * 1 ≤ t * x := Int.mul_le_mul_of_nonneg_left (by omega) h1
    have e2 : t * (x / y) ≤ t * x := Int.mul_le_mul_of_nonneg_left q2 h1
    have e3 : (-s) * 1 ≤ (-s) * y := Int.mul_le_mul_of_nonneg_left (by omega) (by omega)
    have e4 : 0 ≤ t * (x / y) := Int.mul_nonneg h1 q1
    have e5 : x / y * t = t * (x / y) := Int.mul_comm _ _
    have e6 : (-s) * y = -(s * y) := by grind
    omega
  · have e1 : (-t) * 1 ≤ (-t) * x := Int.mul_le_mul_of_nonneg_left (by omega) (by omega)
    have e2 : (-t) * (x / y) ≤ (-t) * x := Int.mul_le_mul_of_nonneg_left q2 (by omega)
    have e3 : s * 1 ≤ s * y := Int.mul_le_mul_of_nonneg_left (by omega) (by omega)
    have e4 : 0 ≤ (-t) * (x / y) := Int.mul_nonneg (by omega) q1
    have e5 : x / y * t = -((-t) * (x / y)) := by grind
    have e6 : (-t) * x = -(t * x) := by grind
    omega
theorem Eu.next {p a x y s t : Int} (h : Eu p a x y s t) (hy : 2 ≤ y) : Eu p a y (x - x / y * y) t (s - x / y * t) := by
  obtain ⟨q1, q2, q3, q4, q5, q6⟩ := h.q hy
  have hyx := h.yx; have hxp := h.xp
  refine ⟨hy, q5, q6, by omega, h.ct, ?_, ?_, ?_⟩
  · have := h.cs.sub ((Cg.refl p (x / y)).mul h.ct)
    exact (Cg.of_eq (by grind)).trans this
  · rcases h.sg with ⟨h1, h2, h3⟩ | ⟨h1, h2, h3⟩
    · have e4 : 0 ≤ x / y * t := Int.mul_nonneg q1 h1
      exact .inr ⟨by omega, h1, by grind⟩
    · have e4 : 0 ≤ x / y * (-t) := Int.mul_nonneg q1 (by omega)
      have e5 : x / y * (-t) = -(x / y * t) := by grind
      exact .inl ⟨by omega, h1, by grind⟩
  · intro d hd1 hd2
    refine h.dv d ?_ hd1
    have : d ∣ (x - x / y * y) + x / y * y := Int.dvd_add hd2 (Int.dvd_trans hd1 (Int.dvd_mul_left _ _))
    rwa [Int.sub_add_cancel] at this
theorem Eu.one {p a x s t : Int} (h : Eu p a x 1 s t) (hp : Pr p) : red t p = invm a p ∧ ¬ Cg p a 0 := by
  have h2 := hp.two
  have hr := red_bd t (p := p) (by omega)
  have h1 : Cg p (a * red t p) 1 := by
    rw [Int.mul_comm]
    exact ((red_cg (by omega)).mul (Cg.refl p a)).trans h.ct
  refine ⟨invm_unique hp hr.1 hr.2 h1, fun h0 => ?_⟩
  have := h0.mul (Cg.refl p (red t p))
  rw [Int.zero_mul] at this
  exact hp.one_not (h1.symm.trans this)
theorem Eu.zero {p a x s t : Int} (h : Eu p a x 0 s t) (hp : Pr p) : Cg p a 0 := by
  have h2 := hp.two
  obtain ⟨h3, h4⟩ := h.dv x (Int.dvd_refl x) (Int.dvd_zero x)
  have h5 : x = p := by
    have hx := h.x2; have hxp := h.xp
    by_cases hlt : x < p
    · exact (hp.no x hx hlt (Int.emod_eq_zero_of_dvd h3)).elim
    · omega
  subst h5
  exact (red_cg (by omega)).symm.trans (Cg.zero_iff.2 h4)
theorem Eu.tbd {p a x y s t : Int} (h : Eu p a x y s t) (hy : 0 ≤ y) : -p ≤ t ∧ t ≤ p := by
  have hx := h.x2
  rcases h.sg with ⟨h1, h2, h3⟩ | ⟨h1, h2, h3⟩
  · have e1 : t * 1 ≤ t * x := Int.mul_le_mul_of_nonneg_left (by omega) h1
    have e3 : 0 ≤ (-s) * y := Int.mul_nonneg (by omega) hy
    have e6 : (-s) * y = -(s * y) := by grind
    omega
  · have e1 : (-t) * 1 ≤ (-t) * x := Int.mul_le_mul_of_nonneg_left (by omega) (by omega)
    have e3 : 0 ≤ s * y := Int.mul_nonneg h2 hy
    have e6 : (-t) * x = -(t * x) := by grind
    omega

/-- What an inverse is told with: 3, if there is none. -/
def invE (a p : Int) : Int := if a % p = 0 then 3 else 0
theorem invE_zero {a p : Int} (h : Cg p a 0) : invE a p = 3 := by unfold invE; rw [if_pos (Cg.zero_iff_emod.1 h)]
theorem invE_ok {a p : Int} (h : ¬ Cg p a 0) : invE a p = 0 := by unfold invE; rw [if_neg (fun h0 => h (Cg.zero_iff_emod.2 h0))]

/-- What holds at the head of each round where a power is made by squares. -/
structure Pw (p a : Int) (N : Nat) (out base n : Int) : Prop where
  n0 : 0 ≤ n
  o0 : 0 ≤ out
  op : out < p
  b0 : 0 ≤ base
  bp : base < p
  cg : Cg p (out * base ^ n.toNat) (a ^ N)
theorem Pw.start {p a : Int} (hp : Pr p) {n : Int} (hn : 0 ≤ n) : Pw p a n.toNat 1 (red a p) n := by
  have h2 := hp.two
  have hr := red_bd a (p := p) (by omega)
  refine ⟨hn, by omega, by omega, hr.1, hr.2, ?_⟩
  rw [Int.one_mul]; exact (red_cg (by omega)).pow _
theorem Pw.done {p a out base : Int} {N : Nat} (h : Pw p a N out base 0) : out = powm a N p := by
  have h1 := h.cg
  rw [Int.toNat_zero, Int.pow_zero, Int.mul_one] at h1
  have := emod_eq_of_cg h1
  rwa [Int.emod_eq_of_lt h.o0 h.op] at this
theorem Pw.even {p a out base n : Int} {N : Nat} (h : Pw p a N out base n) (he : n % 2 = 0) : Pw p a N out (base * base % p) (n / 2) := by
  have hn := h.n0
  have hp : 1 ≤ p := by have := h.o0; have := h.op; omega
  have hb := emod_bd (base * base) hp
  refine ⟨by omega, h.o0, h.op, hb.1, hb.2, Cg.trans ?_ h.cg⟩
  refine (Cg.refl p out).mul ?_
  have e : n.toNat = 2 * (n / 2).toNat := by omega
  rw [e, Int.pow_mul, Int.pow_succ, Int.pow_succ, Int.pow_zero, Int.one_mul]
  exact (Cg.emod_left _ _).pow _
theorem Pw.odd {p a out base n : Int} {N : Nat} (h : Pw p a N out base n) (he : n % 2 = 1) : Pw p a N (out * base % p) (base * base % p) (n / 2) := by
  have hn := h.n0
  have hp : 1 ≤ p := by have := h.o0; have := h.op; omega
  have hb := emod_bd (base * base) hp
  have ho := emod_bd (out * base) hp
  refine ⟨by omega, ho.1, ho.2, hb.1, hb.2, Cg.trans ?_ h.cg⟩
  have e : n.toNat = 2 * (n / 2).toNat + 1 := by omega
  rw [e, Int.pow_succ, Int.pow_mul, Int.pow_succ, Int.pow_succ, Int.pow_zero, Int.one_mul]
  have := (Cg.emod_left (out * base) p).mul ((Cg.emod_left (base * base) p).pow (n / 2).toNat)
  exact this.trans (Cg.of_eq (by grind))

end Cl
