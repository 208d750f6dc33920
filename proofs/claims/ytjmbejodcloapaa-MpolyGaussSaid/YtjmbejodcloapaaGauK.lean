/- Plain facts: what all coefficients have in common.
   Gauss's lemma: what the coefficients of a product have in common. No program in sight. -/
import Derived.Test.YtjmbejodcloapaaMv17
namespace Cl
/-- What all coefficients have in common. -/
def cntM (L : Mv) : Nat := L.foldl (fun g t => Nat.gcd g t.2.natAbs) 0
/-- The same, with the sign of the first one. -/
def czM : Mv → Int
  | [] => 0
  | t :: L => if t.2 < 0 then -(cntM (t :: L) : Int) else (cntM (t :: L) : Int)
/-- The rest. -/
def prM (L : Mv) : Mv := L.map fun t => (t.1, t.2 / czM L)
theorem cntM_snoc (L : Mv) (t : Trm) : cntM (L ++ [t]) = Nat.gcd (cntM L) t.2.natAbs := by unfold cntM; rw [List.foldl_append]; rfl
theorem cntM_foldl : ∀ (L : Mv) (g : Nat), L.foldl (fun g t => Nat.gcd g t.2.natAbs) g = Nat.gcd g (cntM L)
  | [], g => by show g = Nat.gcd g 0; rw [Nat.gcd_zero_right]
  | t :: L, g => by
    show L.foldl _ (Nat.gcd g t.2.natAbs) = Nat.gcd g (L.foldl _ (Nat.gcd 0 t.2.natAbs))
    rw [cntM_foldl L, cntM_foldl L, Nat.gcd_zero_left, Nat.gcd_assoc]
theorem cntM_cons (t : Trm) (L : Mv) : cntM (t :: L) = Nat.gcd t.2.natAbs (cntM L) := by
  show L.foldl _ (Nat.gcd 0 t.2.natAbs) = _
  rw [cntM_foldl, Nat.gcd_zero_left]
theorem cntM_dvd : ∀ {L : Mv} {t : Trm}, t ∈ L → cntM L ∣ t.2.natAbs
  | s :: L, t, h => by
    rw [cntM_cons]
    rcases List.mem_cons.1 h with rfl | h1
    · exact Nat.gcd_dvd_left _ _
    · exact Nat.dvd_trans (Nat.gcd_dvd_right _ _) (cntM_dvd h1)
theorem dvd_cntM {d : Nat} : ∀ {L : Mv}, (∀ t ∈ L, d ∣ t.2.natAbs) → d ∣ cntM L
  | [], _ => Nat.dvd_zero d
  | s :: L, h => by
    rw [cntM_cons]
    exact Nat.dvd_gcd (h s List.mem_cons_self) (dvd_cntM fun t ht => h t (List.mem_cons_of_mem _ ht))
theorem cntM_pos {t : Trm} {L : Mv} (ht : t ∈ L) (h : t.2 ≠ 0) : 0 < cntM L := by
  rcases Nat.eq_zero_or_pos (cntM L) with h0 | h0
  · have := cntM_dvd ht
    rw [h0] at this
    have := Nat.eq_zero_of_zero_dvd this
    omega
  · exact h0
theorem czM_abs (L : Mv) : (czM L).natAbs = cntM L := by
  cases L with
  | nil => rfl
  | cons t L =>
    show (if t.2 < 0 then -(cntM (t :: L) : Int) else (cntM (t :: L) : Int)).natAbs = _
    split
    · rw [Int.natAbs_neg, Int.natAbs_natCast]
    · rw [Int.natAbs_natCast]
theorem czM_dvd {L : Mv} {t : Trm} (ht : t ∈ L) : t.2 % czM L = 0 := by
  have h := cntM_dvd ht
  rw [← czM_abs] at h
  exact Int.emod_eq_zero_of_dvd (Int.natAbs_dvd_natAbs.1 h)
end Cl

namespace Cl
/-- Primes among the naturals, as far as they are wanted here. -/
def PrimeN (p : Nat) : Prop := 1 < p ∧ ∀ d, d ∣ p → d = 1 ∨ d = p
theorem prime_in : ∀ (k g : Nat), g ≤ k → 1 < g → ∃ p, PrimeN p ∧ p ∣ g
  | 0, g, h, h1 => by omega
  | k + 1, g, h, h1 => by
    by_cases hd : ∃ d, d ∣ g ∧ d ≠ 1 ∧ d ≠ g
    · obtain ⟨d, h2, h3, h4⟩ := hd
      have h5 := Nat.le_of_dvd (by omega) h2
      have h6 : d ≠ 0 := fun e => by subst e; have := Nat.eq_zero_of_zero_dvd h2; omega
      obtain ⟨p, hp, hpd⟩ := prime_in k d (by omega) (by omega)
      exact ⟨p, hp, Nat.dvd_trans hpd h2⟩
    · refine ⟨g, ⟨h1, fun d h2 => ?_⟩, Nat.dvd_refl g⟩
      by_cases h3 : d = 1
      · exact .inl h3
      · by_cases h4 : d = g
        · exact .inr h4
        · exact absurd ⟨d, h2, h3, h4⟩ hd
theorem PrimeN.mul {p x y : Nat} (hp : PrimeN p) (h : p ∣ x * y) : p ∣ x ∨ p ∣ y := by
  rcases hp.2 _ (Nat.gcd_dvd_left p x) with h1 | h1
  · exact .inr (Nat.Coprime.dvd_of_dvd_mul_left h1 h)
  · exact .inl (by rw [← h1]; exact Nat.gcd_dvd_right p x)
theorem ndvd {p : Nat} {x : Int} : (p : Int) ∣ x ↔ p ∣ x.natAbs := Int.ofNat_dvd_left
theorem PrimeN.mulI {p : Nat} {x y : Int} (hp : PrimeN p) (h : (p : Int) ∣ x * y) : (p : Int) ∣ x ∨ (p : Int) ∣ y := by
  have h1 := Int.natAbs_dvd_natAbs.2 h
  rw [Int.natAbs_natCast, Int.natAbs_mul] at h1
  rcases hp.mul h1 with h2 | h2
  · exact .inl (ndvd.2 h2)
  · exact .inr (ndvd.2 h2)
section
variable {α : Type} {z : Int}
theorem sum_sub_dvd {f g : α → Int} : ∀ {L : List α}, (∀ a ∈ L, z ∣ f a - g a) → z ∣ sumL f L - sumL g L
  | [], _ => by show z ∣ 0 - 0; exact Int.dvd_zero z
  | a :: L, h => by
    have h1 := h a List.mem_cons_self
    have h2 := sum_sub_dvd (f := f) (g := g) fun b hb => h b (List.mem_cons_of_mem a hb)
    have h3 := Int.dvd_add h1 h2
    show z ∣ f a + sumL f L - (g a + sumL g L)
    have e : f a + sumL f L - (g a + sumL g L) = f a - g a + (sumL f L - sumL g L) := by omega
    rw [e]; exact h3
theorem sum_filter_dvd {f : α → Int} (q : α → Bool) : ∀ {L : List α}, (∀ a ∈ L, q a = false → z ∣ f a) → z ∣ sumL f L - sumL f (L.filter q)
  | [], _ => by show z ∣ 0 - 0; exact Int.dvd_zero z
  | a :: L, h => by
    have h2 := sum_filter_dvd (f := f) q fun b hb => h b (List.mem_cons_of_mem a hb)
    cases hq : q a with
    | true =>
      rw [List.filter_cons_of_pos hq]
      show z ∣ f a + sumL f L - (f a + _)
      have e : f a + sumL f L - (f a + sumL f (L.filter q)) = sumL f L - sumL f (L.filter q) := by omega
      rw [e]; exact h2
    | false =>
      rw [List.filter_cons_of_neg (by simp [hq])]
      show z ∣ f a + sumL f L - _
      have e : f a + sumL f L - sumL f (L.filter q) = f a + (sumL f L - sumL f (L.filter q)) := by omega
      rw [e]; exact Int.dvd_add (h a List.mem_cons_self hq) h2
theorem dvd_sum {f : α → Int} : ∀ {L : List α}, (∀ a ∈ L, z ∣ f a) → z ∣ sumL f L
  | [], _ => Int.dvd_zero z
  | a :: _, h => Int.dvd_add (h a List.mem_cons_self) (dvd_sum fun b hb => h b (List.mem_cons_of_mem a hb))
end
theorem dvd_co {z : Int} {L : Mv} (h : ∀ t ∈ L, z ∣ t.2) (p : Plc) : z ∣ coM L p := dvd_sum fun t ht => by
  show z ∣ (if t.1 = p then t.2 else 0)
  split
  · exact h t ht
  · exact Int.dvd_zero z
/-- The product's coefficient at the sum of the first places. -/
theorem mul_head_co {n : Nat} {s t : Trm} {L M : Mv} (h : PlainM n (s :: L)) (k : PlainM n (t :: M)) : coM (mulM (s :: L) (t :: M)) (addP s.1 t.1) = s.2 * t.2 := by
  have hs := h.len s List.mem_cons_self
  have ht := k.len t List.mem_cons_self
  have hpl := addP_length hs ht
  rw [coM_mulR h.len k.len hpl]
  show coM (s :: L) (subP (addP s.1 t.1) t.1) * t.2 + sumL _ M = _
  have e1 : s.1 = subP (addP s.1 t.1) t.1 := (addP_iff (by omega) (by omega)).1 rfl
  rw [← e1, h.co_head, sumL_congr (g := fun _ => 0) fun b hb => ?_, sumL_zero]
  · omega
  · have lb := k.len b (List.mem_cons_of_mem _ hb)
    rw [coM_none, Int.zero_mul]
    intro a ha e2
    have la := h.len a ha
    have e3 := (addP_iff (a := a.1) (b := b.1) (p := addP s.1 t.1) (by omega) (by omega)).2 e2
    have hlt : ltP (addP a.1 b.1) (addP s.1 t.1) := by
      have hb1 := (List.pairwise_cons.1 k.ord).1 b hb
      rcases List.mem_cons.1 ha with rfl | ha'
      · rw [addP_comm, addP_comm a.1]
        exact ltP.add (by omega) (by omega) (by omega) hb1 (.inr rfl)
      · exact ltP.add (by omega) (by omega) (by omega) ((List.pairwise_cons.1 h.ord).1 a ha') (.inl hb1)
    rw [e3] at hlt
    exact ltP.irrefl _ hlt
section
variable {n : Nat} {A B N : Mv}
theorem gauss_prime {p : Nat} (hp : PrimeN p) (hA : PlainM n A) (hB : PlainM n B) (e : EqM n N (mulM A B)) (h : ∀ t ∈ N, (p : Int) ∣ t.2) : (∀ t ∈ A, (p : Int) ∣ t.2) ∨ (∀ t ∈ B, (p : Int) ∣ t.2) := by
  have flt : ∀ {C : Mv}, PlainM n C → PlainM n (C.filter (fun t => !decide ((p : Int) ∣ t.2))) := fun hC => ⟨fun t ht => hC.len t (List.mem_filter.1 ht).1, hC.ord.sublist List.filter_sublist, fun t ht => hC.ne t (List.mem_filter.1 ht).1⟩
  have hall : ∀ {C : Mv}, C.filter (fun t => !decide ((p : Int) ∣ t.2)) = [] → ∀ t ∈ C, (p : Int) ∣ t.2 := fun {C} hC t ht => by
    by_cases hd : (p : Int) ∣ t.2
    · exact hd
    · exfalso
      have : t ∈ C.filter (fun t => !decide ((p : Int) ∣ t.2)) := List.mem_filter.2 ⟨ht, by simp [hd]⟩
      rw [hC] at this
      cases this
  have fA := flt hA
  have fB := flt hB
  match hA' : A.filter (fun t => !decide ((p : Int) ∣ t.2)), hB' : B.filter (fun t => !decide ((p : Int) ∣ t.2)) with
  | [], _ => exact .inl (hall hA')
  | _ :: _, [] => exact .inr (hall hB')
  | s :: A1, t :: B1 =>
    exfalso
    have hs : ¬ (p : Int) ∣ s.2 := by
      have : s ∈ A.filter (fun t => !decide ((p : Int) ∣ t.2)) := by rw [hA']; exact List.mem_cons_self
      have := (List.mem_filter.1 this).2
      simpa using this
    have ht : ¬ (p : Int) ∣ t.2 := by
      have : t ∈ B.filter (fun t => !decide ((p : Int) ∣ t.2)) := by rw [hB']; exact List.mem_cons_self
      have := (List.mem_filter.1 this).2
      simpa using this
    rw [hA'] at fA
    rw [hB'] at fB
    have hq := addP_length (fA.len s List.mem_cons_self) (fB.len t List.mem_cons_self)
    have h1 := mul_head_co fA fB
    have h2 := dvd_co h (addP s.1 t.1)
    rw [e _ hq, coM_mulR hA.len hB.len hq] at h2
    rw [coM_mulR fA.len fB.len hq, ← hB'] at h1
    have hco : ∀ r, (p : Int) ∣ coM A r - coM (s :: A1) r := fun r => by
      rw [← hA']
      refine sum_filter_dvd _ fun a _ hqa => ?_
      have : (p : Int) ∣ a.2 := by simpa using hqa
      show (p : Int) ∣ (if a.1 = r then a.2 else 0)
      split
      · exact this
      · exact Int.dvd_zero _
    have h3 := sum_sub_dvd (z := (p : Int)) (f := fun b : Trm => coM A (subP (addP s.1 t.1) b.1) * b.2) (g := fun b : Trm => coM (s :: A1) (subP (addP s.1 t.1) b.1) * b.2) (L := B) fun b _ => by
      rw [← Int.sub_mul]
      exact Int.dvd_mul_of_dvd_left (hco _)
    have h4 := sum_filter_dvd (z := (p : Int)) (f := fun b : Trm => coM (s :: A1) (subP (addP s.1 t.1) b.1) * b.2) (fun t => !decide ((p : Int) ∣ t.2)) (L := B) fun b _ hqb => by
      have : (p : Int) ∣ b.2 := by simpa using hqb
      exact Int.dvd_mul_of_dvd_right this
    rw [h1] at h4
    have h5 : (p : Int) ∣ s.2 * t.2 := by
      have h6 := Int.dvd_add h3 h4
      have h7 := Int.dvd_sub h2 h6
      have e2 : ∀ x y w : Int, x - (x - y + (y - w)) = w := fun x y w => by omega
      rw [e2] at h7
      exact h7
    rcases hp.mulI h5 with h6 | h6
    · exact hs h6
    · exact ht h6
theorem cntM_scale (z : Int) : ∀ L : Mv, cntM (scaleM z L) = z.natAbs * cntM L
  | [] => by show (0 : Nat) = z.natAbs * 0; rw [Nat.mul_zero]
  | t :: L => by
    show cntM ((t.1, z * t.2) :: scaleM z L) = _
    rw [cntM_cons, cntM_cons, cntM_scale z L, Int.natAbs_mul, Nat.gcd_mul_left]
theorem scale_pr (L : Mv) : scaleM (czM L) (prM L) = L := by
  unfold scaleM prM
  rw [List.map_map]
  conv => rhs; rw [← List.map_id L]
  refine List.map_congr_left fun t ht => ?_
  have h := Int.mul_ediv_add_emod t.2 (czM L)
  rw [czM_dvd ht] at h
  show (t.1, czM L * (t.2 / czM L)) = t
  rw [show czM L * (t.2 / czM L) = t.2 by omega]
theorem cntM_eq_zero {L : Mv} (h : PlainM n L) (hL : L ≠ []) : 0 < cntM L := by
  match L, hL with
  | t :: L', _ => exact cntM_pos List.mem_cons_self (h.ne t List.mem_cons_self)
theorem cnt_pr {L : Mv} (h : PlainM n L) (hL : L ≠ []) : cntM (prM L) = 1 := by
  have h1 := cntM_scale (czM L) (prM L)
  rw [scale_pr, czM_abs] at h1
  have h2 := cntM_eq_zero h hL
  have h3 : cntM L * 1 = cntM L * cntM (prM L) := by omega
  exact (Nat.eq_of_mul_eq_mul_left h2 h3).symm
theorem pr_plain {L : Mv} (h : PlainM n L) : PlainM n (prM L) :=
  ⟨fun t ht => by
    obtain ⟨s, hs, rfl⟩ := List.mem_map.1 ht
    exact h.len s hs, by
    unfold prM
    rw [List.pairwise_map]
    exact h.ord, fun t ht => by
    obtain ⟨s, hs, rfl⟩ := List.mem_map.1 ht
    intro e
    have e2 : s.2 / czM L = 0 := e
    have e1 := Int.mul_ediv_add_emod s.2 (czM L)
    rw [e2, czM_dvd hs] at e1
    exact h.ne s hs (by omega)⟩
theorem mulM_scale_l (z : Int) (A B : Mv) : mulM (scaleM z A) B = scaleM z (mulM A B) := by
  unfold mulM scaleM
  rw [List.flatMap_map, List.map_flatMap]
  refine congrArg (fun f => List.flatMap f A) (funext fun a => ?_)
  rw [List.map_map]
  refine List.map_congr_left fun b _ => ?_
  show (addP a.1 b.1, z * a.2 * b.2) = (addP a.1 b.1, z * (a.2 * b.2))
  rw [Int.mul_assoc]
/-- Gauss: what the coefficients of a product have in common is the product; the rests multiply. -/
theorem gauss (hA : PlainM n A) (hB : PlainM n B) (hN : PlainM n N) (e : EqM n N (mulM A B)) : czM N = czM A * czM B ∧ EqM n (prM N) (mulM (prM A) (prM B)) := by
  match A, B, hA, hB, e with
  | [], B, hA, hB, e =>
    have h : N = [] := hN.mul_nil e
    subst h
    exact ⟨by show (0 : Int) = 0 * _; rw [Int.zero_mul], fun p _ => rfl⟩
  | s :: A', [], hA, hB, e =>
    have h : N = [] := hN.mul_nil (e.trans fun p hp => by rw [mulM_comm]; rfl)
    subst h
    exact ⟨by show (0 : Int) = _ * 0; rw [Int.mul_zero], fun p _ => by rw [mulM_comm]; rfl⟩
  | s :: A', t :: B', hA, hB, e =>
    obtain ⟨N', hN'⟩ := PlainM.mul_head hA hB hN e
    have pA := pr_plain hA
    have pB := pr_plain hB
    have cA := cnt_pr hA (by simp)
    have cB := cnt_pr hB (by simp)
    have zA := scale_pr (s :: A')
    have zB := scale_pr (t :: B')
    -- the product of the rests, as often as both contents say
    have e1 : EqM n N (scaleM (czM (s :: A') * czM (t :: B')) (mulM (prM (s :: A')) (prM (t :: B')))) := fun p hp => by
      have h1 : mulM (s :: A') (t :: B') = scaleM (czM (s :: A')) (mulM (prM (s :: A')) (t :: B')) := by
        conv => lhs; rw [← zA]
        rw [mulM_scale_l]
      rw [e p hp, h1, coM_scale, coM_scale, mulM_comm (prM (s :: A')) (t :: B')]
      have h2 : mulM (t :: B') (prM (s :: A')) = scaleM (czM (t :: B')) (mulM (prM (t :: B')) (prM (s :: A'))) := by
        conv => lhs; rw [← zB]
        rw [mulM_scale_l]
      rw [h2, coM_scale, mulM_comm (prM (t :: B')), Int.mul_assoc]
    have hN0 : N ≠ [] := by rw [hN']; simp
    have hab : (czM (s :: A') * czM (t :: B')) ≠ 0 := by
      refine Int.mul_ne_zero (fun h => ?_) (fun h => ?_)
      · have := czM_abs (s :: A'); rw [h] at this; have := cntM_eq_zero hA (by simp); simp at *; omega
      · have := czM_abs (t :: B'); rw [h] at this; have := cntM_eq_zero hB (by simp); simp at *; omega
    have hdvd : ∀ u ∈ N, (czM (s :: A') * czM (t :: B')) ∣ u.2 := fun u hu => by
      have h1 := hN.co_mem u hu
      rw [e1 _ (hN.len u hu), coM_scale] at h1
      exact ⟨_, h1.symm⟩
    -- that many taken out
    generalize hz : czM (s :: A') * czM (t :: B') = z at *
    have hQ : scaleM z (N.map fun u => (u.1, u.2 / z)) = N := by
      unfold scaleM
      rw [List.map_map]
      conv => rhs; rw [← List.map_id N]
      refine List.map_congr_left fun u hu => ?_
      show (u.1, z * (u.2 / z)) = u
      rw [Int.mul_ediv_cancel' (hdvd u hu)]
    have eQ : EqM n (N.map fun u => (u.1, u.2 / z)) (mulM (prM (s :: A')) (prM (t :: B'))) := fun p hp => by
      have h1 := e1 p hp
      rw [← hQ, coM_scale, coM_scale] at h1
      exact Int.eq_of_mul_eq_mul_left hab h1
    have hc1 : cntM (N.map fun u => (u.1, u.2 / z)) = 1 := by
      have h0 : cntM (N.map fun u => (u.1, u.2 / z)) ≠ 0 := fun h => by
        have h1 := cntM_scale z (N.map fun u => (u.1, u.2 / z))
        rw [hQ, h, Nat.mul_zero] at h1
        have := cntM_eq_zero hN hN0
        omega
      by_cases h1 : cntM (N.map fun u => (u.1, u.2 / z)) = 1
      · exact h1
      · exfalso
        obtain ⟨p, hp, hpd⟩ := prime_in _ _ (Nat.le_refl _) (show 1 < cntM (N.map fun u => (u.1, u.2 / z)) by omega)
        have hall : ∀ u ∈ (N.map fun u => (u.1, u.2 / z)), (p : Int) ∣ u.2 := fun u hu => ndvd.2 (Nat.dvd_trans hpd (cntM_dvd hu))
        have key : ∀ {C : Mv}, cntM C = 1 → (∀ u ∈ C, (p : Int) ∣ u.2) → False := fun hC h => by
          have h2 : p ∣ cntM _ := dvd_cntM fun u hu => ndvd.1 (h u hu)
          rw [hC] at h2
          have := Nat.le_of_dvd (by omega) h2
          have := hp.1
          omega
        rcases gauss_prime hp pA pB eQ hall with h2 | h2
        · exact key cA h2
        · exact key cB h2
    have hcN : cntM N = z.natAbs := by
      have h1 := cntM_scale z (N.map fun u => (u.1, u.2 / z))
      rw [hQ, hc1, Nat.mul_one] at h1
      exact h1
    have hsz : czM N = z := by
      have hs0 := hA.ne s List.mem_cons_self
      have ht0 := hB.ne t List.mem_cons_self
      have hA0 : (0 : Int) < (cntM (s :: A') : Int) := by have := cntM_eq_zero hA (by simp); omega
      have hB0 : (0 : Int) < (cntM (t :: B') : Int) := by have := cntM_eq_zero hB (by simp); omega
      have h1 : czM N = if s.2 * t.2 < 0 then -(cntM N : Int) else (cntM N : Int) := by rw [hN']; rfl
      have h2 : czM (s :: A') = if s.2 < 0 then -(cntM (s :: A') : Int) else (cntM (s :: A') : Int) := rfl
      have h3 : czM (t :: B') = if t.2 < 0 then -(cntM (t :: B') : Int) else (cntM (t :: B') : Int) := rfl
      rw [h1, hcN]
      by_cases hsn : s.2 < 0 <;> by_cases htn : t.2 < 0
      · rw [if_pos hsn] at h2
        rw [if_pos htn] at h3
        rw [if_neg (Int.not_lt.2 (Int.le_of_lt (Int.mul_pos_of_neg_of_neg hsn htn))), ← hz, h2, h3, Int.neg_mul_neg]
        have := Int.mul_pos hA0 hB0
        omega
      · rw [if_pos hsn] at h2
        rw [if_neg htn] at h3
        rw [if_pos (Int.mul_neg_of_neg_of_pos hsn (by omega)), ← hz, h2, h3, Int.neg_mul]
        have := Int.mul_pos hA0 hB0
        omega
      · rw [if_neg hsn] at h2
        rw [if_pos htn] at h3
        rw [if_pos (Int.mul_neg_of_pos_of_neg (by omega) htn), ← hz, h2, h3, Int.mul_neg]
        have := Int.mul_pos hA0 hB0
        omega
      · rw [if_neg hsn] at h2
        rw [if_neg htn] at h3
        rw [if_neg (Int.not_lt.2 (Int.mul_nonneg (by omega) (by omega))), ← hz, h2, h3]
        have := Int.mul_pos hA0 hB0
        omega
    refine ⟨hsz, ?_⟩
    have h4 : prM N = N.map fun u => (u.1, u.2 / z) := by unfold prM; rw [hsz]
    rw [h4]
    exact eQ
end
end Cl
