/- Trial division as the document does it: the first monic one of a length, the next one as counted up, and what is left at the end. No program in sight. -/
import Derived.Test.YtpikakapflebkaaGreatFacT
namespace Cl
/-- The digits of x^d. -/
def oneAt (d : Nat) : List Int := (List.replicate (d + 1) 0).set d 1
theorem oneAt_length (d : Nat) : (oneAt d).length = d + 1 := by simp [oneAt]
theorem nth_oneAt (d i : Nat) : nth (oneAt d) i = if i = d then 1 else 0 := by
  unfold oneAt
  rw [nth_set (by simp)]
  split
  · rfl
  · unfold nth
    by_cases h : i < d + 1
    · simp [List.getD, h]
    · simp [List.getD, h]
theorem Next.eq_num {p : Int} {xs ys : List Int} {d i : Nat} (h : Next p xs ys d i) : numI p ys d = numI p xs d + 1 := h.num h.lt
/-- What is left to count. -/
def restN (p : Int) (xs : List Int) (d : Nat) : Nat := (p ^ d - numI p xs d).toNat
theorem restN_next {p : Int} (hp : 1 ≤ p) {xs ys : List Int} {d i : Nat} (h : Next p xs ys d i) (hd : Dig p ys d) : restN p ys d < restN p xs d := by
  have h1 := h.eq_num
  have h2 := numI_bd hp hd
  unfold restN
  omega
/-- Counting under way: the first k digits were the last ones. -/
def stepAt (xs : List Int) (d k : Nat) : List Int := tab (d + 1) (fun j => if j < k then 0 else nth xs j)
theorem stepAt_length (xs : List Int) (d k : Nat) : (stepAt xs d k).length = d + 1 := tab_length _ _
theorem stepAt_zero {xs : List Int} {d : Nat} (h : xs.length = d + 1) : stepAt xs d 0 = xs := by
  conv => rhs; rw [eq_tab xs, h]
  exact tab_congr fun i _ => if_neg (by omega)
theorem nth_stepAt {xs : List Int} {d k j : Nat} (hj : j < d + 1) : nth (stepAt xs d k) j = if j < k then 0 else nth xs j := by
  unfold stepAt; rw [nth_tab, if_pos hj]
theorem stepAt_set {xs : List Int} {d k : Nat} (hk : k < d) (v : Int) : ((stepAt xs d k).set k v).set k 0 = stepAt xs d (k + 1) := by
  rw [List.set_set]
  unfold stepAt
  rw [tab_set (by omega)]
  refine tab_congr fun i _ => ?_
  by_cases e : i = k
  · rw [if_pos e, if_pos (by omega)]
  · rw [if_neg e]
    by_cases e2 : i < k
    · rw [if_pos e2, if_pos (by omega)]
    · rw [if_neg e2, if_neg (by omega)]
theorem stepAt_next {p : Int} {xs : List Int} {d k : Nat} (hl : xs.length = d + 1) (hk : k < d) (h : ∀ j, j < k → nth xs j = p - 1) : Next p xs ((stepAt xs d k).set k (nth xs k + 1)) d k := by
  have hn : ∀ j, nth ((stepAt xs d k).set k (nth xs k + 1)) j = if j = k then nth xs k + 1 else if j < d + 1 then (if j < k then 0 else nth xs j) else 0 := fun j => by
    rw [nth_set (by rw [stepAt_length]; omega)]
    split
    · rfl
    · unfold stepAt; rw [nth_tab]
  refine ⟨hk, fun j hj => ⟨h j hj, ?_⟩, ?_, fun j hj => ?_⟩
  · rw [hn, if_neg (by omega), if_pos (by omega), if_pos hj]
  · rw [hn, if_pos rfl]
  · rw [hn, if_neg (by omega)]
    by_cases e : j < d + 1
    · rw [if_pos e, if_neg (by omega)]
    · rw [if_neg e, nth_ge (by omega)]
namespace Poly
variable {q : Prm}
theorem pl_mon {xs : List Int} {d : Nat} (hl : xs.length = d + 1) (hd : Dig q.p xs d) (h1 : nth xs d = 1) : (toP q xs).Mon ∧ (toP q xs).len = d + 1 ∧ fromP (toP q xs) = xs := by
  have hp := q.pr.two
  have h : IsPl q.p xs := by
    refine ⟨fun i => ?_, fun _ => ?_⟩
    · rcases Nat.lt_trichotomy i d with h | h | h
      · exact hd i h
      · subst h; rw [h1]; omega
      · rw [nth_ge (by omega)]; omega
    · rw [hl, Nat.add_sub_cancel, h1]; omega
  have hlen : (toP q xs).len = d + 1 := by rw [h.len, hl]
  refine ⟨?_, hlen, h.eq_fromP⟩
  show (toP q xs).co ((toP q xs).len - 1) = 1
  rw [hlen, Nat.add_sub_cancel, co_toP, h1]
  exact Zp.of_one
/-- x^d, the first monic one of its length. -/
noncomputable def G (q : Prm) (d : Nat) : Poly (Zp q) := toP q (oneAt d)
theorem oneAt_dig (p : Int) (hp : 2 ≤ p) (d : Nat) : Dig p (oneAt d) d := fun i hi => by rw [nth_oneAt, if_neg (by omega)]; omega
theorem G_spec (q : Prm) (d : Nat) : (G q d).Mon ∧ (G q d).len = d + 1 ∧ fromP (G q d) = oneAt d :=
  pl_mon (oneAt_length d) (oneAt_dig q.p q.pr.two d) (by rw [nth_oneAt, if_pos rfl])
theorem G_dig (q : Prm) (d i : Nat) (hi : i < d) : nth (fromP (G q d)) i = 0 := by rw [(G_spec q d).2.2, nth_oneAt, if_neg (by omega)]
theorem G_first {q : Prm} {d : Nat} {f : Poly (Zp q)} (hf : f.Mon) (hl : d + 1 ≤ f.len) : ¬ Bef f (G q d) :=
  first_le (G_spec q d).1 (G_spec q d).2.1 (G_dig q d) hf hl
/-- The next one. -/
theorem next_ok {g : Poly (Zp q)} {ys : List Int} {d i : Nat} (hg : g.Mon) (lg : g.len = d + 1) (h : Next q.p (fromP g) ys d i) (hb : nth ys i < q.p) (hl : ys.length = d + 1) :
    (toP q ys).Mon ∧ (toP q ys).len = d + 1 ∧ fromP (toP q ys) = ys ∧ Bef g (toP q ys) ∧ (∀ f : Poly (Zp q), f.Irr → ¬ Bef f g → f ≠ g → ¬ Bef f (toP q ys)) ∧ restN q.p ys d < restN q.p (fromP g) d := by
  have hp := q.pr.two
  have hd : Dig q.p ys d := fun j hj => by
    rcases Nat.lt_trichotomy j i with h1 | h1 | h1
    · rw [(h.low j h1).2]; omega
    · subst h1
      have := h.at_
      have := (fromP_dig g d j hj).1
      omega
    · rw [h.high j h1]; exact fromP_dig g d j hj
  have h1 : nth ys d = 1 := by
    rw [h.high d h.lt]
    have := fromP_mon9 hg
    rwa [lg, Nat.add_sub_cancel] at this
  obtain ⟨a1, a2, a3⟩ := pl_mon hl hd h1
  have h' : Next q.p (fromP g) (fromP (toP q ys)) d i := by rw [a3]; exact h
  refine ⟨a1, a2, a3, ?_, fun f hf h2 h3 => next_le hg a1 lg a2 h' hf.mon h2 h3, restN_next (by omega) h hd⟩
  rw [bef_mon hg a1 lg a2, h'.eq_num]
  omega
/-- Behind the last one. -/
theorem last_ok {g : Poly (Zp q)} {d : Nat} (hg : g.Mon) (lg : g.len = d + 1) (h : ∀ i, i < d → nth (fromP g) i = q.p - 1) :
    Bef g (G q (d + 1)) ∧ ∀ f : Poly (Zp q), f.Irr → ¬ Bef f g → f ≠ g → ¬ Bef f (G q (d + 1)) :=
  ⟨Bef.of_len (by rw [lg, (G_spec q (d + 1)).2.1]; omega), fun _ hf h2 h3 => G_first hf.mon (last_le hg lg h hf.mon h2 h3)⟩
theorem Trial.start {m : Poly (Zp q)} (hm : m.Mon) : Trial m [] m (G q 1) where
  mon := hm
  eq := by rw [powF_nil, CRing.one_mul]
  ord := List.Pairwise.nil
  irr := fun x hx => by cases hx
  bef := fun x hx => by cases hx
  no := fun f hf _ => G_first hf.mon (by have := hf.len; omega)
theorem Trial.powF_mon {m r g : Poly (Zp q)} {L : List (Poly (Zp q) × Nat)} (h : Trial m L r g) : (powF L).Mon := Poly.powF_mon L fun x hx => (h.irr x hx).1.mon
theorem Trial.fac {m r g : Poly (Zp q)} {L : List (Poly (Zp q) × Nat)} (h : Trial m L r g) : IsFac (powF L) L :=
  IsFac.of_powF h.powF_mon.ne h.ord h.irr h.powF_mon.monic_eq.symm
theorem Trial.lens {m r g : Poly (Zp q)} {L : List (Poly (Zp q) × Nat)} (h : Trial m L r g) (hm : m.len ≤ 65) : r.len ≤ 65 ∧ (powF L).len ≤ 65 ∧ L.length ≤ 65 ∧ ∀ x ∈ L, 0 < x.1.len ∧ x.1.len ≤ 65 ∧ x.2 ≤ 65 := by
  have h1 := (len_mul h.powF_mon.ne h.mon.ne).1
  rw [h.eq] at h1
  have h2 := len_pos h.powF_mon.ne
  have h3 := len_pos h.mon.ne
  have h4 : (powF L).len ≤ 65 := by omega
  refine ⟨by omega, h4, by have := h.fac.len h.powF_mon.ne; omega, fun x hx => ?_⟩
  have := h.fac.small h.powF_mon.ne hx
  omega
/-- At the end: one is left, or what is left is irreducible. -/
theorem Trial.done {m r : Poly (Zp q)} {L : List (Poly (Zp q) × Nat)} {d : Nat} (h : Trial m L r (G q d)) (hd : r.len ≤ 2 * d) : (¬ 1 < r.len → IsFac m L) ∧ (1 < r.len → r.Irr) := by
  refine ⟨fun h1 => ?_, fun h1 => ?_⟩
  · have h2 := h.mon.one_of_len (by have := len_pos h.mon.ne; omega)
    have h3 := h.eq
    rw [h2, CRing.mul_one] at h3
    rw [← h3]
    exact h.fac
  · refine rest_irr h.mon h1 hd fun f hf hfr => ?_
    have h2 := h.no f hf hfr
    rcases Nat.lt_or_ge f.len (d + 1) with h3 | h3
    · exact absurd (Bef.of_len (by rw [(G_spec q d).2.1]; exact h3)) h2
    · exact h3
/-- One division. -/
theorem div_step {r g : Poly (Zp q)} (hr : r.Mon) (hg : g.Mon) (hl : 1 < g.len) : (g ∣ r → r = g * quo r g ∧ (quo r g).Mon ∧ (quo r g).len < r.len ∧ rem r g = 0 ∧ g.len ≤ r.len) ∧ (¬ g ∣ r → 0 < (rem r g).len) := by
  refine ⟨fun h => ?_, fun h => ?_⟩
  · have h1 := quo_mul hg.ne h
    have h2 := quo_mon hr hg h
    refine ⟨by rw [CRing.mul_comm]; exact h1.symm, h2, ?_, (rem_zero_iff hg.ne).2 h, len_le_of_dvd h hr.ne⟩
    have h3 := (len_mul h2.ne hg.ne).1
    rw [h1] at h3
    have := len_pos h2.ne
    omega
  · exact len_pos fun h0 => h ((rem_zero_iff hg.ne).1 h0)
/-- g is pulled out as often as it goes. -/
structure Pulled (r0 g r : Poly (Zp q)) (j : Nat) : Prop where
  mon : r.Mon
  eq : r0 = g ^ j * r
theorem Pulled.start {r g : Poly (Zp q)} (hr : r.Mon) : Pulled r g r 0 := ⟨hr, by rw [CRing.pow_zero, CRing.one_mul]⟩
theorem Pulled.step {r0 g r : Poly (Zp q)} {j : Nat} (h : Pulled r0 g r j) (hg : g.Mon) (hl : 1 < g.len) (hd : g ∣ r) : Pulled r0 g (quo r g) (j + 1) := by
  obtain ⟨h1, h2, _⟩ := (div_step h.mon hg hl).1 hd
  refine ⟨h2, ?_⟩
  rw [CRing.pow_succ, CRing.mul_assoc, ← h1]
  exact h.eq
theorem pow_len_ge {g : Poly (Zp q)} (hg : g.Mon) (hl : 1 < g.len) (j : Nat) : j + 1 ≤ (g ^ j).len := by
  induction j with
  | zero => rw [CRing.pow_zero, len_one]; omega
  | succ j ih => rw [CRing.pow_succ, (len_mul (pow_ne hg.ne j) hg.ne).1]; omega
theorem Pulled.len {r0 g r : Poly (Zp q)} {j : Nat} (h : Pulled r0 g r j) (hg : g.Mon) (hl : 1 < g.len) : r.len + j ≤ r0.len := by
  have h1 := (len_mul (pow_ne hg.ne j) h.mon.ne).1
  rw [← h.eq] at h1
  have h2 := pow_len_ge hg hl j
  omega
theorem Trial.mid0 {m r0 g : Poly (Zp q)} {L : List (Poly (Zp q) × Nat)} (h : Trial m L r0 g) {r : Poly (Zp q)} (hp : Pulled r0 g r 0) (hn : ¬ g ∣ r) :
    ∀ g' : Poly (Zp q), Bef g g' → (∀ f : Poly (Zp q), f.Irr → ¬ Bef f g → f ≠ g → ¬ Bef f g') → Trial m L r g' := fun g' h1 h2 => by
  have h3 := hp.eq
  rw [CRing.pow_zero, CRing.one_mul] at h3
  subst h3
  exact h.pass hn h1 h2
theorem Trial.mid1 {m r0 g : Poly (Zp q)} {L : List (Poly (Zp q) × Nat)} (h : Trial m L r0 g) (hg : g.Mon) (hl : 1 < g.len) {r : Poly (Zp q)} {j : Nat} (hj : 1 ≤ j) (hp : Pulled r0 g r j) (hn : ¬ g ∣ r) :
    ∀ g' : Poly (Zp q), Bef g g' → (∀ f : Poly (Zp q), f.Irr → ¬ Bef f g → f ≠ g → ¬ Bef f g') → Trial m (L ++ [(g, j)]) r g' := fun g' h1 h2 => by
  have hd : g ∣ r0 := by
    obtain ⟨i, rfl⟩ : ∃ i, j = i + 1 := ⟨j - 1, by omega⟩
    refine ⟨g ^ i * r, ?_⟩
    rw [hp.eq, CRing.pow_succ, CRing.mul_comm (g ^ i) g, CRing.mul_assoc]
  exact h.pull (h.is_irr hg hl hd) hj hp.eq hn h1 h2
end Poly
end Cl
