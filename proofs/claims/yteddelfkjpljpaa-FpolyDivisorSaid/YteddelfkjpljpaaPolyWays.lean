/- How the programs divide: what a round makes of the rest and the quotient. No program in sight. -/
import Derived.Test.YteddelfkjpljpaaPolyList
import Derived.Test.YteddelfkjpljpaaPolyEuc
namespace Cl
open CRing Poly

/-- A list less so many times another one, moved n places up; the first k of them are done. -/
def subAt (r b : List Int) (c : Int) (n : Nat) (p : Int) (k : Nat) : List Int := tab r.length (fun i => if n ≤ i ∧ i < n + k then (nth r i + (p - c) * nth b (i - n)) % p else nth r i)
@[simp] theorem subAt_length (r b : List Int) (c : Int) (n : Nat) (p : Int) (k : Nat) : (subAt r b c n p k).length = r.length := tab_length _ _
theorem subAt_zero (r b : List Int) (c : Int) (n : Nat) (p : Int) : subAt r b c n p 0 = r := by
  conv => rhs; rw [eq_tab r]
  exact tab_congr fun i _ => if_neg (by omega)
theorem nth_subAt (r b : List Int) (c : Int) (n : Nat) (p : Int) (k : Nat) {i : Nat} (h : i < r.length) : nth (subAt r b c n p k) i = if n ≤ i ∧ i < n + k then (nth r i + (p - c) * nth b (i - n)) % p else nth r i := by
  unfold subAt; rw [nth_tab, if_pos h]
theorem nth_subAt_at (r b : List Int) (c : Int) (n : Nat) (p : Int) (k : Nat) (h : n + k < r.length) : nth (subAt r b c n p k) (n + k) = nth r (n + k) := by
  rw [nth_subAt r b c n p k h, if_neg (by omega)]
theorem subAt_set (r b : List Int) (c : Int) (n : Nat) (p : Int) (k : Nat) (h : n + k < r.length) : (subAt r b c n p k).set (n + k) ((nth r (n + k) + (p - c) * nth b k) % p) = subAt r b c n p (k + 1) := by
  unfold subAt
  rw [tab_set h]
  refine tab_congr fun i _ => ?_
  by_cases e : i = n + k
  · subst e; rw [if_pos rfl, if_pos (by omega), show n + k - n = k by omega]
  · rw [if_neg e]
    by_cases h1 : n ≤ i ∧ i < n + k
    · rw [if_pos h1, if_pos (by omega)]
    · rw [if_neg h1, if_neg (by omega)]
theorem subAt_pl {r b : List Int} {c : Int} {n : Nat} {p : Int} {k : Nat} (hp : 1 ≤ p) (h : Pl p r) : Pl p (subAt r b c n p k) := by
  refine Pl.of_tab hp fun i _ => ?_
  split
  · exact emod_bd _ hp
  · exact h i

section
variable {q : Prm}
theorem toP_subAt {r b : List Int} {c : Int} {n : Nat} (hn : n + b.length ≤ r.length) : toP q (subAt r b c n q.p b.length) = toP q r - mono n (Zp.of q c) * toP q b := Poly.ext fun i => by
  rw [co_sub, co_mono_mul, co_toP, co_toP]
  by_cases hi : i < r.length
  · rw [nth_subAt _ _ _ _ _ _ hi]
    by_cases h1 : n ≤ i
    · rw [if_pos h1]
      by_cases h2 : i < n + b.length
      · rw [if_pos ⟨h1, h2⟩, co_toP, ← Zp.of_mul, ← Zp.of_sub]
        refine Zp.of_cg ((Cg.emod_left _ _).trans ⟨nth b (i - n), by grind⟩)
      · rw [if_neg (by omega), co_toP, nth_ge (xs := b) (by omega), Zp.of_zero, CRing.mul_zero, CRing.sub_zero]
    · rw [if_neg (by omega), if_neg h1, CRing.sub_zero]
  · rw [nth_ge (xs := subAt r b c n q.p b.length) (by simp; omega), nth_ge (xs := r) (by omega), if_pos (by omega), co_toP, nth_ge (xs := b) (by omega), Zp.of_zero, CRing.mul_zero, CRing.sub_zero]
theorem toP_set {xs : List Int} {n : Nat} (hn : n < xs.length) (h0 : nth xs n = 0) (c : Int) : toP q (xs.set n c) = toP q xs + mono n (Zp.of q c) := Poly.ext fun i => by
  rw [co_add, co_mono, co_toP, co_toP, nth_set hn]
  by_cases e : i = n
  · rw [if_pos e, if_pos e, e, h0, Zp.of_zero, CRing.zero_add]
  · rw [if_neg e, if_neg e, CRing.add_zero]
theorem set_pl {p : Int} {xs : List Int} {n : Nat} {c : Int} (h : Pl p xs) (hc : 0 ≤ c ∧ c < p) : Pl p (xs.set n c) := by
  intro j
  by_cases hi : n < xs.length
  · rw [nth_set hi]; split
    · exact hc
    · exact h j
  · rw [List.set_eq_of_length_le (by omega)]; exact h j

/-- The program's way: m rounds are left. -/
structure DivSt (q : Prm) (a b : List Int) (m : Nat) (qs r : List Int) : Prop where
  eq : toP q a = toP q qs * toP q b + toP q r
  zr : ∀ i, m + b.length ≤ i + 1 → nth r i = 0
  zq : ∀ i, i < m → nth qs i = 0
  pr : Pl q.p r
  pq : Pl q.p qs
  lr : r.length = a.length
  lq : qs.length = a.length - b.length + 1
theorem DivSt.start {a b : List Int} (ha : Pl q.p a) (hl : b.length ≤ a.length) : DivSt q a b (a.length - b.length + 1) (List.replicate (a.length - b.length + 1) 0) a := by
  have hz : ∀ i, nth (List.replicate (a.length - b.length + 1) 0) i = 0 := fun i => by
    by_cases h : i < a.length - b.length + 1
    · rw [nth_lt (by simpa using h)]; simp
    · exact nth_ge (by simp; omega)
  refine ⟨?_, fun i hi => nth_ge (by omega), fun i _ => hz i, ha, fun i => ?_, rfl, by simp⟩
  · have : toP q (List.replicate (a.length - b.length + 1) 0) = 0 := Poly.ext fun i => by rw [co_toP, hz]; rfl
    rw [this, CRing.zero_mul, CRing.zero_add]
  · rw [hz]; have := q.pr.two; omega
theorem DivSt.step {a b : List Int} {m : Nat} {qs r : List Int} (h : DivSt q a b (m + 1) qs r) (hb : IsPl q.p b) (hb0 : 0 < b.length) (hm : m + b.length ≤ a.length) {top c : Int} (ht : top = invm (nth b (b.length - 1)) q.p)
    (hc : c = nth r (m + b.length - 1) * top % q.p) : DivSt q a b m (qs.set m c) (subAt r b c m q.p b.length) := by
  have hp := q.pr.two
  have hcb : 0 ≤ c ∧ c < q.p := by rw [hc]; exact emod_bd _ (by omega)
  have hlr := h.lr
  refine ⟨?_, fun i hi => ?_, fun i hi => ?_, subAt_pl (by omega) h.pr, set_pl h.pq hcb, by simp [hlr], by simp [h.lq]⟩
  · have hlq := h.lq
    rw [toP_set (by omega) (h.zq m (by omega)), toP_subAt (by omega), h.eq, CRing.add_mul, CRing.sub_def]
    generalize toP q qs * toP q b = x
    generalize mono m (Zp.of q c) * toP q b = y
    rw [CRing.add_assoc, CRing.add_left_comm y, CRing.add_neg, CRing.add_zero]
  · by_cases hi2 : i < r.length
    · rw [nth_subAt _ _ _ _ _ _ hi2]
      by_cases e : i + 1 = m + b.length
      · rw [if_pos (by omega), show i - m = b.length - 1 by omega, ← Cg.zero_iff_emod]
        have hne : ¬ Cg q.p (nth b (b.length - 1)) 0 := fun hz => by
          have h1 := hb.pl (b.length - 1)
          rw [Cg.zero_iff_emod, Int.emod_eq_of_lt h1.1 h1.2] at hz
          exact hb.top hb0 hz
        have hs := (invm_spec q.pr hne).2.2
        rw [← ht] at hs
        have e2 : m + b.length - 1 = i := by omega
        rw [e2] at hc
        have h3 : Cg q.p c (nth r i * top) := by rw [hc]; exact Cg.emod_left _ _
        have h4 : Cg q.p (c * nth b (b.length - 1)) (nth r i * 1) := ((h3.mul (Cg.refl _ _)).trans (Cg.of_eq (by grind : nth r i * top * nth b (b.length - 1) = nth r i * (nth b (b.length - 1) * top)))).trans ((Cg.refl _ _).mul hs)
        obtain ⟨k, hk⟩ := h4
        exact ⟨nth b (b.length - 1) - k, by grind⟩
      · rw [if_neg (by omega)]; exact h.zr i (by omega)
    · exact nth_ge (by simp; omega)
  · have hlq := h.lq
    rw [nth_set (by omega), if_neg (by omega)]; exact h.zq i (by omega)
theorem DivSt.done {a b : List Int} {qs r : List Int} (h : DivSt q a b 0 qs r) (hb : IsPl q.p b) (hb0 : 0 < b.length) : quo (toP q a) (toP q b) = toP q qs ∧ rem (toP q a) (toP q b) = toP q r := by
  refine div_eq h.eq ?_
  rw [hb.len]
  have : (toP q r).Sh (b.length - 1) := fun i hi => by rw [co_toP, h.zr i (by omega)]; rfl
  have := len_le this
  omega

/-- The document's way. -/
structure RDivSt (q : Prm) (A B : Poly (Zp q)) (qs : List Int) (R : Poly (Zp q)) : Prop where
  eq : A = toP q qs * B + R
  zq : ∀ i, i + B.len ≤ R.len → nth qs i = 0
  pq : Pl q.p qs
  lq : qs.length = A.len + 1
  lr : R.len ≤ A.len
theorem RDivSt.start (A B : Poly (Zp q)) : RDivSt q A B (List.replicate (A.len + 1) 0) A := by
  have hz : ∀ i, nth (List.replicate (A.len + 1) 0) i = 0 := fun i => by
    by_cases h : i < A.len + 1
    · rw [nth_lt (by simpa using h)]; simp
    · exact nth_ge (by simp; omega)
  refine ⟨?_, fun i _ => hz i, fun i => ?_, by simp, Nat.le_refl _⟩
  · have : toP q (List.replicate (A.len + 1) 0) = 0 := Poly.ext fun i => by rw [co_toP, hz]; rfl
    rw [this, CRing.zero_mul, CRing.zero_add]
  · rw [hz]; have := q.pr.two; omega
theorem RDivSt.step {A B R : Poly (Zp q)} {qs : List Int} (h : RDivSt q A B qs R) (hB : B ≠ 0) (hl : B.len ≤ R.len) {c : Int} (hcb : 0 ≤ c ∧ c < q.p) (hc : Zp.of q c = R.lc * CField.inv B.lc) :
    RDivSt q A B (qs.set (R.len - B.len) c) (R - mono (R.len - B.len) (Zp.of q c) * B) ∧ (R - mono (R.len - B.len) (Zp.of q c) * B).len < R.len := by
  have hBp := len_pos hB
  have hlq := h.lq
  have hlr := h.lr
  have hlen : (R - mono (R.len - B.len) (Zp.of q c) * B).Sh (R.len - 1) := fun i hi => by
    rw [co_sub, co_mono_mul, if_pos (by omega)]
    by_cases e : i = R.len - 1
    · have e2 : i - (R.len - B.len) = B.len - 1 := by omega
      rw [e2, e, hc]
      show R.lc - R.lc * CField.inv B.lc * B.lc = 0
      rw [CRing.mul_assoc, CField.inv_mul (lc_ne hB), CRing.mul_one, CRing.sub_self]
    · rw [len_sh R i (by omega), len_sh B _ (by omega), CRing.mul_zero, CRing.sub_self]
  have hlt := len_le hlen
  refine ⟨⟨?_, fun i hi => ?_, set_pl h.pq hcb, by simp [hlq], by omega⟩, by omega⟩
  · rw [toP_set (by omega) (h.zq _ (by omega))]
    conv => lhs; rw [h.eq]
    rw [CRing.add_mul, CRing.sub_def]
    generalize toP q qs * B = x
    generalize mono (R.len - B.len) (Zp.of q c) * B = y
    rw [CRing.add_assoc, CRing.add_left_comm y, CRing.add_neg, CRing.add_zero]
  · rw [nth_set (by omega), if_neg (by omega)]; exact h.zq i (by omega)
theorem RDivSt.done {A B R : Poly (Zp q)} {qs : List Int} (h : RDivSt q A B qs R) (hl : R.len < B.len) : quo A B = toP q qs ∧ rem A B = R := div_eq h.eq hl
/-- So many noughts, and then a list times a number. -/
def movedL (n : Nat) (ys : List Int) (c p : Int) : List Int := tab (n + ys.length) (fun i => if i < n then 0 else nth ys (i - n) * c % p)
theorem toP_movedL (n : Nat) (ys : List Int) (c : Int) : toP q (movedL n ys c q.p) = mono n (Zp.of q c) * toP q ys := Poly.ext fun i => by
  rw [co_mono_mul, co_toP]
  unfold movedL
  rw [nth_tab]
  by_cases h : n ≤ i
  · rw [if_pos h]
    by_cases h2 : i < n + ys.length
    · rw [if_pos h2, if_neg (by omega), co_toP, ← Zp.of_mul]
      exact Zp.of_cg ((Cg.emod_left _ _).trans (Cg.of_eq (Int.mul_comm _ _)))
    · rw [if_neg h2, co_toP, nth_ge (xs := ys) (by omega), Zp.of_zero, CRing.mul_zero]
  · rw [if_neg h]; split
    · rw [if_pos (by omega)]; rfl
    · rfl
/-- Fermat's inverse. -/
theorem fermat_inv {p : Int} (hp : Pr p) {a : Int} (ha : 0 < a ∧ a < p) (h2 : 2 < p) : powm a (p - 2).toNat p = invm a p := by
  have hne : ¬ Cg p a 0 := fun h => by rw [Cg.zero_iff_emod, Int.emod_eq_of_lt (by omega) ha.2] at h; omega
  have hb := powm_bd a (p - 2).toNat (p := p) (by omega)
  refine invm_unique hp hb.1 hb.2 ?_
  have h1 : Cg p (a * powm a (p - 2).toNat p) (a ^ ((p - 2).toNat + 1)) := ((Cg.refl p a).mul (powm_cg a _ p)).trans (Cg.of_eq (by rw [Int.pow_succ, Int.mul_comm]))
  refine h1.trans ?_
  have h3 : Cg p (a * a ^ ((p - 2).toNat + 1)) (a * 1) := by
    have e : a * a ^ ((p - 2).toNat + 1) = a ^ p.toNat := by
      rw [show p.toNat = (p - 2).toNat + 1 + 1 by omega, Int.pow_succ a ((p - 2).toNat + 1), Int.mul_comm]
    rw [e, Int.mul_one]
    have h4 := fermat hp a
    have h5 := powm_cg a p.toNat p
    rw [h4] at h5
    exact h5.symm.trans (red_cg (by omega))
  exact hp.cancel hne h3
end
end Cl
