/- Plain facts for the matrices' statements: plain rows are plain again; what they make nought is made nought, and how many; sums go through. No program in sight. -/
import Derived.Test.YthpkpnpkkflfpaaNull
import Derived.Test.YthpkpnpkkflfpaaSpanRef
namespace Cl
open CRing (sum sum_congr sum_add mul_sum sum_mul sum_single sum_succ sum_eq_zero sum_comm)

theorem dotTo_cg (row v : List Int) {p : Int} (hp : 1 ≤ p) (k : Nat) : Cg p (dotTo row v p k) (sum k (fun i => nth row i * nth v i)) := by
  induction k with
  | zero => exact Cg.refl _ _
  | succ k ih =>
    rw [dotTo_succ, sum_succ]
    exact (Cg.emod_left _ _).trans (ih.add ((red_cg hp).mul (red_cg hp)))
theorem dotTo_zero {row v : List Int} {p : Int} (hp : 1 ≤ p) {k : Nat} (h : Cg p (sum k (fun i => nth row i * nth v i)) 0) : dotTo row v p k = 0 := by
  have hb := dotTo_bd row v hp k
  exact ((dotTo_cg row v hp k).trans h).eq_of_lt hb.1 hb.2 (by omega) (by omega)

/-- The numbers of a vector on the way. -/
theorem putTo_at {e : List (List Int)} {n : Nat} {p : Int} {c : Nat} (hc : c < n) (hl : ∀ k, k < e.length → leadN (rAt e k) < n) (hd : ∀ j k, j < k → k < e.length → leadN (rAt e j) < leadN (rAt e k)) {K : Nat} (hK : K ≤ e.length) :
    (∀ i, (∀ k, k < K → leadN (rAt e k) ≠ i) → nth (putTo e n p c K) i = if i = c then 1 else 0) ∧ ∀ k, k < K → nth (putTo e n p c K) (leadN (rAt e k)) = red (-(nth (rAt e k) c)) p := by
  induction K with
  | zero =>
    refine ⟨fun i _ => ?_, fun k hk => absurd hk (by omega)⟩
    unfold putTo
    rw [nth_set (by simpa using hc)]
    split
    · rfl
    · by_cases hi : i < n
      · rw [nth_lt (by simpa using hi)]; simp
      · exact nth_ge (by simp; omega)
  | succ K ih =>
    obtain ⟨h1, h2⟩ := ih (by omega)
    have hlt := hl K (by omega)
    refine ⟨fun i hi => ?_, fun k hk => ?_⟩
    · unfold putTo
      rw [nth_set (by rw [putTo_length]; exact hlt), if_neg (fun e => hi K (by omega) e.symm)]
      exact h1 i fun k hk => hi k (by omega)
    · unfold putTo
      rw [nth_set (by rw [putTo_length]; exact hlt)]
      by_cases e : k = K
      · subst e; rw [if_pos rfl]
      · have := hd k K (by omega) (by omega)
        rw [if_neg (by omega)]
        exact h2 k (by omega)
theorem sum_two {n a b : Nat} {f : Nat → Int} (ha : a < n) (hb : b < n) (hne : a ≠ b) (h : ∀ i, i < n → i ≠ a → i ≠ b → f i = 0) : sum n f = f a + f b := by
  have e : sum n f = sum n (fun i => (if i = a then f a else 0) + (if i = b then f b else 0)) := sum_congr fun i hi => by
    by_cases e1 : i = a
    · subst e1; rw [if_pos rfl, if_neg hne, Int.add_zero]
    · by_cases e2 : i = b
      · subst e2; rw [if_neg e1, if_pos rfl, Int.zero_add]
      · rw [if_neg e1, if_neg e2, h i hi e1 e2]; rfl
  have e1 : sum n (fun i => if i = a then f a else 0) = f a := by rw [sum_single ha (fun i _ hne => if_neg hne), if_pos rfl]
  have e2 : sum n (fun i => if i = b then f b else 0) = f b := by rw [sum_single hb (fun i _ hne => if_neg hne), if_pos rfl]
  rw [e, sum_add, e1, e2]

/-- A plain row makes a vector of its free column nought. -/
theorem row_null {e : List (List Int)} {n : Nat} {p : Int} (hp : 1 ≤ p) {O : Nat → List Int} {K : Nat} (hr : Rref n p K O) (he : e = rowsTab K O) {c : Nat} (hc : c < n) (hf : freeTo e c K = true) {k : Nat} (hk : k < K) :
    Cg p (sum n (fun i => nth (O k) i * nth (putTo e n p c K) i)) 0 := by
  have hel : e.length = K := by rw [he, rowsTab_length]
  have hre : ∀ i, i < K → rAt e i = O i := fun i hi => by rw [he, rAt_rowsTab, if_pos hi]
  have hfr := freeTo_iff.1 hf
  obtain ⟨h1, h2⟩ := putTo_at (e := e) (n := n) (p := p) hc (fun k hk => by rw [hel] at hk; rw [hre k hk]; exact hr.lt k hk) (fun j k hj hk => by rw [hel] at hk; rw [hre j (by omega), hre k hk]; exact hr.mono j k hj hk) (K := K) (by omega)
  have hck : c ≠ leadN (O k) := fun h => hfr k hk (by rw [hre k hk, h])
  rw [sum_two hc (hr.lt k hk) hck]
  · rw [h1 c (fun i hi => hfr i hi), if_pos rfl, hr.one k hk]
    have := h2 k hk
    rw [hre k hk] at this
    rw [this]
    exact ((Cg.refl _ _).add ((Cg.refl p 1).mul (red_cg hp))).trans (Cg.of_eq (by omega))
  · intro i hi hic hil
    by_cases h : ∃ j, j < K ∧ leadN (O j) = i
    · obtain ⟨j, hj, rfl⟩ := h
      have hjk : k ≠ j := fun e => hil (by rw [e])
      show nth (O k) (leadN (O j)) * _ = 0
      rw [hr.alone k j hk hj hjk, Int.zero_mul]
    · show _ * nth (putTo e n p c K) i = 0
      rw [h1 i (fun j hj e2 => h ⟨j, hj, by rw [← hre j hj]; exact e2⟩), if_neg hic, Int.mul_zero]
/-- What rows span makes it nought too. -/
theorem span_null {p : Int} {n K : Nat} {O : Nat → List Int} {v : List Int} (hr : Rref n p K O) (h : ∀ k, k < K → Cg p (sum n (fun i => nth (O k) i * nth v i)) 0) {u : Nat → Int} (hu : Sp p n (Rs K O) u) :
    Cg p (sum n (fun i => u i * nth v i)) 0 := by
  have he := hr.expand hu
  have h1 : Cg p (sum n (fun i => u i * nth v i)) (sum n (fun i => sum K (fun k => u (leadN (O k)) * nth (O k) i) * nth v i)) := sum_cg fun i hi => (he i hi).mul (Cg.refl _ _)
  have h2 : sum n (fun i => sum K (fun k => u (leadN (O k)) * nth (O k) i) * nth v i) = sum K (fun k => u (leadN (O k)) * sum n (fun i => nth (O k) i * nth v i)) := by
    rw [sum_congr (g := fun i => sum K (fun k => u (leadN (O k)) * nth (O k) i * nth v i)) (fun i _ => sum_mul _ _ _), sum_comm]
    refine sum_congr fun k _ => ?_
    rw [mul_sum]
    exact sum_congr fun i _ => Int.mul_assoc _ _ _
  rw [h2] at h1
  refine h1.trans (sum_cg_zero fun k hk => ?_)
  exact ((Cg.refl _ _).mul (h k hk)).trans (Cg.of_eq (Int.mul_zero _))

theorem filter_eq {n : Nat} {P Q : Nat → Bool} (h : ∀ i, i < n → P i = Q i) : ((List.range n).filter P).length = ((List.range n).filter Q).length := by
  congr 1
  refine List.filter_congr fun i hi => ?_
  exact h i (List.mem_range.1 hi)
theorem filter_ne (n : Nat) (P : Nat → Bool) {x : Nat} (hx : x < n) (hP : P x = true) : ((List.range n).filter (fun c => P c && c != x)).length + 1 = ((List.range n).filter P).length := by
  induction n with
  | zero => omega
  | succ n ih =>
    rw [List.range_succ, List.filter_append, List.filter_append, List.length_append, List.length_append]
    by_cases e : x = n
    · subst e
      have h1 : ((List.range x).filter (fun c => P c && c != x)).length = ((List.range x).filter P).length := filter_eq fun i hi => by
        have : (i != x) = true := by simp; omega
        rw [this, Bool.and_true]
      rw [h1]
      simp [List.filter_cons, hP]
    · have h1 := ih (by omega)
      have h2 : (n != x) = true := by simp; omega
      have h3 : [n].filter (fun c => P c && c != x) = [n].filter P := by simp [List.filter_cons, h2]
      rw [h3]
      omega
/-- As many free columns as columns less rows. -/
theorem nullTo_count {e : List (List Int)} {n : Nat} {p : Int} (hl : ∀ k, k < e.length → leadN (rAt e k) < n) (hd : ∀ j k, j < k → k < e.length → leadN (rAt e j) < leadN (rAt e k)) : (nullTo e n p n).length + e.length = n := by
  have key : ∀ K, K ≤ e.length → ((List.range n).filter (fun c => freeTo e c K)).length + K = n := by
    intro K
    induction K with
    | zero =>
      intro _
      rw [List.filter_eq_self.2 (fun i _ => freeTo_zero e i)]
      simp
    | succ K ih =>
      intro hK
      have h1 := ih (by omega)
      have h2 : ∀ c, freeTo e c (K + 1) = (freeTo e c K && c != leadN (rAt e K)) := fun c => by
        by_cases hh : leadN (rAt e K) = c
        · rw [freeTo_hit hh, hh]; simp
        · rw [freeTo_miss hh]
          have : (c != leadN (rAt e K)) = true := by simp; omega
          rw [this, Bool.and_true]
      have h3 := filter_ne n (fun c => freeTo e c K) (hl K (by omega)) (freeTo_iff.2 fun i hi => by have := hd i K hi (by omega); omega)
      rw [filter_eq (fun c _ => h2 c)]
      omega
  have := key e.length (Nat.le_refl _)
  unfold nullTo
  rw [List.length_map]
  exact this

theorem tmod_cg (a p : Int) : Cg p (Int.tmod a p) a := by
  have := Int.mul_tdiv_add_tmod a p
  exact ⟨-(a.tdiv p), by rw [Int.mul_neg]; omega⟩
theorem tmod_zero {a p : Int} (h : Cg p a 0) : Int.tmod a p = 0 := Int.tmod_eq_zero_of_dvd (Cg.zero_iff.1 h)
theorem tmod_bd (a : Int) {p : Int} (hp : 1 ≤ p) : -p < Int.tmod a p ∧ Int.tmod a p < p := by
  constructor
  · have := Int.lt_tmod_of_pos a (b := p) (by omega); omega
  · exact Int.tmod_lt_of_pos a (by omega)
/-- What a row makes of a sum of residues. -/
theorem dot_lin {row v w s : List Int} {p c : Int} (hp : 1 ≤ p) {n : Nat} (h : ∀ i, i < n → Cg p (nth s i) (nth v i + c * nth w i)) : Cg p (dotTo row v p n + c * dotTo row w p n - dotTo row s p n) 0 := by
  have h1 := dotTo_cg row v hp n
  have h2 := dotTo_cg row w hp n
  have h3 := dotTo_cg row s hp n
  have h4 : Cg p (sum n (fun i => nth row i * nth s i)) (sum n (fun i => nth row i * nth v i) + c * sum n (fun i => nth row i * nth w i)) := by
    have e : sum n (fun i => nth row i * nth v i) + c * sum n (fun i => nth row i * nth w i) = sum n (fun i => nth row i * (nth v i + c * nth w i)) := by
      rw [mul_sum, ← sum_add]
      exact sum_congr fun i _ => by grind
    rw [e]
    exact sum_cg fun i hi => (Cg.refl _ _).mul (h i hi)
  exact ((h1.add ((Cg.refl p c).mul h2)).sub (h3.trans h4)).trans (Cg.of_eq (by omega))
/-- The sum of a row's numbers at the leads times the plain rows' numbers, as the program makes it. -/
def leadSum (row : List Int) (O : Nat → List Int) (c : Nat) (p : Int) : Nat → Int
  | 0 => 0
  | k + 1 => Int.tmod (leadSum row O c p k + Int.tmod (nth row (leadN (O k))) p * nth (O k) c) p
theorem leadSum_cg (row : List Int) (O : Nat → List Int) (c : Nat) (p : Int) (k : Nat) : Cg p (leadSum row O c p k) (sum k (fun j => nth row (leadN (O j)) * nth (O j) c)) := by
  induction k with
  | zero => exact Cg.refl _ _
  | succ k ih =>
    rw [sum_succ]
    show Cg p (Int.tmod _ p) _
    exact (tmod_cg _ _).trans (ih.add ((tmod_cg _ _).mul (Cg.refl _ _)))
theorem leadSum_bd (row : List Int) (O : Nat → List Int) (c : Nat) {p : Int} (hp : 1 ≤ p) (k : Nat) : -p < leadSum row O c p k ∧ leadSum row O c p k < p := by
  cases k with
  | zero => show -p < 0 ∧ 0 < p; omega
  | succ k => exact tmod_bd _ hp
end Cl
