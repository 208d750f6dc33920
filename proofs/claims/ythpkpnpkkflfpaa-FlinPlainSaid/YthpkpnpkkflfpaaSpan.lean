/- What rows span by a prime; plain rows are one. No program in sight. -/
import Derived.Test.YthpkpnpkkflfpaaFlinEch
import Derived.Test.YthpkpnpkkflfpaaAlg
namespace Cl
open CRing (sum sum_congr sum_add mul_sum sum_single sum_succ sum_eq_zero)

/-- What is made of S by sums and multiples, by p, in the first L places. -/
inductive Sp (p : Int) (L : Nat) (S : (Nat → Int) → Prop) : (Nat → Int) → Prop where
  | mem {v} : S v → Sp p L S v
  | zero : Sp p L S (fun _ => 0)
  | add {u v} : Sp p L S u → Sp p L S v → Sp p L S (fun i => u i + v i)
  | smul (c : Int) {u} : Sp p L S u → Sp p L S (fun i => c * u i)
  | cg {u v} : Sp p L S u → (∀ i, i < L → Cg p (u i) (v i)) → Sp p L S v
theorem Sp.trans {p : Int} {L : Nat} {S T : (Nat → Int) → Prop} {v : Nat → Int} (h : Sp p L S v) (hs : ∀ u, S u → Sp p L T u) : Sp p L T v := by
  induction h with
  | mem h => exact hs _ h
  | zero => exact .zero
  | add _ _ i1 i2 => exact .add i1 i2
  | smul c _ i1 => exact .smul c i1
  | cg _ h i1 => exact .cg i1 h
/-- u less c times v. -/
theorem Sp.sub {p : Int} {L : Nat} {S : (Nat → Int) → Prop} {u v x : Nat → Int} (hu : Sp p L S u) (c : Int) (hv : Sp p L S v) (hx : ∀ i, i < L → Cg p (u i - c * v i) (x i)) : Sp p L S x :=
  (Sp.add hu (Sp.smul (-c) hv)).cg fun i hi => (Cg.of_eq (by grind)).trans (hx i hi)

/-- One of the first m rows. -/
def Rs (m : Nat) (R : Nat → List Int) (v : Nat → Int) : Prop := ∃ k, k < m ∧ v = nth (R k)

/-- Plain rows: each one's first number that is not 0 is 1, stands farther right than that of the row ahead, and is alone in its column. -/
structure Rref (L : Nat) (p : Int) (m : Nat) (R : Nat → List Int) : Prop where
  len : ∀ k, k < m → (R k).length = L
  pl : ∀ k, k < m → Pl p (R k)
  lt : ∀ k, k < m → leadN (R k) < L
  one : ∀ k, k < m → nth (R k) (leadN (R k)) = 1
  mono : ∀ j k, j < k → k < m → leadN (R j) < leadN (R k)
  alone : ∀ j k, j < m → k < m → j ≠ k → nth (R j) (leadN (R k)) = 0

theorem sum_cg {p : Int} {n : Nat} {f g : Nat → Int} (h : ∀ i, i < n → Cg p (f i) (g i)) : Cg p (sum n f) (sum n g) := by
  induction n with
  | zero => exact Cg.refl _ _
  | succ n ih => rw [sum_succ, sum_succ]; exact (ih fun i hi => h i (by omega)).add (h n (by omega))
theorem sum_cg_zero {p : Int} {n : Nat} {f : Nat → Int} (h : ∀ i, i < n → Cg p (f i) 0) : Cg p (sum n f) 0 := by
  have := sum_cg (g := fun _ => 0) h
  rwa [CRing.sum_zero_fun] at this
/-- Only one that is not nought by p. -/
theorem sum_cg_single {p : Int} {n k : Nat} {f : Nat → Int} (hk : k < n) (h : ∀ i, i < n → i ≠ k → Cg p (f i) 0) : Cg p (sum n f) (f k) := by
  have : Cg p (sum n f) (sum n (fun i => if i = k then f k else 0)) := sum_cg fun i hi => by
    by_cases e : i = k
    · subst e; rw [if_pos rfl]; exact Cg.refl _ _
    · rw [if_neg e]; exact h i hi e
  rw [sum_single hk (fun i _ hne => if_neg hne), if_pos rfl] at this
  exact this

section
variable {L : Nat} {p : Int} {m : Nat} {R : Nat → List Int}
/-- What is spanned is made of the rows by its numbers at their first ones. -/
theorem Rref.expand (h : Rref L p m R) {v : Nat → Int} (hv : Sp p L (Rs m R) v) : ∀ i, i < L → Cg p (v i) (sum m (fun k => v (leadN (R k)) * nth (R k) i)) := by
  induction hv with
  | mem hm =>
    obtain ⟨j, hj, rfl⟩ := hm
    intro i _
    refine (Cg.symm ?_)
    have := sum_cg_single (p := p) (f := fun k => nth (R j) (leadN (R k)) * nth (R k) i) hj (fun k hk hne => by rw [h.alone j k hj hk (fun e => hne e.symm), Int.zero_mul]; exact Cg.refl _ _)
    simp only [h.one j hj, Int.one_mul] at this
    exact this
  | zero => intro i _; refine (sum_cg_zero fun k _ => ?_).symm; rw [Int.zero_mul]; exact Cg.refl _ _
  | @add u w _ _ i1 i2 =>
    intro i hi
    refine ((i1 i hi).add (i2 i hi)).trans (Cg.of_eq ?_)
    rw [← sum_add]; exact sum_congr fun k _ => (Int.add_mul _ _ _).symm
  | @smul c u _ i1 =>
    intro i hi
    refine ((Cg.refl p c).mul (i1 i hi)).trans (Cg.of_eq ?_)
    rw [mul_sum]; exact sum_congr fun k _ => (Int.mul_assoc _ _ _).symm
  | @cg u w _ hc i1 =>
    intro i hi
    refine (hc i hi).symm.trans ((i1 i hi).trans (sum_cg fun k hk => (hc _ (h.lt k hk)).mul (Cg.refl _ _)))
theorem Rref.before (h : Rref L p m R) {k i : Nat} (hi : i < leadN (R k)) : nth (R k) i = 0 := leadN_before hi
/-- Where something spanned has its first number that is not nought, some row has its first one. -/
theorem Rref.lead (h : Rref L p m R) {v : Nat → Int} (hv : Sp p L (Rs m R) v) {t : Nat} (ht : t < L) (h0 : ∀ i, i < t → Cg p (v i) 0) (h1 : ¬ Cg p (v t) 0) : ∃ k, k < m ∧ leadN (R k) = t := by
  apply Classical.byContradiction
  intro hno
  refine h1 ((h.expand hv t ht).trans (sum_cg_zero fun k hk => ?_))
  have hne : leadN (R k) ≠ t := fun e => hno ⟨k, hk, e⟩
  by_cases hlt : leadN (R k) < t
  · exact (((h0 _ hlt).mul (Cg.refl p _))).trans (Cg.of_eq (Int.zero_mul _))
  · rw [h.before (show t < leadN (R k) by omega), Int.mul_zero]; exact Cg.refl _ _
end

/-- Two rising sequences of the same numbers are one. -/
theorem rising_eq {m n : Nat} {f g : Nat → Nat} (hf : ∀ j k, j < k → k < m → f j < f k) (hg : ∀ j k, j < k → k < n → g j < g k)
    (h1 : ∀ k, k < m → ∃ j, j < n ∧ g j = f k) (h2 : ∀ k, k < n → ∃ j, j < m ∧ f j = g k) : m = n ∧ ∀ k, k < m → f k = g k := by
  have fm : ∀ j k, j ≤ k → k < m → f j ≤ f k := fun j k h hk => by
    rcases Nat.lt_or_eq_of_le h with h | rfl
    · exact Nat.le_of_lt (hf j k h hk)
    · exact Nat.le_refl _
  have gm : ∀ j k, j ≤ k → k < n → g j ≤ g k := fun j k h hk => by
    rcases Nat.lt_or_eq_of_le h with h | rfl
    · exact Nat.le_of_lt (hg j k h hk)
    · exact Nat.le_refl _
  have key : ∀ k, (k < m → k < n ∧ f k = g k) ∧ (k < n → k < m) := by
    intro k
    induction k using Nat.strongRecOn with
    | ind k ih =>
      have a1 : k < m → k < n ∧ g k ≤ f k := fun hk => by
        obtain ⟨j, hj, e⟩ := h1 k hk
        have : k ≤ j := by
          apply Nat.le_of_not_lt; intro hlt
          have := ((ih j hlt).1 (by omega)).2
          have := hf j k hlt hk
          omega
        exact ⟨by omega, by rw [← e]; exact gm k j this hj⟩
      have a2 : k < n → k < m ∧ f k ≤ g k := fun hk => by
        obtain ⟨j, hj, e⟩ := h2 k hk
        have : k ≤ j := by
          apply Nat.le_of_not_lt; intro hlt
          have := ((ih j hlt).1 (by omega)).2
          have := hg j k hlt hk
          omega
        exact ⟨by omega, by rw [← e]; exact fm k j this hj⟩
      exact ⟨fun hk => ⟨(a1 hk).1, by have := a1 hk; have := a2 this.1; omega⟩, fun hk => (a2 hk).1⟩
  refine ⟨?_, fun k hk => ((key k).1 hk).2⟩
  apply Nat.le_antisymm
  · apply Nat.le_of_not_lt; intro h
    have := ((key n).1 h).1; omega
  · apply Nat.le_of_not_lt; intro h
    have := (key m).2 h; omega

/-- out are the plain rows of R's first m. -/
structure RrefOf (L : Nat) (p : Int) (m : Nat) (R : Nat → List Int) (n : Nat) (O : Nat → List Int) : Prop where
  rref : Rref L p n O
  into : ∀ k, k < m → Sp p L (Rs n O) (nth (R k))
  from_ : ∀ k, k < n → Sp p L (Rs m R) (nth (O k))

theorem RrefOf.unique {L : Nat} {p : Int} (hp : Pr p) {m n n' : Nat} {R O O' : Nat → List Int} (h : RrefOf L p m R n O) (h' : RrefOf L p m R n' O') : n = n' ∧ ∀ k, k < n → O k = O' k := by
  have one : ∀ {n n' : Nat} {O O' : Nat → List Int}, RrefOf L p m R n O → RrefOf L p m R n' O' → ∀ k, k < n → Sp p L (Rs n' O') (nth (O k)) := fun h h' k hk =>
    (h.from_ k hk).trans fun u ⟨j, hj, e⟩ => by rw [e]; exact h'.into j hj
  have led : ∀ {n n' : Nat} {O O' : Nat → List Int}, RrefOf L p m R n O → RrefOf L p m R n' O' → ∀ k, k < n → ∃ j, j < n' ∧ leadN (O' j) = leadN (O k) := fun {n n' O O'} h h' k hk => by
    refine h'.rref.lead (one h h' k hk) (h.rref.lt k hk) (fun i hi => ?_) ?_
    · rw [h.rref.before hi]; exact Cg.refl _ _
    · rw [h.rref.one k hk]; exact hp.one_not
  obtain ⟨e1, e2⟩ := rising_eq (f := fun k => leadN (O k)) (g := fun k => leadN (O' k)) h.rref.mono h'.rref.mono (led h h') (led h' h)
  refine ⟨e1, fun k hk => ?_⟩
  subst e1
  have hk' := hk
  refine list_ext (by rw [h.rref.len k hk, h'.rref.len k hk]) fun i hi => ?_
  rw [h.rref.len k hk] at hi
  have hc := h'.rref.expand (one h h' k hk) i hi
  have hs : Cg p (sum n (fun j => nth (O k) (leadN (O' j)) * nth (O' j) i)) (nth (O' k) i) := by
    have := sum_cg_single (p := p) (f := fun j => nth (O k) (leadN (O' j)) * nth (O' j) i) hk (fun j hj hne => by
      rw [← e2 j hj, h.rref.alone k j hk hj (fun e => hne e.symm), Int.zero_mul]; exact Cg.refl _ _)
    simp only [← e2 k hk, h.rref.one k hk, Int.one_mul] at this
    exact this
  have a := h.rref.pl k hk i
  have b := h'.rref.pl k hk i
  exact (hc.trans hs).eq_of_lt a.1 a.2 b.1 b.2

end Cl
