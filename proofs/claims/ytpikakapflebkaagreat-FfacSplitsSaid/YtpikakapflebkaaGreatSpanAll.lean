/- What rows span by a prime; plain rows are one. No program in sight.
   The program's way, column by column, comes to the plain rows. No program in sight.
   The document's way, row by row, comes to the plain rows. No program in sight.
   Plain facts: what plain rows make nought, as the program and the document make it. -/
import Derived.Test.YtpikakapflebkaaGreatFlinBase
import Derived.Test.YtpikakapflebkaaGreatNum
import Derived.Test.YtpikakapflebkaaGreatPolyB
namespace Cl
open CRing (sum sum_congr sum_add mul_sum sum_single sum_succ sum_eq_zero)

/-- What is made of S by sums and multiples, by p, in the first L places. -/
inductive Sp (p : Int) (L : Nat) (S : (Nat → Int) → Prop) : (Nat → Int) → Prop where
  | mem {v} : S v → Sp p L S v
  | zero : Sp p L S (fun _ => 0)
  | add {u v} : Sp p L S u → Sp p L S v → Sp p L S (fun i => u i + v i)
  | smul (c : Int) {u} : Sp p L S u → Sp p L S (fun i => c * u i)
  | cg {u v} : Sp p L S u → (∀ i, i < L → Cg p (u i) (v i)) → Sp p L S v
theorem Sp.trans {p : Int} {L : Nat} {S T : (Nat → Int) → Prop} {v : Nat → Int} (h : Sp p L S v) (hs : ∀ u, S u → Sp p L T u) : Sp p L T v := by
  induction h with
  | mem h => exact hs _ h
  | zero => exact .zero
  | add _ _ i1 i2 => exact .add i1 i2
  | smul c _ i1 => exact .smul c i1
  | cg _ h i1 => exact .cg i1 h
/-- u less c times v. -/
theorem Sp.sub {p : Int} {L : Nat} {S : (Nat → Int) → Prop} {u v x : Nat → Int} (hu : Sp p L S u) (c : Int) (hv : Sp p L S v) (hx : ∀ i, i < L → Cg p (u i - c * v i) (x i)) : Sp p L S x :=
  (Sp.add hu (Sp.smul (-c) hv)).cg fun i hi => (Cg.of_eq (by grind)).trans (hx i hi)

/-- One of the first m rows. -/
def Rs (m : Nat) (R : Nat → List Int) (v : Nat → Int) : Prop := ∃ k, k < m ∧ v = nth (R k)

/-- Plain rows: each one's first number that is not 0 is 1, stands farther right than that of the row ahead, and is alone in its column. -/
structure Rref (L : Nat) (p : Int) (m : Nat) (R : Nat → List Int) : Prop where
  len : ∀ k, k < m → (R k).length = L
  pl : ∀ k, k < m → Pl p (R k)
  lt : ∀ k, k < m → leadN (R k) < L
  one : ∀ k, k < m → nth (R k) (leadN (R k)) = 1
  mono : ∀ j k, j < k → k < m → leadN (R j) < leadN (R k)
  alone : ∀ j k, j < m → k < m → j ≠ k → nth (R j) (leadN (R k)) = 0

theorem sum_cg {p : Int} {n : Nat} {f g : Nat → Int} (h : ∀ i, i < n → Cg p (f i) (g i)) : Cg p (sum n f) (sum n g) := by
  induction n with
  | zero => exact Cg.refl _ _
  | succ n ih => rw [sum_succ, sum_succ]; exact (ih fun i hi => h i (by omega)).add (h n (by omega))
theorem sum_cg_zero {p : Int} {n : Nat} {f : Nat → Int} (h : ∀ i, i < n → Cg p (f i) 0) : Cg p (sum n f) 0 := by
  have := sum_cg (g := fun _ => 0) h
  rwa [CRing.sum_zero_fun] at this
/-- Only one that is not nought by p. -/
theorem sum_cg_single {p : Int} {n k : Nat} {f : Nat → Int} (hk : k < n) (h : ∀ i, i < n → i ≠ k → Cg p (f i) 0) : Cg p (sum n f) (f k) := by
  have : Cg p (sum n f) (sum n (fun i => if i = k then f k else 0)) := sum_cg fun i hi => by
    by_cases e : i = k
    · subst e; rw [if_pos rfl]; exact Cg.refl _ _
    · rw [if_neg e]; exact h i hi e
  rw [sum_single hk (fun i _ hne => if_neg hne), if_pos rfl] at this
  exact this

section
variable {L : Nat} {p : Int} {m : Nat} {R : Nat → List Int}
/-- What is spanned is made of the rows by its numbers at their first ones. -/
theorem Rref.expand (h : Rref L p m R) {v : Nat → Int} (hv : Sp p L (Rs m R) v) : ∀ i, i < L → Cg p (v i) (sum m (fun k => v (leadN (R k)) * nth (R k) i)) := by
  induction hv with
  | mem hm =>
    obtain ⟨j, hj, rfl⟩ := hm
    intro i _
    refine (Cg.symm ?_)
    have := sum_cg_single (p := p) (f := fun k => nth (R j) (leadN (R k)) * nth (R k) i) hj (fun k hk hne => by rw [h.alone j k hj hk (fun e => hne e.symm), Int.zero_mul]; exact Cg.refl _ _)
    simp only [h.one j hj, Int.one_mul] at this
    exact this
  | zero => intro i _; refine (sum_cg_zero fun k _ => ?_).symm; rw [Int.zero_mul]; exact Cg.refl _ _
  | @add u w _ _ i1 i2 =>
    intro i hi
    refine ((i1 i hi).add (i2 i hi)).trans (Cg.of_eq ?_)
    rw [← sum_add]; exact sum_congr fun k _ => (Int.add_mul _ _ _).symm
  | @smul c u _ i1 =>
    intro i hi
    refine ((Cg.refl p c).mul (i1 i hi)).trans (Cg.of_eq ?_)
    rw [mul_sum]; exact sum_congr fun k _ => (Int.mul_assoc _ _ _).symm
  | @cg u w _ hc i1 =>
    intro i hi
    refine (hc i hi).symm.trans ((i1 i hi).trans (sum_cg fun k hk => (hc _ (h.lt k hk)).mul (Cg.refl _ _)))
theorem Rref.before (h : Rref L p m R) {k i : Nat} (hi : i < leadN (R k)) : nth (R k) i = 0 := leadN_before hi
/-- Where something spanned has its first number that is not nought, some row has its first one. -/
theorem Rref.lead (h : Rref L p m R) {v : Nat → Int} (hv : Sp p L (Rs m R) v) {t : Nat} (ht : t < L) (h0 : ∀ i, i < t → Cg p (v i) 0) (h1 : ¬ Cg p (v t) 0) : ∃ k, k < m ∧ leadN (R k) = t := by
  apply Classical.byContradiction
  intro hno
  refine h1 ((h.expand hv t ht).trans (sum_cg_zero fun k hk => ?_))
  have hne : leadN (R k) ≠ t := fun e => hno ⟨k, hk, e⟩
  by_cases hlt : leadN (R k) < t
  · exact (((h0 _ hlt).mul (Cg.refl p _))).trans (Cg.of_eq (Int.zero_mul _))
  · rw [h.before (show t < leadN (R k) by omega), Int.mul_zero]; exact Cg.refl _ _
end

/-- Two rising sequences of the same numbers are one. -/
theorem rising_eq {m n : Nat} {f g : Nat → Nat} (hf : ∀ j k, j < k → k < m → f j < f k) (hg : ∀ j k, j < k → k < n → g j < g k)
    (h1 : ∀ k, k < m → ∃ j, j < n ∧ g j = f k) (h2 : ∀ k, k < n → ∃ j, j < m ∧ f j = g k) : m = n ∧ ∀ k, k < m → f k = g k := by
  have fm : ∀ j k, j ≤ k → k < m → f j ≤ f k := fun j k h hk => by
    rcases Nat.lt_or_eq_of_le h with h | rfl
    · exact Nat.le_of_lt (hf j k h hk)
    · exact Nat.le_refl _
  have gm : ∀ j k, j ≤ k → k < n → g j ≤ g k := fun j k h hk => by
    rcases Nat.lt_or_eq_of_le h with h | rfl
    · exact Nat.le_of_lt (hg j k h hk)
    · exact Nat.le_refl _
  have key : ∀ k, (k < m → k < n ∧ f k = g k) ∧ (k < n → k < m) := by
    intro k
    induction k using Nat.strongRecOn with
    | ind k ih =>
      have a1 : k < m → k < n ∧ g k ≤ f k := fun hk => by
        obtain ⟨j, hj, e⟩ := h1 k hk
        have : k ≤ j := by
          apply Nat.le_of_not_lt; intro hlt
          have := ((ih j hlt).1 (by omega)).2
          have := hf j k hlt hk
          omega
        exact ⟨by omega, by rw [← e]; exact gm k j this hj⟩
      have a2 : k < n → k < m ∧ f k ≤ g k := fun hk => by
        obtain ⟨j, hj, e⟩ := h2 k hk
        have : k ≤ j := by
          apply Nat.le_of_not_lt; intro hlt
          have := ((ih j hlt).1 (by omega)).2
          have := hg j k hlt hk
          omega
        exact ⟨by omega, by rw [← e]; exact fm k j this hj⟩
      exact ⟨fun hk => ⟨(a1 hk).1, by have := a1 hk; have := a2 this.1; omega⟩, fun hk => (a2 hk).1⟩
  refine ⟨?_, fun k hk => ((key k).1 hk).2⟩
  apply Nat.le_antisymm
  · apply Nat.le_of_not_lt; intro h
    have := ((key n).1 h).1; omega
  · apply Nat.le_of_not_lt; intro h
    have := (key m).2 h; omega

/-- out are the plain rows of R's first m. -/
structure RrefOf (L : Nat) (p : Int) (m : Nat) (R : Nat → List Int) (n : Nat) (O : Nat → List Int) : Prop where
  rref : Rref L p n O
  into : ∀ k, k < m → Sp p L (Rs n O) (nth (R k))
  from_ : ∀ k, k < n → Sp p L (Rs m R) (nth (O k))

theorem RrefOf.unique {L : Nat} {p : Int} (hp : Pr p) {m n n' : Nat} {R O O' : Nat → List Int} (h : RrefOf L p m R n O) (h' : RrefOf L p m R n' O') : n = n' ∧ ∀ k, k < n → O k = O' k := by
  have one : ∀ {n n' : Nat} {O O' : Nat → List Int}, RrefOf L p m R n O → RrefOf L p m R n' O' → ∀ k, k < n → Sp p L (Rs n' O') (nth (O k)) := fun h h' k hk =>
    (h.from_ k hk).trans fun u ⟨j, hj, e⟩ => by rw [e]; exact h'.into j hj
  have led : ∀ {n n' : Nat} {O O' : Nat → List Int}, RrefOf L p m R n O → RrefOf L p m R n' O' → ∀ k, k < n → ∃ j, j < n' ∧ leadN (O' j) = leadN (O k) := fun {n n' O O'} h h' k hk => by
    refine h'.rref.lead (one h h' k hk) (h.rref.lt k hk) (fun i hi => ?_) ?_
    · rw [h.rref.before hi]; exact Cg.refl _ _
    · rw [h.rref.one k hk]; exact hp.one_not
  obtain ⟨e1, e2⟩ := rising_eq (f := fun k => leadN (O k)) (g := fun k => leadN (O' k)) h.rref.mono h'.rref.mono (led h h') (led h' h)
  refine ⟨e1, fun k hk => ?_⟩
  subst e1
  have hk' := hk
  refine list_ext (by rw [h.rref.len k hk, h'.rref.len k hk]) fun i hi => ?_
  rw [h.rref.len k hk] at hi
  have hc := h'.rref.expand (one h h' k hk) i hi
  have hs : Cg p (sum n (fun j => nth (O k) (leadN (O' j)) * nth (O' j) i)) (nth (O' k) i) := by
    have := sum_cg_single (p := p) (f := fun j => nth (O k) (leadN (O' j)) * nth (O' j) i) hk (fun j hj hne => by
      rw [← e2 j hj, h.rref.alone k j hk hj (fun e => hne e.symm), Int.zero_mul]; exact Cg.refl _ _)
    simp only [← e2 k hk, h.rref.one k hk, Int.one_mul] at this
    exact this
  have a := h.rref.pl k hk i
  have b := h'.rref.pl k hk i
  exact (hc.trans hs).eq_of_lt a.1 a.2 b.1 b.2

end Cl

namespace Cl

/-- What holds behind c columns: the first n rows are plain there, the others have nought. -/
structure EInv (L : Nat) (p : Int) (m : Nat) (R0 : Nat → List Int) (c : Nat) (R : Nat → List Int) (n : Nat) : Prop where
  le : n ≤ m
  len : ∀ k, k < m → (R k).length = L
  pl : ∀ k, k < m → Pl p (R k)
  lt : ∀ k, k < n → leadN (R k) < c
  one : ∀ k, k < n → nth (R k) (leadN (R k)) = 1
  mono : ∀ j k, j < k → k < n → leadN (R j) < leadN (R k)
  alone : ∀ j k, j < m → k < n → j ≠ k → nth (R j) (leadN (R k)) = 0
  zero : ∀ k, n ≤ k → k < m → ∀ i, i < c → nth (R k) i = 0
  into : ∀ k, k < m → Sp p L (Rs m R) (nth (R0 k))
  from_ : ∀ k, k < m → Sp p L (Rs m R0) (nth (R k))

theorem nth_scaleRow (x p : Int) {row : List Int} {i : Nat} (h : i < row.length) : nth (scaleRow x p row) i = nth row i * x % p := by
  unfold scaleRow; rw [nth_tab, if_pos h]
theorem nth_strikeRow (own : List Int) (c : Nat) (p : Int) {row : List Int} {i : Nat} (h : i < row.length) : nth (strikeRow own c p row) i = (nth row i + (p - nth row c) * nth own i) % p := by
  unfold strikeRow; rw [nth_tab, if_pos h]
theorem strike_same (own : List Int) (c : Nat) {p : Int} {row : List Int} (hpl : Pl p row) {i : Nat} (h : i < row.length) (h0 : nth own i = 0) : nth (strikeRow own c p row) i = nth row i := by
  rw [nth_strikeRow own c p h, h0, Int.mul_zero, Int.add_zero]
  have := hpl i
  exact Int.emod_eq_of_lt this.1 this.2
theorem strike_cg (own : List Int) (c : Nat) {p : Int} {row : List Int} {i : Nat} (h : i < row.length) : Cg p (nth row i - nth row c * nth own i) (nth (strikeRow own c p row) i) := by
  rw [nth_strikeRow own c p h]
  exact Cg.trans ⟨-nth own i, by grind⟩ (Cg.emod_right _ p)

section
variable {L : Nat} {p : Int} {m : Nat} {R0 R : Nat → List Int} {c n : Nat}
theorem EInv.start (hlen : ∀ k, k < m → (R0 k).length = L) (hpl : ∀ k, k < m → Pl p (R0 k)) : EInv L p m R0 0 R0 0 :=
  ⟨Nat.zero_le _, hlen, hpl, fun _ h => absurd h (by omega), fun _ h => absurd h (by omega), fun _ _ _ h => absurd h (by omega), fun _ _ _ h => absurd h (by omega), fun _ _ _ _ h => absurd h (by omega), fun k hk => .mem ⟨k, hk, rfl⟩, fun k hk => .mem ⟨k, hk, rfl⟩⟩
theorem EInv.miss (h : EInv L p m R0 c R n) (hm : Miss R m n c) : EInv L p m R0 (c + 1) R n :=
  ⟨h.le, h.len, h.pl, fun k hk => by have := h.lt k hk; omega, h.one, h.mono, h.alone, fun k h1 h2 i hi => by
    by_cases e : i = c
    · subst e; exact hm k h1 h2
    · exact h.zero k h1 h2 i (by omega), h.into, h.from_⟩
theorem EInv.hit (hp : Pr p) (h : EInv L p m R0 c R n) (hc : c < L) {q : Nat} (hq : Hit R m n q c) : EInv L p m R0 (c + 1) (pivotR R n q c p) (n + 1) := by
  have hn : n < m := by have := hq.ge; have := hq.lt; omega
  have hp0 := hp.pos
  obtain ⟨own, hown⟩ : ∃ own, own = scaleRow (invm (nth (R q) c) p) p (R q) := ⟨_, rfl⟩
  have hql := h.len q hq.lt
  have ho : ∀ i, i < L → nth own i = nth (R q) i * invm (nth (R q) c) p % p := fun i hi => by rw [hown, nth_scaleRow _ _ (by omega)]
  have hqp := h.pl q hq.lt c
  have hnc : ¬ Cg p (nth (R q) c) 0 := fun h0 => hq.yes (h0.eq_of_lt hqp.1 hqp.2 (by omega) hp0)
  have hoc : nth own c = 1 := by
    rw [ho c hc, emod_eq_of_cg (invm_spec hp hnc).2.2, Int.emod_eq_of_lt (by omega) (by have := hp.two; omega)]
  have hoz : ∀ i, i < L → nth (R q) i = 0 → nth own i = 0 := fun i hi h0 => by rw [ho i hi, h0, Int.zero_mul, Int.zero_emod]
  have hob : ∀ i, i < c → nth own i = 0 := fun i hi => hoz i (by omega) (h.zero q hq.ge hq.lt i hi)
  have hol : own.length = L := by rw [hown, scaleRow_length, hql]
  have hlead : leadN own = c := leadN_eq (by omega) hob (by rw [hoc]; omega)
  have hopl : Pl p own := by rw [hown]; exact scaleRow_pl _ (by omega) _
  -- the rows changed about
  have hS : ∀ (P : List Int → Prop), (∀ k, k < m → P (R k)) → ∀ k, k < m → P (swapR R n q k) := fun P hP k hk => by
    unfold swapR; split
    · exact hP q hq.lt
    · split
      · exact hP n hn
      · exact hP k hk
  have hSr : ∀ (P : List Int → Prop), (∀ k, n ≤ k → k < m → P (R k)) → ∀ k, n ≤ k → k < m → P (swapR R n q k) := fun P hP k h1 hk => by
    unfold swapR; split
    · exact hP q hq.ge hq.lt
    · split
      · exact hP n (Nat.le_refl _) hn
      · exact hP k h1 hk
  have hSn : ∀ k, k < n → swapR R n q k = R k := fun k hk => by
    unfold swapR; rw [if_neg (by omega), if_neg (by have := hq.ge; omega)]
  have hsl := hS (fun r => r.length = L) h.len
  have hsp := hS (fun r => Pl p r) h.pl
  have hN : ∀ k, k = n → pivotR R n q c p k = own := fun k hk => by unfold pivotR; rw [if_pos hk, ← hown]
  have hK : ∀ k, k ≠ n → pivotR R n q c p k = strikeRow own c p (swapR R n q k) := fun k hk => by unfold pivotR; rw [if_neg hk, ← hown]
  have hat : ∀ k, k < m → k ≠ n → nth (pivotR R n q c p k) c = 0 := fun k hk hne => by
    rw [hK k hne, nth_strikeRow own c p (by rw [hsl k hk]; exact hc), hoc, Int.mul_one]
    rw [show nth (swapR R n q k) c + (p - nth (swapR R n q k) c) = p by omega, Int.emod_self]
  have hsame : ∀ k, k < m → k ≠ n → ∀ i, i < L → nth own i = 0 → nth (pivotR R n q c p k) i = nth (swapR R n q k) i := fun k hk hne i hi h0 => by
    rw [hK k hne]; exact strike_same own c (hsp k hk) (by rw [hsl k hk]; exact hi) h0
  have hoa : ∀ k, k < n → nth own (leadN (R k)) = 0 := fun k hk => hoz _ (by have := h.lt k hk; omega) (h.alone q k hq.lt hk (by have := hq.ge; omega))
  have hleadk : ∀ k, k < n → leadN (pivotR R n q c p k) = leadN (R k) := fun k hk => by
    have h1 := h.lt k hk
    have hkm : k < m := by omega
    refine leadN_eq (by rw [hK k (by omega), strikeRow_length, hsl k hkm]; omega) (fun i hi => ?_) ?_
    · rw [hsame k hkm (by omega) i (by omega) (hob i (by omega)), hSn k hk]; exact leadN_before hi
    · rw [hsame k hkm (by omega) _ (by omega) (hoa k hk), hSn k hk, h.one k hk]; omega
  -- spans
  have hspR : ∀ k, k < m → Sp p L (Rs m R) (nth (swapR R n q k)) := hS (fun r => Sp p L (Rs m R) (nth r)) (fun k hk => .mem ⟨k, hk, rfl⟩)
  have hspo : Sp p L (Rs m R) (nth own) := (Sp.smul (invm (nth (R q) c) p) (.mem ⟨q, hq.lt, rfl⟩)).cg fun i hi => by
    rw [ho i hi, Int.mul_comm]; exact Cg.emod_right _ p
  have hto : ∀ k, k < m → Sp p L (Rs m R) (nth (pivotR R n q c p k)) := fun k hk => by
    by_cases e : k = n
    · rw [hN k e]; exact hspo
    · rw [hK k e]
      exact Sp.sub (hspR k hk) (nth (swapR R n q k) c) hspo (fun i hi => strike_cg own c (by rw [hsl k hk]; exact hi))
  have hback : ∀ k, k < m → Sp p L (Rs m (pivotR R n q c p)) (nth (R k)) := by
    have hon : Sp p L (Rs m (pivotR R n q c p)) (nth own) := .mem ⟨n, hn, by rw [hN n rfl]⟩
    have hq' : Sp p L (Rs m (pivotR R n q c p)) (nth (R q)) := (Sp.smul (nth (R q) c) hon).cg fun i hi => by
      rw [ho i hi]
      have := (invm_spec hp hnc).2.2
      refine ((Cg.refl p _).mul (Cg.emod_left _ p)).trans ?_
      have h3 := (Cg.refl p (nth (R q) i)).mul this
      exact (Cg.of_eq (by grind)).trans (h3.trans (Cg.of_eq (Int.mul_one _)))
    have hsw : ∀ k, k < m → k ≠ n → Sp p L (Rs m (pivotR R n q c p)) (nth (swapR R n q k)) := fun k hk hne => by
      refine Sp.sub (.mem ⟨k, hk, rfl⟩) (-nth (swapR R n q k) c) hon (fun i hi => ?_)
      rw [hK k hne]
      have := (strike_cg own c (p := p) (row := swapR R n q k) (i := i) (by rw [hsl k hk]; exact hi)).symm
      exact (Cg.sub this (Cg.refl p (-nth (swapR R n q k) c * nth own i))).trans (Cg.of_eq (by grind))
    intro k hk
    by_cases e : k = q
    · subst e; exact hq'
    · by_cases e2 : k = n
      · have hqn : q ≠ n := fun h => e (by omega)
        have := hsw q hq.lt hqn
        unfold swapR at this
        rw [if_neg hqn, if_pos rfl] at this
        rw [e2]; exact this
      · have := hsw k hk e2
        unfold swapR at this
        rwa [if_neg e2, if_neg e] at this
  refine ⟨by omega, fun k hk => ?_, fun k hk => ?_, fun k hk => ?_, fun k hk => ?_, fun j k hjk hk => ?_, fun j k hj hk hne => ?_, fun k h1 h2 i hi => ?_, fun k hk => ?_, fun k hk => ?_⟩
  · by_cases e : k = n
    · rw [hN k e, hol]
    · rw [hK k e, strikeRow_length, hsl k hk]
  · by_cases e : k = n
    · rw [hN k e]; exact hopl
    · rw [hK k e]; exact strikeRow_pl (by omega)
  · by_cases e : k = n
    · rw [hN k e, hlead]; omega
    · rw [hleadk k (by omega)]; have := h.lt k (by omega); omega
  · by_cases e : k = n
    · rw [hN k e, hlead, hoc]
    · rw [hleadk k (by omega)]
      have h1 := h.lt k (by omega)
      rw [hsame k (by omega) e _ (by omega) (hoa k (by omega)), hSn k (by omega), h.one k (by omega)]
  · by_cases e : k = n
    · rw [hN k e, hlead, hleadk j (by omega)]; exact h.lt j (by omega)
    · rw [hleadk j (by omega), hleadk k (by omega)]; exact h.mono j k hjk (by omega)
  · by_cases e : k = n
    · rw [hN k e, hlead]; exact hat j hj (fun e' => hne (by omega))
    · have hkn : k < n := by omega
      have h1 := h.lt k hkn
      rw [hleadk k hkn]
      by_cases e' : j = n
      · rw [hN j e']; exact hoa k hkn
      · rw [hsame j hj e' _ (by omega) (hoa k hkn)]
        by_cases hjn : j < n
        · rw [hSn j hjn]; exact h.alone j k hj hkn hne
        · exact hSr (fun r => nth r (leadN (R k)) = 0) (fun t h2 h3 => h.alone t k h3 hkn (by omega)) j (by omega) hj
  · by_cases e : i = c
    · subst e; exact hat k h2 (by omega)
    · rw [hsame k h2 (by omega) i (by omega) (hob i (by omega))]
      exact hSr (fun r => nth r i = 0) (fun t h3 h4 => h.zero t h3 h4 i (by omega)) k (by omega) h2
  · exact (h.into k hk).trans fun u ⟨j, hj, e⟩ => by rw [e]; exact hback j hj
  · exact (hto k hk).trans fun u ⟨j, hj, e⟩ => by rw [e]; exact h.from_ j hj
theorem EInv.of (hp : Pr p) (hlen : ∀ k, k < m → (R0 k).length = L) (hpl : ∀ k, k < m → Pl p (R0 k)) (h : Ech m L R0 p c R n) : c ≤ L → EInv L p m R0 c R n := by
  induction h with
  | start => intro _; exact EInv.start hlen hpl
  | miss _ hm ih => intro hc; exact (ih (by omega)).miss hm
  | hit _ hh ih => intro hc; exact (ih (by omega)).hit hp (by omega) hh
theorem EInv.done (h : EInv L p m R0 L R n) : RrefOf L p m R0 n R := by
  refine ⟨⟨fun k hk => h.len k (by have := h.le; omega), fun k hk => h.pl k (by have := h.le; omega), h.lt, h.one, h.mono, fun j k hj hk hne => h.alone j k (by have := h.le; omega) hk hne⟩, fun k hk => ?_, fun k hk => h.from_ k (by have := h.le; omega)⟩
  refine (h.into k hk).trans fun u ⟨j, hj, e⟩ => ?_
  rw [e]
  by_cases hjn : j < n
  · exact .mem ⟨j, hjn, rfl⟩
  · exact Sp.zero.cg fun i hi => by rw [h.zero j (by omega) hj i hi]; exact Cg.refl _ _
end

end Cl

namespace Cl

theorem nth_lessRow {n : Nat} (xs ys : List Int) (k p : Int) {i : Nat} (h : i < n) : nth (lessRow n xs ys k p) i = red (nth xs i - k * nth ys i) p := by
  unfold lessRow; rw [nth_tab, if_pos h]
theorem lessRow_pl (n : Nat) (xs ys : List Int) (k : Int) {p : Int} (hp : 1 ≤ p) : Pl p (lessRow n xs ys k p) := Pl.of_tab hp (fun _ _ => red_bd _ hp)
theorem less_same {n : Nat} {xs ys : List Int} {k p : Int} {i : Nat} (hp : 1 ≤ p) (h : i < n) (hx : Pl p xs) (h0 : nth ys i = 0) : nth (lessRow n xs ys k p) i = nth xs i := by
  rw [nth_lessRow _ _ _ _ h, h0, Int.mul_zero, Int.sub_zero, red_of_pos hp]
  have := hx i
  exact Int.emod_eq_of_lt this.1 this.2
theorem less_cg {n : Nat} {xs ys : List Int} {k p : Int} {i : Nat} (hp : 1 ≤ p) (h : i < n) : Cg p (nth xs i - k * nth ys i) (nth (lessRow n xs ys k p) i) := by
  rw [nth_lessRow _ _ _ _ h]; exact (red_cg hp).symm
theorem less_gone {n : Nat} {xs ys : List Int} {p : Int} {i : Nat} (hp : 1 ≤ p) (h : i < n) (h1 : nth ys i = 1) : nth (lessRow n xs ys (nth xs i) p) i = 0 := by
  rw [nth_lessRow _ _ _ _ h, h1, Int.mul_one, Int.sub_self, red_of_pos hp, Int.zero_emod]

/-- A row on the way of being made nought at the first places of the rows that are there: as far as k. -/
structure Red (L : Nat) (p : Int) (n : Nat) (O : Nat → List Int) (r0 : List Int) (k : Nat) (r : List Int) : Prop where
  len : r.length = L
  pl : Pl p r
  zero : ∀ j, j < k → nth r (leadN (O j)) = 0
  diff : Sp p L (Rs n O) (fun i => nth r0 i - nth r i)
section
variable {L : Nat} {p : Int} {n : Nat} {O : Nat → List Int} {r0 r : List Int} {k : Nat}
theorem Red.start (hl : r0.length = L) (hp : Pl p r0) : Red L p n O r0 0 r0 :=
  ⟨hl, hp, fun j h => absurd h (by omega), Sp.zero.cg fun i _ => Cg.of_eq (by omega)⟩
theorem Red.step (hO : Rref L p n O) (hp : 1 ≤ p) (h : Red L p n O r0 k r) (hk : k < n) : Red L p n O r0 (k + 1) (lessRow L r (O k) (nth r (leadN (O k))) p) := by
  have hlt := hO.lt k hk
  refine ⟨lessRow_length _ _ _ _ _, lessRow_pl _ _ _ _ hp, fun j hj => ?_, ?_⟩
  · by_cases e : j = k
    · subst e; exact less_gone hp hlt (hO.one j hk)
    · have hjn : j < n := by omega
      rw [less_same hp (hO.lt j hjn) h.pl (hO.alone k j hk hjn (fun e' => e e'.symm))]
      exact h.zero j (by omega)
  · refine Sp.sub h.diff (-nth r (leadN (O k))) (.mem ⟨k, hk, rfl⟩) (fun i hi => ?_)
    have := (less_cg (xs := r) (ys := O k) (k := nth r (leadN (O k))) hp hi).symm
    exact (Cg.of_eq (by grind)).trans ((Cg.refl p (nth r0 i)).sub this.symm)

/-- A row put in at place q. -/
def insR (O : Nat → List Int) (q : Nat) (s : List Int) : Nat → List Int := fun i => if i < q then O i else if i = q then s else O (i - 1)
/-- The rows that are there, less the new one as often as it is in them. -/
def lessAll (L : Nat) (O : Nat → List Int) (s : List Int) (c : Nat) (p : Int) : Nat → List Int := fun k => lessRow L (O k) s (nth (O k) c) p

theorem Red.none (hp : 1 ≤ p) {i : Nat} {R0 : Nat → List Int} (h : RrefOf L p i R0 n O) (hr : Red L p n O (R0 i) n r) (h0 : leadN r = L) : RrefOf L p (i + 1) R0 n O := by
  refine ⟨h.rref, fun k hk => ?_, fun k hk => (h.from_ k hk).trans fun u ⟨j, hj, e⟩ => .mem ⟨j, by omega, e⟩⟩
  by_cases e : k = i
  · subst e
    exact hr.diff.cg fun j hj => by
      rw [leadN_before (xs := r) (i := j) (by omega), Int.sub_zero]; exact Cg.refl _ _
  · exact h.into k (by omega)

theorem lessAll_lead (hO : Rref L p n O) (hp : Pr p) (hr : Red L p n O r0 n r) (hc : leadN r < L) {s : List Int} (hs : s = scaleRow (invm (nth r (leadN r)) p) p r) {k : Nat} (hk : k < n) :
    leadN (lessAll L O s (leadN r) p k) = leadN (O k) := by
  have hp0 := hp.pos
  have hlt := hO.lt k hk
  have hsz : ∀ i, i < L → nth r i = 0 → nth s i = 0 := fun i hi h0 => by rw [hs, nth_scaleRow _ _ (by rw [hr.len]; exact hi), h0, Int.zero_mul, Int.zero_emod]
  unfold lessAll
  refine leadN_eq (by rw [lessRow_length]; exact hlt) (fun i hi => ?_) ?_
  · by_cases hcl : leadN (O k) ≤ leadN r
    · rw [less_same (by omega) (by omega) (hO.pl k hk) (hsz i (by omega) (leadN_before (by omega)))]; exact leadN_before hi
    · have h0 : nth (O k) (leadN r) = 0 := leadN_before (by omega)
      rw [h0, nth_lessRow _ _ _ _ (by omega), Int.zero_mul, Int.sub_zero, leadN_before hi, red_of_pos (by omega), Int.zero_emod]
  · rw [less_same (by omega) hlt (hO.pl k hk) (hsz _ hlt (hr.zero k hk)), hO.one k hk]; omega

theorem Red.insert (hp : Pr p) {i : Nat} {R0 : Nat → List Int} (h : RrefOf L p i R0 n O) (hr : Red L p n O (R0 i) n r) (hc : leadN r < L) {s : List Int} (hs : s = scaleRow (invm (nth r (leadN r)) p) p r)
    {q : Nat} (hq : q ≤ n) (h1 : ∀ k, k < q → leadN (O k) < leadN r) (h2 : ∀ k, q ≤ k → k < n → ¬ leadN (O k) < leadN r) :
    RrefOf L p (i + 1) R0 (n + 1) (insR (lessAll L O s (leadN r) p) q s) := by
  have hp0 := hp.pos
  have hO := h.rref
  have hrl := hr.len
  have hsl : s.length = L := by rw [hs, scaleRow_length, hrl]
  have hsn : ∀ i, i < L → nth s i = nth r i * invm (nth r (leadN r)) p % p := fun i hi => by rw [hs, nth_scaleRow _ _ (by omega)]
  have hsz : ∀ i, i < L → nth r i = 0 → nth s i = 0 := fun i hi h0 => by rw [hsn i hi, h0, Int.zero_mul, Int.zero_emod]
  have hrc := hr.pl (leadN r)
  have hnz : nth r (leadN r) ≠ 0 := leadN_nz (by omega)
  have hnc : ¬ Cg p (nth r (leadN r)) 0 := fun h0 => hnz (h0.eq_of_lt hrc.1 hrc.2 (by omega) hp0)
  have hs1 : nth s (leadN r) = 1 := by rw [hsn _ hc, emod_eq_of_cg (invm_spec hp hnc).2.2, Int.emod_eq_of_lt (by omega) (by have := hp.two; omega)]
  have hsb : ∀ i, i < leadN r → nth s i = 0 := fun i hi => hsz i (by omega) (leadN_before hi)
  have hslead : leadN s = leadN r := leadN_eq (by omega) hsb (by rw [hs1]; omega)
  have hspl : Pl p s := by rw [hs]; exact scaleRow_pl _ (by omega) _
  have hso : ∀ k, k < n → nth s (leadN (O k)) = 0 := fun k hk => hsz _ (hO.lt k hk) (hr.zero k hk)
  have hne : ∀ k, k < n → leadN (O k) ≠ leadN r := fun k hk e => hnz (by rw [← e]; exact hr.zero k hk)
  obtain ⟨O', hO'⟩ : ∃ O', O' = lessAll L O s (leadN r) p := ⟨_, rfl⟩
  have hlead : ∀ k, k < n → leadN (O' k) = leadN (O k) := fun k hk => by rw [hO']; exact lessAll_lead hO hp hr hc hs hk
  have hk' : ∀ k, O' k = lessRow L (O k) s (nth (O k) (leadN r)) p := fun k => by rw [hO']; rfl
  have hsame : ∀ k, k < n → ∀ j, j < n → nth (O' k) (leadN (O j)) = nth (O k) (leadN (O j)) := fun k hk j hj => by
    rw [hk' k]; exact less_same (by omega) (hO.lt j hj) (hO.pl k hk) (hso j hj)
  have hgone : ∀ k, k < n → nth (O' k) (leadN r) = 0 := fun k _ => by rw [hk' k]; exact less_gone (by omega) hc hs1
  -- a property of all rows
  have hall : ∀ (P : List Int → Prop), (∀ k, k < n → P (O' k)) → P s → ∀ k, k < n + 1 → P (insR O' q s k) := fun P hP hPs k hk => by
    unfold insR; split
    · exact hP k (by omega)
    · split
      · exact hPs
      · exact hP (k - 1) (by omega)
  have hspo : Sp p L (Rs (n + 1) (insR O' q s)) (nth s) := .mem ⟨q, by omega, by unfold insR; rw [if_neg (by omega), if_pos rfl]⟩
  have hspO' : ∀ k, k < n → Sp p L (Rs (n + 1) (insR O' q s)) (nth (O' k)) := fun k hk => by
    by_cases e : k < q
    · exact .mem ⟨k, by omega, by unfold insR; rw [if_pos e]⟩
    · exact .mem ⟨k + 1, by omega, by unfold insR; rw [if_neg (by omega), if_neg (by omega)]; rfl⟩
  have hspO : ∀ k, k < n → Sp p L (Rs (n + 1) (insR O' q s)) (nth (O k)) := fun k hk => by
    refine Sp.sub (hspO' k hk) (-nth (O k) (leadN r)) hspo (fun i hi => ?_)
    rw [hk' k]
    have := (less_cg (p := p) (xs := O k) (ys := s) (k := nth (O k) (leadN r)) (by omega) hi).symm
    exact (Cg.sub this (Cg.refl p (-nth (O k) (leadN r) * nth s i))).trans (Cg.of_eq (by grind))
  have hspr : Sp p L (Rs (n + 1) (insR O' q s)) (nth r) := (Sp.smul (nth r (leadN r)) hspo).cg fun i hi => by
    rw [hsn i hi]
    have := (invm_spec hp hnc).2.2
    refine ((Cg.refl p _).mul (Cg.emod_left _ p)).trans ?_
    have h3 := (Cg.refl p (nth r i)).mul this
    exact (Cg.of_eq (by grind)).trans (h3.trans (Cg.of_eq (Int.mul_one _)))
  have hold : ∀ u, Rs n O u → Sp p L (Rs (i + 1) R0) u := fun u ⟨j, hj, e⟩ => by
    rw [e]; exact (h.from_ j hj).trans fun v ⟨t, ht, e'⟩ => .mem ⟨t, by omega, e'⟩
  have hrf : Sp p L (Rs (i + 1) R0) (nth r) := Sp.sub (.mem ⟨i, by omega, rfl⟩) 1 (hr.diff.trans hold) (fun j _ => Cg.of_eq (by grind))
  have hsf : Sp p L (Rs (i + 1) R0) (nth s) := (Sp.smul (invm (nth r (leadN r)) p) hrf).cg fun i hi => by rw [hsn i hi, Int.mul_comm]; exact Cg.emod_right _ p
  have hO'f : ∀ k, k < n → Sp p L (Rs (i + 1) R0) (nth (O' k)) := fun k hk => by
    rw [hk' k]
    exact Sp.sub (hold _ ⟨k, hk, rfl⟩) (nth (O k) (leadN r)) hsf (fun j hj => less_cg (by omega) hj)
  rw [← hO']
  refine ⟨⟨hall (fun x => x.length = L) (fun k _ => by rw [hk' k, lessRow_length]) hsl, hall (fun x => Pl p x) (fun k _ => by rw [hk' k]; exact lessRow_pl _ _ _ _ (by omega)) hspl,
    hall (fun x => leadN x < L) (fun k hk => by rw [hlead k hk]; exact hO.lt k hk) (by rw [hslead]; exact hc),
    hall (fun x => nth x (leadN x) = 1) (fun k hk => by rw [hlead k hk, hsame k hk k hk, hO.one k hk]) (by rw [hslead, hs1]), fun j k hjk hk => ?_, fun j k hj hk hjk => ?_⟩, fun k hk => ?_, hall (fun x => Sp p L (Rs (i + 1) R0) (nth x)) hO'f hsf⟩
  · have h3 : ∀ t, q ≤ t → t < n → leadN r < leadN (O t) := fun t ht1 ht2 => by have := h2 t ht1 ht2; have := hne t ht2; omega
    unfold insR
    by_cases e1 : j < q
    · rw [if_pos e1, hlead j (by omega)]
      by_cases e2 : k < q
      · rw [if_pos e2, hlead k (by omega)]; exact hO.mono j k hjk (by omega)
      · rw [if_neg e2]
        by_cases e3 : k = q
        · rw [if_pos e3, hslead]; exact h1 j e1
        · rw [if_neg e3, hlead (k - 1) (by omega)]; exact hO.mono j (k - 1) (by omega) (by omega)
    · rw [if_neg e1, if_neg (show ¬ k < q by omega), if_neg (show ¬ k = q by omega), hlead (k - 1) (by omega)]
      by_cases e3 : j = q
      · rw [if_pos e3, hslead]; exact h3 (k - 1) (by omega) (by omega)
      · rw [if_neg e3, hlead (j - 1) (by omega)]; exact hO.mono (j - 1) (k - 1) (by omega) (by omega)
  · have hoo : ∀ a b, a < n → b < n → a ≠ b → nth (O' a) (leadN (O' b)) = 0 := fun a b ha hb hab => by rw [hlead b hb, hsame a ha b hb]; exact hO.alone a b ha hb hab
    have hos : ∀ a, a < n → nth (O' a) (leadN s) = 0 := fun a ha => by rw [hslead]; exact hgone a ha
    have hsO : ∀ b, b < n → nth s (leadN (O' b)) = 0 := fun b hb => by rw [hlead b hb]; exact hso b hb
    unfold insR
    by_cases e1 : j < q <;> by_cases e2 : k < q <;> by_cases e3 : j = q <;> by_cases e4 : k = q <;> simp only [e1, e2, e3, e4, if_true, if_false] <;> first
      | omega
      | exact hoo _ _ (by omega) (by omega) (by omega)
      | exact hos _ (by omega)
      | exact hsO _ (by omega)
      | (subst e3; simp only [Nat.lt_irrefl, if_false, if_true]; first | exact hsO _ (by omega) | omega)
      | (subst e4; simp only [Nat.lt_irrefl, if_false, if_true]; first | exact hos _ (by omega) | omega)
  · by_cases e : k = i
    · subst e
      have hd : Sp p L (Rs (n + 1) (insR O' q s)) (fun j => nth (R0 k) j - nth r j) := hr.diff.trans fun u ⟨j, hj, e⟩ => by rw [e]; exact hspO j hj
      exact Sp.sub hd (-1) hspr (fun j _ => Cg.of_eq (by grind))
    · exact (h.into k (by omega)).trans fun u ⟨j, hj, e'⟩ => by rw [e']; exact hspO j hj
end

/-- The rows that are there, as far as t less the new one. -/
def mixR (L : Nat) (O : Nat → List Int) (s : List Int) (c : Nat) (p : Int) (t : Nat) : Nat → List Int := fun i => if i < t then lessAll L O s c p i else O i

end Cl

namespace Cl

/-- Rows of n plain numbers, none of them nought. -/
def Plains (e : List (List Int)) (n : Nat) (p : Int) : Prop := ∀ i, i < e.length → (rAt e i).length = n ∧ leadN (rAt e i) < n ∧ Pl p (rAt e i)
/-- A vector on the way: k rows have told. -/
def putTo (e : List (List Int)) (n : Nat) (p : Int) (c : Nat) : Nat → List Int
  | 0 => (List.replicate n 0).set c 1
  | k + 1 => (putTo e n p c k).set (leadN (rAt e k)) (red (-(nth (rAt e k) c)) p)
/-- The same, but a row that leads at c tells nothing. -/
def putTo' (e : List (List Int)) (n : Nat) (p : Int) (c : Nat) : Nat → List Int
  | 0 => (List.replicate n 0).set c 1
  | k + 1 => if leadN (rAt e k) = c then putTo' e n p c k else (putTo' e n p c k).set (leadN (rAt e k)) (red (-(nth (rAt e k) c)) p)
theorem putTo'_zero (e : List (List Int)) (n : Nat) (p : Int) (c : Nat) : putTo' e n p c 0 = (List.replicate n 0).set c 1 := by unfold putTo'; rfl
theorem putTo'_hit {e : List (List Int)} {n : Nat} {p : Int} {c k : Nat} (h : leadN (rAt e k) = c) : putTo' e n p c (k + 1) = putTo' e n p c k := by
  conv => lhs; unfold putTo'
  rw [if_pos h]
theorem putTo'_miss {e : List (List Int)} {n : Nat} {p : Int} {c k : Nat} (h : leadN (rAt e k) ≠ c) : putTo' e n p c (k + 1) = (putTo' e n p c k).set (leadN (rAt e k)) (red (-(nth (rAt e k) c)) p) := by
  conv => lhs; unfold putTo'
  rw [if_neg h]
@[simp] theorem putTo_length (e : List (List Int)) (n : Nat) (p : Int) (c k : Nat) : (putTo e n p c k).length = n := by
  induction k with
  | zero => simp [putTo]
  | succ k ih => simp [putTo, ih]
@[simp] theorem putTo'_length (e : List (List Int)) (n : Nat) (p : Int) (c k : Nat) : (putTo' e n p c k).length = n := by
  induction k with
  | zero => simp [putTo']
  | succ k ih => unfold putTo'; split <;> simp [ih]
/-- No one of the first k rows leads at c. -/
def freeTo (e : List (List Int)) (c k : Nat) : Bool := (List.range k).all fun i => leadN (rAt e i) != c
theorem freeTo_iff {e : List (List Int)} {c k : Nat} : freeTo e c k = true ↔ ∀ i, i < k → leadN (rAt e i) ≠ c := by
  unfold freeTo
  simp [List.all_eq_true, List.mem_range]
theorem freeTo_zero (e : List (List Int)) (c : Nat) : freeTo e c 0 = true := rfl
theorem freeTo_hit {e : List (List Int)} {c k : Nat} (h : leadN (rAt e k) = c) : freeTo e c (k + 1) = false := by
  apply Bool.eq_false_iff.2; intro h'; exact freeTo_iff.1 h' k (by omega) h
theorem freeTo_miss {e : List (List Int)} {c k : Nat} (h : leadN (rAt e k) ≠ c) : freeTo e c (k + 1) = freeTo e c k := by
  apply Bool.eq_iff_iff.2
  rw [freeTo_iff, freeTo_iff]
  constructor
  · intro h' i hi; exact h' i (by omega)
  · intro h' i hi
    by_cases e : i = k
    · exact e ▸ h
    · exact h' i (by omega)
theorem putTo_free {e : List (List Int)} {n : Nat} {p : Int} {c k : Nat} (h : freeTo e c k = true) : putTo' e n p c k = putTo e n p c k := by
  induction k with
  | zero => rfl
  | succ k ih =>
    have h' := freeTo_iff.1 h
    unfold putTo' putTo
    rw [if_neg (h' k (by omega)), ih (freeTo_iff.2 fun i hi => h' i (by omega))]
theorem put_small {n : Nat} {p : Int} {xs : List Int} {i : Nat} {v : Int} (hx : Pl p xs) (hv : 0 ≤ v ∧ v < p) : Pl p (xs.set i v) := by
  intro j
  by_cases hi : i < xs.length
  · rw [nth_set hi]; split
    · exact hv
    · exact hx j
  · rw [List.set_eq_of_length_le (by omega)]; exact hx j
theorem zeros_pl {n : Nat} {p : Int} (hp : 2 ≤ p) : Pl p (List.replicate n 0) := by
  rw [← fillTo_zero n (fun _ => 0)]
  exact Pl.of_tab (by omega) fun i hi => by simp; omega
theorem putTo_pl {e : List (List Int)} {n : Nat} {p : Int} {c k : Nat} (hp : 2 ≤ p) : Pl p (putTo e n p c k) := by
  induction k with
  | zero => exact put_small (n := n) (zeros_pl hp) (by omega)
  | succ k ih => exact put_small (n := n) ih (red_bd _ (by omega))
theorem putTo'_pl {e : List (List Int)} {n : Nat} {p : Int} {c k : Nat} (hp : 2 ≤ p) : Pl p (putTo' e n p c k) := by
  induction k with
  | zero => exact put_small (n := n) (zeros_pl hp) (by omega)
  | succ k ih =>
    unfold putTo'; split
    · exact ih
    · exact put_small (n := n) ih (red_bd _ (by omega))

/-- The vectors that the first c columns bear. -/
def nullTo (e : List (List Int)) (n : Nat) (p : Int) (c : Nat) : List (List Int) := ((List.range c).filter (fun i => freeTo e i e.length)).map (fun i => putTo e n p i e.length)
theorem nullTo_zero (e : List (List Int)) (n : Nat) (p : Int) : nullTo e n p 0 = [] := rfl
theorem nullTo_free {e : List (List Int)} {n : Nat} {p : Int} {c : Nat} (h : freeTo e c e.length = true) : nullTo e n p (c + 1) = nullTo e n p c ++ [putTo e n p c e.length] := by
  unfold nullTo; simp [List.range_succ, List.filter_append, h]
theorem nullTo_held {e : List (List Int)} {n : Nat} {p : Int} {c : Nat} (h : freeTo e c e.length = false) : nullTo e n p (c + 1) = nullTo e n p c := by
  unfold nullTo; simp [List.range_succ, List.filter_append, h]
theorem nullTo_len (e : List (List Int)) (n : Nat) (p : Int) (c : Nat) : (nullTo e n p c).length ≤ c := by
  unfold nullTo; rw [List.length_map]; exact Nat.le_trans (List.length_filter_le _ _) (by simp)
theorem nullTo_row {e : List (List Int)} {n : Nat} {p : Int} {c i : Nat} (h : i < (nullTo e n p c).length) : ∃ q, q < c ∧ freeTo e q e.length = true ∧ rAt (nullTo e n p c) i = putTo e n p q e.length := by
  have := rAt_mem h
  unfold nullTo at this ⊢
  simp only [List.mem_map, List.mem_filter, List.mem_range] at this
  obtain ⟨q, ⟨h1, h2⟩, h3⟩ := this
  exact ⟨q, h1, h2, h3.symm⟩

theorem nullTo_prefix (e : List (List Int)) (n : Nat) (p : Int) (c d : Nat) : ∃ t, nullTo e n p (c + d) = nullTo e n p c ++ t := by
  induction d with
  | zero => exact ⟨[], by simp⟩
  | succ d ih =>
    obtain ⟨t, ht⟩ := ih
    cases h : freeTo e (c + d) e.length with
    | true => exact ⟨t ++ [putTo e n p (c + d) e.length], by rw [← Nat.add_assoc, nullTo_free h, ht, List.append_assoc]⟩
    | false => exact ⟨t, by rw [← Nat.add_assoc, nullTo_held h, ht]⟩
theorem nullTo_at {e : List (List Int)} {n : Nat} {p : Int} {c N : Nat} (hc : c < N) (h : freeTo e c e.length = true) : rAt (nullTo e n p N) (nullTo e n p c).length = putTo e n p c e.length := by
  obtain ⟨d, rfl⟩ : ∃ d, N = (c + 1) + d := ⟨N - (c + 1), by omega⟩
  obtain ⟨t, ht⟩ := nullTo_prefix e n p (c + 1) d
  rw [ht, nullTo_free h]
  unfold rAt
  simp [List.getD]
theorem rowsTab_rAt (l : List (List Int)) : rowsTab l.length (rAt l) = l := by
  refine rows_ext (by rw [rowsTab_length]) fun i hi => ?_
  rw [rowsTab_length] at hi
  rw [rAt_rowsTab, if_pos hi]

/-- May it be asked what the matrix makes nought? -/
def nullOk (rows : List (List Int)) (n p : Int) : Bool := matOk rows p && (decide (0 ≤ n) && decide (n ≤ 64) && (decide (rows.length = 0) || decide (((rAt rows 0).length : Int) = n)))
theorem nullOk_iff {rows : List (List Int)} {n p : Int} : nullOk rows n p = true ↔ matOk rows p = true ∧ 0 ≤ n ∧ n ≤ 64 ∧ (rows.length = 0 ∨ ((rAt rows 0).length : Int) = n) := by
  unfold nullOk; simp only [Bool.and_eq_true, Bool.or_eq_true, decide_eq_true_eq, and_assoc]

end Cl
