/- The program's way, column by column, comes to the plain rows. No program in sight. -/
import Derived.Test.YthpkpnpkkflfpaaSpan
namespace Cl

/-- What holds behind c columns: the first n rows are plain there, the others have nought. -/
structure EInv (L : Nat) (p : Int) (m : Nat) (R0 : Nat → List Int) (c : Nat) (R : Nat → List Int) (n : Nat) : Prop where
  le : n ≤ m
  len : ∀ k, k < m → (R k).length = L
  pl : ∀ k, k < m → Pl p (R k)
  lt : ∀ k, k < n → leadN (R k) < c
  one : ∀ k, k < n → nth (R k) (leadN (R k)) = 1
  mono : ∀ j k, j < k → k < n → leadN (R j) < leadN (R k)
  alone : ∀ j k, j < m → k < n → j ≠ k → nth (R j) (leadN (R k)) = 0
  zero : ∀ k, n ≤ k → k < m → ∀ i, i < c → nth (R k) i = 0
  into : ∀ k, k < m → Sp p L (Rs m R) (nth (R0 k))
  from_ : ∀ k, k < m → Sp p L (Rs m R0) (nth (R k))

theorem nth_scaleRow (x p : Int) {row : List Int} {i : Nat} (h : i < row.length) : nth (scaleRow x p row) i = nth row i * x % p := by
  unfold scaleRow; rw [nth_tab, if_pos h]
theorem nth_strikeRow (own : List Int) (c : Nat) (p : Int) {row : List Int} {i : Nat} (h : i < row.length) : nth (strikeRow own c p row) i = (nth row i + (p - nth row c) * nth own i) % p := by
  unfold strikeRow; rw [nth_tab, if_pos h]
theorem strike_same (own : List Int) (c : Nat) {p : Int} {row : List Int} (hpl : Pl p row) {i : Nat} (h : i < row.length) (h0 : nth own i = 0) : nth (strikeRow own c p row) i = nth row i := by
  rw [nth_strikeRow own c p h, h0, Int.mul_zero, Int.add_zero]
  have := hpl i
  exact Int.emod_eq_of_lt this.1 this.2
theorem strike_cg (own : List Int) (c : Nat) {p : Int} {row : List Int} {i : Nat} (h : i < row.length) : Cg p (nth row i - nth row c * nth own i) (nth (strikeRow own c p row) i) := by
  rw [nth_strikeRow own c p h]
  exact Cg.trans ⟨-nth own i, by grind⟩ (Cg.emod_right _ p)

section
variable {L : Nat} {p : Int} {m : Nat} {R0 R : Nat → List Int} {c n : Nat}
theorem EInv.start (hlen : ∀ k, k < m → (R0 k).length = L) (hpl : ∀ k, k < m → Pl p (R0 k)) : EInv L p m R0 0 R0 0 :=
  ⟨Nat.zero_le _, hlen, hpl, fun _ h => absurd h (by omega), fun _ h => absurd h (by omega), fun _ _ _ h => absurd h (by omega), fun _ _ _ h => absurd h (by omega), fun _ _ _ _ h => absurd h (by omega), fun k hk => .mem ⟨k, hk, rfl⟩, fun k hk => .mem ⟨k, hk, rfl⟩⟩
theorem EInv.miss (h : EInv L p m R0 c R n) (hm : Miss R m n c) : EInv L p m R0 (c + 1) R n :=
  ⟨h.le, h.len, h.pl, fun k hk => by have := h.lt k hk; omega, h.one, h.mono, h.alone, fun k h1 h2 i hi => by
    by_cases e : i = c
    · subst e; exact hm k h1 h2
    · exact h.zero k h1 h2 i (by omega), h.into, h.from_⟩
theorem EInv.hit (hp : Pr p) (h : EInv L p m R0 c R n) (hc : c < L) {q : Nat} (hq : Hit R m n q c) : EInv L p m R0 (c + 1) (pivotR R n q c p) (n + 1) := by
  have hn : n < m := by have := hq.ge; have := hq.lt; omega
  have hp0 := hp.pos
  obtain ⟨own, hown⟩ : ∃ own, own = scaleRow (invm (nth (R q) c) p) p (R q) := ⟨_, rfl⟩
  have hql := h.len q hq.lt
  have ho : ∀ i, i < L → nth own i = nth (R q) i * invm (nth (R q) c) p % p := fun i hi => by rw [hown, nth_scaleRow _ _ (by omega)]
  have hqp := h.pl q hq.lt c
  have hnc : ¬ Cg p (nth (R q) c) 0 := fun h0 => hq.yes (h0.eq_of_lt hqp.1 hqp.2 (by omega) hp0)
  have hoc : nth own c = 1 := by
    rw [ho c hc, emod_eq_of_cg (invm_spec hp hnc).2.2, Int.emod_eq_of_lt (by omega) (by have := hp.two; omega)]
  have hoz : ∀ i, i < L → nth (R q) i = 0 → nth own i = 0 := fun i hi h0 => by rw [ho i hi, h0, Int.zero_mul, Int.zero_emod]
  have hob : ∀ i, i < c → nth own i = 0 := fun i hi => hoz i (by omega) (h.zero q hq.ge hq.lt i hi)
  have hol : own.length = L := by rw [hown, scaleRow_length, hql]
  have hlead : leadN own = c := leadN_eq (by omega) hob (by rw [hoc]; omega)
  have hopl : Pl p own := by rw [hown]; exact scaleRow_pl _ (by omega) _
  -- the rows changed about
  have hS : ∀ (P : List Int → Prop), (∀ k, k < m → P (R k)) → ∀ k, k < m → P (swapR R n q k) := fun P hP k hk => by
    unfold swapR; split
    · exact hP q hq.lt
    · split
      · exact hP n hn
      · exact hP k hk
  have hSr : ∀ (P : List Int → Prop), (∀ k, n ≤ k → k < m → P (R k)) → ∀ k, n ≤ k → k < m → P (swapR R n q k) := fun P hP k h1 hk => by
    unfold swapR; split
    · exact hP q hq.ge hq.lt
    · split
      · exact hP n (Nat.le_refl _) hn
      · exact hP k h1 hk
  have hSn : ∀ k, k < n → swapR R n q k = R k := fun k hk => by
    unfold swapR; rw [if_neg (by omega), if_neg (by have := hq.ge; omega)]
  have hsl := hS (fun r => r.length = L) h.len
  have hsp := hS (fun r => Pl p r) h.pl
  have hN : ∀ k, k = n → pivotR R n q c p k = own := fun k hk => by unfold pivotR; rw [if_pos hk, ← hown]
  have hK : ∀ k, k ≠ n → pivotR R n q c p k = strikeRow own c p (swapR R n q k) := fun k hk => by unfold pivotR; rw [if_neg hk, ← hown]
  have hat : ∀ k, k < m → k ≠ n → nth (pivotR R n q c p k) c = 0 := fun k hk hne => by
    rw [hK k hne, nth_strikeRow own c p (by rw [hsl k hk]; exact hc), hoc, Int.mul_one]
    rw [show nth (swapR R n q k) c + (p - nth (swapR R n q k) c) = p by omega, Int.emod_self]
  have hsame : ∀ k, k < m → k ≠ n → ∀ i, i < L → nth own i = 0 → nth (pivotR R n q c p k) i = nth (swapR R n q k) i := fun k hk hne i hi h0 => by
    rw [hK k hne]; exact strike_same own c (hsp k hk) (by rw [hsl k hk]; exact hi) h0
  have hoa : ∀ k, k < n → nth own (leadN (R k)) = 0 := fun k hk => hoz _ (by have := h.lt k hk; omega) (h.alone q k hq.lt hk (by have := hq.ge; omega))
  have hleadk : ∀ k, k < n → leadN (pivotR R n q c p k) = leadN (R k) := fun k hk => by
    have h1 := h.lt k hk
    have hkm : k < m := by omega
    refine leadN_eq (by rw [hK k (by omega), strikeRow_length, hsl k hkm]; omega) (fun i hi => ?_) ?_
    · rw [hsame k hkm (by omega) i (by omega) (hob i (by omega)), hSn k hk]; exact leadN_before hi
    · rw [hsame k hkm (by omega) _ (by omega) (hoa k hk), hSn k hk, h.one k hk]; omega
  -- spans
  have hspR : ∀ k, k < m → Sp p L (Rs m R) (nth (swapR R n q k)) := hS (fun r => Sp p L (Rs m R) (nth r)) (fun k hk => .mem ⟨k, hk, rfl⟩)
  have hspo : Sp p L (Rs m R) (nth own) := (Sp.smul (invm (nth (R q) c) p) (.mem ⟨q, hq.lt, rfl⟩)).cg fun i hi => by
    rw [ho i hi, Int.mul_comm]; exact Cg.emod_right _ p
  have hto : ∀ k, k < m → Sp p L (Rs m R) (nth (pivotR R n q c p k)) := fun k hk => by
    by_cases e : k = n
    · rw [hN k e]; exact hspo
    · rw [hK k e]
      exact Sp.sub (hspR k hk) (nth (swapR R n q k) c) hspo (fun i hi => strike_cg own c (by rw [hsl k hk]; exact hi))
  have hback : ∀ k, k < m → Sp p L (Rs m (pivotR R n q c p)) (nth (R k)) := by
    have hon : Sp p L (Rs m (pivotR R n q c p)) (nth own) := .mem ⟨n, hn, by rw [hN n rfl]⟩
    have hq' : Sp p L (Rs m (pivotR R n q c p)) (nth (R q)) := (Sp.smul (nth (R q) c) hon).cg fun i hi => by
      rw [ho i hi]
      have := (invm_spec hp hnc).2.2
      refine ((Cg.refl p _).mul (Cg.emod_left _ p)).trans ?_
      have h3 := (Cg.refl p (nth (R q) i)).mul this
      exact (Cg.of_eq (by grind)).trans (h3.trans (Cg.of_eq (Int.mul_one _)))
    have hsw : ∀ k, k < m → k ≠ n → Sp p L (Rs m (pivotR R n q c p)) (nth (swapR R n q k)) := fun k hk hne => by
      refine Sp.sub (.mem ⟨k, hk, rfl⟩) (-nth (swapR R n q k) c) hon (fun i hi => ?_)
      rw [hK k hne]
      have := (strike_cg own c (p := p) (row := swapR R n q k) (i := i) (by rw [hsl k hk]; exact hi)).symm
      exact (Cg.sub this (Cg.refl p (-nth (swapR R n q k) c * nth own i))).trans (Cg.of_eq (by grind))
    intro k hk
    by_cases e : k = q
    · subst e; exact hq'
    · by_cases e2 : k = n
      · have hqn : q ≠ n := fun h => e (by omega)
        have := hsw q hq.lt hqn
        unfold swapR at this
        rw [if_neg hqn, if_pos rfl] at this
        rw [e2]; exact this
      · have := hsw k hk e2
        unfold swapR at this
        rwa [if_neg e2, if_neg e] at this
  refine ⟨by omega, fun k hk => ?_, fun k hk => ?_, fun k hk => ?_, fun k hk => ?_, fun j k hjk hk => ?_, fun j k hj hk hne => ?_, fun k h1 h2 i hi => ?_, fun k hk => ?_, fun k hk => ?_⟩
  · by_cases e : k = n
    · rw [hN k e, hol]
    · rw [hK k e, strikeRow_length, hsl k hk]
  · by_cases e : k = n
    · rw [hN k e]; exact hopl
    · rw [hK k e]; exact strikeRow_pl (by omega)
  · by_cases e : k = n
    · rw [hN k e, hlead]; omega
    · rw [hleadk k (by omega)]; have := h.lt k (by omega); omega
  · by_cases e : k = n
    · rw [hN k e, hlead, hoc]
    · rw [hleadk k (by omega)]
      have h1 := h.lt k (by omega)
      rw [hsame k (by omega) e _ (by omega) (hoa k (by omega)), hSn k (by omega), h.one k (by omega)]
  · by_cases e : k = n
    · rw [hN k e, hlead, hleadk j (by omega)]; exact h.lt j (by omega)
    · rw [hleadk j (by omega), hleadk k (by omega)]; exact h.mono j k hjk (by omega)
  · by_cases e : k = n
    · rw [hN k e, hlead]; exact hat j hj (fun e' => hne (by omega))
    · have hkn : k < n := by omega
      have h1 := h.lt k hkn
      rw [hleadk k hkn]
      by_cases e' : j = n
      · rw [hN j e']; exact hoa k hkn
      · rw [hsame j hj e' _ (by omega) (hoa k hkn)]
        by_cases hjn : j < n
        · rw [hSn j hjn]; exact h.alone j k hj hkn hne
        · exact hSr (fun r => nth r (leadN (R k)) = 0) (fun t h2 h3 => h.alone t k h3 hkn (by omega)) j (by omega) hj
  · by_cases e : i = c
    · subst e; exact hat k h2 (by omega)
    · rw [hsame k h2 (by omega) i (by omega) (hob i (by omega))]
      exact hSr (fun r => nth r i = 0) (fun t h3 h4 => h.zero t h3 h4 i (by omega)) k (by omega) h2
  · exact (h.into k hk).trans fun u ⟨j, hj, e⟩ => by rw [e]; exact hback j hj
  · exact (hto k hk).trans fun u ⟨j, hj, e⟩ => by rw [e]; exact h.from_ j hj
theorem EInv.of (hp : Pr p) (hlen : ∀ k, k < m → (R0 k).length = L) (hpl : ∀ k, k < m → Pl p (R0 k)) (h : Ech m L R0 p c R n) : c ≤ L → EInv L p m R0 c R n := by
  induction h with
  | start => intro _; exact EInv.start hlen hpl
  | miss _ hm ih => intro hc; exact (ih (by omega)).miss hm
  | hit _ hh ih => intro hc; exact (ih (by omega)).hit hp (by omega) hh
theorem EInv.done (h : EInv L p m R0 L R n) : RrefOf L p m R0 n R := by
  refine ⟨⟨fun k hk => h.len k (by have := h.le; omega), fun k hk => h.pl k (by have := h.le; omega), h.lt, h.one, h.mono, fun j k hj hk hne => h.alone j k (by have := h.le; omega) hk hne⟩, fun k hk => ?_, fun k hk => h.from_ k (by have := h.le; omega)⟩
  refine (h.into k hk).trans fun u ⟨j, hj, e⟩ => ?_
  rw [e]
  by_cases hjn : j < n
  · exact .mem ⟨j, hjn, rfl⟩
  · exact Sp.zero.cg fun i hi => by rw [h.zero j (by omega) hj i hi]; exact Cg.refl _ _
end

end Cl
