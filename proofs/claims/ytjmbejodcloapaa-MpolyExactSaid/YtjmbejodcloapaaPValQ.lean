/- Values of sums and products; Leibniz's law; degrees of products. No program in sight. -/
import Derived.Test.YtjmbejodcloapaaPPlains
import Derived.Test.YtjmbejodcloapaaPMvs
import Derived.Test.YtjmbejodcloapaaPFstK
set_option linter.unusedVariables false
set_option linter.unusedSimpArgs false
namespace Cl
section
variable {n i : Nat}
theorem sumL_filter {α : Type} (f : α → Int) (q : α → Bool) {L : List α} (h : ∀ a ∈ L, q a = false → f a = 0) : sumL f L = sumL f (L.filter q) := by
  induction L with
  | nil => rfl
  | cons a L ih =>
    have ih' := ih fun b hb => h b (List.mem_cons_of_mem _ hb)
    cases hq : q a with
    | true => rw [List.filter_cons_of_pos hq]; show f a + _ = f a + _; rw [ih']
    | false => rw [List.filter_cons_of_neg (by simp [hq])]; show f a + _ = _; rw [h a List.mem_cons_self hq, ih', Int.zero_add]
theorem nth_addI {a b : Plc} (ha : a.length = n) (hb : b.length = n) (hi : i < n) : nth (addP a b) i = nth a i + nth b i := by
  unfold addP nth
  simp [List.getD, ha, hb, hi]
theorem degL_spec (i : Nat) : ∀ (L : Mv), (∀ t ∈ L, 0 ≤ nth t.1 i) → (L = [] ∧ degL i L = -1) ∨ (0 ≤ degL i L ∧ (∀ t ∈ L, nth t.1 i ≤ degL i L) ∧ ∃ t ∈ L, nth t.1 i = degL i L) := fun L => by
  have gen : ∀ (M : Mv) (d : Int), (∀ t ∈ M, nth t.1 i ≤ M.foldl (fun d t => max d (nth t.1 i)) d) ∧ d ≤ M.foldl (fun d t => max d (nth t.1 i)) d ∧ (M.foldl (fun d t => max d (nth t.1 i)) d = d ∨ ∃ t ∈ M, nth t.1 i = M.foldl (fun d t => max d (nth t.1 i)) d) := fun M => by
    induction M with
    | nil => intro d; exact ⟨fun t ht => (by cases ht), Int.le_refl _, .inl rfl⟩
    | cons a M ih =>
      intro d
      obtain ⟨h1, h2, h3⟩ := ih (max d (nth a.1 i))
      refine ⟨fun t ht => ?_, ?_, ?_⟩
      · rcases List.mem_cons.1 ht with rfl | ht
        · show _ ≤ M.foldl _ (max d (nth t.1 i)); omega
        · exact h1 t ht
      · show _ ≤ M.foldl _ (max d (nth a.1 i)); omega
      · show M.foldl _ (max d (nth a.1 i)) = d ∨ _
        rcases h3 with h3 | ⟨t, ht, h3⟩
        · by_cases e : d ≤ nth a.1 i
          · exact .inr ⟨a, List.mem_cons_self, by show _ = M.foldl _ (max d (nth a.1 i)); omega⟩
          · exact .inl (by omega)
        · exact .inr ⟨t, List.mem_cons_of_mem _ ht, h3⟩
  intro h0
  obtain ⟨h1, h2, h3⟩ := gen L (-1)
  match L, h0, h1, h2, h3 with
  | [], _, _, _, _ => exact .inl ⟨rfl, rfl⟩
  | t :: L, h0, h1, h2, h3 =>
    have k1 := h1 t List.mem_cons_self
    have k0 := h0 t List.mem_cons_self
    refine .inr ⟨?_, h1, ?_⟩
    · show 0 ≤ List.foldl _ (-1) (t :: L); omega
    · rcases h3 with h3 | h3
      · exfalso; omega
      · exact h3
theorem filter_plain {L : Mv} (h : PlainM n L) (f : Trm → Bool) : PlainM n (L.filter f) := ⟨fun t ht => h.len t (List.mem_filter.1 ht).1, h.ord.sublist List.filter_sublist, fun t ht => h.ne t (List.mem_filter.1 ht).1⟩
theorem deg_mul {A B P : Mv} {dA dB : Int} (hi : i < n) (hA : PlainM n A) (hB : PlainM n B) (hP : PlainM n P) (bA : BdM dA A) (bB : BdM dB B) (e : EqM n P (mulM A B)) (hA0 : A ≠ []) (hB0 : B ≠ []) : degL i P = degL i A + degL i B ∧ 0 ≤ degL i A ∧ 0 ≤ degL i B := by
  have nA : ∀ t ∈ A, 0 ≤ nth t.1 i := fun t ht => (bA t ht _ (nth_mem (by rw [hA.len t ht]; exact hi))).1
  have nB : ∀ t ∈ B, 0 ≤ nth t.1 i := fun t ht => (bB t ht _ (nth_mem (by rw [hB.len t ht]; exact hi))).1
  have from' : ∀ t ∈ P, ∃ a ∈ A, ∃ b ∈ B, addP a.1 b.1 = t.1 := fun t ht => by
    obtain ⟨s, hs, e2⟩ := hP.from_ e ht
    obtain ⟨a, ha, hs⟩ := List.mem_flatMap.1 hs
    obtain ⟨b, hb, rfl⟩ := List.mem_map.1 hs
    exact ⟨a, ha, b, hb, e2⟩
  have nP : ∀ t ∈ P, 0 ≤ nth t.1 i := fun t ht => by
    obtain ⟨a, ha, b, hb, e2⟩ := from' t ht
    rw [← e2, nth_addI (hA.len a ha) (hB.len b hb) hi]
    have := nA a ha
    have := nB b hb
    omega
  rcases degL_spec i A nA with ⟨h, _⟩ | ⟨a0, a1, ⟨ta, hta, ea⟩⟩
  · exact absurd h hA0
  rcases degL_spec i B nB with ⟨h, _⟩ | ⟨b0, b1, ⟨tb, htb, eb⟩⟩
  · exact absurd h hB0
  refine ⟨?_, a0, b0⟩
  generalize hda : degL i A = da at *
  generalize hdb : degL i B = db at *
  -- the terms of greatest exponent
  have hAt := filter_plain hA fun t => decide (nth t.1 i = da)
  have hBt := filter_plain hB fun t => decide (nth t.1 i = db)
  have mA : ta ∈ A.filter fun t => decide (nth t.1 i = da) := List.mem_filter.2 ⟨hta, by simp [ea]⟩
  have mB : tb ∈ B.filter fun t => decide (nth t.1 i = db) := List.mem_filter.2 ⟨htb, by simp [eb]⟩
  obtain ⟨s, A', hsA⟩ := List.exists_cons_of_ne_nil (List.ne_nil_of_mem mA)
  obtain ⟨t, B', htB⟩ := List.exists_cons_of_ne_nil (List.ne_nil_of_mem mB)
  have hsm : s ∈ A.filter fun t => decide (nth t.1 i = da) := by rw [hsA]; exact List.mem_cons_self
  have htm : t ∈ B.filter fun t => decide (nth t.1 i = db) := by rw [htB]; exact List.mem_cons_self
  obtain ⟨hs1, hs2⟩ := List.mem_filter.1 hsm
  obtain ⟨ht1, ht2⟩ := List.mem_filter.1 htm
  have hs2 : nth s.1 i = da := by simpa using hs2
  have ht2 : nth t.1 i = db := by simpa using ht2
  have ls := hA.len s hs1
  have lt := hB.len t ht1
  have hnp : nth (addP s.1 t.1) i = da + db := by rw [nth_addI ls lt hi, hs2, ht2]
  have hpl := addP_length ls lt
  -- at that place the whole product holds what the product of those holds
  have hco : coM (mulM A B) (addP s.1 t.1) = coM (mulM (A.filter fun t => decide (nth t.1 i = da)) (B.filter fun t => decide (nth t.1 i = db))) (addP s.1 t.1) := by
    rw [coM_mul, coM_mul]
    have inner : ∀ a ∈ A, sumL (fun b : Trm => if addP a.1 b.1 = addP s.1 t.1 then a.2 * b.2 else 0) B = if nth a.1 i = da then sumL (fun b : Trm => if addP a.1 b.1 = addP s.1 t.1 then a.2 * b.2 else 0) (B.filter fun t => decide (nth t.1 i = db)) else 0 := fun a ha => by
      have hz : ∀ b ∈ B, addP a.1 b.1 = addP s.1 t.1 → nth a.1 i = da ∧ nth b.1 i = db := fun b hb e3 => by
        have h1 := nth_addI (hA.len a ha) (hB.len b hb) hi
        rw [e3, hnp] at h1
        have := a1 a ha
        have := b1 b hb
        omega
      by_cases ea2 : nth a.1 i = da
      · rw [if_pos ea2]
        exact sumL_filter _ _ fun b hb hnb => by
          rw [if_neg]
          intro e3
          have := (hz b hb e3).2
          simp [this] at hnb
      · rw [if_neg ea2, sumL_congr (g := fun _ => 0) fun b hb => if_neg fun e3 => ea2 (hz b hb e3).1, sumL_zero]
    rw [sumL_congr inner]
    refine (sumL_filter _ (fun a : Trm => decide (nth a.1 i = da)) fun a _ hna => ?_).trans (sumL_congr fun a ha => ?_)
    · rw [if_neg]
      intro e3
      simp [e3] at hna
    · have h2 := (List.mem_filter.1 ha).2
      rw [if_pos (by simpa using h2)]
  have hne : coM P (addP s.1 t.1) ≠ 0 := by
    rw [e _ hpl, hco, hsA, htB]
    rw [hsA] at hAt
    rw [htB] at hBt
    rw [(mul_lead hAt hBt).1]
    exact Int.mul_ne_zero (hA.ne s hs1) (hB.ne t ht1)
  obtain ⟨u, hu, hup⟩ := hP.mem_of_co hne
  rcases degL_spec i P nP with ⟨h, _⟩ | ⟨_, p1, ⟨v, hv, ev⟩⟩
  · rw [h] at hu; cases hu
  have k1 := p1 u hu
  rw [hup, hnp] at k1
  obtain ⟨a, ha, b, hb, e4⟩ := from' v hv
  have k2 := nth_addI (hA.len a ha) (hB.len b hb) hi
  rw [e4] at k2
  have := a1 a ha
  have := b1 b hb
  omega
end
end Cl
