/- The document's way, row by row, comes to the plain rows. No program in sight. -/
import Derived.Test.YthpkpnpkkflfpaaSpanEch
namespace Cl

theorem nth_lessRow {n : Nat} (xs ys : List Int) (k p : Int) {i : Nat} (h : i < n) : nth (lessRow n xs ys k p) i = red (nth xs i - k * nth ys i) p := by
  unfold lessRow; rw [nth_tab, if_pos h]
theorem lessRow_pl (n : Nat) (xs ys : List Int) (k : Int) {p : Int} (hp : 1 ≤ p) : Pl p (lessRow n xs ys k p) := Pl.of_tab hp (fun _ _ => red_bd _ hp)
theorem less_same {n : Nat} {xs ys : List Int} {k p : Int} {i : Nat} (hp : 1 ≤ p) (h : i < n) (hx : Pl p xs) (h0 : nth ys i = 0) : nth (lessRow n xs ys k p) i = nth xs i := by
  rw [nth_lessRow _ _ _ _ h, h0, Int.mul_zero, Int.sub_zero, red_of_pos hp]
  have := hx i
  exact Int.emod_eq_of_lt this.1 this.2
theorem less_cg {n : Nat} {xs ys : List Int} {k p : Int} {i : Nat} (hp : 1 ≤ p) (h : i < n) : Cg p (nth xs i - k * nth ys i) (nth (lessRow n xs ys k p) i) := by
  rw [nth_lessRow _ _ _ _ h]; exact (red_cg hp).symm
theorem less_gone {n : Nat} {xs ys : List Int} {p : Int} {i : Nat} (hp : 1 ≤ p) (h : i < n) (h1 : nth ys i = 1) : nth (lessRow n xs ys (nth xs i) p) i = 0 := by
  rw [nth_lessRow _ _ _ _ h, h1, Int.mul_one, Int.sub_self, red_of_pos hp, Int.zero_emod]

/-- A row on the way of being made nought at the first places of the rows that are there: as far as k. -/
structure Red (L : Nat) (p : Int) (n : Nat) (O : Nat → List Int) (r0 : List Int) (k : Nat) (r : List Int) : Prop where
  len : r.length = L
  pl : Pl p r
  zero : ∀ j, j < k → nth r (leadN (O j)) = 0
  diff : Sp p L (Rs n O) (fun i => nth r0 i - nth r i)
section
variable {L : Nat} {p : Int} {n : Nat} {O : Nat → List Int} {r0 r : List Int} {k : Nat}
theorem Red.start (hl : r0.length = L) (hp : Pl p r0) : Red L p n O r0 0 r0 :=
  ⟨hl, hp, fun j h => absurd h (by omega), Sp.zero.cg fun i _ => Cg.of_eq (by omega)⟩
theorem Red.step (hO : Rref L p n O) (hp : 1 ≤ p) (h : Red L p n O r0 k r) (hk : k < n) : Red L p n O r0 (k + 1) (lessRow L r (O k) (nth r (leadN (O k))) p) := by
  have hlt := hO.lt k hk
  refine ⟨lessRow_length _ _ _ _ _, lessRow_pl _ _ _ _ hp, fun j hj => ?_, ?_⟩
  · by_cases e : j = k
    · subst e; exact less_gone hp hlt (hO.one j hk)
    · have hjn : j < n := by omega
      rw [less_same hp (hO.lt j hjn) h.pl (hO.alone k j hk hjn (fun e' => e e'.symm))]
      exact h.zero j (by omega)
  · refine Sp.sub h.diff (-nth r (leadN (O k))) (.mem ⟨k, hk, rfl⟩) (fun i hi => ?_)
    have := (less_cg (xs := r) (ys := O k) (k := nth r (leadN (O k))) hp hi).symm
    exact (Cg.of_eq (by grind)).trans ((Cg.refl p (nth r0 i)).sub this.symm)

/-- A row put in at place q. -/
def insR (O : Nat → List Int) (q : Nat) (s : List Int) : Nat → List Int := fun i => if i < q then O i else if i = q then s else O (i - 1)
/-- The rows that are there, less the new one as often as it is in them. -/
def lessAll (L : Nat) (O : Nat → List Int) (s : List Int) (c : Nat) (p : Int) : Nat → List Int := fun k => lessRow L (O k) s (nth (O k) c) p

theorem Red.none (hp : 1 ≤ p) {i : Nat} {R0 : Nat → List Int} (h : RrefOf L p i R0 n O) (hr : Red L p n O (R0 i) n r) (h0 : leadN r = L) : RrefOf L p (i + 1) R0 n O := by
  refine ⟨h.rref, fun k hk => ?_, fun k hk => (h.from_ k hk).trans fun u ⟨j, hj, e⟩ => .mem ⟨j, by omega, e⟩⟩
  by_cases e : k = i
  · subst e
    exact hr.diff.cg fun j hj => by
      rw [leadN_before (xs := r) (i := j) (by omega), Int.sub_zero]; exact Cg.refl _ _
  · exact h.into k (by omega)

theorem lessAll_lead (hO : Rref L p n O) (hp : Pr p) (hr : Red L p n O r0 n r) (hc : leadN r < L) {s : List Int} (hs : s = scaleRow (invm (nth r (leadN r)) p) p r) {k : Nat} (hk : k < n) :
    leadN (lessAll L O s (leadN r) p k) = leadN (O k) := by
  have hp0 := hp.pos
  have hlt := hO.lt k hk
  have hsz : ∀ i, i < L → nth r i = 0 → nth s i = 0 := fun i hi h0 => by rw [hs, nth_scaleRow _ _ (by rw [hr.len]; exact hi), h0, Int.zero_mul, Int.zero_emod]
  unfold lessAll
  refine leadN_eq (by rw [lessRow_length]; exact hlt) (fun i hi => ?_) ?_
  · by_cases hcl : leadN (O k) ≤ leadN r
    · rw [less_same (by omega) (by omega) (hO.pl k hk) (hsz i (by omega) (leadN_before (by omega)))]; exact leadN_before hi
    · have h0 : nth (O k) (leadN r) = 0 := leadN_before (by omega)
      rw [h0, nth_lessRow _ _ _ _ (by omega), Int.zero_mul, Int.sub_zero, leadN_before hi, red_of_pos (by omega), Int.zero_emod]
  · rw [less_same (by omega) hlt (hO.pl k hk) (hsz _ hlt (hr.zero k hk)), hO.one k hk]; omega

theorem Red.insert (hp : Pr p) {i : Nat} {R0 : Nat → List Int} (h : RrefOf L p i R0 n O) (hr : Red L p n O (R0 i) n r) (hc : leadN r < L) {s : List Int} (hs : s = scaleRow (invm (nth r (leadN r)) p) p r)
    {q : Nat} (hq : q ≤ n) (h1 : ∀ k, k < q → leadN (O k) < leadN r) (h2 : ∀ k, q ≤ k → k < n → ¬ leadN (O k) < leadN r) :
    RrefOf L p (i + 1) R0 (n + 1) (insR (lessAll L O s (leadN r) p) q s) := by
  have hp0 := hp.pos
  have hO := h.rref
  have hrl := hr.len
  have hsl : s.length = L := by rw [hs, scaleRow_length, hrl]
  have hsn : ∀ i, i < L → nth s i = nth r i * invm (nth r (leadN r)) p % p := fun i hi => by rw [hs, nth_scaleRow _ _ (by omega)]
  have hsz : ∀ i, i < L → nth r i = 0 → nth s i = 0 := fun i hi h0 => by rw [hsn i hi, h0, Int.zero_mul, Int.zero_emod]
  have hrc := hr.pl (leadN r)
  have hnz : nth r (leadN r) ≠ 0 := leadN_nz (by omega)
  have hnc : ¬ Cg p (nth r (leadN r)) 0 := fun h0 => hnz (h0.eq_of_lt hrc.1 hrc.2 (by omega) hp0)
  have hs1 : nth s (leadN r) = 1 := by rw [hsn _ hc, emod_eq_of_cg (invm_spec hp hnc).2.2, Int.emod_eq_of_lt (by omega) (by have := hp.two; omega)]
  have hsb : ∀ i, i < leadN r → nth s i = 0 := fun i hi => hsz i (by omega) (leadN_before hi)
  have hslead : leadN s = leadN r := leadN_eq (by omega) hsb (by rw [hs1]; omega)
  have hspl : Pl p s := by rw [hs]; exact scaleRow_pl _ (by omega) _
  have hso : ∀ k, k < n → nth s (leadN (O k)) = 0 := fun k hk => hsz _ (hO.lt k hk) (hr.zero k hk)
  have hne : ∀ k, k < n → leadN (O k) ≠ leadN r := fun k hk e => hnz (by rw [← e]; exact hr.zero k hk)
  obtain ⟨O', hO'⟩ : ∃ O', O' = lessAll L O s (leadN r) p := ⟨_, rfl⟩
  have hlead : ∀ k, k < n → leadN (O' k) = leadN (O k) := fun k hk => by rw [hO']; exact lessAll_lead hO hp hr hc hs hk
  have hk' : ∀ k, O' k = lessRow L (O k) s (nth (O k) (leadN r)) p := fun k => by rw [hO']; rfl
  have hsame : ∀ k, k < n → ∀ j, j < n → nth (O' k) (leadN (O j)) = nth (O k) (leadN (O j)) := fun k hk j hj => by
    rw [hk' k]; exact less_same (by omega) (hO.lt j hj) (hO.pl k hk) (hso j hj)
  have hgone : ∀ k, k < n → nth (O' k) (leadN r) = 0 := fun k _ => by rw [hk' k]; exact less_gone (by omega) hc hs1
  -- a property of all rows
  have hall : ∀ (P : List Int → Prop), (∀ k, k < n → P (O' k)) → P s → ∀ k, k < n + 1 → P (insR O' q s k) := fun P hP hPs k hk => by
    unfold insR; split
    · exact hP k (by omega)
    · split
      · exact hPs
      · exact hP (k - 1) (by omega)
  have hspo : Sp p L (Rs (n + 1) (insR O' q s)) (nth s) := .mem ⟨q, by omega, by unfold insR; rw [if_neg (by omega), if_pos rfl]⟩
  have hspO' : ∀ k, k < n → Sp p L (Rs (n + 1) (insR O' q s)) (nth (O' k)) := fun k hk => by
    by_cases e : k < q
    · exact .mem ⟨k, by omega, by unfold insR; rw [if_pos e]⟩
    · exact .mem ⟨k + 1, by omega, by unfold insR; rw [if_neg (by omega), if_neg (by omega)]; rfl⟩
  have hspO : ∀ k, k < n → Sp p L (Rs (n + 1) (insR O' q s)) (nth (O k)) := fun k hk => by
    refine Sp.sub (hspO' k hk) (-nth (O k) (leadN r)) hspo (fun i hi => ?_)
    rw [hk' k]
    have := (less_cg (p := p) (xs := O k) (ys := s) (k := nth (O k) (leadN r)) (by omega) hi).symm
    exact (Cg.sub this (Cg.refl p (-nth (O k) (leadN r) * nth s i))).trans (Cg.of_eq (by grind))
  have hspr : Sp p L (Rs (n + 1) (insR O' q s)) (nth r) := (Sp.smul (nth r (leadN r)) hspo).cg fun i hi => by
    rw [hsn i hi]
    have := (invm_spec hp hnc).2.2
    refine ((Cg.refl p _).mul (Cg.emod_left _ p)).trans ?_
    have h3 := (Cg.refl p (nth r i)).mul this
    exact (Cg.of_eq (by grind)).trans (h3.trans (Cg.of_eq (Int.mul_one _)))
  have hold : ∀ u, Rs n O u → Sp p L (Rs (i + 1) R0) u := fun u ⟨j, hj, e⟩ => by
    rw [e]; exact (h.from_ j hj).trans fun v ⟨t, ht, e'⟩ => .mem ⟨t, by omega, e'⟩
  have hrf : Sp p L (Rs (i + 1) R0) (nth r) := Sp.sub (.mem ⟨i, by omega, rfl⟩) 1 (hr.diff.trans hold) (fun j _ => Cg.of_eq (by grind))
  have hsf : Sp p L (Rs (i + 1) R0) (nth s) := (Sp.smul (invm (nth r (leadN r)) p) hrf).cg fun i hi => by rw [hsn i hi, Int.mul_comm]; exact Cg.emod_right _ p
  have hO'f : ∀ k, k < n → Sp p L (Rs (i + 1) R0) (nth (O' k)) := fun k hk => by
    rw [hk' k]
    exact Sp.sub (hold _ ⟨k, hk, rfl⟩) (nth (O k) (leadN r)) hsf (fun j hj => less_cg (by omega) hj)
  rw [← hO']
  refine ⟨⟨hall (fun x => x.length = L) (fun k _ => by rw [hk' k, lessRow_length]) hsl, hall (fun x => Pl p x) (fun k _ => by rw [hk' k]; exact lessRow_pl _ _ _ _ (by omega)) hspl,
    hall (fun x => leadN x < L) (fun k hk => by rw [hlead k hk]; exact hO.lt k hk) (by rw [hslead]; exact hc),
    hall (fun x => nth x (leadN x) = 1) (fun k hk => by rw [hlead k hk, hsame k hk k hk, hO.one k hk]) (by rw [hslead, hs1]), fun j k hjk hk => ?_, fun j k hj hk hjk => ?_⟩, fun k hk => ?_, hall (fun x => Sp p L (Rs (i + 1) R0) (nth x)) hO'f hsf⟩
  · have h3 : ∀ t, q ≤ t → t < n → leadN r < leadN (O t) := fun t ht1 ht2 => by have := h2 t ht1 ht2; have := hne t ht2; omega
    unfold insR
    by_cases e1 : j < q
    · rw [if_pos e1, hlead j (by omega)]
      by_cases e2 : k < q
      · rw [if_pos e2, hlead k (by omega)]; exact hO.mono j k hjk (by omega)
      · rw [if_neg e2]
        by_cases e3 : k = q
        · rw [if_pos e3, hslead]; exact h1 j e1
        · rw [if_neg e3, hlead (k - 1) (by omega)]; exact hO.mono j (k - 1) (by omega) (by omega)
    · rw [if_neg e1, if_neg (show ¬ k < q by omega), if_neg (show ¬ k = q by omega), hlead (k - 1) (by omega)]
      by_cases e3 : j = q
      · rw [if_pos e3, hslead]; exact h3 (k - 1) (by omega) (by omega)
      · rw [if_neg e3, hlead (j - 1) (by omega)]; exact hO.mono (j - 1) (k - 1) (by omega) (by omega)
  · have hoo : ∀ a b, a < n → b < n → a ≠ b → nth (O' a) (leadN (O' b)) = 0 := fun a b ha hb hab => by rw [hlead b hb, hsame a ha b hb]; exact hO.alone a b ha hb hab
    have hos : ∀ a, a < n → nth (O' a) (leadN s) = 0 := fun a ha => by rw [hslead]; exact hgone a ha
    have hsO : ∀ b, b < n → nth s (leadN (O' b)) = 0 := fun b hb => by rw [hlead b hb]; exact hso b hb
    unfold insR
    by_cases e1 : j < q <;> by_cases e2 : k < q <;> by_cases e3 : j = q <;> by_cases e4 : k = q <;> simp only [e1, e2, e3, e4, if_true, if_false] <;> first
      | omega
      | exact hoo _ _ (by omega) (by omega) (by omega)
      | exact hos _ (by omega)
      | exact hsO _ (by omega)
      | (subst e3; simp only [Nat.lt_irrefl, if_false, if_true]; first | exact hsO _ (by omega) | omega)
      | (subst e4; simp only [Nat.lt_irrefl, if_false, if_true]; first | exact hos _ (by omega) | omega)
  · by_cases e : k = i
    · subst e
      have hd : Sp p L (Rs (n + 1) (insR O' q s)) (fun j => nth (R0 k) j - nth r j) := hr.diff.trans fun u ⟨j, hj, e⟩ => by rw [e]; exact hspO j hj
      exact Sp.sub hd (-1) hspr (fun j _ => Cg.of_eq (by grind))
    · exact (h.into k (by omega)).trans fun u ⟨j, hj, e'⟩ => by rw [e']; exact hspO j hj
end

/-- The rows that are there, as far as t less the new one. -/
def mixR (L : Nat) (O : Nat → List Int) (s : List Int) (c : Nat) (p : Int) (t : Nat) : Nat → List Int := fun i => if i < t then lessAll L O s c p i else O i

end Cl
