/- An irreducible polynomial divides x^(p^n) - x: never for n less than its degree, always for n its degree. No program in sight. -/
import Derived.Test.YtpikakapflebkaaGreatMapP
import Derived.Test.YtpikakapflebkaaGreatPrsAll
namespace Cl
namespace Poly
variable {q : Prm}
theorem X_hom (f : Poly (Zp q)) (P : Poly (Zp q)) : ev (fun c : Zp q => QuoK.mk f (C c)) P (QuoK.mk f (X (Zp q))) = QuoK.mk f P := by
  have h1 : ev C P (X (Zp q)) = P := by
    refine Poly.ext fun i => ?_
    show (CRing.sum P.len fun j => C (P.co j) * X (Zp q) ^ j).co i = _
    have h2 : ∀ n : Nat, (CRing.sum n fun j => C (P.co j) * X (Zp q) ^ j).co i = if i < n then P.co i else 0 := fun n => by
      induction n with
      | zero => rw [if_neg (by omega)]; rfl
      | succ n ih =>
        rw [CRing.sum_succ, co_add, ih, X_pow, co_C_mul, co_mono]
        by_cases e : i = n
        · rw [if_neg (by omega), if_pos e, if_pos (by omega), CRing.zero_add, CRing.mul_one, e]
        · rw [if_neg e, CRing.mul_zero, CRing.add_zero]
          by_cases h : i < n
          · rw [if_pos h, if_pos (by omega)]
          · rw [if_neg h, if_neg (by omega)]
    rw [h2]
    by_cases h : i < P.len
    · rw [if_pos h]
    · rw [if_neg h, len_sh P i (by omega)]
  conv => rhs; rw [← h1]
  show (CRing.sum P.len fun j => QuoK.mk f (C (P.co j)) * QuoK.mk f (X (Zp q)) ^ j) = QuoK.mk f (CRing.sum P.len fun j => C (P.co j) * X (Zp q) ^ j)
  rw [(QuoK.hom f).sum]
  rfl
theorem frob_hom (f : Poly (Zp q)) : Hom fun y : QuoK f => y ^ q.p.toNat where
  add a b := by
    induction a using QuoK.ind with | h a =>
    induction b using QuoK.ind with | h b =>
    show QuoK.mk f ((a + b) ^ q.p.toNat) = QuoK.mk f (a ^ q.p.toNat + b ^ q.p.toNat)
    rw [charP.add_pow (by have := q.pr; have h2 := q.pr.two; rw [show ((q.p.toNat : Nat) : Int) = q.p by omega]; exact this)]
  mul a b := by
    show (a * b) ^ q.p.toNat = _
    exact CRing.mul_pow _ _ _
  one := CRing.one_pow _
/-- By its degree at most. -/
theorem Irr.deg_le {f : Poly (Zp q)} (hf : f.Irr) {n : Nat} (hn : 1 ≤ n) (h : f ∣ X (Zp q) ^ q.p.toNat ^ n - X (Zp q)) : f.len ≤ n + 1 := by
  letI := QuoK.field hf
  have hv : QuoK.mk f (X (Zp q)) ^ q.p.toNat ^ n = QuoK.mk f (X (Zp q)) := QuoK.eq.2 h
  have hc : ∀ y : QuoK f, y ^ q.p.toNat = y → ∃ c, y = QuoK.mk f (C c) := fun y => by
    induction y using QuoK.ind with | h a =>
    intro h
    obtain ⟨c, hc⟩ := hf.const (QuoK.eq.1 h)
    exact ⟨c, QuoK.eq.2 hc⟩
  obtain ⟨P, h1, h2⟩ := conj_exists (K := QuoK f) (QuoK.homC f) (frob_hom f) hc hn hv
  have h3 : QuoK.mk f P = 0 := by rw [← X_hom f P]; exact h2
  have h4 := len_le_of_dvd (QuoK.zero_iff.1 h3) (fun e => by rw [e, len_zero] at h1; omega)
  omega
theorem iter_fr {f : Poly (Zp q)} (hf : f.Irr) {i j : Nat} (h : QuoK.mk f (X (Zp q)) ^ q.p.toNat ^ i = QuoK.mk f (X (Zp q)) ^ q.p.toNat ^ (i + j)) : QuoK.mk f (X (Zp q)) ^ q.p.toNat ^ j = QuoK.mk f (X (Zp q)) := by
  letI := QuoK.field hf
  have hinj : ∀ (i : Nat) (a b : QuoK f), a ^ q.p.toNat ^ i = b ^ q.p.toNat ^ i → a = b := fun i => by
    have h2 := q.pr.two
    induction i with
    | zero => intro a b h; rwa [Nat.pow_zero, CRing.pow_one, CRing.pow_one] at h
    | succ i ih =>
      intro a b h
      rw [Nat.pow_succ, CRing.pow_mul, CRing.pow_mul] at h
      refine ih a b ?_
      generalize a ^ q.p.toNat ^ i = x at h
      generalize b ^ q.p.toNat ^ i = y at h
      have h3 : (x - y) ^ q.p.toNat = 0 := by
        have e := (frob_hom f).add (x - y) y
        have e2 : x - y + y = x := by rw [CRing.sub_def, CRing.add_assoc, CRing.neg_add, CRing.add_zero]
        rw [e2] at e
        have e3 : x ^ q.p.toNat = (x - y) ^ q.p.toNat + y ^ q.p.toNat := e
        rw [h] at e3
        exact (CRing.add_left_cancel (a := y ^ q.p.toNat) (by rw [CRing.add_zero, CRing.add_comm]; exact e3)).symm
      have h4 : x - y = 0 := by
        by_cases hz : x - y = 0
        · exact hz
        · exfalso
          have hp : ∀ n : Nat, (x - y) ^ n ≠ 0 := fun n => by
            induction n with
            | zero => rw [CRing.pow_zero]; exact CField.one_ne
            | succ n ih => rw [CRing.pow_succ]; exact CField.mul_ne ih hz
          exact hp _ h3
      have e2 : x - y + y = x := by rw [CRing.sub_def, CRing.add_assoc, CRing.neg_add, CRing.add_zero]
      rw [← e2, h4, CRing.zero_add]
  refine (hinj i _ _ ?_).symm
  rw [h, Nat.add_comm i j, Nat.pow_add, CRing.pow_mul]
/-- Its conjugates are its roots. -/
theorem conj_root (f : Poly (Zp q)) : ∀ i : Nat, ev (fun c : Zp q => QuoK.mk f (C c)) f (QuoK.mk f (X (Zp q)) ^ q.p.toNat ^ i) = 0
  | 0 => by rw [Nat.pow_zero, CRing.pow_one, X_hom]; exact QuoK.zero_iff.2 (dvd_refl f)
  | i + 1 => by
    have ih := conj_root f i
    rw [Nat.pow_succ, CRing.pow_mul]
    generalize QuoK.mk f (X (Zp q)) ^ q.p.toNat ^ i = y at *
    have h1 : (ev (fun c : Zp q => QuoK.mk f (C c)) f y) ^ q.p.toNat = ev (fun c : Zp q => QuoK.mk f (C c)) f (y ^ q.p.toNat) := by
      show (fun z : QuoK f => z ^ q.p.toNat) (CRing.sum f.len fun j => QuoK.mk f (C (f.co j)) * y ^ j) = CRing.sum f.len fun j => QuoK.mk f (C (f.co j)) * (y ^ q.p.toNat) ^ j
      refine ((frob_hom f).sum _ _).trans ?_
      refine CRing.sum_congr fun j _ => ?_
      show (QuoK.mk f (C (f.co j)) * y ^ j) ^ q.p.toNat = _
      rw [CRing.mul_pow, ← CRing.pow_mul, ← CRing.pow_mul, Nat.mul_comm j]
      have h2 : QuoK.mk f (C (f.co j)) ^ q.p.toNat = QuoK.mk f (C (f.co j)) := by
        rw [← QuoK.pow, C_pow, Zp.pow_p]
      rw [h2]
    rw [← h1, ih, CRing.zero_pow (by have := q.pr.two; omega)]
/-- By its degree, always. -/
theorem Irr.deg_dvd {f : Poly (Zp q)} (hf : f.Irr) : f ∣ X (Zp q) ^ q.p.toNat ^ (f.len - 1) - X (Zp q) := by
  letI := QuoK.field hf
  have hl := hf.len
  obtain ⟨v, hv⟩ : ∃ v : Nat → QuoK f, v = fun i => QuoK.mk f (X (Zp q)) ^ q.p.toNat ^ i := ⟨_, rfl⟩
  have hne : mapP (QuoK.homC f) f ≠ 0 := fun e => by
    have := mapP_len (QuoK.homC f) f
    rw [e, len_zero] at this; omega
  -- two of them are one
  have hex : ∃ i j, i < j ∧ j < f.len ∧ v i = v j := Classical.byContradiction fun hno => by
    have hd : ((List.range f.len).map fun i => lin (v i)).Pairwise (· ≠ ·) := by
      rw [List.pairwise_map, List.pairwise_iff_getElem]
      intro i j hi hj hij e
      rw [List.length_range] at hi hj
      rw [List.getElem_range, List.getElem_range] at e
      exact hno ⟨i, j, hij, hj, lin_inj e⟩
    have h1 := count_le _ (mapP (QuoK.homC f) f) hne hd fun g hg => by
      obtain ⟨i, _, rfl⟩ := List.mem_map.1 hg
      refine ⟨lin_irr _, lin_dvd.2 ?_⟩
      rw [ev_mapP, hv]
      exact conj_root f i
    rw [List.length_map, List.length_range, mapP_len] at h1
    omega
  obtain ⟨i, j, hij, hj, e⟩ := hex
  obtain ⟨k, rfl⟩ : ∃ k, j = i + k := ⟨j - i, by omega⟩
  rw [hv] at e
  have h1 := iter_fr hf e
  have h2 : f ∣ X (Zp q) ^ q.p.toNat ^ k - X (Zp q) := QuoK.eq.1 h1
  have h3 := hf.deg_le (by omega) h2
  obtain rfl : k = f.len - 1 := by omega
  exact h2
end Poly
end Cl
