/- Plain facts: what is its own p-th power by a polynomial is what a matrix makes nought. No program in sight. -/
import Derived.Test.YtpikakapflebkaaGreatFlinTop
import Derived.Test.YtpikakapflebkaaGreatPolyTop
namespace Cl
open CRing (sum sum_congr sum_add mul_sum sum_mul sum_single sum_succ sum_eq_zero sum_comm sum_neg)
open Poly

/-- What is spanned by rows that make a vector nought makes it nought. -/
theorem sp_null {p : Int} {n : Nat} {S : (Nat → Int) → Prop} {v : Nat → Int} (h : ∀ u, S u → Cg p (sum n (fun i => u i * v i)) 0) {u : Nat → Int} (hu : Sp p n S u) : Cg p (sum n (fun i => u i * v i)) 0 := by
  induction hu with
  | mem hs => exact h _ hs
  | zero => exact Cg.of_eq (sum_eq_zero fun i _ => Int.zero_mul _)
  | @add u1 u2 _ _ i1 i2 =>
    have e : sum n (fun i => (u1 i + u2 i) * v i) = sum n (fun i => u1 i * v i) + sum n (fun i => u2 i * v i) := by
      rw [← sum_add]; exact sum_congr fun i _ => Int.add_mul _ _ _
    rw [e]
    exact (i1.add i2).trans (Cg.of_eq (by omega))
  | @smul c u1 _ i1 =>
    have e : sum n (fun i => (c * u1 i) * v i) = c * sum n (fun i => u1 i * v i) := by
      rw [mul_sum]; exact sum_congr fun i _ => Int.mul_assoc _ _ _
    rw [e]
    exact ((Cg.refl _ c).mul i1).trans (Cg.of_eq (Int.mul_zero _))
  | cg _ h i1 => exact (sum_cg fun i hi => (h i hi).symm.mul (Cg.refl _ _)).trans i1
section
variable {q : Prm}
theorem fix_iff {m v : Poly (Zp q)} {n : Nat} (hm : m ≠ 0) (hl : m.len = n + 1) (hv : v.Sh n) :
    Eqm m (v ^ q.p.toNat) v ↔ ∀ k, k < n → sum n (fun c => ((rem (((X (Zp q)) ^ q.p.toNat) ^ c) m).co k - if k = c then 1 else 0) * v.co c) = 0 := by
  have h1 : v ^ q.p.toNat = sum n (fun c => C (v.co c) * ((X (Zp q)) ^ q.p.toNat) ^ c) := by
    conv => lhs; rw [eq_sum hv]
    rw [(charP (q := q)).sum_pow (Zp.pr_nat q)]
    refine sum_congr fun c _ => ?_
    rw [mono_pow, Zp.pow_p, ← CRing.pow_mul, X_pow]
    show _ = mono 0 _ * mono _ 1
    rw [mono_mul, Nat.zero_add, CRing.mul_one, Nat.mul_comm]
  obtain ⟨H, hH⟩ : ∃ H : Nat → Poly (Zp q), H = fun c => rem (((X (Zp q)) ^ q.p.toNat) ^ c) m := ⟨_, rfl⟩
  have hHc : ∀ c, rem (((X (Zp q)) ^ q.p.toNat) ^ c) m = H c := fun c => by rw [hH]
  have h2 : Eqm m (v ^ q.p.toNat) (sum n (fun c => C (v.co c) * H c)) := by
    rw [h1]
    exact Eqm.sum fun c _ => (Eqm.refl _ _).mul (by rw [← hHc]; exact (eqm_rem _ hm).symm)
  have hs : (sum n (fun c => C (v.co c) * H c)).Sh n := sh_sum fun c _ => (len_sh _).mono (by rw [← hHc]; have := rem_len (((X (Zp q)) ^ q.p.toNat) ^ c) hm; omega)
  have hls := len_le hs
  have hlv := len_le hv
  have h3 : Eqm m (v ^ q.p.toNat) v ↔ sum n (fun c => C (v.co c) * H c) = v := by
    constructor
    · intro h
      have h4 := h2.symm.trans h
      rw [eqm_iff_rem hm, (rem_of_lt (by omega)).1, (rem_of_lt (by omega)).1] at h4
      exact h4
    · intro h; rw [h] at h2; exact h2
  have key : ∀ k, k < n → sum n (fun c => ((H c).co k - if k = c then 1 else 0) * v.co c) = (sum n (fun c => C (v.co c) * H c)).co k - v.co k := fun k hk => by
    rw [co_sum_C]
    have e : sum n (fun c => ((H c).co k - if k = c then 1 else 0) * v.co c) = sum n (fun c => v.co c * (H c).co k) + sum n (fun c => -(if k = c then v.co c else 0)) := by
      rw [← sum_add]
      refine sum_congr fun c _ => ?_
      rw [CRing.sub_def, CRing.add_mul, CRing.mul_comm (H c |>.co k)]
      congr 1
      split
      · rw [CRing.neg_mul, CRing.one_mul]
      · rw [CRing.neg_zero, CRing.zero_mul]
    rw [e, sum_neg, sum_single hk (fun c _ hne => if_neg (fun e => hne e.symm)), if_pos rfl, CRing.sub_def]
  rw [h3]
  constructor
  · intro h k hk
    rw [sum_congr (fun c _ => by rw [hHc c]), key k hk, h, CRing.sub_self]
  · intro h
    refine Poly.ext fun k => ?_
    by_cases hk : k < n
    · have := h k hk
      rw [sum_congr (fun c _ => by rw [hHc c]), key k hk] at this
      exact CRing.sub_eq_zero.1 this
    · rw [hs k (by omega), hv k (by omega)]
/-- A vector of whole numbers that rows make nought, told in residues. -/
theorem null_zp {n : Nat} {f g : Nat → Int} : sum n (fun c => Zp.of q (f c) * Zp.of q (g c)) = 0 ↔ Cg q.p (sum n (fun c => f c * g c)) 0 := by
  rw [← Zp.eq_zero_iff, of_sum, sum_congr (fun c _ => Zp.of_mul (f c) (g c))]

/-- The vectors that the matrix of the p-th powers less 1 makes nought are a basis of what is its own p-th power. -/
theorem bas_of_null {m : Poly (Zp q)} {n K : Nat} {rows : List (List Int)} {O : Nat → List Int} (hm : m.Mon) (hl : m.len = n + 1) (hn : 0 < n)
    (hr : RrefOf n q.p n (fun i => redRow (rAt rows i) q.p) K O)
    (hrow : ∀ k c, k < n → c < n → Zp.of q (nth (rAt rows k) c) = (rem (((X (Zp q)) ^ q.p.toNat) ^ c) m).co k - if k = c then 1 else 0) :
    ∃ col, Bas m n (nullTo (rowsTab K O) n q.p n).length (fun c => toP q (rAt (nullTo (rowsTab K O) n q.p n) c)) col := by
  have hp1 : 1 ≤ q.p := by have := q.pr.two; omega
  have hre : ∀ i, i < K → rAt (rowsTab K O) i = O i := fun i hi => by rw [rAt_rowsTab, if_pos hi]
  have hlt : ∀ k, k < (rowsTab K O).length → leadN (rAt (rowsTab K O) k) < n := fun k hk => by rw [rowsTab_length] at hk; rw [hre k hk]; exact hr.rref.lt k hk
  have hmo : ∀ j k, j < k → k < (rowsTab K O).length → leadN (rAt (rowsTab K O) j) < leadN (rAt (rowsTab K O) k) := fun j k hj hk => by rw [rowsTab_length] at hk; rw [hre j (by omega), hre k hk]; exact hr.rref.mono j k hj hk
  -- what rows make nought, told by residues
  have hfix : ∀ v : Poly (Zp q), v.Sh n → (Eqm m (v ^ q.p.toNat) v ↔ ∀ k, k < K → Cg q.p (sum n (fun i => nth (O k) i * (v.co i).val)) 0) := fun v hv => by
    have h1 : ∀ k, k < n → (sum n (fun c => ((rem (((X (Zp q)) ^ q.p.toNat) ^ c) m).co k - if k = c then 1 else 0) * v.co c) = 0 ↔ Cg q.p (sum n (fun i => nth (redRow (rAt rows k) q.p) i * (v.co i).val)) 0) := fun k hk => by
      rw [← null_zp]
      rw [sum_congr (f := fun c => Zp.of q (nth (redRow (rAt rows k) q.p) c) * Zp.of q (v.co c).val) (g := fun c => ((rem (((X (Zp q)) ^ q.p.toNat) ^ c) m).co k - if k = c then 1 else 0) * v.co c)]
      intro c hc
      rw [nth_redRow, Zp.of_cg (red_cg hp1), hrow k c hk hc, Zp.of_val]
    rw [fix_iff hm.ne hl hv]
    constructor
    · intro h k hk
      refine sp_null (S := Rs n (fun i => redRow (rAt rows i) q.p)) (fun u hu => ?_) (hr.from_ k hk)
      obtain ⟨j, hj, rfl⟩ := hu
      exact (h1 j hj).1 (h j hj)
    · intro h k hk
      refine (h1 k hk).2 (sp_null (S := Rs K O) (fun u hu => ?_) (hr.into k hk))
      obtain ⟨j, hj, rfl⟩ := hu
      exact h j hj
  -- the first column is nought
  have hcol0 : ∀ k, k < K → nth (O k) 0 = 0 := fun k hk => by
    have h1 : ∀ u, Rs n (fun i => redRow (rAt rows i) q.p) u → Cg q.p (u 0) 0 := fun u hu => by
      obtain ⟨j, hj, rfl⟩ := hu
      show Cg q.p (nth (redRow (rAt rows j) q.p) 0) 0
      rw [nth_redRow]
      refine (red_cg hp1).trans ?_
      rw [← Zp.eq_zero_iff, hrow j 0 hj hn, CRing.pow_zero, (rem_of_lt (by rw [len_one]; omega)).1, co_one]
      exact CRing.sub_self _
    have h2 : ∀ u, Sp q.p n (Rs n (fun i => redRow (rAt rows i) q.p)) u → Cg q.p (u 0) 0 := fun u hu => by
      induction hu with
      | mem hs => exact h1 _ hs
      | zero => exact Cg.refl _ _
      | add _ _ i1 i2 => exact (i1.add i2).trans (Cg.of_eq (by omega))
      | smul c _ i1 => exact ((Cg.refl _ c).mul i1).trans (Cg.of_eq (Int.mul_zero _))
      | cg _ h i1 => exact (h 0 hn).symm.trans i1
    have h3 := hr.rref.pl k hk 0
    exact (h2 _ (hr.from_ k hk)).eq_of_lt h3.1 h3.2 (by omega) (by omega)
  obtain ⟨fr, hfr⟩ : ∃ fr, fr = (List.range n).filter (fun i => freeTo (rowsTab K O) i (rowsTab K O).length) := ⟨_, rfl⟩
  have hout : nullTo (rowsTab K O) n q.p n = fr.map (fun i => putTo (rowsTab K O) n q.p i (rowsTab K O).length) := by rw [hfr]; rfl
  have hmem : ∀ c, c ∈ fr ↔ c < n ∧ ∀ k, k < K → leadN (O k) ≠ c := fun c => by
    rw [hfr, List.mem_filter, List.mem_range, freeTo_iff, rowsTab_length]
    constructor
    · rintro ⟨h1, h2⟩; exact ⟨h1, fun k hk => by rw [← hre k hk]; exact h2 k hk⟩
    · rintro ⟨h1, h2⟩; exact ⟨h1, fun k hk => by rw [hre k hk]; exact h2 k hk⟩
  have hnd : fr.Pairwise (· < ·) := by rw [hfr]; exact List.pairwise_lt_range.filter _
  have hput : ∀ c, c ∈ fr → (∀ i, (∀ k, k < K → leadN (O k) ≠ i) → nth (putTo (rowsTab K O) n q.p c K) i = if i = c then 1 else 0) ∧ ∀ k, k < K → nth (putTo (rowsTab K O) n q.p c K) (leadN (O k)) = red (-(nth (O k) c)) q.p := fun c hc => by
    obtain ⟨h1, h2⟩ := putTo_at (p := q.p) ((hmem c).1 hc).1 hlt hmo (K := K) (by rw [rowsTab_length]; exact Nat.le_refl _)
    exact ⟨fun i hi => h1 i (fun k hk => by rw [hre k hk]; exact hi k hk), fun k hk => by have := h2 k hk; rwa [hre k hk] at this⟩
  rw [rowsTab_length] at hout
  have hrow' : ∀ c (h : c < fr.length), rAt (nullTo (rowsTab K O) n q.p n) c = putTo (rowsTab K O) n q.p fr[c] K := fun c h => by
    rw [hout, rAt_lt (by rw [List.length_map]; exact h), List.getElem_map]
  have hlen : (nullTo (rowsTab K O) n q.p n).length = fr.length := by rw [hout, List.length_map]
  obtain ⟨B, hB⟩ : ∃ B : Nat → Poly (Zp q), B = fun c => toP q (rAt (nullTo (rowsTab K O) n q.p n) c) := ⟨_, rfl⟩
  have hBc : ∀ c (h : c < fr.length), B c = toP q (putTo (rowsTab K O) n q.p fr[c] K) := fun c h => by rw [hB]; show toP q (rAt _ c) = _; rw [hrow' c h]
  have h0 : 0 ∈ fr := (hmem 0).2 ⟨hn, fun k hk e => by
    have h1 := hr.rref.one k hk
    rw [e, hcol0 k hk] at h1
    omega⟩
  have hpos : 0 < fr.length := List.length_pos_of_mem h0
  have hfr0 : fr[0] = 0 := by
    obtain ⟨j, hj, e⟩ := List.getElem_of_mem h0
    rcases Nat.eq_zero_or_pos j with h | h
    · subst h; exact e
    · have := List.pairwise_iff_getElem.1 hnd 0 j hpos hj h
      omega
  rw [← hB, hlen]
  have hcv : ∀ c (h : c < fr.length) i, (B c).co i = Zp.of q (nth (putTo (rowsTab K O) n q.p fr[c] K) i) := fun c h i => by rw [hBc c h, co_toP]
  have hunit : ∀ c c' (h : c < fr.length) (h' : c' < fr.length), (B c).co (fr.getD c' 0) = if c = c' then 1 else 0 := fun c c' h h' => by
    rw [hcv c h, List.getD_eq_getElem?_getD, List.getElem?_eq_getElem h', Option.getD_some]
    rw [(hput fr[c] (List.getElem_mem h)).1 fr[c'] (fun k hk => ((hmem _).1 (List.getElem_mem h')).2 k hk)]
    by_cases e : c = c'
    · subst e; rw [if_pos rfl, if_pos rfl]; rfl
    · rw [if_neg e, if_neg]
      · rfl
      · intro e2
        rcases Nat.lt_or_gt_of_ne e with h1 | h1
        · have := List.pairwise_iff_getElem.1 hnd c c' h h' h1; omega
        · have := List.pairwise_iff_getElem.1 hnd c' c h' h h1; omega
  have hsh : ∀ c, c < fr.length → (B c).Sh n := fun c h i hi => by
    rw [hcv c h, nth_ge (by rw [putTo_length]; exact hi)]; rfl
  have hfx : ∀ c, c < fr.length → Eqm m (B c ^ q.p.toNat) (B c) := fun c h => (hfix _ (hsh c h)).2 fun k hk => by
    have h1 := row_null (p := q.p) hp1 hr.rref rfl ((hmem _).1 (List.getElem_mem h)).1 (freeTo_iff.2 fun k hk => by rw [hre k hk]; exact ((hmem _).1 (List.getElem_mem h)).2 k hk) hk
    refine (sum_cg fun i _ => (Cg.refl _ _).mul ?_).trans h1
    rw [hcv c h]
    exact Zp.val_cg _
  refine ⟨fun c => fr.getD c 0, hl, hsh, hfx, fun c c' h h' => hunit c c' h h', fun v hv hf => ?_, hpos, ?_⟩
  · -- what is left has no number in a free column, so none
    obtain ⟨S, hS⟩ : ∃ S, S = sum fr.length (fun c => C (v.co (fr.getD c 0)) * B c) := ⟨_, rfl⟩
    have hSs : S.Sh n := by rw [hS]; exact sh_sum fun c hc => hsh c hc
    have hSf : Eqm m (S ^ q.p.toNat) S := by rw [hS]; exact fix_sum fun c hc => hfx c hc
    have hv1 := (hfix v hv).1 hf
    have hS1 := (hfix S hSs).1 hSf
    have hfree : ∀ i, i ∈ fr → S.co i = v.co i := fun i hi => by
      obtain ⟨j, hj, e⟩ := List.getElem_of_mem hi
      have e2 : fr.getD j 0 = i := by rw [List.getD_eq_getElem?_getD, List.getElem?_eq_getElem hj, Option.getD_some, e]
      rw [hS, co_sum_C, sum_single hj (fun c hc hne => by rw [← e2, hunit c j hc hj, if_neg hne, CRing.mul_zero]), ← e2, hunit j j hj hj, if_pos rfl, CRing.mul_one]
    refine Poly.ext fun i => ?_
    show v.co i = Poly.co (sum fr.length (fun c => C (v.co (fr.getD c 0)) * B c)) i
    rw [← hS]
    by_cases hi : i < n
    · by_cases hf2 : i ∈ fr
      · exact (hfree i hf2).symm
      · have : ∃ k, k < K ∧ leadN (O k) = i := Classical.byContradiction fun h => hf2 ((hmem i).2 ⟨hi, fun k hk e => h ⟨k, hk, e⟩⟩)
        obtain ⟨k, hk, rfl⟩ := this
        have h1 := (hv1 k hk).sub (hS1 k hk)
        have e : sum n (fun i => nth (O k) i * (v.co i).val) - sum n (fun i => nth (O k) i * (S.co i).val) = sum n (fun i => nth (O k) i * ((v.co i).val - (S.co i).val)) := by
          rw [CRing.sub_def, ← sum_neg, ← sum_add]
          refine sum_congr fun i _ => ?_
          rw [Int.mul_sub]; rfl
        rw [e, sum_single hi] at h1
        · rw [hr.rref.one k hk, Int.one_mul] at h1
          have h2 : Cg q.p (v.co (leadN (O k))).val (S.co (leadN (O k))).val := by
            have := h1.add (Cg.refl q.p (S.co (leadN (O k))).val)
            exact (Cg.of_eq (by omega)).trans (this.trans (Cg.of_eq (by omega)))
          exact Zp.ext (h2.eq_of_lt (Zp.lo _) (Zp.hi _) (Zp.lo _) (Zp.hi _))
        · intro j hj hne
          by_cases hf3 : j ∈ fr
          · rw [hfree j hf3, Int.sub_self, Int.mul_zero]
          · have : ∃ k, k < K ∧ leadN (O k) = j := Classical.byContradiction fun h => hf3 ((hmem j).2 ⟨hj, fun k hk e => h ⟨k, hk, e⟩⟩)
            obtain ⟨k', hk', rfl⟩ := this
            rw [hr.rref.alone k k' hk hk' (fun e => hne (by rw [e])), Int.zero_mul]
    · rw [hv i (by omega), hSs i (by omega)]
  · refine Poly.ext fun i => ?_
    rw [hcv 0 hpos, co_one]
    have h1 := hput _ (List.getElem_mem hpos)
    rw [hfr0] at h1 ⊢
    by_cases h : ∃ k, k < K ∧ leadN (O k) = i
    · obtain ⟨k, hk, rfl⟩ := h
      rw [h1.2 k hk, hcol0 k hk]
      have : leadN (O k) ≠ 0 := ((hmem 0).1 h0).2 k hk
      rw [if_neg this, Int.neg_zero]
      have e : red 0 q.p = 0 := (red_cg (a := 0) hp1).eq_of_lt (red_bd _ hp1).1 (red_bd _ hp1).2 (by omega) (by omega)
      rw [e]; rfl
    · rw [h1.1 i (fun k hk e => h ⟨k, hk, e⟩)]
      split <;> rfl
end
end Cl
