/- Plain facts on the document's radical and parts. No program in sight. -/
import Derived.Test.YtbcapmnklgdeoaaSqfM
namespace Cl
namespace Poly
section
variable {F : Type} [CField F]
theorem rad_congr {a b : Poly F} (ha : a ≠ 0) (hb : b ≠ 0) (h : ∀ f, f.Irr → (1 ≤ val f a ↔ 1 ≤ val f b)) : rad a = rad b :=
  (rad_mon ha).eq_rad hb fun f hf => by
    rw [val_rad ha hf]
    by_cases h1 : 1 ≤ val f a
    · rw [if_pos h1, if_pos ((h f hf).1 h1)]
    · rw [if_neg h1, if_neg fun h2 => h1 ((h f hf).2 h2)]
theorem rad_monic {a : Poly F} (ha : a ≠ 0) : rad a.monic = rad a := rad_congr (monic_mon ha).ne ha fun f hf => by rw [hf.val_monic ha]
theorem rad_one : rad (1 : Poly F) = 1 := (rad_mon one_mon.ne).eq_one_of_val fun f hf => by rw [val_rad one_mon.ne hf, val_one hf]; rfl
theorem rad_small {a : Poly F} (ha : a ≠ 0) (h : a.monic.len ≤ 1) : rad a = 1 := by
  have h1 := len_pos (monic_mon ha).ne
  rw [← rad_monic ha, (monic_mon ha).one_of_len (by omega), rad_one]
theorem rad_ne_one {a : Poly F} (ha : a.Mon) (h : a ≠ 1) : 1 < (rad a).len := by
  obtain ⟨f, hf, hv⟩ := ha.exists_irr_of_ne h
  refine (rad_mon ha.ne).len_gt.2 fun e => ?_
  have := val_rad ha.ne hf
  rw [e, val_one hf, if_pos hv] at this
  omega
theorem rad_dvd {a : Poly F} (ha : a ≠ 0) : rad a ∣ a := dvd_of_val (rad_mon ha).ne ha fun f hf => by rw [val_rad ha hf]; split <;> omega
/-- The document's loop that strikes from a all factors of b. -/
structure Wo (a b W : Poly F) : Prop where
  mon : W.Mon
  keep : ∀ f, f.Irr → val f b = 0 → val f W = val f a
  le : ∀ f, f.Irr → val f W ≤ val f a
theorem Wo.start {a b : Poly F} (ha : a.Mon) : Wo a b a := ⟨ha, fun _ _ _ => rfl, fun _ _ => Nat.le_refl _⟩
theorem Wo.step {a b W : Poly F} (h : Wo a b W) (hb : b ≠ 0) (hg : 1 < (gcdP W b).len) : Wo a b (quo W (gcdP W b)) ∧ (quo W (gcdP W b)).len < W.len := by
  have hi := gcd_is W b
  have hm := hi.mon_of (.inl h.mon.ne)
  have hv : ∀ f, f.Irr → val f (quo W (gcdP W b)) = val f W - min (val f W) (val f b) := fun f hf => by rw [val_quo hf h.mon.ne hm.ne hi.l, hi.val h.mon.ne hb hf]
  refine ⟨⟨quo_mon h.mon hm hi.l, fun f hf h0 => by rw [hv f hf, h0, ← h.keep f hf h0]; omega, fun f hf => by rw [hv f hf]; have := h.le f hf; omega⟩, ?_⟩
  have h1 := (quo_mon h.mon hm hi.l).ne
  have h2 : W.len = (quo W (gcdP W b)).len + (gcdP W b).len - 1 := by
    have h3 := (len_mul h1 hm.ne).1
    rw [quo_mul hm.ne hi.l] at h3
    exact h3
  omega
theorem Wo.done {a b W : Poly F} (h : Wo a b W) (hb : b ≠ 0) (hg : ¬ 1 < (gcdP W b).len) : ∀ f, f.Irr → val f W = if 1 ≤ val f b then 0 else val f a := fun f hf => by
  have hi := gcd_is W b
  have hm := hi.mon_of (.inl h.mon.ne)
  have h1 : gcdP W b = 1 := Classical.byContradiction fun h => hg (hm.len_gt.2 h)
  have h2 := hi.val h.mon.ne hb hf
  rw [h1, val_one hf] at h2
  split
  · omega
  · exact h.keep f hf (by omega)
open Classical in
/-- The levels' numbers less than n. -/
noncomputable def lvlsTo (a : Poly F) (n : Nat) : List Nat := (List.range n).filter fun k => decide (1 ≤ k ∧ lvl a k ≠ 1)
theorem lvlsTo_one (a : Poly F) : lvlsTo a 1 = [] := by simp [lvlsTo]
theorem lvlsTo_yes {a : Poly F} {n : Nat} (hn : 1 ≤ n) (h : lvl a n ≠ 1) : lvlsTo a (n + 1) = lvlsTo a n ++ [n] := by
  unfold lvlsTo
  rw [List.range_succ, List.filter_append, List.filter_cons_of_pos (by simp [h]; omega)]
  rfl
theorem lvlsTo_no {a : Poly F} {n : Nat} (h : lvl a n = 1) : lvlsTo a (n + 1) = lvlsTo a n := by
  unfold lvlsTo
  rw [List.range_succ, List.filter_append, List.filter_cons_of_neg (by simp [h])]
  simp
theorem lvlsTo_all {a : Poly F} (ha : a ≠ 0) {n : Nat} (h : ∀ k, n ≤ k → 1 ≤ k → lvl a k = 1) : lvlsTo a n = lvls a := by
  refine rising_ext ((List.pairwise_lt_range).filter _) (lvls_rising a) fun k => ?_
  rw [mem_lvls ha]
  unfold lvlsTo
  rw [List.mem_filter, List.mem_range]
  constructor
  · intro ⟨_, h2⟩; simpa using h2
  · intro ⟨h1, h2⟩
    refine ⟨Nat.lt_of_not_le fun hk => h2 (h k hk h1), by simpa using ⟨h1, h2⟩⟩
/-- The document's loop over the levels, ahead of level n. -/
structure Lv (a : Poly F) (n : Nat) (l : Poly F) : Prop where
  mon : l.Mon
  val : ∀ f, f.Irr → val f l = Poly.val f a - (n - 1)
theorem Lv.start {a : Poly F} (ha : a ≠ 0) : Lv a 1 a.monic := ⟨monic_mon ha, fun f hf => by rw [hf.val_monic ha]; omega⟩
theorem Lv.step {a l : Poly F} {n : Nat} (h : Lv a n l) (hn : 1 ≤ n) (ha : a ≠ 0) (hl : 1 < l.len) :
    Lv a (n + 1) (quo l (rad l)) ∧ (quo l (rad l)).len < l.len ∧ quo (rad l) (rad (quo l (rad l))) = lvl a n := by
  have hd := rad_dvd h.mon.ne
  have hr := rad_mon h.mon.ne
  have hq := quo_mon h.mon hr hd
  have hv : ∀ f, f.Irr → Poly.val f (quo l (rad l)) = Poly.val f a - n := fun f hf => by
    rw [val_quo hf h.mon.ne hr.ne hd, val_rad h.mon.ne hf, h.val f hf]
    split <;> omega
  have hd2 : rad (quo l (rad l)) ∣ rad l := dvd_of_val (rad_mon hq.ne).ne hr.ne fun f hf => by
    rw [val_rad hq.ne hf, val_rad h.mon.ne hf, hv f hf, h.val f hf]
    split
    · rw [if_pos (by omega)]; omega
    · omega
  refine ⟨⟨hq, fun f hf => by rw [hv f hf]; omega⟩, ?_, ?_⟩
  · have h1 := rad_ne_one h.mon (h.mon.len_gt.1 hl)
    have h5 := (len_mul hq.ne hr.ne).1
    rw [quo_mul hr.ne hd] at h5
    omega
  · refine (quo_mon hr (rad_mon hq.ne) hd2).eq_lvl ha hn fun f hf => ?_
    rw [val_quo hf hr.ne (rad_mon hq.ne).ne hd2, val_rad h.mon.ne hf, val_rad hq.ne hf, hv f hf, h.val f hf]
    by_cases e : Poly.val f a = n
    · rw [if_pos (by omega), if_neg (by omega), if_pos e]
    · rw [if_neg e]
      by_cases e2 : 1 ≤ Poly.val f a - n
      · rw [if_pos (by omega), if_pos e2]
      · rw [if_neg (by omega), if_neg e2]
theorem Lv.done {a l : Poly F} {n : Nat} (h : Lv a n l) (ha : a ≠ 0) (hn : 1 ≤ n) (hl : ¬ 1 < l.len) : lvlsTo a n = lvls a := by
  have h1 : l = 1 := Classical.byContradiction fun h' => hl (h.mon.len_gt.2 h')
  refine lvlsTo_all ha fun k hk h1' => (lvl_one_iff ha h1').2 fun f hf e => ?_
  have := h.val f hf
  rw [h1, val_one hf] at this
  omega
end
section
variable {q : Prm}
theorem rad_root {m : Poly (Zp q)} (hm : m.Mon) (hD : m.D = 0) : rad m.root = rad m :=
  rad_congr (hm.root_mon hD).ne hm.ne fun f hf => by
    rw [← val_root hm.ne hD hf]
    have hp : 1 ≤ q.p.toNat := by have := q.pr.two; omega
    constructor
    · intro h; exact Nat.mul_pos hp h
    · intro h; rcases Nat.eq_zero_or_pos (val f m.root) with e | e
      · rw [e] at h; omega
      · exact e
theorem root_shorter {m : Poly (Zp q)} (hm : m.Mon) (hD : m.D = 0) (h : 1 < m.len) : m.root.len < m.len := by
  have h1 := root_len hm.ne hD
  have h4 : 2 ≤ q.p.toNat := by have := q.pr.two; omega
  have : 2 * (m.root.len - 1) ≤ q.p.toNat * (m.root.len - 1) := Nat.mul_le_mul_right _ h4
  omega
theorem D_shorter {m : Poly (Zp q)} (h : m ≠ 0) : m.D.len < m.len := by
  have h1 := len_pos h
  have : m.D.len ≤ m.len - 1 := len_le fun i hi => by rw [co_D, len_sh m (i + 1) (by omega), CRing.nsmul_of_zero]
  omega
theorem rad_step {m W : Poly (Zp q)} (hm : m.Mon) (hD : m.D ≠ 0) (hW : W.Mon) (hv : ∀ f, f.Irr → val f W = if 1 ≤ val f (quo m (gcdP m m.D)) then 0 else val f (gcdP m m.D)) :
    (quo m (gcdP m m.D)).Mon ∧ (gcdP m m.D).Mon ∧ quo m (gcdP m m.D) * rad W = rad m ∧ W.len < m.len := by
  have hi := gcd_is m m.D
  have hg := hi.mon_of (.inl hm.ne)
  have hq := quo_mon hm hg hi.l
  have hvg : ∀ f, f.Irr → val f (gcdP m m.D) = if q.p.toNat ∣ val f m then val f m else val f m - 1 := fun f hf => hf.val_gcd_D hm.ne hi
  have hvq : ∀ f, f.Irr → val f (quo m (gcdP m m.D)) = if q.p.toNat ∣ val f m then 0 else 1 := fun f hf => by
    rw [val_quo hf hm.ne hg.ne hi.l, hvg f hf]
    split
    · omega
    · next h =>
      have : val f m ≠ 0 := fun e => h (by rw [e]; exact ⟨0, by omega⟩)
      omega
  refine ⟨hq, hg, ?_, ?_⟩
  · refine (hq.mul (rad_mon hW.ne)).eq_rad hm.ne fun f hf => ?_
    rw [hf.val_mul hq.ne (rad_mon hW.ne).ne, hvq f hf, val_rad hW.ne hf, hv f hf, hvq f hf, hvg f hf]
    by_cases h : q.p.toNat ∣ val f m
    · simp only [if_pos h]
      rw [if_neg (by omega : ¬ 1 ≤ 0)]
      omega
    · simp only [if_neg h]
      have : val f m ≠ 0 := fun e => h (by rw [e]; exact ⟨0, by omega⟩)
      rw [if_pos (by omega : 1 ≤ 1), if_neg (by omega : ¬ 1 ≤ 0), if_pos (by omega)]
  · have h1 : W ∣ gcdP m m.D := dvd_of_val hW.ne hg.ne fun f hf => by rw [hv f hf]; split <;> omega
    have h2 := len_le_of_dvd h1 hg.ne
    have h3 := len_le_of_dvd hi.r hD
    have h4 := D_shorter hm.ne
    omega
end
end Poly
end Cl
