/- The document's example of layer 8, in plain numbers. No program in sight. -/
import Derived.Test.YtbcapmnklgdeoaaLaw6Ex
import Derived.Test.YtbcapmnklgdeoaaSqfM
namespace Cl
open CRing Poly
theorem pr_three : Pr 3 := by
  rw [← isPrime_iff]; decide
abbrev q3 : Prm := ⟨3, pr_three⟩
noncomputable abbrev ex8 : Poly (Zp q3) := toP q3 [0, 0, 0, 1, 1]
theorem x0_lin : toP q3 [0, 1] = lin (Zp.of q3 0) := Poly.ext fun i => by
  rw [co_toP, co_lin]
  match i with
  | 0 => exact Zp.ext (by decide +kernel)
  | 1 => exact Zp.ext (by decide +kernel)
  | i + 2 => rw [nth_ge (by simp), if_neg (by omega), if_neg (by omega)]; rfl
theorem x1_lin : toP q3 [1, 1] = lin (Zp.of q3 2) := Poly.ext fun i => by
  rw [co_toP, co_lin]
  match i with
  | 0 => exact Zp.ext (by decide +kernel)
  | 1 => exact Zp.ext (by decide +kernel)
  | i + 2 => rw [nth_ge (by simp), if_neg (by omega), if_neg (by omega)]; rfl
theorem x0_irr : (toP q3 [0, 1]).Irr := by rw [x0_lin]; exact lin_irr _
theorem x1_irr : (toP q3 [1, 1]).Irr := by rw [x1_lin]; exact lin_irr _
theorem x0_ne_x1 : toP q3 [0, 1] ≠ toP q3 [1, 1] := fun e => by
  have h := congrArg fromP e
  rw [fromP_toP_of (by decide +kernel), fromP_toP_of (by decide +kernel)] at h
  exact absurd h (by decide)
theorem ex8_mul : ex8 = toP q3 [0, 1] * (toP q3 [0, 1] * (toP q3 [0, 1] * toP q3 [1, 1])) := by
  rw [← toP_mulL, ← toP_mulL, ← toP_mulL]
  rw [show mulL [0, 1] (mulL [0, 1] (mulL [0, 1] [1, 1] q3.p) q3.p) q3.p = [0, 0, 0, 1, 1] by decide +kernel]
theorem ex8_ne : ex8 ≠ 0 := ne_toP_of (by decide +kernel) (by decide)
open Classical in
theorem ex8_val {f : Poly (Zp q3)} (hf : f.Irr) : val f ex8 = 3 * (if f = toP q3 [0, 1] then 1 else 0) + if f = toP q3 [1, 1] then 1 else 0 := by
  have h0 := x0_irr.ne
  have h1 := x1_irr.ne
  rw [ex8_mul, hf.val_mul h0 (mul_ne h0 (mul_ne h0 h1)), hf.val_mul h0 (mul_ne h0 h1), hf.val_mul h0 h1, hf.val_irr x0_irr, hf.val_irr x1_irr]
  omega
open Classical in
theorem ex8_cases {f : Poly (Zp q3)} (hf : f.Irr) : (f = toP q3 [0, 1] ∧ val f ex8 = 3) ∨ (f = toP q3 [1, 1] ∧ val f ex8 = 1) ∨ (f ≠ toP q3 [0, 1] ∧ f ≠ toP q3 [1, 1] ∧ val f ex8 = 0) := by
  have h := ex8_val hf
  by_cases e0 : f = toP q3 [0, 1]
  · rw [if_pos e0, if_neg (fun e1 => x0_ne_x1 (e0.symm.trans e1))] at h
    exact .inl ⟨e0, h⟩
  · by_cases e1 : f = toP q3 [1, 1]
    · rw [if_neg e0, if_pos e1] at h
      exact .inr (.inl ⟨e1, h⟩)
    · rw [if_neg e0, if_neg e1] at h
      exact .inr (.inr ⟨e0, e1, h⟩)
theorem ex8_lvl1 : lvl ex8 1 = toP q3 [1, 1] := (x1_irr.mon.eq_lvl ex8_ne (by omega) fun f hf => by
  rw [hf.val_irr x1_irr]
  rcases ex8_cases hf with ⟨e, h⟩ | ⟨e, h⟩ | ⟨e, e1, h⟩
  · rw [h, if_neg (fun e1 => x0_ne_x1 (e.symm.trans e1)), if_neg (by omega)]
  · rw [h, if_pos e, if_pos rfl]
  · rw [h, if_neg e1, if_neg (by omega)]).symm
theorem ex8_lvl3 : lvl ex8 3 = toP q3 [0, 1] := (x0_irr.mon.eq_lvl ex8_ne (by omega) fun f hf => by
  rw [hf.val_irr x0_irr]
  rcases ex8_cases hf with ⟨e, h⟩ | ⟨e, h⟩ | ⟨e, e1, h⟩
  · rw [h, if_pos e, if_pos rfl]
  · rw [h, if_neg (fun e1 => x0_ne_x1 (e1.symm.trans e)), if_neg (by omega)]
  · rw [h, if_neg e, if_neg (by omega)]).symm
theorem ex8_lvls : lvls ex8 = [1, 3] := by
  refine rising_ext (lvls_rising _) (by decide) fun k => ?_
  rw [mem_lvls ex8_ne]
  constructor
  · rintro ⟨h1, h2⟩
    obtain ⟨f, hf, hv⟩ := (lvl_mon ex8_ne k).exists_irr_of_ne h2
    rw [val_lvl ex8_ne h1 hf] at hv
    rcases ex8_cases hf with ⟨e, h⟩ | ⟨e, h⟩ | ⟨e, e1, h⟩
    · rw [h] at hv; split at hv
      · next e2 => rw [← e2]; decide
      · omega
    · rw [h] at hv; split at hv
      · next e2 => rw [← e2]; decide
      · omega
    · rw [h] at hv; split at hv <;> omega
  · intro hk
    have : k = 1 ∨ k = 3 := by simpa using hk
    rcases this with rfl | rfl
    · refine ⟨by omega, fun e => ?_⟩
      have h := x1_irr.len
      rw [← ex8_lvl1, e, len_one] at h; omega
    · refine ⟨by omega, fun e => ?_⟩
      have h := x0_irr.len
      rw [← ex8_lvl3, e, len_one] at h; omega
theorem ex8_parts : partsL ex8 = [(toP q3 [1, 1], 1), (toP q3 [0, 1], 3)] := by
  unfold partsL
  rw [ex8_lvls, List.map_cons, List.map_cons, List.map_nil, ex8_lvl1, ex8_lvl3]
theorem ex8_rad : fromP (rad ex8) = [0, 1, 1] := by
  rw [← prodL_rad ex8_ne, ex8_lvls]
  show fromP (1 * lvl ex8 1 * lvl ex8 3) = _
  rw [CRing.one_mul, ex8_lvl1, ex8_lvl3, ← toP_mulL, show mulL [1, 1] [0, 1] q3.p = [0, 1, 1] by decide +kernel]
  exact fromP_toP_of (by decide +kernel)
end Cl
