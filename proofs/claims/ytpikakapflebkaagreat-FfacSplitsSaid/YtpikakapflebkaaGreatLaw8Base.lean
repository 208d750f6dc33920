/- Layer 8's laws: parts as the document's; equal parts are the same.
   Layer 8's laws: the program's parts as the document's.
   The document's example of layer 8, in plain numbers. No program in sight.
   Layer 8's laws: the document's example, walked.
   Layer 8's laws: where nothing is handed back.
   Layer 8's laws: what the parts are to each other. -/
import Derived.Test.YtpikakapflebkaaGreatQsfAll
import Derived.Test.YtpikakapflebkaaGreatFlinBase
import Derived.Test.YtpikakapflebkaaGreatLaw6Base
import Derived.Test.YtpikakapflebkaaGreatPrsAll
namespace Go.Proofs.YtpikakapflebkaaGreat
open Go.RowKit Cl
attribute [local go_sem ↓] Go.wp_at_zero Go.wp_at_succ

theorem same06_true (A B : Option Addr) (n c d : Nat) (xs : List Int) (w : World) (hx : Ints w A n xs) (hy : Ints w B n xs) (hn : n ≤ 9223372036854775807) :
    Calls Tryz.prog 18 #[.slice A n c, .slice B n d] w fun e w' => e = .returned (.bool true) ∧ ∃ k, w' = w.drewN k := by
  refine (same06_any A B n n c d xs xs w hx hy hn hn).mono ?_
  rintro e w' ⟨rfl, k, rfl⟩
  exact ⟨ret_bool (eqI_yes rfl), k, rfl⟩
section
variable {q : Prm}
end
end Go.Proofs.YtpikakapflebkaaGreat

namespace Go.Proofs.YtpikakapflebkaaGreat
open Go.RowKit Cl
attribute [local go_sem ↓] Go.wp_at_zero Go.wp_at_succ

section
variable {q : Prm}
theorem prs_ents {w : World} {A : Option Addr} {n : Nat} {a : Poly (Zp q)} (ha : a ≠ 0) (h : Prs w A n (Poly.partsL a)) :
    ∃ E : List Ent, E.length = n ∧ E.map (·.2) = Poly.lvls a ∧ (∀ x ∈ E, 0 < (Poly.lvl a x.2).len ∧ Ints w x.1.1 (Poly.lvl a x.2).len (fromP (Poly.lvl a x.2))) ∧
      (0 < n → ∃ b o, A = some ⟨b, o, none⟩ ∧ b < w.heap.size ∧ ∀ i (h : i < E.length), w.cell? ⟨b, o + 2 * i, none⟩ = some (.slice (E[i]).1.1 (Poly.lvl a (E[i]).2).len (E[i]).1.2) ∧ w.cell? ⟨b, o + (2 * i + 1), none⟩ = some (.int .i64 ((E[i]).2 : Int))) := by
  rcases Nat.eq_zero_or_pos n with h0 | h0
  · refine ⟨[], h0.symm, ?_, (fun x hx => by cases hx), fun h => by omega⟩
    have h1 := h.len
    rw [h0, Poly.partsL_length] at h1
    exact (List.eq_nil_of_length_eq_zero h1).symm
  · obtain ⟨b, o, e, hb, hc⟩ := h.at_ h0
    have hch : ∀ i : Fin (Poly.partsL a).length, ∃ x : Ent, x.2 = ((Poly.partsL a)[i.val]).2 ∧ w.cell? ⟨b, o + 2 * i.val, none⟩ = some (.slice x.1.1 (Poly.lvl a x.2).len x.1.2) ∧ w.cell? ⟨b, o + (2 * i.val + 1), none⟩ = some (.int .i64 (x.2 : Int)) ∧ Ints w x.1.1 (Poly.lvl a x.2).len (fromP (Poly.lvl a x.2)) := fun i => by
      obtain ⟨Ai, ci, h1, h2, h3⟩ := hc i.val i.isLt
      rw [Poly.partsL_get] at h1 h2 h3
      exact ⟨((Ai, ci), _), by rw [Poly.partsL_get], h1, h2, h3⟩
    refine ⟨List.ofFn fun i => Classical.choose (hch i), by rw [List.length_ofFn]; exact h.len, ?_, ?_, fun _ => ⟨b, o, e, hb, fun i hi => ?_⟩⟩
    · refine List.ext_getElem (by rw [List.length_map, List.length_ofFn, Poly.partsL_length]) fun i h1 h2 => ?_
      rw [List.getElem_map, List.getElem_ofFn]
      have h3 := (Classical.choose_spec (hch ⟨i, by rw [Poly.partsL_length]; exact h2⟩)).1
      rw [h3, Poly.partsL_get]
    · intro x hx
      obtain ⟨i, hi⟩ := List.mem_ofFn.1 hx
      have h3 := Classical.choose_spec (hch i)
      rw [hi] at h3
      exact ⟨Poly.len_pos (Poly.lvl_mon ha _).ne, h3.2.2.2⟩
    · rw [List.getElem_ofFn]
      have hi' : i < (Poly.partsL a).length := by rw [List.length_ofFn] at hi; exact hi
      have h3 := Classical.choose_spec (hch ⟨i, hi'⟩)
      exact ⟨h3.2.1, h3.2.2.1⟩
end
end Go.Proofs.YtpikakapflebkaaGreat

namespace Cl
open CRing Poly
theorem pr_three : Pr 3 := by
  rw [← isPrime_iff]; decide
abbrev q3 : Prm := ⟨3, pr_three⟩
noncomputable abbrev ex8 : Poly (Zp q3) := toP q3 [0, 0, 0, 1, 1]
theorem x0_lin : toP q3 [0, 1] = lin (Zp.of q3 0) := Poly.ext fun i => by
  rw [co_toP, co_lin]
  match i with
  | 0 => exact Zp.ext (by decide +kernel)
  | 1 => exact Zp.ext (by decide +kernel)
  | i + 2 => rw [nth_ge (by simp), if_neg (by omega), if_neg (by omega)]; rfl
theorem x1_lin : toP q3 [1, 1] = lin (Zp.of q3 2) := Poly.ext fun i => by
  rw [co_toP, co_lin]
  match i with
  | 0 => exact Zp.ext (by decide +kernel)
  | 1 => exact Zp.ext (by decide +kernel)
  | i + 2 => rw [nth_ge (by simp), if_neg (by omega), if_neg (by omega)]; rfl
theorem x0_irr : (toP q3 [0, 1]).Irr := by rw [x0_lin]; exact lin_irr _
theorem x1_irr : (toP q3 [1, 1]).Irr := by rw [x1_lin]; exact lin_irr _
theorem x0_ne_x1 : toP q3 [0, 1] ≠ toP q3 [1, 1] := fun e => by
  have h := congrArg fromP e
  rw [fromP_toP_of (by decide +kernel), fromP_toP_of (by decide +kernel)] at h
  exact absurd h (by decide)
theorem ex8_mul : ex8 = toP q3 [0, 1] * (toP q3 [0, 1] * (toP q3 [0, 1] * toP q3 [1, 1])) := by
  rw [← toP_mulL, ← toP_mulL, ← toP_mulL]
  rw [show mulL [0, 1] (mulL [0, 1] (mulL [0, 1] [1, 1] q3.p) q3.p) q3.p = [0, 0, 0, 1, 1] by decide +kernel]
theorem ex8_ne : ex8 ≠ 0 := ne_toP_of (by decide +kernel) (by decide)
open Classical in
theorem ex8_val {f : Poly (Zp q3)} (hf : f.Irr) : val f ex8 = 3 * (if f = toP q3 [0, 1] then 1 else 0) + if f = toP q3 [1, 1] then 1 else 0 := by
  have h0 := x0_irr.ne
  have h1 := x1_irr.ne
  rw [ex8_mul, hf.val_mul h0 (mul_ne h0 (mul_ne h0 h1)), hf.val_mul h0 (mul_ne h0 h1), hf.val_mul h0 h1, hf.val_irr x0_irr, hf.val_irr x1_irr]
  omega
open Classical in
theorem ex8_cases {f : Poly (Zp q3)} (hf : f.Irr) : (f = toP q3 [0, 1] ∧ val f ex8 = 3) ∨ (f = toP q3 [1, 1] ∧ val f ex8 = 1) ∨ (f ≠ toP q3 [0, 1] ∧ f ≠ toP q3 [1, 1] ∧ val f ex8 = 0) := by
  have h := ex8_val hf
  by_cases e0 : f = toP q3 [0, 1]
  · rw [if_pos e0, if_neg (fun e1 => x0_ne_x1 (e0.symm.trans e1))] at h
    exact .inl ⟨e0, h⟩
  · by_cases e1 : f = toP q3 [1, 1]
    · rw [if_neg e0, if_pos e1] at h
      exact .inr (.inl ⟨e1, h⟩)
    · rw [if_neg e0, if_neg e1] at h
      exact .inr (.inr ⟨e0, e1, h⟩)
theorem ex8_lvl1 : lvl ex8 1 = toP q3 [1, 1] := (x1_irr.mon.eq_lvl ex8_ne (by omega) fun f hf => by
  rw [hf.val_irr x1_irr]
  rcases ex8_cases hf with ⟨e, h⟩ | ⟨e, h⟩ | ⟨e, e1, h⟩
  · rw [h, if_neg (fun e1 => x0_ne_x1 (e.symm.trans e1)), if_neg (by omega)]
  · rw [h, if_pos e, if_pos rfl]
  · rw [h, if_neg e1, if_neg (by omega)]).symm
theorem ex8_lvl3 : lvl ex8 3 = toP q3 [0, 1] := (x0_irr.mon.eq_lvl ex8_ne (by omega) fun f hf => by
  rw [hf.val_irr x0_irr]
  rcases ex8_cases hf with ⟨e, h⟩ | ⟨e, h⟩ | ⟨e, e1, h⟩
  · rw [h, if_pos e, if_pos rfl]
  · rw [h, if_neg (fun e1 => x0_ne_x1 (e1.symm.trans e)), if_neg (by omega)]
  · rw [h, if_neg e, if_neg (by omega)]).symm
theorem ex8_lvls : lvls ex8 = [1, 3] := by
  refine rising_ext (lvls_rising _) (by decide) fun k => ?_
  rw [mem_lvls ex8_ne]
  constructor
  · rintro ⟨h1, h2⟩
    obtain ⟨f, hf, hv⟩ := (lvl_mon ex8_ne k).exists_irr_of_ne h2
    rw [val_lvl ex8_ne h1 hf] at hv
    rcases ex8_cases hf with ⟨e, h⟩ | ⟨e, h⟩ | ⟨e, e1, h⟩
    · rw [h] at hv; split at hv
      · next e2 => rw [← e2]; decide
      · omega
    · rw [h] at hv; split at hv
      · next e2 => rw [← e2]; decide
      · omega
    · rw [h] at hv; split at hv <;> omega
  · intro hk
    have : k = 1 ∨ k = 3 := by simpa using hk
    rcases this with rfl | rfl
    · refine ⟨by omega, fun e => ?_⟩
      have h := x1_irr.len
      rw [← ex8_lvl1, e, len_one] at h; omega
    · refine ⟨by omega, fun e => ?_⟩
      have h := x0_irr.len
      rw [← ex8_lvl3, e, len_one] at h; omega
theorem ex8_parts : partsL ex8 = [(toP q3 [1, 1], 1), (toP q3 [0, 1], 3)] := by
  unfold partsL
  rw [ex8_lvls, List.map_cons, List.map_cons, List.map_nil, ex8_lvl1, ex8_lvl3]
theorem ex8_rad : fromP (rad ex8) = [0, 1, 1] := by
  rw [← prodL_rad ex8_ne, ex8_lvls]
  show fromP (1 * lvl ex8 1 * lvl ex8 3) = _
  rw [CRing.one_mul, ex8_lvl1, ex8_lvl3, ← toP_mulL, show mulL [1, 1] [0, 1] q3.p = [0, 1, 1] by decide +kernel]
  exact fromP_toP_of (by decide +kernel)
end Cl

namespace Go.Proofs.YtpikakapflebkaaGreat
open Go.RowKit Cl
attribute [local go_sem ↓] Go.wp_at_zero Go.wp_at_succ


theorem lens_of {q : Prm} {a : Poly (Zp q)} (ha : a ≠ 0) (hl : a.len ≤ 900000000) (i : Nat) (h : i < (Poly.partsL a).length) : ((Poly.partsL a)[i]).1.len ≤ 900000000 ∧ ((Poly.partsL a)[i]).2 ≤ 900000000 := by
  rw [Poly.partsL_get]
  have h1 := (Poly.mem_lvls ha).1 (List.getElem_mem (l := Poly.lvls a) (n := i) (by rwa [Poly.partsL_length] at h))
  have h2 := Poly.lvl_lt ha h1.1 h1.2
  have h3 := Poly.lvl_len ha h1.1
  exact ⟨Nat.le_trans h3 hl, by omega⟩
end Go.Proofs.YtpikakapflebkaaGreat

namespace Go.Proofs.YtpikakapflebkaaGreat
open Go.RowKit Cl
attribute [local go_sem ↓] Go.wp_at_zero Go.wp_at_succ

theorem ints_nil8 (w : World) : Ints w none 0 [] := ⟨rfl, fun h => absurd h (by omega), fun i => by rw [nth_ge (by simp)]; exact I64.zero⟩
theorem partsL_one {q : Prm} : Poly.partsL (1 : Poly (Zp q)) = [] := by
  have h1 : (1 : Poly (Zp q)) ≠ 0 := Poly.one_mon.ne
  have : Poly.lvls (1 : Poly (Zp q)) = [] := by
    refine List.eq_nil_iff_forall_not_mem.2 fun k hk => ?_
    obtain ⟨h2, h3⟩ := (Poly.mem_lvls h1).1 hk
    exact h3 ((Poly.lvl_one_iff h1 h2).2 fun f hf e => by rw [Poly.val_one hf] at e; omega)
  unfold Poly.partsL
  rw [this]; rfl
theorem same6N (c d : Nat) (w : World) : Calls Tryz.prog 18 #[.slice none 0 c, .slice none 0 d] w fun e w' => e = .returned (.bool true) ∧ Below w.heap.size w w' := by
  refine (same06_true none none 0 c d [] w (ints_nil8 w) (ints_nil8 w) (by omega)).mono ?_
  rintro e w' ⟨rfl, k, rfl⟩
  exact ⟨rfl, below_drewN (Below.refl _ _) k⟩
section
variable {A B : Option Addr} {n m c d N M K : Nat} {p : Int} {w : World} {hp : Pr p} {a b : Poly (Zp ⟨p, hp⟩)}
/-- Equal polynomials are the same. -/
theorem same6R (ha : Ints w A a.len (fromP a)) (hb : Ints w B b.len (fromP b)) (hn : a.len ≤ N) (hN : N ≤ 900000000) (e : a = b) :
    Calls Tryz.prog 18 #[.slice A a.len c, .slice B b.len d] w fun e w' => e = .returned (.bool true) ∧ Below w.heap.size w w' := by
  subst e
  refine (same06_true A B a.len c d _ w ha hb (by omega)).mono ?_
  rintro e w' ⟨rfl, k, rfl⟩
  exact ⟨rfl, below_drewN (Below.refl _ _) k⟩
end
end Go.Proofs.YtpikakapflebkaaGreat

namespace Go.Proofs.YtpikakapflebkaaGreat
open Go.RowKit Cl
attribute [local go_sem ↓] Go.wp_at_zero Go.wp_at_succ

section
variable {q : Prm}
theorem mon_top {g : Poly (Zp q)} (h : g.Mon) : nth (fromP g) (g.len - 1) = 1 := by
  rw [nth_fromP]
  have : g.co (g.len - 1) = 1 := h
  rw [this, ← Zp.of_one, Zp.val_of]
  exact Int.emod_eq_of_lt (by omega) (by have := q.pr.two; omega)
theorem lvl_rad {a : Poly (Zp q)} (ha : a ≠ 0) {k : Nat} (hk : 1 ≤ k) : Poly.lvl a k = Poly.rad (Poly.lvl a k) :=
  (Poly.lvl_mon ha k).eq_rad (Poly.lvl_mon ha k).ne fun f hf => by
    rw [Poly.val_lvl ha hk hf]
    by_cases h : Poly.val f a = k
    · rw [if_pos h]; rfl
    · rw [if_neg h]; rfl
theorem sq_gcd {m : Poly (Zp q)} (hm : m.Mon) (h : m = Poly.rad m) : Poly.gcdP m m.D = 1 := by
  have h1 := (sq_iff hm).2 h
  exact (((Poly.gcd_is m m.D).mon_of (.inl hm.ne)).len_one).1 h1
theorem sq_bool {m : Poly (Zp q)} (hm : m.Mon) (h : m = Poly.rad m) : (((Poly.gcdP m.monic m.monic.D).len : Int) == 1) = true := by
  rw [hm.monic_eq, sq_gcd hm h, Poly.len_one]; rfl
theorem lvl_apart {a : Poly (Zp q)} (ha : a ≠ 0) {i j : Nat} (hi : 1 ≤ i) (hj : 1 ≤ j) (h : i ≠ j) : Poly.gcdP (Poly.lvl a i) (Poly.lvl a j) = 1 := by
  have hg := Poly.gcd_is (Poly.lvl a i) (Poly.lvl a j)
  have hi' := Poly.lvl_mon ha i
  have hj' := Poly.lvl_mon ha j
  refine (hg.mon_of (.inl hi'.ne)).eq_one_of_val fun f hf => ?_
  rw [hg.val hi'.ne hj'.ne hf, Poly.val_lvl ha hi hf, Poly.val_lvl ha hj hf]
  split
  · next e => rw [if_neg (by omega)]; omega
  · omega
end
section
variable {A : Option Addr} {p : Int} {w : World} {hp : Pr p} {g : Poly (Zp ⟨p, hp⟩)}
theorem same_one (h : Ints w A g.len (fromP g)) (e : g = 1) (c : Nat) :
    Calls Tryz.prog 18 #[.slice A g.len c, .slice (some ⟨w.heap.size, 0, none⟩) 1 1] (w.alloc (.cells #[.int .i64 1] 3)) fun e w' => e = .returned (.bool true) ∧ Below w.heap.size w w' := by
  have h1 := one_ints hp w
  have hl := Poly.len_one (F := Zp ⟨p, hp⟩)
  subst e
  rw [hl] at h h1 ⊢
  refine (same06_true A _ 1 c 1 _ _ (h.alloc _) h1 (by omega)).mono ?_
  rintro e w' ⟨rfl, k, rfl⟩
  exact ⟨rfl, below_drewN ((Below.refl _ _).alloc (Nat.le_refl _) _) k⟩
end
end Go.Proofs.YtpikakapflebkaaGreat
