/- Terms collected in a row of the call's own: the row, the terms, what they come to. -/
import Derived.Test.YtjmbejodcloapaaGreatPRpln
import Derived.Test.YtjmbejodcloapaaGreatPZsc
import Derived.Test.YtjmbejodcloapaaGreatPPrs
import Derived.Test.YtjmbejodcloapaaGreatPLaws
import Derived.Test.YtjmbejodcloapaaGreatPMvs
import Derived.Test.YtjmbejodcloapaaGreatPRzs
import Derived.Test.YtjmbejodcloapaaGreatPRfs
set_option linter.unusedVariables false
set_option linter.unusedSimpArgs false
namespace Cl
theorem EqM.more {n : Nat} {X M : Mv} (h : EqM n X M) (t : Trm) : EqM n (X ++ [t]) (M ++ [t]) := fun q hq => by
  rw [coM_append, coM_append, h q hq]
end Cl
namespace Go.Proofs.YtjmbejodcloapaaGreat
open Go.RowKit Cl
attribute [local go_sem ↓] Go.wp_at_zero Go.wp_at_succ
theorem abs_of_len {C k : Nat} {L : List TV} (hl : ∀ t ∈ L, t.1.2.length ≤ C) (hi : ∀ t ∈ L, IsLimbs t.1.2) (hk : L.length ≤ k) (hk2 : k < 18446744073709551616) : absM (mvT L) < 2 ^ (64 * (C + 1)) := by
  have h1 : absM (mvT L) ≤ (mvT L).length * 2 ^ (64 * C) := absM_le fun t ht => by
    obtain ⟨s, hs, rfl⟩ := List.mem_map.1 ht
    exact Nat.le_of_lt (intZ_abs s.1.1 (hi s hs) (hl s hs))
  rw [mvT_length] at h1
  have h2 : L.length * 2 ^ (64 * C) ≤ 18446744073709551615 * 2 ^ (64 * C) := Nat.mul_le_mul_right _ (by omega)
  have h3 := Nat.two_pow_pos (64 * C)
  rw [Nat.mul_add, Nat.pow_add, Nat.mul_one]
  have h4 : (2 : Nat) ^ 64 = 18446744073709551616 := by decide
  rw [h4, Nat.mul_comm (2 ^ (64 * C))]
  omega
structure ROut (w0 wr : World) (n C : Nat) (v : Value) (E : List EntT) (M : Mv) : Prop where
  own : wr.ownsRow w0.heap.size 45 3 v E.length (tcells E)
  ok : ∀ x ∈ E, EntOk wr x
  far : ∀ x ∈ E, (0 < x.2.1.2.length → ∀ y, x.1.1.1 = some y → v.ownBlock ≠ some y.block) ∧ (0 < x.2.2.length → ∀ y, x.1.2.1 = some y → v.ownBlock ≠ some y.block)
  len : ∀ x ∈ E, x.2.2.length = n
  co : ∀ x ∈ E, x.2.1.2.length ≤ C
  eq : EqM n (mvT (E.map (·.2))) M
  bel : Below w0.heap.size w0 wr
theorem ROut.start (w : World) (n C : Nat) : ROut w w n C (.slice none 0 0) [] [] :=
  ⟨World.ownsRow_nil _ _ _ _, fun x hx => (by cases hx), fun x hx => (by cases hx), fun x hx => (by cases hx), fun x hx => (by cases hx), fun _ _ => rfl, Below.refl _ _⟩
theorem ROut.bel2 {w0 wr wt : World} {n C : Nat} {v : Value} {E : List EntT} {M : Mv} (h : ROut w0 wr n C v E M) (hb : Below wr.heap.size wr wt) : ROut w0 wt n C v E M :=
  ⟨own_below h.own hb, fun x hx => (h.ok x hx).bel hb, h.far, h.len, h.co, h.eq, h.bel.trans (hb.mono h.bel.size)⟩
theorem ROut.next {w0 wr w2 w3 : World} {n C g cap H : Nat} {v : Value} {E : List EntT} {M : Mv} {x : EntT} {o : Obj} (h : ROut w0 wr n C v E M) (hb2 : Below wr.heap.size wr w2) (hx : EntOk w2 x) (hxl : x.2.2.length = n) (hxC : x.2.1.2.length ≤ C)
    (hf1 : 0 < x.2.1.2.length → ∀ y, x.1.1.1 = some y → v.ownBlock ≠ some y.block) (hf2 : 0 < x.2.2.length → ∀ y, x.1.2.1 = some y → v.ownBlock ≠ some y.block)
    (hown : w3.ownsRow w0.heap.size 45 3 (.slice (some ⟨g, 0, none⟩) (E.length + 1) cap) (E.length + 1) (tcells E ++ tcell x)) (hgr : (w2.alloc o).grownBy w3 v.ownBlock) (hat : v.ownBlock = some g ∨ g = H) (hH : H = w2.heap.size + 1) : ROut w0 w3 n C (.slice (some ⟨g, 0, none⟩) (E.length + 1) cap) (E ++ [x]) (M ++ [valT x.2]) := by
  subst hH
  have hvb : ∀ k, v.ownBlock = some k → w0.heap.size ≤ k ∧ k < wr.heap.size := fun k hk => h.own.lt k hk
  have hs2 := hb2.size
  have b3 : Below w2.heap.size w2 (w2.alloc o) := (Below.refl _ _).alloc (Nat.le_refl _) _
  have o3 : Only (fun k => v.ownBlock = some k) (w2.alloc o) w3 := (Only.of_grown hgr).mono (fun i hi => by first | exact hi | exact hi.symm)
  have hfar : ∀ z ∈ E ++ [x], (0 < z.2.1.2.length → ∀ y, z.1.1.1 = some y → v.ownBlock ≠ some y.block) ∧ (0 < z.2.2.length → ∀ y, z.1.2.1 = some y → v.ownBlock ≠ some y.block) := fun z hz => by
    rcases List.mem_append.1 hz with hz | hz
    · exact h.far z hz
    · rw [List.mem_singleton.1 hz]; exact ⟨hf1, hf2⟩
  have hall : ∀ z ∈ E ++ [x], EntOk w2 z := fun z hz => by
    rcases List.mem_append.1 hz with hz | hz
    · exact (h.ok z hz).bel hb2
    · rw [List.mem_singleton.1 hz]; exact hx
  refine ⟨by rw [List.length_append, tcells_snoc]; exact hown, fun z hz => entOk_only ((hall z hz).bel b3) o3 (fun h0 y hy e => (hfar z hz).1 h0 y hy e) (fun h0 y hy e => (hfar z hz).2 h0 y hy e), fun z hz => ?_, fun z hz => ?_, fun z hz => ?_, ?_, ?_⟩
  · have h5 := (hall z hz).2.2.2.2.1
    have h6 := (hall z hz).2.2.2.2.2
    refine ⟨fun h0 y hy e => ?_, fun h0 y hy e => ?_⟩
    · have e : g = y.block := by injection e
      rcases hat with h1 | h1
      · exact (hfar z hz).1 h0 y hy (by rw [h1, e])
      · have := limbs_blk h5 h0 hy; omega
    · have e : g = y.block := by injection e
      rcases hat with h1 | h1
      · exact (hfar z hz).2 h0 y hy (by rw [h1, e])
      · have := ints_blk h6 h0 hy; omega
  · rcases List.mem_append.1 hz with hz | hz
    · exact h.len z hz
    · rw [List.mem_singleton.1 hz]; exact hxl
  · rcases List.mem_append.1 hz with hz | hz
    · exact h.co z hz
    · rw [List.mem_singleton.1 hz]; exact hxC
  · rw [List.map_append, mvT_append]
    exact h.eq.more (valT x.2)
  · have hb10 : Below w0.heap.size w0 w2 := h.bel.trans (hb2.mono h.bel.size)
    exact (hb10.alloc hb10.size o).grown hgr (by have := hb10.size; simp; omega) (fun k hk => (hvb k hk).1)
theorem ROut.out {w0 wr : World} {n C : Nat} {v : Value} {E : List EntT} {M : Mv} (h : ROut w0 wr n C v E M) (hn : n ≤ 1000000) (hC : C ≤ 900000) (hE : E.length ≤ 1000000000000) :
    ∃ B d, v = .slice B E.length d ∧ Calls Tryz.prog 32 #[.slice B E.length d] wr (GivesR wr n M) := by
  obtain ⟨B, d, e, _, _, ht⟩ := trs_of_own h.own rfl h.ok
  have hlen : ∀ t ∈ E.map (·.2), t.2.length = n := fun t ht => by
    obtain ⟨x, hx, rfl⟩ := List.mem_map.1 ht
    exact h.len x hx
  have hco : ∀ t ∈ E.map (·.2), t.1.2.length ≤ C := fun t ht => by
    obtain ⟨x, hx, rfl⟩ := List.mem_map.1 ht
    exact h.co x hx
  have hab := abs_of_len hco (trs_limbs ht) (k := 1000000000000) (by rw [List.length_map]; exact hE) (by omega)
  refine ⟨B, d, e, (r17plain n C (C + 1) B E.length d (E.map (·.2)) wr ht hlen hco (by omega) (by omega) hab (Nat.le_trans hE (by decide)) hn).mono ?_⟩
  rintro e w' ⟨A, c, T, h1, h2, h3, h4, h5, h6, h7⟩
  exact ⟨A, c, T, h1, h2, h3, h4, h5, h6.trans h.eq, h7⟩
end Go.Proofs.YtjmbejodcloapaaGreat
