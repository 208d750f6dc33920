/- Contracts: the document's integers. -/
import Derived.Test.YtjmbejodcloapaaGreatPRones
import Derived.Test.YtjmbejodcloapaaGreatPZsc
set_option linter.unusedVariables false
set_option linter.unusedSimpArgs false
namespace Go.Proofs.YtjmbejodcloapaaGreat
open Go.RowKit Cl
attribute [local go_sem ↓] Go.wp_at_zero Go.wp_at_succ
theorem zval_of {neg : Bool} {xs ls : List Int} (h : PlainL ls) (e : limbs ls = limbs xs) {k : Nat} (hk : ls.length = k) : ZVal (neg && decide (0 < (k : Int))) ls (intZ neg xs) := by
  have hi := h.nil_iff
  refine ⟨h, ?_, fun hn => ?_⟩
  · unfold intZ
    cases neg
    · simp [e]
    · by_cases h0 : 0 < k
      · have : decide (0 < (k : Int)) = true := decide_eq_true (by omega)
        rw [this, e]; rfl
      · have h1 : decide (0 < (k : Int)) = false := decide_eq_false (by omega)
        have h2 := hi.2 (by omega)
        rw [h1, ← e, h2]; rfl
  · cases neg
    · simp at hn
    · have := of_decide_eq_true (by simpa using hn)
      omega
set_option maxRecDepth 100000 in
set_option maxHeartbeats 1000000 in
theorem r2norm (s : Bool) (A : Option Addr) (n c : Nat) (xs : List Int) (w : World) (hx : Limbs w A n xs) (hn : n ≤ c) (hc : c ≤ 9223372036854775807) (hn8 : n ≤ 100000000) :
    Calls Tryz.prog 59 #[.agg #[.bool s, .slice A n c]] w (GivesZ w (intZ s xs) n) := by
  have Cn := Lib.hid (fun W (h : Below w.heap.size w W) => r1norm A n c xs W (hx.bel h) hn hc (by omega))
  have hd0 := (Duo.new w (.bool s) (.slice A n c)).bel ((Below.refl _ _).alloc (Nat.le_refl _) (.cells #[.bool false, .slice none 0 0] 32))
  have hd := Duo.new (w.alloc (.cells #[.bool s, .slice A n c] 32)) (.bool false) (.slice none 0 0)
  rw [World.size_alloc] at hd
  have c0 := hd0.cell0
  have c1 := hd0.cell1
  have Hd := Lib.hid hd
  have Hd0 := Lib.hid hd0
  clear hd hd0 hx
  go_enter Tryz.func59, Tryz.ntmps59
  go_wp2_with fail
  refine (Cn.out _ (by exact ((Below.refl _ _).alloc (Nat.le_refl _) _).alloc (by simp) _)).mono ?_
  rintro e w1 ⟨A1, k1, c1', l1, rfl, h1, h2, h3, h4, h5, h6, h7⟩
  have hd1 := Hd.out.bel h7
  have hd2 := Hd0.out.bel h7
  have k0 := hd1.cell0
  have k1' := hd1.cell1
  have f0 := hd1.frozen 0
  have f1 := hd1.frozen 1
  have c0' := hd2.cell0
  have c1'' := hd2.cell1
  have hb : Below w.heap.size w w1 := (((Below.refl _ w).alloc (Nat.le_refl _) _).alloc (by simp) _).trans (h7.mono (by simp; omega))
  have Hd1 := Lib.hid hd1
  have hz := zval_of (neg := s) h5 h6 h4.len
  have Fin : Hid (∀ b : Bool, b = (s && decide (0 < (k1 : Int))) → GivesZ w (intZ s xs) n (.returned (.agg #[.bool b, .slice A1 k1 c1'])) ((w1.setCell ⟨w.heap.size + 1, 0, none⟩ (.bool b)).setCell ⟨w.heap.size + 1, 1, none⟩ (.slice A1 k1 c1'))) := fun b hbe => by
    subst hbe
    exact ⟨_, A1, k1, c1', l1, rfl, h1, h2, h3, hd1.limbs _ _ rfl rfl h4, hz, (hb.setCell (p := ⟨w.heap.size + 1, 0, none⟩) (by simp) _).setCell (p := ⟨w.heap.size + 1, 1, none⟩) (by simp) _⟩
  clear hd1 hd2 h4 h5 h6 h7 hz hb
  cases s with
  | false =>
    go_wp2
    exact bodyPost_ret (results_cell_row (fn := Tryz.f59) rfl _ _ _ _ _ _ _ rfl (Hd1.out.set _ _) Tryz.underlying32 rfl aint_size) rfl (Fin.out _ rfl)
  | true =>
    go_wp2
    exact bodyPost_ret (results_cell_row (fn := Tryz.f59) rfl _ _ _ _ _ _ _ rfl (Hd1.out.set _ _) Tryz.underlying32 rfl aint_size) rfl (Fin.out _ (by simp))
def sgn (z : Int) : Int := if z < 0 then -1 else if 0 < z then 1 else 0
theorem sgn_neg {s : Bool} {ls : List Int} {z : Int} (h : ZVal s ls z) (hs : s = true) : sgn z = -1 := by
  have h1 := h.nz hs
  have h2 := h.pl.nil_iff
  have h3 := h.eq
  subst hs
  unfold intZ at h3
  simp only [if_true] at h3
  unfold sgn
  rw [if_pos (by omega)]
theorem sgn_pos {ls : List Int} {z : Int} (h : ZVal false ls z) : sgn z = if 0 < (ls.length : Int) then 1 else 0 := by
  have h2 := h.pl.nil_iff
  have h3 := h.eq
  unfold intZ at h3
  simp only [Bool.false_eq_true, if_false] at h3
  unfold sgn
  rw [if_neg (by omega)]
  by_cases h0 : 0 < ls.length
  · rw [if_pos (by omega), if_pos (by omega)]
  · rw [if_neg (by omega), if_neg (by omega)]
set_option maxRecDepth 100000 in
set_option maxHeartbeats 1000000 in
theorem r2sign (s : Bool) (A : Option Addr) (n c : Nat) (xs : List Int) (w : World) (hx : Limbs w A n xs) (hn : n ≤ c) (hc : c ≤ 9223372036854775807) (hn8 : n ≤ 100000000) :
    Calls Tryz.prog 60 #[.agg #[.bool s, .slice A n c]] w fun e w' => e = .returned (.int .i64 (sgn (intZ s xs))) ∧ Below w.heap.size w w' := by
  have Cn := Lib.hid (fun W (h : Below w.heap.size w W) => r2norm s A n c xs W (hx.bel h) hn hc hn8)
  have hd0 := Duo.new w (.bool s) (.slice A n c)
  have c0 := hd0.cell0
  have c1 := hd0.cell1
  clear hd0 hx
  generalize intZ s xs = z at *
  go_enter Tryz.func60, Tryz.ntmps60
  go_wp2_with fail
  refine (Cn.out _ (by exact (Below.refl _ _).alloc (Nat.le_refl _) _)).mono ?_
  rintro e w1 ⟨s1, A1, k1, c1', ls, rfl, h1, h2, h3, h4, h5, h6⟩
  have hb : Below w.heap.size w w1 := ((Below.refl _ w).alloc (Nat.le_refl _) _).trans (h6.mono (by simp))
  have hl := h4.len
  have Hb := Lib.hid (fun o => hb.alloc hb.size o)
  cases s1 with
  | true =>
    have Hs := Lib.hid (sgn_neg h5 rfl)
    clear h4 h5 h6 hb hl
    go_wp2
    go_ret
    rw [Hs.out]
    exact ⟨rfl, Hb.out _⟩
  | false =>
    have hs := sgn_pos h5
    rw [hl] at hs
    by_cases h0 : 0 < k1
    · rw [if_pos (by omega)] at hs
      have h0' : (0 : Int) < (k1 : Int) := by omega
      have Hs := Lib.hid hs
      clear h4 h5 h6 hb hl hs
      go_wp2
      go_ret
      rw [Hs.out]
      exact ⟨rfl, Hb.out _⟩
    · rw [if_neg (by omega)] at hs
      have h0' : ¬ (0 : Int) < (k1 : Int) := by omega
      have Hs := Lib.hid hs
      clear h4 h5 h6 hb hl hs
      go_wp2
      go_ret
      rw [Hs.out]
      exact ⟨rfl, Hb.out _⟩
end Go.Proofs.YtjmbejodcloapaaGreat
