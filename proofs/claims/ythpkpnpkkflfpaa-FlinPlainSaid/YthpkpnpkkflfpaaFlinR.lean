/- Contracts: what a matrix makes of residues, where it may not be asked. -/
import Derived.Test.YthpkpnpkkflfpaaFlinQ
namespace Go.Proofs.Ythpkpnpkkflfpaa
open Go.RowKit Cl
attribute [local go_sem ↓] Go.wp_at_zero Go.wp_at_succ

theorem appOk_false {rows : List (List Int)} {v : List Int} {p : Int} (h : appOk rows v p = false) : matOk rows p = false ∨ (matOk rows p = true ∧ 0 < rows.length ∧ (rAt rows 0).length ≠ v.length) := by
  cases hm : matOk rows p with
  | false => exact .inl rfl
  | true =>
    refine .inr ⟨rfl, ?_⟩
    have h3 : ¬ (rows.length = 0 ∨ (rAt rows 0).length = v.length) := fun h4 => by
      have := appOk_iff.2 ⟨hm, h4⟩
      rw [h] at this; cases this
    exact ⟨Nat.pos_of_ne_zero fun e => h3 (.inl e), fun e => h3 (.inr e)⟩
theorem apply_no (A B : Option Addr) (m k c d : Nat) (rows : List (List Int)) (v : List Int) (p : Int) (w : World) (hx : Mat w A m rows) (hv : Ints w B k v) (hk : k ≤ 9223372036854775807) (h3 : -9223372036854775808 ≤ p) (h4 : p ≤ 9223372036854775807) (hok : appOk rows v p = false) :
    Calls Try.prog 37 #[.slice A m c, .slice B k d, .int .i64 p] w fun e w' => e = .returned (.tuple #[.slice none 0 0, .int .i64 1]) ∧ Below w.heap.size w w' := by
  have c1 := right_any A m c rows p w hx h3 h4
  rcases appOk_false hok with h | ⟨h, h5, h6⟩
  · rw [matE_no h] at c1
    have C1 := Lib.hid c1
    clear c1 h hok
    go_enter Try.func37, Try.ntmps37
    go_wp2_with (go_at_call 42; refine C1.out.mono ?_; rintro e w' ⟨rfl, rfl⟩)
    go_ret2
    exact ⟨rfl, Below.refl _ _⟩
  · rw [matE_yes h] at c1
    have C1 := Lib.hid c1
    have hl := hx.len
    have hl2 := hv.len
    obtain ⟨b, o, rfl, hb, hc⟩ := hx.at_ (by omega)
    obtain ⟨A1, c1', hc1, _⟩ := hc 0 (by omega)
    rw [Nat.add_zero] at hc1
    have hd0 : decide ((0 : Int) < (m : Int)) = true := decide_eq_true (by omega)
    have hd1 : (((rAt rows 0).length : Int) != (k : Int)) = true := by simp; omega
    have hpb : (0 : Int) < (m : Int) := by omega
    clear h hc h6 hl hl2 c1 hok h5
    go_enter Try.func37, Try.ntmps37
    go_wp2_with (go_at_call 42; refine C1.out.mono ?_; rintro e w' ⟨rfl, rfl⟩)
    go_ret2
    exact ⟨rfl, Below.refl _ _⟩
theorem rapply_no (A B : Option Addr) (m k c d : Nat) (rows : List (List Int)) (v : List Int) (p : Int) (w : World) (hx : Mat w A m rows) (hv : Ints w B k v) (hk : k ≤ 9223372036854775807) (h3 : -9223372036854775808 ≤ p) (h4 : p ≤ 9223372036854775807) (hok : appOk rows v p = false) :
    Calls Try.prog 38 #[.slice A m c, .slice B k d, .int .i64 p] w fun e w' => e = .returned (.tuple #[.slice none 0 0, .int .i64 1]) ∧ Below w.heap.size w w' := by
  have c1 := rright_any A m c rows p w hx h3 h4
  rcases appOk_false hok with h | ⟨h, h5, h6⟩
  · rw [h] at c1
    have C1 := Lib.hid c1
    clear c1 h hok
    go_enter Try.func38, Try.ntmps38
    go_wp2_with (go_at_call 47; refine C1.out.mono ?_; rintro e w' ⟨rfl, kr, rfl⟩)
    go_ret2
    exact ⟨rfl, below_drewN (Below.refl _ _) _⟩
  · rw [h] at c1
    have C1 := Lib.hid c1
    have hl := hx.len
    have hl2 := hv.len
    obtain ⟨b, o, rfl, hb, hc⟩ := hx.at_ (by omega)
    obtain ⟨A1, c1', hc1, _⟩ := hc 0 (by omega)
    rw [Nat.add_zero] at hc1
    have hd0 : decide ((0 : Int) < (m : Int)) = true := decide_eq_true (by omega)
    have hd1 : (((rAt rows 0).length : Int) != (k : Int)) = true := by simp; omega
    have hpb : (0 : Int) < (m : Int) := by omega
    clear h hc h6 hl hl2 c1 hok h5
    go_enter Try.func38, Try.ntmps38
    go_wp2_with (go_at_call 47; refine C1.out.mono ?_; rintro e w' ⟨rfl, kr, rfl⟩)
    go_ret2
    exact ⟨rfl, below_drewN (Below.refl _ _) _⟩
end Go.Proofs.Ythpkpnpkkflfpaa
