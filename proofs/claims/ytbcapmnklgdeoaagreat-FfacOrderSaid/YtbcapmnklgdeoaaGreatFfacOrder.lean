/- Law: FfacOrder. -/
import Derived.Test.YtbcapmnklgdeoaaGreatLaw9Base
namespace Go.Proofs.YtbcapmnklgdeoaaGreat
open Go.RowKit Cl
attribute [local go_sem ↓] Go.wp_at_zero Go.wp_at_succ

set_option maxRecDepth 100000 in
set_option maxHeartbeats 8000000 in
theorem law_FfacOrder (A : Option Addr) (n c : Nat) (xs : List Int) (B : Option Addr) (m d : Nat) (ys : List Int) (w : World) (hx : Ints w A n xs) (hn : n * 8 ≤ 140737488351232) (hy : Ints w B m ys) (hm : m * 8 ≤ 140737488351232) :
    Calls Tryz.prog 6 #[.slice A n c, .slice B m d] w fun e w' => e = .returned (.bool true) ∧ Below w.heap.size w w' := by
  have Hx := Lib.hid hx
  have Hy := Lib.hid hy
  have Has := Lib.hid (lessI_asymm xs ys)
  have hn' : n ≤ 9223372036854775807 := by omega
  have hm' : m ≤ 9223372036854775807 := by omega
  clear hx hy
  go_enter Tryz.func6, Tryz.ntmps6
  go_wp2_with fail
  refine (awake09 _).mono ?_
  rintro e w1 ⟨rfl, hb1⟩
  have Hx1 := Lib.hid (Hx.out.bel hb1)
  have Hy1 := Lib.hid (Hy.out.bel hb1)
  clear Hx Hy
  cases hl : lessI xs ys with
  | false =>
    have Hl := Lib.hid hl
    clear hl
    go_wp2_with fail
    refine (fless_any A B n m c d xs ys w1 Hx1.out Hy1.out hn' hm').mono ?_
    rintro e w2 ⟨rfl, k2, rfl⟩
    rw [Hl.out]
    go_wp2_with fail
    refine (rless_any A B n m c d xs ys _ (Hx1.out.drewN _) (Hy1.out.drewN _) hn' hm').mono ?_
    rintro e w3 ⟨rfl, k3, rfl⟩
    rw [Hl.out]
    go_wp2_with fail
    refine (fless_any A B n m c d xs ys _ (Hx1.out.drewN _) (Hy1.out.drewN _) hn' hm').mono ?_
    rintro e w4 ⟨rfl, k4, rfl⟩
    rw [Hl.out]
    go_wp2_with fail
    go_ret
    exact ⟨rfl, below_drewN hb1 _⟩
  | true =>
    have Hl := Lib.hid hl
    have Hl2 : Hid (lessI ys xs = false) := by
      show _ = _
      have := Has.out
      rw [hl] at this
      simpa using this
    clear hl
    go_wp2_with fail
    refine (fless_any A B n m c d xs ys w1 Hx1.out Hy1.out hn' hm').mono ?_
    rintro e w2 ⟨rfl, k2, rfl⟩
    rw [Hl.out]
    go_wp2_with fail
    refine (rless_any A B n m c d xs ys _ (Hx1.out.drewN _) (Hy1.out.drewN _) hn' hm').mono ?_
    rintro e w3 ⟨rfl, k3, rfl⟩
    rw [Hl.out]
    go_wp2_with fail
    refine (fless_any A B n m c d xs ys _ (Hx1.out.drewN _) (Hy1.out.drewN _) hn' hm').mono ?_
    rintro e w4 ⟨rfl, k4, rfl⟩
    rw [Hl.out]
    go_wp2_with fail
    refine (fless_any B A m n d c ys xs _ (Hy1.out.drewN _) (Hx1.out.drewN _) hm' hn').mono ?_
    rintro e w5 ⟨rfl, k5, rfl⟩
    rw [Hl2.out]
    go_wp2_with fail
    go_ret
    exact ⟨rfl, below_drewN hb1 _⟩
end Go.Proofs.YtbcapmnklgdeoaaGreat
