/- The walk of MpolyDivides: the quotient of any polynomials, or that there is a rest, is what the document says. -/
import Derived.Test.YtjmbejodcloapaaGreatPLawD17
set_option linter.unusedVariables false
set_option linter.unusedSimpArgs false
namespace Go.Proofs.YtjmbejodcloapaaGreat
open Go.RowKit Cl
attribute [local go_sem ↓] Go.wp_at_zero Go.wp_at_succ
set_option maxRecDepth 1000000 in
set_option maxHeartbeats 16000000 in
theorem law_MpolyDivides (a0 : Int) (A1 : Option Addr) (m1 c1 : Nat) (L1 : List TV) (A2 : Option Addr) (m2 c2 : Nat) (L2 : List TV) (w : World) (lo0 : -9223372036854775808 ≤ a0) (hi0 : a0 ≤ 9223372036854775807)
    (w1 : Trs w A1 m1 L1) (h1 : m1 ≤ c1) (k1 : c1 ≤ 9223372036854775807) (w2 : Trs w A2 m2 L2) (h2 : m2 ≤ c2) (k2 : c2 ≤ 9223372036854775807) :
    Calls Tryz.prog 3 #[.int .i64 a0, .slice A1 m1 c1, .slice A2 m2 c2] w fun e w' => e = .returned (.bool true) ∧ Below w.heap.size w w' := by
  have Ta := Lib.hid w1
  have Tb := Lib.hid w2
  clear w1 w2
  go_enter Tryz.func3, Tryz.ntmps3
  go_wp2_with fail
  refine (awake17 w).mono ?_
  rintro e wa ⟨rfl, hba⟩
  have hb3 : Below w.heap.size w (wa.alloc (.cells #[.slice A1 m1 c1, .slice A2 m2 c2] 22)) := hba.alloc hba.size _
  have hq := heap_alloc_new wa (.cells #[.slice A1 m1 c1, .slice A2 m2 c2] 22)
  clear hba
  go_wp2_with fail
  generalize wa.alloc (.cells #[.slice A1 m1 c1, .slice A2 m2 c2] 22) = wb at *
  have hc0 : wb.cell? ⟨wa.heap.size, 0, none⟩ = some (.slice A1 m1 c1) := (cell_of_row wb _ 0 _ _ (0, 0) hq).trans rfl
  have hc1 : wb.cell? ⟨wa.heap.size, 1, none⟩ = some (.slice A2 m2 c2) := (cell_of_row wb _ 1 _ _ (0, 0) hq).trans rfl
  refine (lsmall2 8 2 4 wa.heap.size 2 A1 A2 m1 m2 c1 c2 L1 L2 wb hc0 hc1 (Ta.out.bel hb3) (Tb.out.bel hb3) (by omega) (by omega)).mono ?_
  rintro e wc ⟨sm, rfl, rfl, hsm⟩
  have Hb := Lib.hid hb3
  have Hsm := Lib.hid hsm
  clear hb3 hq hsm hc0 hc1
  cases sm with
  | false =>
    go_wp2_with fail
    go_ret
    exact ⟨rfl, Hb.out⟩
  | true =>
    obtain ⟨s1, s2⟩ := Hsm.out rfl
    obtain ⟨er, P, U, D1, D2⟩ := pair_div a0 A1 A2 m1 c1 m2 c2 L1 L2 w Ta.out Tb.out s1 s2
    have HD1 := Lib.hid D1
    have HD2 := Lib.hid D2
    have HU := Lib.hid U
    clear s1 s2 D1 D2 U Hsm
    go_wp2_with fail
    refine (HD1.out wb (Ta.out.bel Hb.out) (Tb.out.bel Hb.out)).mono ?_
    rintro e w1 ⟨B1, d1, T1, rfl, tl1, tr1, tp1, hb⟩
    have HB1 : Hid (Below w.heap.size w w1) := Hb.out.trans (hb.mono Hb.out.size)
    have K1 := Lib.hid tr1
    have p1 := Lib.hid tp1
    clear hb Hb tr1 tp1
    go_wp2_with fail
    refine (HD2.out w1 (Ta.out.bel HB1.out) (Tb.out.bel HB1.out)).mono ?_
    rintro e w2 ⟨B2, d2, T2, rfl, tl2, tr2, tp2, hb⟩
    have HB2 : Hid (Below w.heap.size w w2) := HB1.out.trans (hb.mono HB1.out.size)
    replace K1 := Lib.hid (K1.out.bel hb)
    have K2 := Lib.hid tr2
    have p2 := Lib.hid tp2
    clear hb HB1 tr2 tp2
    obtain rfl := HU.out _ _ p1.out p2.out
    have e1 : (er == er) = true := by simp
    go_wp2_with fail
    refine (lsame_true _ _ _ _ _ _ _ K1.out K2.out (by omega)).mono ?_
    rintro e x1 ⟨rfl, hb⟩
    have HB3 : Hid (Below w.heap.size w x1) := HB2.out.trans (hb.mono HB2.out.size)
    clear hb HB2
    go_wp2_with fail
    go_ret
    exact ⟨rfl, HB3.out⟩
end Go.Proofs.YtjmbejodcloapaaGreat
