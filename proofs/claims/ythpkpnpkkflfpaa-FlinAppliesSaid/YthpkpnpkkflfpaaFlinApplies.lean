/- FlinApplies: the statement's walk. -/
import Derived.Test.YthpkpnpkkflfpaaFlinR
import Derived.Test.YthpkpnpkkflfpaaFlinE
namespace Go.Proofs.Ythpkpnpkkflfpaa
open Go.RowKit Cl
attribute [local go_sem ↓] Go.wp_at_zero Go.wp_at_succ

theorem law_FlinApplies (A : Option Addr) (m c : Nat) (rows : List (List Int)) (B : Option Addr) (k d : Nat) (v : List Int) (p : Int) (w : World) (hx : Mat w A m rows) (hv : Ints w B k v) (hk : k * 8 ≤ 140737488351232) (h3 : -9223372036854775808 ≤ p) (h4 : p ≤ 9223372036854775807) :
    Calls Try.prog 11 #[.slice A m c, .slice B k d, .int .i64 p] w fun e w' => e = .returned (.bool true) ∧ Below w.heap.size w w' := by
  have hms := hx.small
  cases hok : appOk rows v p with
  | false =>
    go_enter Try.func11, Try.ntmps11
    go_wp2_with fail
    refine (awake07 _).mono ?_
    rintro e w1 ⟨rfl, hb1⟩
    go_wp2_with fail
    refine (apply_no _ _ _ _ _ _ _ _ _ _ (hx.bel hb1) (hv.bel hb1) (by omega) h3 h4 hok).mono ?_
    rintro e w2 ⟨rfl, hb2⟩
    go_wp2_with fail
    refine (rapply_no _ _ _ _ _ _ _ _ _ _ ((hx.bel hb1).bel hb2) ((hv.bel hb1).bel hb2) (by omega) h3 h4 hok).mono ?_
    rintro e w3 ⟨rfl, hb3⟩
    go_wp2_with fail
    refine (same_ints _ _ _ _ _ _ [] [] _ (ints_none _ _) (ints_none _ _) (by omega) rfl).mono ?_
    rintro e w4 ⟨rfl, hb4⟩
    go_wp2_with fail
    go_ret
    exact ⟨rfl, below_then (below_then (below_then hb1 hb2) hb3) hb4⟩
  | true =>
    have Hok := Lib.hid hok
    clear hok
    go_enter Try.func11, Try.ntmps11
    go_wp2_with fail
    refine (awake07 _).mono ?_
    rintro e w1 ⟨rfl, hb1⟩
    go_wp2_with fail
    refine (apply_yes _ _ _ _ _ _ _ _ _ _ (hx.bel hb1) (hv.bel hb1) hk h3 h4 Hok.out).mono ?_
    rintro e w2 ⟨A2, c2, rfl, hn2⟩
    have hb2 := hn2.bel
    go_wp2_with fail
    refine (rapply_yes _ _ _ _ _ _ _ _ _ _ ((hx.bel hb1).bel hb2) ((hv.bel hb1).bel hb2) hk h3 h4 Hok.out).mono ?_
    rintro e w3 ⟨A3, c3, rfl, hn3⟩
    have hb3 := hn3.bel
    go_wp2_with fail
    refine (same_ints _ _ _ _ _ _ _ _ _ (hn2.rd.bel hb3) hn3.rd (by omega) rfl).mono ?_
    rintro e w4 ⟨rfl, hb4⟩
    go_wp2_with fail
    go_ret
    exact ⟨rfl, below_then (below_then (below_then hb1 hb2) hb3) hb4⟩
end Go.Proofs.Ythpkpnpkkflfpaa
