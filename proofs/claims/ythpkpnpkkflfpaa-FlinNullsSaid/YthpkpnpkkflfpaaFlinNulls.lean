/- FlinNulls: the statement's walk. -/
import Derived.Test.YthpkpnpkkflfpaaFlinQ
namespace Go.Proofs.Ythpkpnpkkflfpaa
open Go.RowKit Cl
attribute [local go_sem ↓] Go.wp_at_zero Go.wp_at_succ

theorem law_FlinNulls (A : Option Addr) (m c : Nat) (rows : List (List Int)) (n p : Int) (w : World) (hx : Mat w A m rows) (h1 : -9223372036854775808 ≤ n) (h2 : n ≤ 9223372036854775807) (h3 : -9223372036854775808 ≤ p) (h4 : p ≤ 9223372036854775807) :
    Calls Try.prog 9 #[.slice A m c, .int .i64 n, .int .i64 p] w fun e w' => e = .returned (.bool true) ∧ Below w.heap.size w w' := by
  cases hok : nullOk rows n p with
  | false =>
    go_enter Try.func9, Try.ntmps9
    go_wp2_with fail
    refine (awake07 _).mono ?_
    rintro e w1 ⟨rfl, hb1⟩
    go_wp2_with fail
    refine (null_bad _ _ _ _ _ _ _ (hx.bel hb1) h1 h2 h3 h4 hok).mono ?_
    rintro e w2 ⟨rfl, hb2⟩
    go_wp2_with fail
    refine (rnull_bad _ _ _ _ _ _ _ ((hx.bel hb1).bel hb2) h1 h2 h3 h4 hok).mono ?_
    rintro e w3 ⟨rfl, hb3⟩
    go_wp2_with fail
    refine (same_rows _ _ _ _ _ _ [] [] _ (Mat.empty _ _) (Mat.empty _ _) (by simp [rAt]) rfl).mono ?_
    rintro e w4 ⟨rfl, hb4⟩
    go_wp2_with fail
    go_ret
    exact ⟨rfl, below_then (below_then (below_then hb1 hb2) hb3) hb4⟩
  | true =>
    obtain ⟨hmat, hn0, hn64, hcol⟩ := nullOk_iff.1 hok
    obtain ⟨k, rfl⟩ := Int.eq_ofNat_of_zero_le hn0
    have Hp := Lib.hid ((isPrime_iff p).1 (matOk_iff.1 hmat).1)
    have Hok := Lib.hid hok
    clear hok hmat hcol
    go_enter Try.func9, Try.ntmps9
    go_wp2_with fail
    refine (awake07 _).mono ?_
    rintro e w1 ⟨rfl, hb1⟩
    go_wp2_with fail
    refine (null_yes _ _ _ k _ _ _ (hx.bel hb1) Hok.out).mono ?_
    rintro e w2 ⟨A2, n2, c2, r2, rfl, hm2, hE2, hb2⟩
    go_wp2_with fail
    refine (rnull_yes _ _ _ k _ _ _ ((hx.bel hb1).bel hb2) Hok.out).mono ?_
    rintro e w3 ⟨A3, n3, c3, r3, rfl, hm3, hE3, hb3⟩
    have He := Lib.hid (hE2.unique Hp.out hE3)
    go_wp2_with fail
    refine (same_rows _ _ _ _ _ _ r2 r3 _ (hm2.bel hb3) hm3 (fun i => by have := hE3.short i; omega) He.out).mono ?_
    rintro e w4 ⟨rfl, hb4⟩
    go_wp2_with fail
    go_ret
    exact ⟨rfl, below_then (below_then (below_then hb1 hb2) hb3) hb4⟩
end Go.Proofs.Ythpkpnpkkflfpaa
