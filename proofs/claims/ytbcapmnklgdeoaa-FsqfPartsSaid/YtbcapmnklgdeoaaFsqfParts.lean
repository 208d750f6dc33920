/- Law: FsqfParts. -/
import Derived.Test.YtbcapmnklgdeoaaLaw8D
namespace Go.Proofs.Ytbcapmnklgdeoaa
open Go.RowKit Cl
attribute [local go_sem ↓] Go.wp_at_zero Go.wp_at_succ

set_option maxRecDepth 100000 in
set_option maxHeartbeats 8000000 in
theorem law_FsqfParts (A : Option Addr) (n c : Nat) (xs : List Int) (p : Int) (w : World) (hx : Ints w A n xs) (hn : n * 8 ≤ 140737488351232) (lp : -9223372036854775808 ≤ p) (up : p ≤ 9223372036854775807) :
    Calls Try.prog 5 #[.slice A n c, .int .i64 p] w fun e w' => e = .returned (.bool true) ∧ Below w.heap.size w w' := by
  have Hx := Lib.hid hx
  clear hx
  go_enter Try.func5, Try.ntmps5
  go_wp2_with fail
  refine (awake08 _).mono ?_
  rintro e w1 ⟨rfl, hb1⟩
  have Hx1 := Lib.hid (Hx.out.bel hb1)
  clear Hx
  by_cases hl : n ≤ 60
  · have hl' : ¬ (60 : Int) < (n : Int) := by omega
    cases hpr : isPrime p with
    | false =>
      go_wp2_with fail
      refine (sparts_no _ _ _ _ _ lp up hpr).mono ?_
      rintro e w' ⟨rfl, rfl⟩
      go_wp2_with fail
      refine (qparts_no _ _ _ _ _ lp up hpr).mono ?_
      rintro e w' ⟨rfl, rfl⟩
      go_wp2_with fail
      refine (srad_no _ _ _ _ _ lp up hpr).mono ?_
      rintro e w' ⟨rfl, rfl⟩
      go_wp2_with fail
      refine (qrad_no _ _ _ _ _ lp up hpr).mono ?_
      rintro e w' ⟨rfl, rfl⟩
      go_wp2_with fail
      refine (sis_no _ _ _ _ _ lp up hpr).mono ?_
      rintro e w' ⟨rfl, rfl⟩
      go_wp2_with fail
      refine (qis_no _ _ _ _ _ lp up hpr).mono ?_
      rintro e w' ⟨rfl, rfl⟩
      go_wp2_with fail
      refine (theirsN _ _).mono ?_
      rintro e w2 ⟨B2, d2, rfl, hb2⟩
      go_wp2_with fail
      refine (same8N _ _ _ _ _).mono ?_
      rintro e w3 ⟨rfl, hb3⟩
      go_wp2_with fail
      refine (same6N _ _ _).mono ?_
      rintro e w4 ⟨rfl, hb4⟩
      go_wp2_with fail
      go_ret
      exact ⟨rfl, below_tr (below_tr (below_tr hb1 hb2) hb3) hb4⟩
    | true =>
      have Hp := Lib.hid ((isPrime_iff p).1 hpr)
      clear hpr
      by_cases h0 : toP ⟨p, Hp.out⟩ xs = 0
      · have H0 := Lib.hid h0
        clear h0
        go_wp2_with fail
        refine (sparts0R (N := 60) (hp := Hp.out) (Rd.of_list Hx1.out) hl (by omega) H0.out).mono ?_
        rintro e w2 ⟨rfl, hb2⟩
        have Hx2 := Lib.hid (Hx1.out.bel hb2)
        go_wp2_with fail
        refine (qparts0R (N := 60) (hp := Hp.out) (Rd.of_list Hx2.out) hl (by omega) H0.out).mono ?_
        rintro e w3 ⟨rfl, hb3⟩
        have Hx3 := Lib.hid (Hx2.out.bel hb3)
        go_wp2_with fail
        refine (srad0R (N := 60) (hp := Hp.out) (Rd.of_list Hx3.out) hl (by omega) H0.out).mono ?_
        rintro e w4 ⟨rfl, hb4⟩
        have Hx4 := Lib.hid (Hx3.out.bel hb4)
        go_wp2_with fail
        refine (qrad0R (N := 60) (hp := Hp.out) (Rd.of_list Hx4.out) hl (by omega) H0.out).mono ?_
        rintro e w5 ⟨rfl, hb5⟩
        have Hx5 := Lib.hid (Hx4.out.bel hb5)
        go_wp2_with fail
        refine (sis0R (N := 60) (hp := Hp.out) (Rd.of_list Hx5.out) hl (by omega) H0.out).mono ?_
        rintro e w6 ⟨rfl, hb6⟩
        have Hx6 := Lib.hid (Hx5.out.bel hb6)
        go_wp2_with fail
        refine (qis0R (N := 60) (hp := Hp.out) (Rd.of_list Hx6.out) hl (by omega) H0.out).mono ?_
        rintro e w7 ⟨rfl, hb7⟩
        go_wp2_with fail
        refine (theirsN _ _).mono ?_
        rintro e w8 ⟨B2, d2, rfl, hb8⟩
        go_wp2_with fail
        refine (same8N _ _ _ _ _).mono ?_
        rintro e w9 ⟨rfl, hb9⟩
        go_wp2_with fail
        refine (same6N _ _ _).mono ?_
        rintro e w10 ⟨rfl, hb10⟩
        go_wp2_with fail
        go_ret
        exact ⟨rfl, below_tr (below_tr (below_tr (below_tr (below_tr (below_tr (below_tr (below_tr (below_tr hb1 hb2) hb3) hb4) hb5) hb6) hb7) hb8) hb9) hb10⟩
      · have H0 := Lib.hid h0
        have hal : (toP ⟨p, Hp.out⟩ xs).len ≤ 60 := by have := len_le_toP (q := ⟨p, Hp.out⟩) Hx1.out.len; omega
        clear h0
        go_wp2_with fail
        refine (spartsR (N := 60) (hp := Hp.out) (Rd.of_list Hx1.out) hl (by omega) H0.out).mono ?_
        rintro e w2 ⟨A2, c2, rfl, hP2, hb2⟩
        have HP2 := Lib.hid hP2
        have Hx2 := Lib.hid (Hx1.out.bel hb2)
        clear hP2
        go_wp2_with fail
        refine (qpartsR (N := 60) (hp := Hp.out) (Rd.of_list Hx2.out) hl (by omega) H0.out).mono ?_
        rintro e w3 ⟨A3, c3, rfl, hP3, hb3⟩
        have HP3 := Lib.hid hP3
        have HP23 := Lib.hid (HP2.out.bel hb3)
        have Hx3 := Lib.hid (Hx2.out.bel hb3)
        clear hP3 HP2
        go_wp2_with fail
        refine (sradR (N := 60) (hp := Hp.out) (Rd.of_list Hx3.out) hl (by omega) H0.out).mono ?_
        rintro e w4 ⟨A4, c4, rfl, l4, h4, hb4⟩
        have H4 := Lib.hid h4
        have Hx4 := Lib.hid (Hx3.out.bel hb4)
        clear h4
        go_wp2_with fail
        refine (qradR (N := 60) (hp := Hp.out) (Rd.of_list Hx4.out) hl (by omega) H0.out).mono ?_
        rintro e w5 ⟨A5, c5, rfl, l5, h5, hb5⟩
        have H5 := Lib.hid h5
        have Hx5 := Lib.hid (Hx4.out.bel hb5)
        clear h5
        go_wp2_with fail
        refine (sisR (N := 60) (hp := Hp.out) (Rd.of_list Hx5.out) hl (by omega) H0.out).mono ?_
        rintro e w6 ⟨rfl, hb6⟩
        have Hx6 := Lib.hid (Hx5.out.bel hb6)
        go_wp2_with fail
        refine (qisR (N := 60) (hp := Hp.out) (Rd.of_list Hx6.out) hl (by omega) H0.out).mono ?_
        rintro e w7 ⟨rfl, hb7⟩
        have hb37 := below_tr (below_tr (below_tr hb4 hb5) hb6) hb7
        have hb57 := below_tr hb6 hb7
        have HP27 := Lib.hid (HP23.out.bel hb37)
        have HP37 := Lib.hid (HP3.out.bel hb37)
        have H47 := Lib.hid (H4.out.bel (below_tr hb5 hb57))
        have H57 := Lib.hid (H5.out.bel hb57)
        have hbel := below_tr (below_tr (below_tr hb1 hb2) hb3) hb37
        clear hb1 hb2 hb3 hb4 hb5 hb6 hb7 hb37 hb57 HP23 HP3 H4 H5 Hx1 Hx2 Hx3 Hx4 Hx5 Hx6
        generalize sqB (toP ⟨p, Hp.out⟩ xs) = sq
        have hsq : (sq == sq) = true := by simp
        have hKl : (Poly.partsL (toP ⟨p, Hp.out⟩ xs)).length ≤ 60 := by
          rw [Poly.partsL_length]
          have h3 : (Poly.lvls (toP ⟨p, Hp.out⟩ xs)).length ≤ (toP ⟨p, Hp.out⟩ xs).len := by unfold Poly.lvls; exact Nat.le_trans (List.length_filter_le _ _) (by rw [List.length_range]; omega)
          omega
        go_wp2_with fail
        refine (theirsR _ _ _ (toP ⟨p, Hp.out⟩ xs) _ H0.out (by omega) HP27.out (by omega)).mono ?_
        rintro e w8 ⟨B8, d8, rfl, hP8, hb8⟩
        have HP8 := Lib.hid hP8
        have HP38 := Lib.hid (HP37.out.bel hb8)
        have H48 := Lib.hid (H47.out.bel hb8)
        have H58 := Lib.hid (H57.out.bel hb8)
        clear hP8
        go_wp2_with fail
        refine (same8R (hp := Hp.out) HP8.out HP38.out H0.out (by omega)).mono ?_
        rintro e w9 ⟨rfl, hb9⟩
        have H49 := Lib.hid (H48.out.bel hb9)
        have H59 := Lib.hid (H58.out.bel hb9)
        go_wp2_with fail
        refine (same6R (N := 60) (hp := Hp.out) H49.out H59.out l4 (by omega) rfl).mono ?_
        rintro e w10 ⟨rfl, hb10⟩
        go_wp2_with fail
        go_ret
        exact ⟨rfl, below_tr (below_tr (below_tr hbel hb8) hb9) hb10⟩
  · have hl' : (60 : Int) < (n : Int) := by omega
    go_wp2_with fail
    go_ret
    exact ⟨rfl, hb1⟩
end Go.Proofs.Ytbcapmnklgdeoaa
