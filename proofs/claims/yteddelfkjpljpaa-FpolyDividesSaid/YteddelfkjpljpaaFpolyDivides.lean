/- FpolyDivides: the statement's walk (printed by gen/law6.py). -/
import Derived.Test.YteddelfkjpljpaaLaw6E
namespace Go.Proofs.Yteddelfkjpljpaa
open Go.RowKit Cl
attribute [local go_sem ↓] Go.wp_at_zero Go.wp_at_succ

set_option maxRecDepth 100000 in
set_option maxHeartbeats 8000000 in
theorem law_FpolyDivides (A : Option Addr) (n c : Nat) (xs : List Int) (B : Option Addr) (m d : Nat) (ys : List Int) (x p : Int) (w : World) (hx : Ints w A n xs) (hn : n * 8 ≤ 140737488351232) (hy : Ints w B m ys) (hm : m * 8 ≤ 140737488351232) (lx : -9223372036854775808 ≤ x) (ux : x ≤ 9223372036854775807) (lp : -9223372036854775808 ≤ p) (up : p ≤ 9223372036854775807) :
    Calls Try.prog 8 #[.slice A n c, .slice B m d, .int .i64 x, .int .i64 p] w fun e w' => e = .returned (.bool true) ∧ Below w.heap.size w w' := by
  go_enter Try.func8, Try.ntmps8
  go_wp2_with fail
  refine (awake06 _).mono ?_
  rintro e w1 ⟨rfl, hb1⟩
  go_wp2_with fail
  refine (short06 100 100 2 2 (by decide) (some ⟨w1.heap.size, 0, none⟩) [xs, ys] _ (mat_two (hx.bel hb1) (hy.bel hb1)) (fun i => by match i with | 0 => (show xs.length ≤ _; have := hx.len; omega) | 1 => (show ys.length ≤ _; have := hy.len; omega) | i + 2 => rw [rAt_ge (by simp)]; exact Nat.zero_le _)).mono ?_
  rintro e w' ⟨rfl, rfl⟩
  have hb2 : Below w1.heap.size w1 (w1.alloc (.cells #[.slice A n c, .slice B m d] 22)) := (Below.refl _ _).alloc (Nat.le_refl _) _
  generalize w1.alloc (.cells #[.slice A n c, .slice B m d] 22) = w2 at *
  cases hs : shortB 100 [xs, ys] with
  | false =>
    go_wp2_with fail
    go_ret
    exact ⟨rfl, below_tr hb1 hb2⟩
  | true =>
    have L0 : n ≤ 100 := by have := shortB_iff.1 hs 0 (by simp); rw [← hx.len]; exact this
    have L1 : m ≤ 100 := by have := shortB_iff.1 hs 1 (by simp); rw [← hy.len]; exact this
    clear hs hn hm
    cases hpr : isPrime p with
    | false =>
      go_wp2_with fail
      refine (pdiv_no _ _ _ _ _ _ _ _ lp up hpr).mono ?_
      rintro e w' ⟨rfl, rfl⟩
      go_wp2_with fail
      refine (qdiv_no _ _ _ _ _ _ _ _ lp up hpr).mono ?_
      rintro e w' ⟨rfl, rfl⟩
      go_wp2_with fail
      refine (pmonic_no _ _ _ _ _ lp up hpr).mono ?_
      rintro e w' ⟨rfl, rfl⟩
      go_wp2_with fail
      refine (qmonic_no _ _ _ _ _ lp up hpr).mono ?_
      rintro e w' ⟨rfl, rfl⟩
      go_wp2_with fail
      refine (pderiv_no _ _ _ _ _ lp up hpr).mono ?_
      rintro e w' ⟨rfl, rfl⟩
      go_wp2_with fail
      refine (qderiv_no _ _ _ _ _ lp up hpr).mono ?_
      rintro e w' ⟨rfl, rfl⟩
      go_wp2_with fail
      refine (peval_no _ _ _ _ _ _ lp up hpr).mono ?_
      rintro e w' ⟨rfl, rfl⟩
      go_wp2_with fail
      refine (qeval_no _ _ _ _ _ _ lp up hpr).mono ?_
      rintro e w' ⟨rfl, rfl⟩
      go_wp2_with fail
      refine (sameN _ _ _).mono ?_
      rintro e w3 ⟨rfl, hb3⟩
      go_wp2_with fail
      refine (sameN _ _ _).mono ?_
      rintro e w4 ⟨rfl, hb4⟩
      go_wp2_with fail
      refine (sameN _ _ _).mono ?_
      rintro e w5 ⟨rfl, hb5⟩
      go_wp2_with fail
      refine (sameN _ _ _).mono ?_
      rintro e w6 ⟨rfl, hb6⟩
      go_wp2_with fail
      go_ret
      exact ⟨rfl, (below_tr (below_tr (below_tr (below_tr (below_tr hb1 hb2) hb3) hb4) hb5) hb6)⟩
    | true =>
      have Hp := Lib.hid ((isPrime_iff p).1 hpr)
      clear hpr
      by_cases h0 : (toP ⟨p, Hp.out⟩ ys) = 0
      · have H0 := Lib.hid h0
        clear h0
        go_wp2_with fail
        refine (div0R (M := 100) (b := (toP ⟨p, Hp.out⟩ ys)) (hp := Hp.out) (Rd.of_list ((hy.bel hb1).bel hb2)) L1 (by decide) H0.out).mono ?_
        rintro e w3 ⟨rfl, hb3⟩
        go_wp2_with fail
        refine (qdiv0R (M := 100) (b := (toP ⟨p, Hp.out⟩ ys)) (hp := Hp.out) (Rd.of_list (((hy.bel hb1).bel hb2).bel hb3)) L1 (by decide) H0.out).mono ?_
        rintro e w4 ⟨rfl, hb4⟩
        go_wp2_with fail
        refine (monicR (N := 100) (a := (toP ⟨p, Hp.out⟩ xs)) (hp := Hp.out) (Rd.of_list ((((hx.bel hb1).bel hb2).bel hb3).bel hb4)) L0 (by decide)).mono ?_
        rintro e w5 ⟨A5, c5, rfl, l5, h5, hb5⟩
        go_wp2_with fail
        refine (qmonicR (N := 100) (a := (toP ⟨p, Hp.out⟩ xs)) (hp := Hp.out) (Rd.of_list (((((hx.bel hb1).bel hb2).bel hb3).bel hb4).bel hb5)) L0 (by decide)).mono ?_
        rintro e w6 ⟨A6, c6, rfl, l6, h6, hb6⟩
        go_wp2_with fail
        refine (derivR (N := 100) (a := (toP ⟨p, Hp.out⟩ xs)) (hp := Hp.out) (Rd.of_list ((((((hx.bel hb1).bel hb2).bel hb3).bel hb4).bel hb5).bel hb6)) L0 (by decide)).mono ?_
        rintro e w7 ⟨A7, c7, rfl, l7, h7, hb7⟩
        go_wp2_with fail
        refine (qderivR (N := 100) (a := (toP ⟨p, Hp.out⟩ xs)) (hp := Hp.out) (Rd.of_list (((((((hx.bel hb1).bel hb2).bel hb3).bel hb4).bel hb5).bel hb6).bel hb7)) L0 (by decide)).mono ?_
        rintro e w8 ⟨A8, c8, rfl, l8, h8, hb8⟩
        go_wp2_with fail
        refine (evalR (N := 100) (a := (toP ⟨p, Hp.out⟩ xs)) (hp := Hp.out) (Rd.of_list ((((((((hx.bel hb1).bel hb2).bel hb3).bel hb4).bel hb5).bel hb6).bel hb7).bel hb8)) x L0 (by decide) lx ux).mono ?_
        rintro e w9 ⟨rfl, hb9⟩
        go_wp2_with fail
        refine (qevalR (N := 100) (a := (toP ⟨p, Hp.out⟩ xs)) (hp := Hp.out) (Rd.of_list (((((((((hx.bel hb1).bel hb2).bel hb3).bel hb4).bel hb5).bel hb6).bel hb7).bel hb8).bel hb9)) x L0 (by decide) lx ux).mono ?_
        rintro e w10 ⟨rfl, hb10⟩
        go_wp2_with fail
        refine (sameN _ _ _).mono ?_
        rintro e w11 ⟨rfl, hb11⟩
        go_wp2_with fail
        refine (sameN _ _ _).mono ?_
        rintro e w12 ⟨rfl, hb12⟩
        go_wp2_with fail
        refine (sameR (N := 100) (M := 100) (hp := Hp.out) (a := (Poly.monic (toP ⟨p, Hp.out⟩ xs))) (b := (Poly.monic (toP ⟨p, Hp.out⟩ xs))) (((((((h5.bel hb6).bel hb7).bel hb8).bel hb9).bel hb10).bel hb11).bel hb12) ((((((h6.bel hb7).bel hb8).bel hb9).bel hb10).bel hb11).bel hb12) l5 l6 (by decide) (by decide) rfl).mono ?_
        rintro e w13 ⟨rfl, hb13⟩
        go_wp2_with fail
        refine (sameR (N := 100) (M := 100) (hp := Hp.out) (a := (Poly.D (toP ⟨p, Hp.out⟩ xs))) (b := (Poly.D (toP ⟨p, Hp.out⟩ xs))) ((((((h7.bel hb8).bel hb9).bel hb10).bel hb11).bel hb12).bel hb13) (((((h8.bel hb9).bel hb10).bel hb11).bel hb12).bel hb13) l7 l8 (by decide) (by decide) rfl).mono ?_
        rintro e w14 ⟨rfl, hb14⟩
        go_wp2_with fail
        go_ret
        exact ⟨rfl, (below_tr (below_tr (below_tr (below_tr (below_tr (below_tr (below_tr (below_tr (below_tr (below_tr (below_tr (below_tr (below_tr hb1 hb2) hb3) hb4) hb5) hb6) hb7) hb8) hb9) hb10) hb11) hb12) hb13) hb14)⟩
      · have H0 := Lib.hid h0
        clear h0
        go_wp2_with fail
        refine (divR (N := 100) (M := 100) (a := (toP ⟨p, Hp.out⟩ xs)) (b := (toP ⟨p, Hp.out⟩ ys)) (hp := Hp.out) (Rd.of_list ((hx.bel hb1).bel hb2)) (Rd.of_list ((hy.bel hb1).bel hb2)) L0 L1 (by decide) (by decide) H0.out).mono ?_
        rintro e w3 ⟨A3, c3, B3, d3, rfl, l3, m3, h3, g3, hb3⟩
        go_wp2_with fail
        refine (qdivR (N := 100) (M := 100) (a := (toP ⟨p, Hp.out⟩ xs)) (b := (toP ⟨p, Hp.out⟩ ys)) (hp := Hp.out) (Rd.of_list (((hx.bel hb1).bel hb2).bel hb3)) (Rd.of_list (((hy.bel hb1).bel hb2).bel hb3)) L0 L1 (by decide) (by decide) H0.out).mono ?_
        rintro e w4 ⟨A4, c4, B4, d4, rfl, l4, m4, h4, g4, hb4⟩
        go_wp2_with fail
        refine (monicR (N := 100) (a := (toP ⟨p, Hp.out⟩ xs)) (hp := Hp.out) (Rd.of_list ((((hx.bel hb1).bel hb2).bel hb3).bel hb4)) L0 (by decide)).mono ?_
        rintro e w5 ⟨A5, c5, rfl, l5, h5, hb5⟩
        go_wp2_with fail
        refine (qmonicR (N := 100) (a := (toP ⟨p, Hp.out⟩ xs)) (hp := Hp.out) (Rd.of_list (((((hx.bel hb1).bel hb2).bel hb3).bel hb4).bel hb5)) L0 (by decide)).mono ?_
        rintro e w6 ⟨A6, c6, rfl, l6, h6, hb6⟩
        go_wp2_with fail
        refine (derivR (N := 100) (a := (toP ⟨p, Hp.out⟩ xs)) (hp := Hp.out) (Rd.of_list ((((((hx.bel hb1).bel hb2).bel hb3).bel hb4).bel hb5).bel hb6)) L0 (by decide)).mono ?_
        rintro e w7 ⟨A7, c7, rfl, l7, h7, hb7⟩
        go_wp2_with fail
        refine (qderivR (N := 100) (a := (toP ⟨p, Hp.out⟩ xs)) (hp := Hp.out) (Rd.of_list (((((((hx.bel hb1).bel hb2).bel hb3).bel hb4).bel hb5).bel hb6).bel hb7)) L0 (by decide)).mono ?_
        rintro e w8 ⟨A8, c8, rfl, l8, h8, hb8⟩
        go_wp2_with fail
        refine (evalR (N := 100) (a := (toP ⟨p, Hp.out⟩ xs)) (hp := Hp.out) (Rd.of_list ((((((((hx.bel hb1).bel hb2).bel hb3).bel hb4).bel hb5).bel hb6).bel hb7).bel hb8)) x L0 (by decide) lx ux).mono ?_
        rintro e w9 ⟨rfl, hb9⟩
        go_wp2_with fail
        refine (qevalR (N := 100) (a := (toP ⟨p, Hp.out⟩ xs)) (hp := Hp.out) (Rd.of_list (((((((((hx.bel hb1).bel hb2).bel hb3).bel hb4).bel hb5).bel hb6).bel hb7).bel hb8).bel hb9)) x L0 (by decide) lx ux).mono ?_
        rintro e w10 ⟨rfl, hb10⟩
        go_wp2_with fail
        refine (sameR (N := 100) (M := 100) (hp := Hp.out) (a := (Poly.quo (toP ⟨p, Hp.out⟩ xs) (toP ⟨p, Hp.out⟩ ys))) (b := (Poly.quo (toP ⟨p, Hp.out⟩ xs) (toP ⟨p, Hp.out⟩ ys))) (((((((h3.bel hb4).bel hb5).bel hb6).bel hb7).bel hb8).bel hb9).bel hb10) ((((((h4.bel hb5).bel hb6).bel hb7).bel hb8).bel hb9).bel hb10) l3 l4 (by decide) (by decide) rfl).mono ?_
        rintro e w11 ⟨rfl, hb11⟩
        go_wp2_with fail
        refine (sameR (N := 100) (M := 100) (hp := Hp.out) (a := (Poly.rem (toP ⟨p, Hp.out⟩ xs) (toP ⟨p, Hp.out⟩ ys))) (b := (Poly.rem (toP ⟨p, Hp.out⟩ xs) (toP ⟨p, Hp.out⟩ ys))) ((((((((g3.bel hb4).bel hb5).bel hb6).bel hb7).bel hb8).bel hb9).bel hb10).bel hb11) (((((((g4.bel hb5).bel hb6).bel hb7).bel hb8).bel hb9).bel hb10).bel hb11) m3 m4 (by decide) (by decide) rfl).mono ?_
        rintro e w12 ⟨rfl, hb12⟩
        go_wp2_with fail
        refine (sameR (N := 100) (M := 100) (hp := Hp.out) (a := (Poly.monic (toP ⟨p, Hp.out⟩ xs))) (b := (Poly.monic (toP ⟨p, Hp.out⟩ xs))) (((((((h5.bel hb6).bel hb7).bel hb8).bel hb9).bel hb10).bel hb11).bel hb12) ((((((h6.bel hb7).bel hb8).bel hb9).bel hb10).bel hb11).bel hb12) l5 l6 (by decide) (by decide) rfl).mono ?_
        rintro e w13 ⟨rfl, hb13⟩
        go_wp2_with fail
        refine (sameR (N := 100) (M := 100) (hp := Hp.out) (a := (Poly.D (toP ⟨p, Hp.out⟩ xs))) (b := (Poly.D (toP ⟨p, Hp.out⟩ xs))) ((((((h7.bel hb8).bel hb9).bel hb10).bel hb11).bel hb12).bel hb13) (((((h8.bel hb9).bel hb10).bel hb11).bel hb12).bel hb13) l7 l8 (by decide) (by decide) rfl).mono ?_
        rintro e w14 ⟨rfl, hb14⟩
        go_wp2_with fail
        go_ret
        exact ⟨rfl, (below_tr (below_tr (below_tr (below_tr (below_tr (below_tr (below_tr (below_tr (below_tr (below_tr (below_tr (below_tr (below_tr hb1 hb2) hb3) hb4) hb5) hb6) hb7) hb8) hb9) hb10) hb11) hb12) hb13) hb14)⟩
end Go.Proofs.Yteddelfkjpljpaa
