/- FpolyRest: the statement's walk (printed by gen/law6.py). -/
import Derived.Test.YteddelfkjpljpaaLaw6C
namespace Go.Proofs.Yteddelfkjpljpaa
open Go.RowKit Cl
attribute [local go_sem ↓] Go.wp_at_zero Go.wp_at_succ

set_option maxRecDepth 100000 in
set_option maxHeartbeats 8000000 in
theorem law_FpolyRest (A : Option Addr) (n c : Nat) (xs : List Int) (B : Option Addr) (m d : Nat) (ys : List Int) (p : Int) (w : World) (hx : Ints w A n xs) (hn : n * 8 ≤ 140737488351232) (hy : Ints w B m ys) (hm : m * 8 ≤ 140737488351232) (lp : -9223372036854775808 ≤ p) (up : p ≤ 9223372036854775807) :
    Calls Try.prog 4 #[.slice A n c, .slice B m d, .int .i64 p] w fun e w' => e = .returned (.bool true) ∧ Below w.heap.size w w' := by
  go_enter Try.func4, Try.ntmps4
  go_wp2_with fail
  refine (awake06 _).mono ?_
  rintro e w1 ⟨rfl, hb1⟩
  go_wp2_with fail
  refine (short06 60 60 2 2 (by decide) (some ⟨w1.heap.size, 0, none⟩) [xs, ys] _ (mat_two (hx.bel hb1) (hy.bel hb1)) (fun i => by match i with | 0 => (show xs.length ≤ _; have := hx.len; omega) | 1 => (show ys.length ≤ _; have := hy.len; omega) | i + 2 => rw [rAt_ge (by simp)]; exact Nat.zero_le _)).mono ?_
  rintro e w' ⟨rfl, rfl⟩
  have hb2 : Below w1.heap.size w1 (w1.alloc (.cells #[.slice A n c, .slice B m d] 22)) := (Below.refl _ _).alloc (Nat.le_refl _) _
  generalize w1.alloc (.cells #[.slice A n c, .slice B m d] 22) = w2 at *
  cases hs : shortB 60 [xs, ys] with
  | false =>
    go_wp2_with fail
    go_ret
    exact ⟨rfl, below_tr hb1 hb2⟩
  | true =>
    have L0 : n ≤ 60 := by have := shortB_iff.1 hs 0 (by simp); rw [← hx.len]; exact this
    have L1 : m ≤ 60 := by have := shortB_iff.1 hs 1 (by simp); rw [← hy.len]; exact this
    clear hs hn hm
    cases hpr : isPrime p with
    | false =>
      go_wp2_with fail
      refine (chk_no _ _ lp up hpr).mono ?_
      rintro e w' ⟨rfl, rfl⟩
      go_wp2_with fail
      go_ret
      exact ⟨rfl, below_tr hb1 hb2⟩
    | true =>
      have Hp := Lib.hid ((isPrime_iff p).1 hpr)
      go_wp2_with fail
      refine (chk_yes _ _ lp up hpr).mono ?_
      rintro e w' ⟨rfl, rfl⟩
      clear hpr
      go_wp2_with fail
      refine (normR (N := 60) (a := (toP ⟨p, Hp.out⟩ xs)) (hp := Hp.out) (Rd.of_list ((hx.bel hb1).bel hb2)) L0 (by decide)).mono ?_
      rintro e w3 ⟨A3, c3, rfl, l3, h3, hb3⟩
      go_wp2_with fail
      refine (normR (N := 60) (a := (toP ⟨p, Hp.out⟩ ys)) (hp := Hp.out) (Rd.of_list (((hy.bel hb1).bel hb2).bel hb3)) L1 (by decide)).mono ?_
      rintro e w4 ⟨A4, c4, rfl, l4, h4, hb4⟩
      by_cases h0 : (toP ⟨p, Hp.out⟩ ys) = 0
      · have g0 : ((Poly.len (toP ⟨p, Hp.out⟩ ys) : Int) == 0) = true := by rw [h0, Poly.len_zero]; rfl
        have H0 := Lib.hid h0
        clear h0
        go_wp2_with fail
        refine (div0R (M := 60) (b := (toP ⟨p, Hp.out⟩ ys)) (hp := Hp.out) (Rd.of_list ((((hy.bel hb1).bel hb2).bel hb3).bel hb4)) L1 (by decide) H0.out).mono ?_
        rintro e w5 ⟨rfl, hb5⟩
        go_wp2_with fail
        go_ret
        exact ⟨rfl, (below_tr (below_tr (below_tr (below_tr hb1 hb2) hb3) hb4) hb5)⟩
      · have g0 : ((Poly.len (toP ⟨p, Hp.out⟩ ys) : Int) == 0) = false := beq_eq_false_iff_ne.2 (by have := Poly.len_pos h0; omega)
        have g1 : ((Poly.len (Poly.rem ((toP ⟨p, Hp.out⟩ xs) * (toP ⟨p, Hp.out⟩ ys)) (toP ⟨p, Hp.out⟩ ys)) : Int) == 0) = true := by rw [(Poly.quo_of_mul h0 (toP ⟨p, Hp.out⟩ xs)).2, Poly.len_zero]; rfl
        have g2 : (Poly.len (Poly.rem (toP ⟨p, Hp.out⟩ xs) (toP ⟨p, Hp.out⟩ ys)) : Int) < (Poly.len (toP ⟨p, Hp.out⟩ ys) : Int) := by have := Cl.rem_len' (toP ⟨p, Hp.out⟩ xs) h0; omega
        go_wp2_with fail
        refine (divR (N := 60) (M := 60) (a := (toP ⟨p, Hp.out⟩ xs)) (b := (toP ⟨p, Hp.out⟩ ys)) (hp := Hp.out) (Rd.of_list ((((hx.bel hb1).bel hb2).bel hb3).bel hb4)) (Rd.of_list ((((hy.bel hb1).bel hb2).bel hb3).bel hb4)) L0 L1 (by decide) (by decide) h0).mono ?_
        rintro e w5 ⟨A5, c5, B5, d5, rfl, l5, m5, h5, g5, hb5⟩
        go_wp2_with fail
        refine (timesR (N := 60) (M := 60) (K := 120) (a := (toP ⟨p, Hp.out⟩ xs)) (b := (toP ⟨p, Hp.out⟩ ys)) (hp := Hp.out) (Rd.of_list (((((hx.bel hb1).bel hb2).bel hb3).bel hb4).bel hb5)) (Rd.of_list (((((hy.bel hb1).bel hb2).bel hb3).bel hb4).bel hb5)) L0 L1 (by decide) (by decide)).mono ?_
        rintro e w6 ⟨A6, c6, rfl, l6, h6, hb6⟩
        go_wp2_with fail
        refine (divR (N := 120) (M := 60) (a := ((toP ⟨p, Hp.out⟩ xs) * (toP ⟨p, Hp.out⟩ ys))) (b := (toP ⟨p, Hp.out⟩ ys)) (hp := Hp.out) (Rd.of h6) (Rd.of_list ((((((hy.bel hb1).bel hb2).bel hb3).bel hb4).bel hb5).bel hb6)) l6 L1 (by decide) (by decide) h0).mono ?_
        rintro e w7 ⟨A7, c7, B7, d7, rfl, l7, m7, h7, g7, hb7⟩
        go_wp2_with fail
        refine (timesR (N := 60) (M := 60) (K := 120) (a := (Poly.quo (toP ⟨p, Hp.out⟩ xs) (toP ⟨p, Hp.out⟩ ys))) (b := (toP ⟨p, Hp.out⟩ ys)) (hp := Hp.out) (Rd.of ((h5.bel hb6).bel hb7)) (Rd.of_list (((((((hy.bel hb1).bel hb2).bel hb3).bel hb4).bel hb5).bel hb6).bel hb7)) l5 L1 (by decide) (by decide)).mono ?_
        rintro e w8 ⟨A8, c8, rfl, l8, h8, hb8⟩
        go_wp2_with fail
        refine (sumR (N := 120) (M := 60) (K := 180) (a := ((Poly.quo (toP ⟨p, Hp.out⟩ xs) (toP ⟨p, Hp.out⟩ ys)) * (toP ⟨p, Hp.out⟩ ys))) (b := (Poly.rem (toP ⟨p, Hp.out⟩ xs) (toP ⟨p, Hp.out⟩ ys))) (hp := Hp.out) (Rd.of h8) (Rd.of (((g5.bel hb6).bel hb7).bel hb8)) l8 m5 (by decide) (by decide)).mono ?_
        rintro e w9 ⟨A9, c9, rfl, l9, h9, hb9⟩
        go_wp2_with fail
        refine (sameR (N := 180) (M := 60) (hp := Hp.out) (a := (((Poly.quo (toP ⟨p, Hp.out⟩ xs) (toP ⟨p, Hp.out⟩ ys)) * (toP ⟨p, Hp.out⟩ ys)) + (Poly.rem (toP ⟨p, Hp.out⟩ xs) (toP ⟨p, Hp.out⟩ ys)))) (b := (toP ⟨p, Hp.out⟩ xs)) h9 ((((((h3.bel hb4).bel hb5).bel hb6).bel hb7).bel hb8).bel hb9) l9 l3 (by decide) (by decide) (Poly.div_spec _ h0).1.symm).mono ?_
        rintro e w10 ⟨rfl, hb10⟩
        go_wp2_with fail
        refine (sameR (N := 120) (M := 60) (hp := Hp.out) (a := (Poly.quo ((toP ⟨p, Hp.out⟩ xs) * (toP ⟨p, Hp.out⟩ ys)) (toP ⟨p, Hp.out⟩ ys))) (b := (toP ⟨p, Hp.out⟩ xs)) (((h7.bel hb8).bel hb9).bel hb10) (((((((h3.bel hb4).bel hb5).bel hb6).bel hb7).bel hb8).bel hb9).bel hb10) l7 l3 (by decide) (by decide) (Poly.quo_of_mul h0 _).1).mono ?_
        rintro e w11 ⟨rfl, hb11⟩
        go_wp2_with fail
        go_ret
        exact ⟨rfl, (below_tr (below_tr (below_tr (below_tr (below_tr (below_tr (below_tr (below_tr (below_tr (below_tr hb1 hb2) hb3) hb4) hb5) hb6) hb7) hb8) hb9) hb10) hb11)⟩
end Go.Proofs.Yteddelfkjpljpaa
