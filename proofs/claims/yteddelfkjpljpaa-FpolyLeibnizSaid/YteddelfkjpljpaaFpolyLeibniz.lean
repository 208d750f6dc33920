/- FpolyLeibniz: the statement's walk (printed by gen/law6.py). -/
import Derived.Test.YteddelfkjpljpaaLaw6C
namespace Go.Proofs.Yteddelfkjpljpaa
open Go.RowKit Cl
attribute [local go_sem ↓] Go.wp_at_zero Go.wp_at_succ

set_option maxRecDepth 100000 in
set_option maxHeartbeats 8000000 in
theorem law_FpolyLeibniz (A : Option Addr) (n c : Nat) (xs : List Int) (B : Option Addr) (m d : Nat) (ys : List Int) (x p : Int) (w : World) (hx : Ints w A n xs) (hn : n * 8 ≤ 140737488351232) (hy : Ints w B m ys) (hm : m * 8 ≤ 140737488351232) (lx : -9223372036854775808 ≤ x) (ux : x ≤ 9223372036854775807) (lp : -9223372036854775808 ≤ p) (up : p ≤ 9223372036854775807) :
    Calls Try.prog 10 #[.slice A n c, .slice B m d, .int .i64 x, .int .i64 p] w fun e w' => e = .returned (.bool true) ∧ Below w.heap.size w w' := by
  go_enter Try.func10, Try.ntmps10
  go_wp2_with fail
  refine (awake06 _).mono ?_
  rintro e w1 ⟨rfl, hb1⟩
  go_wp2_with fail
  refine (short06 50 50 2 2 (by decide) (some ⟨w1.heap.size, 0, none⟩) [xs, ys] _ (mat_two (hx.bel hb1) (hy.bel hb1)) (fun i => by match i with | 0 => (show xs.length ≤ _; have := hx.len; omega) | 1 => (show ys.length ≤ _; have := hy.len; omega) | i + 2 => rw [rAt_ge (by simp)]; exact Nat.zero_le _)).mono ?_
  rintro e w' ⟨rfl, rfl⟩
  have hb2 : Below w1.heap.size w1 (w1.alloc (.cells #[.slice A n c, .slice B m d] 22)) := (Below.refl _ _).alloc (Nat.le_refl _) _
  generalize w1.alloc (.cells #[.slice A n c, .slice B m d] 22) = w2 at *
  cases hs : shortB 50 [xs, ys] with
  | false =>
    go_wp2_with fail
    go_ret
    exact ⟨rfl, below_tr hb1 hb2⟩
  | true =>
    have L0 : n ≤ 50 := by have := shortB_iff.1 hs 0 (by simp); rw [← hx.len]; exact this
    have L1 : m ≤ 50 := by have := shortB_iff.1 hs 1 (by simp); rw [← hy.len]; exact this
    clear hs hn hm
    cases hpr : isPrime p with
    | false =>
      go_wp2_with fail
      refine (chk_no _ _ lp up hpr).mono ?_
      rintro e w' ⟨rfl, rfl⟩
      go_wp2_with fail
      go_ret
      exact ⟨rfl, below_tr hb1 hb2⟩
    | true =>
      have Hp := Lib.hid ((isPrime_iff p).1 hpr)
      go_wp2_with fail
      refine (chk_yes _ _ lp up hpr).mono ?_
      rintro e w' ⟨rfl, rfl⟩
      clear hpr
      go_wp2_with fail
      refine (derivR (N := 50) (a := (toP ⟨p, Hp.out⟩ xs)) (hp := Hp.out) (Rd.of_list ((hx.bel hb1).bel hb2)) L0 (by decide)).mono ?_
      rintro e w3 ⟨A3, c3, rfl, l3, h3, hb3⟩
      go_wp2_with fail
      refine (derivR (N := 50) (a := (toP ⟨p, Hp.out⟩ ys)) (hp := Hp.out) (Rd.of_list (((hy.bel hb1).bel hb2).bel hb3)) L1 (by decide)).mono ?_
      rintro e w4 ⟨A4, c4, rfl, l4, h4, hb4⟩
      go_wp2_with fail
      refine (timesR (N := 50) (M := 50) (K := 100) (a := (toP ⟨p, Hp.out⟩ xs)) (b := (toP ⟨p, Hp.out⟩ ys)) (hp := Hp.out) (Rd.of_list ((((hx.bel hb1).bel hb2).bel hb3).bel hb4)) (Rd.of_list ((((hy.bel hb1).bel hb2).bel hb3).bel hb4)) L0 L1 (by decide) (by decide)).mono ?_
      rintro e w5 ⟨A5, c5, rfl, l5, h5, hb5⟩
      go_wp2_with fail
      refine (derivR (N := 100) (a := ((toP ⟨p, Hp.out⟩ xs) * (toP ⟨p, Hp.out⟩ ys))) (hp := Hp.out) (Rd.of h5) l5 (by decide)).mono ?_
      rintro e w6 ⟨A6, c6, rfl, l6, h6, hb6⟩
      go_wp2_with fail
      refine (evalR (N := 50) (a := (toP ⟨p, Hp.out⟩ xs)) (hp := Hp.out) (Rd.of_list ((((((hx.bel hb1).bel hb2).bel hb3).bel hb4).bel hb5).bel hb6)) x L0 (by decide) lx ux).mono ?_
      rintro e w7 ⟨rfl, hb7⟩
      go_wp2_with fail
      refine (evalR (N := 50) (a := (toP ⟨p, Hp.out⟩ ys)) (hp := Hp.out) (Rd.of_list (((((((hy.bel hb1).bel hb2).bel hb3).bel hb4).bel hb5).bel hb6).bel hb7)) x L1 (by decide) lx ux).mono ?_
      rintro e w8 ⟨rfl, hb8⟩
      go_wp2_with fail
      refine (sumR (N := 50) (M := 50) (K := 100) (a := (toP ⟨p, Hp.out⟩ xs)) (b := (toP ⟨p, Hp.out⟩ ys)) (hp := Hp.out) (Rd.of_list ((((((((hx.bel hb1).bel hb2).bel hb3).bel hb4).bel hb5).bel hb6).bel hb7).bel hb8)) (Rd.of_list ((((((((hy.bel hb1).bel hb2).bel hb3).bel hb4).bel hb5).bel hb6).bel hb7).bel hb8)) L0 L1 (by decide) (by decide)).mono ?_
      rintro e w9 ⟨A9, c9, rfl, l9, h9, hb9⟩
      go_wp2_with fail
      refine (evalR (N := 100) (a := ((toP ⟨p, Hp.out⟩ xs) + (toP ⟨p, Hp.out⟩ ys))) (hp := Hp.out) (Rd.of h9) x l9 (by decide) lx ux).mono ?_
      rintro e w10 ⟨rfl, hb10⟩
      go_wp2_with fail
      refine (timesR (N := 50) (M := 50) (K := 100) (a := (toP ⟨p, Hp.out⟩ xs)) (b := (toP ⟨p, Hp.out⟩ ys)) (hp := Hp.out) (Rd.of_list ((((((((((hx.bel hb1).bel hb2).bel hb3).bel hb4).bel hb5).bel hb6).bel hb7).bel hb8).bel hb9).bel hb10)) (Rd.of_list ((((((((((hy.bel hb1).bel hb2).bel hb3).bel hb4).bel hb5).bel hb6).bel hb7).bel hb8).bel hb9).bel hb10)) L0 L1 (by decide) (by decide)).mono ?_
      rintro e w11 ⟨A11, c11, rfl, l11, h11, hb11⟩
      go_wp2_with fail
      refine (evalR (N := 100) (a := ((toP ⟨p, Hp.out⟩ xs) * (toP ⟨p, Hp.out⟩ ys))) (hp := Hp.out) (Rd.of h11) x l11 (by decide) lx ux).mono ?_
      rintro e w12 ⟨rfl, hb12⟩
      have e1 := valR_add (hp := Hp.out) (toP ⟨p, Hp.out⟩ xs) (toP ⟨p, Hp.out⟩ ys) x
      have e2 := valR_mul (hp := Hp.out) (toP ⟨p, Hp.out⟩ xs) (toP ⟨p, Hp.out⟩ ys) x
      obtain ⟨b1, b2⟩ := valR_bd (hp := Hp.out) (toP ⟨p, Hp.out⟩ xs) x
      obtain ⟨b3, b4⟩ := valR_bd (hp := Hp.out) (toP ⟨p, Hp.out⟩ ys) x
      have hpm := Hp.out.max
      go_wp2_with fail
      refine (add_yes _ _ _ _ (by omega) (by omega) (by omega) (by omega) lp up ((isPrime_iff p).2 Hp.out)).mono ?_
      rintro e w' ⟨rfl, rfl⟩
      go_wp2_with fail
      refine (mul_yes _ _ _ _ (by omega) (by omega) (by omega) (by omega) lp up ((isPrime_iff p).2 Hp.out)).mono ?_
      rintro e w' ⟨rfl, rfl⟩
      go_wp2_with fail
      refine (timesR (N := 50) (M := 50) (K := 100) (a := (Poly.D (toP ⟨p, Hp.out⟩ xs))) (b := (toP ⟨p, Hp.out⟩ ys)) (hp := Hp.out) (Rd.of (((((((((h3.bel hb4).bel hb5).bel hb6).bel hb7).bel hb8).bel hb9).bel hb10).bel hb11).bel hb12)) (Rd.of_list ((((((((((((hy.bel hb1).bel hb2).bel hb3).bel hb4).bel hb5).bel hb6).bel hb7).bel hb8).bel hb9).bel hb10).bel hb11).bel hb12)) l3 L1 (by decide) (by decide)).mono ?_
      rintro e w13 ⟨A13, c13, rfl, l13, h13, hb13⟩
      go_wp2_with fail
      refine (timesR (N := 50) (M := 50) (K := 100) (a := (toP ⟨p, Hp.out⟩ xs)) (b := (Poly.D (toP ⟨p, Hp.out⟩ ys))) (hp := Hp.out) (Rd.of_list (((((((((((((hx.bel hb1).bel hb2).bel hb3).bel hb4).bel hb5).bel hb6).bel hb7).bel hb8).bel hb9).bel hb10).bel hb11).bel hb12).bel hb13)) (Rd.of (((((((((h4.bel hb5).bel hb6).bel hb7).bel hb8).bel hb9).bel hb10).bel hb11).bel hb12).bel hb13)) L0 l4 (by decide) (by decide)).mono ?_
      rintro e w14 ⟨A14, c14, rfl, l14, h14, hb14⟩
      go_wp2_with fail
      refine (sumR (N := 100) (M := 100) (K := 200) (a := ((Poly.D (toP ⟨p, Hp.out⟩ xs)) * (toP ⟨p, Hp.out⟩ ys))) (b := ((toP ⟨p, Hp.out⟩ xs) * (Poly.D (toP ⟨p, Hp.out⟩ ys)))) (hp := Hp.out) (Rd.of (h13.bel hb14)) (Rd.of h14) l13 l14 (by decide) (by decide)).mono ?_
      rintro e w15 ⟨A15, c15, rfl, l15, h15, hb15⟩
      go_wp2_with fail
      refine (sameR (N := 100) (M := 200) (hp := Hp.out) (a := (Poly.D ((toP ⟨p, Hp.out⟩ xs) * (toP ⟨p, Hp.out⟩ ys)))) (b := (((Poly.D (toP ⟨p, Hp.out⟩ xs)) * (toP ⟨p, Hp.out⟩ ys)) + ((toP ⟨p, Hp.out⟩ xs) * (Poly.D (toP ⟨p, Hp.out⟩ ys))))) (((((((((h6.bel hb7).bel hb8).bel hb9).bel hb10).bel hb11).bel hb12).bel hb13).bel hb14).bel hb15) h15 l6 l15 (by decide) (by decide) (Poly.D_mul _ _)).mono ?_
      rintro e w16 ⟨rfl, hb16⟩
      go_wp2_with fail
      go_ret
      exact ⟨rfl, (below_tr (below_tr (below_tr (below_tr (below_tr (below_tr (below_tr (below_tr (below_tr (below_tr (below_tr (below_tr (below_tr (below_tr (below_tr hb1 hb2) hb3) hb4) hb5) hb6) hb7) hb8) hb9) hb10) hb11) hb12) hb13) hb14) hb15) hb16)⟩
end Go.Proofs.Yteddelfkjpljpaa
