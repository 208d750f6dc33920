/- FpolyRing: the statement's walk (printed by gen/law6.py). -/
import Derived.Test.YteddelfkjpljpaaLaw6B
namespace Go.Proofs.Yteddelfkjpljpaa
open Go.RowKit Cl
attribute [local go_sem ↓] Go.wp_at_zero Go.wp_at_succ

set_option maxRecDepth 100000 in
set_option maxHeartbeats 8000000 in
theorem law_FpolyRing (A : Option Addr) (n c : Nat) (xs : List Int) (B : Option Addr) (m d : Nat) (ys : List Int) (C : Option Addr) (k r : Nat) (zs : List Int) (p : Int) (w : World) (hx : Ints w A n xs) (hn : n * 8 ≤ 140737488351232) (hy : Ints w B m ys) (hm : m * 8 ≤ 140737488351232) (hz : Ints w C k zs) (hk : k * 8 ≤ 140737488351232) (lp : -9223372036854775808 ≤ p) (up : p ≤ 9223372036854775807) :
    Calls Try.prog 7 #[.slice A n c, .slice B m d, .slice C k r, .int .i64 p] w fun e w' => e = .returned (.bool true) ∧ Below w.heap.size w w' := by
  go_enter Try.func7, Try.ntmps7
  go_wp2_with fail
  refine (awake06 _).mono ?_
  rintro e w1 ⟨rfl, hb1⟩
  go_wp2_with fail
  refine (short06 40 40 3 3 (by decide) (some ⟨w1.heap.size, 0, none⟩) [xs, ys, zs] _ (mat_three (hx.bel hb1) (hy.bel hb1) (hz.bel hb1)) (fun i => by match i with | 0 => (show xs.length ≤ _; have := hx.len; omega) | 1 => (show ys.length ≤ _; have := hy.len; omega) | 2 => (show zs.length ≤ _; have := hz.len; omega) | i + 3 => rw [rAt_ge (by simp)]; exact Nat.zero_le _)).mono ?_
  rintro e w' ⟨rfl, rfl⟩
  have hb2 : Below w1.heap.size w1 (w1.alloc (.cells #[.slice A n c, .slice B m d, .slice C k r] 22)) := (Below.refl _ _).alloc (Nat.le_refl _) _
  generalize w1.alloc (.cells #[.slice A n c, .slice B m d, .slice C k r] 22) = w2 at *
  cases hs : shortB 40 [xs, ys, zs] with
  | false =>
    go_wp2_with fail
    go_ret
    exact ⟨rfl, below_tr hb1 hb2⟩
  | true =>
    have L0 : n ≤ 40 := by have := shortB_iff.1 hs 0 (by simp); rw [← hx.len]; exact this
    have L1 : m ≤ 40 := by have := shortB_iff.1 hs 1 (by simp); rw [← hy.len]; exact this
    have L2 : k ≤ 40 := by have := shortB_iff.1 hs 2 (by simp); rw [← hz.len]; exact this
    clear hs hn hm hk
    cases hpr : isPrime p with
    | false =>
      go_wp2_with fail
      refine (chk_no _ _ lp up hpr).mono ?_
      rintro e w' ⟨rfl, rfl⟩
      go_wp2_with fail
      go_ret
      exact ⟨rfl, below_tr hb1 hb2⟩
    | true =>
      have Hp := Lib.hid ((isPrime_iff p).1 hpr)
      go_wp2_with fail
      refine (chk_yes _ _ lp up hpr).mono ?_
      rintro e w' ⟨rfl, rfl⟩
      clear hpr
      go_wp2_with fail
      refine (normR (N := 40) (a := (toP ⟨p, Hp.out⟩ xs)) (hp := Hp.out) (Rd.of_list ((hx.bel hb1).bel hb2)) L0 (by decide)).mono ?_
      rintro e w3 ⟨A3, c3, rfl, l3, h3, hb3⟩
      go_wp2_with fail
      refine (normR (N := 40) (a := (toP ⟨p, Hp.out⟩ ys)) (hp := Hp.out) (Rd.of_list (((hy.bel hb1).bel hb2).bel hb3)) L1 (by decide)).mono ?_
      rintro e w4 ⟨A4, c4, rfl, l4, h4, hb4⟩
      go_wp2_with fail
      refine (timesR (N := 40) (M := 40) (K := 80) (a := (toP ⟨p, Hp.out⟩ xs)) (b := (toP ⟨p, Hp.out⟩ ys)) (hp := Hp.out) (Rd.of_list ((((hx.bel hb1).bel hb2).bel hb3).bel hb4)) (Rd.of_list ((((hy.bel hb1).bel hb2).bel hb3).bel hb4)) L0 L1 (by decide) (by decide)).mono ?_
      rintro e w5 ⟨A5, c5, rfl, l5, h5, hb5⟩
      go_wp2_with fail
      refine (sumR (N := 40) (M := 40) (K := 80) (a := (toP ⟨p, Hp.out⟩ xs)) (b := (toP ⟨p, Hp.out⟩ ys)) (hp := Hp.out) (Rd.of_list (((((hx.bel hb1).bel hb2).bel hb3).bel hb4).bel hb5)) (Rd.of_list (((((hy.bel hb1).bel hb2).bel hb3).bel hb4).bel hb5)) L0 L1 (by decide) (by decide)).mono ?_
      rintro e w6 ⟨A6, c6, rfl, l6, h6, hb6⟩
      go_wp2_with fail
      refine (subR (N := 80) (M := 40) (K := 120) (a := ((toP ⟨p, Hp.out⟩ xs) + (toP ⟨p, Hp.out⟩ ys))) (b := (toP ⟨p, Hp.out⟩ ys)) (hp := Hp.out) (Rd.of h6) (Rd.of_list ((((((hy.bel hb1).bel hb2).bel hb3).bel hb4).bel hb5).bel hb6)) l6 L1 (by decide) (by decide)).mono ?_
      rintro e w7 ⟨A7, c7, rfl, l7, h7, hb7⟩
      rcases deg_cases (toP ⟨p, Hp.out⟩ xs) (toP ⟨p, Hp.out⟩ ys) with ⟨g1, g2, g3⟩ | ⟨g1, g2, g3⟩ | ⟨g1, g2, g3⟩
      all_goals
        go_wp2_with fail
        refine (sumR (N := 40) (M := 40) (K := 80) (a := (toP ⟨p, Hp.out⟩ xs)) (b := (toP ⟨p, Hp.out⟩ ys)) (hp := Hp.out) (Rd.of_list (((((((hx.bel hb1).bel hb2).bel hb3).bel hb4).bel hb5).bel hb6).bel hb7)) (Rd.of_list (((((((hy.bel hb1).bel hb2).bel hb3).bel hb4).bel hb5).bel hb6).bel hb7)) L0 L1 (by decide) (by decide)).mono ?_
        rintro e w8 ⟨A8, c8, rfl, l8, h8, hb8⟩
        go_wp2_with fail
        refine (sumR (N := 40) (M := 40) (K := 80) (a := (toP ⟨p, Hp.out⟩ ys)) (b := (toP ⟨p, Hp.out⟩ xs)) (hp := Hp.out) (Rd.of_list ((((((((hy.bel hb1).bel hb2).bel hb3).bel hb4).bel hb5).bel hb6).bel hb7).bel hb8)) (Rd.of_list ((((((((hx.bel hb1).bel hb2).bel hb3).bel hb4).bel hb5).bel hb6).bel hb7).bel hb8)) L1 L0 (by decide) (by decide)).mono ?_
        rintro e w9 ⟨A9, c9, rfl, l9, h9, hb9⟩
        go_wp2_with fail
        refine (sameR (N := 80) (M := 80) (hp := Hp.out) (a := ((toP ⟨p, Hp.out⟩ xs) + (toP ⟨p, Hp.out⟩ ys))) (b := ((toP ⟨p, Hp.out⟩ ys) + (toP ⟨p, Hp.out⟩ xs))) (h8.bel hb9) h9 l8 l9 (by decide) (by decide) (CRing.add_comm _ _)).mono ?_
        rintro e w10 ⟨rfl, hb10⟩
        go_wp2_with fail
        refine (timesR (N := 40) (M := 40) (K := 80) (a := (toP ⟨p, Hp.out⟩ ys)) (b := (toP ⟨p, Hp.out⟩ xs)) (hp := Hp.out) (Rd.of_list ((((((((((hy.bel hb1).bel hb2).bel hb3).bel hb4).bel hb5).bel hb6).bel hb7).bel hb8).bel hb9).bel hb10)) (Rd.of_list ((((((((((hx.bel hb1).bel hb2).bel hb3).bel hb4).bel hb5).bel hb6).bel hb7).bel hb8).bel hb9).bel hb10)) L1 L0 (by decide) (by decide)).mono ?_
        rintro e w11 ⟨A11, c11, rfl, l11, h11, hb11⟩
        go_wp2_with fail
        refine (sameR (N := 80) (M := 80) (hp := Hp.out) (a := ((toP ⟨p, Hp.out⟩ xs) * (toP ⟨p, Hp.out⟩ ys))) (b := ((toP ⟨p, Hp.out⟩ ys) * (toP ⟨p, Hp.out⟩ xs))) ((((((h5.bel hb6).bel hb7).bel hb8).bel hb9).bel hb10).bel hb11) h11 l5 l11 (by decide) (by decide) (CRing.mul_comm _ _)).mono ?_
        rintro e w12 ⟨rfl, hb12⟩
        go_wp2_with fail
        refine (sumR (N := 40) (M := 40) (K := 80) (a := (toP ⟨p, Hp.out⟩ xs)) (b := (toP ⟨p, Hp.out⟩ ys)) (hp := Hp.out) (Rd.of_list ((((((((((((hx.bel hb1).bel hb2).bel hb3).bel hb4).bel hb5).bel hb6).bel hb7).bel hb8).bel hb9).bel hb10).bel hb11).bel hb12)) (Rd.of_list ((((((((((((hy.bel hb1).bel hb2).bel hb3).bel hb4).bel hb5).bel hb6).bel hb7).bel hb8).bel hb9).bel hb10).bel hb11).bel hb12)) L0 L1 (by decide) (by decide)).mono ?_
        rintro e w13 ⟨A13, c13, rfl, l13, h13, hb13⟩
        go_wp2_with fail
        refine (sumR (N := 80) (M := 40) (K := 120) (a := ((toP ⟨p, Hp.out⟩ xs) + (toP ⟨p, Hp.out⟩ ys))) (b := (toP ⟨p, Hp.out⟩ zs)) (hp := Hp.out) (Rd.of h13) (Rd.of_list (((((((((((((hz.bel hb1).bel hb2).bel hb3).bel hb4).bel hb5).bel hb6).bel hb7).bel hb8).bel hb9).bel hb10).bel hb11).bel hb12).bel hb13)) l13 L2 (by decide) (by decide)).mono ?_
        rintro e w14 ⟨A14, c14, rfl, l14, h14, hb14⟩
        go_wp2_with fail
        refine (sumR (N := 40) (M := 40) (K := 80) (a := (toP ⟨p, Hp.out⟩ ys)) (b := (toP ⟨p, Hp.out⟩ zs)) (hp := Hp.out) (Rd.of_list ((((((((((((((hy.bel hb1).bel hb2).bel hb3).bel hb4).bel hb5).bel hb6).bel hb7).bel hb8).bel hb9).bel hb10).bel hb11).bel hb12).bel hb13).bel hb14)) (Rd.of_list ((((((((((((((hz.bel hb1).bel hb2).bel hb3).bel hb4).bel hb5).bel hb6).bel hb7).bel hb8).bel hb9).bel hb10).bel hb11).bel hb12).bel hb13).bel hb14)) L1 L2 (by decide) (by decide)).mono ?_
        rintro e w15 ⟨A15, c15, rfl, l15, h15, hb15⟩
        go_wp2_with fail
        refine (sumR (N := 40) (M := 80) (K := 120) (a := (toP ⟨p, Hp.out⟩ xs)) (b := ((toP ⟨p, Hp.out⟩ ys) + (toP ⟨p, Hp.out⟩ zs))) (hp := Hp.out) (Rd.of_list (((((((((((((((hx.bel hb1).bel hb2).bel hb3).bel hb4).bel hb5).bel hb6).bel hb7).bel hb8).bel hb9).bel hb10).bel hb11).bel hb12).bel hb13).bel hb14).bel hb15)) (Rd.of h15) L0 l15 (by decide) (by decide)).mono ?_
        rintro e w16 ⟨A16, c16, rfl, l16, h16, hb16⟩
        go_wp2_with fail
        refine (sameR (N := 120) (M := 120) (hp := Hp.out) (a := (((toP ⟨p, Hp.out⟩ xs) + (toP ⟨p, Hp.out⟩ ys)) + (toP ⟨p, Hp.out⟩ zs))) (b := ((toP ⟨p, Hp.out⟩ xs) + ((toP ⟨p, Hp.out⟩ ys) + (toP ⟨p, Hp.out⟩ zs)))) ((h14.bel hb15).bel hb16) h16 l14 l16 (by decide) (by decide) (CRing.add_assoc _ _ _)).mono ?_
        rintro e w17 ⟨rfl, hb17⟩
        go_wp2_with fail
        refine (timesR (N := 80) (M := 40) (K := 120) (a := ((toP ⟨p, Hp.out⟩ xs) * (toP ⟨p, Hp.out⟩ ys))) (b := (toP ⟨p, Hp.out⟩ zs)) (hp := Hp.out) (Rd.of ((((((((((((h5.bel hb6).bel hb7).bel hb8).bel hb9).bel hb10).bel hb11).bel hb12).bel hb13).bel hb14).bel hb15).bel hb16).bel hb17)) (Rd.of_list (((((((((((((((((hz.bel hb1).bel hb2).bel hb3).bel hb4).bel hb5).bel hb6).bel hb7).bel hb8).bel hb9).bel hb10).bel hb11).bel hb12).bel hb13).bel hb14).bel hb15).bel hb16).bel hb17)) l5 L2 (by decide) (by decide)).mono ?_
        rintro e w18 ⟨A18, c18, rfl, l18, h18, hb18⟩
        go_wp2_with fail
        refine (timesR (N := 40) (M := 40) (K := 80) (a := (toP ⟨p, Hp.out⟩ ys)) (b := (toP ⟨p, Hp.out⟩ zs)) (hp := Hp.out) (Rd.of_list ((((((((((((((((((hy.bel hb1).bel hb2).bel hb3).bel hb4).bel hb5).bel hb6).bel hb7).bel hb8).bel hb9).bel hb10).bel hb11).bel hb12).bel hb13).bel hb14).bel hb15).bel hb16).bel hb17).bel hb18)) (Rd.of_list ((((((((((((((((((hz.bel hb1).bel hb2).bel hb3).bel hb4).bel hb5).bel hb6).bel hb7).bel hb8).bel hb9).bel hb10).bel hb11).bel hb12).bel hb13).bel hb14).bel hb15).bel hb16).bel hb17).bel hb18)) L1 L2 (by decide) (by decide)).mono ?_
        rintro e w19 ⟨A19, c19, rfl, l19, h19, hb19⟩
        go_wp2_with fail
        refine (timesR (N := 40) (M := 80) (K := 120) (a := (toP ⟨p, Hp.out⟩ xs)) (b := ((toP ⟨p, Hp.out⟩ ys) * (toP ⟨p, Hp.out⟩ zs))) (hp := Hp.out) (Rd.of_list (((((((((((((((((((hx.bel hb1).bel hb2).bel hb3).bel hb4).bel hb5).bel hb6).bel hb7).bel hb8).bel hb9).bel hb10).bel hb11).bel hb12).bel hb13).bel hb14).bel hb15).bel hb16).bel hb17).bel hb18).bel hb19)) (Rd.of h19) L0 l19 (by decide) (by decide)).mono ?_
        rintro e w20 ⟨A20, c20, rfl, l20, h20, hb20⟩
        go_wp2_with fail
        refine (sameR (N := 120) (M := 120) (hp := Hp.out) (a := (((toP ⟨p, Hp.out⟩ xs) * (toP ⟨p, Hp.out⟩ ys)) * (toP ⟨p, Hp.out⟩ zs))) (b := ((toP ⟨p, Hp.out⟩ xs) * ((toP ⟨p, Hp.out⟩ ys) * (toP ⟨p, Hp.out⟩ zs)))) ((h18.bel hb19).bel hb20) h20 l18 l20 (by decide) (by decide) (CRing.mul_assoc _ _ _)).mono ?_
        rintro e w21 ⟨rfl, hb21⟩
        go_wp2_with fail
        refine (sumR (N := 40) (M := 40) (K := 80) (a := (toP ⟨p, Hp.out⟩ ys)) (b := (toP ⟨p, Hp.out⟩ zs)) (hp := Hp.out) (Rd.of_list (((((((((((((((((((((hy.bel hb1).bel hb2).bel hb3).bel hb4).bel hb5).bel hb6).bel hb7).bel hb8).bel hb9).bel hb10).bel hb11).bel hb12).bel hb13).bel hb14).bel hb15).bel hb16).bel hb17).bel hb18).bel hb19).bel hb20).bel hb21)) (Rd.of_list (((((((((((((((((((((hz.bel hb1).bel hb2).bel hb3).bel hb4).bel hb5).bel hb6).bel hb7).bel hb8).bel hb9).bel hb10).bel hb11).bel hb12).bel hb13).bel hb14).bel hb15).bel hb16).bel hb17).bel hb18).bel hb19).bel hb20).bel hb21)) L1 L2 (by decide) (by decide)).mono ?_
        rintro e w22 ⟨A22, c22, rfl, l22, h22, hb22⟩
        go_wp2_with fail
        refine (timesR (N := 40) (M := 80) (K := 120) (a := (toP ⟨p, Hp.out⟩ xs)) (b := ((toP ⟨p, Hp.out⟩ ys) + (toP ⟨p, Hp.out⟩ zs))) (hp := Hp.out) (Rd.of_list ((((((((((((((((((((((hx.bel hb1).bel hb2).bel hb3).bel hb4).bel hb5).bel hb6).bel hb7).bel hb8).bel hb9).bel hb10).bel hb11).bel hb12).bel hb13).bel hb14).bel hb15).bel hb16).bel hb17).bel hb18).bel hb19).bel hb20).bel hb21).bel hb22)) (Rd.of h22) L0 l22 (by decide) (by decide)).mono ?_
        rintro e w23 ⟨A23, c23, rfl, l23, h23, hb23⟩
        go_wp2_with fail
        refine (timesR (N := 40) (M := 40) (K := 80) (a := (toP ⟨p, Hp.out⟩ xs)) (b := (toP ⟨p, Hp.out⟩ zs)) (hp := Hp.out) (Rd.of_list (((((((((((((((((((((((hx.bel hb1).bel hb2).bel hb3).bel hb4).bel hb5).bel hb6).bel hb7).bel hb8).bel hb9).bel hb10).bel hb11).bel hb12).bel hb13).bel hb14).bel hb15).bel hb16).bel hb17).bel hb18).bel hb19).bel hb20).bel hb21).bel hb22).bel hb23)) (Rd.of_list (((((((((((((((((((((((hz.bel hb1).bel hb2).bel hb3).bel hb4).bel hb5).bel hb6).bel hb7).bel hb8).bel hb9).bel hb10).bel hb11).bel hb12).bel hb13).bel hb14).bel hb15).bel hb16).bel hb17).bel hb18).bel hb19).bel hb20).bel hb21).bel hb22).bel hb23)) L0 L2 (by decide) (by decide)).mono ?_
        rintro e w24 ⟨A24, c24, rfl, l24, h24, hb24⟩
        go_wp2_with fail
        refine (sumR (N := 80) (M := 80) (K := 160) (a := ((toP ⟨p, Hp.out⟩ xs) * (toP ⟨p, Hp.out⟩ ys))) (b := ((toP ⟨p, Hp.out⟩ xs) * (toP ⟨p, Hp.out⟩ zs))) (hp := Hp.out) (Rd.of (((((((((((((((((((h5.bel hb6).bel hb7).bel hb8).bel hb9).bel hb10).bel hb11).bel hb12).bel hb13).bel hb14).bel hb15).bel hb16).bel hb17).bel hb18).bel hb19).bel hb20).bel hb21).bel hb22).bel hb23).bel hb24)) (Rd.of h24) l5 l24 (by decide) (by decide)).mono ?_
        rintro e w25 ⟨A25, c25, rfl, l25, h25, hb25⟩
        go_wp2_with fail
        refine (sameR (N := 120) (M := 160) (hp := Hp.out) (a := ((toP ⟨p, Hp.out⟩ xs) * ((toP ⟨p, Hp.out⟩ ys) + (toP ⟨p, Hp.out⟩ zs)))) (b := (((toP ⟨p, Hp.out⟩ xs) * (toP ⟨p, Hp.out⟩ ys)) + ((toP ⟨p, Hp.out⟩ xs) * (toP ⟨p, Hp.out⟩ zs)))) ((h23.bel hb24).bel hb25) h25 l23 l25 (by decide) (by decide) (CRing.mul_add _ _ _)).mono ?_
        rintro e w26 ⟨rfl, hb26⟩
        go_wp2_with fail
        refine (sameR (N := 120) (M := 40) (hp := Hp.out) (a := (((toP ⟨p, Hp.out⟩ xs) + (toP ⟨p, Hp.out⟩ ys)) - (toP ⟨p, Hp.out⟩ ys))) (b := (toP ⟨p, Hp.out⟩ xs)) (((((((((((((((((((h7.bel hb8).bel hb9).bel hb10).bel hb11).bel hb12).bel hb13).bel hb14).bel hb15).bel hb16).bel hb17).bel hb18).bel hb19).bel hb20).bel hb21).bel hb22).bel hb23).bel hb24).bel hb25).bel hb26) (((((((((((((((((((((((h3.bel hb4).bel hb5).bel hb6).bel hb7).bel hb8).bel hb9).bel hb10).bel hb11).bel hb12).bel hb13).bel hb14).bel hb15).bel hb16).bel hb17).bel hb18).bel hb19).bel hb20).bel hb21).bel hb22).bel hb23).bel hb24).bel hb25).bel hb26) l7 l3 (by decide) (by decide) (CRing.add_sub_cancel _ _)).mono ?_
        rintro e w27 ⟨rfl, hb27⟩
        go_wp2_with fail
        go_ret
        exact ⟨rfl, (below_tr (below_tr (below_tr (below_tr (below_tr (below_tr (below_tr (below_tr (below_tr (below_tr (below_tr (below_tr (below_tr (below_tr (below_tr (below_tr (below_tr (below_tr (below_tr (below_tr (below_tr (below_tr (below_tr (below_tr (below_tr (below_tr hb1 hb2) hb3) hb4) hb5) hb6) hb7) hb8) hb9) hb10) hb11) hb12) hb13) hb14) hb15) hb16) hb17) hb18) hb19) hb20) hb21) hb22) hb23) hb24) hb25) hb26) hb27)⟩
end Go.Proofs.Yteddelfkjpljpaa
