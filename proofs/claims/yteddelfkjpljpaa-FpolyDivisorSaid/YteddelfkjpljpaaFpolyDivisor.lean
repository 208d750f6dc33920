/- FpolyDivisor: the statement's walk (printed by gen/law6.py). -/
import Derived.Test.YteddelfkjpljpaaLaw6D
namespace Go.Proofs.Yteddelfkjpljpaa
open Go.RowKit Cl
attribute [local go_sem ↓] Go.wp_at_zero Go.wp_at_succ

set_option maxRecDepth 100000 in
set_option maxHeartbeats 8000000 in
theorem law_FpolyDivisor (A : Option Addr) (n c : Nat) (xs : List Int) (B : Option Addr) (m d : Nat) (ys : List Int) (C : Option Addr) (k r : Nat) (zs : List Int) (p : Int) (w : World) (hx : Ints w A n xs) (hn : n * 8 ≤ 140737488351232) (hy : Ints w B m ys) (hm : m * 8 ≤ 140737488351232) (hz : Ints w C k zs) (hk : k * 8 ≤ 140737488351232) (lp : -9223372036854775808 ≤ p) (up : p ≤ 9223372036854775807) :
    Calls Try.prog 11 #[.slice A n c, .slice B m d, .slice C k r, .int .i64 p] w fun e w' => e = .returned (.bool true) ∧ Below w.heap.size w w' := by
  go_enter Try.func11, Try.ntmps11
  go_wp2_with fail
  refine (awake06 _).mono ?_
  rintro e w1 ⟨rfl, hb1⟩
  go_wp2_with fail
  refine (short06 20 20 3 3 (by decide) (some ⟨w1.heap.size, 0, none⟩) [xs, ys, zs] _ (mat_three (hx.bel hb1) (hy.bel hb1) (hz.bel hb1)) (fun i => by match i with | 0 => (show xs.length ≤ _; have := hx.len; omega) | 1 => (show ys.length ≤ _; have := hy.len; omega) | 2 => (show zs.length ≤ _; have := hz.len; omega) | i + 3 => rw [rAt_ge (by simp)]; exact Nat.zero_le _)).mono ?_
  rintro e w' ⟨rfl, rfl⟩
  have hb2 : Below w1.heap.size w1 (w1.alloc (.cells #[.slice A n c, .slice B m d, .slice C k r] 22)) := (Below.refl _ _).alloc (Nat.le_refl _) _
  generalize w1.alloc (.cells #[.slice A n c, .slice B m d, .slice C k r] 22) = w2 at *
  cases hs : shortB 20 [xs, ys, zs] with
  | false =>
    go_wp2_with fail
    go_ret
    exact ⟨rfl, below_tr hb1 hb2⟩
  | true =>
    have L0 : n ≤ 20 := by have := shortB_iff.1 hs 0 (by simp); rw [← hx.len]; exact this
    have L1 : m ≤ 20 := by have := shortB_iff.1 hs 1 (by simp); rw [← hy.len]; exact this
    have L2 : k ≤ 20 := by have := shortB_iff.1 hs 2 (by simp); rw [← hz.len]; exact this
    clear hs hn hm hk
    cases hpr : isPrime p with
    | false =>
      go_wp2_with fail
      refine (chk_no _ _ lp up hpr).mono ?_
      rintro e w' ⟨rfl, rfl⟩
      go_wp2_with fail
      go_ret
      exact ⟨rfl, below_tr hb1 hb2⟩
    | true =>
      have Hp := Lib.hid ((isPrime_iff p).1 hpr)
      go_wp2_with fail
      refine (chk_yes _ _ lp up hpr).mono ?_
      rintro e w' ⟨rfl, rfl⟩
      clear hpr
      go_wp2_with fail
      refine (bezoutR (N := 20) (a := (toP ⟨p, Hp.out⟩ xs)) (b := (toP ⟨p, Hp.out⟩ ys)) (hp := Hp.out) (Rd.of_list ((hx.bel hb1).bel hb2)) (Rd.of_list ((hy.bel hb1).bel hb2)) L0 L1 (by decide)).mono ?_
      rintro e w3 ⟨A3, c3, B3, d3, C3, e3, rfl, l3, m3, n3, h3, g3, i3, hb3⟩
      go_wp2_with fail
      refine (timesR (N := 21) (M := 20) (K := 41) (a := (Poly.bezR (toP ⟨p, Hp.out⟩ xs) (toP ⟨p, Hp.out⟩ ys)).s) (b := (toP ⟨p, Hp.out⟩ xs)) (hp := Hp.out) (Rd.of g3) (Rd.of_list (((hx.bel hb1).bel hb2).bel hb3)) m3 L0 (by decide) (by decide)).mono ?_
      rintro e w4 ⟨A4, c4, rfl, l4, h4, hb4⟩
      go_wp2_with fail
      refine (timesR (N := 21) (M := 20) (K := 41) (a := (Poly.bezR (toP ⟨p, Hp.out⟩ xs) (toP ⟨p, Hp.out⟩ ys)).t) (b := (toP ⟨p, Hp.out⟩ ys)) (hp := Hp.out) (Rd.of (i3.bel hb4)) (Rd.of_list ((((hy.bel hb1).bel hb2).bel hb3).bel hb4)) n3 L1 (by decide) (by decide)).mono ?_
      rintro e w5 ⟨A5, c5, rfl, l5, h5, hb5⟩
      go_wp2_with fail
      refine (sumR (N := 41) (M := 41) (K := 82) (a := ((Poly.bezR (toP ⟨p, Hp.out⟩ xs) (toP ⟨p, Hp.out⟩ ys)).s * (toP ⟨p, Hp.out⟩ xs))) (b := ((Poly.bezR (toP ⟨p, Hp.out⟩ xs) (toP ⟨p, Hp.out⟩ ys)).t * (toP ⟨p, Hp.out⟩ ys))) (hp := Hp.out) (Rd.of (h4.bel hb5)) (Rd.of h5) l4 l5 (by decide) (by decide)).mono ?_
      rintro e w6 ⟨A6, c6, rfl, l6, h6, hb6⟩
      go_wp2_with fail
      refine (sameR (N := 82) (M := 20) (hp := Hp.out) (a := (((Poly.bezR (toP ⟨p, Hp.out⟩ xs) (toP ⟨p, Hp.out⟩ ys)).s * (toP ⟨p, Hp.out⟩ xs)) + ((Poly.bezR (toP ⟨p, Hp.out⟩ xs) (toP ⟨p, Hp.out⟩ ys)).t * (toP ⟨p, Hp.out⟩ ys)))) (b := (Poly.bezR (toP ⟨p, Hp.out⟩ xs) (toP ⟨p, Hp.out⟩ ys)).g) h6 (((h3.bel hb4).bel hb5).bel hb6) l6 l3 (by decide) (by decide) (Poly.bezR_spec (toP ⟨p, Hp.out⟩ xs) (toP ⟨p, Hp.out⟩ ys)).1).mono ?_
      rintro e w7 ⟨rfl, hb7⟩
      go_wp2_with fail
      refine (timesR (N := 20) (M := 20) (K := 40) (a := (toP ⟨p, Hp.out⟩ xs)) (b := (toP ⟨p, Hp.out⟩ zs)) (hp := Hp.out) (Rd.of_list (((((((hx.bel hb1).bel hb2).bel hb3).bel hb4).bel hb5).bel hb6).bel hb7)) (Rd.of_list (((((((hz.bel hb1).bel hb2).bel hb3).bel hb4).bel hb5).bel hb6).bel hb7)) L0 L2 (by decide) (by decide)).mono ?_
      rintro e w8 ⟨A8, c8, rfl, l8, h8, hb8⟩
      go_wp2_with fail
      refine (timesR (N := 20) (M := 20) (K := 40) (a := (toP ⟨p, Hp.out⟩ ys)) (b := (toP ⟨p, Hp.out⟩ zs)) (hp := Hp.out) (Rd.of_list ((((((((hy.bel hb1).bel hb2).bel hb3).bel hb4).bel hb5).bel hb6).bel hb7).bel hb8)) (Rd.of_list ((((((((hz.bel hb1).bel hb2).bel hb3).bel hb4).bel hb5).bel hb6).bel hb7).bel hb8)) L1 L2 (by decide) (by decide)).mono ?_
      rintro e w9 ⟨A9, c9, rfl, l9, h9, hb9⟩
      go_wp2_with fail
      refine (gcdR (N := 40) (a := ((toP ⟨p, Hp.out⟩ xs) * (toP ⟨p, Hp.out⟩ zs))) (b := ((toP ⟨p, Hp.out⟩ ys) * (toP ⟨p, Hp.out⟩ zs))) (hp := Hp.out) (Rd.of (h8.bel hb9)) (Rd.of h9) l8 l9 (by decide)).mono ?_
      rintro e w10 ⟨A10, c10, rfl, l10, h10, hb10⟩
      go_wp2_with fail
      refine (timesR (N := 20) (M := 20) (K := 40) (a := (Poly.bezR (toP ⟨p, Hp.out⟩ xs) (toP ⟨p, Hp.out⟩ ys)).g) (b := (toP ⟨p, Hp.out⟩ zs)) (hp := Hp.out) (Rd.of (((((((h3.bel hb4).bel hb5).bel hb6).bel hb7).bel hb8).bel hb9).bel hb10)) (Rd.of_list ((((((((((hz.bel hb1).bel hb2).bel hb3).bel hb4).bel hb5).bel hb6).bel hb7).bel hb8).bel hb9).bel hb10)) l3 L2 (by decide) (by decide)).mono ?_
      rintro e w11 ⟨A11, c11, rfl, l11, h11, hb11⟩
      go_wp2_with fail
      refine (monicR (N := 40) (a := ((Poly.bezR (toP ⟨p, Hp.out⟩ xs) (toP ⟨p, Hp.out⟩ ys)).g * (toP ⟨p, Hp.out⟩ zs))) (hp := Hp.out) (Rd.of h11) l11 (by decide)).mono ?_
      rintro e w12 ⟨A12, c12, rfl, l12, h12, hb12⟩
      by_cases h0 : (Poly.bezR (toP ⟨p, Hp.out⟩ xs) (toP ⟨p, Hp.out⟩ ys)).g = 0
      · have g0 : ((Poly.len (Poly.bezR (toP ⟨p, Hp.out⟩ xs) (toP ⟨p, Hp.out⟩ ys)).g : Int) == 0) = true := by rw [h0, Poly.len_zero]; rfl
        have g1 : ((Poly.len (toP ⟨p, Hp.out⟩ xs) : Int) + (Poly.len (toP ⟨p, Hp.out⟩ ys) : Int) == 0) = true := by
          have h2 := (Poly.bezR_spec (toP ⟨p, Hp.out⟩ xs) (toP ⟨p, Hp.out⟩ ys)).2
          rw [h0] at h2
          rw [Poly.zero_dvd h2.l, Poly.zero_dvd h2.r, Poly.len_zero]; rfl
        clear h0
        go_wp2_with fail
        refine (normR (N := 20) (a := (toP ⟨p, Hp.out⟩ xs)) (hp := Hp.out) (Rd.of_list ((((((((((((hx.bel hb1).bel hb2).bel hb3).bel hb4).bel hb5).bel hb6).bel hb7).bel hb8).bel hb9).bel hb10).bel hb11).bel hb12)) L0 (by decide)).mono ?_
        rintro e w13 ⟨A13, c13, rfl, l13, h13, hb13⟩
        go_wp2_with fail
        refine (normR (N := 20) (a := (toP ⟨p, Hp.out⟩ ys)) (hp := Hp.out) (Rd.of_list (((((((((((((hy.bel hb1).bel hb2).bel hb3).bel hb4).bel hb5).bel hb6).bel hb7).bel hb8).bel hb9).bel hb10).bel hb11).bel hb12).bel hb13)) L1 (by decide)).mono ?_
        rintro e w14 ⟨A14, c14, rfl, l14, h14, hb14⟩
        go_wp2_with fail
        go_ret
        exact ⟨rfl, (below_tr (below_tr (below_tr (below_tr (below_tr (below_tr (below_tr (below_tr (below_tr (below_tr (below_tr (below_tr (below_tr hb1 hb2) hb3) hb4) hb5) hb6) hb7) hb8) hb9) hb10) hb11) hb12) hb13) hb14)⟩
      · have g0 : ((Poly.len (Poly.bezR (toP ⟨p, Hp.out⟩ xs) (toP ⟨p, Hp.out⟩ ys)).g : Int) == 0) = false := beq_eq_false_iff_ne.2 (by have := Poly.len_pos h0; omega)
        have hlp := Poly.len_pos h0
        have h2 := (Poly.bezR_spec (toP ⟨p, Hp.out⟩ xs) (toP ⟨p, Hp.out⟩ ys)).2
        have g1 : ((Poly.len (Poly.rem (toP ⟨p, Hp.out⟩ xs) (Poly.bezR (toP ⟨p, Hp.out⟩ xs) (toP ⟨p, Hp.out⟩ ys)).g) : Int) + (Poly.len (Poly.rem (toP ⟨p, Hp.out⟩ ys) (Poly.bezR (toP ⟨p, Hp.out⟩ xs) (toP ⟨p, Hp.out⟩ ys)).g) : Int) == 0) = true := by rw [(Poly.rem_zero_iff h0).2 h2.l, (Poly.rem_zero_iff h0).2 h2.r, Poly.len_zero]; rfl
        have Hone := Lib.hid (fromP_mon (h2.mon.resolve_left h0))
        have Hmore : Hid (Poly.gcdP ((toP ⟨p, Hp.out⟩ xs) * (toP ⟨p, Hp.out⟩ zs)) ((toP ⟨p, Hp.out⟩ ys) * (toP ⟨p, Hp.out⟩ zs)) = ((Poly.bezR (toP ⟨p, Hp.out⟩ xs) (toP ⟨p, Hp.out⟩ ys)).g * (toP ⟨p, Hp.out⟩ zs)).monic) := by show _ = _; rw [gcd_more, Poly.bezR_g]
        clear h2
        go_wp2_with fail
        refine (divR (N := 20) (M := 20) (a := (toP ⟨p, Hp.out⟩ xs)) (b := (Poly.bezR (toP ⟨p, Hp.out⟩ xs) (toP ⟨p, Hp.out⟩ ys)).g) (hp := Hp.out) (Rd.of_list ((((((((((((hx.bel hb1).bel hb2).bel hb3).bel hb4).bel hb5).bel hb6).bel hb7).bel hb8).bel hb9).bel hb10).bel hb11).bel hb12)) (Rd.of (((((((((h3.bel hb4).bel hb5).bel hb6).bel hb7).bel hb8).bel hb9).bel hb10).bel hb11).bel hb12)) L0 l3 (by decide) (by decide) h0).mono ?_
        rintro e w13 ⟨A13, c13, B13, d13, rfl, l13, m13, h13, g13, hb13⟩
        go_wp2_with fail
        refine (divR (N := 20) (M := 20) (a := (toP ⟨p, Hp.out⟩ ys)) (b := (Poly.bezR (toP ⟨p, Hp.out⟩ xs) (toP ⟨p, Hp.out⟩ ys)).g) (hp := Hp.out) (Rd.of_list (((((((((((((hy.bel hb1).bel hb2).bel hb3).bel hb4).bel hb5).bel hb6).bel hb7).bel hb8).bel hb9).bel hb10).bel hb11).bel hb12).bel hb13)) (Rd.of ((((((((((h3.bel hb4).bel hb5).bel hb6).bel hb7).bel hb8).bel hb9).bel hb10).bel hb11).bel hb12).bel hb13)) L1 l3 (by decide) (by decide) h0).mono ?_
        rintro e w14 ⟨A14, c14, B14, d14, rfl, l14, m14, h14, g14, hb14⟩
        obtain ⟨b0, o0, rfl, hb0, hc0⟩ := (((((((((((h3.bel hb4).bel hb5).bel hb6).bel hb7).bel hb8).bel hb9).bel hb10).bel hb11).bel hb12).bel hb13).bel hb14).at_ hlp
        have hcg := hc0 (Poly.len (Poly.bezR (toP ⟨p, Hp.out⟩ xs) (toP ⟨p, Hp.out⟩ ys)).g - 1) (by omega)
        rw [Hone.out] at hcg
        have ea : ((Poly.len (Poly.bezR (toP ⟨p, Hp.out⟩ xs) (toP ⟨p, Hp.out⟩ ys)).g : Int) - 1).toNat = Poly.len (Poly.bezR (toP ⟨p, Hp.out⟩ xs) (toP ⟨p, Hp.out⟩ ys)).g - 1 := by omega
        have eb : (0 : Int) ≤ (Poly.len (Poly.bezR (toP ⟨p, Hp.out⟩ xs) (toP ⟨p, Hp.out⟩ ys)).g : Int) - 1 := by omega
        have ec : (Poly.len (Poly.bezR (toP ⟨p, Hp.out⟩ xs) (toP ⟨p, Hp.out⟩ ys)).g : Int) - 1 < (Poly.len (Poly.bezR (toP ⟨p, Hp.out⟩ xs) (toP ⟨p, Hp.out⟩ ys)).g : Int) := by omega
        clear h0 hc0
        go_wp2_with fail
        refine (sameR (N := 40) (M := 40) (hp := Hp.out) (a := (Poly.gcdP ((toP ⟨p, Hp.out⟩ xs) * (toP ⟨p, Hp.out⟩ zs)) ((toP ⟨p, Hp.out⟩ ys) * (toP ⟨p, Hp.out⟩ zs)))) (b := (Poly.monic ((Poly.bezR (toP ⟨p, Hp.out⟩ xs) (toP ⟨p, Hp.out⟩ ys)).g * (toP ⟨p, Hp.out⟩ zs)))) ((((h10.bel hb11).bel hb12).bel hb13).bel hb14) ((h12.bel hb13).bel hb14) l10 l12 (by decide) (by decide) Hmore.out).mono ?_
        rintro e w15 ⟨rfl, hb15⟩
        go_wp2_with fail
        go_ret
        exact ⟨rfl, (below_tr (below_tr (below_tr (below_tr (below_tr (below_tr (below_tr (below_tr (below_tr (below_tr (below_tr (below_tr (below_tr (below_tr hb1 hb2) hb3) hb4) hb5) hb6) hb7) hb8) hb9) hb10) hb11) hb12) hb13) hb14) hb15)⟩
end Go.Proofs.Yteddelfkjpljpaa
