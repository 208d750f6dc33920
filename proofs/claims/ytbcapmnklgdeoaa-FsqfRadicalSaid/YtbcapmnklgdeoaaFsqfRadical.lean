/- Law: FsqfRadical. -/
import Derived.Test.YtbcapmnklgdeoaaFsqfPowers
namespace Go.Proofs.Ytbcapmnklgdeoaa
open Go.RowKit Cl
attribute [local go_sem ↓] Go.wp_at_zero Go.wp_at_succ

theorem rem_of_dvd {q : Prm} {a b : Poly (Zp q)} (hb : b ≠ 0) (h : b ∣ a) : Poly.rem a b = 0 := (Poly.rem_zero_iff hb).2 h
set_option maxRecDepth 100000 in
set_option maxHeartbeats 8000000 in
theorem law_FsqfRadical (A : Option Addr) (n c : Nat) (xs : List Int) (B : Option Addr) (m d : Nat) (ys : List Int) (p : Int) (w : World) (hx : Ints w A n xs) (hn : n * 8 ≤ 140737488351232) (hy : Ints w B m ys) (hm : m * 8 ≤ 140737488351232) (lp : -9223372036854775808 ≤ p) (up : p ≤ 9223372036854775807) :
    Calls Try.prog 7 #[.slice A n c, .slice B m d, .int .i64 p] w fun e w' => e = .returned (.bool true) ∧ Below w.heap.size w w' := by
  have Hx := Lib.hid hx
  have Hy := Lib.hid hy
  clear hx hy
  go_enter Try.func7, Try.ntmps7
  go_wp2_with fail
  refine (awake08 _).mono ?_
  rintro e w1 ⟨rfl, hb1⟩
  have Hx1 := Lib.hid (Hx.out.bel hb1)
  have Hy1 := Lib.hid (Hy.out.bel hb1)
  clear Hx Hy
  by_cases hl : n ≤ 14
  · have hl' : ¬ (14 : Int) < (n : Int) := by omega
    have hl3 : decide ((14 : Int) < (n : Int)) = false := decide_eq_false hl'
    by_cases hl2 : m ≤ 14
    · have hl4 : ¬ (14 : Int) < (m : Int) := by omega
      have hl5 : decide ((14 : Int) < (m : Int)) = false := decide_eq_false hl4
      cases hpr : isPrime p with
      | false =>
        go_wp2_with fail
        refine (srad_no _ _ _ _ _ lp up hpr).mono ?_
        rintro e w' ⟨rfl, rfl⟩
        go_wp2_with fail
        refine (srad_no _ _ _ _ _ lp up hpr).mono ?_
        rintro e w' ⟨rfl, rfl⟩
        go_wp2_with fail
        refine (ltimes_no _ _ _ _ _ _ _ _ lp up hpr).mono ?_
        rintro e w' ⟨rfl, rfl⟩
        go_wp2_with fail
        refine (srad_no _ _ _ _ _ lp up hpr).mono ?_
        rintro e w' ⟨rfl, rfl⟩
        go_wp2_with fail
        go_ret
        exact ⟨rfl, hb1⟩
      | true =>
        have Hp := Lib.hid ((isPrime_iff p).1 hpr)
        clear hpr
        have hal : (toP ⟨p, Hp.out⟩ xs).len ≤ 14 := by have := len_le_toP (q := ⟨p, Hp.out⟩) Hx1.out.len; omega
        have hbl : (toP ⟨p, Hp.out⟩ ys).len ≤ 14 := by have := len_le_toP (q := ⟨p, Hp.out⟩) Hy1.out.len; omega
        have HA := Lib.hid (Rd.of_list (q := ⟨p, Hp.out⟩) Hx1.out)
        have HB := Lib.hid (Rd.of_list (q := ⟨p, Hp.out⟩) Hy1.out)
        generalize toP ⟨p, Hp.out⟩ xs = a at *
        generalize toP ⟨p, Hp.out⟩ ys = b at *
        have hRa : Hid (∀ w2, Below w1.heap.size w1 w2 → Rd w2 A n a) := fun w2 h => by obtain ⟨ys, h1, h2⟩ := HA.out; exact ⟨ys, h1.bel h, h2⟩
        have hRb : Hid (∀ w2, Below w1.heap.size w1 w2 → Rd w2 B m b) := fun w2 h => by obtain ⟨ys, h1, h2⟩ := HB.out; exact ⟨ys, h1.bel h, h2⟩
        have hb00 : Below w1.heap.size w1 w1 := Below.refl _ _
        clear Hx1 Hy1 HA HB
        by_cases ha0 : a = 0
        · have H0 := Lib.hid ha0
          have H0k : Hid (a * b = 0) := by show _ = _; rw [ha0, CRing.zero_mul]
          clear ha0
          go_wp2_with fail
          refine (srad0R (N := 60) (hp := Hp.out) (hRa.out _ hb00) (by omega) (by omega) H0.out).mono ?_
          rintro e w2 ⟨rfl, hb2⟩
          by_cases hb0 : b = 0
          · have H0b := Lib.hid hb0
            clear hb0
            go_wp2_with fail
            refine (srad0R (N := 60) (hp := Hp.out) (hRb.out _ hb2) (by omega) (by omega) H0b.out).mono ?_
            rintro e w3 ⟨rfl, hb3⟩
            have hb13 := below_tr hb2 hb3
            clear hb3
            go_wp2_with fail
            refine (ltimesR (N := 14) (M := 14) (K := 28) (hp := Hp.out) (hRa.out _ hb13) (hRb.out _ hb13) hl hl2 (by omega) (by omega)).mono ?_
            rintro e w4 ⟨A4, c4, rfl, l4, h4, hb4⟩
            have H4 := Lib.hid h4
            clear h4
            go_wp2_with fail
            refine (srad0R (N := 28) (hp := Hp.out) (Rd.of H4.out) l4 (by omega) H0k.out).mono ?_
            rintro e w5 ⟨rfl, hb5⟩
            go_wp2_with fail
            go_ret
            exact ⟨rfl, below_tr (below_tr (below_tr hb1 hb13) hb4) hb5⟩
          · have H0b := Lib.hid hb0
            clear hb0
            go_wp2_with fail
            refine (sradR (N := 60) (hp := Hp.out) (hRb.out _ hb2) (by omega) (by omega) H0b.out).mono ?_
            rintro e w3 ⟨A3, c3, rfl, l3, h3, hb3⟩
            have hb13 := below_tr hb2 hb3
            clear hb3 h3 l3
            go_wp2_with fail
            refine (ltimesR (N := 14) (M := 14) (K := 28) (hp := Hp.out) (hRa.out _ hb13) (hRb.out _ hb13) hl hl2 (by omega) (by omega)).mono ?_
            rintro e w4 ⟨A4, c4, rfl, l4, h4, hb4⟩
            have H4 := Lib.hid h4
            clear h4
            go_wp2_with fail
            refine (srad0R (N := 28) (hp := Hp.out) (Rd.of H4.out) l4 (by omega) H0k.out).mono ?_
            rintro e w5 ⟨rfl, hb5⟩
            go_wp2_with fail
            go_ret
            exact ⟨rfl, below_tr (below_tr (below_tr hb1 hb13) hb4) hb5⟩
        · have H0 := Lib.hid ha0
          have hra := Poly.rad_len ha0
          clear ha0
          go_wp2_with fail
          refine (sradR (N := 14) (hp := Hp.out) (hRa.out _ hb00) (by omega) (by omega) H0.out).mono ?_
          rintro e w2 ⟨A2, c2, rfl, l2, h2, hb2⟩
          have H2 := Lib.hid h2
          clear h2
          by_cases hb0 : b = 0
          · have H0k : Hid (a * b = 0) := by show _ = _; rw [hb0, CRing.mul_zero]
            have H0b := Lib.hid hb0
            clear hb0
            go_wp2_with fail
            refine (srad0R (N := 60) (hp := Hp.out) (hRb.out _ hb2) (by omega) (by omega) H0b.out).mono ?_
            rintro e w3 ⟨rfl, hb3⟩
            have hb13 := below_tr hb2 hb3
            clear hb3
            go_wp2_with fail
            refine (ltimesR (N := 14) (M := 14) (K := 28) (hp := Hp.out) (hRa.out _ hb13) (hRb.out _ hb13) hl hl2 (by omega) (by omega)).mono ?_
            rintro e w4 ⟨A4, c4, rfl, l4, h4, hb4⟩
            have H4 := Lib.hid h4
            clear h4
            go_wp2_with fail
            refine (srad0R (N := 28) (hp := Hp.out) (Rd.of H4.out) l4 (by omega) H0k.out).mono ?_
            rintro e w5 ⟨rfl, hb5⟩
            go_wp2_with fail
            go_ret
            exact ⟨rfl, below_tr (below_tr (below_tr hb1 hb13) hb4) hb5⟩
          · have ha0 := H0.out
            have H0b := Lib.hid hb0
            have hrb := Poly.rad_len hb0
            have H0k : Hid (a * b ≠ 0) := Poly.mul_ne ha0 hb0
            have Hra := Lib.hid (Poly.rad_mon ha0)
            have Hrb := Lib.hid (Poly.rad_mon hb0)
            have hsq : Hid (sqB (hp := Hp.out) (Poly.rad a) = true) := sq_bool (Poly.rad_mon ha0) (Poly.rad_rad ha0)
            have hd1 : Hid (Poly.rem a (Poly.rad a) = 0) := rem_of_dvd (Poly.rad_mon ha0).ne (Poly.rad_dvd ha0)
            have hd2 : Hid (Poly.rem (Poly.rad a ^ 14) a = 0) := rem_of_dvd ha0 (Poly.dvd_rad_pow ha0 hal)
            have hgn : Hid (Poly.gcdP (Poly.rad a) (Poly.rad b) ≠ 0) := ((Poly.gcd_is (Poly.rad a) (Poly.rad b)).mon_of (.inl (Poly.rad_mon ha0).ne)).ne
            have hqm := Lib.hid (Poly.rad_mul ha0 hb0)
            have hab : (a * b).len ≤ 28 := by have := prod_len' a b; omega
            have hrab := Poly.rad_len (Poly.mul_ne ha0 hb0)
            have hpl : Hid (∀ i, i ≤ 14 → (Poly.rad a ^ i).len ≤ 200) := fun i hi => by have := pow_len_le (Poly.rad a) (L := 14) i (by omega); have := Nat.mul_le_mul_right 13 hi; omega
            have H1l : Hid ((1 : Poly (Zp ⟨p, Hp.out⟩)).len = 1) := Poly.len_one
            have H0l : Hid ((0 : Poly (Zp ⟨p, Hp.out⟩)).len = 0) := Poly.len_zero
            clear hb0 ha0
            go_wp2_with fail
            refine (sradR (N := 14) (hp := Hp.out) (hRb.out _ hb2) (by omega) (by omega) H0b.out).mono ?_
            rintro e w3 ⟨A3, c3, rfl, l3, h3, hb3⟩
            have hb13 := below_tr hb2 hb3
            have H23 := Lib.hid (H2.out.bel hb3)
            have H3 := Lib.hid h3
            clear hb3 hb2 h3 H2
            go_wp2_with fail
            refine (ltimesR (N := 14) (M := 14) (K := 28) (hp := Hp.out) (hRa.out _ hb13) (hRb.out _ hb13) hl hl2 (by omega) (by omega)).mono ?_
            rintro e w4 ⟨A4, c4, rfl, l4, h4, hb4⟩
            have hb14 := below_tr hb13 hb4
            have H24 := Lib.hid (H23.out.bel hb4)
            have H34 := Lib.hid (H3.out.bel hb4)
            have H4 := Lib.hid h4
            clear h4 hb4 hb13 H23 H3
            go_wp2_with fail
            refine (sradR (N := 28) (hp := Hp.out) (Rd.of H4.out) l4 (by omega) H0k.out).mono ?_
            rintro e w5 ⟨A5, c5, rfl, l5, h5, hb5⟩
            have hb15 := below_tr hb14 hb5
            have H25 := Lib.hid (H24.out.bel hb5)
            have H35 := Lib.hid (H34.out.bel hb5)
            have H5 := Lib.hid h5
            clear h5 hb5 hb14 H24 H34 H4
            go_wp2_with fail
            refine (sisR (N := 14) (hp := Hp.out) (Rd.of H25.out) l2 (by omega) Hra.out.ne).mono ?_
            rintro e w6 ⟨rfl, hb6⟩
            rw [hsq.out]
            have hb16 := below_tr hb15 hb6
            have H26 := Lib.hid (H25.out.bel hb6)
            have H36 := Lib.hid (H35.out.bel hb6)
            have H56 := Lib.hid (H5.out.bel hb6)
            clear hb6 hb15 H25 H35 H5
            go_wp2_with fail
            refine (divR (N := 14) (M := 14) (hp := Hp.out) (hRa.out _ hb16) (Rd.of H26.out) hl l2 (by omega) (by omega) Hra.out.ne).mono ?_
            rintro e w7 ⟨A7, c7, B7, d7, rfl, -, -, -, -, hb7⟩
            rw [hd1.out, H0l.out]
            have hb17 := below_tr hb16 hb7
            have H27 := Lib.hid (H26.out.bel hb7)
            have H37 := Lib.hid (H36.out.bel hb7)
            have H57 := Lib.hid (H56.out.bel hb7)
            have hone : Ints (w7.alloc (.cells #[.int .i64 1] 3)) (some ⟨w7.heap.size, 0, none⟩) (1 : Poly (Zp ⟨p, Hp.out⟩)).len (fromP (1 : Poly (Zp ⟨p, Hp.out⟩))) := one_ints Hp.out w7
            have Hone := Lib.hid hone
            have hal2 : Below w7.heap.size w7 (w7.alloc (.cells #[.int .i64 1] 3)) := (Below.refl _ _).alloc (Nat.le_refl _) _
            clear hone hb7 hb16 H26 H36 H56
            go_wp2_with fail
            go_loopw [19, 20] (fun v i wr => ∃ (j : Nat) (B : Option Addr) (d : Nat), j ≤ 14 ∧ i = .int .i64 (j : Int) ∧ v = .slice B (Poly.rad a ^ j).len d ∧ Hid (Ints wr B (Poly.rad a ^ j).len (fromP (Poly.rad a ^ j))) ∧ Below w7.heap.size w7 wr) (fun _ i _ => 14 - (intOf i).toNat)
            case atStart => exact ⟨0, some ⟨w7.heap.size, 0, none⟩, 1, by omega, rfl, by rw [CRing.pow_zero, H1l.out], by show Ints _ _ _ _; rw [CRing.pow_zero]; exact Hone.out, hal2⟩
            case round =>
              obtain ⟨j, B8, d8, hj, rfl, rfl, hB, hbel⟩ := hrel
              clear Hone hal2
              have hjl := hpl.out j hj
              by_cases hlt : j < 14
              · have hlt' : (j : Int) < 14 := by omega
                have H2w := Lib.hid (H27.out.bel hbel)
                go_wp2_with fail
                refine (ltimesR (N := 200) (M := 14) (K := 214) (hp := Hp.out) (Rd.of hB.out) (Rd.of H2w.out) hjl l2 (by omega) (by omega)).mono ?_
                rintro e w8 ⟨A8, c8, rfl, l8, h8, hb8⟩
                rw [← CRing.pow_succ] at h8 l8 ⊢
                have H8 := Lib.hid h8
                have hb8' := below_tr hbel hb8
                clear h8 hb8
                go_wp2_with fail
                go_roundw
                case rel => exact ⟨j + 1, A8, c8, by omega, by go_num, rfl, H8, hb8'⟩
                case measure => simp [intOf]; omega
              · obtain rfl : j = 14 := by omega
                have hb18 := below_tr hb17 hbel
                have H28 := Lib.hid (H27.out.bel hbel)
                have H38 := Lib.hid (H37.out.bel hbel)
                have H58 := Lib.hid (H57.out.bel hbel)
                have HB := Lib.hid hB.out
                clear hB H27 H37 H57 hbel hb17
                go_wp2_with fail
                refine (divR (N := 200) (M := 14) (hp := Hp.out) (Rd.of HB.out) (hRa.out _ hb18) hjl hl (by omega) (by omega) H0.out).mono ?_
                rintro e w9 ⟨A9, c9, B9, d9, rfl, -, -, -, -, hb9⟩
                rw [hd2.out, H0l.out]
                have hb19 := below_tr hb18 hb9
                have H29 := Lib.hid (H28.out.bel hb9)
                have H39 := Lib.hid (H38.out.bel hb9)
                have H59 := Lib.hid (H58.out.bel hb9)
                clear hb9 hb18 H28 H38 H58 HB
                go_wp2_with fail
                refine (gcdR (N := 14) (hp := Hp.out) (Rd.of H29.out) (Rd.of H39.out) l2 l3 (by omega)).mono ?_
                rintro e w10 ⟨A10, c10, rfl, l10, h10, hb10⟩
                have hb110 := below_tr hb19 hb10
                have H210 := Lib.hid (H29.out.bel hb10)
                have H310 := Lib.hid (H39.out.bel hb10)
                have H510 := Lib.hid (H59.out.bel hb10)
                have H10 := Lib.hid h10
                clear h10 hb10 hb19 H29 H39 H59
                go_wp2_with fail
                refine (ltimesR (N := 14) (M := 14) (K := 28) (hp := Hp.out) (Rd.of H210.out) (Rd.of H310.out) l2 l3 (by omega) (by omega)).mono ?_
                rintro e w11 ⟨A11, c11, rfl, l11, h11, hb11⟩
                have hb111 := below_tr hb110 hb11
                have H511 := Lib.hid (H510.out.bel hb11)
                have H1011 := Lib.hid (H10.out.bel hb11)
                have H11 := Lib.hid h11
                clear h11 hb11 hb110 H210 H310 H510 H10
                go_wp2_with fail
                refine (divR (N := 28) (M := 14) (hp := Hp.out) (Rd.of H11.out) (Rd.of H1011.out) l11 l10 (by omega) (by omega) hgn.out).mono ?_
                rintro e w12 ⟨A12, c12, B12, d12, rfl, l12, -, h12, -, hb12⟩
                rw [hqm.out] at h12 l12 ⊢
                have hb112 := below_tr hb111 hb12
                have H512 := Lib.hid (H511.out.bel hb12)
                have H12 := Lib.hid h12
                clear h12 hb12 hb111 H511 H1011 H11
                go_wp2_with fail
                refine (same6R (N := 28) (hp := Hp.out) H12.out H512.out l12 (by omega) rfl).mono ?_
                rintro e w13 ⟨rfl, hb13⟩
                go_wp2_with fail
                go_ret
                exact ⟨rfl, below_tr (below_tr hb1 hb112) hb13⟩
    · have hl4 : (14 : Int) < (m : Int) := by omega
      have hl5 : decide ((14 : Int) < (m : Int)) = true := decide_eq_true hl4
      go_wp2_with fail
      go_ret
      exact ⟨rfl, hb1⟩
  · have hl' : (14 : Int) < (n : Int) := by omega
    have hl3 : decide ((14 : Int) < (n : Int)) = true := decide_eq_true hl'
    go_wp2_with fail
    go_ret
    exact ⟨rfl, hb1⟩
end Go.Proofs.Ytbcapmnklgdeoaa
