/- Law: FsqfPowers. -/
import Derived.Test.YtbcapmnklgdeoaaLaw8F
namespace Go.Proofs.Ytbcapmnklgdeoaa
open Go.RowKit Cl
attribute [local go_sem ↓] Go.wp_at_zero Go.wp_at_succ

theorem and_7 (n : Int) : bits .and .i64 n 7 = n % 8 := i64_and_mask n 3 (by omega)
theorem ltimes_no (A B : Option Addr) (n c m d : Nat) (p : Int) (w : World) (h3 : -9223372036854775808 ≤ p) (h4 : p ≤ 9223372036854775807) (hp : isPrime p = false) :
    Calls Try.prog 9 #[.slice A n c, .slice B m d, .int .i64 p] w fun e w' => e = .returned (.slice none 0 0) ∧ w = w' := by
  go_enter Try.func9, Try.ntmps9
  go_wp2_with fail
  refine (pmul_no _ _ _ _ _ _ _ _ h3 h4 hp).mono ?_
  rintro e w' ⟨rfl, rfl⟩
  go_wp2_with fail
  go_ret
  exact ⟨rfl, rfl⟩
theorem pow_len_le {q : Prm} (a : Poly (Zp q)) {L : Nat} (i : Nat) (hL : a.len ≤ L) : (a ^ i).len ≤ i * (L - 1) + 1 := by
  by_cases h : a = 0
  · subst h
    cases i with
    | zero => rw [CRing.pow_zero, Poly.len_one]; omega
    | succ i => rw [CRing.zero_pow (by omega), Poly.len_zero]; omega
  · rw [Poly.len_pow h]
    have := Nat.mul_le_mul_left i (show a.len - 1 ≤ L - 1 by omega)
    omega

set_option maxRecDepth 100000 in
set_option maxHeartbeats 8000000 in
theorem law_FsqfPowers (A : Option Addr) (n c : Nat) (xs : List Int) (k : Int) (p : Int) (w : World) (hx : Ints w A n xs) (hn : n * 8 ≤ 140737488351232) (_lk : -9223372036854775808 ≤ k) (_uk : k ≤ 9223372036854775807) (lp : -9223372036854775808 ≤ p) (up : p ≤ 9223372036854775807) :
    Calls Try.prog 3 #[.slice A n c, .int .i64 k, .int .i64 p] w fun e w' => e = .returned (.bool true) ∧ Below w.heap.size w w' := by
  have Hx := Lib.hid hx
  obtain ⟨t, ht⟩ : ∃ t : Nat, k % 8 = (t : Int) := ⟨(k % 8).toNat, by omega⟩
  have ht8 : t < 8 := by omega
  have h7 : bits .and .i64 k 7 = (t : Int) := (and_7 k).trans ht
  clear hx ht
  go_enter Try.func3, Try.ntmps3
  go_wp2_with fail
  refine (awake08 _).mono ?_
  rintro e w1 ⟨rfl, hb1⟩
  have Hx1 := Lib.hid (Hx.out.bel hb1)
  clear Hx
  by_cases hl : n ≤ 12
  · have hl' : ¬ (12 : Int) < (n : Int) := by omega
    cases hpr : isPrime p with
    | false =>
      have Hpr := Lib.hid hpr
      have hal : Below w1.heap.size w1 (w1.alloc (.cells #[.int .i64 1] 3)) := (Below.refl _ _).alloc (Nat.le_refl _) _
      clear hpr
      go_wp2_with fail
      go_loopw [9, 10] (fun v i wr => ∃ (j : Nat) (B : Option Addr) (m d : Nat), j ≤ t + 1 ∧ i = .int .i64 (j : Int) ∧ v = .slice B m d ∧ Below w1.heap.size w1 wr) (fun _ i _ => t + 1 - (intOf i).toNat)
      case atStart => exact ⟨0, _, 1, 1, by omega, rfl, rfl, hal⟩
      case round =>
        obtain ⟨j, B, m, d, hj, rfl, rfl, hbel⟩ := hrel
        by_cases hlt : j < t + 1
        · have hlt' : (j : Int) < 1 + (t : Int) := by omega
          go_wp2_with fail
          refine (ltimes_no _ _ _ _ _ _ _ _ lp up Hpr.out).mono ?_
          rintro e w' ⟨rfl, rfl⟩
          go_wp2_with fail
          go_roundw
          case rel => exact ⟨j + 1, none, 0, 0, by omega, by go_num, rfl, hbel⟩
          case measure => simp [intOf]; omega
        · have hlt' : ¬ (j : Int) < 1 + (t : Int) := by omega
          go_wp2_with fail
          refine (sparts_no _ _ _ _ _ lp up Hpr.out).mono ?_
          rintro e w' ⟨rfl, rfl⟩
          go_wp2_with fail
          refine (sparts_no _ _ _ _ _ lp up Hpr.out).mono ?_
          rintro e w' ⟨rfl, rfl⟩
          go_wp2_with fail
          refine (srad_no _ _ _ _ _ lp up Hpr.out).mono ?_
          rintro e w' ⟨rfl, rfl⟩
          go_wp2_with fail
          refine (srad_no _ _ _ _ _ lp up Hpr.out).mono ?_
          rintro e w' ⟨rfl, rfl⟩
          go_wp2_with fail
          go_ret
          exact ⟨rfl, below_tr hb1 hbel⟩
    | true =>
      have Hp := Lib.hid ((isPrime_iff p).1 hpr)
      clear hpr
      have hal : (toP ⟨p, Hp.out⟩ xs).len ≤ 12 := by have := len_le_toP (q := ⟨p, Hp.out⟩) Hx1.out.len; omega
      have HA := Lib.hid (Rd.of_list (q := ⟨p, Hp.out⟩) Hx1.out)
      generalize toP ⟨p, Hp.out⟩ xs = a at *
      have hpl : Hid (∀ i, i ≤ 8 → (a ^ i).len ≤ 100) := fun i hi => by have := pow_len_le a i hal; have := Nat.mul_le_mul_right 11 hi; omega
      have hone : Ints (w1.alloc (.cells #[.int .i64 1] 3)) (some ⟨w1.heap.size, 0, none⟩) (1 : Poly (Zp ⟨p, Hp.out⟩)).len (fromP (1 : Poly (Zp ⟨p, Hp.out⟩))) := one_ints Hp.out w1
      have Hone := Lib.hid hone
      have hal2 : Below w1.heap.size w1 (w1.alloc (.cells #[.int .i64 1] 3)) := (Below.refl _ _).alloc (Nat.le_refl _) _
      have hRd : Hid (∀ w2, Below w1.heap.size w1 w2 → Rd w2 A n a) := fun w2 h => by obtain ⟨ys, h1, h2⟩ := HA.out; exact ⟨ys, h1.bel h, h2⟩
      have H1l : Hid ((1 : Poly (Zp ⟨p, Hp.out⟩)).len = 1) := Poly.len_one
      clear hone Hx1 HA
      go_wp2_with fail
      go_loopw [9, 10] (fun v i wr => ∃ (j : Nat) (B : Option Addr) (d : Nat), j ≤ t + 1 ∧ i = .int .i64 (j : Int) ∧ v = .slice B (a ^ j).len d ∧ Hid (Ints wr B (a ^ j).len (fromP (a ^ j))) ∧ Below w1.heap.size w1 wr) (fun _ i _ => t + 1 - (intOf i).toNat)
      case atStart => exact ⟨0, some ⟨w1.heap.size, 0, none⟩, 1, by omega, rfl, by rw [CRing.pow_zero, H1l.out], by show Ints _ _ _ _; rw [CRing.pow_zero]; exact Hone.out, hal2⟩
      case round =>
        obtain ⟨j, B, d, hj, rfl, rfl, hB, hbel⟩ := hrel
        clear Hone hal2
        by_cases hlt : j < t + 1
        · have hlt' : (j : Int) < 1 + (t : Int) := by omega
          have hjl := hpl.out j (by omega)
          go_wp2_with fail
          refine (ltimesR (N := 100) (M := 12) (K := 112) (hp := Hp.out) (Rd.of hB.out) (hRd.out _ hbel) hjl (by omega) (by omega) (by omega)).mono ?_
          rintro e w7 ⟨A7, c7, rfl, l7, h7', hb7⟩
          rw [← CRing.pow_succ] at h7' l7 ⊢
          have H7 := Lib.hid h7'
          have hb7' := below_tr hbel hb7
          clear h7' hb7
          go_wp2_with fail
          go_roundw
          case rel => exact ⟨j + 1, A7, c7, by omega, by go_num, rfl, H7, hb7'⟩
          case measure => simp [intOf]; omega
        · obtain rfl : j = t + 1 := by omega
          have hlt' : ¬ ((t + 1 : Nat) : Int) < 1 + (t : Int) := by omega
          have hbl := hpl.out (t + 1) (by omega)
          have HB := Lib.hid hB.out
          clear hB
          by_cases h0 : a = 0
          · have H0 := Lib.hid h0
            have H0k : Hid (a ^ (t + 1) = 0) := by show _ = _; rw [h0, CRing.zero_pow (by omega)]
            clear h0
            go_wp2_with fail
            refine (sparts0R (N := 60) (hp := Hp.out) (hRd.out _ hbel) (by omega) (by omega) H0.out).mono ?_
            rintro e w2 ⟨rfl, hb2⟩
            have HB2 := Lib.hid (HB.out.bel hb2)
            have hbel2 := below_tr hbel hb2
            go_wp2_with fail
            refine (sparts0R (N := 100) (hp := Hp.out) (Rd.of HB2.out) hbl (by omega) H0k.out).mono ?_
            rintro e w3 ⟨rfl, hb3⟩
            have HB3 := Lib.hid (HB2.out.bel hb3)
            have hbel3 := below_tr hbel2 hb3
            go_wp2_with fail
            refine (srad0R (N := 60) (hp := Hp.out) (hRd.out _ hbel3) (by omega) (by omega) H0.out).mono ?_
            rintro e w4 ⟨rfl, hb4⟩
            have HB4 := Lib.hid (HB3.out.bel hb4)
            have hbel4 := below_tr hbel3 hb4
            go_wp2_with fail
            refine (srad0R (N := 100) (hp := Hp.out) (Rd.of HB4.out) hbl (by omega) H0k.out).mono ?_
            rintro e w5 ⟨rfl, hb5⟩
            have hbel5 := below_tr hbel4 hb5
            go_wp2_with fail
            go_ret
            exact ⟨rfl, below_tr hb1 hbel5⟩
          · have H0 := Lib.hid h0
            have H0k : Hid (a ^ (t + 1) ≠ 0) := Poly.pow_ne h0 _
            have Hrd : Hid (Poly.rad (a ^ (t + 1)) = Poly.rad a) := Poly.rad_pow h0 (by omega)
            have Hlv : Hid (Poly.lvls (a ^ (t + 1)) = (Poly.lvls a).map ((t + 1) * ·)) := Poly.lvls_pow h0 (by omega)
            have hrl := Poly.rad_len h0
            clear h0
            go_wp2_with fail
            refine (spartsR (N := 60) (hp := Hp.out) (hRd.out _ hbel) (by omega) (by omega) H0.out).mono ?_
            rintro e w2 ⟨A2, c2, rfl, hP2, hb2⟩
            have HB2 := Lib.hid (HB.out.bel hb2)
            have hbel2 := below_tr hbel hb2
            have HP2 := Lib.hid hP2
            clear hP2 hb2 hbel HB
            go_wp2_with fail
            refine (spartsR (N := 100) (hp := Hp.out) (Rd.of HB2.out) hbl (by omega) H0k.out).mono ?_
            rintro e w3 ⟨A3, c3, rfl, hP3, hb3⟩
            have HB3 := Lib.hid (HB2.out.bel hb3)
            have hbel3 := below_tr hbel2 hb3
            have HQ2 := Lib.hid (HP2.out.bel hb3)
            have HP3 := Lib.hid hP3
            clear hP3 hb3 hbel2 HB2 HP2
            go_wp2_with fail
            refine (sradR (N := 60) (hp := Hp.out) (hRd.out _ hbel3) (by omega) (by omega) H0.out).mono ?_
            rintro e w4 ⟨A4, c4, rfl, l4, h4, hb4⟩
            have HB4 := Lib.hid (HB3.out.bel hb4)
            have hbel4 := below_tr hbel3 hb4
            have HR2 := Lib.hid (HQ2.out.bel hb4)
            have HR3 := Lib.hid (HP3.out.bel hb4)
            have H4 := Lib.hid h4
            clear h4 hb4 hbel3 HB3 HQ2 HP3
            go_wp2_with fail
            refine (sradR (N := 100) (hp := Hp.out) (Rd.of HB4.out) hbl (by omega) H0k.out).mono ?_
            rintro e w5 ⟨A5, c5, rfl, l5, h5, hb5⟩
            rw [Hrd.out] at h5 l5 ⊢
            have hbel5 := below_tr hbel4 hb5
            have HS2 := Lib.hid (HR2.out.bel hb5)
            have HS3 := Lib.hid (HR3.out.bel hb5)
            have H45 := Lib.hid (H4.out.bel hb5)
            have H5 := Lib.hid h5
            clear h5 hb5 hbel4 HB4 HR2 HR3 H4
            have hKl : (Poly.partsL a).length ≤ 60 := by
              rw [Poly.partsL_length]
              have h3 : (Poly.lvls a).length ≤ a.len := by unfold Poly.lvls; exact Nat.le_trans (List.length_filter_le _ _) (by rw [List.length_range]; omega)
              omega
            have hKe3 : (Poly.partsL (a ^ (t + 1))).length = (Poly.partsL a).length := by rw [Poly.partsL_length, Poly.partsL_length, Hlv.out, List.length_map]
            rw [hKe3] at HS3 ⊢
            obtain ⟨K, hKe⟩ : ∃ K, K = (Poly.partsL a).length := ⟨_, rfl⟩
            have HK := Lib.hid hKe
            rw [← HK.out] at hKl HS2 HS3 ⊢
            have HK3 : Hid ((Poly.partsL (a ^ (t + 1))).length = K) := hKe3.trans hKe.symm
            have hK9 : ((K : Int) != (K : Int)) = false := by simp
            clear hKe hKe3 l4 l5
            go_wp2_with fail
            go_loopw [19] (fun i wr => ∃ (j m : Nat), j ≤ K ∧ i = .int .i64 (j : Int) ∧ wr = w5.drewN m) (fun i _ => K - (intOf i).toNat)
            case atStart => exact ⟨0, 0, by omega, rfl, rfl⟩
            case round =>
              obtain ⟨j, m, hj2, rfl, rfl⟩ := hrel
              by_cases hjl : j < K
              · obtain ⟨b, o, rfl, hb, hc⟩ := HS2.out.at_ (by omega)
                obtain ⟨b', o', rfl, hb', hc'⟩ := HS3.out.at_ (by omega)
                have hk1 : j < (Poly.partsL a).length := by rw [← HK.out]; exact hjl
                have hk2 : j < (Poly.partsL (a ^ (t + 1))).length := by rw [HK3.out]; exact hjl
                obtain ⟨Ai, ci, e1, e2, e3⟩ := hc j hk1
                obtain ⟨Bi, di, g1, g2, g3⟩ := hc' j hk2
                have hkl1 : j < (Poly.lvls a).length := by rw [← Poly.partsL_length]; exact hk1
                have hget : (Poly.lvls (a ^ (t + 1)))[j]'(by rw [← Poly.partsL_length]; exact hk2) = (t + 1) * (Poly.lvls a)[j] := by
                  simp only [Hlv.out, List.getElem_map]
                rw [Poly.partsL_get] at e1 e2 e3 g1 g2 g3
                simp only [hget] at g1 g2 g3
                have hks := (Poly.mem_lvls H0.out).1 (List.getElem_mem hkl1)
                have hlt2 := Poly.lvl_lt H0.out hks.1 hks.2
                have hlv := Poly.lvl_pow H0.out (k := t + 1) (j := (Poly.lvls a)[j]) (by omega) hks.1
                rw [hlv] at g1 g3
                have hll := Poly.lvl_len H0.out hks.1
                clear hc hc' hget hlv
                generalize (Poly.lvls a)[j] = jj at *
                have hj1 := hks.1
                rw [Nat.mul_comm 2 j] at e1 e2 g1 g2
                rw [← Nat.add_assoc] at e2 g2
                have hcast : (((t + 1) * jj : Nat) : Int) = (1 + (t : Int)) * (jj : Int) := by rw [Int.natCast_mul, Int.natCast_add, Int.add_comm]; rfl
                rw [hcast] at g2
                have hm1 : (0 : Int) ≤ (1 + (t : Int)) * (jj : Int) := Int.mul_nonneg (by omega) (by omega)
                have hm2 : (1 + (t : Int)) * (jj : Int) ≤ 96 := by
                  have h1 : (1 + (t : Int)) * (jj : Int) ≤ 8 * (jj : Int) := Int.mul_le_mul_of_nonneg_right (by omega) (by omega)
                  omega
                have hw : IntKind.i64.wrap ((1 + (t : Int)) * (jj : Int)) = (1 + (t : Int)) * (jj : Int) := IntWalk.i64_in _ (by omega)
                have hz : (((1 + (t : Int)) * (jj : Int)) != ((1 + (t : Int)) * (jj : Int))) = false := by simp
                have hjl' : (j : Int) < (K : Int) := by omega
                have E3 := Lib.hid e3
                have G3 := Lib.hid g3
                clear e3 g3 hks hcast hlt2
                go_wp2_with fail
                go_quiet ((go_at_call 12; first | exact quiet_add_ex (same06_true _ _ _ _ _ _ _ (E3.out.drewN _) (G3.out.drewN _) (by omega)) | exact quiet_ex (same06_true _ _ _ _ _ _ _ (E3.out.drewN _) (G3.out.drewN _) (by omega))))
                go_wp2_with fail
                go_roundw
                case rel => exact ⟨j + 1, _, by omega, by go_num, by first | rfl | exact World.drewN_drewN _ _ _⟩
                case measure => simp [intOf]; omega
              · have hjl' : ¬ (j : Int) < (K : Int) := by omega
                go_wp2_with fail
                refine (same6R (N := 60) (hp := Hp.out) (H45.out.drewN _) (H5.out.drewN _) (by omega) (by omega) rfl).mono ?_
                rintro e w9 ⟨rfl, hb9⟩
                go_wp2_with fail
                go_ret
                exact ⟨rfl, below_tr (below_tr hb1 hbel5) (below_tr (below_drewN (Below.refl _ _) _) hb9)⟩
  · have hl' : (12 : Int) < (n : Int) := by omega
    go_wp2_with fail
    go_ret
    exact ⟨rfl, hb1⟩
end Go.Proofs.Ytbcapmnklgdeoaa
