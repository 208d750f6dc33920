/- Law: FsqfProduct. -/
import Derived.Test.YtbcapmnklgdeoaaLaw8F
namespace Go.Proofs.Ytbcapmnklgdeoaa
open Go.RowKit Cl
attribute [local go_sem ↓] Go.wp_at_zero Go.wp_at_succ

set_option maxRecDepth 100000 in
set_option maxHeartbeats 8000000 in
theorem law_FsqfProduct (A : Option Addr) (n c : Nat) (xs : List Int) (p : Int) (w : World) (hx : Ints w A n xs) (hn : n * 8 ≤ 140737488351232) (lp : -9223372036854775808 ≤ p) (up : p ≤ 9223372036854775807) :
    Calls Try.prog 4 #[.slice A n c, .int .i64 p] w fun e w' => e = .returned (.bool true) ∧ Below w.heap.size w w' := by
  have Hx := Lib.hid hx
  clear hx
  go_enter Try.func4, Try.ntmps4
  go_wp2_with fail
  refine (awake08 _).mono ?_
  rintro e w1 ⟨rfl, hb1⟩
  have Hx1 := Lib.hid (Hx.out.bel hb1)
  clear Hx
  by_cases hl : n ≤ 60
  · have hl' : ¬ (60 : Int) < (n : Int) := by omega
    cases hpr : isPrime p with
    | false =>
      go_wp2_with fail
      refine (sparts_no _ _ _ _ _ lp up hpr).mono ?_
      rintro e w' ⟨rfl, rfl⟩
      go_wp2_with fail
      refine (pnorm_no _ _ _ _ _ lp up hpr).mono ?_
      rintro e w' ⟨rfl, rfl⟩
      go_wp2_with fail
      go_ret
      exact ⟨rfl, hb1⟩
    | true =>
      have Hp := Lib.hid ((isPrime_iff p).1 hpr)
      clear hpr
      by_cases h0 : toP ⟨p, Hp.out⟩ xs = 0
      · have H0 := Lib.hid h0
        have g0 : (((toP ⟨p, Hp.out⟩ xs).len : Int) == 0) = true := by rw [h0, Poly.len_zero]; rfl
        clear h0
        go_wp2_with fail
        refine (sparts0R (N := 60) (hp := Hp.out) (Rd.of_list Hx1.out) hl (by omega) H0.out).mono ?_
        rintro e w2 ⟨rfl, hb2⟩
        have Hx2 := Lib.hid (Hx1.out.bel hb2)
        go_wp2_with fail
        refine (normR (N := 60) (hp := Hp.out) (Rd.of_list Hx2.out) hl (by omega)).mono ?_
        rintro e w3 ⟨A3, c3, rfl, l3, h3, hb3⟩
        go_wp2_with fail
        go_ret
        exact ⟨rfl, below_tr (below_tr hb1 hb2) hb3⟩
      · have H0 := Lib.hid h0
        have hal : (toP ⟨p, Hp.out⟩ xs).len ≤ 60 := by have := len_le_toP (q := ⟨p, Hp.out⟩) Hx1.out.len; omega
        have hlp := Poly.len_pos h0
        clear h0
        go_wp2_with fail
        refine (spartsR (N := 60) (hp := Hp.out) (Rd.of_list Hx1.out) hl (by omega) H0.out).mono ?_
        rintro e w2 ⟨A2, c2, rfl, hP2, hb2⟩
        have HP2 := Lib.hid hP2
        have Hx2 := Lib.hid (Hx1.out.bel hb2)
        have hbel2 := below_tr hb1 hb2
        clear hP2 hb1 hb2 Hx1
        go_wp2_with fail
        refine (normR (N := 60) (hp := Hp.out) (Rd.of_list Hx2.out) hl (by omega)).mono ?_
        rintro e w3 ⟨A3, c3, rfl, l3, h3, hb3⟩
        have HP3 := Lib.hid (HP2.out.bel hb3)
        have hbel3 := below_tr hbel2 hb3
        clear hb3 hbel2 HP2 Hx2
        generalize toP ⟨p, Hp.out⟩ xs = a at *
        have H3 := Lib.hid h3
        obtain ⟨bx, ox, rfl, hbx, hcx⟩ := h3.at_ hlp
        have hcl := hcx (a.len - 1) (by omega)
        have ea : ((a.len : Int) - 1).toNat = a.len - 1 := by omega
        have eb : (0 : Int) ≤ (a.len : Int) - 1 := by omega
        have ec : (a.len : Int) - 1 < (a.len : Int) := by omega
        have g0 : ((a.len : Int) == 0) = false := beq_eq_false_iff_ne.2 (by omega)
        have Hlc := Lib.hid (lc_ints (hp := Hp.out) (w := w3) H0.out)
        have hKl : (Poly.partsL a).length ≤ 60 := by
          rw [Poly.partsL_length]
          have h3 : (Poly.lvls a).length ≤ a.len := by unfold Poly.lvls; exact Nat.le_trans (List.length_filter_le _ _) (by rw [List.length_range]; omega)
          omega
        obtain ⟨K, hKe⟩ : ∃ K, K = (Poly.partsL a).length := ⟨_, rfl⟩
        have HK := Lib.hid hKe
        have hKe2 : (Poly.lvls a).length = K := by rw [hKe, Poly.partsL_length]
        have HK2 := Lib.hid hKe2
        rw [← HK.out] at hKl ⊢
        have Hst : Hid ((Poly.C a.lc * Poly.powL a ((Poly.lvls a).take 0)) = Poly.C a.lc) := by show _ * (1 : Poly _) = _; rw [CRing.mul_one]
        have Hfin : Hid ((Poly.C a.lc * Poly.powL a ((Poly.lvls a).take K)) = a) := by
          show _ = _
          rw [List.take_of_length_le (by omega), Poly.powL_monic H0.out, Poly.C_lc_monic H0.out]
        have hC1 : (Poly.C a.lc).len = 1 := by rw [← CRing.mul_one (Poly.C a.lc), Poly.len_C_mul (Poly.lc_ne H0.out), Poly.len_one]
        have HC1 := Lib.hid hC1
        have hal2 : Below w3.heap.size w3 (w3.alloc (.cells #[.int .i64 (nth (fromP a) (a.len - 1))] 3)) := (Below.refl _ _).alloc (Nat.le_refl _) _
        clear hKe hKe2 hC1 hcx h3
        go_wp2_with fail
        go_loopw [10, 11] (fun v i wr => ∃ (k : Nat) (B : Option Addr) (d : Nat), k ≤ K ∧ i = .int .i64 (k : Int) ∧ v = .slice B (Poly.C a.lc * Poly.powL a ((Poly.lvls a).take k)).len d ∧ Hid (Ints wr B (Poly.C a.lc * Poly.powL a ((Poly.lvls a).take k)).len (fromP (Poly.C a.lc * Poly.powL a ((Poly.lvls a).take k)))) ∧ Below w3.heap.size w3 wr) (fun _ i _ => K - (intOf i).toNat)
        case atStart => exact ⟨0, some ⟨w3.heap.size, 0, none⟩, 1, by omega, rfl, by rw [Hst.out, HC1.out], by show Ints _ _ _ _; rw [Hst.out]; exact Hlc.out, hal2⟩
        case round =>
          obtain ⟨k, B, d, hk, rfl, rfl, hB, hbel⟩ := hrel
          clear hcl ea eb ec hal2 Hlc
          obtain ⟨wo, rfl⟩ : ∃ wo : World, wo = wr := ⟨_, rfl⟩
          by_cases hlt : k < K
          · obtain ⟨b, o, rfl, hb, hc⟩ := HP3.out.at_ (by rw [← HK.out]; omega)
            have hkl : k < (Poly.partsL a).length := by rw [← HK.out]; exact hlt
            have hkl2 : k < (Poly.lvls a).length := by rw [HK2.out]; exact hlt
            obtain ⟨Ai, ci, e1, e2, e3⟩ := hc k hkl
            rw [Poly.partsL_get] at e1 e2 e3
            have hks := (Poly.mem_lvls H0.out).1 (List.getElem_mem hkl2)
            have hprev : Hid (∀ (j : Nat) (hj : j < (Poly.lvls a).length), k = j + 1 → ∃ jj, (Poly.lvls a)[j] = jj ∧ jj < (Poly.lvls a)[k]) := fun j hj e => ⟨_, rfl, List.pairwise_iff_getElem.1 (Poly.lvls_rising a) j k hj hkl2 (by omega)⟩
            have hpl : Hid (∀ j, j ≤ (Poly.lvls a)[k] → (Poly.C a.lc * (Poly.powL a ((Poly.lvls a).take k) * Poly.lvl a ((Poly.lvls a)[k]) ^ j)).len ≤ a.len) := fun j hj => Poly.powL_len H0.out hkl2 hj
            have htk := Lib.hid (Poly.take_succ_get hkl2)
            have Hc := Lib.hid hc
            clear hc
            generalize (Poly.lvls a)[k] = kk at *
            have hk1 := hks.1
            have hk2 := Poly.lvl_lt H0.out hk1 hks.2
            have hll := Poly.lvl_len H0.out hk1
            have i1 : ¬ (kk : Int) < 1 := by omega
            have i2 : ¬ (60 : Int) < (kk : Int) := by omega
            have hlt' : (k : Int) < (K : Int) := by omega
            rw [Nat.mul_comm 2 k] at e1 e2
            rw [← Nat.add_assoc] at e2
            have c1' := (hbel.cell (p := ⟨b, o + k * 2, none⟩) hb).trans e1
            have c2' := (hbel.cell (p := ⟨b, o + k * 2 + 1, none⟩) hb).trans e2
            have E1 := Lib.hid e1
            have E2 := Lib.hid e2
            have E3 := Lib.hid e3
            have Hpw : Hid (Poly.powL a ((Poly.lvls a).take (k + 1)) = Poly.powL a ((Poly.lvls a).take k) * Poly.lvl a kk ^ kk) := by show _ = _; rw [htk.out, Poly.powL_snoc]
            clear e1 e2 e3 hks
            obtain ⟨X, hX⟩ : ∃ X : Nat → Poly (Zp ⟨p, Hp.out⟩), X = fun j => Poly.C a.lc * (Poly.powL a ((Poly.lvls a).take k) * Poly.lvl a kk ^ j) := ⟨_, rfl⟩
            have hX0 : Hid (X 0 = Poly.C a.lc * Poly.powL a ((Poly.lvls a).take k)) := by show _ = _; rw [hX]; show Poly.C a.lc * (_ * _ ^ 0) = _; rw [CRing.pow_zero, CRing.mul_one]
            have hXs : Hid (∀ j, X (j + 1) = X j * Poly.lvl a kk) := fun j => by rw [hX]; show Poly.C a.lc * (_ * _ ^ (j + 1)) = Poly.C a.lc * (_ * _ ^ j) * _; rw [CRing.pow_succ, CRing.mul_assoc, CRing.mul_assoc]
            have hXk : Hid (X kk = Poly.C a.lc * Poly.powL a ((Poly.lvls a).take (k + 1))) := by show _ = _; rw [hX, Hpw.out]
            have hXl : Hid (∀ j, j ≤ kk → (X j).len ≤ a.len) := fun j hj => by rw [hX]; exact hpl.out j hj
            have hBq := hB
            have hbelq := hbel
            clear hX hpl htk Hpw
            cases k with
            | zero =>
              simp only [Nat.zero_mul, Nat.add_zero] at c1' c2' E1 E2
              rw [show ((0 : Nat) : Int) = 0 from rfl] at hlt' ⊢
              go_wp2
              have hd1 : decide ((kk : Int) < 1) = false := decide_eq_false (by omega)
              have hd2 : decide ((60 : Int) < (kk : Int)) = false := decide_eq_false (by omega)
              go_quiet (fail)
              go_wp2_with fail
              go_loopw [10, 12] (fun v i wr => ∃ (j : Nat) (B : Option Addr) (d : Nat), j ≤ kk ∧ i = .int .i64 (j : Int) ∧ v = .slice B (X j).len d ∧ Hid (Ints wr B (X j).len (fromP (X j))) ∧ Below w3.heap.size w3 wr) (fun _ i _ => kk - (intOf i).toNat)
              case atStart => exact ⟨0, B, d, by omega, rfl, (by rw [hX0.out] <;> rfl), by show Ints _ _ _ _; rw [hX0.out]; exact hBq.out.drewN _, below_drewN hbelq _⟩
              case round =>
                obtain ⟨j, B', d', hj, rfl, rfl, hBj, hbj⟩ := hrel
                have d1 := (hbj.cell (p := ⟨b, o, none⟩) hb).trans E1.out
                have d2 := (hbj.cell (p := ⟨b, o + 1, none⟩) hb).trans E2.out
                have HI := Lib.hid (E3.out.bel hbj)
                have hxl := hXl.out j hj
                by_cases hjl : j < kk
                · have hjl' : (j : Int) < (kk : Int) := by omega
                  go_wp2_with fail
                  refine (ltimesR (N := 60) (M := 60) (K := 120) (hp := Hp.out) (Rd.of hBj.out) (Rd.of HI.out) (by omega) (by omega) (by omega) (by omega)).mono ?_
                  rintro e w7 ⟨A7, c7, rfl, l7, h7, hb7⟩
                  rw [← hXs.out j] at h7 l7 ⊢
                  have H7 := Lib.hid h7
                  have hb7' := below_tr hbj hb7
                  clear h7 hb7 d1 d2
                  go_wp2_with fail
                  go_roundw
                  case rel => exact ⟨j + 1, A7, c7, by omega, by go_num, rfl, H7, hb7'⟩
                  case measure => simp [intOf]; omega
                · obtain rfl : j = kk := by omega
                  have hjl' : ¬ (j : Int) < (j : Int) := by omega
                  have hB2 := hBj.out
                  rw [hXk.out] at hB2 ⊢
                  have HB2 := Lib.hid hB2
                  clear hB2 hBj
                  go_wp2_with fail
                  go_roundw
                  case rel => exact ⟨1, B', d', by omega, by go_num, rfl, HB2, hbj⟩
                  case measure => simp [intOf]; omega
            | succ m =>
              rw [show ((m + 1 : Nat) : Int) = (m : Int) + 1 from rfl] at hlt' ⊢
              have hm1 : m < (Poly.lvls a).length := by omega
              obtain ⟨jj, hjj, hjk⟩ := hprev.out m hm1 rfl
              obtain ⟨Am, cm, f1, f2, f3⟩ := Hc.out m (by rw [Poly.partsL_length]; exact hm1)
              rw [Poly.partsL_get, hjj] at f2
              rw [Nat.mul_comm 2 m, ← Nat.add_assoc] at f2
              have c3' := (hbel.cell (p := ⟨b, o + m * 2 + 1, none⟩) hb).trans f2
              have i3 : ¬ (kk : Int) ≤ (jj : Int) := by omega
              clear hjj f1 f2 f3
              go_wp2
              have hd1 : decide ((kk : Int) < 1) = false := decide_eq_false (by omega)
              have hd2 : decide ((60 : Int) < (kk : Int)) = false := decide_eq_false (by omega)
              have hd3 : decide (kk ≤ jj) = false := decide_eq_false (by omega)
              go_quiet (fail)
              go_wp2_with fail
              go_loopw [10, 12] (fun v i wr => ∃ (j : Nat) (B : Option Addr) (d : Nat), j ≤ kk ∧ i = .int .i64 (j : Int) ∧ v = .slice B (X j).len d ∧ Hid (Ints wr B (X j).len (fromP (X j))) ∧ Below w3.heap.size w3 wr) (fun _ i _ => kk - (intOf i).toNat)
              case atStart => exact ⟨0, B, d, by omega, rfl, (by rw [hX0.out] <;> rfl), by show Ints _ _ _ _; rw [hX0.out]; exact hBq.out.drewN _, below_drewN hbelq _⟩
              case round =>
                obtain ⟨j, B', d', hj, rfl, rfl, hBj, hbj⟩ := hrel
                have d1 := (hbj.cell (p := ⟨b, o + (m + 1) * 2, none⟩) hb).trans E1.out
                have d2 := (hbj.cell (p := ⟨b, o + (m + 1) * 2 + 1, none⟩) hb).trans E2.out
                have HI := Lib.hid (E3.out.bel hbj)
                have hxl := hXl.out j hj
                by_cases hjl : j < kk
                · have hjl' : (j : Int) < (kk : Int) := by omega
                  go_wp2_with fail
                  refine (ltimesR (N := 60) (M := 60) (K := 120) (hp := Hp.out) (Rd.of hBj.out) (Rd.of HI.out) (by omega) (by omega) (by omega) (by omega)).mono ?_
                  rintro e w7 ⟨A7, c7, rfl, l7, h7, hb7⟩
                  rw [← hXs.out j] at h7 l7 ⊢
                  have H7 := Lib.hid h7
                  have hb7' := below_tr hbj hb7
                  clear h7 hb7 d1 d2
                  go_wp2_with fail
                  go_roundw
                  case rel => exact ⟨j + 1, A7, c7, by omega, by go_num, rfl, H7, hb7'⟩
                  case measure => simp [intOf]; omega
                · obtain rfl : j = kk := by omega
                  have hjl' : ¬ (j : Int) < (j : Int) := by omega
                  have hB2 := hBj.out
                  rw [hXk.out] at hB2 ⊢
                  have HB2 := Lib.hid hB2
                  clear hB2 hBj
                  go_wp2_with fail
                  go_roundw
                  case rel => exact ⟨m + 1 + 1, B', d', by omega, by go_num, rfl, HB2, hbj⟩
                  case measure => simp [intOf]; omega
          · obtain rfl : k = K := by omega
            have hlt' : ¬ (k : Int) < (k : Int) := by omega
            have hB2 := hB.out
            rw [Hfin.out] at hB2 ⊢
            have HB := Lib.hid hB2
            have H39 := Lib.hid (H3.out.bel hbel)
            clear hB hB2
            go_wp2_with fail
            refine (same6R (N := 60) (hp := Hp.out) HB.out H39.out hal (by omega) rfl).mono ?_
            rintro e w9 ⟨rfl, hb9⟩
            go_wp2_with fail
            go_ret
            exact ⟨rfl, below_tr (below_tr hbel3 hbel) hb9⟩
  · have hl' : (60 : Int) < (n : Int) := by omega
    go_wp2_with fail
    go_ret
    exact ⟨rfl, hb1⟩
end Go.Proofs.Ytbcapmnklgdeoaa
