/- Law: FsqfApart. -/
import Derived.Test.YtbcapmnklgdeoaaLaw8E
namespace Go.Proofs.Ytbcapmnklgdeoaa
open Go.RowKit Cl
attribute [local go_sem ↓] Go.wp_at_zero Go.wp_at_succ

set_option maxRecDepth 100000 in
set_option maxHeartbeats 8000000 in
theorem law_FsqfApart (A : Option Addr) (n c : Nat) (xs : List Int) (p : Int) (w : World) (hx : Ints w A n xs) (hn : n * 8 ≤ 140737488351232) (lp : -9223372036854775808 ≤ p) (up : p ≤ 9223372036854775807) :
    Calls Try.prog 6 #[.slice A n c, .int .i64 p] w fun e w' => e = .returned (.bool true) ∧ Below w.heap.size w w' := by
  have Hx := Lib.hid hx
  clear hx
  go_enter Try.func6, Try.ntmps6
  go_wp2_with fail
  refine (awake08 _).mono ?_
  rintro e w1 ⟨rfl, hb1⟩
  have Hx1 := Lib.hid (Hx.out.bel hb1)
  clear Hx
  by_cases hl : n ≤ 60
  · have hl' : ¬ (60 : Int) < (n : Int) := by omega
    cases hpr : isPrime p with
    | false =>
      go_wp2_with fail
      refine (sparts_no _ _ _ _ _ lp up hpr).mono ?_
      rintro e w' ⟨rfl, rfl⟩
      go_wp2_with fail
      go_ret
      exact ⟨rfl, hb1⟩
    | true =>
      have Hp := Lib.hid ((isPrime_iff p).1 hpr)
      clear hpr
      by_cases h0 : toP ⟨p, Hp.out⟩ xs = 0
      · have H0 := Lib.hid h0
        clear h0
        go_wp2_with fail
        refine (sparts0R (N := 60) (hp := Hp.out) (Rd.of_list Hx1.out) hl (by omega) H0.out).mono ?_
        rintro e w2 ⟨rfl, hb2⟩
        go_wp2_with fail
        go_ret
        exact ⟨rfl, below_tr hb1 hb2⟩
      · have H0 := Lib.hid h0
        have hal : (toP ⟨p, Hp.out⟩ xs).len ≤ 60 := by have := len_le_toP (q := ⟨p, Hp.out⟩) Hx1.out.len; omega
        clear h0
        go_wp2_with fail
        refine (spartsR (N := 60) (hp := Hp.out) (Rd.of_list Hx1.out) hl (by omega) H0.out).mono ?_
        rintro e w2 ⟨A2, c2, rfl, hP2, hb2⟩
        have HP2 := Lib.hid hP2
        have hbel2 := below_tr hb1 hb2
        clear hP2 hb1 hb2 Hx1
        generalize toP ⟨p, Hp.out⟩ xs = a at *
        have hKl : (Poly.partsL a).length ≤ 60 := by
          rw [Poly.partsL_length]
          have h3 : (Poly.lvls a).length ≤ a.len := by unfold Poly.lvls; exact Nat.le_trans (List.length_filter_le _ _) (by rw [List.length_range]; omega)
          omega
        obtain ⟨K, hKe⟩ : ∃ K, K = (Poly.partsL a).length := ⟨_, rfl⟩
        have HK := Lib.hid hKe
        rw [← HK.out] at hKl ⊢
        clear hKe
        go_wp2_with fail
        go_loopw [8] (fun i wr => ∃ k : Nat, k ≤ K ∧ i = .int .i64 (k : Int) ∧ Below w2.heap.size w2 wr) (fun i _ => K - (intOf i).toNat)
        case atStart => exact ⟨0, by omega, rfl, Below.refl _ _⟩
        case round =>
          obtain ⟨k, hk, rfl, hbel⟩ := hrel
          obtain ⟨wo, rfl⟩ : ∃ wo : World, wo = wr := ⟨_, rfl⟩
          by_cases hlt : k < K
          · obtain ⟨b, o, rfl, hb, hc⟩ := HP2.out.at_ (by rw [← HK.out]; omega)
            have hkl : k < (Poly.partsL a).length := by rw [← HK.out]; exact hlt
            have hkl2 : k < (Poly.lvls a).length := by rw [← Poly.partsL_length]; exact hkl
            obtain ⟨Ai, ci, e1, e2, e3⟩ := hc k hkl
            rw [Poly.partsL_get] at e1 e3
            have HC := Lib.hid hc
            have hks := (Poly.mem_lvls H0.out).1 (List.getElem_mem hkl2)
            have hpast : Hid (∀ (j : Nat) (h : j < (Poly.lvls a).length), j < k → (Poly.lvls a)[j] ≠ (Poly.lvls a)[k]) := fun j h hj => by
              have := List.pairwise_iff_getElem.1 (Poly.lvls_rising a) j k h hkl2 hj
              omega
            clear hc e2
            generalize (Poly.lvls a)[k] = kk at *
            have hk1 := hks.1
            have hgt := (Poly.lvl_mon H0.out kk).len_gt.2 hks.2
            have hll := Poly.lvl_len H0.out hk1
            have hm := Lib.hid (Poly.lvl_mon H0.out kk)
            have hsq : Hid (sqB (hp := Hp.out) (Poly.lvl a kk) = true) := sq_bool (Poly.lvl_mon H0.out kk) (lvl_rad H0.out hk1)
            have hgd := Lib.hid (sq_gcd (Poly.lvl_mon H0.out kk) (lvl_rad H0.out hk1))
            have htop := Lib.hid (mon_top (Poly.lvl_mon H0.out kk))
            rw [Nat.mul_comm 2 k] at e1
            have hcx := (hbel.cell (p := ⟨b, o + k * 2, none⟩) hb).trans e1
            have HI := Lib.hid (e3.bel hbel)
            have hlt' : (k : Int) < (K : Int) := by omega
            clear e1 e3 hks
            go_wp2_with fail
            refine (sisR (N := 60) (hp := Hp.out) (Rd.of HI.out) (by omega) (by omega) hm.out.ne).mono ?_
            rintro e w3 ⟨rfl, hb3⟩
            rw [hsq.out]
            have HI3 := Lib.hid (HI.out.bel hb3)
            go_wp2_with fail
            refine (derivR (N := 60) (hp := Hp.out) (Rd.of HI3.out) (by omega) (by omega)).mono ?_
            rintro e w4 ⟨A4, c4, rfl, l4, h4, hb4⟩
            have H4 := Lib.hid h4
            have HI4 := Lib.hid (HI3.out.bel hb4)
            clear h4
            go_wp2_with fail
            refine (gcdR (N := 60) (hp := Hp.out) (Rd.of HI4.out) (Rd.of H4.out) (by omega) l4 (by omega)).mono ?_
            rintro e w5 ⟨A5, c5, rfl, l5, h5, hb5⟩
            have H5 := Lib.hid h5
            have HI5 := HI4.out.bel hb5
            have hbel5 := below_tr (below_tr (below_tr hbel hb3) hb4) hb5
            clear h5 hb3 hb4 hb5 H4 HI HI3 HI4 hbel hcx
            have HIk := Lib.hid HI5
            obtain ⟨bi, oi, rfl, hbi, hci⟩ := HI5.at_ (by omega)
            have hcg := hci ((Poly.lvl a kk).len - 1) (by omega)
            rw [htop.out] at hcg
            have hg2 : ¬ ((Poly.lvl a kk).len : Int) < 2 := by omega
            have ea : (((Poly.lvl a kk).len : Int) - 1).toNat = (Poly.lvl a kk).len - 1 := by omega
            have eb : (0 : Int) ≤ ((Poly.lvl a kk).len : Int) - 1 := by omega
            have ec : ((Poly.lvl a kk).len : Int) - 1 < ((Poly.lvl a kk).len : Int) := by omega
            clear hci HI5
            go_wp2_with fail
            refine (same_one (hp := Hp.out) H5.out hgd.out _).mono ?_
            rintro e w6 ⟨rfl, hb6⟩
            have hbel6 := below_tr hbel5 hb6
            have HI6 := Lib.hid (HIk.out.bel hb6)
            clear hb6 hbel5 H5 hcg ea eb ec HIk
            go_wp2_with fail
            go_loopw [16] (fun i wr => ∃ j : Nat, j ≤ k ∧ i = .int .i64 (j : Int) ∧ Below w2.heap.size w2 wr ∧ Hid (Ints wr (some ⟨bi, oi, none⟩) (Poly.lvl a kk).len (fromP (Poly.lvl a kk)))) (fun i _ => k - (intOf i).toNat)
            case atStart => exact ⟨0, by omega, rfl, hbel6, HI6⟩
            case round =>
              obtain ⟨j, hj, rfl, hbj, HIj⟩ := hrel
              by_cases hjl : j < k
              · have hjl2 : j < (Poly.lvls a).length := by omega
                obtain ⟨Aj, cj, f1, f2, f3⟩ := HC.out j (by rw [Poly.partsL_length]; exact hjl2)
                rw [Poly.partsL_get] at f1 f3
                have hne := hpast.out j hjl2 hjl
                have hjs := (Poly.mem_lvls H0.out).1 (List.getElem_mem hjl2)
                generalize (Poly.lvls a)[j] = jj at *
                have hj1 := hjs.1
                have hlj := Poly.lvl_len H0.out hj1
                have hap := Lib.hid (lvl_apart H0.out hk1 hj1 (fun e => hne e.symm))
                rw [Nat.mul_comm 2 j] at f1
                have hcj := (hbj.cell (p := ⟨b, o + j * 2, none⟩) hb).trans f1
                have HJ := Lib.hid (f3.bel hbj)
                have hjl' : (j : Int) < (k : Int) := by omega
                clear f1 f2 f3 hne hjs
                go_wp2_with fail
                refine (gcdR (N := 60) (hp := Hp.out) (Rd.of HIj.out) (Rd.of HJ.out) (by omega) (by omega) (by omega)).mono ?_
                rintro e w7 ⟨A7, c7, rfl, l7, h7, hb7⟩
                have H7 := Lib.hid h7
                have HI7 := Lib.hid (HIj.out.bel hb7)
                have hbel7 := below_tr hbj hb7
                clear h7 hb7 hcj HJ HIj hbj
                go_wp2_with fail
                refine (same_one (hp := Hp.out) H7.out hap.out _).mono ?_
                rintro e w8 ⟨rfl, hb8⟩
                have HI8 := Lib.hid (HI7.out.bel hb8)
                have hbel8 := below_tr hbel7 hb8
                clear hb8 HI7 H7 hbel7
                go_wp2_with fail
                go_roundw
                case rel => exact ⟨j + 1, by omega, by go_num, hbel8, HI8⟩
                case measure => simp [intOf]; omega
              · have hjl' : ¬ (j : Int) < (k : Int) := by omega
                go_wp2_with fail
                go_roundw
                case rel => exact ⟨k + 1, by omega, by go_num, hbj⟩
                case measure => simp [intOf]; omega
          · have hlt' : ¬ (k : Int) < (K : Int) := by omega
            go_wp2_with fail
            go_ret
            exact ⟨rfl, below_tr hbel2 hbel⟩
  · have hl' : (60 : Int) < (n : Int) := by omega
    go_wp2_with fail
    go_ret
    exact ⟨rfl, hb1⟩
end Go.Proofs.Ytbcapmnklgdeoaa
