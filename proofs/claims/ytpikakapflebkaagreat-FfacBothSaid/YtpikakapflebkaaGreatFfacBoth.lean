/- Law: FfacBoth. -/
import Derived.Test.YtpikakapflebkaaGreatPut
namespace Go.Proofs.YtpikakapflebkaaGreat
open Go.RowKit Cl
attribute [local go_sem ↓] Go.wp_at_zero Go.wp_at_succ

section
variable {A B : Option Addr} {n m c d N M K : Nat} {p : Int} {w : World} {hp : Pr p} {a b : Poly (Zp ⟨p, hp⟩)}
theorem ltimesB (ha : Rd w A n a) (hb : Rd w B m b) (hn : n ≤ N) (hm : m ≤ M) (hK : N + M ≤ K) (hK2 : K ≤ 900000000) :
    Calls Tryz.prog 10 #[.slice A n c, .slice B m d, .int .i64 p] w (GivesR w K (a * b)) := by
  have C := Lib.hid (mulR (c := c) (d := d) ha hb hn hm hK hK2)
  clear ha hb
  go_enter Tryz.func10, Tryz.ntmps10
  go_wp2_with fail
  refine C.out.mono ?_
  rintro e w1 ⟨A1, c1, rfl, l1, h1, hb1⟩
  go_wp2_with fail
  go_ret
  exact ⟨_, _, rfl, l1, h1, hb1⟩
end
section
variable {q : Prm}
theorem fac_small {a : Poly (Zp q)} {L : List (Poly (Zp q) × Nat)} (ha : a ≠ 0) (hl : a.len ≤ 100) (h : Poly.IsFac a L) : L.length ≤ 100 ∧ ∀ x ∈ L, x.1.len ≤ 900000000 ∧ x.2 ≤ 900000000 :=
  ⟨by have := h.len ha; omega, fun x hx => by have := h.small ha hx; omega⟩
theorem fac_theirsB {a : Poly (Zp q)} {L : List (Poly (Zp q) × Nat)} (ha : a ≠ 0) (hl : a.len ≤ 100) (h : Poly.IsFac a L) : ∀ x ∈ L, 0 < x.1.len ∧ x.1.len ≤ 900000000 ∧ x.2 ≤ 900000000 := fun x hx => by
  have := h.small ha hx
  omega
theorem fac_sameB {a : Poly (Zp q)} {L : List (Poly (Zp q) × Nat)} (ha : a ≠ 0) (hl : a.len ≤ 100) (h : Poly.IsFac a L) : ∀ i (hi : i < L.length), (L[i]).1.len ≤ 900000000 ∧ (L[i]).2 ≤ 900000000 := fun i hi => by
  have := h.small ha (List.getElem_mem hi)
  omega
/-- What stands between the two. -/
theorem mid_len {a b : Poly (Zp q)} {L : List (Poly (Zp q) × Nat)} (ha : a ≠ 0) (hb : b ≠ 0) (hla : a.len ≤ 10) (hlb : b.len ≤ 10) (h : Poly.IsFac b L) {i : Nat} (hi : i < L.length) {j : Nat} (hj : j ≤ (L[i]).2) :
    a * (Poly.powF (L.take i) * (L[i]).1 ^ j) ≠ 0 ∧ (a * (Poly.powF (L.take i) * (L[i]).1 ^ j)).len ≤ 100 := by
  have h1 := h.part_len hb hi hj
  rw [Poly.len_C_mul (Poly.lc_ne hb)] at h1
  have hm : Poly.powF (L.take i) * (L[i]).1 ^ j ≠ 0 := ((Poly.powF_mon _ fun x hx => (h.irr (List.mem_of_mem_take hx)).1.mon).mul ((h.irr (List.getElem_mem hi)).1.mon.pow j)).ne
  refine ⟨Poly.mul_ne ha hm, ?_⟩
  rw [(Poly.len_mul ha hm).1]
  omega
end

set_option maxRecDepth 100000 in
set_option maxHeartbeats 8000000 in
theorem law_FfacBoth (A : Option Addr) (n c : Nat) (xs : List Int) (B : Option Addr) (m d : Nat) (ys : List Int) (p : Int) (w : World) (hx : Ints w A n xs) (hn : n * 8 ≤ 140737488351232) (hy : Ints w B m ys) (hm : m * 8 ≤ 140737488351232) (lp : -9223372036854775808 ≤ p) (up : p ≤ 9223372036854775807) :
    Calls Tryz.prog 3 #[.slice A n c, .slice B m d, .int .i64 p] w fun e w' => e = .returned (.bool true) ∧ Below w.heap.size w w' := by
  have Hx := Lib.hid hx
  have Hy := Lib.hid hy
  clear hx hy
  go_enter Tryz.func3, Tryz.ntmps3
  go_wp2_with fail
  refine (awake09 _).mono ?_
  rintro e w1 ⟨rfl, hb1⟩
  have Hx1 := Lib.hid (Hx.out.bel hb1)
  have Hy1 := Lib.hid (Hy.out.bel hb1)
  clear Hx Hy
  by_cases hn10 : n ≤ 10
  · have d1 : ¬ (10 : Int) < (n : Int) := by omega
    have d1' : decide ((10 : Int) < (n : Int)) = false := decide_eq_false d1
    by_cases hm10 : m ≤ 10
    · have d2 : ¬ (10 : Int) < (m : Int) := by omega
      have d2' : decide ((10 : Int) < (m : Int)) = false := decide_eq_false d2
      cases hpr : isPrime p with
      | false =>
        go_wp2_with fail
        refine (rwrong_no _ _ _ _ _ lp up hpr).mono ?_
        rintro e w' ⟨rfl, rfl⟩
        go_wp2_with fail
        go_ret
        exact ⟨rfl, hb1⟩
      | true =>
        have Hp := Lib.hid ((isPrime_iff p).1 hpr)
        clear hpr
        have hal : (toP ⟨p, Hp.out⟩ xs).len ≤ 10 := by have := len_le_toP (q := ⟨p, Hp.out⟩) Hx1.out.len; omega
        have hbl : (toP ⟨p, Hp.out⟩ ys).len ≤ 10 := by have := len_le_toP (q := ⟨p, Hp.out⟩) Hy1.out.len; omega
        have HA := Lib.hid (Rd.of_list (q := ⟨p, Hp.out⟩) Hx1.out)
        have HB := Lib.hid (Rd.of_list (q := ⟨p, Hp.out⟩) Hy1.out)
        generalize toP ⟨p, Hp.out⟩ xs = a at *
        generalize toP ⟨p, Hp.out⟩ ys = b at *
        clear Hx1 Hy1
        by_cases h0 : a = 0
        · have H0 := Lib.hid h0
          clear h0
          go_wp2_with fail
          refine (rwrongR (hp := Hp.out) 8 HA.out (by omega) (.inl ⟨H0.out, rfl⟩)).mono ?_
          rintro e w2 ⟨rfl, hb2⟩
          go_wp2_with fail
          go_ret
          exact ⟨rfl, below_tr hb1 hb2⟩
        · have H0 := Lib.hid h0
          clear h0
          go_wp2_with fail
          refine (rwrongR (hp := Hp.out) 0 HA.out (by omega) (.inr (.inr ⟨H0.out, by omega, rfl⟩))).mono ?_
          rintro e w2 ⟨rfl, hb2⟩
          have hb12 := below_tr hb1 hb2
          have HA2 := Lib.hid (Rd.bel HA.out hb2)
          have HB2 := Lib.hid (Rd.bel HB.out hb2)
          clear hb1 hb2 HA HB
          by_cases h0 : b = 0
          · have G0 := Lib.hid h0
            clear h0
            go_wp2_with fail
            refine (rwrongR (hp := Hp.out) 8 HB2.out (by omega) (.inl ⟨G0.out, rfl⟩)).mono ?_
            rintro e w2 ⟨rfl, hb2⟩
            go_wp2_with fail
            go_ret
            exact ⟨rfl, below_tr hb12 hb2⟩
          · have G0 := Lib.hid h0
            clear h0
            go_wp2_with fail
            refine (rwrongR (hp := Hp.out) 0 HB2.out (by omega) (.inr (.inr ⟨G0.out, by omega, rfl⟩))).mono ?_
            rintro e w3 ⟨rfl, hb3⟩
            have hb13 := below_tr hb12 hb3
            have HA3 := Lib.hid (Rd.bel HA2.out hb3)
            have HB3 := Lib.hid (Rd.bel HB2.out hb3)
            clear hb12 hb3 HA2 HB2
            go_wp2_with fail
            refine (ffactorsR (hp := Hp.out) (D := none) (nd := 0) (cD := 0) (ds := []) HA3.out (by omega) H0.out (by omega) (ints_nil8 _) (fun _ => rfl) (by omega) (by omega)).mono ?_
            rintro e w4 ⟨A4, n4, c4, L4, rfl, hp4, hf4, hb4⟩
            have Hf4 := Lib.hid hf4
            have Hp4 := Lib.hid hp4
            have hn4 : n4 ≤ 10 := by have h1 := hf4.len H0.out; have h2 := hp4.len; omega
            have hb14 := below_tr hb13 hb4
            have HA4 := Lib.hid (Rd.bel HA3.out hb4)
            have HB4 := Lib.hid (Rd.bel HB3.out hb4)
            clear hp4 hf4 hb4 hb13 HA3 HB3
            go_wp2_with fail
            refine (ffactorsR (hp := Hp.out) (D := none) (nd := 0) (cD := 0) (ds := []) HB4.out (by omega) G0.out (by omega) (ints_nil8 _) (fun _ => rfl) (by omega) (by omega)).mono ?_
            rintro e w5 ⟨A5, n5, c5, L5, rfl, hp5, hf5, hb5⟩
            have Hf5 := Lib.hid hf5
            have Hp5 := Lib.hid hp5
            have Hlen5 := Lib.hid hp5.len
            have hn5 : n5 ≤ 10 := by have h1 := hf5.len G0.out; have h2 := hp5.len; omega
            have hb15 := below_tr hb14 hb5
            have HA5 := Lib.hid (Rd.bel HA4.out hb5)
            have HB5 := Lib.hid (Rd.bel HB4.out hb5)
            have Hp45 := Lib.hid (Hp4.out.bel hb5)
            clear hp5 hf5 hb5 hb14 HA4 HB4 Hp4
            go_wp2_with fail
            refine (ltimesB (N := 10) (M := 10) (K := 20) (hp := Hp.out) HA5.out HB5.out hn10 hm10 (by omega) (by omega)).mono ?_
            rintro e w6 ⟨A6, c6, rfl, l6, h6, hb6⟩
            have H6 := Lib.hid h6
            have hb16 := below_tr hb15 hb6
            have Hp46 := Lib.hid (Hp45.out.bel hb6)
            have Hp56 := Lib.hid (Hp5.out.bel hb6)
            clear h6 hb6 hb15 HA5 HB5 Hp45 Hp5
            have Hab := Lib.hid (Poly.mul_ne H0.out G0.out)
            go_wp2_with fail
            refine (ffactorsR (hp := Hp.out) (D := none) (nd := 0) (cD := 0) (ds := []) (Rd.of H6.out) (by omega) Hab.out (by omega) (ints_nil8 _) (fun _ => rfl) (by omega) (by omega)).mono ?_
            rintro e w7 ⟨A7, n7, c7, L7, rfl, hp7, hf7, hb7⟩
            have Hf7 := Lib.hid hf7
            have Hp7 := Lib.hid hp7
            have hn7 : n7 ≤ 20 := by have h1 := hf7.len Hab.out; have h2 := hp7.len; omega
            have hb17 := below_tr hb16 hb7
            have Hp47 := Lib.hid (Hp46.out.bel hb7)
            have Hp57 := Lib.hid (Hp56.out.bel hb7)
            clear hp7 hf7 hb7 hb16 Hp46 Hp56 H6
            have g40 : ¬ (40 : Int) < (n4 : Int) + (n5 : Int) := by omega
            have g40' : decide ((40 : Int) < (n4 : Int) + (n5 : Int)) = false := decide_eq_false g40
            go_wp2_with fail
            refine (theirs9C A4 n4 c4 L4 w7 Hp47.out (by omega) (fac_theirsB H0.out (by omega) Hf4.out)).mono ?_
            rintro e w8 ⟨B8, d8, rfl, hd81, hd82, hd83, hp8, hb8⟩
            have Hp8 := Lib.hid hp8
            have hb18 := below_tr hb17 hb8
            have Hp58 := Lib.hid (Hp57.out.bel hb8)
            have Hp78 := Lib.hid (Hp7.out.bel hb8)
            have Hd81 := Lib.hid hd81
            have Hd82 := Lib.hid hd82
            have Hn4 := Lib.hid (show n4 ≤ 1000000 by omega)
            have Hst : Hid (Poly.IsFac (a * Poly.powF (L5.take 0)) L4) := by show Poly.IsFac (a * 1) L4; rw [CRing.mul_one]; exact Hf4.out
            have Hfin : Hid (∀ L, Poly.IsFac (a * Poly.powF (L5.take n5)) L → L = L7) := fun L hL => by
              rw [List.take_of_length_le (by rw [Hlen5.out]; omega), Hf5.out.powF_monic G0.out] at hL
              refine Poly.IsFac.unique (hL.of_val (b := a * b) fun f hf => ?_) Hf7.out
              rw [hf.val_mul H0.out (Poly.monic_mon G0.out).ne, hf.val_mul H0.out G0.out, hf.val_monic G0.out]
            clear hp8 hb8 hb17 Hp47 Hp57 Hp7 hd81 hd82 hd83 g40 g40' hn4
            go_wp2_with fail
            go_loopw [14, 15] (fun v i wr => ∃ (k na : Nat) (B : Option Addr) (d : Nat) (La : List (Poly (Zp ⟨p, Hp.out⟩) × Nat)), k ≤ n5 ∧ i = .int .i64 (k : Int) ∧ v = .slice B na d ∧ Hid (na ≤ d) ∧ Hid (d ≤ maxLen) ∧ Hid (na ≤ 1000000) ∧ Hid (Prs wr B na La) ∧ Hid (Poly.IsFac (a * Poly.powF (L5.take k)) La) ∧ Below w8.heap.size w8 wr) (fun _ i _ => n5 - (intOf i).toNat)
            case atStart => exact ⟨0, n4, B8, d8, L4, by omega, rfl, rfl, Hd81, Hd82, Hn4, Hp8, Hst, Below.refl _ _⟩
            case round =>
              obtain ⟨k, na, B, d, La, hk, rfl, rfl, hnd, hdm, hna, hB, hfa, hbel⟩ := hrel
              obtain ⟨wo, rfl⟩ : ∃ wo : World, wo = wr := ⟨_, rfl⟩
              by_cases hlt : k < n5
              · obtain ⟨b', o, rfl, hbb, hc⟩ := Hp58.out.at_ (by omega)
                have hkl : k < L5.length := by rw [Hlen5.out]; exact hlt
                obtain ⟨Ai, ci, e1, e2, e3⟩ := hc k hkl
                have hirr := Hf5.out.irr (List.getElem_mem hkl)
                have hsm := Hf5.out.small G0.out (List.getElem_mem hkl)
                have hpl : Hid (∀ j, j ≤ (L5[k]).2 → a * (Poly.powF (L5.take k) * (L5[k]).1 ^ j) ≠ 0 ∧ (a * (Poly.powF (L5.take k) * (L5[k]).1 ^ j)).len ≤ 100) := fun j hj => mid_len H0.out G0.out hal hbl Hf5.out hkl hj
                have htk := Lib.hid (Poly.take_succ_getF L5 hkl)
                clear hc
                generalize L5[k] = x at *
                obtain ⟨f, kk⟩ := x
                simp only at e1 e2 e3 hirr hsm hpl
                obtain ⟨hi1, hi2, hi3⟩ := hirr
                obtain ⟨hs1, hs2, hs3, hs4⟩ := hsm
                have Hirr := Lib.hid hi1
                have i1 : ¬ (kk : Int) < 1 := by omega
                have i2 : ¬ (20 : Int) < (kk : Int) := by omega
                have hd1 : decide ((kk : Int) < 1) = false := decide_eq_false i1
                have hd2 : decide ((20 : Int) < (kk : Int)) = false := decide_eq_false i2
                have hlt' : (k : Int) < (n5 : Int) := by omega
                rw [Nat.mul_comm 2 k] at e1 e2
                rw [← Nat.add_assoc] at e2
                have c2' := (hbel.cell (p := ⟨b', o + k * 2 + 1, none⟩) hbb).trans e2
                have E1 := Lib.hid e1
                have E2 := Lib.hid e2
                have E3 := Lib.hid e3
                have Hpw : Hid (Poly.powF (L5.take (k + 1)) = Poly.powF (L5.take k) * f ^ kk) := by show _ = _; rw [htk.out, Poly.powF_snoc]
                clear e1 e2 e3 hi2 hi3 hi1
                obtain ⟨X, hX⟩ : ∃ X : Nat → Poly (Zp ⟨p, Hp.out⟩), X = fun j => a * (Poly.powF (L5.take k) * f ^ j) := ⟨_, rfl⟩
                have hX0 : Hid (X 0 = a * Poly.powF (L5.take k)) := by show _ = _; rw [hX]; show a * (_ * _ ^ 0) = _; rw [CRing.pow_zero, CRing.mul_one]
                have hXs : Hid (∀ j, X (j + 1) = X j * f) := fun j => by rw [hX]; show a * (_ * _ ^ (j + 1)) = a * (_ * _ ^ j) * _; rw [CRing.pow_succ, CRing.mul_assoc, CRing.mul_assoc]
                have hXk : Hid (X kk = a * Poly.powF (L5.take (k + 1))) := by show _ = _; rw [hX, Hpw.out]
                have hXl : Hid (∀ j, j ≤ kk → X j ≠ 0 ∧ (X j).len ≤ 100) := fun j hj => by rw [hX]; exact hpl.out j hj
                have hfa0 : Hid (Poly.IsFac (X 0) La) := by show Poly.IsFac _ _; rw [hX0.out]; exact hfa.out
                clear hX hpl htk Hpw hX0 hfa
                go_wp2_with fail
                go_loopw [14, 16] (fun v i wr => ∃ (j na : Nat) (B : Option Addr) (d : Nat) (La : List (Poly (Zp ⟨p, Hp.out⟩) × Nat)), j ≤ kk ∧ i = .int .i64 (j : Int) ∧ v = .slice B na d ∧ Hid (na ≤ d) ∧ Hid (d ≤ maxLen) ∧ Hid (na ≤ 1000000) ∧ Hid (Prs wr B na La) ∧ Hid (Poly.IsFac (X j) La) ∧ Below w8.heap.size w8 wr) (fun _ i _ => kk - (intOf i).toNat)
                case atStart => exact ⟨0, na, B, d, La, by omega, rfl, rfl, hnd, hdm, hna, (by first | exact hB | exact Lib.hid (hB.out.bel (below_drewN (Below.refl _ _) _))), hfa0, (by first | exact hbel | exact below_drewN hbel _)⟩
                case round =>
                  obtain ⟨j, nb, B', d', Lb, hj, rfl, rfl, hnd', hdm', hnb, hBj, hfb, hbj⟩ := hrel
                  have d1 := (hbj.cell (p := ⟨b', o + k * 2, none⟩) hbb).trans E1.out
                  have d2 := (hbj.cell (p := ⟨b', o + k * 2 + 1, none⟩) hbb).trans E2.out
                  have HI := Lib.hid (E3.out.bel hbj)
                  obtain ⟨hx0, hxl⟩ := hXl.out j hj
                  have Hx0 := Lib.hid hx0
                  clear hx0
                  by_cases hjl : j < kk
                  · have hjl' : (j : Int) < (kk : Int) := by omega
                    go_wp2_with fail
                    refine (rputR (b := X j) (f := f) hBj.out hnd'.out hdm'.out hnb.out HI.out (by omega) (fac_small Hx0.out hxl hfb.out).2 Hx0.out hfb.out Hirr.out).mono ?_
                    rintro e w9 ⟨B9, m9, d9, L9, rfl, k1, k2, k3, k4, k5, hb9⟩
                    rw [← hXs.out j] at k5
                    have hm9 : Hid (m9 ≤ 1000000) := by
                      obtain ⟨u1, u2⟩ := hXl.out (j + 1) (by omega)
                      have := (fac_small u1 u2 k5).1
                      have := k4.len
                      show _ ≤ _
                      omega
                    have K1 := Lib.hid k1
                    have K2 := Lib.hid k2
                    have K4 := Lib.hid k4
                    have K5 := Lib.hid k5
                    have hb9' := below_tr hbj hb9
                    clear k1 k2 k3 k4 k5 hb9 d1 d2
                    go_wp2_with fail
                    go_roundw
                    case rel => exact ⟨j + 1, m9, B9, d9, L9, by omega, by go_num, rfl, K1, K2, hm9, K4, K5, hb9'⟩
                    case measure => simp [intOf]; omega
                  · obtain rfl : j = kk := by omega
                    have hjl' : ¬ (j : Int) < (j : Int) := by omega
                    have hfb2 := hfb.out
                    rw [hXk.out] at hfb2
                    have Hfb2 := Lib.hid hfb2
                    clear hfb2 hfb
                    go_wp2_with fail
                    go_roundw
                    case rel => exact ⟨k + 1, nb, B', d', Lb, by omega, by go_num, rfl, hnd', hdm', hnb, hBj, Hfb2, hbj⟩
                    case measure => simp [intOf]; omega
              · obtain rfl : k = n5 := by omega
                have hlt' : ¬ (k : Int) < (k : Int) := by omega
                have hLa := Hfin.out La hfa.out
                subst hLa
                obtain rfl : na = n7 := by rw [← hB.out.len, ← Hp78.out.len]
                have Hp7b := Lib.hid (Hp78.out.bel hbel)
                have hb1b := below_tr hb18 hbel
                clear Hp78 hbel hb18 hfa Hfin
                go_wp2_with fail
                refine (theirs9 A7 na c7 La wo Hp7b.out (by omega) (fac_theirsB Hab.out (by omega) Hf7.out)).mono ?_
                rintro e w9 ⟨B9, d9, rfl, hp9, hb9⟩
                have Hp9 := Lib.hid hp9
                have HB9 := Lib.hid (hB.out.bel hb9)
                have hb19 := below_tr hb1b hb9
                clear hp9 hb9 hb1b hB
                go_wp2_with fail
                refine (same9R Hp9.out HB9.out (by omega) (fac_sameB Hab.out (by omega) Hf7.out)).mono ?_
                rintro e w10 ⟨rfl, hb10⟩
                go_wp2_with fail
                go_ret
                exact ⟨rfl, below_tr hb19 hb10⟩
    · have d2 : (10 : Int) < (m : Int) := by omega
      have d2' : decide ((10 : Int) < (m : Int)) = true := decide_eq_true d2
      go_wp2_with fail
      go_ret
      exact ⟨rfl, hb1⟩
  · have d1 : (10 : Int) < (n : Int) := by omega
    have d1' : decide ((10 : Int) < (n : Int)) = true := decide_eq_true d1
    go_wp2_with fail
    go_ret
    exact ⟨rfl, hb1⟩
end Go.Proofs.YtpikakapflebkaaGreat
