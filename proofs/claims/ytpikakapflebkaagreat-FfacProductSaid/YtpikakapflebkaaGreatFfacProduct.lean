/- Law: FfacProduct. -/
import Derived.Test.YtpikakapflebkaaGreatLaw9Base
import Derived.Test.YtpikakapflebkaaGreatFacP
namespace Go.Proofs.YtpikakapflebkaaGreat
open Go.RowKit Cl
attribute [local go_sem ↓] Go.wp_at_zero Go.wp_at_succ

section
variable {A B : Option Addr} {n m c d N M K : Nat} {p : Int} {w : World} {hp : Pr p} {a b : Poly (Zp ⟨p, hp⟩)}
theorem ltimes9R (ha : Rd w A n a) (hb : Rd w B m b) (hn : n ≤ N) (hm : m ≤ M) (hK : N + M ≤ K) (hK2 : K ≤ 900000000) :
    Calls Tryz.prog 10 #[.slice A n c, .slice B m d, .int .i64 p] w (GivesR w K (a * b)) := by
  have C := Lib.hid (mulR (c := c) (d := d) ha hb hn hm hK hK2)
  clear ha hb
  go_enter Tryz.func10, Tryz.ntmps10
  go_wp2_with fail
  refine C.out.mono ?_
  rintro e w1 ⟨A1, c1, rfl, l1, h1, hb1⟩
  go_wp2_with fail
  go_ret
  exact ⟨_, _, rfl, l1, h1, hb1⟩
/-- The last coefficient alone, as a constant. -/
theorem lc_ints9 (h0 : a ≠ 0) : Ints (w.alloc (.cells #[.int .i64 (nth (fromP a) (a.len - 1))] 3)) (some ⟨w.heap.size, 0, none⟩) (Poly.C a.lc).len (fromP (Poly.C a.lc)) := by
  have e : fromP (Poly.C a.lc) = [nth (fromP a) (a.len - 1)] := by
    have h1 : Poly.C a.lc = toP ⟨p, hp⟩ [nth (fromP a) (a.len - 1)] := by rw [toP_one, fromP_top h0]
    rw [h1]
    refine IsPl.eq_fromP (q := ⟨p, hp⟩) ⟨fun i => ?_, fun _ => ?_⟩
    · match i with
      | 0 => exact fromP_lt a (a.len - 1)
      | i + 1 => rw [nth_ge (by simp)]; have := hp.two; show 0 ≤ (0 : Int) ∧ (0 : Int) < p; omega
    · have h2 := (fromP_pl a).top (by rw [fromP_length]; exact Poly.len_pos h0)
      rw [fromP_length] at h2
      exact h2
  have hlen : (Poly.C a.lc).len = 1 := by
    have := congrArg List.length e
    rw [fromP_length] at this
    exact this
  rw [e, hlen]
  exact (Row.new w 3 [nth (fromP a) (a.len - 1)]).ints (fun i => by
    match i with
    | 0 => exact fromP_i64 a (a.len - 1)
    | i + 1 => rw [nth_ge (by simp)]; exact I64.zero)
end

set_option maxRecDepth 100000 in
set_option maxHeartbeats 8000000 in
theorem law_FfacProduct (A : Option Addr) (n c : Nat) (xs : List Int) (p : Int) (D : Option Addr) (nd cD : Nat) (ds : List Int) (w : World) (hx : Ints w A n xs) (hn : n * 8 ≤ 140737488351232) (lp : -9223372036854775808 ≤ p) (up : p ≤ 9223372036854775807)
    (hd : Ints w D nd ds) (hd8 : nd * 8 ≤ 140737488351232) (hdn : D = none → cD = 0) (hdc : nd ≤ cD) (hdm : cD ≤ 9223372036854775807) :
    Calls Tryz.prog 4 #[.slice A n c, .int .i64 p, .slice D nd cD] w fun e w' => e = .returned (.bool true) ∧ Below w.heap.size w w' := by
  have Hx := Lib.hid hx
  have Hd := Lib.hid hd
  have Hdn := Lib.hid hdn
  have Hdc := Lib.hid hdc
  have Hdm := Lib.hid hdm
  clear hx hd hdn hdc hdm
  go_enter Tryz.func4, Tryz.ntmps4
  go_wp2_with fail
  refine (awake09 _).mono ?_
  rintro e w1 ⟨rfl, hb1⟩
  have Hx1 := Lib.hid (Hx.out.bel hb1)
  have Hd1 := Lib.hid (Hd.out.bel hb1)
  clear Hx Hd
  by_cases hl : n ≤ 17
  · cases hpr : isPrime p with
    | false =>
      go_wp2_with fail
      refine (great_no hl lp up hpr).mono ?_
      rintro e w2 ⟨rfl, hb2⟩
      go_wp2_with fail
      go_ret
      exact ⟨rfl, below_tr hb1 hb2⟩
    | true =>
      have Hp := Lib.hid ((isPrime_iff p).1 hpr)
      clear hpr
      have hal : (toP ⟨p, Hp.out⟩ xs).len ≤ 17 := by have := len_le_toP (q := ⟨p, Hp.out⟩) Hx1.out.len; omega
      have HA := Lib.hid (Rd.of_list (q := ⟨p, Hp.out⟩) Hx1.out)
      generalize toP ⟨p, Hp.out⟩ xs = a at *
      clear Hx1
      by_cases h0 : a = 0
      · have H0 := Lib.hid h0
        clear h0
        go_wp2_with fail
        refine (greatR (hp := Hp.out) true hl HA.out (.inl ⟨H0.out, rfl⟩)).mono ?_
        rintro e w2 ⟨rfl, hb2⟩
        go_wp2_with fail
        go_ret
        exact ⟨rfl, below_tr hb1 hb2⟩
      · have H0 := Lib.hid h0
        clear h0
        go_wp2_with fail
        refine (greatR (hp := Hp.out) false hl HA.out (.inr ⟨H0.out, rfl⟩)).mono ?_
        rintro e w2 ⟨rfl, hb2⟩
        have hb12 := below_tr hb1 hb2
        have HA2 := Lib.hid (Rd.bel HA.out hb2)
        have Hd2 := Lib.hid (Hd1.out.bel hb2)
        clear hb1 hb2 HA Hd1
        by_cases hd40 : nd ≤ 40
        · have d1 : ¬ (40 : Int) < (nd : Int) := by omega
          have d2 : decide ((40 : Int) < (nd : Int)) = false := decide_eq_false d1
          go_wp2_with fail
          refine (ffactorsR (hp := Hp.out) HA2.out (by omega) H0.out (by omega) Hd2.out Hdn.out Hdc.out Hdm.out).mono ?_
          rintro e w3 ⟨A3, n3, c3, L3, rfl, hp3, hf3, hb3⟩
          have Hf3 := Lib.hid hf3
          have hlenL := hp3.len
          have hn3 : n3 ≤ 17 := by have h1 := hf3.len H0.out; omega
          have hb13 := below_tr hb12 hb3
          have HA3 := Lib.hid (Rd.bel HA2.out hb3)
          have Hp3 := Lib.hid hp3
          clear hp3 hf3 hb3 hb12 HA2 Hd2
          go_wp2_with fail
          refine (normR (N := 17) (hp := Hp.out) HA3.out hl (by omega)).mono ?_
          rintro e w4 ⟨A4, c4, rfl, l4, h4, hb4⟩
          have Hp4 := Lib.hid (Hp3.out.bel hb4)
          have hb14 := below_tr hb13 hb4
          have hlp := Poly.len_pos H0.out
          have H4 := Lib.hid h4
          obtain ⟨bx, ox, rfl, hbx, hcx⟩ := h4.at_ hlp
          have hcl := hcx (a.len - 1) (by omega)
          have ea : ((a.len : Int) - 1).toNat = a.len - 1 := by omega
          have eb : (0 : Int) ≤ (a.len : Int) - 1 := by omega
          have ec : (a.len : Int) - 1 < (a.len : Int) := by omega
          have g0 : ((a.len : Int) == 0) = false := beq_eq_false_iff_ne.2 (by omega)
          have Hlc := Lib.hid (lc_ints9 (hp := Hp.out) (w := w4) H0.out)
          have HlenL := Lib.hid hlenL
          have Hst : Hid (Poly.C a.lc * Poly.powF (L3.take 0) = Poly.C a.lc) := by show _ * (1 : Poly _) = _; rw [CRing.mul_one]
          have Hfin : Hid (Poly.C a.lc * Poly.powF (L3.take n3) = a) := by
            show _ = _
            rw [List.take_of_length_le (by omega), Hf3.out.powF_monic H0.out, Poly.C_lc_monic H0.out]
          have hC1 : (Poly.C a.lc).len = 1 := by rw [← CRing.mul_one (Poly.C a.lc), Poly.len_C_mul (Poly.lc_ne H0.out), Poly.len_one]
          have HC1 := Lib.hid hC1
          have hal2 : Below w4.heap.size w4 (w4.alloc (.cells #[.int .i64 (nth (fromP a) (a.len - 1))] 3)) := (Below.refl _ _).alloc (Nat.le_refl _) _
          clear hC1 hcx h4 hlenL hb4 hb13 HA3 Hp3 d1 d2
          go_wp2_with fail
          go_loopw [12, 13] (fun v i wr => ∃ (k : Nat) (B : Option Addr) (d : Nat), k ≤ n3 ∧ i = .int .i64 (k : Int) ∧ v = .slice B (Poly.C a.lc * Poly.powF (L3.take k)).len d ∧ Hid (Ints wr B (Poly.C a.lc * Poly.powF (L3.take k)).len (fromP (Poly.C a.lc * Poly.powF (L3.take k)))) ∧ Below w4.heap.size w4 wr) (fun _ i _ => n3 - (intOf i).toNat)
          case atStart => exact ⟨0, some ⟨w4.heap.size, 0, none⟩, 1, by omega, rfl, by rw [Hst.out, HC1.out], by show Ints _ _ _ _; rw [Hst.out]; exact Hlc.out, hal2⟩
          case round =>
            obtain ⟨k, B, d, hk, rfl, rfl, hB, hbel⟩ := hrel
            clear hcl ea eb ec hal2 Hlc g0
            obtain ⟨wo, rfl⟩ : ∃ wo : World, wo = wr := ⟨_, rfl⟩
            by_cases hlt : k < n3
            · obtain ⟨b, o, rfl, hb, hc⟩ := Hp4.out.at_ (by omega)
              have hkl : k < L3.length := by rw [HlenL.out]; exact hlt
              obtain ⟨Ai, ci, e1, e2, e3⟩ := hc k hkl
              have hirr := Hf3.out.irr (List.getElem_mem hkl)
              have hsm := Hf3.out.small H0.out (List.getElem_mem hkl)
              have hprev : Hid (∀ (j : Nat) (hj : j < L3.length), k = j + 1 → lessI (fromP (L3[j]).1) (fromP (L3[k]).1) = true) := fun j hj e => lessI_iff.2 (List.pairwise_iff_getElem.1 Hf3.out.ord j k hj hkl (by omega))
              have hpl : Hid (∀ j, j ≤ (L3[k]).2 → (Poly.C a.lc * (Poly.powF (L3.take k) * (L3[k]).1 ^ j)).len ≤ a.len) := fun j hj => Hf3.out.part_len H0.out hkl hj
              have htk := Lib.hid (Poly.take_succ_getF L3 hkl)
              have Hc := Lib.hid hc
              clear hc
              generalize L3[k] = x at *
              obtain ⟨f, kk⟩ := x
              simp only at e1 e2 e3 hirr hsm hprev hpl
              obtain ⟨hi1, hi2, hi3⟩ := hirr
              obtain ⟨hs1, hs2, hs3, hs4⟩ := hsm
              have Hirr := Lib.hid hi1
              have i1 : ¬ (kk : Int) < 1 := by omega
              have i2 : ¬ (20 : Int) < (kk : Int) := by omega
              have i3 : ¬ (f.len : Int) < 2 := by omega
              have hlt' : (k : Int) < (n3 : Int) := by omega
              rw [Nat.mul_comm 2 k] at e1 e2
              rw [← Nat.add_assoc] at e2
              have c1' := (hbel.cell (p := ⟨b, o + k * 2, none⟩) hb).trans e1
              have c2' := (hbel.cell (p := ⟨b, o + k * 2 + 1, none⟩) hb).trans e2
              have E1 := Lib.hid e1
              have E2 := Lib.hid e2
              have e30 := Lib.hid e3
              have E3 := Lib.hid (e3.bel hbel)
              have Hpw : Hid (Poly.powF (L3.take (k + 1)) = Poly.powF (L3.take k) * f ^ kk) := by show _ = _; rw [htk.out, Poly.powF_snoc]
              have hmon1 := Lib.hid (fromP_mon9 hi1.mon)
              clear e1 e2 e3 hi2 hi3 hi1
              obtain ⟨X, hX⟩ : ∃ X : Nat → Poly (Zp ⟨p, Hp.out⟩), X = fun j => Poly.C a.lc * (Poly.powF (L3.take k) * f ^ j) := ⟨_, rfl⟩
              have hX0 : Hid (X 0 = Poly.C a.lc * Poly.powF (L3.take k)) := by show _ = _; rw [hX]; show Poly.C a.lc * (_ * _ ^ 0) = _; rw [CRing.pow_zero, CRing.mul_one]
              have hXs : Hid (∀ j, X (j + 1) = X j * f) := fun j => by rw [hX]; show Poly.C a.lc * (_ * _ ^ (j + 1)) = Poly.C a.lc * (_ * _ ^ j) * _; rw [CRing.pow_succ, CRing.mul_assoc, CRing.mul_assoc]
              have hXk : Hid (X kk = Poly.C a.lc * Poly.powF (L3.take (k + 1))) := by show _ = _; rw [hX, Hpw.out]
              have hXl : Hid (∀ j, j ≤ kk → (X j).len ≤ a.len) := fun j hj => by rw [hX]; exact hpl.out j hj
              have hBq := hB
              clear hX hpl htk Hpw
              have ek : k = 0 ∨ ∃ m, k = m + 1 := by rcases k with _ | m; exact .inl rfl; exact .inr ⟨m, rfl⟩
              -- the walk to the factor's test
              go_wp2_with fail
              refine (firrR (hp := Hp.out) (c := ci) (Rd.of E3.out) (by omega) Hirr.out.ne (by omega)).mono ?_
              rintro e w5 ⟨r, rfl, hr, hb5⟩
              obtain rfl : r = true := hr.2 (by rw [Hirr.out.mon.monic_eq]; exact Hirr.out)
              have hbel5 := below_tr hbel hb5
              have E5 := Lib.hid (E3.out.bel hb5)
              obtain ⟨bq, oq, rfl, hbq, hcq⟩ := E5.out.at_ (by omega)
              have hq1 := hcq (f.len - 1) (by omega)
              rw [hmon1.out] at hq1
              have fa : ((f.len : Int) - 1).toNat = f.len - 1 := by omega
              have fb : (0 : Int) ≤ (f.len : Int) - 1 := by omega
              have fc : (f.len : Int) - 1 < (f.len : Int) := by omega
              have HB5 := Lib.hid (hBq.out.bel hb5)
              have k1 := (hbel5.cell (p := ⟨b, o + k * 2 + 1, none⟩) hb).trans E2.out
              have hd1 : decide ((kk : Int) < 1) = false := decide_eq_false (by omega)
              have hd2 : decide ((20 : Int) < (kk : Int)) = false := decide_eq_false (by omega)
              have hd3 : decide ((f.len : Int) < 2) = false := decide_eq_false (by omega)
              clear hcq hr c1' c2' hb5 hB hBq
              rcases ek with rfl | ⟨m, rfl⟩
              · simp only [Nat.zero_mul, Nat.add_zero] at k1 E1 E2
                rw [show ((0 : Nat) : Int) = 0 from rfl] at hlt' ⊢
                go_wp2_with fail
                go_loopw [12, 17] (fun v i wr => ∃ (j : Nat) (B : Option Addr) (d : Nat), j ≤ kk ∧ i = .int .i64 (j : Int) ∧ v = .slice B (X j).len d ∧ Hid (Ints wr B (X j).len (fromP (X j))) ∧ Below w4.heap.size w4 wr) (fun _ i _ => kk - (intOf i).toNat)
                case atStart => exact ⟨0, B, d, by omega, rfl, (by rw [hX0.out] <;> rfl), by show Ints _ _ _ _; rw [hX0.out]; first | exact HB5.out | exact HB5.out.bel (below_drewN (Below.refl _ _) _), by first | exact hbel5 | exact below_drewN hbel5 _⟩
                case round =>
                  obtain ⟨j, B', d', hj, rfl, rfl, hBj, hbj⟩ := hrel
                  have d1 := (hbj.cell (p := ⟨b, o, none⟩) hb).trans E1.out
                  have d2 := (hbj.cell (p := ⟨b, o + 1, none⟩) hb).trans E2.out
                  have HI := Lib.hid (e30.out.bel hbj)
                  have hxl := hXl.out j hj
                  by_cases hjl : j < kk
                  · have hjl' : (j : Int) < (kk : Int) := by omega
                    go_wp2_with fail
                    refine (ltimes9R (N := 60) (M := 60) (K := 120) (hp := Hp.out) (Rd.of hBj.out) (Rd.of HI.out) (by omega) (by omega) (by omega) (by omega)).mono ?_
                    rintro e w7 ⟨A7, c7, rfl, l7, h7, hb7⟩
                    rw [← hXs.out j] at h7 l7 ⊢
                    have H7 := Lib.hid h7
                    have hb7' := below_tr hbj hb7
                    clear h7 hb7 d1 d2
                    go_wp2_with fail
                    go_roundw
                    case rel => exact ⟨j + 1, A7, c7, by omega, by go_num, rfl, H7, hb7'⟩
                    case measure => simp [intOf]; omega
                  · obtain rfl : j = kk := by omega
                    have hjl' : ¬ (j : Int) < (j : Int) := by omega
                    have hB2 := hBj.out
                    rw [hXk.out] at hB2 ⊢
                    have HB2 := Lib.hid hB2
                    clear hB2 hBj
                    go_wp2_with fail
                    go_roundw
                    case rel => exact ⟨1, B', d', by omega, by go_num, rfl, HB2, hbj⟩
                    case measure => simp [intOf]; omega
              · rw [show ((m + 1 : Nat) : Int) = (m : Int) + 1 from rfl] at hlt' ⊢
                have hm1 : m < L3.length := by rw [HlenL.out]; omega
                have hless := hprev.out m hm1 rfl
                obtain ⟨Am, cm, f1, f2, f3⟩ := Hc.out m hm1
                have hml := (Hf3.out.small H0.out (List.getElem_mem hm1)).2.1
                generalize L3[m] = y at *
                obtain ⟨g, jj⟩ := y
                simp only at f1 f2 f3 hless hml
                rw [Nat.mul_comm 2 m] at f1
                have c3' := (hbel5.cell (p := ⟨b, o + m * 2, none⟩) hb).trans f1
                have F3 := Lib.hid (f3.bel hbel5)
                have CL : Hid (∀ W, Below w5.heap.size w5 W → Calls Tryz.prog 17 #[.slice Am g.len cm, .slice (some ⟨bq, oq, none⟩) f.len ci] W fun e w' => e = .returned (.bool true) ∧ ∃ k, w' = W.drewN k) := fun W hW => by
                  have h := fless_any Am (some ⟨bq, oq, none⟩) g.len f.len cm ci (fromP g) (fromP f) W (F3.out.bel hW) (E5.out.bel hW) (by omega) (by omega)
                  rw [hless] at h
                  exact h
                clear f1 f2 f3 hless
                go_wp2_with fail
                refine (CL.out _ (Below.refl _ _)).mono ?_
                rintro e w6 ⟨rfl, k6, rfl⟩
                go_wp2_with fail
                go_loopw [12, 17] (fun v i wr => ∃ (j : Nat) (B : Option Addr) (d : Nat), j ≤ kk ∧ i = .int .i64 (j : Int) ∧ v = .slice B (X j).len d ∧ Hid (Ints wr B (X j).len (fromP (X j))) ∧ Below w4.heap.size w4 wr) (fun _ i _ => kk - (intOf i).toNat)
                case atStart => exact ⟨0, B, d, by omega, rfl, (by rw [hX0.out] <;> rfl), by show Ints _ _ _ _; rw [hX0.out]; first | exact HB5.out | exact HB5.out.bel (below_drewN (Below.refl _ _) _), by first | exact hbel5 | exact below_drewN hbel5 _⟩
                case round =>
                  obtain ⟨j, B', d', hj, rfl, rfl, hBj, hbj⟩ := hrel
                  have d1 := (hbj.cell (p := ⟨b, o + (m + 1) * 2, none⟩) hb).trans E1.out
                  have d2 := (hbj.cell (p := ⟨b, o + (m + 1) * 2 + 1, none⟩) hb).trans E2.out
                  have HI := Lib.hid (e30.out.bel hbj)
                  have hxl := hXl.out j hj
                  by_cases hjl : j < kk
                  · have hjl' : (j : Int) < (kk : Int) := by omega
                    go_wp2_with fail
                    refine (ltimes9R (N := 60) (M := 60) (K := 120) (hp := Hp.out) (Rd.of hBj.out) (Rd.of HI.out) (by omega) (by omega) (by omega) (by omega)).mono ?_
                    rintro e w7 ⟨A7, c7, rfl, l7, h7, hb7⟩
                    rw [← hXs.out j] at h7 l7 ⊢
                    have H7 := Lib.hid h7
                    have hb7' := below_tr hbj hb7
                    clear h7 hb7 d1 d2
                    go_wp2_with fail
                    go_roundw
                    case rel => exact ⟨j + 1, A7, c7, by omega, by go_num, rfl, H7, hb7'⟩
                    case measure => simp [intOf]; omega
                  · obtain rfl : j = kk := by omega
                    have hjl' : ¬ (j : Int) < (j : Int) := by omega
                    have hB2 := hBj.out
                    rw [hXk.out] at hB2 ⊢
                    have HB2 := Lib.hid hB2
                    clear hB2 hBj
                    go_wp2_with fail
                    go_roundw
                    case rel => exact ⟨m + 1 + 1, B', d', by omega, by go_num, rfl, HB2, hbj⟩
                    case measure => simp [intOf]; omega
            · obtain rfl : k = n3 := by omega
              have hlt' : ¬ (k : Int) < (k : Int) := by omega
              have hB2 := hB.out
              rw [Hfin.out] at hB2 ⊢
              have HB := Lib.hid hB2
              have H49 := Lib.hid (H4.out.bel hbel)
              clear hB hB2
              go_wp2_with fail
              refine (same6R (N := 17) (hp := Hp.out) HB.out H49.out hal (by omega) rfl).mono ?_
              rintro e w9 ⟨rfl, hb9⟩
              go_wp2_with fail
              go_ret
              exact ⟨rfl, below_tr (below_tr hb14 hbel) hb9⟩
        · have d1 : (40 : Int) < (nd : Int) := by omega
          have d2 : decide ((40 : Int) < (nd : Int)) = true := decide_eq_true d1
          go_wp2_with fail
          go_ret
          exact ⟨rfl, hb12⟩
  · go_wp2_with fail
    refine (great_big (by omega)).mono ?_
    rintro e w2 ⟨rfl, hb2⟩
    go_wp2_with fail
    go_ret
    exact ⟨rfl, below_tr hb1 hb2⟩
end Go.Proofs.YtpikakapflebkaaGreat
