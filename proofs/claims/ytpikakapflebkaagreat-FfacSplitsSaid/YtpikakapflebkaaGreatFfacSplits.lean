/- Law: FfacSplits. -/
import Derived.Test.YtpikakapflebkaaGreatRfac
import Derived.Test.YtpikakapflebkaaGreatFfacErr
import Derived.Test.YtpikakapflebkaaGreatFfacDeg
import Derived.Test.YtpikakapflebkaaGreatDegF
namespace Cl
namespace Poly
variable {q : Prm}
theorem pick_monic (S : Poly (Zp q) → Prop) {a : Poly (Zp q)} (ha : a ≠ 0) : pick S a.monic = pick S a := by
  have h1 := pick_spec S (monic_mon ha).ne
  have h2 := pick_spec S ha
  refine h1.1.eq_of_val h2.1 fun f hf => ?_
  rw [h1.2 f hf, h2.2 f hf, hf.val_monic ha]
theorem spl_map {a : Poly (Zp q)} {L : List (Poly (Zp q) × Nat)} (ha : a ≠ 0) (h : IsFac a L) : IsSpl a (L.map (·.1)) := by
  refine ⟨List.pairwise_map.2 h.ord, fun f => ⟨fun hm => ?_, fun ⟨hf, hd⟩ => ?_⟩⟩
  · obtain ⟨x, hx, rfl⟩ := List.mem_map.1 hm
    have h1 := h.irr hx
    exact ⟨h1.1, (h1.1.dvd_val ha).2 (by omega)⟩
  · exact List.mem_map.2 ⟨(f, val f a), (h.mem f _).2 ⟨hf, (hf.dvd_val ha).1 hd, rfl⟩, rfl⟩
/-- The product of those of the first i that are of degree n. -/
noncomputable def midP (L : List (Poly (Zp q) × Nat)) (n i : Nat) : Poly (Zp q) := powF ((L.take i).filter fun x => decide (x.1.len = n + 1))
theorem midP_zero (L : List (Poly (Zp q) × Nat)) (n : Nat) : midP L n 0 = 1 := rfl
theorem midP_yes {L : List (Poly (Zp q) × Nat)} {n i : Nat} (hi : i < L.length) {f : Poly (Zp q)} (h : L[i] = (f, 1)) (hl : f.len = n + 1) : midP L n (i + 1) = midP L n i * f := by
  unfold midP
  rw [take_succ_getF L hi, List.filter_append, h]
  rw [show ([(f, 1)] : List (Poly (Zp q) × Nat)).filter (fun x => decide (x.1.len = n + 1)) = [(f, 1)] by simp [hl], powF_snoc]
  show _ * f ^ 1 = _
  rw [CRing.pow_succ, CRing.pow_zero, CRing.one_mul]
theorem midP_no {L : List (Poly (Zp q) × Nat)} {n i : Nat} (hi : i < L.length) {f : Poly (Zp q)} (h : L[i] = (f, 1)) (hl : f.len ≠ n + 1) : midP L n (i + 1) = midP L n i := by
  unfold midP
  rw [take_succ_getF L hi, List.filter_append, h]
  rw [show ([(f, 1)] : List (Poly (Zp q) × Nat)).filter (fun x => decide (x.1.len = n + 1)) = [] by simp [hl], List.append_nil]
theorem midP_all {a : Poly (Zp q)} {L : List (Poly (Zp q) × Nat)} (ha : a ≠ 0) (h : IsFac a L) (h1 : ∀ x ∈ L, x.2 = 1) (n i : Nat) (hi : L.length ≤ i) : midP L n i = pick (fun f => f.len = n + 1) a.monic := by
  unfold midP
  rw [List.take_of_length_le hi, filt_pick ha h h1, pick_monic _ ha]
end Poly
end Cl
namespace Go.Proofs.YtpikakapflebkaaGreat
open Go.RowKit Cl
attribute [local go_sem ↓] Go.wp_at_zero Go.wp_at_succ

theorem one_rd9 {p : Int} (hp : Pr p) (w : World) : Ints (w.alloc (.cells #[.int .i64 1] 3)) (some ⟨w.heap.size, 0, none⟩) 1 (fromP (1 : Poly (Zp ⟨p, hp⟩))) := one_intsL hp w
set_option maxRecDepth 100000 in
set_option maxHeartbeats 8000000 in
theorem law_FfacSplits (A : Option Addr) (n c : Nat) (xs : List Int) (p : Int) (D : Option Addr) (nd cD : Nat) (ds : List Int) (w : World) (hx : Ints w A n xs) (hn : n * 8 ≤ 140737488351232) (lp : -9223372036854775808 ≤ p) (up : p ≤ 9223372036854775807)
    (hd : Ints w D nd ds) (hd8 : nd * 8 ≤ 140737488351232) (hdn : D = none → cD = 0) (hdc : nd ≤ cD) (hdm : cD ≤ 9223372036854775807) :
    Calls Tryz.prog 6 #[.slice A n c, .int .i64 p, .slice D nd cD] w fun e w' => e = .returned (.bool true) ∧ Below w.heap.size w w' := by
  have Hx := Lib.hid hx
  have Hd := Lib.hid hd
  have Hdn := Lib.hid hdn
  have Hdc := Lib.hid hdc
  have Hdm := Lib.hid hdm
  clear hx hd hdn hdc hdm
  go_enter Tryz.func6, Tryz.ntmps6
  go_wp2_with fail
  refine (awake09 _).mono ?_
  rintro e w1 ⟨rfl, hb1⟩
  have Hx1 := Lib.hid (Hx.out.bel hb1)
  have Hd1 := Lib.hid (Hd.out.bel hb1)
  clear Hx Hd
  cases hpr : isPrime p with
  | false =>
    go_wp2_with fail
    refine (rwrong_no _ _ _ _ _ lp up hpr).mono ?_
    rintro e w' ⟨rfl, rfl⟩
    go_wp2_with fail
    go_ret
    exact ⟨rfl, hb1⟩
  | true =>
    have Hp := Lib.hid ((isPrime_iff p).1 hpr)
    have hp2 := Hp.out.two
    have hpm := Hp.out.max
    clear hpr
    have hal : (toP ⟨p, Hp.out⟩ xs).len ≤ n := len_le_toP (q := ⟨p, Hp.out⟩) Hx1.out.len
    have HA1 := Lib.hid (Rd.of_list (q := ⟨p, Hp.out⟩) Hx1.out)
    generalize toP ⟨p, Hp.out⟩ xs = a at *
    clear Hx1
    by_cases h0 : a = 0
    · have H0 := Lib.hid h0
      clear h0
      go_wp2_with fail
      refine (rwrongR (hp := Hp.out) 8 HA1.out (by omega) (.inl ⟨H0.out, rfl⟩)).mono ?_
      rintro e w2 ⟨rfl, hb2⟩
      go_wp2_with fail
      go_ret
      exact ⟨rfl, below_tr hb1 hb2⟩
    by_cases hl : 65 < a.len
    · have Hl := Lib.hid hl
      clear hl h0
      go_wp2_with fail
      refine (rwrongR (hp := Hp.out) 6 HA1.out (by omega) (.inr (.inl ⟨Hl.out, rfl⟩))).mono ?_
      rintro e w2 ⟨rfl, hb2⟩
      go_wp2_with fail
      go_ret
      exact ⟨rfl, below_tr hb1 hb2⟩
    have H0 := Lib.hid h0
    have hl65 : a.len ≤ 65 := by omega
    clear h0 hl
    go_wp2_with fail
    refine (rwrongR (hp := Hp.out) 0 HA1.out (by omega) (.inr (.inr ⟨H0.out, hl65, rfl⟩))).mono ?_
    rintro e w2 ⟨rfl, hb2⟩
    have hb12 := below_tr hb1 hb2
    have HA2 := Lib.hid (Rd.bel HA1.out hb2)
    have Hd2 := Lib.hid (Hd1.out.bel hb2)
    clear hb1 hb2 HA1 Hd1
    go_wp2_with fail
    refine (lcheap A n c p w2 hp2 hpm).mono ?_
    rintro e w' ⟨r, rfl, rfl, hr⟩
    cases r with
    | false =>
      clear hr
      go_wp2_with fail
      go_ret
      exact ⟨rfl, hb12⟩
    | true =>
      have hn30 := hr rfl
      clear hr
      cases hsq : sqB a with
      | false =>
        have Hs := Lib.hid hsq
        have CM : Hid (∀ W, Below w2.heap.size w2 W → Calls Tryz.prog 38 #[.slice A n c, .int .i64 p] W fun e w' => e = .returned (.tuple #[.slice none 0 0, .int .i64 1]) ∧ Below W.heap.size W w') := fun W hW => fsquareN (hp := Hp.out) (Rd.bel HA2.out hW) (by omega) H0.out hl65 Hs.out
        clear hsq
        go_wp2_with fail
        refine (fsplitE (CM.out _ (Below.refl _ _)) rfl).mono ?_
        rintro e w3 ⟨rfl, hb3⟩
        go_wp2_with fail
        refine (fdegreesE (CM.out _ hb3) rfl).mono ?_
        rintro e w4 ⟨rfl, hb4⟩
        have hb34 := below_tr hb3 hb4
        have HA4 := Lib.hid (Rd.bel HA2.out hb34)
        have hb14 := below_tr hb12 hb34
        clear hb3 hb4 hb12 HA2
        go_wp2_with fail
        refine (rsqfree (hp := Hp.out) HA4.out (by omega) H0.out).mono ?_
        rintro e w5 ⟨rfl, hb5⟩
        rw [Hs.out]
        go_wp2_with fail
        go_ret
        exact ⟨rfl, below_tr hb14 hb5⟩
      | true =>
        have Hs := Lib.hid hsq
        clear hsq
        go_wp2_with fail
        refine (fsplitR (hp := Hp.out) HA2.out (by omega) H0.out hl65 Hs.out Hd2.out Hdn.out Hdc.out Hdm.out).mono ?_
        rintro e w3 ⟨A3, n3, c3, ls, rfl, hpol3, hspl, hb3, _⟩
        have hpol3' := hpol3.pol
        have Hpol3 := Lib.hid hpol3'
        have Hspl := Lib.hid hspl
        have HA3 := Lib.hid (Rd.bel HA2.out hb3)
        have hb13 := below_tr hb12 hb3
        clear hpol3 hpol3' hspl hb3 hb12 HA2 Hd2
        go_wp2_with fail
        refine (fdegR (hp := Hp.out) HA3.out (by omega) H0.out hl65 Hs.out).mono ?_
        rintro e w4 ⟨A4, n4, c4, rfl, hlen4, hpol4, hb4⟩
        rw [Poly.monic_len H0.out] at hlen4
        have Hpol4 := Lib.hid hpol4
        have Hpol34 := Lib.hid (Hpol3.out.bel hb4)
        have HA4 := Lib.hid (Rd.bel HA3.out hb4)
        have hb14 := below_tr hb13 hb4
        clear hpol4 hb4 hb13 HA3 Hpol3
        go_wp2_with fail
        refine (rsqfree (hp := Hp.out) HA4.out (by omega) H0.out).mono ?_
        rintro e w5 ⟨rfl, hb5⟩
        rw [Hs.out]
        have Hpol45 := Lib.hid (Hpol4.out.bel hb5)
        have Hpol35 := Lib.hid (Hpol34.out.bel hb5)
        have HA5 := Lib.hid (Rd.bel HA4.out hb5)
        have hb15 := below_tr hb14 hb5
        clear hb5 hb14 HA4 Hpol4 Hpol34
        go_wp2_with fail
        refine (rfactorsR (hp := Hp.out) HA5.out (by omega) H0.out hl65).mono ?_
        rintro e w6 ⟨A6, n6, c6, L, rfl, hp6, hf6, hb6⟩
        have Hls := Lib.hid (Hspl.out.unique (Poly.spl_map H0.out hf6))
        have H1s : Hid (∀ x ∈ L, x.2 = 1) := fun x hx => by
          have h1 := hf6.irr hx
          have h2 := sq_val H0.out Hs.out x.1 h1.1
          rw [h1.1.val_monic H0.out] at h2
          omega
        have Hall : Hid (∀ k, Poly.midP L (k + 1) n6 = Poly.pick (fun f => f.len = k + 2) a.monic) := fun k => Poly.midP_all H0.out hf6 H1s.out (k + 1) n6 (by rw [hp6.len]; exact Nat.le_refl _)
        have hn6 : n6 ≤ 65 := by have h1 := hf6.len H0.out; have h2 := hp6.len; omega
        have Hsm : Hid (∀ x ∈ L, x.1.len ≤ 65) := fun x hx => by have := hf6.small H0.out hx; omega
        obtain rfl : n3 = n6 := by rw [← Hpol35.out.len, ← hp6.len, Hls.out, List.length_map]
        have HlenL := Lib.hid hp6.len
        have Hp6 := Lib.hid hp6
        have Hpol46 := Lib.hid (Hpol45.out.bel hb6)
        have Hpol36 := Lib.hid (Hpol35.out.bel hb6)
        have HA6 := Lib.hid (Rd.bel HA5.out hb6)
        have hb16 := below_tr hb15 hb6
        clear hp6 hf6 hb6 hb15 HA5 Hpol45 Hpol35 Hspl
        go_wp2_with fail
        refine (qplainR (N := 30) (hp := Hp.out) HA6.out hn30 (by omega)).mono ?_
        rintro e w7 ⟨A7, c7, rfl, l7, h7, hb7⟩
        have Hp7 := Lib.hid (Hp6.out.bel hb7)
        have Hpol47 := Lib.hid (Hpol46.out.bel hb7)
        have Hpol37 := Lib.hid (Hpol36.out.bel hb7)
        have hb17 := below_tr hb16 hb7
        have hn4 : (a.len : Int) - 1 = (n4 : Int) := by omega
        have hne : ((n3 : Int) != (n3 : Int)) = false := by simp
        have hne4 : ((n4 : Int) != (n4 : Int)) = false := by simp
        have Hal : Hid (a.len = n4 + 1) := hlen4.symm
        clear h7 hb7 hb16 HA6 Hpol46 Hpol36 Hp6 hlen4
        go_wp2_with fail
        go_loopw [15] (fun i wr => ∃ k m : Nat, k ≤ n3 ∧ i = .int .i64 (k : Int) ∧ wr = w7.drewN m) (fun i _ => n3 - (intOf i).toNat)
        case atStart => exact ⟨0, 0, by omega, rfl, rfl⟩
        case round =>
          obtain ⟨k, m, hk, rfl, rfl⟩ := hrel
          by_cases hlt : k < n3
          · have hlt' : (k : Int) < (n3 : Int) := by omega
            have hk0 : (0 : Int) ≤ (k : Int) := by omega
            obtain ⟨b, o, rfl, hb, hc⟩ := Hpol37.out.at_ (by omega)
            obtain ⟨b', o', rfl, hb', hc'⟩ := Hp7.out.at_ (by omega)
            have hkl : k < L.length := by rw [HlenL.out]; exact hlt
            have hks : k < ls.length := by rw [Hls.out, List.length_map]; exact hkl
            obtain ⟨Ai, ci, e1, e3⟩ := hc k hks
            obtain ⟨Bi, di, g1, g2, g3⟩ := hc' k hkl
            have hee : ls[k] = (L[k]).1 := by have h1 := Hls.out; simp only [h1, List.getElem_map]
            rw [hee] at e1 e3
            have hsm := Hsm.out _ (List.getElem_mem hkl)
            clear hc hc' hee
            generalize L[k] = x at *
            obtain ⟨f, kk⟩ := x
            simp only at e1 e3 g1 g2 g3 hsm
            rw [Nat.mul_comm 2 k] at g1
            have E3 := Lib.hid e3
            have G3 := Lib.hid g3
            clear e3 g3 g2
            go_wp2_with fail
            go_quiet ((go_at_call 18; first | exact quiet_add_ex (same06_true _ _ _ _ _ _ _ (E3.out.drewN _) (G3.out.drewN _) (by omega)) | exact quiet_ex (same06_true _ _ _ _ _ _ _ (E3.out.drewN _) (G3.out.drewN _) (by omega))))
            go_wp2_with fail
            go_roundw
            case rel => exact ⟨k + 1, _, by omega, by go_num, by first | rfl | exact World.drewN_drewN _ _ _⟩
            case measure => simp [intOf]; omega
          · obtain rfl : k = n3 := by omega
            have hlt' : ¬ (k : Int) < (k : Int) := by omega
            have hbd : Below w7.heap.size w7 (w7.drewN m) := below_drewN (Below.refl _ _) _
            have Hp8 := Lib.hid (Hp7.out.bel hbd)
            have Hpol8 := Lib.hid (Hpol47.out.bel hbd)
            have hb18 := below_tr hb17 hbd
            clear hbd hb17 Hp7 Hpol47 Hpol37
            generalize w7.drewN m = w8 at *
            have hal1 : (a.len : Int) = (n4 : Int) + 1 := by omega
            go_wp2_with fail
            go_loopw [16] (fun i wr => ∃ j : Nat, j ≤ n4 ∧ i = .int .i64 ((j : Int) + 1) ∧ Below w8.heap.size w8 wr) (fun i _ => n4 + 1 - (intOf i).toNat)
            case atStart => exact ⟨0, by omega, rfl, Below.refl _ _⟩
            case round =>
              obtain ⟨j, hj, rfl, hbel⟩ := hrel
              obtain ⟨wo, rfl⟩ : ∃ wo : World, wo = wr := ⟨_, rfl⟩
              by_cases hjl : j < n4
              · have hjl' : (j : Int) + 1 < (a.len : Int) := by omega
                have Hone := Lib.hid (one_rd9 Hp.out wo)
                have hal2 : Below wo.heap.size wo (wo.alloc (.cells #[.int .i64 1] 3)) := (Below.refl _ _).alloc (Nat.le_refl _) _
                have hbel2 := Lib.hid (below_tr hbel hal2)
                have Hst : Hid (Poly.midP L (j + 1) 0 = 1) := Poly.midP_zero L (j + 1)
                have H1l : Hid ((1 : Poly (Zp ⟨p, Hp.out⟩)).len = 1) := Poly.len_one
                have Hfin := Lib.hid (Hall.out j)
                clear hal2
                go_wp2_with fail
                go_loopw [17, 18] (fun v i wr => ∃ (k2 : Nat) (B : Option Addr) (d : Nat), k2 ≤ k ∧ i = .int .i64 (k2 : Int) ∧ v = .slice B (Poly.midP L (j + 1) k2).len d ∧ (Poly.midP L (j + 1) k2).len ≤ 65 * k2 + 1 ∧ Hid (Ints wr B (Poly.midP L (j + 1) k2).len (fromP (Poly.midP L (j + 1) k2))) ∧ Hid (Below w8.heap.size w8 wr)) (fun _ i _ => k - (intOf i).toNat)
                case atStart => exact ⟨0, some ⟨wo.heap.size, 0, none⟩, 1, by omega, rfl, by rw [Hst.out, H1l.out], by rw [Hst.out, H1l.out]; omega, by show Ints _ _ _ _; rw [Hst.out, H1l.out]; exact Hone.out, hbel2⟩
                case round =>
                  obtain ⟨k2, B, d, hk2, rfl, rfl, hml, hB, hb2⟩ := hrel
                  obtain ⟨w9, rfl⟩ : ∃ wo : World, wo = wr := ⟨_, rfl⟩
                  by_cases hk2l : k2 < k
                  · have hk2' : (k2 : Int) < (k : Int) := by omega
                    obtain ⟨b', o', rfl, hb', hc'⟩ := Hp8.out.at_ (by omega)
                    have hkl : k2 < L.length := by rw [HlenL.out]; exact hk2l
                    obtain ⟨Bi, di, g1, g2, g3⟩ := hc' k2 hkl
                    have hsm := Hsm.out _ (List.getElem_mem hkl)
                    have h1s := H1s.out _ (List.getElem_mem hkl)
                    have Hyes : Hid (∀ f, L[k2] = (f, 1) → f.len = j + 1 + 1 → Poly.midP L (j + 1) (k2 + 1) = Poly.midP L (j + 1) k2 * f) := fun f h1 h2 => Poly.midP_yes hkl h1 h2
                    have Hno : Hid (∀ f, L[k2] = (f, 1) → f.len ≠ j + 1 + 1 → Poly.midP L (j + 1) (k2 + 1) = Poly.midP L (j + 1) k2) := fun f h1 h2 => Poly.midP_no hkl h1 h2
                    clear hc'
                    generalize L[k2] = x at *
                    obtain ⟨f, kk⟩ := x
                    simp only at g1 g2 g3 hsm h1s
                    subst h1s
                    rw [Nat.mul_comm 2 k2] at g1
                    have g1' := (hb2.out.cell (p := ⟨b', o' + k2 * 2, none⟩) hb').trans g1
                    have G3 := Lib.hid (g3.bel hb2.out)
                    clear g1 g2 g3
                    by_cases hfl : f.len = j + 1 + 1
                    · have q1 : ((f.len : Int) == (j : Int) + 1 + 1) = true := beq_iff_eq.2 (by omega)
                      have q2 : ((f.len : Int) == (j : Int) + 2) = true := beq_iff_eq.2 (by omega)
                      have He := Lib.hid (Hyes.out f rfl hfl)
                      clear hfl Hyes Hno
                      go_wp2_with fail
                      refine (qtimesR (N := 65 * k2 + 1) (M := 65) (K := 65 * k2 + 66) (hp := Hp.out) (Rd.of hB.out) (Rd.of G3.out) hml hsm (by omega) (by omega)).mono ?_
                      rintro e w10 ⟨A10, c10, rfl, l10, h10, hb10⟩
                      rw [← He.out] at l10 h10 ⊢
                      have H10 := Lib.hid h10
                      have hb3 := Lib.hid (below_tr hb2.out hb10)
                      clear h10 hb10
                      go_wp2_with fail
                      go_roundw
                      case rel => exact ⟨k2 + 1, A10, c10, by omega, by go_num, rfl, by omega, H10, hb3⟩
                      case measure => simp [intOf]; omega
                    · have q1 : ((f.len : Int) == (j : Int) + 1 + 1) = false := beq_eq_false_iff_ne.2 (by omega)
                      have q2 : ((f.len : Int) == (j : Int) + 2) = false := beq_eq_false_iff_ne.2 (by omega)
                      have He := Lib.hid (Hno.out f rfl hfl)
                      clear hfl Hyes Hno
                      go_wp2_with fail
                      go_roundw
                      case rel => exact ⟨k2 + 1, B, d, by omega, by go_num, by rw [He.out], by rw [He.out]; omega, by show Ints _ _ _ _; rw [He.out]; exact hB.out, hb2⟩
                      case measure => simp [intOf]; omega
                  · obtain rfl : k2 = k := by omega
                    have hk2' : ¬ (k2 : Int) < (k2 : Int) := by omega
                    have hB2 := hB.out
                    rw [Hfin.out] at hB2 hml ⊢
                    have HB2 := Lib.hid hB2
                    obtain ⟨b4, o4, rfl, hb4, hc4⟩ := Hpol8.out.at_ (by omega)
                    obtain ⟨A5, c5, e1, e3⟩ := hc4 j (by rw [Poly.degL_length]; exact hjl)
                    rw [Poly.degL_get] at e1 e3
                    have e1' := (hb2.out.cell (p := ⟨b4, o4 + j, none⟩) hb4).trans e1
                    have E3 := Lib.hid (e3.bel hb2.out)
                    have hj4 : (j : Int) < (n4 : Int) := by omega
                    have hj0 : (0 : Int) ≤ (j : Int) := by omega
                    clear hB hB2 hc4 e1 e3
                    generalize Poly.pick (fun f : Poly (Zp ⟨p, Hp.out⟩) => f.len = j + 2) a.monic = P at *
                    go_wp2_with fail
                    refine (same6R (N := 10000) (hp := Hp.out) HB2.out E3.out (by omega) (by omega) rfl).mono ?_
                    rintro e w10 ⟨rfl, hb10⟩
                    have hb3 := below_tr hb2.out hb10
                    clear hb10
                    go_wp2_with fail
                    go_roundw
                    case rel => exact ⟨j + 1, by omega, by go_num, hb3⟩
                    case measure => simp [intOf]; omega
              · obtain rfl : j = n4 := by omega
                have hjl' : ¬ (j : Int) + 1 < (a.len : Int) := by omega
                go_wp2_with fail
                go_ret
                exact ⟨rfl, below_tr hb18 hbel⟩
end Go.Proofs.YtpikakapflebkaaGreat
