/- Law: FfacAll. -/
import Derived.Test.YtpikakapflebkaaGreatRfac
import Derived.Test.YtpikakapflebkaaGreatFfacErr
namespace Go.Proofs.YtpikakapflebkaaGreat
open Go.RowKit Cl
attribute [local go_sem ↓] Go.wp_at_zero Go.wp_at_succ

section
variable {q : Prm}
theorem fac_theirsA {a : Poly (Zp q)} {L : List (Poly (Zp q) × Nat)} (ha : a ≠ 0) (hl : a.len ≤ 100) (h : Poly.IsFac a L) : ∀ x ∈ L, 0 < x.1.len ∧ x.1.len ≤ 900000000 ∧ x.2 ≤ 900000000 := fun x hx => by
  have := h.small ha hx
  omega
theorem fac_sameA {a : Poly (Zp q)} {L : List (Poly (Zp q) × Nat)} (ha : a ≠ 0) (hl : a.len ≤ 100) (h : Poly.IsFac a L) : ∀ i (hi : i < L.length), (L[i]).1.len ≤ 900000000 ∧ (L[i]).2 ≤ 900000000 := fun i hi => by
  have := h.small ha (List.getElem_mem hi)
  omega
/-- One factor, once: that is irreducible. -/
theorem irr_iff {a : Poly (Zp q)} {L : List (Poly (Zp q) × Nat)} (ha : a ≠ 0) (h : Poly.IsFac a L) : a.monic.Irr ↔ ∃ f, L = [(f, 1)] := by
  constructor
  · intro hi
    have h1 : Poly.IsFac a.monic [(a.monic, 1)] := Poly.IsFac.of_powF hi.ne (List.pairwise_singleton _ _) (fun x hx => by rw [List.mem_singleton.1 hx]; exact ⟨hi, Nat.le_refl _⟩) (by
      rw [hi.mon.monic_eq, show ([(a.monic, 1)] : List (Poly (Zp q) × Nat)) = [] ++ [(a.monic, 1)] from rfl, Poly.powF_snoc, Poly.powF_nil, CRing.one_mul, CRing.pow_succ, CRing.pow_zero, CRing.one_mul])
    exact ⟨a.monic, h.unique (h1.of_val fun f hf => hf.val_monic ha)⟩
  · rintro ⟨f, rfl⟩
    have h1 := h.powF_monic ha
    rw [show ([(f, 1)] : List (Poly (Zp q) × Nat)) = [] ++ [(f, 1)] from rfl, Poly.powF_snoc, Poly.powF_nil, CRing.one_mul] at h1
    rw [← h1]
    show (f ^ 1).Irr
    rw [CRing.pow_succ, CRing.pow_zero, CRing.one_mul]
    exact (h.irr (List.mem_singleton.2 rfl)).1
end
set_option maxRecDepth 100000 in
set_option maxHeartbeats 8000000 in
theorem all_err (A : Option Addr) (n c : Nat) (p : Int) (D : Option Addr) (nd cD : Nat) (err : Int) (w : World) (he : (err != 0) = true)
    (CW : ∀ W, Below w.heap.size w W → Calls Tryz.prog 8 #[.slice A n c, .int .i64 p] W fun e w' => e = .returned (.int .i64 err) ∧ Below W.heap.size W w')
    (CM : ∀ W, Below w.heap.size w W → Calls Tryz.prog 27 #[.slice A n c, .int .i64 p] W fun e w' => e = .returned (.tuple #[.slice none 0 0, .int .i64 err]) ∧ Below W.heap.size W w') :
    Calls Tryz.prog 5 #[.slice A n c, .int .i64 p, .slice D nd cD] w fun e w' => e = .returned (.bool true) ∧ Below w.heap.size w w' := by
  have HW := Lib.hid CW
  have HM := Lib.hid CM
  have hee : (err == err) = true := beq_self_eq_true err
  clear CW CM
  go_enter Tryz.func5, Tryz.ntmps5
  go_wp2_with fail
  refine (awake09 _).mono ?_
  rintro e w1 ⟨rfl, hb1⟩
  go_wp2_with fail
  refine (HW.out _ hb1).mono ?_
  rintro e w2 ⟨rfl, hb2⟩
  have hb12 := below_tr hb1 hb2
  clear hb1 hb2
  go_wp2_with fail
  refine (ffactorsE (HM.out _ hb12) he).mono ?_
  rintro e w3 ⟨rfl, hb3⟩
  have hb13 := below_tr hb12 hb3
  clear hb12 hb3
  go_wp2_with fail
  refine (firrE (HM.out _ hb13) he).mono ?_
  rintro e w4 ⟨rfl, hb4⟩
  have hb14 := below_tr hb13 hb4
  clear hb13 hb4
  go_wp2_with fail
  refine (fsplitE (fsquareE (HM.out _ hb14) he) he).mono ?_
  rintro e w5 ⟨rfl, hb5⟩
  have hb15 := below_tr hb14 hb5
  clear hb14 hb5
  go_wp2_with fail
  refine (fdegreesE (fsquareE (HM.out _ hb15) he) he).mono ?_
  rintro e w6 ⟨rfl, hb6⟩
  have hb16 := below_tr hb15 hb6
  clear hb15 hb6
  go_wp2_with fail
  go_ret
  exact ⟨rfl, hb16⟩
set_option maxRecDepth 100000 in
set_option maxHeartbeats 8000000 in
theorem law_FfacAll (A : Option Addr) (n c : Nat) (xs : List Int) (p : Int) (D : Option Addr) (nd cD : Nat) (ds : List Int) (w : World) (hx : Ints w A n xs) (hn : n * 8 ≤ 140737488351232) (lp : -9223372036854775808 ≤ p) (up : p ≤ 9223372036854775807)
    (hd : Ints w D nd ds) (hd8 : nd * 8 ≤ 140737488351232) (hdn : D = none → cD = 0) (hdc : nd ≤ cD) (hdm : cD ≤ 9223372036854775807) :
    Calls Tryz.prog 5 #[.slice A n c, .int .i64 p, .slice D nd cD] w fun e w' => e = .returned (.bool true) ∧ Below w.heap.size w w' := by
  cases hpr : isPrime p with
  | false =>
    refine all_err A n c p D nd cD 1 w rfl (fun W _ => ?_) (fun W _ => ?_)
    · exact (rwrong_no A n c p W lp up hpr).mono fun e w' ⟨h1, h2⟩ => ⟨h1, h2 ▸ Below.refl _ _⟩
    · exact (fmonic_no A n c p W lp up hpr).mono fun e w' ⟨h1, h2⟩ => ⟨h1, h2 ▸ Below.refl _ _⟩
  | true =>
    have Hp := Lib.hid ((isPrime_iff p).1 hpr)
    have hp2 := Hp.out.two
    have hpm := Hp.out.max
    have hal : (toP ⟨p, Hp.out⟩ xs).len ≤ n := len_le_toP (q := ⟨p, Hp.out⟩) hx.len
    have HA := Lib.hid (Rd.of_list (q := ⟨p, Hp.out⟩) hx)
    clear hpr hx
    generalize toP ⟨p, Hp.out⟩ xs = a at *
    by_cases h0 : a = 0
    · refine all_err A n c p D nd cD 8 w rfl (fun W hW => ?_) (fun W hW => ?_)
      · exact rwrongR (hp := Hp.out) 8 (Rd.bel HA.out hW) (by omega) (.inl ⟨h0, rfl⟩)
      · exact fmonic0R (hp := Hp.out) (Rd.bel HA.out hW) (by omega) h0
    by_cases hl : 65 < a.len
    · refine all_err A n c p D nd cD 6 w rfl (fun W hW => ?_) (fun W hW => ?_)
      · exact rwrongR (hp := Hp.out) 6 (Rd.bel HA.out hW) (by omega) (.inr (.inl ⟨hl, rfl⟩))
      · exact fmonicL (hp := Hp.out) (Rd.bel HA.out hW) (by omega) hl
    have H0 := Lib.hid h0
    have hl65 : a.len ≤ 65 := by omega
    have Hd := Lib.hid hd
    have Hdn := Lib.hid hdn
    have Hdc := Lib.hid hdc
    have Hdm := Lib.hid hdm
    clear h0 hl hd hdn hdc hdm
    go_enter Tryz.func5, Tryz.ntmps5
    go_wp2_with fail
    refine (awake09 _).mono ?_
    rintro e w1 ⟨rfl, hb1⟩
    have HA1 := Lib.hid (Rd.bel HA.out hb1)
    have Hd1 := Lib.hid (Hd.out.bel hb1)
    clear HA Hd
    go_wp2_with fail
    refine (rwrongR (hp := Hp.out) 0 HA1.out (by omega) (.inr (.inr ⟨H0.out, hl65, rfl⟩))).mono ?_
    rintro e w2 ⟨rfl, hb2⟩
    have hb12 := below_tr hb1 hb2
    have HA2 := Lib.hid (Rd.bel HA1.out hb2)
    have Hd2 := Lib.hid (Hd1.out.bel hb2)
    clear hb1 hb2 HA1 Hd1
    go_wp2_with fail
    refine (lcheap A n c p w2 hp2 hpm).mono ?_
    rintro e w' ⟨r, rfl, rfl, hr⟩
    cases r with
    | false =>
      clear hr
      go_wp2_with fail
      go_ret
      exact ⟨rfl, hb12⟩
    | true =>
      have hn30 := hr rfl
      clear hr
      go_wp2_with fail
      refine (ffactorsR (hp := Hp.out) HA2.out (by omega) H0.out hl65 Hd2.out Hdn.out Hdc.out Hdm.out).mono ?_
      rintro e w3 ⟨A3, n3, c3, L3, rfl, hp3, hf3, hb3⟩
      have Hp3 := Lib.hid hp3
      have Hf3 := Lib.hid hf3
      have hb13 := below_tr hb12 hb3
      have HA3 := Lib.hid (Rd.bel HA2.out hb3)
      have hn3 : n3 ≤ 65 := by have h1 := hf3.len H0.out; have h2 := hp3.len; omega
      clear hp3 hf3 hb3 hb12 HA2 Hd2
      go_wp2_with fail
      refine (rfactorsR (hp := Hp.out) HA3.out (by omega) H0.out hl65).mono ?_
      rintro e w4 ⟨A4, n4, c4, L4, rfl, hp4, hf4, hb4⟩
      have hL : L4 = L3 := hf4.unique Hf3.out
      subst hL
      obtain rfl : n4 = n3 := by rw [← hp4.len, ← Hp3.out.len]
      have Hp4 := Lib.hid hp4
      have Hp34 := Lib.hid (Hp3.out.bel hb4)
      have hb14 := below_tr hb13 hb4
      have HA4 := Lib.hid (Rd.bel HA3.out hb4)
      clear hp4 hf4 hb4 hb13 HA3 Hp3
      go_wp2_with fail
      refine (firrR (hp := Hp.out) HA4.out (by omega) H0.out hl65).mono ?_
      rintro e w5 ⟨r, rfl, hr, hb5⟩
      have Hr : Hid (r = true ↔ ∃ f, L4 = [(f, 1)]) := hr.trans (irr_iff H0.out Hf3.out)
      have Hp45 := Lib.hid (Hp4.out.bel hb5)
      have Hp35 := Lib.hid (Hp34.out.bel hb5)
      have hb15 := below_tr hb14 hb5
      clear hr hb5 hb14 HA4 Hp4 Hp34
      go_wp2_with fail
      refine (theirs9 A3 n4 c3 L4 w5 Hp35.out (by omega) (fac_theirsA H0.out (by omega) Hf3.out)).mono ?_
      rintro e w6 ⟨B6, d6, rfl, hp6, hb6⟩
      have Hp6 := Lib.hid hp6
      have Hp46 := Lib.hid (Hp45.out.bel hb6)
      have hb16 := below_tr hb15 hb6
      clear hp6 hb6 hb15 Hp45 Hp35
      go_wp2_with fail
      refine (same9R Hp6.out Hp46.out (by omega) (fac_sameA H0.out (by omega) Hf3.out)).mono ?_
      rintro e w7 ⟨rfl, hb7⟩
      have Hp47 := Lib.hid (Hp46.out.bel hb7)
      have hb17 := below_tr hb16 hb7
      clear hb7 hb16 Hp46 Hp6
      have Hlen := Lib.hid Hp47.out.len
      by_cases h1 : n4 = 1
      · subst h1
        obtain ⟨x, hx⟩ : ∃ x, L4 = [x] := by
          have := Hlen.out
          match L4, this with
          | [x], _ => exact ⟨x, rfl⟩
        obtain ⟨b, o, rfl, hbb, hc⟩ := Hp47.out.at_ (by omega)
        obtain ⟨Ai, ci, e1, e2, _⟩ := hc 0 (by rw [hx]; simp)
        subst hx
        simp only [List.getElem_cons_zero, Nat.mul_zero, Nat.add_zero, Nat.zero_add] at e1 e2
        obtain ⟨f, kk⟩ := x
        simp only at e1 e2
        by_cases hk : kk = 1
        · subst hk
          rw [show ((1 : Nat) : Int) = 1 from rfl] at e2
          obtain rfl : r = true := Hr.out.2 ⟨f, rfl⟩
          clear hc e1
          go_wp2_with fail
          go_ret
          exact ⟨rfl, hb17⟩
        · have hk' : ((kk : Int) == 1) = false := beq_eq_false_iff_ne.2 (by omega)
          obtain rfl : r = false := by
            cases r with
            | false => rfl
            | true =>
              obtain ⟨f', hf'⟩ := Hr.out.1 rfl
              injection hf' with h1 _
              injection h1 with _ h2
              exact absurd h2 hk
          clear hc e1 hk
          go_wp2_with fail
          go_ret
          exact ⟨rfl, hb17⟩
      · have h1' : ((n4 : Int) == 1) = false := beq_eq_false_iff_ne.2 (by omega)
        obtain rfl : r = false := by
          cases r with
          | false => rfl
          | true =>
            obtain ⟨f', hf'⟩ := Hr.out.1 rfl
            exact absurd (by rw [← Hlen.out, hf']; rfl) h1
        clear h1
        go_wp2_with fail
        go_ret
        exact ⟨rfl, hb17⟩
end Go.Proofs.YtpikakapflebkaaGreat
