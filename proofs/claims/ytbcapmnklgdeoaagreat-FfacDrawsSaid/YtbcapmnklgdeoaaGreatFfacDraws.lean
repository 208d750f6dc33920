/- Law: FfacDraws. -/
import Derived.Test.YtbcapmnklgdeoaaGreatLaw9Base
namespace Go.Proofs.YtbcapmnklgdeoaaGreat
open Go.RowKit Cl
attribute [local go_sem ↓] Go.wp_at_zero Go.wp_at_succ

theorem fac_theirs {q : Prm} {a : Poly (Zp q)} {L : List (Poly (Zp q) × Nat)} (ha : a ≠ 0) (hl : a.len ≤ 100) (h : Poly.IsFac a L) : ∀ x ∈ L, 0 < x.1.len ∧ x.1.len ≤ 900000000 ∧ x.2 ≤ 900000000 := fun x hx => by
  have := h.small ha hx
  omega
theorem fac_same {q : Prm} {a : Poly (Zp q)} {L : List (Poly (Zp q) × Nat)} (ha : a ≠ 0) (hl : a.len ≤ 100) (h : Poly.IsFac a L) : ∀ i (hi : i < L.length), (L[i]).1.len ≤ 900000000 ∧ (L[i]).2 ≤ 900000000 := fun i hi => by
  have := h.small ha (List.getElem_mem hi)
  omega
set_option maxRecDepth 100000 in
set_option maxHeartbeats 8000000 in
theorem law_FfacDraws (A : Option Addr) (n c : Nat) (xs : List Int) (p : Int) (D : Option Addr) (nd cD : Nat) (ds : List Int) (E : Option Addr) (ne cE : Nat) (es : List Int) (w : World) (hx : Ints w A n xs) (hn : n * 8 ≤ 140737488351232) (lp : -9223372036854775808 ≤ p) (up : p ≤ 9223372036854775807)
    (hd : Ints w D nd ds) (hd8 : nd * 8 ≤ 140737488351232) (hdn : D = none → cD = 0) (hdc : nd ≤ cD) (hdm : cD ≤ 9223372036854775807) (he : Ints w E ne es) (he8 : ne * 8 ≤ 140737488351232) (hen : E = none → cE = 0) (hec : ne ≤ cE) (hem : cE ≤ 9223372036854775807) :
    Calls Tryz.prog 3 #[.slice A n c, .int .i64 p, .slice D nd cD, .slice E ne cE] w fun e w' => e = .returned (.bool true) ∧ Below w.heap.size w w' := by
  have Hx := Lib.hid hx
  have Hd := Lib.hid hd
  have He := Lib.hid he
  have Hdn := Lib.hid hdn
  have Hen := Lib.hid hen
  have Hdc := Lib.hid hdc
  have Hec := Lib.hid hec
  have Hdm := Lib.hid hdm
  have Hem := Lib.hid hem
  clear hx hd he hdn hen hdc hec hdm hem
  go_enter Tryz.func3, Tryz.ntmps3
  go_wp2_with fail
  refine (awake09 _).mono ?_
  rintro e w1 ⟨rfl, hb1⟩
  have Hx1 := Lib.hid (Hx.out.bel hb1)
  have Hd1 := Lib.hid (Hd.out.bel hb1)
  have He1 := Lib.hid (He.out.bel hb1)
  clear Hx Hd He
  by_cases hl : n ≤ 17
  · cases hpr : isPrime p with
    | false =>
      go_wp2_with fail
      refine (great_no hl lp up hpr).mono ?_
      rintro e w2 ⟨rfl, hb2⟩
      go_wp2_with fail
      go_ret
      exact ⟨rfl, below_tr hb1 hb2⟩
    | true =>
      have Hp := Lib.hid ((isPrime_iff p).1 hpr)
      clear hpr
      have hal : (toP ⟨p, Hp.out⟩ xs).len ≤ 17 := by have := len_le_toP (q := ⟨p, Hp.out⟩) Hx1.out.len; omega
      have HA := Lib.hid (Rd.of_list (q := ⟨p, Hp.out⟩) Hx1.out)
      generalize toP ⟨p, Hp.out⟩ xs = a at *
      clear Hx1
      by_cases h0 : a = 0
      · have H0 := Lib.hid h0
        clear h0
        go_wp2_with fail
        refine (greatR (hp := Hp.out) true hl HA.out (.inl ⟨H0.out, rfl⟩)).mono ?_
        rintro e w2 ⟨rfl, hb2⟩
        go_wp2_with fail
        go_ret
        exact ⟨rfl, below_tr hb1 hb2⟩
      · have H0 := Lib.hid h0
        clear h0
        go_wp2_with fail
        refine (greatR (hp := Hp.out) false hl HA.out (.inr ⟨H0.out, rfl⟩)).mono ?_
        rintro e w2 ⟨rfl, hb2⟩
        have hb12 := below_tr hb1 hb2
        have HA2 := Lib.hid (Rd.bel HA.out hb2)
        have Hd2 := Lib.hid (Hd1.out.bel hb2)
        have He2 := Lib.hid (He1.out.bel hb2)
        clear hb1 hb2 HA Hd1 He1
        by_cases hd40 : nd ≤ 40
        · have d1 : ¬ (40 : Int) < (nd : Int) := by omega
          have d2 : decide ((40 : Int) < (nd : Int)) = false := decide_eq_false d1
          by_cases he40 : ne ≤ 40
          · have d3 : ¬ (40 : Int) < (ne : Int) := by omega
            have d4 : decide ((40 : Int) < (ne : Int)) = false := decide_eq_false d3
            go_wp2_with fail
            refine (ffactorsR (hp := Hp.out) HA2.out (by omega) H0.out (by omega) Hd2.out Hdn.out Hdc.out Hdm.out).mono ?_
            rintro e w3 ⟨A3, n3, c3, L3, rfl, hp3, hf3, hb3⟩
            have Hp3 := Lib.hid hp3
            have Hf3 := Lib.hid hf3
            have hn3 : n3 ≤ 17 := by have h1 := hf3.len H0.out; have h2 := hp3.len; omega
            have hb13 := below_tr hb12 hb3
            have HA3 := Lib.hid (Rd.bel HA2.out hb3)
            have He3 := Lib.hid (He2.out.bel hb3)
            clear hp3 hf3 hb3 hb12 HA2 Hd2 He2
            go_wp2_with fail
            refine (ffactorsR (hp := Hp.out) HA3.out (by omega) H0.out (by omega) He3.out Hen.out Hec.out Hem.out).mono ?_
            rintro e w4 ⟨A4, n4, c4, L4, rfl, hp4, hf4, hb4⟩
            have hL : L4 = L3 := hf4.unique Hf3.out
            subst hL
            obtain rfl : n4 = n3 := by rw [← hp4.len, ← Hp3.out.len]
            have Hp4 := Lib.hid hp4
            have Hp34 := Lib.hid (Hp3.out.bel hb4)
            have hb14 := below_tr hb13 hb4
            clear hp4 hf4 hb4 hb13 HA3 He3 Hp3
            go_wp2_with fail
            refine (theirs9 A3 n4 c3 L4 w4 Hp34.out (by omega) (fac_theirs H0.out (by omega) Hf3.out)).mono ?_
            rintro e w5 ⟨B5, d5, rfl, hp5, hb5⟩
            have Hp5 := Lib.hid hp5
            have Hp45 := Lib.hid (Hp4.out.bel hb5)
            have hb15 := below_tr hb14 hb5
            clear hp5 hb5 hb14 Hp4 Hp34
            go_wp2_with fail
            refine (theirs9 A4 n4 c4 L4 w5 Hp45.out (by omega) (fac_theirs H0.out (by omega) Hf3.out)).mono ?_
            rintro e w6 ⟨B6, d6, rfl, hp6, hb6⟩
            have Hp6 := Lib.hid hp6
            have Hp56 := Lib.hid (Hp5.out.bel hb6)
            have hb16 := below_tr hb15 hb6
            clear hp6 hb6 hb15 Hp5 Hp45
            go_wp2_with fail
            refine (same9R Hp56.out Hp6.out (by omega) (fac_same H0.out (by omega) Hf3.out)).mono ?_
            rintro e w7 ⟨rfl, hb7⟩
            go_wp2_with fail
            go_ret
            exact ⟨rfl, below_tr hb16 hb7⟩
          · have d3 : (40 : Int) < (ne : Int) := by omega
            have d4 : decide ((40 : Int) < (ne : Int)) = true := decide_eq_true d3
            go_wp2_with fail
            go_ret
            exact ⟨rfl, hb12⟩
        · have d1 : (40 : Int) < (nd : Int) := by omega
          have d2 : decide ((40 : Int) < (nd : Int)) = true := decide_eq_true d1
          go_wp2_with fail
          go_ret
          exact ⟨rfl, hb12⟩
  · go_wp2_with fail
    refine (great_big (by omega)).mono ?_
    rintro e w2 ⟨rfl, hb2⟩
    go_wp2_with fail
    go_ret
    exact ⟨rfl, below_tr hb1 hb2⟩
end Go.Proofs.YtbcapmnklgdeoaaGreat
