/- FpolyPowers: the statement's walk (printed by gen/law6.py). -/
import Derived.Test.YteddelfkjpljpaaLaw6E
import Derived.Test.YteddelfkjpljpaaRefK
namespace Go.Proofs.Yteddelfkjpljpaa
open Go.RowKit Cl
attribute [local go_sem ↓] Go.wp_at_zero Go.wp_at_succ

set_option maxRecDepth 100000 in
set_option maxHeartbeats 8000000 in
theorem law_FpolyPowers (A : Option Addr) (n c : Nat) (xs : List Int) (neg : Bool) (B : Option Addr) (k d : Nat) (ls : List Int) (M : Option Addr) (m cm : Nat) (ms : List Int) (p : Int) (w : World) (hx : Ints w A n xs) (hn : n * 8 ≤ 140737488351232) (hl : Limbs w B k ls) (hkd : k ≤ d) (hd : d ≤ 9223372036854775807) (hm : Ints w M m ms) (hmn : m * 8 ≤ 140737488351232) (lp : -9223372036854775808 ≤ p) (up : p ≤ 9223372036854775807) :
    Calls Try.prog 3 #[.slice A n c, .agg #[.bool neg, .slice B k d], .slice M m cm, .int .i64 p] w fun e w' => e = .returned (.bool true) ∧ Below w.heap.size w w' := by
  have hb0 : Below w.heap.size w (w.alloc (.cells #[.bool neg, .slice B k d] 25)) := (Below.refl _ w).alloc (Nat.le_refl _) _
  have hD0 := Duo.new w (.bool neg) (.slice B k d)
  go_enter Try.func3, Try.ntmps3
  go_wp2_with fail
  refine (awake06 _).mono ?_
  rintro e w1 ⟨rfl, hb1⟩
  have hb01 := below_tr hb0 hb1
  have hD1 := hD0.bel hb1
  have hD2 : Duo (w1.alloc (.cells #[.slice A n c, .slice M m cm] 22)) w.heap.size (.bool neg) (.slice B k d) := hD1.bel ((Below.refl _ _).alloc (Nat.le_refl _) _)
  have k0 := hD2.cell0
  have k1 := hD2.cell1
  go_wp2_with fail
  refine (short06 20 20 2 2 (by decide) (some ⟨w1.heap.size, 0, none⟩) [xs, ms] _ (mat_two (hx.bel hb01) (hm.bel hb01)) (fun i => by match i with | 0 => (show xs.length ≤ _; have := hx.len; omega) | 1 => (show ms.length ≤ _; have := hm.len; omega) | i + 2 => rw [rAt_ge (by simp)]; exact Nat.zero_le _)).mono ?_
  rintro e w' ⟨rfl, rfl⟩
  have hb2 : Below w1.heap.size w1 (w1.alloc (.cells #[.slice A n c, .slice M m cm] 22)) := (Below.refl _ _).alloc (Nat.le_refl _) _
  generalize w1.alloc (.cells #[.slice A n c, .slice M m cm] 22) = w2 at *
  have hb02 := below_tr hb01 hb2
  clear hD0 hD1 hb0 hb1 hb2 hb01
  cases hs : shortB 20 [xs, ms] with
  | false =>
    go_wp2_with fail
    go_ret
    exact ⟨rfl, hb02⟩
  | true =>
    have L0 : n ≤ 20 := by have := shortB_iff.1 hs 0 (by simp); rw [← hx.len]; exact this
    have L2 : m ≤ 20 := by have := shortB_iff.1 hs 1 (by simp); rw [← hm.len]; exact this
    clear hs hn hmn
    by_cases hk : (4 : Int) < (k : Int)
    · go_wp2_with fail
      go_ret
      exact ⟨rfl, hb02⟩
    · have L1 : k ≤ 4 := by omega
      have hx2 := Lib.hid (hx.bel hb02)
      have hl2 := Lib.hid (hl.bel hb02)
      have hm2 := Lib.hid (hm.bel hb02)
      have HD2 := Lib.hid hD2
      have Hb02 := Lib.hid hb02
      clear hx hl hm hD2 hb02
      cases hpr : isPrime p with
      | false =>
        go_wp2_with fail
        refine (ppow_no A B M n c k d m cm neg p _ lp up hpr).mono ?_
        rintro e w3 ⟨rfl, hb3⟩
        have hD3 := HD2.out.bel hb3
        have j0 := hD3.cell0
        have j1 := hD3.cell1
        clear k0 k1 hD3
        go_wp2_with fail
        refine (qpow_no A B M n c k d m cm neg p _ lp up hpr).mono ?_
        rintro e w4 ⟨rfl, hb4⟩
        clear j0 j1
        go_wp2_with fail
        refine (sameN _ _ _).mono ?_
        rintro e w5 ⟨rfl, hb5⟩
        go_wp2_with fail
        go_ret
        exact ⟨rfl, below_tr (below_tr (below_tr Hb02.out hb3) hb4) hb5⟩
      | true =>
        have Hp := Lib.hid ((isPrime_iff p).1 hpr)
        clear hpr
        by_cases hsg : signN neg (lmN ls k) < 0
        · have Hsg := Lib.hid hsg
          clear hsg
          go_wp2_with fail
          refine (ppow_neg A B M n c k d m cm neg ls p _ Hp.out hl2.out (by omega) hkd hd Hsg.out).mono ?_
          rintro e w3 ⟨rfl, hb3⟩
          have hD3 := HD2.out.bel hb3
          have j0 := hD3.cell0
          have j1 := hD3.cell1
          clear k0 k1 hD3
          go_wp2_with fail
          refine (qpow_neg A B M n c k d m cm neg ls p _ Hp.out (hl2.out.bel hb3) (by omega) hkd hd Hsg.out).mono ?_
          rintro e w4 ⟨rfl, hb4⟩
          clear j0 j1
          go_wp2_with fail
          refine (sameN _ _ _).mono ?_
          rintro e w5 ⟨rfl, hb5⟩
          go_wp2_with fail
          go_ret
          exact ⟨rfl, below_tr (below_tr (below_tr Hb02.out hb3) hb4) hb5⟩
        · have Hsg := Lib.hid hsg
          clear hsg
          by_cases h0 : toP ⟨p, Hp.out⟩ ms = 0
          · have H0 := Lib.hid h0
            clear h0
            go_wp2_with fail
            refine (ppow_zero A B M n c k d m cm neg ls ms p _ Hp.out hl2.out hm2.out (by omega) (by omega) hkd hd (by have := Hsg.out; omega) H0.out).mono ?_
            rintro e w3 ⟨rfl, hb3⟩
            have hD3 := HD2.out.bel hb3
            have j0 := hD3.cell0
            have j1 := hD3.cell1
            clear k0 k1 hD3
            go_wp2_with fail
            refine (qpow_zero A B M n c k d m cm neg ls ms p _ Hp.out (hl2.out.bel hb3) (hm2.out.bel hb3) (by omega) (by omega) hkd hd (by have := Hsg.out; omega) H0.out).mono ?_
            rintro e w4 ⟨rfl, hb4⟩
            clear j0 j1
            go_wp2_with fail
            refine (sameN _ _ _).mono ?_
            rintro e w5 ⟨rfl, hb5⟩
            go_wp2_with fail
            go_ret
            exact ⟨rfl, below_tr (below_tr (below_tr Hb02.out hb3) hb4) hb5⟩
          · have H0 := Lib.hid h0
            have Hlen := Lib.hid (Cl.rem_len' (toP ⟨p, Hp.out⟩ xs ^ limbs ls) h0)
            have hml : (toP ⟨p, Hp.out⟩ ms).len ≤ m := len_le_toP hm2.out.len
            clear h0
            go_wp2_with fail
            refine (ppow_yes A B M n c k d m cm neg xs ls ms p _ Hp.out hx2.out hl2.out hm2.out (by omega) (by omega) (by omega) hkd hd (by have := Hsg.out; omega) H0.out).mono ?_
            rintro e w3 ⟨A3, c3, rfl, hn3⟩
            have hb3 := hn3.bel
            have hr3 := hn3.rd
            have hD3 := HD2.out.bel hb3
            have j0 := hD3.cell0
            have j1 := hD3.cell1
            clear k0 k1 hD3 hn3
            go_wp2_with fail
            refine (qpow_yes A B M n c k d m cm neg xs ls ms p _ Hp.out (hx2.out.bel hb3) (hl2.out.bel hb3) (hm2.out.bel hb3) (by omega) (by omega) (by omega) hkd hd (by have := Hsg.out; omega) H0.out).mono ?_
            rintro e w4 ⟨A4, c4, rfl, l4, h4, hb4⟩
            clear j0 j1
            go_wp2_with fail
            refine (sameR (N := 20) (M := 20) (hp := Hp.out) (hr3.bel hb4) h4 (by omega) (by omega) (by decide) (by decide) rfl).mono ?_
            rintro e w5 ⟨rfl, hb5⟩
            go_wp2_with fail
            go_ret
            exact ⟨rfl, below_tr (below_tr (below_tr Hb02.out hb3) hb4) hb5⟩
end Go.Proofs.Yteddelfkjpljpaa
