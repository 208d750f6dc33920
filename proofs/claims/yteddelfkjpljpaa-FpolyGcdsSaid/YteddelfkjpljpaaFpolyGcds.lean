/- FpolyGcds: the statement's walk (printed by gen/law6.py). -/
import Derived.Test.YteddelfkjpljpaaLaw6E
import Derived.Test.YteddelfkjpljpaaRefI
namespace Go.Proofs.Yteddelfkjpljpaa
open Go.RowKit Cl
attribute [local go_sem ↓] Go.wp_at_zero Go.wp_at_succ

set_option maxRecDepth 100000 in
set_option maxHeartbeats 8000000 in
theorem law_FpolyGcds (A : Option Addr) (n c : Nat) (xs : List Int) (B : Option Addr) (m d : Nat) (ys : List Int) (p : Int) (w : World) (hx : Ints w A n xs) (hn : n * 8 ≤ 140737488351232) (hy : Ints w B m ys) (hm : m * 8 ≤ 140737488351232) (lp : -9223372036854775808 ≤ p) (up : p ≤ 9223372036854775807) :
    Calls Try.prog 9 #[.slice A n c, .slice B m d, .int .i64 p] w fun e w' => e = .returned (.bool true) ∧ Below w.heap.size w w' := by
  go_enter Try.func9, Try.ntmps9
  go_wp2_with fail
  refine (awake06 _).mono ?_
  rintro e w1 ⟨rfl, hb1⟩
  go_wp2_with fail
  refine (short06 40 40 2 2 (by decide) (some ⟨w1.heap.size, 0, none⟩) [xs, ys] _ (mat_two (hx.bel hb1) (hy.bel hb1)) (fun i => by match i with | 0 => (show xs.length ≤ _; have := hx.len; omega) | 1 => (show ys.length ≤ _; have := hy.len; omega) | i + 2 => rw [rAt_ge (by simp)]; exact Nat.zero_le _)).mono ?_
  rintro e w' ⟨rfl, rfl⟩
  have hb2 : Below w1.heap.size w1 (w1.alloc (.cells #[.slice A n c, .slice B m d] 22)) := (Below.refl _ _).alloc (Nat.le_refl _) _
  generalize w1.alloc (.cells #[.slice A n c, .slice B m d] 22) = w2 at *
  cases hs : shortB 40 [xs, ys] with
  | false =>
    go_wp2_with fail
    go_ret
    exact ⟨rfl, below_tr hb1 hb2⟩
  | true =>
    have L0 : n ≤ 40 := by have := shortB_iff.1 hs 0 (by simp); rw [← hx.len]; exact this
    have L1 : m ≤ 40 := by have := shortB_iff.1 hs 1 (by simp); rw [← hy.len]; exact this
    clear hs hn hm
    cases hpr : isPrime p with
    | false =>
      go_wp2_with fail
      refine (pbezout_no _ _ _ _ _ _ _ _ lp up hpr).mono ?_
      rintro e w' ⟨rfl, rfl⟩
      go_wp2_with fail
      refine (qbezout_no _ _ _ _ _ _ _ _ lp up hpr).mono ?_
      rintro e w' ⟨rfl, rfl⟩
      go_wp2_with fail
      refine (pgcd_no _ _ _ _ _ _ _ _ lp up hpr).mono ?_
      rintro e w' ⟨rfl, rfl⟩
      go_wp2_with fail
      refine (sameN _ _ _).mono ?_
      rintro e w3 ⟨rfl, hb3⟩
      go_wp2_with fail
      refine (sameN _ _ _).mono ?_
      rintro e w4 ⟨rfl, hb4⟩
      go_wp2_with fail
      refine (sameN _ _ _).mono ?_
      rintro e w5 ⟨rfl, hb5⟩
      go_wp2_with fail
      refine (sameN _ _ _).mono ?_
      rintro e w6 ⟨rfl, hb6⟩
      go_wp2_with fail
      go_ret
      exact ⟨rfl, (below_tr (below_tr (below_tr (below_tr (below_tr hb1 hb2) hb3) hb4) hb5) hb6)⟩
    | true =>
      have Hp := Lib.hid ((isPrime_iff p).1 hpr)
      clear hpr
      go_wp2_with fail
      refine (bezoutR (N := 40) (a := (toP ⟨p, Hp.out⟩ xs)) (b := (toP ⟨p, Hp.out⟩ ys)) (hp := Hp.out) (Rd.of_list ((hx.bel hb1).bel hb2)) (Rd.of_list ((hy.bel hb1).bel hb2)) L0 L1 (by decide)).mono ?_
      rintro e w3 ⟨A3, c3, B3, d3, C3, e3, rfl, l3, m3, n3, h3, g3, i3, hb3⟩
      go_wp2_with fail
      refine (qbezoutR (N := 40) (a := (toP ⟨p, Hp.out⟩ xs)) (b := (toP ⟨p, Hp.out⟩ ys)) (hp := Hp.out) (Rd.of_list (((hx.bel hb1).bel hb2).bel hb3)) (Rd.of_list (((hy.bel hb1).bel hb2).bel hb3)) L0 L1 (by decide)).mono ?_
      rintro e w4 ⟨A4, c4, B4, d4, C4, e4, rfl, l4, m4, n4, h4, g4, i4, hb4⟩
      go_wp2_with fail
      refine (gcdR (N := 40) (a := (toP ⟨p, Hp.out⟩ xs)) (b := (toP ⟨p, Hp.out⟩ ys)) (hp := Hp.out) (Rd.of_list ((((hx.bel hb1).bel hb2).bel hb3).bel hb4)) (Rd.of_list ((((hy.bel hb1).bel hb2).bel hb3).bel hb4)) L0 L1 (by decide)).mono ?_
      rintro e w5 ⟨A5, c5, rfl, l5, h5, hb5⟩
      go_wp2_with fail
      refine (sameR (N := 40) (M := 40) (hp := Hp.out) (a := (Poly.bezR (toP ⟨p, Hp.out⟩ xs) (toP ⟨p, Hp.out⟩ ys)).g) (b := (Poly.bezR (toP ⟨p, Hp.out⟩ xs) (toP ⟨p, Hp.out⟩ ys)).g) ((h3.bel hb4).bel hb5) (h4.bel hb5) l3 l4 (by decide) (by decide) rfl).mono ?_
      rintro e w6 ⟨rfl, hb6⟩
      go_wp2_with fail
      refine (sameR (N := 41) (M := 41) (hp := Hp.out) (a := (Poly.bezR (toP ⟨p, Hp.out⟩ xs) (toP ⟨p, Hp.out⟩ ys)).s) (b := (Poly.bezR (toP ⟨p, Hp.out⟩ xs) (toP ⟨p, Hp.out⟩ ys)).s) (((g3.bel hb4).bel hb5).bel hb6) ((g4.bel hb5).bel hb6) m3 m4 (by decide) (by decide) rfl).mono ?_
      rintro e w7 ⟨rfl, hb7⟩
      go_wp2_with fail
      refine (sameR (N := 41) (M := 41) (hp := Hp.out) (a := (Poly.bezR (toP ⟨p, Hp.out⟩ xs) (toP ⟨p, Hp.out⟩ ys)).t) (b := (Poly.bezR (toP ⟨p, Hp.out⟩ xs) (toP ⟨p, Hp.out⟩ ys)).t) ((((i3.bel hb4).bel hb5).bel hb6).bel hb7) (((i4.bel hb5).bel hb6).bel hb7) n3 n4 (by decide) (by decide) rfl).mono ?_
      rintro e w8 ⟨rfl, hb8⟩
      go_wp2_with fail
      refine (sameR (N := 40) (M := 40) (hp := Hp.out) (a := (Poly.gcdP (toP ⟨p, Hp.out⟩ xs) (toP ⟨p, Hp.out⟩ ys))) (b := (Poly.bezR (toP ⟨p, Hp.out⟩ xs) (toP ⟨p, Hp.out⟩ ys)).g) (((h5.bel hb6).bel hb7).bel hb8) ((((h4.bel hb5).bel hb6).bel hb7).bel hb8) l5 l4 (by decide) (by decide) (Poly.bezR_g (toP ⟨p, Hp.out⟩ xs) (toP ⟨p, Hp.out⟩ ys)).symm).mono ?_
      rintro e w9 ⟨rfl, hb9⟩
      go_wp2_with fail
      go_ret
      exact ⟨rfl, (below_tr (below_tr (below_tr (below_tr (below_tr (below_tr (below_tr (below_tr hb1 hb2) hb3) hb4) hb5) hb6) hb7) hb8) hb9)⟩
end Go.Proofs.Yteddelfkjpljpaa
