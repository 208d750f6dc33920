/- Contracts: the document's layer 8: radical, Radical, Is. -/
import Derived.Test.YtbcapmnklgdeoaaQsfA
namespace Go.Proofs.Ytbcapmnklgdeoaa
open Go.RowKit Cl
attribute [local go_sem ↓] Go.wp_at_zero Go.wp_at_succ

theorem one_ints {p : Int} (hp : Pr p) (w : World) : Ints (w.alloc (.cells #[.int .i64 1] 3)) (some ⟨w.heap.size, 0, none⟩) (1 : Poly (Zp ⟨p, hp⟩)).len (fromP (1 : Poly (Zp ⟨p, hp⟩))) := by
  rw [fromP_one hp, Poly.len_one]
  exact (Row.new w 3 [1]).ints (fun i => by
    match i with
    | 0 => exact I64.small (by decide) (by decide)
    | i + 1 => rw [nth_ge (by simp)]; exact I64.zero)

section
variable {A : Option Addr} {n c N : Nat} {p : Int} {w : World} {hp : Pr p} {a : Poly (Zp ⟨p, hp⟩)}
set_option maxRecDepth 100000 in
set_option maxHeartbeats 4000000 in
theorem qradical_step (L : Nat) (hN : N ≤ 90000000) (ih : ∀ (b : Poly (Zp ⟨p, hp⟩)) (B : Option Addr) (d : Nat) (w : World), Ints w B b.len (fromP b) → b.len ≤ N → b ≠ 0 → b.len < L → Calls Try.prog 33 #[.slice B b.len d, .int .i64 p] w (GivesR w N (Poly.rad b)))
    (ha : Rd w A n a) (hn : n ≤ N) (h0 : a ≠ 0) (hL : a.len ≤ L) : Calls Try.prog 33 #[.slice A n c, .int .i64 p] w (GivesR w N (Poly.rad a)) := by
  have hp1 := hp.two
  have hp2 := hp.max
  have C := Lib.hid (qmonicR (c := c) ha hn (by omega))
  have Hih := Lib.hid ih
  have hm := Lib.hid (Poly.monic_mon h0)
  have hrm := Lib.hid (Poly.rad_monic h0)
  have hml := Lib.hid (Poly.monic_len h0)
  have hsm : Hid (a.monic.len ≤ 1 → Poly.rad a = 1) := Poly.rad_small h0
  have hal : a.len ≤ N := by obtain ⟨xs, hx, rfl⟩ := ha; exact Nat.le_trans (len_le_toP hx.len) hn
  have hrl : Hid ((Poly.rad a).len ≤ N) := Nat.le_trans (Poly.rad_len h0) hal
  clear ha ih
  go_enter Try.func33, Try.ntmps33
  go_wp2_with fail
  refine C.out.mono ?_
  rintro e w1 ⟨A1, c1, rfl, l1, h1, hb1⟩
  have H1 := Lib.hid h1
  clear h1 C
  by_cases hs : a.monic.len ≤ 1
  · have hs' : (a.monic.len : Int) ≤ 1 := by omega
    have hr1 := Lib.hid (hsm.out hs)
    have hone := Lib.hid (one_ints hp w1)
    have hlo := Poly.len_one (F := Zp ⟨p, hp⟩)
    have Hlo := Lib.hid hlo
    clear hlo
    go_wp2_with fail
    go_ret
    refine ⟨some ⟨w1.heap.size, 0, none⟩, 1, ?_, hrl.out, ?_, hb1.alloc hb1.size _⟩
    · rw [hr1.out, Hlo.out]; rfl
    · rw [hr1.out]; exact hone.out
  · have hs' : ¬ (a.monic.len : Int) ≤ 1 := by omega
    generalize a.monic = m at *
    go_wp2_with fail
    refine (qderivR (hp := hp) (N := N) (Rd.of H1.out) l1 (by omega)).mono ?_
    rintro e w2 ⟨A2, c2, rfl, l2, h2, hb2⟩
    have H2 := Lib.hid h2
    have H12 := Lib.hid (H1.out.bel hb2)
    have hbel2 := below_tr hb1 hb2
    clear h2 hb2 hb1
    by_cases hD : m.D = 0
    · have hd0 : ((m.D.len : Int) == 0) = true := by rw [hD, Poly.len_zero]; rfl
      have hne := Lib.hid (Poly.root_ne hD hm.out.ne)
      have hrr := Lib.hid (Poly.rad_root hm.out hD)
      have hsh := Poly.root_shorter hm.out hD (by omega)
      have hDd := Lib.hid hD
      clear hD
      go_wp2_with fail
      refine (qrootR (hp := hp) H12.out (by omega) hm.out.ne hDd.out).mono ?_
      rintro e w3 ⟨A3, c3, rfl, l3, h3, hb3⟩
      have H3 := Lib.hid h3
      have hbel3 := below_tr hbel2 hb3
      clear h3 hb3
      go_wp2_with fail
      refine (Hih.out _ _ _ _ H3.out (by omega) hne.out (by rw [hml.out] at hsh; omega)).mono ?_
      rintro e w4 ⟨A4, c4, rfl, l4, h4, hb4⟩
      have hbel4 := below_tr hbel3 hb4
      have H4 := Lib.hid h4
      clear h4 hb4
      go_wp2_with fail
      go_ret
      refine ⟨A4, c4, ?_, hrl.out, ?_, hbel4⟩
      · rw [← hrm.out, ← hrr.out]; rfl
      · rw [← hrm.out, ← hrr.out]; exact H4.out
    · have hd0 : ((m.D.len : Int) == 0) = false := beq_eq_false_iff_ne.2 (by have := Poly.len_pos hD; omega)
      have HD := Lib.hid hD
      have hg := Lib.hid ((Poly.gcd_is m m.D).mon_of (.inl hm.out.ne))
      have hq := Lib.hid (Poly.quo_mon hm.out hg.out (Poly.gcd_is m m.D).l)
      clear hD
      go_wp2_with fail
      refine (qgcdR (hp := hp) (N := N) (Rd.of H12.out) (Rd.of H2.out) l1 l2 hN).mono ?_
      rintro e w3 ⟨A3, c3, rfl, l3, h3, hb3⟩
      have H3 := Lib.hid h3
      have H13 := Lib.hid (H12.out.bel hb3)
      have hbel3 := below_tr hbel2 hb3
      clear h3 hb3
      go_wp2_with fail
      refine (qbyR (hp := hp) (N := N) (M := N) (Rd.of H13.out) (Rd.of H3.out) l1 l3 (by omega) (by omega) hg.out.ne).mono ?_
      rintro e w4 ⟨A4, c4, rfl, l4, h4, hb4⟩
      have H4 := Lib.hid h4
      have H34 := Lib.hid (H3.out.bel hb4)
      have hbel4 := below_tr hbel3 hb4
      clear h4 hb4
      go_wp2_with fail
      refine (qwithoutR (hp := hp) (N := N) H34.out H4.out l3 l4 hN hg.out hq.out.ne).mono ?_
      rintro e w5 ⟨W, hWm, hWv, A5, c5, rfl, l5, h5, hb5⟩
      obtain ⟨-, -, hpr, hWl⟩ := Poly.rad_step hm.out HD.out hWm hWv
      have HW := Lib.hid hWm
      have Hpr := Lib.hid hpr
      have H5 := Lib.hid h5
      have H45 := Lib.hid (H4.out.bel hb5)
      have hbel5 := below_tr hbel4 hb5
      clear h5 hb5 hWv hpr hWm
      go_wp2_with fail
      refine (Hih.out _ _ _ _ H5.out l5 HW.out.ne (by rw [hml.out] at hWl; omega)).mono ?_
      rintro e w6 ⟨A6, c6, rfl, l6, h6, hb6⟩
      have H6 := Lib.hid h6
      have H46 := Lib.hid (H45.out.bel hb6)
      have hbel6 := below_tr hbel5 hb6
      clear h6 hb6
      go_wp2_with fail
      refine (qtimesR (hp := hp) (N := N) (M := N) (K := 2 * N) (Rd.of H46.out) (Rd.of H6.out) l4 l6 (by omega) (by omega)).mono ?_
      rintro e w7 ⟨A7, c7, rfl, l7, h7, hb7⟩
      have H7 := Lib.hid h7
      have hbel7 := below_tr hbel6 hb7
      clear h7 hb7
      go_wp2_with fail
      go_ret
      refine ⟨A7, c7, ?_, hrl.out, ?_, hbel7⟩
      · rw [← hrm.out, ← Hpr.out]; rfl
      · rw [← hrm.out, ← Hpr.out]; exact H7.out
theorem qradical_ind (hN : N ≤ 90000000) : ∀ (L : Nat) (b : Poly (Zp ⟨p, hp⟩)) (B : Option Addr) (d : Nat) (w : World), Ints w B b.len (fromP b) → b.len ≤ N → b ≠ 0 → b.len < L → Calls Try.prog 33 #[.slice B b.len d, .int .i64 p] w (GivesR w N (Poly.rad b)) := by
  intro L
  induction L with
  | zero => intro b B d w _ _ _ h; omega
  | succ L ih => intro b B d w hb hl h0 h; exact qradical_step L hN ih (Rd.of hb) hl h0 (by omega)
theorem qradicalR (ha : Rd w A n a) (hn : n ≤ N) (hN : N ≤ 90000000) (h0 : a ≠ 0) : Calls Try.prog 33 #[.slice A n c, .int .i64 p] w (GivesR w N (Poly.rad a)) :=
  qradical_step a.len hN (qradical_ind hN a.len) ha hn h0 (Nat.le_refl _)
theorem qradR (ha : Rd w A n a) (hn : n ≤ N) (hN : N ≤ 90000000) (h0 : a ≠ 0) : Calls Try.prog 15 #[.slice A n c, .int .i64 p] w (GivesRE w N (Poly.rad a) 0) := by
  have C := Lib.hid (qwrongR (c := c) ha hn (by omega) h0)
  have Ha := Lib.hid ha
  clear ha
  go_enter Try.func15, Try.ntmps15
  go_wp2_with fail
  refine C.out.mono ?_
  rintro e w1 ⟨rfl, hb1⟩
  have Ha1 : Hid (Rd w1 A n a) := by obtain ⟨xs, hx, e⟩ := Ha.out; exact ⟨xs, hx.bel hb1, e⟩
  go_wp2_with fail
  refine (qradicalR (hp := hp) Ha1.out hn hN h0).mono ?_
  rintro e w2 ⟨A2, c2, rfl, l2, h2, hb2⟩
  go_wp2_with fail
  go_ret2
  exact ⟨A2, c2, rfl, l2, h2, below_tr hb1 hb2⟩
theorem qrad0R (ha : Rd w A n a) (hn : n ≤ N) (hN : N ≤ 90000000) (h0 : a = 0) : Calls Try.prog 15 #[.slice A n c, .int .i64 p] w fun e w' => e = .returned (.tuple #[.slice none 0 0, .int .i64 8]) ∧ Below w.heap.size w w' := by
  have C := Lib.hid (qwrong0R (c := c) ha hn (by omega) h0)
  clear ha h0
  go_enter Try.func15, Try.ntmps15
  go_wp2_with fail
  refine C.out.mono ?_
  rintro e w1 ⟨rfl, hb1⟩
  go_wp2_with fail
  go_ret2
  exact ⟨rfl, hb1⟩
theorem qis0R (ha : Rd w A n a) (hn : n ≤ N) (hN : N ≤ 90000000) (h0 : a = 0) : Calls Try.prog 17 #[.slice A n c, .int .i64 p] w fun e w' => e = .returned (.tuple #[.bool false, .int .i64 8]) ∧ Below w.heap.size w w' := by
  have C := Lib.hid (qwrong0R (c := c) ha hn (by omega) h0)
  clear ha h0
  go_enter Try.func17, Try.ntmps17
  go_wp2_with fail
  refine C.out.mono ?_
  rintro e w1 ⟨rfl, hb1⟩
  go_wp2_with fail
  go_ret2
  exact ⟨rfl, hb1⟩
end
theorem qrad_no (A : Option Addr) (n c : Nat) (p : Int) (w : World) (h3 : -9223372036854775808 ≤ p) (h4 : p ≤ 9223372036854775807) (hp : isPrime p = false) :
    Calls Try.prog 15 #[.slice A n c, .int .i64 p] w fun e w' => e = .returned (.tuple #[.slice none 0 0, .int .i64 1]) ∧ w = w' := by
  go_enter Try.func15, Try.ntmps15
  go_wp2_with fail
  refine (qwrong_no _ _ _ _ _ h3 h4 hp).mono ?_
  rintro e w' ⟨rfl, rfl⟩
  go_wp2_with fail
  go_ret2
  exact ⟨rfl, rfl⟩
theorem qis_no (A : Option Addr) (n c : Nat) (p : Int) (w : World) (h3 : -9223372036854775808 ≤ p) (h4 : p ≤ 9223372036854775807) (hp : isPrime p = false) :
    Calls Try.prog 17 #[.slice A n c, .int .i64 p] w fun e w' => e = .returned (.tuple #[.bool false, .int .i64 1]) ∧ w = w' := by
  go_enter Try.func17, Try.ntmps17
  go_wp2_with fail
  refine (qwrong_no _ _ _ _ _ h3 h4 hp).mono ?_
  rintro e w' ⟨rfl, rfl⟩
  go_wp2_with fail
  go_ret2
  exact ⟨rfl, rfl⟩
end Go.Proofs.Ytbcapmnklgdeoaa
