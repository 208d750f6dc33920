/- Contracts: the document's layer 8: wrong, by, without, root.
   Contracts: the document's layer 8: radical, Radical, Is.
   Contracts: the document's layer 8: Is; parts under way.
   Contracts: the document's layer 8: Parts. -/
import Derived.Test.YtpikakapflebkaaGreatRefTop
import Derived.Test.YtpikakapflebkaaGreatPrsAll
import Derived.Test.YtpikakapflebkaaGreatFlinBase
import Derived.Test.YtpikakapflebkaaGreatSqfTop
namespace Go.Proofs.YtpikakapflebkaaGreat
open Go.RowKit Cl
attribute [local go_sem ↓] Go.wp_at_zero Go.wp_at_succ

theorem qwrong_no (A : Option Addr) (n c : Nat) (p : Int) (w : World) (h3 : -9223372036854775808 ≤ p) (h4 : p ≤ 9223372036854775807) (hp : isPrime p = false) :
    Calls Tryz.prog 77 #[.slice A n c, .int .i64 p] w fun e w' => e = .returned (.int .i64 1) ∧ w = w' := by
  go_enter Tryz.func77, Tryz.ntmps77
  go_wp2_with fail
  refine (rchk_no _ _ h3 h4 hp).mono ?_
  rintro e w' ⟨rfl, rfl⟩
  go_wp2_with fail
  go_ret
  exact ⟨rfl, rfl⟩
section
variable {A B : Option Addr} {n m c d N M : Nat} {p : Int} {w : World} {hp : Pr p} {a b : Poly (Zp ⟨p, hp⟩)}
theorem qwrongR (ha : Rd w A n a) (hn : n ≤ N) (hN : N ≤ 900000000) (h0 : a ≠ 0) :
    Calls Tryz.prog 77 #[.slice A n c, .int .i64 p] w fun e w' => e = .returned (.int .i64 0) ∧ Below w.heap.size w w' := by
  have hp1 := hp.two
  have hp2 := hp.max
  have C := Lib.hid (qplainR (c := c) ha hn hN)
  have g0 : ((a.len : Int) == 0) = false := beq_eq_false_iff_ne.2 (by have := Poly.len_pos h0; omega)
  clear ha h0
  go_enter Tryz.func77, Tryz.ntmps77
  go_wp2_with fail
  refine (rchk_yes _ _ (by omega) (by omega) ((isPrime_iff p).2 hp)).mono ?_
  rintro e w' ⟨rfl, rfl⟩
  go_wp2_with fail
  refine C.out.mono ?_
  rintro e w1 ⟨A1, c1, rfl, l1, h1, hb1⟩
  go_wp2_with fail
  go_ret
  exact ⟨rfl, hb1⟩
theorem qwrong0R (ha : Rd w A n a) (hn : n ≤ N) (hN : N ≤ 900000000) (h0 : a = 0) :
    Calls Tryz.prog 77 #[.slice A n c, .int .i64 p] w fun e w' => e = .returned (.int .i64 8) ∧ Below w.heap.size w w' := by
  have hp1 := hp.two
  have hp2 := hp.max
  have C := Lib.hid (qplainR (c := c) ha hn hN)
  have g0 : ((a.len : Int) == 0) = true := by rw [h0, Poly.len_zero]; rfl
  clear ha h0
  go_enter Tryz.func77, Tryz.ntmps77
  go_wp2_with fail
  refine (rchk_yes _ _ (by omega) (by omega) ((isPrime_iff p).2 hp)).mono ?_
  rintro e w' ⟨rfl, rfl⟩
  go_wp2_with fail
  refine C.out.mono ?_
  rintro e w1 ⟨A1, c1, rfl, l1, h1, hb1⟩
  go_wp2_with fail
  go_ret
  exact ⟨rfl, hb1⟩
/-- A quotient in a new block. -/
def GivesRat {q : Prm} (w : World) (K : Nat) (a : Poly (Zp q)) (e : Ending) (w' : World) : Prop :=
  ∃ A c, e = .returned (.slice A a.len c) ∧ a.len ≤ K ∧ Ints w' A a.len (fromP a) ∧ Below w.heap.size w w' ∧ ∀ x, A = some x → w.heap.size ≤ x.block
theorem qbyAt (ha : Rd w A n a) (hb : Rd w B m b) (hn : n ≤ N) (hm : m ≤ M) (hK : N ≤ 400000000) (hK2 : M ≤ 400000000) (h0 : b ≠ 0) :
    Calls Tryz.prog 115 #[.slice A n c, .slice B m d, .int .i64 p] w (GivesRat w N (Poly.quo a b)) := by
  have C := Lib.hid (qdivAt (c := c) (d := d) ha hb hn hm hK hK2 h0)
  clear ha hb h0
  go_enter Tryz.func115, Tryz.ntmps115
  go_wp2_with fail
  refine C.out.mono ?_
  rintro e w1 ⟨A1, c1, B1, d1, rfl, l1, m1, h1, k1, hb1, hl1⟩
  go_wp2_with fail
  go_ret
  exact ⟨_, _, rfl, l1, h1, hb1, hl1⟩
theorem qbyR (ha : Rd w A n a) (hb : Rd w B m b) (hn : n ≤ N) (hm : m ≤ M) (hK : N ≤ 400000000) (hK2 : M ≤ 400000000) (h0 : b ≠ 0) :
    Calls Tryz.prog 115 #[.slice A n c, .slice B m d, .int .i64 p] w (GivesR w N (Poly.quo a b)) :=
  (qbyAt ha hb hn hm hK hK2 h0).mono fun _ _ ⟨A1, c1, e1, l1, h1, hb1, _⟩ => ⟨A1, c1, e1, l1, h1, hb1⟩
set_option maxRecDepth 100000 in
set_option maxHeartbeats 4000000 in
theorem qwithoutR (ha : Ints w A a.len (fromP a)) (hb : Ints w B b.len (fromP b)) (hn : a.len ≤ N) (hm : b.len ≤ N) (hN : N ≤ 90000000) (ham : a.Mon) (hb0 : b ≠ 0) :
    Calls Tryz.prog 116 #[.slice A a.len c, .slice B b.len d, .int .i64 p] w fun e w' => ∃ W : Poly (Zp ⟨p, hp⟩), W.Mon ∧ (∀ f, f.Irr → Poly.val f W = if 1 ≤ Poly.val f b then 0 else Poly.val f a) ∧ GivesR w N W e w' := by
  have Hwo := Lib.hid (Poly.Wo.start (b := b) ham)
  have Ha := Lib.hid ha
  have Hb := Lib.hid hb
  clear ha hb
  go_enter Tryz.func116, Tryz.ntmps116
  go_wp2_with fail
  refine (qgcdR (hp := hp) (N := N) (Rd.of Ha.out) (Rd.of Hb.out) hn hm hN).mono ?_
  rintro e w1 ⟨A1, c1, rfl, l1, h1, hb1⟩
  have H1 := Lib.hid h1
  have Ha1 := Lib.hid (Ha.out.bel hb1)
  clear h1
  go_wp2_with fail
  go_loopg [0, 7] (a.len + 1) (fun gk v0 v7 wr => ∃ (W : Poly (Zp ⟨p, hp⟩)) (AW : Option Addr) (cW : Nat) (AG : Option Addr) (cG : Nat), W.len < gk ∧ v0 = .slice AW W.len cW ∧ v7 = .slice AG (Poly.gcdP W b).len cG ∧ W.len ≤ N ∧ (Poly.gcdP W b).len ≤ N ∧ Hid (Poly.Wo a b W) ∧ Hid (Ints wr AW W.len (fromP W)) ∧ Hid (Ints wr AG (Poly.gcdP W b).len (fromP (Poly.gcdP W b))) ∧ Below w.heap.size w wr)
  case atStart => exact ⟨a, A, c, A1, c1, by omega, rfl, rfl, hn, l1, Hwo, Ha1, H1, hb1⟩
  case round =>
    obtain ⟨W, AW, cW, AG, cG, hgk, rfl, rfl, hWn, hGn, hW, hAW, hAG, hbel⟩ := hrel
    clear Hwo Ha1 H1 hb1
    by_cases hg : 1 < (Poly.gcdP W b).len
    · obtain ⟨hs1, hs2⟩ := hW.out.step hb0 hg
      have Hs1 := Lib.hid hs1
      have hg' : (1 : Int) < ((Poly.gcdP W b).len : Int) := by omega
      have hgne := Lib.hid (((Poly.gcd_is W b).mon_of (.inl hW.out.mon.ne)).ne)
      clear hs1
      go_wp2_with fail
      refine (qbyR (hp := hp) (N := N) (M := N) (Rd.of hAW.out) (Rd.of hAG.out) hWn hGn (by omega) (by omega) hgne.out).mono ?_
      rintro e w2 ⟨A2, c2, rfl, l2, h2, hb2⟩
      have H2 := Lib.hid h2
      have hbel2 := below_tr hbel hb2
      have Hb2 := Lib.hid (Hb.out.bel hbel2)
      clear h2
      go_wp2_with fail
      refine (qgcdR (hp := hp) (N := N) (Rd.of H2.out) (Rd.of Hb2.out) l2 hm hN).mono ?_
      rintro e w3 ⟨A3, c3, rfl, l3, h3, hb3⟩
      have H3 := Lib.hid h3
      have H23 := Lib.hid (H2.out.bel hb3)
      have hbel3 := below_tr hbel2 hb3
      clear h3 hb3
      go_wp2_with fail
      go_roundg W.len
      case measure => omega
      case rel => exact ⟨_, A2, c2, A3, c3, hs2, rfl, rfl, l2, l3, Hs1, H23, H3, hbel3⟩
    · have hg' : ¬ (1 : Int) < ((Poly.gcdP W b).len : Int) := by omega
      have hd := Lib.hid (hW.out.done hb0 hg)
      go_wp2_with fail
      go_ret
      exact ⟨W, hW.out.mon, hd.out, _, _, rfl, hWn, hAW.out, hbel⟩
set_option maxRecDepth 100000 in
set_option maxHeartbeats 4000000 in
/-- Every p-th coefficient. -/
theorem qrootR (ha : Ints w A a.len (fromP a)) (hn : a.len ≤ 100000000) (h0 : a ≠ 0) (hD : a.D = 0) :
    Calls Tryz.prog 113 #[.slice A a.len c, .int .i64 p] w (GivesR w a.len a.root) := by
  obtain ⟨i0, hi, hz0, hz1, hz2⟩ := info_parts int_info
  have hp1 := hp.two
  have hp2 := hp.max
  have hrl : Hid (a.len = p.toNat * (a.root.len - 1) + 1) := Poly.root_len h0 hD
  have hr1 : 1 ≤ a.root.len := Poly.len_pos (Poly.root_ne hD h0)
  have hrle : a.root.len ≤ a.len := by
    have h1 := hrl.out
    have h2 : a.root.len - 1 ≤ p.toNat * (a.root.len - 1) := Nat.le_mul_of_pos_left _ (by omega)
    omega
  have hC := Lib.hid ha
  have hpn : Hid (((p.toNat : Nat) : Int) = p) := by show _ = _; omega
  have hJ0 : Hid (0 = 0 * p.toNat) := by show _ = _; omega
  clear ha hD
  go_enter Tryz.func113, Tryz.ntmps113
  go_wp2_with fail
  go_loopw [5, 6] (fun v i w9 => ∃ (j J : Nat), j ≤ a.root.len ∧ Hid (J = j * p.toNat) ∧ i = .int .i64 (J : Int) ∧ w9.ownsRow w.heap.size 3 1 v j (ints (tab j (fun i => (a.root.co i).val))) ∧ Below w.heap.size w w9) (fun _ i _ => a.len - (intOf i).toNat)
  case atStart => exact ⟨0, 0, by omega, hJ0, rfl, World.ownsRow_nil _ _ _ _, Below.refl _ _⟩
  case round =>
    obtain ⟨j, J, hj, hJ, rfl, hown, hb⟩ := hrel
    by_cases hlt : j < a.root.len
    · obtain ⟨b, o, rfl, hbb, hcc⟩ := hC.out.at_ (by omega)
      have hJl : J < a.len := by
        have h1 : j * p.toNat ≤ (a.root.len - 1) * p.toNat := Nat.mul_le_mul_right _ (by omega)
        rw [hJ.out, hrl.out, Nat.mul_comm p.toNat]; omega
      have hcx : wr.cell? ⟨b, o + J, none⟩ = some (.int .i64 (nth (fromP a) J)) := (hb.cell (p := ⟨b, o + J, none⟩) hbb).trans (hcc J hJl)
      have hv : (a.root.co j).val = nth (fromP a) J := by rw [nth_fromP, hJ.out]; rfl
      have hJ1 : Hid (J + p.toNat = (j + 1) * p.toNat) := by show _ = _; rw [hJ.out, Nat.add_mul, Nat.one_mul]
      have hJ2 : Hid ((J : Int) + p = ((J + p.toNat : Nat) : Int)) := by show _ = _; rw [Int.natCast_add, hpn.out]
      have hJl' : (J : Int) < (a.len : Int) := by omega
      have hsz := hb.size
      clear hcc hJ
      go_wp2_with (at_builtin; go_must (refine wpList_append_lies _ (by rfl) _ _ _ (by rfl) w.heap.size 3 i0 _ 1 8 Tryz.underlying22 hi hz0 hz1 hz2 rfl (by omega) u5 j (ints (tab j (fun i => (a.root.co i).val))) (by rfl) (hown.alloc _) ⟨wr.heap.size, 0, none⟩ 1 1 [.int .i64 (nth (fromP a) J)] (by rfl) (by rfl) (World.news_of_block (cs := #[.int .i64 (nth (fromP a) J)]) (t := 3) (fr := (0, 0)) (heap_alloc_new wr _)) (by simp [Value.oneCell']) (by omega) (by unfold maxLen; omega) (by omega) (by simp; omega) (wr.heap.size + 1) (by simp) ?_); intro gg cap w3 hown3 hgrow hat hlt3)
      have hb3 := below_app' hb hown hgrow hsz
      rw [← hv, ints_tab_succ j (fun i => (a.root.co i).val)] at hown3
      clear hgrow hat hown hv
      go_wp2
      go_roundw
      case rel => exact ⟨j + 1, J + p.toNat, by omega, hJ1, by rw [hJ2.out], hown3, hb3⟩
      case measure => rw [hJ2.out]; simp [intOf]; omega
    · obtain rfl : j = a.root.len := by omega
      obtain ⟨A9, c9, rfl⟩ := own_slice hown
      have hin : Hid (Ints wr A9 a.root.len (fromP a.root)) := Ints.of_own hown (fromP_i64 _)
      have hJl : ¬ (J : Int) < (a.len : Int) := by
        have h1 : p.toNat * a.root.len = p.toNat * (a.root.len - 1) + p.toNat := by rw [← Nat.mul_succ]; congr 1; omega
        have h2 := hrl.out
        have h3 := hJ.out
        rw [Nat.mul_comm] at h3
        omega
      clear hown hC
      go_wp2_with fail
      go_ret
      exact ⟨A9, c9, rfl, hrle, hin.out, hb⟩
end
end Go.Proofs.YtpikakapflebkaaGreat

namespace Go.Proofs.YtpikakapflebkaaGreat
open Go.RowKit Cl
attribute [local go_sem ↓] Go.wp_at_zero Go.wp_at_succ

theorem one_ints {p : Int} (hp : Pr p) (w : World) : Ints (w.alloc (.cells #[.int .i64 1] 3)) (some ⟨w.heap.size, 0, none⟩) (1 : Poly (Zp ⟨p, hp⟩)).len (fromP (1 : Poly (Zp ⟨p, hp⟩))) := by
  rw [fromP_one hp, Poly.len_one]
  exact (Row.new w 3 [1]).ints (fun i => by
    match i with
    | 0 => exact I64.small (by decide) (by decide)
    | i + 1 => rw [nth_ge (by simp)]; exact I64.zero)

section
variable {A : Option Addr} {n c N : Nat} {p : Int} {w : World} {hp : Pr p} {a : Poly (Zp ⟨p, hp⟩)}
set_option maxRecDepth 100000 in
set_option maxHeartbeats 4000000 in
theorem qradical_step (L : Nat) (hN : N ≤ 90000000) (ih : ∀ (b : Poly (Zp ⟨p, hp⟩)) (B : Option Addr) (d : Nat) (w : World), Ints w B b.len (fromP b) → b.len ≤ N → b ≠ 0 → b.len < L → Calls Tryz.prog 78 #[.slice B b.len d, .int .i64 p] w (GivesR w N (Poly.rad b)))
    (ha : Rd w A n a) (hn : n ≤ N) (h0 : a ≠ 0) (hL : a.len ≤ L) : Calls Tryz.prog 78 #[.slice A n c, .int .i64 p] w (GivesR w N (Poly.rad a)) := by
  have hp1 := hp.two
  have hp2 := hp.max
  have C := Lib.hid (qmonicR (c := c) ha hn (by omega))
  have Hih := Lib.hid ih
  have hm := Lib.hid (Poly.monic_mon h0)
  have hrm := Lib.hid (Poly.rad_monic h0)
  have hml := Lib.hid (Poly.monic_len h0)
  have hsm : Hid (a.monic.len ≤ 1 → Poly.rad a = 1) := Poly.rad_small h0
  have hal : a.len ≤ N := by obtain ⟨xs, hx, rfl⟩ := ha; exact Nat.le_trans (len_le_toP hx.len) hn
  have hrl : Hid ((Poly.rad a).len ≤ N) := Nat.le_trans (Poly.rad_len h0) hal
  clear ha ih
  go_enter Tryz.func78, Tryz.ntmps78
  go_wp2_with fail
  refine C.out.mono ?_
  rintro e w1 ⟨A1, c1, rfl, l1, h1, hb1⟩
  have H1 := Lib.hid h1
  clear h1 C
  by_cases hs : a.monic.len ≤ 1
  · have hs' : (a.monic.len : Int) ≤ 1 := by omega
    have hr1 := Lib.hid (hsm.out hs)
    have hone := Lib.hid (one_ints hp w1)
    have hlo := Poly.len_one (F := Zp ⟨p, hp⟩)
    have Hlo := Lib.hid hlo
    clear hlo
    go_wp2_with fail
    go_ret
    refine ⟨some ⟨w1.heap.size, 0, none⟩, 1, ?_, hrl.out, ?_, hb1.alloc hb1.size _⟩
    · rw [hr1.out, Hlo.out]; rfl
    · rw [hr1.out]; exact hone.out
  · have hs' : ¬ (a.monic.len : Int) ≤ 1 := by omega
    generalize a.monic = m at *
    go_wp2_with fail
    refine (qderivR (hp := hp) (N := N) (Rd.of H1.out) l1 (by omega)).mono ?_
    rintro e w2 ⟨A2, c2, rfl, l2, h2, hb2⟩
    have H2 := Lib.hid h2
    have H12 := Lib.hid (H1.out.bel hb2)
    have hbel2 := below_tr hb1 hb2
    clear h2 hb2 hb1
    by_cases hD : m.D = 0
    · have hd0 : ((m.D.len : Int) == 0) = true := by rw [hD, Poly.len_zero]; rfl
      have hne := Lib.hid (Poly.root_ne hD hm.out.ne)
      have hrr := Lib.hid (Poly.rad_root hm.out hD)
      have hsh := Poly.root_shorter hm.out hD (by omega)
      have hDd := Lib.hid hD
      clear hD
      go_wp2_with fail
      refine (qrootR (hp := hp) H12.out (by omega) hm.out.ne hDd.out).mono ?_
      rintro e w3 ⟨A3, c3, rfl, l3, h3, hb3⟩
      have H3 := Lib.hid h3
      have hbel3 := below_tr hbel2 hb3
      clear h3 hb3
      go_wp2_with fail
      refine (Hih.out _ _ _ _ H3.out (by omega) hne.out (by rw [hml.out] at hsh; omega)).mono ?_
      rintro e w4 ⟨A4, c4, rfl, l4, h4, hb4⟩
      have hbel4 := below_tr hbel3 hb4
      have H4 := Lib.hid h4
      clear h4 hb4
      go_wp2_with fail
      go_ret
      refine ⟨A4, c4, ?_, hrl.out, ?_, hbel4⟩
      · rw [← hrm.out, ← hrr.out]; rfl
      · rw [← hrm.out, ← hrr.out]; exact H4.out
    · have hd0 : ((m.D.len : Int) == 0) = false := beq_eq_false_iff_ne.2 (by have := Poly.len_pos hD; omega)
      have HD := Lib.hid hD
      have hg := Lib.hid ((Poly.gcd_is m m.D).mon_of (.inl hm.out.ne))
      have hq := Lib.hid (Poly.quo_mon hm.out hg.out (Poly.gcd_is m m.D).l)
      clear hD
      go_wp2_with fail
      refine (qgcdR (hp := hp) (N := N) (Rd.of H12.out) (Rd.of H2.out) l1 l2 hN).mono ?_
      rintro e w3 ⟨A3, c3, rfl, l3, h3, hb3⟩
      have H3 := Lib.hid h3
      have H13 := Lib.hid (H12.out.bel hb3)
      have hbel3 := below_tr hbel2 hb3
      clear h3 hb3
      go_wp2_with fail
      refine (qbyR (hp := hp) (N := N) (M := N) (Rd.of H13.out) (Rd.of H3.out) l1 l3 (by omega) (by omega) hg.out.ne).mono ?_
      rintro e w4 ⟨A4, c4, rfl, l4, h4, hb4⟩
      have H4 := Lib.hid h4
      have H34 := Lib.hid (H3.out.bel hb4)
      have hbel4 := below_tr hbel3 hb4
      clear h4 hb4
      go_wp2_with fail
      refine (qwithoutR (hp := hp) (N := N) H34.out H4.out l3 l4 hN hg.out hq.out.ne).mono ?_
      rintro e w5 ⟨W, hWm, hWv, A5, c5, rfl, l5, h5, hb5⟩
      obtain ⟨-, -, hpr, hWl⟩ := Poly.rad_step hm.out HD.out hWm hWv
      have HW := Lib.hid hWm
      have Hpr := Lib.hid hpr
      have H5 := Lib.hid h5
      have H45 := Lib.hid (H4.out.bel hb5)
      have hbel5 := below_tr hbel4 hb5
      clear h5 hb5 hWv hpr hWm
      go_wp2_with fail
      refine (Hih.out _ _ _ _ H5.out l5 HW.out.ne (by rw [hml.out] at hWl; omega)).mono ?_
      rintro e w6 ⟨A6, c6, rfl, l6, h6, hb6⟩
      have H6 := Lib.hid h6
      have H46 := Lib.hid (H45.out.bel hb6)
      have hbel6 := below_tr hbel5 hb6
      clear h6 hb6
      go_wp2_with fail
      refine (qtimesR (hp := hp) (N := N) (M := N) (K := 2 * N) (Rd.of H46.out) (Rd.of H6.out) l4 l6 (by omega) (by omega)).mono ?_
      rintro e w7 ⟨A7, c7, rfl, l7, h7, hb7⟩
      have H7 := Lib.hid h7
      have hbel7 := below_tr hbel6 hb7
      clear h7 hb7
      go_wp2_with fail
      go_ret
      refine ⟨A7, c7, ?_, hrl.out, ?_, hbel7⟩
      · rw [← hrm.out, ← Hpr.out]; rfl
      · rw [← hrm.out, ← Hpr.out]; exact H7.out
theorem qradical_ind (hN : N ≤ 90000000) : ∀ (L : Nat) (b : Poly (Zp ⟨p, hp⟩)) (B : Option Addr) (d : Nat) (w : World), Ints w B b.len (fromP b) → b.len ≤ N → b ≠ 0 → b.len < L → Calls Tryz.prog 78 #[.slice B b.len d, .int .i64 p] w (GivesR w N (Poly.rad b)) := by
  intro L
  induction L with
  | zero => intro b B d w _ _ _ h; omega
  | succ L ih => intro b B d w hb hl h0 h; exact qradical_step L hN ih (Rd.of hb) hl h0 (by omega)
theorem qradicalR (ha : Rd w A n a) (hn : n ≤ N) (hN : N ≤ 90000000) (h0 : a ≠ 0) : Calls Tryz.prog 78 #[.slice A n c, .int .i64 p] w (GivesR w N (Poly.rad a)) :=
  qradical_step a.len hN (qradical_ind hN a.len) ha hn h0 (Nat.le_refl _)
theorem qis0R (ha : Rd w A n a) (hn : n ≤ N) (hN : N ≤ 90000000) (h0 : a = 0) : Calls Tryz.prog 50 #[.slice A n c, .int .i64 p] w fun e w' => e = .returned (.tuple #[.bool false, .int .i64 8]) ∧ Below w.heap.size w w' := by
  have C := Lib.hid (qwrong0R (c := c) ha hn (by omega) h0)
  clear ha h0
  go_enter Tryz.func50, Tryz.ntmps50
  go_wp2_with fail
  refine C.out.mono ?_
  rintro e w1 ⟨rfl, hb1⟩
  go_wp2_with fail
  go_ret2
  exact ⟨rfl, hb1⟩
end
theorem qis_no (A : Option Addr) (n c : Nat) (p : Int) (w : World) (h3 : -9223372036854775808 ≤ p) (h4 : p ≤ 9223372036854775807) (hp : isPrime p = false) :
    Calls Tryz.prog 50 #[.slice A n c, .int .i64 p] w fun e w' => e = .returned (.tuple #[.bool false, .int .i64 1]) ∧ w = w' := by
  go_enter Tryz.func50, Tryz.ntmps50
  go_wp2_with fail
  refine (qwrong_no _ _ _ _ _ h3 h4 hp).mono ?_
  rintro e w' ⟨rfl, rfl⟩
  go_wp2_with fail
  go_ret2
  exact ⟨rfl, rfl⟩
end Go.Proofs.YtpikakapflebkaaGreat

namespace Go.Proofs.YtpikakapflebkaaGreat
open Go.RowKit Cl
attribute [local go_sem ↓] Go.wp_at_zero Go.wp_at_succ

section
variable {q : Prm}
theorem sq_iff {m : Poly (Zp q)} (hm : m.Mon) : (Poly.gcdP m m.D).len = 1 ↔ m = Poly.rad m := by
  have hi := Poly.gcd_is m m.D
  have hg := hi.mon_of (.inl hm.ne)
  have hv : ∀ f, f.Irr → Poly.val f (Poly.gcdP m m.D) = if q.p.toNat ∣ Poly.val f m then Poly.val f m else Poly.val f m - 1 := fun f hf => hf.val_gcd_D hm.ne hi
  rw [hg.len_one]
  constructor
  · intro h
    refine hm.eq_rad hm.ne fun f hf => ?_
    have h1 := hv f hf
    rw [h, Poly.val_one hf] at h1
    split at h1
    · rw [← h1]; rfl
    · next hd =>
      have : Poly.val f m ≠ 0 := fun e => hd (by rw [e]; exact ⟨0, by omega⟩)
      rw [if_pos (by omega)]; omega
  · intro h
    refine hg.eq_one_of_val fun f hf => ?_
    rw [hv f hf]
    have h1 := Poly.val_rad hm.ne hf
    rw [← h] at h1
    split
    · next hd =>
      split at h1
      · rw [h1] at hd
        have := Nat.le_of_dvd (by omega) hd
        have := q.pr.two
        omega
      · exact h1
    · split at h1 <;> omega
theorem same_sq {a : Poly (Zp q)} (h0 : a ≠ 0) : eqI (fromP a.monic) (fromP (Poly.rad a)) = (((Poly.gcdP a.monic a.monic.D).len : Int) == 1) := by
  rw [fromP_iff]
  have h1 := sq_iff (Poly.monic_mon h0)
  rw [Poly.rad_monic h0] at h1
  by_cases h : (Poly.gcdP a.monic a.monic.D).len = 1
  · rw [h, decide_eq_true (congrArg fromP (h1.1 h))]; rfl
  · rw [decide_eq_false fun e => h (h1.2 (fromP_inj e))]
    exact (beq_eq_false_iff_ne.2 (by omega)).symm
/-- Entries of a row under way: each tells its level, and lies elsewhere than the row. -/
def Ents (w : World) (a : Poly (Zp q)) (v : Value) (L : List Ent) : Prop :=
  ∀ x ∈ L, 0 < (Poly.lvl a x.2).len ∧ Ints w x.1.1 (Poly.lvl a x.2).len (fromP (Poly.lvl a x.2)) ∧ ∀ y, x.1.1 = some y → v.ownBlock ≠ some y.block
theorem Ents.bel {w w' : World} {a : Poly (Zp q)} {v : Value} {L : List Ent} (h : Ents w a v L) (hb : Below w.heap.size w w') : Ents w' a v L := fun x hx => ⟨(h x hx).1, (h x hx).2.1.bel hb, (h x hx).2.2⟩
theorem Ents.app {w w' : World} {a : Poly (Zp q)} {v : Value} {L : List Ent} {x : Ent} {o : Obj} {g n c H : Nat} (h : Ents w a v L) (hg : (w.alloc o).grownBy w' v.ownBlock) (hat : v.ownBlock = some g ∨ g = H) (hH : (w.alloc o).heap.size = H)
    (hp : 0 < (Poly.lvl a x.2).len) (hx : Ints w x.1.1 (Poly.lvl a x.2).len (fromP (Poly.lvl a x.2))) (hl : ∀ y, x.1.1 = some y → v.ownBlock ≠ some y.block) : Ents w' a (.slice (some ⟨g, 0, none⟩) n c) (L ++ [x]) := by
  have key : ∀ z : Ent, 0 < (Poly.lvl a z.2).len → Ints w z.1.1 (Poly.lvl a z.2).len (fromP (Poly.lvl a z.2)) → (∀ y, z.1.1 = some y → v.ownBlock ≠ some y.block) → 0 < (Poly.lvl a z.2).len ∧ Ints w' z.1.1 (Poly.lvl a z.2).len (fromP (Poly.lvl a z.2)) ∧ ∀ y, z.1.1 = some y → (Value.slice (some ⟨g, 0, none⟩) n c).ownBlock ≠ some y.block := by
    intro z h1 h2 h3
    refine ⟨h1, (h2.alloc o).grown hg (fun _ y hy e => h3 y hy e), fun y hy e => ?_⟩
    have hlt := h2.blk_lt h1 y hy
    have e' : g = y.block := by injection e
    rcases hat with h4 | h4
    · exact h3 y hy (by rw [h4, e'])
    · rw [← hH] at h4; simp at h4; omega
  intro z hz
  rcases List.mem_append.1 hz with hz | hz
  · exact key z (h z hz).1 (h z hz).2.1 (h z hz).2.2
  · rw [List.mem_singleton] at hz; subst hz; exact key z hp hx hl
theorem Ents.prs {w : World} {a : Poly (Zp q)} {v : Value} {L : List Ent} {base : Nat} {t : TypeId} (h : Ents w a v L) (hown : w.ownsRow base t 2 v L.length (pcells (fun k => (Poly.lvl a k).len) L)) (hk : L.map (·.2) = Poly.lvls a) :
    ∃ A c, v = .slice A (Poly.partsL a).length c ∧ Prs w A (Poly.partsL a).length (Poly.partsL a) := by
  have e : Poly.partsL a = L.map fun x => (Poly.lvl a x.2, x.2) := by
    unfold Poly.partsL
    rw [← hk, List.map_map]; rfl
  have hl : L.length = (Poly.partsL a).length := by rw [e, List.length_map]
  rcases hown.2 with ⟨hv, hn0⟩ | ⟨g, cap, cur, hv, hgb, hh, _⟩
  · refine ⟨none, 0, by rw [hv, ← hl, hn0], rfl, fun h0 => ?_⟩
    omega
  · rw [hl] at hv
    refine ⟨_, cap, hv, rfl, fun _ => ⟨g, 0, rfl, (Array.getElem?_eq_some_iff.1 hh).1, fun i hi => ?_⟩⟩
    have hi' : i < L.length := by rw [hl]; exact hi
    have hcell : ∀ j u, (pcells (fun k => (Poly.lvl a k).len) L)[j]? = some u → w.cell? ⟨g, j, none⟩ = some u := fun j u hu => by
      have := hown.cells (g := g) (by rw [hv]; rfl) j u hu
      rwa [Go.WideShapes.add_plain, Nat.zero_add] at this
    have eg : (Poly.partsL a)[i] = (Poly.lvl a (L[i]).2, (L[i]).2) := by
      have : (Poly.partsL a)[i]? = (L.map fun x => (Poly.lvl a x.2, x.2))[i]? := by rw [e]
      rw [List.getElem?_eq_getElem hi, List.getElem?_map, List.getElem?_eq_getElem hi'] at this
      exact Option.some.inj this
    refine ⟨(L[i]).1.1, (L[i]).1.2, ?_, ?_, ?_⟩
    · rw [eg, Nat.zero_add]; exact hcell _ _ (pcells_get0 hi')
    · rw [eg, Nat.zero_add]; exact hcell _ _ (pcells_get1 hi')
    · rw [eg]; exact (h _ (List.getElem_mem hi')).2.1
end
section
variable {A : Option Addr} {n c N : Nat} {p : Int} {w : World} {hp : Pr p} {a : Poly (Zp ⟨p, hp⟩)}
theorem qisR (ha : Rd w A n a) (hn : n ≤ N) (hN : N ≤ 90000000) (h0 : a ≠ 0) : Calls Tryz.prog 50 #[.slice A n c, .int .i64 p] w fun e w' => e = .returned (.tuple #[.bool (sqB a), .int .i64 0]) ∧ Below w.heap.size w w' := by
  have C := Lib.hid (qwrongR (c := c) ha hn (by omega) h0)
  have Ha := Lib.hid ha
  have Hs : Hid (eqI (fromP a.monic) (fromP (Poly.rad a)) = sqB a) := same_sq h0
  clear ha
  go_enter Tryz.func50, Tryz.ntmps50
  go_wp2_with fail
  refine C.out.mono ?_
  rintro e w1 ⟨rfl, hb1⟩
  have Ha1 : Hid (Rd w1 A n a) := by obtain ⟨xs, hx, e⟩ := Ha.out; exact ⟨xs, hx.bel hb1, e⟩
  go_wp2_with fail
  refine (qmonicR (hp := hp) Ha1.out hn (by omega)).mono ?_
  rintro e w2 ⟨A2, c2, rfl, l2, h2, hb2⟩
  have Ha2 : Hid (Rd w2 A n a) := by obtain ⟨xs, hx, e⟩ := Ha1.out; exact ⟨xs, hx.bel hb2, e⟩
  go_wp2_with fail
  refine (qradicalR (hp := hp) Ha2.out hn hN h0).mono ?_
  rintro e w3 ⟨A3, c3, rfl, l3, h3, hb3⟩
  have H2 := Lib.hid (h2.bel hb3)
  go_wp2_with fail
  refine (same06_any _ _ _ _ _ _ _ _ _ H2.out h3 (by omega) (by omega)).mono ?_
  rintro e w4 ⟨rfl, k, rfl⟩
  rw [Hs.out]
  go_wp2_with fail
  go_ret2
  exact ⟨rfl, below_drewN (below_tr (below_tr hb1 hb2) hb3) k⟩
end
end Go.Proofs.YtpikakapflebkaaGreat

namespace Go.Proofs.YtpikakapflebkaaGreat
open Go.RowKit Cl
attribute [local go_sem ↓] Go.wp_at_zero Go.wp_at_succ

section
variable {A : Option Addr} {n c N : Nat} {p : Int} {w : World} {hp : Pr p} {a : Poly (Zp ⟨p, hp⟩)}
end
end Go.Proofs.YtpikakapflebkaaGreat
