/- The walk of MpolyValues: values of sums and products; Leibniz's law; degrees of products (printed by gen/law17v.py). -/
import Derived.Test.YtjmbejodcloapaaLawV17
namespace Go.Proofs.Ytjmbejodcloapaa
open Go.RowKit Cl
attribute [local go_sem ↓] Go.wp_at_zero Go.wp_at_succ
set_option maxRecDepth 1000000 in
set_option maxHeartbeats 16000000 in
theorem law_MpolyValues (a0 : Int) (A1 : Option Addr) (m1 c1 : Nat) (L1 : List TV) (A2 : Option Addr) (m2 c2 : Nat) (L2 : List TV) (a3 : Int) (s4 : Bool) (A4 : Option Addr) (n4 c4 : Nat) (xs4 : List Int) (w : World) (lo0 : -9223372036854775808 ≤ a0) (hi0 : a0 ≤ 9223372036854775807)
    (w1 : Trs w A1 m1 L1) (h1 : m1 ≤ c1) (k1 : c1 ≤ 9223372036854775807) (w2 : Trs w A2 m2 L2) (h2 : m2 ≤ c2) (k2 : c2 ≤ 9223372036854775807) (lo3 : -9223372036854775808 ≤ a3) (hi3 : a3 ≤ 9223372036854775807) (w4 : Limbs w A4 n4 xs4) (y4 : n4 ≤ c4) (z4 : c4 ≤ 9223372036854775807) :
    Calls Try.prog 5 #[.int .i64 a0, .slice A1 m1 c1, .slice A2 m2 c2, .int .i64 a3, .agg #[.bool s4, .slice A4 n4 c4]] w fun e w' => e = .returned (.bool true) ∧ Below w.heap.size w w' := by
  have Ta := Lib.hid w1
  have Tb := Lib.hid w2
  have X := Lib.hid w4
  clear w1 w2 w4
  have hd0 := Lib.hid (Duo.new w (.bool s4) (.slice A4 n4 c4))
  have hb0 : Hid (Below w.heap.size w (w.alloc (.cells #[.bool s4, .slice A4 n4 c4] 34))) := (Below.refl _ _).alloc (Nat.le_refl _) _
  go_enter Try.func5, Try.ntmps5
  go_wp2_with fail
  generalize w.alloc (.cells #[.bool s4, .slice A4 n4 c4] 34) = w0 at *
  refine (awake17 w0).mono ?_
  rintro e wa ⟨rfl, hba⟩
  have hba' : Below w.heap.size w wa := hb0.out.trans (hba.mono hb0.out.size)
  have hda := Lib.hid (hd0.out.bel hba)
  have hb3 : Below w.heap.size w (wa.alloc (.cells #[.slice A1 m1 c1, .slice A2 m2 c2] 22)) := hba'.alloc hba'.size _
  have hq := heap_alloc_new wa (.cells #[.slice A1 m1 c1, .slice A2 m2 c2] 22)
  have hd3 := Lib.hid (hda.out.bel ((Below.refl wa.heap.size wa).alloc (Nat.le_refl _) (.cells #[.slice A1 m1 c1, .slice A2 m2 c2] 22)))
  clear hd0 hb0 hba hda
  go_wp2_with fail
  generalize wa.alloc (.cells #[.slice A1 m1 c1, .slice A2 m2 c2] 22) = wb at *
  refine (lsmall2 8 2 8 wa.heap.size 2 A1 A2 m1 m2 c1 c2 L1 L2 wb ((cell_of_row wb _ 0 _ _ (0, 0) hq).trans rfl) ((cell_of_row wb _ 1 _ _ (0, 0) hq).trans rfl) (Ta.out.bel hb3) (Tb.out.bel hb3) (by omega) (by omega)).mono ?_
  rintro e wc ⟨sm, rfl, rfl, hsm⟩
  have Hb := Lib.hid hb3
  have Hsm := Lib.hid hsm
  have hx0 := hd3.out.cell0
  have hx1 := hd3.out.cell1
  have hgx := hd3.out.lt
  clear hb3 hq hba' hsm hd3
  cases sm with
  | false =>
    go_wp2_with fail
    go_ret
    exact ⟨rfl, Hb.out⟩
  | true =>
    by_cases hbig : 1 < (n4 : Int)
    · go_wp2_with fail
      go_ret
      exact ⟨rfl, Hb.out⟩
    · go_wp2_with fail
      refine (mcheck a0 A1 m1 c1 L1 wb (Ta.out.bel Hb.out)).mono ?_
      rintro e wd ⟨rfl, hb⟩
      replace hx0 := (hb.cell (p := ⟨w.heap.size, 0, none⟩) hgx).trans hx0
      replace hx1 := (hb.cell (p := ⟨w.heap.size, 1, none⟩) hgx).trans hx1
      replace hgx : w.heap.size < wd.heap.size := Nat.lt_of_lt_of_le hgx hb.size
      have HB1 : Hid (Below w.heap.size w wd) := Hb.out.trans (hb.mono Hb.out.size)
      clear hb Hb
      by_cases ho1 : OkL a0 L1
      rotate_left
      · rw [chkN_no ho1]
        go_wp2_with fail
        go_ret
        exact ⟨rfl, HB1.out⟩
      rw [chkN_ok ho1]
      have Ho1 := Lib.hid ho1
      clear ho1
      go_wp2_with fail
      refine (mcheck a0 A2 m2 c2 L2 wd (Tb.out.bel HB1.out)).mono ?_
      rintro e we ⟨rfl, hb⟩
      replace hx0 := (hb.cell (p := ⟨w.heap.size, 0, none⟩) hgx).trans hx0
      replace hx1 := (hb.cell (p := ⟨w.heap.size, 1, none⟩) hgx).trans hx1
      replace hgx : w.heap.size < we.heap.size := Nat.lt_of_lt_of_le hgx hb.size
      have HB : Hid (Below w.heap.size w we) := HB1.out.trans (hb.mono HB1.out.size)
      clear hb HB1
      by_cases ho2 : OkL a0 L2
      rotate_left
      · rw [chkN_no ho2]
        go_wp2_with fail
        go_ret
        exact ⟨rfl, HB.out⟩
      rw [chkN_ok ho2]
      have Ho2 := Lib.hid ho2
      clear ho2
      by_cases hi0' : a3 < 0
      · go_wp2_with fail
        go_ret
        exact ⟨rfl, HB.out⟩
      by_cases hi1' : a0 ≤ a3
      · go_wp2_with fail
        go_ret
        exact ⟨rfl, HB.out⟩
      · obtain ⟨n, hn⟩ : ∃ n : Nat, a0 = (n : Int) := ⟨a0.toNat, by have := Ho1.out.1; omega⟩
        subst hn
        obtain ⟨i, hi⟩ : ∃ i : Nat, a3 = (i : Int) := ⟨a3.toNat, by omega⟩
        subst hi
        have hn6 : n ≤ 6 := by have := Ho1.out.2.1; omega
        have hin : i < n := by omega
        have hkx : n4 ≤ 1 := by omega
        obtain ⟨s1, s2⟩ : SmallL 8 2 8 L1 ∧ SmallL 8 2 8 L2 := (by first | exact Hsm.out rfl | exact Hsm.out trivial)
        have Ha := Lib.hid (has_in (d := 8) (in_of Ta.out (by omega) s1 Ho1.out))
        have Hb := Lib.hid (has_in (d := 8) (in_of Tb.out (by omega) s2 Ho2.out))
        have hx64 : Hid ((intZ s4 xs4).natAbs ≤ 2 ^ 64) := Nat.le_of_lt (intZ_abs s4 X.out.ok (C := 1) (by rw [X.out.len]; exact hkx))
        clear s1 s2 Hsm Ho1 Ho2
        replace Ta := Lib.hid (Ta.out.bel HB.out)
        replace Tb := Lib.hid (Tb.out.bel HB.out)
        replace X := Lib.hid (X.out.bel HB.out)
        go_wp2_with fail
        refine (heval Ta.out Ha.out hn6 hin X.out y4 z4 hkx (by omega) (by omega) (by omega)).mono ?_
        rintro e v1 ⟨Ava, cva, Lva, rfl, lva, t3, t4, t5, hb⟩
        replace hx0 := (hb.cell (p := ⟨w.heap.size, 0, none⟩) hgx).trans hx0
        replace hx1 := (hb.cell (p := ⟨w.heap.size, 1, none⟩) hgx).trans hx1
        replace hgx : w.heap.size < v1.heap.size := Nat.lt_of_lt_of_le hgx hb.size
        replace Ta := Lib.hid (Ta.out.bel hb)
        replace Tb := Lib.hid (Tb.out.bel hb)
        replace X := Lib.hid (X.out.bel hb)
        replace HB : Hid (Below w.heap.size w v1) := HB.out.trans (hb.mono HB.out.size)
        obtain ⟨nva, hnva⟩ : ∃ k, Lva.length = k := ⟨_, rfl⟩
        rw [hnva] at lva t3 ⊢
        have Tva := Lib.hid t3
        have Pva := Lib.hid t4
        have Eva := Lib.hid t5
        clear t3 t4 t5 hnva hb
        go_wp2_with fail
        refine (heval Tb.out Hb.out hn6 hin X.out y4 z4 hkx (by omega) (by omega) (by omega)).mono ?_
        rintro e v2 ⟨Avb, cvb, Lvb, rfl, lvb, t3, t4, t5, hb⟩
        replace hx0 := (hb.cell (p := ⟨w.heap.size, 0, none⟩) hgx).trans hx0
        replace hx1 := (hb.cell (p := ⟨w.heap.size, 1, none⟩) hgx).trans hx1
        replace hgx : w.heap.size < v2.heap.size := Nat.lt_of_lt_of_le hgx hb.size
        replace Ta := Lib.hid (Ta.out.bel hb)
        replace Tb := Lib.hid (Tb.out.bel hb)
        replace X := Lib.hid (X.out.bel hb)
        replace Tva := Lib.hid (Tva.out.bel hb)
        replace HB : Hid (Below w.heap.size w v2) := HB.out.trans (hb.mono HB.out.size)
        obtain ⟨nvb, hnvb⟩ : ∃ k, Lvb.length = k := ⟨_, rfl⟩
        rw [hnvb] at lvb t3 ⊢
        have Tvb := Lib.hid t3
        have Pvb := Lib.hid t4
        have Evb := Lib.hid t5
        clear t3 t4 t5 hnvb hb
        go_wp2_with fail
        have keepX : Hid (∀ W, Below v2.heap.size v2 W → W.cell? ⟨w.heap.size, 0, none⟩ = some (.bool s4) ∧ W.cell? ⟨w.heap.size, 1, none⟩ = some (.slice A4 n4 c4)) := fun W hW => ⟨(hW.cell (p := ⟨w.heap.size, 0, none⟩) hgx).trans hx0, (hW.cell (p := ⟨w.heap.size, 1, none⟩) hgx).trans hx1⟩
        go_region_held3 (fun W => W.cell? ⟨w.heap.size, 0, none⟩ = some (.bool s4) ∧ W.cell? ⟨w.heap.size, 1, none⟩ = some (.slice A4 n4 c4))
          (first | go_keep | exact keepX.out _ (Below.refl _ _).drew | exact keepX.out _ (Below.refl _ _) | exact keepX.out _ hbm | exact keepX.out _ hbs)
          (first
            | (go_at_call 13; refine (hsum (ma := m1) (mb := m2) (ca := c1) (cb := c2) (A := A1) (B := A2) (Ta.out.bel (by first | exact (Below.refl _ _).drew | exact Below.refl _ _)) Ha.out hn6 (Tb.out.bel (by first | exact (Below.refl _ _).drew | exact Below.refl _ _)) Hb.out (by omega) (by omega) (by omega)).mono ?_; rintro e v3 ⟨As, cs, Ls, rfl, ls, t3, t4, t5, hbm'⟩; have hbm : Below v2.heap.size v2 v3 := (by first | exact (Below.refl _ _).drew.trans hbm' | exact hbm'); have hh := has_sum Ha.out Hb.out t4 t5 (d := 8) (k := 16) (b := 157) (by omega) (by omega) (by omega) (by omega) (by omega) (by omega) (by omega))
            | (go_at_call 18; refine (heval (t3) hh hn6 hin (X.out.bel hbm) y4 z4 hkx (by omega) (by omega) (by omega)).mono ?_; rintro e v4 ⟨Avs, cvs, Lvs, rfl, lvs, q3, q4, q5, hbs'⟩; have hbs : Below v2.heap.size v2 v4 := hbm.trans (hbs'.mono hbm.size)))
        replace t3 := t3.bel hbs'
        clear keepX hbs' hbm' hbm
        have hb := hbs
        clear hbs hh
        replace hx0 := (hb.cell (p := ⟨w.heap.size, 0, none⟩) hgx).trans hx0
        replace hx1 := (hb.cell (p := ⟨w.heap.size, 1, none⟩) hgx).trans hx1
        replace hgx : w.heap.size < v4.heap.size := Nat.lt_of_lt_of_le hgx hb.size
        replace Ta := Lib.hid (Ta.out.bel hb)
        replace Tb := Lib.hid (Tb.out.bel hb)
        replace X := Lib.hid (X.out.bel hb)
        replace Tva := Lib.hid (Tva.out.bel hb)
        replace Tvb := Lib.hid (Tvb.out.bel hb)
        replace HB : Hid (Below w.heap.size w v4) := HB.out.trans (hb.mono HB.out.size)
        obtain ⟨ns, hns⟩ : ∃ k, Ls.length = k := ⟨_, rfl⟩
        rw [hns] at ls t3 ⊢
        have Ts := Lib.hid t3
        have Ps := Lib.hid t4
        have Es := Lib.hid t5
        clear t3 t4 t5 hns hb
        have t3 := q3
        have t4 := q4
        have t5 := q5
        clear q3 q4 q5
        obtain ⟨nvs, hnvs⟩ : ∃ k, Lvs.length = k := ⟨_, rfl⟩
        rw [hnvs] at lvs t3 ⊢
        have Tvs := Lib.hid t3
        have Pvs := Lib.hid t4
        have Evs := Lib.hid t5
        clear t3 t4 t5 hnvs 
        have Hs : Hid (Has n 157 8 16 Ls) := has_sum Ha.out Hb.out Ps.out Es.out (by omega) (by omega) (by omega) (by omega) (by omega) (by omega) (by omega)
        go_wp2_with fail
        have keepX : Hid (∀ W, Below v4.heap.size v4 W → W.cell? ⟨w.heap.size, 0, none⟩ = some (.bool s4) ∧ W.cell? ⟨w.heap.size, 1, none⟩ = some (.slice A4 n4 c4)) := fun W hW => ⟨(hW.cell (p := ⟨w.heap.size, 0, none⟩) hgx).trans hx0, (hW.cell (p := ⟨w.heap.size, 1, none⟩) hgx).trans hx1⟩
        go_region_held3 (fun W => W.cell? ⟨w.heap.size, 0, none⟩ = some (.bool s4) ∧ W.cell? ⟨w.heap.size, 1, none⟩ = some (.slice A4 n4 c4))
          (first | go_keep | exact keepX.out _ (Below.refl _ _).drew | exact keepX.out _ (Below.refl _ _) | exact keepX.out _ hbm | exact keepX.out _ hbs)
          (first
            | (go_at_call 11; refine (htimes (ma := m1) (mb := m2) (ca := c1) (cb := c2) (A := A1) (B := A2) (Ta.out.bel (by first | exact (Below.refl _ _).drew | exact Below.refl _ _)) Ha.out hn6 (Tb.out.bel (by first | exact (Below.refl _ _).drew | exact Below.refl _ _)) Hb.out (by omega) (by omega) (by omega) (by omega)).mono ?_; rintro e v5 ⟨Ap, cp, Lp, rfl, lp, t3, t4, t5, hbm'⟩; have hbm : Below v4.heap.size v4 v5 := (by first | exact (Below.refl _ _).drew.trans hbm' | exact hbm'); have hh := has_mul Ha.out Hb.out t4 t5 (d := 16) (k := 64) (b := 300) (by omega) (by omega) (by omega) (by omega) (by omega))
            | (go_at_call 18; refine (heval (t3) hh hn6 hin (X.out.bel hbm) y4 z4 hkx (by omega) (by omega) (by omega)).mono ?_; rintro e v6 ⟨Avp, cvp, Lvp, rfl, lvp, q3, q4, q5, hbs'⟩; have hbs : Below v4.heap.size v4 v6 := hbm.trans (hbs'.mono hbm.size)))
        replace t3 := t3.bel hbs'
        clear keepX hbs' hbm' hbm
        have hb := hbs
        clear hbs hh
        replace hx0 := (hb.cell (p := ⟨w.heap.size, 0, none⟩) hgx).trans hx0
        replace hx1 := (hb.cell (p := ⟨w.heap.size, 1, none⟩) hgx).trans hx1
        replace hgx : w.heap.size < v6.heap.size := Nat.lt_of_lt_of_le hgx hb.size
        replace Ta := Lib.hid (Ta.out.bel hb)
        replace Tb := Lib.hid (Tb.out.bel hb)
        replace X := Lib.hid (X.out.bel hb)
        replace Tva := Lib.hid (Tva.out.bel hb)
        replace Tvb := Lib.hid (Tvb.out.bel hb)
        replace Ts := Lib.hid (Ts.out.bel hb)
        replace Tvs := Lib.hid (Tvs.out.bel hb)
        replace HB : Hid (Below w.heap.size w v6) := HB.out.trans (hb.mono HB.out.size)
        obtain ⟨np, hnp⟩ : ∃ k, Lp.length = k := ⟨_, rfl⟩
        rw [hnp] at lp t3 ⊢
        have Tp := Lib.hid t3
        have Pp := Lib.hid t4
        have Ep := Lib.hid t5
        clear t3 t4 t5 hnp hb
        have t3 := q3
        have t4 := q4
        have t5 := q5
        clear q3 q4 q5
        obtain ⟨nvp, hnvp⟩ : ∃ k, Lvp.length = k := ⟨_, rfl⟩
        rw [hnvp] at lvp t3 ⊢
        have Tvp := Lib.hid t3
        have Pvp := Lib.hid t4
        have Evp := Lib.hid t5
        clear t3 t4 t5 hnvp 
        have Hp : Hid (Has n 300 16 64 Lp) := has_mul Ha.out Hb.out Pp.out Ep.out (by omega) (by omega) (by omega) (by omega) (by omega)
        clear hx0 hx1 hgx
        have Hva : Hid (Has n 668 8 8 Lva) := has_ev Ha.out hx64.out Pva.out Eva.out (by omega) (by omega) (by omega)
        have Hvb : Hid (Has n 668 8 8 Lvb) := has_ev Hb.out hx64.out Pvb.out Evb.out (by omega) (by omega) (by omega)
        have Hvs : Hid (Has n 681 8 16 Lvs) := has_ev Hs.out hx64.out Pvs.out Evs.out (by omega) (by omega) (by omega)
        have Hvp : Hid (Has n 1336 16 64 Lvp) := has_ev Hp.out hx64.out Pvp.out Evp.out (by omega) (by omega) (by omega)
        clear X
        go_wp2_with fail
        refine (hderiv Ta.out Ha.out hn6 hin (by omega) (by omega) (by omega)).mono ?_
        rintro e v7 ⟨Ada, cda, Lda, rfl, lda, t3, t4, t5, hb⟩
        replace Ta := Lib.hid (Ta.out.bel hb)
        replace Tb := Lib.hid (Tb.out.bel hb)
        replace Tva := Lib.hid (Tva.out.bel hb)
        replace Tvb := Lib.hid (Tvb.out.bel hb)
        replace Ts := Lib.hid (Ts.out.bel hb)
        replace Tvs := Lib.hid (Tvs.out.bel hb)
        replace Tp := Lib.hid (Tp.out.bel hb)
        replace Tvp := Lib.hid (Tvp.out.bel hb)
        replace HB : Hid (Below w.heap.size w v7) := HB.out.trans (hb.mono HB.out.size)
        obtain ⟨nda, hnda⟩ : ∃ k, Lda.length = k := ⟨_, rfl⟩
        rw [hnda] at lda t3 ⊢
        have Tda := Lib.hid t3
        have Pda := Lib.hid t4
        have Eda := Lib.hid t5
        clear t3 t4 t5 hnda hb
        have Hda : Hid (Has n 166 8 8 Lda) := has_der Ha.out Pda.out Eda.out (by omega) (by omega) (by omega)
        go_wp2_with fail
        refine (hderiv Tb.out Hb.out hn6 hin (by omega) (by omega) (by omega)).mono ?_
        rintro e v8 ⟨Adb, cdb, Ldb, rfl, ldb, t3, t4, t5, hb⟩
        replace Ta := Lib.hid (Ta.out.bel hb)
        replace Tb := Lib.hid (Tb.out.bel hb)
        replace Tva := Lib.hid (Tva.out.bel hb)
        replace Tvb := Lib.hid (Tvb.out.bel hb)
        replace Ts := Lib.hid (Ts.out.bel hb)
        replace Tvs := Lib.hid (Tvs.out.bel hb)
        replace Tp := Lib.hid (Tp.out.bel hb)
        replace Tvp := Lib.hid (Tvp.out.bel hb)
        replace Tda := Lib.hid (Tda.out.bel hb)
        replace HB : Hid (Below w.heap.size w v8) := HB.out.trans (hb.mono HB.out.size)
        obtain ⟨ndb, hndb⟩ : ∃ k, Ldb.length = k := ⟨_, rfl⟩
        rw [hndb] at ldb t3 ⊢
        have Tdb := Lib.hid t3
        have Pdb := Lib.hid t4
        have Edb := Lib.hid t5
        clear t3 t4 t5 hndb hb
        have Hdb : Hid (Has n 166 8 8 Ldb) := has_der Hb.out Pdb.out Edb.out (by omega) (by omega) (by omega)
        go_wp2_with fail
        refine (htimes Ta.out Ha.out hn6 Tb.out Hb.out (by omega) (by omega) (by omega) (by omega)).mono ?_
        rintro e v9 ⟨Aj, cj, Lj, rfl, lj, t3, t4, t5, hb⟩
        replace Ta := Lib.hid (Ta.out.bel hb)
        replace Tb := Lib.hid (Tb.out.bel hb)
        replace Tva := Lib.hid (Tva.out.bel hb)
        replace Tvb := Lib.hid (Tvb.out.bel hb)
        replace Ts := Lib.hid (Ts.out.bel hb)
        replace Tvs := Lib.hid (Tvs.out.bel hb)
        replace Tp := Lib.hid (Tp.out.bel hb)
        replace Tvp := Lib.hid (Tvp.out.bel hb)
        replace Tda := Lib.hid (Tda.out.bel hb)
        replace Tdb := Lib.hid (Tdb.out.bel hb)
        replace HB : Hid (Below w.heap.size w v9) := HB.out.trans (hb.mono HB.out.size)
        obtain ⟨nj, hnj⟩ : ∃ k, Lj.length = k := ⟨_, rfl⟩
        rw [hnj] at lj t3 ⊢
        have Tj := Lib.hid t3
        have Pj := Lib.hid t4
        have Ej := Lib.hid t5
        clear t3 t4 t5 hnj hb
        have Hj : Hid (Has n 300 16 64 Lj) := has_mul Ha.out Hb.out Pj.out Ej.out (by omega) (by omega) (by omega) (by omega) (by omega)
        go_wp2_with fail
        refine (hderiv Tj.out Hj.out hn6 hin (by omega) (by omega) (by omega)).mono ?_
        rintro e v10 ⟨Adp, cdp, Ldp, rfl, ldp, t3, t4, t5, hb⟩
        replace Ta := Lib.hid (Ta.out.bel hb)
        replace Tb := Lib.hid (Tb.out.bel hb)
        replace Tva := Lib.hid (Tva.out.bel hb)
        replace Tvb := Lib.hid (Tvb.out.bel hb)
        replace Ts := Lib.hid (Ts.out.bel hb)
        replace Tvs := Lib.hid (Tvs.out.bel hb)
        replace Tp := Lib.hid (Tp.out.bel hb)
        replace Tvp := Lib.hid (Tvp.out.bel hb)
        replace Tda := Lib.hid (Tda.out.bel hb)
        replace Tdb := Lib.hid (Tdb.out.bel hb)
        replace Tj := Lib.hid (Tj.out.bel hb)
        replace HB : Hid (Below w.heap.size w v10) := HB.out.trans (hb.mono HB.out.size)
        obtain ⟨ndp, hndp⟩ : ∃ k, Ldp.length = k := ⟨_, rfl⟩
        rw [hndp] at ldp t3 ⊢
        have Tdp := Lib.hid t3
        have Pdp := Lib.hid t4
        have Edp := Lib.hid t5
        clear t3 t4 t5 hndp hb
        go_wp2_with fail
        refine (hdegree Ta.out Ha.out hn6 hin (by omega)).mono ?_
        rintro e v11 ⟨G1, t4, t5, rfl, hb⟩
        replace Ta := Lib.hid (Ta.out.bel hb)
        replace Tb := Lib.hid (Tb.out.bel hb)
        replace Tva := Lib.hid (Tva.out.bel hb)
        replace Tvb := Lib.hid (Tvb.out.bel hb)
        replace Ts := Lib.hid (Ts.out.bel hb)
        replace Tvs := Lib.hid (Tvs.out.bel hb)
        replace Tp := Lib.hid (Tp.out.bel hb)
        replace Tvp := Lib.hid (Tvp.out.bel hb)
        replace Tda := Lib.hid (Tda.out.bel hb)
        replace Tdb := Lib.hid (Tdb.out.bel hb)
        replace Tj := Lib.hid (Tj.out.bel hb)
        replace Tdp := Lib.hid (Tdp.out.bel hb)
        replace HB : Hid (Below w.heap.size w v11) := HB.out.trans (hb.mono HB.out.size)
        have PG1 := Lib.hid t4
        have EG1 := Lib.hid t5
        clear t4 t5 hb
        go_wp2_with fail
        refine (hdegree Tb.out Hb.out hn6 hin (by omega)).mono ?_
        rintro e v12 ⟨G2, t4, t5, rfl, hb⟩
        replace Ta := Lib.hid (Ta.out.bel hb)
        replace Tb := Lib.hid (Tb.out.bel hb)
        replace Tva := Lib.hid (Tva.out.bel hb)
        replace Tvb := Lib.hid (Tvb.out.bel hb)
        replace Ts := Lib.hid (Ts.out.bel hb)
        replace Tvs := Lib.hid (Tvs.out.bel hb)
        replace Tp := Lib.hid (Tp.out.bel hb)
        replace Tvp := Lib.hid (Tvp.out.bel hb)
        replace Tda := Lib.hid (Tda.out.bel hb)
        replace Tdb := Lib.hid (Tdb.out.bel hb)
        replace Tj := Lib.hid (Tj.out.bel hb)
        replace Tdp := Lib.hid (Tdp.out.bel hb)
        replace HB : Hid (Below w.heap.size w v12) := HB.out.trans (hb.mono HB.out.size)
        have PG2 := Lib.hid t4
        have EG2 := Lib.hid t5
        clear t4 t5 hb
        go_wp2_with fail
        refine (htimes Ta.out Ha.out hn6 Tb.out Hb.out (by omega) (by omega) (by omega) (by omega)).mono ?_
        rintro e v13 ⟨Ar, cr, Lr, rfl, lr, t3, t4, t5, hb⟩
        replace Ta := Lib.hid (Ta.out.bel hb)
        replace Tb := Lib.hid (Tb.out.bel hb)
        replace Tva := Lib.hid (Tva.out.bel hb)
        replace Tvb := Lib.hid (Tvb.out.bel hb)
        replace Ts := Lib.hid (Ts.out.bel hb)
        replace Tvs := Lib.hid (Tvs.out.bel hb)
        replace Tp := Lib.hid (Tp.out.bel hb)
        replace Tvp := Lib.hid (Tvp.out.bel hb)
        replace Tda := Lib.hid (Tda.out.bel hb)
        replace Tdb := Lib.hid (Tdb.out.bel hb)
        replace Tj := Lib.hid (Tj.out.bel hb)
        replace Tdp := Lib.hid (Tdp.out.bel hb)
        replace HB : Hid (Below w.heap.size w v13) := HB.out.trans (hb.mono HB.out.size)
        obtain ⟨nr, hnr⟩ : ∃ k, Lr.length = k := ⟨_, rfl⟩
        rw [hnr] at lr t3 ⊢
        have Tr := Lib.hid t3
        have Pr := Lib.hid t4
        have Er := Lib.hid t5
        clear t3 t4 t5 hnr hb
        have Hr : Hid (Has n 300 16 64 Lr) := has_mul Ha.out Hb.out Pr.out Er.out (by omega) (by omega) (by omega) (by omega) (by omega)
        go_wp2_with fail
        refine (hdegree Tr.out Hr.out hn6 hin (by omega)).mono ?_
        rintro e v14 ⟨G3, t4, t5, rfl, hb⟩
        replace Ta := Lib.hid (Ta.out.bel hb)
        replace Tb := Lib.hid (Tb.out.bel hb)
        replace Tva := Lib.hid (Tva.out.bel hb)
        replace Tvb := Lib.hid (Tvb.out.bel hb)
        replace Ts := Lib.hid (Ts.out.bel hb)
        replace Tvs := Lib.hid (Tvs.out.bel hb)
        replace Tp := Lib.hid (Tp.out.bel hb)
        replace Tvp := Lib.hid (Tvp.out.bel hb)
        replace Tda := Lib.hid (Tda.out.bel hb)
        replace Tdb := Lib.hid (Tdb.out.bel hb)
        replace Tj := Lib.hid (Tj.out.bel hb)
        replace Tdp := Lib.hid (Tdp.out.bel hb)
        replace Tr := Lib.hid (Tr.out.bel hb)
        replace HB : Hid (Below w.heap.size w v14) := HB.out.trans (hb.mono HB.out.size)
        have PG3 := Lib.hid t4
        have EG3 := Lib.hid t5
        clear t4 t5 hb
        have HD := deg_cases hin (by omega) (by omega) Ha.out Hb.out PG1.out EG1.out PG2.out EG2.out PG3.out EG3.out Er.out
        clear PG1 EG1 PG2 EG2 PG3 EG3
        clear Tr Pr Er
        clear Hr
        generalize degL i (mvT G1) = ka at *
        generalize degL i (mvT G2) = kb at *
        generalize degL i (mvT G3) = kp at *
        obtain ⟨⟨r1, r2, r3, r4⟩, hD⟩ := HD
        have ew : IntKind.i64.wrap (ka + kb) = ka + kb := IntWalk.i64_in _ (by omega)
        rcases hD with ⟨d1, d2, d3⟩ | ⟨d1, d2, d3⟩ | ⟨d1, d2, d3⟩ | ⟨d1, d2, d3⟩ | ⟨d1, d2, d3⟩
        · have q1 : (kp == ka + kb) = true := by simp; omega
          have q2 : 0 ≤ ka := by omega
          have q3 : 0 ≤ kb := by omega
          clear d1 d2 d3 r1 r2 r3 r4
          go_wp2_with fail
          refine (hsum Tva.out Hva.out hn6 Tvb.out Hvb.out (by omega) (by omega) (by omega)).mono ?_
          rintro e v101 ⟨Af1, cf1, Lf1, rfl, lf1, t3, t4, t5, hb⟩
          replace Ta := Lib.hid (Ta.out.bel hb)
          replace Tb := Lib.hid (Tb.out.bel hb)
          replace Tva := Lib.hid (Tva.out.bel hb)
          replace Tvb := Lib.hid (Tvb.out.bel hb)
          replace Ts := Lib.hid (Ts.out.bel hb)
          replace Tvs := Lib.hid (Tvs.out.bel hb)
          replace Tp := Lib.hid (Tp.out.bel hb)
          replace Tvp := Lib.hid (Tvp.out.bel hb)
          replace Tda := Lib.hid (Tda.out.bel hb)
          replace Tdb := Lib.hid (Tdb.out.bel hb)
          replace Tj := Lib.hid (Tj.out.bel hb)
          replace Tdp := Lib.hid (Tdp.out.bel hb)
          replace HB : Hid (Below w.heap.size w v101) := HB.out.trans (hb.mono HB.out.size)
          obtain ⟨nf1, hnf1⟩ : ∃ k, Lf1.length = k := ⟨_, rfl⟩
          rw [hnf1] at lf1 t3 ⊢
          have Tf1 := Lib.hid t3
          have Pf1 := Lib.hid t4
          have Ef1 := Lib.hid t5
          clear t3 t4 t5 hnf1 hb
          go_wp2_with fail
          have he : Lvs = Lf1 := Pvs.out.unique Pf1.out (val_sum_eq Ha.out Hb.out Hs.out Es.out Evs.out Eva.out Evb.out Ef1.out)
          have hlen : nvs = nf1 := by rw [← Tvs.out.len, ← Tf1.out.len, he]
          have hb2 := Tf1.out
          rw [← he, ← hlen] at hb2
          have CS := Lib.hid (lsame_true Avs Af1 nvs cvs cf1 Lvs _ Tvs.out hb2 (by omega))
          rw [← hlen]
          clear he hlen hb2
          refine CS.out.mono ?_
          rintro e v102 ⟨rfl, hb⟩
          clear CS
          replace Ta := Lib.hid (Ta.out.bel hb)
          replace Tb := Lib.hid (Tb.out.bel hb)
          replace Tva := Lib.hid (Tva.out.bel hb)
          replace Tvb := Lib.hid (Tvb.out.bel hb)
          replace Ts := Lib.hid (Ts.out.bel hb)
          replace Tvs := Lib.hid (Tvs.out.bel hb)
          replace Tp := Lib.hid (Tp.out.bel hb)
          replace Tvp := Lib.hid (Tvp.out.bel hb)
          replace Tda := Lib.hid (Tda.out.bel hb)
          replace Tdb := Lib.hid (Tdb.out.bel hb)
          replace Tj := Lib.hid (Tj.out.bel hb)
          replace Tdp := Lib.hid (Tdp.out.bel hb)
          replace Tf1 := Lib.hid (Tf1.out.bel hb)
          replace HB : Hid (Below w.heap.size w v102) := HB.out.trans (hb.mono HB.out.size)
          clear hb
          clear Tf1 Pf1 Ef1
          go_wp2_with fail
          refine (htimes Tva.out Hva.out hn6 Tvb.out Hvb.out (by omega) (by omega) (by omega) (by omega)).mono ?_
          rintro e v103 ⟨Af2, cf2, Lf2, rfl, lf2, t3, t4, t5, hb⟩
          replace Ta := Lib.hid (Ta.out.bel hb)
          replace Tb := Lib.hid (Tb.out.bel hb)
          replace Tva := Lib.hid (Tva.out.bel hb)
          replace Tvb := Lib.hid (Tvb.out.bel hb)
          replace Ts := Lib.hid (Ts.out.bel hb)
          replace Tvs := Lib.hid (Tvs.out.bel hb)
          replace Tp := Lib.hid (Tp.out.bel hb)
          replace Tvp := Lib.hid (Tvp.out.bel hb)
          replace Tda := Lib.hid (Tda.out.bel hb)
          replace Tdb := Lib.hid (Tdb.out.bel hb)
          replace Tj := Lib.hid (Tj.out.bel hb)
          replace Tdp := Lib.hid (Tdp.out.bel hb)
          replace HB : Hid (Below w.heap.size w v103) := HB.out.trans (hb.mono HB.out.size)
          obtain ⟨nf2, hnf2⟩ : ∃ k, Lf2.length = k := ⟨_, rfl⟩
          rw [hnf2] at lf2 t3 ⊢
          have Tf2 := Lib.hid t3
          have Pf2 := Lib.hid t4
          have Ef2 := Lib.hid t5
          clear t3 t4 t5 hnf2 hb
          go_wp2_with fail
          have he : Lvp = Lf2 := Pvp.out.unique Pf2.out (val_mul_eq hin (by omega) (by omega) Ha.out Hb.out Hp.out Pva.out Pvb.out Ep.out Evp.out Eva.out Evb.out Ef2.out)
          have hlen : nvp = nf2 := by rw [← Tvp.out.len, ← Tf2.out.len, he]
          have hb2 := Tf2.out
          rw [← he, ← hlen] at hb2
          have CS := Lib.hid (lsame_true Avp Af2 nvp cvp cf2 Lvp _ Tvp.out hb2 (by omega))
          rw [← hlen]
          clear he hlen hb2
          refine CS.out.mono ?_
          rintro e v104 ⟨rfl, hb⟩
          clear CS
          replace Ta := Lib.hid (Ta.out.bel hb)
          replace Tb := Lib.hid (Tb.out.bel hb)
          replace Tva := Lib.hid (Tva.out.bel hb)
          replace Tvb := Lib.hid (Tvb.out.bel hb)
          replace Ts := Lib.hid (Ts.out.bel hb)
          replace Tvs := Lib.hid (Tvs.out.bel hb)
          replace Tp := Lib.hid (Tp.out.bel hb)
          replace Tvp := Lib.hid (Tvp.out.bel hb)
          replace Tda := Lib.hid (Tda.out.bel hb)
          replace Tdb := Lib.hid (Tdb.out.bel hb)
          replace Tj := Lib.hid (Tj.out.bel hb)
          replace Tdp := Lib.hid (Tdp.out.bel hb)
          replace Tf2 := Lib.hid (Tf2.out.bel hb)
          replace HB : Hid (Below w.heap.size w v104) := HB.out.trans (hb.mono HB.out.size)
          clear hb
          clear Tf2 Pf2 Ef2
          go_wp2_with fail
          refine (htimes Tda.out Hda.out hn6 Tb.out Hb.out (by omega) (by omega) (by omega) (by omega)).mono ?_
          rintro e v105 ⟨Af3, cf3, Lf3, rfl, lf3, t3, t4, t5, hb⟩
          replace Ta := Lib.hid (Ta.out.bel hb)
          replace Tb := Lib.hid (Tb.out.bel hb)
          replace Tva := Lib.hid (Tva.out.bel hb)
          replace Tvb := Lib.hid (Tvb.out.bel hb)
          replace Ts := Lib.hid (Ts.out.bel hb)
          replace Tvs := Lib.hid (Tvs.out.bel hb)
          replace Tp := Lib.hid (Tp.out.bel hb)
          replace Tvp := Lib.hid (Tvp.out.bel hb)
          replace Tda := Lib.hid (Tda.out.bel hb)
          replace Tdb := Lib.hid (Tdb.out.bel hb)
          replace Tj := Lib.hid (Tj.out.bel hb)
          replace Tdp := Lib.hid (Tdp.out.bel hb)
          replace HB : Hid (Below w.heap.size w v105) := HB.out.trans (hb.mono HB.out.size)
          obtain ⟨nf3, hnf3⟩ : ∃ k, Lf3.length = k := ⟨_, rfl⟩
          rw [hnf3] at lf3 t3 ⊢
          have Tf3 := Lib.hid t3
          have Pf3 := Lib.hid t4
          have Ef3 := Lib.hid t5
          clear t3 t4 t5 hnf3 hb
          have Hf3 : Hid (Has n 322 16 64 Lf3) := has_mul Hda.out Hb.out Pf3.out Ef3.out (by omega) (by omega) (by omega) (by omega) (by omega)
          go_wp2_with fail
          refine (htimes Ta.out Ha.out hn6 Tdb.out Hdb.out (by omega) (by omega) (by omega) (by omega)).mono ?_
          rintro e v106 ⟨Af4, cf4, Lf4, rfl, lf4, t3, t4, t5, hb⟩
          replace Ta := Lib.hid (Ta.out.bel hb)
          replace Tb := Lib.hid (Tb.out.bel hb)
          replace Tva := Lib.hid (Tva.out.bel hb)
          replace Tvb := Lib.hid (Tvb.out.bel hb)
          replace Ts := Lib.hid (Ts.out.bel hb)
          replace Tvs := Lib.hid (Tvs.out.bel hb)
          replace Tp := Lib.hid (Tp.out.bel hb)
          replace Tvp := Lib.hid (Tvp.out.bel hb)
          replace Tda := Lib.hid (Tda.out.bel hb)
          replace Tdb := Lib.hid (Tdb.out.bel hb)
          replace Tj := Lib.hid (Tj.out.bel hb)
          replace Tdp := Lib.hid (Tdp.out.bel hb)
          replace Tf3 := Lib.hid (Tf3.out.bel hb)
          replace HB : Hid (Below w.heap.size w v106) := HB.out.trans (hb.mono HB.out.size)
          obtain ⟨nf4, hnf4⟩ : ∃ k, Lf4.length = k := ⟨_, rfl⟩
          rw [hnf4] at lf4 t3 ⊢
          have Tf4 := Lib.hid t3
          have Pf4 := Lib.hid t4
          have Ef4 := Lib.hid t5
          clear t3 t4 t5 hnf4 hb
          have Hf4 : Hid (Has n 322 16 64 Lf4) := has_mul Ha.out Hdb.out Pf4.out Ef4.out (by omega) (by omega) (by omega) (by omega) (by omega)
          go_wp2_with fail
          refine (hsum Tf3.out Hf3.out hn6 Tf4.out Hf4.out (by omega) (by omega) (by omega)).mono ?_
          rintro e v107 ⟨Af5, cf5, Lf5, rfl, lf5, t3, t4, t5, hb⟩
          replace Ta := Lib.hid (Ta.out.bel hb)
          replace Tb := Lib.hid (Tb.out.bel hb)
          replace Tva := Lib.hid (Tva.out.bel hb)
          replace Tvb := Lib.hid (Tvb.out.bel hb)
          replace Ts := Lib.hid (Ts.out.bel hb)
          replace Tvs := Lib.hid (Tvs.out.bel hb)
          replace Tp := Lib.hid (Tp.out.bel hb)
          replace Tvp := Lib.hid (Tvp.out.bel hb)
          replace Tda := Lib.hid (Tda.out.bel hb)
          replace Tdb := Lib.hid (Tdb.out.bel hb)
          replace Tj := Lib.hid (Tj.out.bel hb)
          replace Tdp := Lib.hid (Tdp.out.bel hb)
          replace Tf3 := Lib.hid (Tf3.out.bel hb)
          replace Tf4 := Lib.hid (Tf4.out.bel hb)
          replace HB : Hid (Below w.heap.size w v107) := HB.out.trans (hb.mono HB.out.size)
          obtain ⟨nf5, hnf5⟩ : ∃ k, Lf5.length = k := ⟨_, rfl⟩
          rw [hnf5] at lf5 t3 ⊢
          have Tf5 := Lib.hid t3
          have Pf5 := Lib.hid t4
          have Ef5 := Lib.hid t5
          clear t3 t4 t5 hnf5 hb
          go_wp2_with fail
          have he : Ldp = Lf5 := Pdp.out.unique Pf5.out (der_mul_eq hin (by omega) (by omega) Ha.out Hb.out Hj.out Pda.out Pdb.out Ej.out Edp.out Eda.out Edb.out Ef3.out Ef4.out Ef5.out)
          have hlen : ndp = nf5 := by rw [← Tdp.out.len, ← Tf5.out.len, he]
          have hb2 := Tf5.out
          rw [← he, ← hlen] at hb2
          have CS := Lib.hid (lsame_true Adp Af5 ndp cdp cf5 Ldp _ Tdp.out hb2 (by omega))
          rw [← hlen]
          clear he hlen hb2
          refine CS.out.mono ?_
          rintro e v108 ⟨rfl, hb⟩
          clear CS
          replace Ta := Lib.hid (Ta.out.bel hb)
          replace Tb := Lib.hid (Tb.out.bel hb)
          replace Tva := Lib.hid (Tva.out.bel hb)
          replace Tvb := Lib.hid (Tvb.out.bel hb)
          replace Ts := Lib.hid (Ts.out.bel hb)
          replace Tvs := Lib.hid (Tvs.out.bel hb)
          replace Tp := Lib.hid (Tp.out.bel hb)
          replace Tvp := Lib.hid (Tvp.out.bel hb)
          replace Tda := Lib.hid (Tda.out.bel hb)
          replace Tdb := Lib.hid (Tdb.out.bel hb)
          replace Tj := Lib.hid (Tj.out.bel hb)
          replace Tdp := Lib.hid (Tdp.out.bel hb)
          replace Tf3 := Lib.hid (Tf3.out.bel hb)
          replace Tf4 := Lib.hid (Tf4.out.bel hb)
          replace Tf5 := Lib.hid (Tf5.out.bel hb)
          replace HB : Hid (Below w.heap.size w v108) := HB.out.trans (hb.mono HB.out.size)
          clear hb
          go_wp2_with fail
          go_ret
          exact ⟨rfl, HB.out⟩
        · have q1 : (kp == ka + kb) = true := by simp; omega
          have q2 : ¬ 0 ≤ ka := by omega
          have q4 : (kp == -1) = true := by simp; omega
          have q5 : (ka == -1) = true := by simp; omega
          clear d1 d2 d3 r1 r2 r3 r4
          go_wp2_with fail
          refine (hsum Tva.out Hva.out hn6 Tvb.out Hvb.out (by omega) (by omega) (by omega)).mono ?_
          rintro e v101 ⟨Af1, cf1, Lf1, rfl, lf1, t3, t4, t5, hb⟩
          replace Ta := Lib.hid (Ta.out.bel hb)
          replace Tb := Lib.hid (Tb.out.bel hb)
          replace Tva := Lib.hid (Tva.out.bel hb)
          replace Tvb := Lib.hid (Tvb.out.bel hb)
          replace Ts := Lib.hid (Ts.out.bel hb)
          replace Tvs := Lib.hid (Tvs.out.bel hb)
          replace Tp := Lib.hid (Tp.out.bel hb)
          replace Tvp := Lib.hid (Tvp.out.bel hb)
          replace Tda := Lib.hid (Tda.out.bel hb)
          replace Tdb := Lib.hid (Tdb.out.bel hb)
          replace Tj := Lib.hid (Tj.out.bel hb)
          replace Tdp := Lib.hid (Tdp.out.bel hb)
          replace HB : Hid (Below w.heap.size w v101) := HB.out.trans (hb.mono HB.out.size)
          obtain ⟨nf1, hnf1⟩ : ∃ k, Lf1.length = k := ⟨_, rfl⟩
          rw [hnf1] at lf1 t3 ⊢
          have Tf1 := Lib.hid t3
          have Pf1 := Lib.hid t4
          have Ef1 := Lib.hid t5
          clear t3 t4 t5 hnf1 hb
          go_wp2_with fail
          have he : Lvs = Lf1 := Pvs.out.unique Pf1.out (val_sum_eq Ha.out Hb.out Hs.out Es.out Evs.out Eva.out Evb.out Ef1.out)
          have hlen : nvs = nf1 := by rw [← Tvs.out.len, ← Tf1.out.len, he]
          have hb2 := Tf1.out
          rw [← he, ← hlen] at hb2
          have CS := Lib.hid (lsame_true Avs Af1 nvs cvs cf1 Lvs _ Tvs.out hb2 (by omega))
          rw [← hlen]
          clear he hlen hb2
          refine CS.out.mono ?_
          rintro e v102 ⟨rfl, hb⟩
          clear CS
          replace Ta := Lib.hid (Ta.out.bel hb)
          replace Tb := Lib.hid (Tb.out.bel hb)
          replace Tva := Lib.hid (Tva.out.bel hb)
          replace Tvb := Lib.hid (Tvb.out.bel hb)
          replace Ts := Lib.hid (Ts.out.bel hb)
          replace Tvs := Lib.hid (Tvs.out.bel hb)
          replace Tp := Lib.hid (Tp.out.bel hb)
          replace Tvp := Lib.hid (Tvp.out.bel hb)
          replace Tda := Lib.hid (Tda.out.bel hb)
          replace Tdb := Lib.hid (Tdb.out.bel hb)
          replace Tj := Lib.hid (Tj.out.bel hb)
          replace Tdp := Lib.hid (Tdp.out.bel hb)
          replace Tf1 := Lib.hid (Tf1.out.bel hb)
          replace HB : Hid (Below w.heap.size w v102) := HB.out.trans (hb.mono HB.out.size)
          clear hb
          clear Tf1 Pf1 Ef1
          go_wp2_with fail
          refine (htimes Tva.out Hva.out hn6 Tvb.out Hvb.out (by omega) (by omega) (by omega) (by omega)).mono ?_
          rintro e v103 ⟨Af2, cf2, Lf2, rfl, lf2, t3, t4, t5, hb⟩
          replace Ta := Lib.hid (Ta.out.bel hb)
          replace Tb := Lib.hid (Tb.out.bel hb)
          replace Tva := Lib.hid (Tva.out.bel hb)
          replace Tvb := Lib.hid (Tvb.out.bel hb)
          replace Ts := Lib.hid (Ts.out.bel hb)
          replace Tvs := Lib.hid (Tvs.out.bel hb)
          replace Tp := Lib.hid (Tp.out.bel hb)
          replace Tvp := Lib.hid (Tvp.out.bel hb)
          replace Tda := Lib.hid (Tda.out.bel hb)
          replace Tdb := Lib.hid (Tdb.out.bel hb)
          replace Tj := Lib.hid (Tj.out.bel hb)
          replace Tdp := Lib.hid (Tdp.out.bel hb)
          replace HB : Hid (Below w.heap.size w v103) := HB.out.trans (hb.mono HB.out.size)
          obtain ⟨nf2, hnf2⟩ : ∃ k, Lf2.length = k := ⟨_, rfl⟩
          rw [hnf2] at lf2 t3 ⊢
          have Tf2 := Lib.hid t3
          have Pf2 := Lib.hid t4
          have Ef2 := Lib.hid t5
          clear t3 t4 t5 hnf2 hb
          go_wp2_with fail
          have he : Lvp = Lf2 := Pvp.out.unique Pf2.out (val_mul_eq hin (by omega) (by omega) Ha.out Hb.out Hp.out Pva.out Pvb.out Ep.out Evp.out Eva.out Evb.out Ef2.out)
          have hlen : nvp = nf2 := by rw [← Tvp.out.len, ← Tf2.out.len, he]
          have hb2 := Tf2.out
          rw [← he, ← hlen] at hb2
          have CS := Lib.hid (lsame_true Avp Af2 nvp cvp cf2 Lvp _ Tvp.out hb2 (by omega))
          rw [← hlen]
          clear he hlen hb2
          refine CS.out.mono ?_
          rintro e v104 ⟨rfl, hb⟩
          clear CS
          replace Ta := Lib.hid (Ta.out.bel hb)
          replace Tb := Lib.hid (Tb.out.bel hb)
          replace Tva := Lib.hid (Tva.out.bel hb)
          replace Tvb := Lib.hid (Tvb.out.bel hb)
          replace Ts := Lib.hid (Ts.out.bel hb)
          replace Tvs := Lib.hid (Tvs.out.bel hb)
          replace Tp := Lib.hid (Tp.out.bel hb)
          replace Tvp := Lib.hid (Tvp.out.bel hb)
          replace Tda := Lib.hid (Tda.out.bel hb)
          replace Tdb := Lib.hid (Tdb.out.bel hb)
          replace Tj := Lib.hid (Tj.out.bel hb)
          replace Tdp := Lib.hid (Tdp.out.bel hb)
          replace Tf2 := Lib.hid (Tf2.out.bel hb)
          replace HB : Hid (Below w.heap.size w v104) := HB.out.trans (hb.mono HB.out.size)
          clear hb
          clear Tf2 Pf2 Ef2
          go_wp2_with fail
          refine (htimes Tda.out Hda.out hn6 Tb.out Hb.out (by omega) (by omega) (by omega) (by omega)).mono ?_
          rintro e v105 ⟨Af3, cf3, Lf3, rfl, lf3, t3, t4, t5, hb⟩
          replace Ta := Lib.hid (Ta.out.bel hb)
          replace Tb := Lib.hid (Tb.out.bel hb)
          replace Tva := Lib.hid (Tva.out.bel hb)
          replace Tvb := Lib.hid (Tvb.out.bel hb)
          replace Ts := Lib.hid (Ts.out.bel hb)
          replace Tvs := Lib.hid (Tvs.out.bel hb)
          replace Tp := Lib.hid (Tp.out.bel hb)
          replace Tvp := Lib.hid (Tvp.out.bel hb)
          replace Tda := Lib.hid (Tda.out.bel hb)
          replace Tdb := Lib.hid (Tdb.out.bel hb)
          replace Tj := Lib.hid (Tj.out.bel hb)
          replace Tdp := Lib.hid (Tdp.out.bel hb)
          replace HB : Hid (Below w.heap.size w v105) := HB.out.trans (hb.mono HB.out.size)
          obtain ⟨nf3, hnf3⟩ : ∃ k, Lf3.length = k := ⟨_, rfl⟩
          rw [hnf3] at lf3 t3 ⊢
          have Tf3 := Lib.hid t3
          have Pf3 := Lib.hid t4
          have Ef3 := Lib.hid t5
          clear t3 t4 t5 hnf3 hb
          have Hf3 : Hid (Has n 322 16 64 Lf3) := has_mul Hda.out Hb.out Pf3.out Ef3.out (by omega) (by omega) (by omega) (by omega) (by omega)
          go_wp2_with fail
          refine (htimes Ta.out Ha.out hn6 Tdb.out Hdb.out (by omega) (by omega) (by omega) (by omega)).mono ?_
          rintro e v106 ⟨Af4, cf4, Lf4, rfl, lf4, t3, t4, t5, hb⟩
          replace Ta := Lib.hid (Ta.out.bel hb)
          replace Tb := Lib.hid (Tb.out.bel hb)
          replace Tva := Lib.hid (Tva.out.bel hb)
          replace Tvb := Lib.hid (Tvb.out.bel hb)
          replace Ts := Lib.hid (Ts.out.bel hb)
          replace Tvs := Lib.hid (Tvs.out.bel hb)
          replace Tp := Lib.hid (Tp.out.bel hb)
          replace Tvp := Lib.hid (Tvp.out.bel hb)
          replace Tda := Lib.hid (Tda.out.bel hb)
          replace Tdb := Lib.hid (Tdb.out.bel hb)
          replace Tj := Lib.hid (Tj.out.bel hb)
          replace Tdp := Lib.hid (Tdp.out.bel hb)
          replace Tf3 := Lib.hid (Tf3.out.bel hb)
          replace HB : Hid (Below w.heap.size w v106) := HB.out.trans (hb.mono HB.out.size)
          obtain ⟨nf4, hnf4⟩ : ∃ k, Lf4.length = k := ⟨_, rfl⟩
          rw [hnf4] at lf4 t3 ⊢
          have Tf4 := Lib.hid t3
          have Pf4 := Lib.hid t4
          have Ef4 := Lib.hid t5
          clear t3 t4 t5 hnf4 hb
          have Hf4 : Hid (Has n 322 16 64 Lf4) := has_mul Ha.out Hdb.out Pf4.out Ef4.out (by omega) (by omega) (by omega) (by omega) (by omega)
          go_wp2_with fail
          refine (hsum Tf3.out Hf3.out hn6 Tf4.out Hf4.out (by omega) (by omega) (by omega)).mono ?_
          rintro e v107 ⟨Af5, cf5, Lf5, rfl, lf5, t3, t4, t5, hb⟩
          replace Ta := Lib.hid (Ta.out.bel hb)
          replace Tb := Lib.hid (Tb.out.bel hb)
          replace Tva := Lib.hid (Tva.out.bel hb)
          replace Tvb := Lib.hid (Tvb.out.bel hb)
          replace Ts := Lib.hid (Ts.out.bel hb)
          replace Tvs := Lib.hid (Tvs.out.bel hb)
          replace Tp := Lib.hid (Tp.out.bel hb)
          replace Tvp := Lib.hid (Tvp.out.bel hb)
          replace Tda := Lib.hid (Tda.out.bel hb)
          replace Tdb := Lib.hid (Tdb.out.bel hb)
          replace Tj := Lib.hid (Tj.out.bel hb)
          replace Tdp := Lib.hid (Tdp.out.bel hb)
          replace Tf3 := Lib.hid (Tf3.out.bel hb)
          replace Tf4 := Lib.hid (Tf4.out.bel hb)
          replace HB : Hid (Below w.heap.size w v107) := HB.out.trans (hb.mono HB.out.size)
          obtain ⟨nf5, hnf5⟩ : ∃ k, Lf5.length = k := ⟨_, rfl⟩
          rw [hnf5] at lf5 t3 ⊢
          have Tf5 := Lib.hid t3
          have Pf5 := Lib.hid t4
          have Ef5 := Lib.hid t5
          clear t3 t4 t5 hnf5 hb
          go_wp2_with fail
          have he : Ldp = Lf5 := Pdp.out.unique Pf5.out (der_mul_eq hin (by omega) (by omega) Ha.out Hb.out Hj.out Pda.out Pdb.out Ej.out Edp.out Eda.out Edb.out Ef3.out Ef4.out Ef5.out)
          have hlen : ndp = nf5 := by rw [← Tdp.out.len, ← Tf5.out.len, he]
          have hb2 := Tf5.out
          rw [← he, ← hlen] at hb2
          have CS := Lib.hid (lsame_true Adp Af5 ndp cdp cf5 Ldp _ Tdp.out hb2 (by omega))
          rw [← hlen]
          clear he hlen hb2
          refine CS.out.mono ?_
          rintro e v108 ⟨rfl, hb⟩
          clear CS
          replace Ta := Lib.hid (Ta.out.bel hb)
          replace Tb := Lib.hid (Tb.out.bel hb)
          replace Tva := Lib.hid (Tva.out.bel hb)
          replace Tvb := Lib.hid (Tvb.out.bel hb)
          replace Ts := Lib.hid (Ts.out.bel hb)
          replace Tvs := Lib.hid (Tvs.out.bel hb)
          replace Tp := Lib.hid (Tp.out.bel hb)
          replace Tvp := Lib.hid (Tvp.out.bel hb)
          replace Tda := Lib.hid (Tda.out.bel hb)
          replace Tdb := Lib.hid (Tdb.out.bel hb)
          replace Tj := Lib.hid (Tj.out.bel hb)
          replace Tdp := Lib.hid (Tdp.out.bel hb)
          replace Tf3 := Lib.hid (Tf3.out.bel hb)
          replace Tf4 := Lib.hid (Tf4.out.bel hb)
          replace Tf5 := Lib.hid (Tf5.out.bel hb)
          replace HB : Hid (Below w.heap.size w v108) := HB.out.trans (hb.mono HB.out.size)
          clear hb
          go_wp2_with fail
          go_ret
          exact ⟨rfl, HB.out⟩
        · have q1 : (kp == ka + kb) = false := by simp; omega
          have q4 : (kp == -1) = true := by simp; omega
          have q5 : (ka == -1) = true := by simp; omega
          clear d1 d2 d3 r1 r2 r3 r4
          go_wp2_with fail
          refine (hsum Tva.out Hva.out hn6 Tvb.out Hvb.out (by omega) (by omega) (by omega)).mono ?_
          rintro e v101 ⟨Af1, cf1, Lf1, rfl, lf1, t3, t4, t5, hb⟩
          replace Ta := Lib.hid (Ta.out.bel hb)
          replace Tb := Lib.hid (Tb.out.bel hb)
          replace Tva := Lib.hid (Tva.out.bel hb)
          replace Tvb := Lib.hid (Tvb.out.bel hb)
          replace Ts := Lib.hid (Ts.out.bel hb)
          replace Tvs := Lib.hid (Tvs.out.bel hb)
          replace Tp := Lib.hid (Tp.out.bel hb)
          replace Tvp := Lib.hid (Tvp.out.bel hb)
          replace Tda := Lib.hid (Tda.out.bel hb)
          replace Tdb := Lib.hid (Tdb.out.bel hb)
          replace Tj := Lib.hid (Tj.out.bel hb)
          replace Tdp := Lib.hid (Tdp.out.bel hb)
          replace HB : Hid (Below w.heap.size w v101) := HB.out.trans (hb.mono HB.out.size)
          obtain ⟨nf1, hnf1⟩ : ∃ k, Lf1.length = k := ⟨_, rfl⟩
          rw [hnf1] at lf1 t3 ⊢
          have Tf1 := Lib.hid t3
          have Pf1 := Lib.hid t4
          have Ef1 := Lib.hid t5
          clear t3 t4 t5 hnf1 hb
          go_wp2_with fail
          have he : Lvs = Lf1 := Pvs.out.unique Pf1.out (val_sum_eq Ha.out Hb.out Hs.out Es.out Evs.out Eva.out Evb.out Ef1.out)
          have hlen : nvs = nf1 := by rw [← Tvs.out.len, ← Tf1.out.len, he]
          have hb2 := Tf1.out
          rw [← he, ← hlen] at hb2
          have CS := Lib.hid (lsame_true Avs Af1 nvs cvs cf1 Lvs _ Tvs.out hb2 (by omega))
          rw [← hlen]
          clear he hlen hb2
          refine CS.out.mono ?_
          rintro e v102 ⟨rfl, hb⟩
          clear CS
          replace Ta := Lib.hid (Ta.out.bel hb)
          replace Tb := Lib.hid (Tb.out.bel hb)
          replace Tva := Lib.hid (Tva.out.bel hb)
          replace Tvb := Lib.hid (Tvb.out.bel hb)
          replace Ts := Lib.hid (Ts.out.bel hb)
          replace Tvs := Lib.hid (Tvs.out.bel hb)
          replace Tp := Lib.hid (Tp.out.bel hb)
          replace Tvp := Lib.hid (Tvp.out.bel hb)
          replace Tda := Lib.hid (Tda.out.bel hb)
          replace Tdb := Lib.hid (Tdb.out.bel hb)
          replace Tj := Lib.hid (Tj.out.bel hb)
          replace Tdp := Lib.hid (Tdp.out.bel hb)
          replace Tf1 := Lib.hid (Tf1.out.bel hb)
          replace HB : Hid (Below w.heap.size w v102) := HB.out.trans (hb.mono HB.out.size)
          clear hb
          clear Tf1 Pf1 Ef1
          go_wp2_with fail
          refine (htimes Tva.out Hva.out hn6 Tvb.out Hvb.out (by omega) (by omega) (by omega) (by omega)).mono ?_
          rintro e v103 ⟨Af2, cf2, Lf2, rfl, lf2, t3, t4, t5, hb⟩
          replace Ta := Lib.hid (Ta.out.bel hb)
          replace Tb := Lib.hid (Tb.out.bel hb)
          replace Tva := Lib.hid (Tva.out.bel hb)
          replace Tvb := Lib.hid (Tvb.out.bel hb)
          replace Ts := Lib.hid (Ts.out.bel hb)
          replace Tvs := Lib.hid (Tvs.out.bel hb)
          replace Tp := Lib.hid (Tp.out.bel hb)
          replace Tvp := Lib.hid (Tvp.out.bel hb)
          replace Tda := Lib.hid (Tda.out.bel hb)
          replace Tdb := Lib.hid (Tdb.out.bel hb)
          replace Tj := Lib.hid (Tj.out.bel hb)
          replace Tdp := Lib.hid (Tdp.out.bel hb)
          replace HB : Hid (Below w.heap.size w v103) := HB.out.trans (hb.mono HB.out.size)
          obtain ⟨nf2, hnf2⟩ : ∃ k, Lf2.length = k := ⟨_, rfl⟩
          rw [hnf2] at lf2 t3 ⊢
          have Tf2 := Lib.hid t3
          have Pf2 := Lib.hid t4
          have Ef2 := Lib.hid t5
          clear t3 t4 t5 hnf2 hb
          go_wp2_with fail
          have he : Lvp = Lf2 := Pvp.out.unique Pf2.out (val_mul_eq hin (by omega) (by omega) Ha.out Hb.out Hp.out Pva.out Pvb.out Ep.out Evp.out Eva.out Evb.out Ef2.out)
          have hlen : nvp = nf2 := by rw [← Tvp.out.len, ← Tf2.out.len, he]
          have hb2 := Tf2.out
          rw [← he, ← hlen] at hb2
          have CS := Lib.hid (lsame_true Avp Af2 nvp cvp cf2 Lvp _ Tvp.out hb2 (by omega))
          rw [← hlen]
          clear he hlen hb2
          refine CS.out.mono ?_
          rintro e v104 ⟨rfl, hb⟩
          clear CS
          replace Ta := Lib.hid (Ta.out.bel hb)
          replace Tb := Lib.hid (Tb.out.bel hb)
          replace Tva := Lib.hid (Tva.out.bel hb)
          replace Tvb := Lib.hid (Tvb.out.bel hb)
          replace Ts := Lib.hid (Ts.out.bel hb)
          replace Tvs := Lib.hid (Tvs.out.bel hb)
          replace Tp := Lib.hid (Tp.out.bel hb)
          replace Tvp := Lib.hid (Tvp.out.bel hb)
          replace Tda := Lib.hid (Tda.out.bel hb)
          replace Tdb := Lib.hid (Tdb.out.bel hb)
          replace Tj := Lib.hid (Tj.out.bel hb)
          replace Tdp := Lib.hid (Tdp.out.bel hb)
          replace Tf2 := Lib.hid (Tf2.out.bel hb)
          replace HB : Hid (Below w.heap.size w v104) := HB.out.trans (hb.mono HB.out.size)
          clear hb
          clear Tf2 Pf2 Ef2
          go_wp2_with fail
          refine (htimes Tda.out Hda.out hn6 Tb.out Hb.out (by omega) (by omega) (by omega) (by omega)).mono ?_
          rintro e v105 ⟨Af3, cf3, Lf3, rfl, lf3, t3, t4, t5, hb⟩
          replace Ta := Lib.hid (Ta.out.bel hb)
          replace Tb := Lib.hid (Tb.out.bel hb)
          replace Tva := Lib.hid (Tva.out.bel hb)
          replace Tvb := Lib.hid (Tvb.out.bel hb)
          replace Ts := Lib.hid (Ts.out.bel hb)
          replace Tvs := Lib.hid (Tvs.out.bel hb)
          replace Tp := Lib.hid (Tp.out.bel hb)
          replace Tvp := Lib.hid (Tvp.out.bel hb)
          replace Tda := Lib.hid (Tda.out.bel hb)
          replace Tdb := Lib.hid (Tdb.out.bel hb)
          replace Tj := Lib.hid (Tj.out.bel hb)
          replace Tdp := Lib.hid (Tdp.out.bel hb)
          replace HB : Hid (Below w.heap.size w v105) := HB.out.trans (hb.mono HB.out.size)
          obtain ⟨nf3, hnf3⟩ : ∃ k, Lf3.length = k := ⟨_, rfl⟩
          rw [hnf3] at lf3 t3 ⊢
          have Tf3 := Lib.hid t3
          have Pf3 := Lib.hid t4
          have Ef3 := Lib.hid t5
          clear t3 t4 t5 hnf3 hb
          have Hf3 : Hid (Has n 322 16 64 Lf3) := has_mul Hda.out Hb.out Pf3.out Ef3.out (by omega) (by omega) (by omega) (by omega) (by omega)
          go_wp2_with fail
          refine (htimes Ta.out Ha.out hn6 Tdb.out Hdb.out (by omega) (by omega) (by omega) (by omega)).mono ?_
          rintro e v106 ⟨Af4, cf4, Lf4, rfl, lf4, t3, t4, t5, hb⟩
          replace Ta := Lib.hid (Ta.out.bel hb)
          replace Tb := Lib.hid (Tb.out.bel hb)
          replace Tva := Lib.hid (Tva.out.bel hb)
          replace Tvb := Lib.hid (Tvb.out.bel hb)
          replace Ts := Lib.hid (Ts.out.bel hb)
          replace Tvs := Lib.hid (Tvs.out.bel hb)
          replace Tp := Lib.hid (Tp.out.bel hb)
          replace Tvp := Lib.hid (Tvp.out.bel hb)
          replace Tda := Lib.hid (Tda.out.bel hb)
          replace Tdb := Lib.hid (Tdb.out.bel hb)
          replace Tj := Lib.hid (Tj.out.bel hb)
          replace Tdp := Lib.hid (Tdp.out.bel hb)
          replace Tf3 := Lib.hid (Tf3.out.bel hb)
          replace HB : Hid (Below w.heap.size w v106) := HB.out.trans (hb.mono HB.out.size)
          obtain ⟨nf4, hnf4⟩ : ∃ k, Lf4.length = k := ⟨_, rfl⟩
          rw [hnf4] at lf4 t3 ⊢
          have Tf4 := Lib.hid t3
          have Pf4 := Lib.hid t4
          have Ef4 := Lib.hid t5
          clear t3 t4 t5 hnf4 hb
          have Hf4 : Hid (Has n 322 16 64 Lf4) := has_mul Ha.out Hdb.out Pf4.out Ef4.out (by omega) (by omega) (by omega) (by omega) (by omega)
          go_wp2_with fail
          refine (hsum Tf3.out Hf3.out hn6 Tf4.out Hf4.out (by omega) (by omega) (by omega)).mono ?_
          rintro e v107 ⟨Af5, cf5, Lf5, rfl, lf5, t3, t4, t5, hb⟩
          replace Ta := Lib.hid (Ta.out.bel hb)
          replace Tb := Lib.hid (Tb.out.bel hb)
          replace Tva := Lib.hid (Tva.out.bel hb)
          replace Tvb := Lib.hid (Tvb.out.bel hb)
          replace Ts := Lib.hid (Ts.out.bel hb)
          replace Tvs := Lib.hid (Tvs.out.bel hb)
          replace Tp := Lib.hid (Tp.out.bel hb)
          replace Tvp := Lib.hid (Tvp.out.bel hb)
          replace Tda := Lib.hid (Tda.out.bel hb)
          replace Tdb := Lib.hid (Tdb.out.bel hb)
          replace Tj := Lib.hid (Tj.out.bel hb)
          replace Tdp := Lib.hid (Tdp.out.bel hb)
          replace Tf3 := Lib.hid (Tf3.out.bel hb)
          replace Tf4 := Lib.hid (Tf4.out.bel hb)
          replace HB : Hid (Below w.heap.size w v107) := HB.out.trans (hb.mono HB.out.size)
          obtain ⟨nf5, hnf5⟩ : ∃ k, Lf5.length = k := ⟨_, rfl⟩
          rw [hnf5] at lf5 t3 ⊢
          have Tf5 := Lib.hid t3
          have Pf5 := Lib.hid t4
          have Ef5 := Lib.hid t5
          clear t3 t4 t5 hnf5 hb
          go_wp2_with fail
          have he : Ldp = Lf5 := Pdp.out.unique Pf5.out (der_mul_eq hin (by omega) (by omega) Ha.out Hb.out Hj.out Pda.out Pdb.out Ej.out Edp.out Eda.out Edb.out Ef3.out Ef4.out Ef5.out)
          have hlen : ndp = nf5 := by rw [← Tdp.out.len, ← Tf5.out.len, he]
          have hb2 := Tf5.out
          rw [← he, ← hlen] at hb2
          have CS := Lib.hid (lsame_true Adp Af5 ndp cdp cf5 Ldp _ Tdp.out hb2 (by omega))
          rw [← hlen]
          clear he hlen hb2
          refine CS.out.mono ?_
          rintro e v108 ⟨rfl, hb⟩
          clear CS
          replace Ta := Lib.hid (Ta.out.bel hb)
          replace Tb := Lib.hid (Tb.out.bel hb)
          replace Tva := Lib.hid (Tva.out.bel hb)
          replace Tvb := Lib.hid (Tvb.out.bel hb)
          replace Ts := Lib.hid (Ts.out.bel hb)
          replace Tvs := Lib.hid (Tvs.out.bel hb)
          replace Tp := Lib.hid (Tp.out.bel hb)
          replace Tvp := Lib.hid (Tvp.out.bel hb)
          replace Tda := Lib.hid (Tda.out.bel hb)
          replace Tdb := Lib.hid (Tdb.out.bel hb)
          replace Tj := Lib.hid (Tj.out.bel hb)
          replace Tdp := Lib.hid (Tdp.out.bel hb)
          replace Tf3 := Lib.hid (Tf3.out.bel hb)
          replace Tf4 := Lib.hid (Tf4.out.bel hb)
          replace Tf5 := Lib.hid (Tf5.out.bel hb)
          replace HB : Hid (Below w.heap.size w v108) := HB.out.trans (hb.mono HB.out.size)
          clear hb
          go_wp2_with fail
          go_ret
          exact ⟨rfl, HB.out⟩
        · have q1 : (kp == ka + kb) = true := by simp; omega
          have q2 : 0 ≤ ka := by omega
          have q3 : ¬ 0 ≤ kb := by omega
          have q4 : (kp == -1) = true := by simp; omega
          have q5 : (ka == -1) = false := by simp; omega
          have q6 : (kb == -1) = true := by simp; omega
          clear d1 d2 d3 r1 r2 r3 r4
          go_wp2_with fail
          refine (hsum Tva.out Hva.out hn6 Tvb.out Hvb.out (by omega) (by omega) (by omega)).mono ?_
          rintro e v101 ⟨Af1, cf1, Lf1, rfl, lf1, t3, t4, t5, hb⟩
          replace Ta := Lib.hid (Ta.out.bel hb)
          replace Tb := Lib.hid (Tb.out.bel hb)
          replace Tva := Lib.hid (Tva.out.bel hb)
          replace Tvb := Lib.hid (Tvb.out.bel hb)
          replace Ts := Lib.hid (Ts.out.bel hb)
          replace Tvs := Lib.hid (Tvs.out.bel hb)
          replace Tp := Lib.hid (Tp.out.bel hb)
          replace Tvp := Lib.hid (Tvp.out.bel hb)
          replace Tda := Lib.hid (Tda.out.bel hb)
          replace Tdb := Lib.hid (Tdb.out.bel hb)
          replace Tj := Lib.hid (Tj.out.bel hb)
          replace Tdp := Lib.hid (Tdp.out.bel hb)
          replace HB : Hid (Below w.heap.size w v101) := HB.out.trans (hb.mono HB.out.size)
          obtain ⟨nf1, hnf1⟩ : ∃ k, Lf1.length = k := ⟨_, rfl⟩
          rw [hnf1] at lf1 t3 ⊢
          have Tf1 := Lib.hid t3
          have Pf1 := Lib.hid t4
          have Ef1 := Lib.hid t5
          clear t3 t4 t5 hnf1 hb
          go_wp2_with fail
          have he : Lvs = Lf1 := Pvs.out.unique Pf1.out (val_sum_eq Ha.out Hb.out Hs.out Es.out Evs.out Eva.out Evb.out Ef1.out)
          have hlen : nvs = nf1 := by rw [← Tvs.out.len, ← Tf1.out.len, he]
          have hb2 := Tf1.out
          rw [← he, ← hlen] at hb2
          have CS := Lib.hid (lsame_true Avs Af1 nvs cvs cf1 Lvs _ Tvs.out hb2 (by omega))
          rw [← hlen]
          clear he hlen hb2
          refine CS.out.mono ?_
          rintro e v102 ⟨rfl, hb⟩
          clear CS
          replace Ta := Lib.hid (Ta.out.bel hb)
          replace Tb := Lib.hid (Tb.out.bel hb)
          replace Tva := Lib.hid (Tva.out.bel hb)
          replace Tvb := Lib.hid (Tvb.out.bel hb)
          replace Ts := Lib.hid (Ts.out.bel hb)
          replace Tvs := Lib.hid (Tvs.out.bel hb)
          replace Tp := Lib.hid (Tp.out.bel hb)
          replace Tvp := Lib.hid (Tvp.out.bel hb)
          replace Tda := Lib.hid (Tda.out.bel hb)
          replace Tdb := Lib.hid (Tdb.out.bel hb)
          replace Tj := Lib.hid (Tj.out.bel hb)
          replace Tdp := Lib.hid (Tdp.out.bel hb)
          replace Tf1 := Lib.hid (Tf1.out.bel hb)
          replace HB : Hid (Below w.heap.size w v102) := HB.out.trans (hb.mono HB.out.size)
          clear hb
          clear Tf1 Pf1 Ef1
          go_wp2_with fail
          refine (htimes Tva.out Hva.out hn6 Tvb.out Hvb.out (by omega) (by omega) (by omega) (by omega)).mono ?_
          rintro e v103 ⟨Af2, cf2, Lf2, rfl, lf2, t3, t4, t5, hb⟩
          replace Ta := Lib.hid (Ta.out.bel hb)
          replace Tb := Lib.hid (Tb.out.bel hb)
          replace Tva := Lib.hid (Tva.out.bel hb)
          replace Tvb := Lib.hid (Tvb.out.bel hb)
          replace Ts := Lib.hid (Ts.out.bel hb)
          replace Tvs := Lib.hid (Tvs.out.bel hb)
          replace Tp := Lib.hid (Tp.out.bel hb)
          replace Tvp := Lib.hid (Tvp.out.bel hb)
          replace Tda := Lib.hid (Tda.out.bel hb)
          replace Tdb := Lib.hid (Tdb.out.bel hb)
          replace Tj := Lib.hid (Tj.out.bel hb)
          replace Tdp := Lib.hid (Tdp.out.bel hb)
          replace HB : Hid (Below w.heap.size w v103) := HB.out.trans (hb.mono HB.out.size)
          obtain ⟨nf2, hnf2⟩ : ∃ k, Lf2.length = k := ⟨_, rfl⟩
          rw [hnf2] at lf2 t3 ⊢
          have Tf2 := Lib.hid t3
          have Pf2 := Lib.hid t4
          have Ef2 := Lib.hid t5
          clear t3 t4 t5 hnf2 hb
          go_wp2_with fail
          have he : Lvp = Lf2 := Pvp.out.unique Pf2.out (val_mul_eq hin (by omega) (by omega) Ha.out Hb.out Hp.out Pva.out Pvb.out Ep.out Evp.out Eva.out Evb.out Ef2.out)
          have hlen : nvp = nf2 := by rw [← Tvp.out.len, ← Tf2.out.len, he]
          have hb2 := Tf2.out
          rw [← he, ← hlen] at hb2
          have CS := Lib.hid (lsame_true Avp Af2 nvp cvp cf2 Lvp _ Tvp.out hb2 (by omega))
          rw [← hlen]
          clear he hlen hb2
          refine CS.out.mono ?_
          rintro e v104 ⟨rfl, hb⟩
          clear CS
          replace Ta := Lib.hid (Ta.out.bel hb)
          replace Tb := Lib.hid (Tb.out.bel hb)
          replace Tva := Lib.hid (Tva.out.bel hb)
          replace Tvb := Lib.hid (Tvb.out.bel hb)
          replace Ts := Lib.hid (Ts.out.bel hb)
          replace Tvs := Lib.hid (Tvs.out.bel hb)
          replace Tp := Lib.hid (Tp.out.bel hb)
          replace Tvp := Lib.hid (Tvp.out.bel hb)
          replace Tda := Lib.hid (Tda.out.bel hb)
          replace Tdb := Lib.hid (Tdb.out.bel hb)
          replace Tj := Lib.hid (Tj.out.bel hb)
          replace Tdp := Lib.hid (Tdp.out.bel hb)
          replace Tf2 := Lib.hid (Tf2.out.bel hb)
          replace HB : Hid (Below w.heap.size w v104) := HB.out.trans (hb.mono HB.out.size)
          clear hb
          clear Tf2 Pf2 Ef2
          go_wp2_with fail
          refine (htimes Tda.out Hda.out hn6 Tb.out Hb.out (by omega) (by omega) (by omega) (by omega)).mono ?_
          rintro e v105 ⟨Af3, cf3, Lf3, rfl, lf3, t3, t4, t5, hb⟩
          replace Ta := Lib.hid (Ta.out.bel hb)
          replace Tb := Lib.hid (Tb.out.bel hb)
          replace Tva := Lib.hid (Tva.out.bel hb)
          replace Tvb := Lib.hid (Tvb.out.bel hb)
          replace Ts := Lib.hid (Ts.out.bel hb)
          replace Tvs := Lib.hid (Tvs.out.bel hb)
          replace Tp := Lib.hid (Tp.out.bel hb)
          replace Tvp := Lib.hid (Tvp.out.bel hb)
          replace Tda := Lib.hid (Tda.out.bel hb)
          replace Tdb := Lib.hid (Tdb.out.bel hb)
          replace Tj := Lib.hid (Tj.out.bel hb)
          replace Tdp := Lib.hid (Tdp.out.bel hb)
          replace HB : Hid (Below w.heap.size w v105) := HB.out.trans (hb.mono HB.out.size)
          obtain ⟨nf3, hnf3⟩ : ∃ k, Lf3.length = k := ⟨_, rfl⟩
          rw [hnf3] at lf3 t3 ⊢
          have Tf3 := Lib.hid t3
          have Pf3 := Lib.hid t4
          have Ef3 := Lib.hid t5
          clear t3 t4 t5 hnf3 hb
          have Hf3 : Hid (Has n 322 16 64 Lf3) := has_mul Hda.out Hb.out Pf3.out Ef3.out (by omega) (by omega) (by omega) (by omega) (by omega)
          go_wp2_with fail
          refine (htimes Ta.out Ha.out hn6 Tdb.out Hdb.out (by omega) (by omega) (by omega) (by omega)).mono ?_
          rintro e v106 ⟨Af4, cf4, Lf4, rfl, lf4, t3, t4, t5, hb⟩
          replace Ta := Lib.hid (Ta.out.bel hb)
          replace Tb := Lib.hid (Tb.out.bel hb)
          replace Tva := Lib.hid (Tva.out.bel hb)
          replace Tvb := Lib.hid (Tvb.out.bel hb)
          replace Ts := Lib.hid (Ts.out.bel hb)
          replace Tvs := Lib.hid (Tvs.out.bel hb)
          replace Tp := Lib.hid (Tp.out.bel hb)
          replace Tvp := Lib.hid (Tvp.out.bel hb)
          replace Tda := Lib.hid (Tda.out.bel hb)
          replace Tdb := Lib.hid (Tdb.out.bel hb)
          replace Tj := Lib.hid (Tj.out.bel hb)
          replace Tdp := Lib.hid (Tdp.out.bel hb)
          replace Tf3 := Lib.hid (Tf3.out.bel hb)
          replace HB : Hid (Below w.heap.size w v106) := HB.out.trans (hb.mono HB.out.size)
          obtain ⟨nf4, hnf4⟩ : ∃ k, Lf4.length = k := ⟨_, rfl⟩
          rw [hnf4] at lf4 t3 ⊢
          have Tf4 := Lib.hid t3
          have Pf4 := Lib.hid t4
          have Ef4 := Lib.hid t5
          clear t3 t4 t5 hnf4 hb
          have Hf4 : Hid (Has n 322 16 64 Lf4) := has_mul Ha.out Hdb.out Pf4.out Ef4.out (by omega) (by omega) (by omega) (by omega) (by omega)
          go_wp2_with fail
          refine (hsum Tf3.out Hf3.out hn6 Tf4.out Hf4.out (by omega) (by omega) (by omega)).mono ?_
          rintro e v107 ⟨Af5, cf5, Lf5, rfl, lf5, t3, t4, t5, hb⟩
          replace Ta := Lib.hid (Ta.out.bel hb)
          replace Tb := Lib.hid (Tb.out.bel hb)
          replace Tva := Lib.hid (Tva.out.bel hb)
          replace Tvb := Lib.hid (Tvb.out.bel hb)
          replace Ts := Lib.hid (Ts.out.bel hb)
          replace Tvs := Lib.hid (Tvs.out.bel hb)
          replace Tp := Lib.hid (Tp.out.bel hb)
          replace Tvp := Lib.hid (Tvp.out.bel hb)
          replace Tda := Lib.hid (Tda.out.bel hb)
          replace Tdb := Lib.hid (Tdb.out.bel hb)
          replace Tj := Lib.hid (Tj.out.bel hb)
          replace Tdp := Lib.hid (Tdp.out.bel hb)
          replace Tf3 := Lib.hid (Tf3.out.bel hb)
          replace Tf4 := Lib.hid (Tf4.out.bel hb)
          replace HB : Hid (Below w.heap.size w v107) := HB.out.trans (hb.mono HB.out.size)
          obtain ⟨nf5, hnf5⟩ : ∃ k, Lf5.length = k := ⟨_, rfl⟩
          rw [hnf5] at lf5 t3 ⊢
          have Tf5 := Lib.hid t3
          have Pf5 := Lib.hid t4
          have Ef5 := Lib.hid t5
          clear t3 t4 t5 hnf5 hb
          go_wp2_with fail
          have he : Ldp = Lf5 := Pdp.out.unique Pf5.out (der_mul_eq hin (by omega) (by omega) Ha.out Hb.out Hj.out Pda.out Pdb.out Ej.out Edp.out Eda.out Edb.out Ef3.out Ef4.out Ef5.out)
          have hlen : ndp = nf5 := by rw [← Tdp.out.len, ← Tf5.out.len, he]
          have hb2 := Tf5.out
          rw [← he, ← hlen] at hb2
          have CS := Lib.hid (lsame_true Adp Af5 ndp cdp cf5 Ldp _ Tdp.out hb2 (by omega))
          rw [← hlen]
          clear he hlen hb2
          refine CS.out.mono ?_
          rintro e v108 ⟨rfl, hb⟩
          clear CS
          replace Ta := Lib.hid (Ta.out.bel hb)
          replace Tb := Lib.hid (Tb.out.bel hb)
          replace Tva := Lib.hid (Tva.out.bel hb)
          replace Tvb := Lib.hid (Tvb.out.bel hb)
          replace Ts := Lib.hid (Ts.out.bel hb)
          replace Tvs := Lib.hid (Tvs.out.bel hb)
          replace Tp := Lib.hid (Tp.out.bel hb)
          replace Tvp := Lib.hid (Tvp.out.bel hb)
          replace Tda := Lib.hid (Tda.out.bel hb)
          replace Tdb := Lib.hid (Tdb.out.bel hb)
          replace Tj := Lib.hid (Tj.out.bel hb)
          replace Tdp := Lib.hid (Tdp.out.bel hb)
          replace Tf3 := Lib.hid (Tf3.out.bel hb)
          replace Tf4 := Lib.hid (Tf4.out.bel hb)
          replace Tf5 := Lib.hid (Tf5.out.bel hb)
          replace HB : Hid (Below w.heap.size w v108) := HB.out.trans (hb.mono HB.out.size)
          clear hb
          go_wp2_with fail
          go_ret
          exact ⟨rfl, HB.out⟩
        · have q1 : (kp == ka + kb) = false := by simp; omega
          have q4 : (kp == -1) = true := by simp; omega
          have q5 : (ka == -1) = false := by simp; omega
          have q6 : (kb == -1) = true := by simp; omega
          clear d1 d2 d3 r1 r2 r3 r4
          go_wp2_with fail
          refine (hsum Tva.out Hva.out hn6 Tvb.out Hvb.out (by omega) (by omega) (by omega)).mono ?_
          rintro e v101 ⟨Af1, cf1, Lf1, rfl, lf1, t3, t4, t5, hb⟩
          replace Ta := Lib.hid (Ta.out.bel hb)
          replace Tb := Lib.hid (Tb.out.bel hb)
          replace Tva := Lib.hid (Tva.out.bel hb)
          replace Tvb := Lib.hid (Tvb.out.bel hb)
          replace Ts := Lib.hid (Ts.out.bel hb)
          replace Tvs := Lib.hid (Tvs.out.bel hb)
          replace Tp := Lib.hid (Tp.out.bel hb)
          replace Tvp := Lib.hid (Tvp.out.bel hb)
          replace Tda := Lib.hid (Tda.out.bel hb)
          replace Tdb := Lib.hid (Tdb.out.bel hb)
          replace Tj := Lib.hid (Tj.out.bel hb)
          replace Tdp := Lib.hid (Tdp.out.bel hb)
          replace HB : Hid (Below w.heap.size w v101) := HB.out.trans (hb.mono HB.out.size)
          obtain ⟨nf1, hnf1⟩ : ∃ k, Lf1.length = k := ⟨_, rfl⟩
          rw [hnf1] at lf1 t3 ⊢
          have Tf1 := Lib.hid t3
          have Pf1 := Lib.hid t4
          have Ef1 := Lib.hid t5
          clear t3 t4 t5 hnf1 hb
          go_wp2_with fail
          have he : Lvs = Lf1 := Pvs.out.unique Pf1.out (val_sum_eq Ha.out Hb.out Hs.out Es.out Evs.out Eva.out Evb.out Ef1.out)
          have hlen : nvs = nf1 := by rw [← Tvs.out.len, ← Tf1.out.len, he]
          have hb2 := Tf1.out
          rw [← he, ← hlen] at hb2
          have CS := Lib.hid (lsame_true Avs Af1 nvs cvs cf1 Lvs _ Tvs.out hb2 (by omega))
          rw [← hlen]
          clear he hlen hb2
          refine CS.out.mono ?_
          rintro e v102 ⟨rfl, hb⟩
          clear CS
          replace Ta := Lib.hid (Ta.out.bel hb)
          replace Tb := Lib.hid (Tb.out.bel hb)
          replace Tva := Lib.hid (Tva.out.bel hb)
          replace Tvb := Lib.hid (Tvb.out.bel hb)
          replace Ts := Lib.hid (Ts.out.bel hb)
          replace Tvs := Lib.hid (Tvs.out.bel hb)
          replace Tp := Lib.hid (Tp.out.bel hb)
          replace Tvp := Lib.hid (Tvp.out.bel hb)
          replace Tda := Lib.hid (Tda.out.bel hb)
          replace Tdb := Lib.hid (Tdb.out.bel hb)
          replace Tj := Lib.hid (Tj.out.bel hb)
          replace Tdp := Lib.hid (Tdp.out.bel hb)
          replace Tf1 := Lib.hid (Tf1.out.bel hb)
          replace HB : Hid (Below w.heap.size w v102) := HB.out.trans (hb.mono HB.out.size)
          clear hb
          clear Tf1 Pf1 Ef1
          go_wp2_with fail
          refine (htimes Tva.out Hva.out hn6 Tvb.out Hvb.out (by omega) (by omega) (by omega) (by omega)).mono ?_
          rintro e v103 ⟨Af2, cf2, Lf2, rfl, lf2, t3, t4, t5, hb⟩
          replace Ta := Lib.hid (Ta.out.bel hb)
          replace Tb := Lib.hid (Tb.out.bel hb)
          replace Tva := Lib.hid (Tva.out.bel hb)
          replace Tvb := Lib.hid (Tvb.out.bel hb)
          replace Ts := Lib.hid (Ts.out.bel hb)
          replace Tvs := Lib.hid (Tvs.out.bel hb)
          replace Tp := Lib.hid (Tp.out.bel hb)
          replace Tvp := Lib.hid (Tvp.out.bel hb)
          replace Tda := Lib.hid (Tda.out.bel hb)
          replace Tdb := Lib.hid (Tdb.out.bel hb)
          replace Tj := Lib.hid (Tj.out.bel hb)
          replace Tdp := Lib.hid (Tdp.out.bel hb)
          replace HB : Hid (Below w.heap.size w v103) := HB.out.trans (hb.mono HB.out.size)
          obtain ⟨nf2, hnf2⟩ : ∃ k, Lf2.length = k := ⟨_, rfl⟩
          rw [hnf2] at lf2 t3 ⊢
          have Tf2 := Lib.hid t3
          have Pf2 := Lib.hid t4
          have Ef2 := Lib.hid t5
          clear t3 t4 t5 hnf2 hb
          go_wp2_with fail
          have he : Lvp = Lf2 := Pvp.out.unique Pf2.out (val_mul_eq hin (by omega) (by omega) Ha.out Hb.out Hp.out Pva.out Pvb.out Ep.out Evp.out Eva.out Evb.out Ef2.out)
          have hlen : nvp = nf2 := by rw [← Tvp.out.len, ← Tf2.out.len, he]
          have hb2 := Tf2.out
          rw [← he, ← hlen] at hb2
          have CS := Lib.hid (lsame_true Avp Af2 nvp cvp cf2 Lvp _ Tvp.out hb2 (by omega))
          rw [← hlen]
          clear he hlen hb2
          refine CS.out.mono ?_
          rintro e v104 ⟨rfl, hb⟩
          clear CS
          replace Ta := Lib.hid (Ta.out.bel hb)
          replace Tb := Lib.hid (Tb.out.bel hb)
          replace Tva := Lib.hid (Tva.out.bel hb)
          replace Tvb := Lib.hid (Tvb.out.bel hb)
          replace Ts := Lib.hid (Ts.out.bel hb)
          replace Tvs := Lib.hid (Tvs.out.bel hb)
          replace Tp := Lib.hid (Tp.out.bel hb)
          replace Tvp := Lib.hid (Tvp.out.bel hb)
          replace Tda := Lib.hid (Tda.out.bel hb)
          replace Tdb := Lib.hid (Tdb.out.bel hb)
          replace Tj := Lib.hid (Tj.out.bel hb)
          replace Tdp := Lib.hid (Tdp.out.bel hb)
          replace Tf2 := Lib.hid (Tf2.out.bel hb)
          replace HB : Hid (Below w.heap.size w v104) := HB.out.trans (hb.mono HB.out.size)
          clear hb
          clear Tf2 Pf2 Ef2
          go_wp2_with fail
          refine (htimes Tda.out Hda.out hn6 Tb.out Hb.out (by omega) (by omega) (by omega) (by omega)).mono ?_
          rintro e v105 ⟨Af3, cf3, Lf3, rfl, lf3, t3, t4, t5, hb⟩
          replace Ta := Lib.hid (Ta.out.bel hb)
          replace Tb := Lib.hid (Tb.out.bel hb)
          replace Tva := Lib.hid (Tva.out.bel hb)
          replace Tvb := Lib.hid (Tvb.out.bel hb)
          replace Ts := Lib.hid (Ts.out.bel hb)
          replace Tvs := Lib.hid (Tvs.out.bel hb)
          replace Tp := Lib.hid (Tp.out.bel hb)
          replace Tvp := Lib.hid (Tvp.out.bel hb)
          replace Tda := Lib.hid (Tda.out.bel hb)
          replace Tdb := Lib.hid (Tdb.out.bel hb)
          replace Tj := Lib.hid (Tj.out.bel hb)
          replace Tdp := Lib.hid (Tdp.out.bel hb)
          replace HB : Hid (Below w.heap.size w v105) := HB.out.trans (hb.mono HB.out.size)
          obtain ⟨nf3, hnf3⟩ : ∃ k, Lf3.length = k := ⟨_, rfl⟩
          rw [hnf3] at lf3 t3 ⊢
          have Tf3 := Lib.hid t3
          have Pf3 := Lib.hid t4
          have Ef3 := Lib.hid t5
          clear t3 t4 t5 hnf3 hb
          have Hf3 : Hid (Has n 322 16 64 Lf3) := has_mul Hda.out Hb.out Pf3.out Ef3.out (by omega) (by omega) (by omega) (by omega) (by omega)
          go_wp2_with fail
          refine (htimes Ta.out Ha.out hn6 Tdb.out Hdb.out (by omega) (by omega) (by omega) (by omega)).mono ?_
          rintro e v106 ⟨Af4, cf4, Lf4, rfl, lf4, t3, t4, t5, hb⟩
          replace Ta := Lib.hid (Ta.out.bel hb)
          replace Tb := Lib.hid (Tb.out.bel hb)
          replace Tva := Lib.hid (Tva.out.bel hb)
          replace Tvb := Lib.hid (Tvb.out.bel hb)
          replace Ts := Lib.hid (Ts.out.bel hb)
          replace Tvs := Lib.hid (Tvs.out.bel hb)
          replace Tp := Lib.hid (Tp.out.bel hb)
          replace Tvp := Lib.hid (Tvp.out.bel hb)
          replace Tda := Lib.hid (Tda.out.bel hb)
          replace Tdb := Lib.hid (Tdb.out.bel hb)
          replace Tj := Lib.hid (Tj.out.bel hb)
          replace Tdp := Lib.hid (Tdp.out.bel hb)
          replace Tf3 := Lib.hid (Tf3.out.bel hb)
          replace HB : Hid (Below w.heap.size w v106) := HB.out.trans (hb.mono HB.out.size)
          obtain ⟨nf4, hnf4⟩ : ∃ k, Lf4.length = k := ⟨_, rfl⟩
          rw [hnf4] at lf4 t3 ⊢
          have Tf4 := Lib.hid t3
          have Pf4 := Lib.hid t4
          have Ef4 := Lib.hid t5
          clear t3 t4 t5 hnf4 hb
          have Hf4 : Hid (Has n 322 16 64 Lf4) := has_mul Ha.out Hdb.out Pf4.out Ef4.out (by omega) (by omega) (by omega) (by omega) (by omega)
          go_wp2_with fail
          refine (hsum Tf3.out Hf3.out hn6 Tf4.out Hf4.out (by omega) (by omega) (by omega)).mono ?_
          rintro e v107 ⟨Af5, cf5, Lf5, rfl, lf5, t3, t4, t5, hb⟩
          replace Ta := Lib.hid (Ta.out.bel hb)
          replace Tb := Lib.hid (Tb.out.bel hb)
          replace Tva := Lib.hid (Tva.out.bel hb)
          replace Tvb := Lib.hid (Tvb.out.bel hb)
          replace Ts := Lib.hid (Ts.out.bel hb)
          replace Tvs := Lib.hid (Tvs.out.bel hb)
          replace Tp := Lib.hid (Tp.out.bel hb)
          replace Tvp := Lib.hid (Tvp.out.bel hb)
          replace Tda := Lib.hid (Tda.out.bel hb)
          replace Tdb := Lib.hid (Tdb.out.bel hb)
          replace Tj := Lib.hid (Tj.out.bel hb)
          replace Tdp := Lib.hid (Tdp.out.bel hb)
          replace Tf3 := Lib.hid (Tf3.out.bel hb)
          replace Tf4 := Lib.hid (Tf4.out.bel hb)
          replace HB : Hid (Below w.heap.size w v107) := HB.out.trans (hb.mono HB.out.size)
          obtain ⟨nf5, hnf5⟩ : ∃ k, Lf5.length = k := ⟨_, rfl⟩
          rw [hnf5] at lf5 t3 ⊢
          have Tf5 := Lib.hid t3
          have Pf5 := Lib.hid t4
          have Ef5 := Lib.hid t5
          clear t3 t4 t5 hnf5 hb
          go_wp2_with fail
          have he : Ldp = Lf5 := Pdp.out.unique Pf5.out (der_mul_eq hin (by omega) (by omega) Ha.out Hb.out Hj.out Pda.out Pdb.out Ej.out Edp.out Eda.out Edb.out Ef3.out Ef4.out Ef5.out)
          have hlen : ndp = nf5 := by rw [← Tdp.out.len, ← Tf5.out.len, he]
          have hb2 := Tf5.out
          rw [← he, ← hlen] at hb2
          have CS := Lib.hid (lsame_true Adp Af5 ndp cdp cf5 Ldp _ Tdp.out hb2 (by omega))
          rw [← hlen]
          clear he hlen hb2
          refine CS.out.mono ?_
          rintro e v108 ⟨rfl, hb⟩
          clear CS
          replace Ta := Lib.hid (Ta.out.bel hb)
          replace Tb := Lib.hid (Tb.out.bel hb)
          replace Tva := Lib.hid (Tva.out.bel hb)
          replace Tvb := Lib.hid (Tvb.out.bel hb)
          replace Ts := Lib.hid (Ts.out.bel hb)
          replace Tvs := Lib.hid (Tvs.out.bel hb)
          replace Tp := Lib.hid (Tp.out.bel hb)
          replace Tvp := Lib.hid (Tvp.out.bel hb)
          replace Tda := Lib.hid (Tda.out.bel hb)
          replace Tdb := Lib.hid (Tdb.out.bel hb)
          replace Tj := Lib.hid (Tj.out.bel hb)
          replace Tdp := Lib.hid (Tdp.out.bel hb)
          replace Tf3 := Lib.hid (Tf3.out.bel hb)
          replace Tf4 := Lib.hid (Tf4.out.bel hb)
          replace Tf5 := Lib.hid (Tf5.out.bel hb)
          replace HB : Hid (Below w.heap.size w v108) := HB.out.trans (hb.mono HB.out.size)
          clear hb
          go_wp2_with fail
          go_ret
          exact ⟨rfl, HB.out⟩
end Go.Proofs.Ytjmbejodcloapaa
