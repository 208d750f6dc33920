/- The walk of MpolyExact: a product is divided without a rest. -/
import Derived.Test.YtjmbejodcloapaaPExW
set_option linter.unusedVariables false
set_option linter.unusedSimpArgs false
namespace Go.Proofs.Ytjmbejodcloapaa
open Go.RowKit Cl
attribute [local go_sem ↓] Go.wp_at_zero Go.wp_at_succ
set_option maxRecDepth 1000000 in
set_option maxHeartbeats 16000000 in
theorem law_MpolyExact (a0 : Int) (A1 : Option Addr) (m1 c1 : Nat) (L1 : List TV) (A2 : Option Addr) (m2 c2 : Nat) (L2 : List TV) (w : World) (lo0 : -9223372036854775808 ≤ a0) (hi0 : a0 ≤ 9223372036854775807)
    (w1 : Trs w A1 m1 L1) (h1 : m1 ≤ c1) (k1 : c1 ≤ 9223372036854775807) (w2 : Trs w A2 m2 L2) (h2 : m2 ≤ c2) (k2 : c2 ≤ 9223372036854775807) :
    Calls Try.prog 4 #[.int .i64 a0, .slice A1 m1 c1, .slice A2 m2 c2] w fun e w' => e = .returned (.bool true) ∧ Below w.heap.size w w' := by
  have Ta := Lib.hid w1
  have Tb := Lib.hid w2
  clear w1 w2
  go_enter Try.func4, Try.ntmps4
  go_wp2_with fail
  refine (awake17 w).mono ?_
  rintro e wa ⟨rfl, hba⟩
  have hb3 : Below w.heap.size w (wa.alloc (.cells #[.slice A1 m1 c1, .slice A2 m2 c2] 22)) := hba.alloc hba.size _
  have hq := heap_alloc_new wa (.cells #[.slice A1 m1 c1, .slice A2 m2 c2] 22)
  go_wp2_with fail
  generalize wa.alloc (.cells #[.slice A1 m1 c1, .slice A2 m2 c2] 22) = wb at *
  refine (lsmall2 8 2 6 wa.heap.size 2 A1 A2 m1 m2 c1 c2 L1 L2 wb ((cell_of_row wb _ 0 _ _ (0, 0) hq).trans rfl) ((cell_of_row wb _ 1 _ _ (0, 0) hq).trans rfl) (Ta.out.bel hb3) (Tb.out.bel hb3) (by omega) (by omega)).mono ?_
  rintro e wc ⟨sm, rfl, rfl, hsm⟩
  have Hb := Lib.hid hb3
  have Hsm := Lib.hid hsm
  clear hb3 hq hba hsm
  cases sm with
  | false =>
    go_wp2_with fail
    go_ret
    exact ⟨rfl, Hb.out⟩
  | true =>
    · go_wp2_with fail
      refine (mcheck a0 A1 m1 c1 L1 wb (Ta.out.bel Hb.out)).mono ?_
      rintro e wd ⟨rfl, hb⟩
      have HB1 : Hid (Below w.heap.size w wd) := Hb.out.trans (hb.mono Hb.out.size)
      clear hb Hb
      by_cases ho1 : OkL a0 L1
      rotate_left
      · rw [chkN_no ho1]
        go_wp2_with fail
        go_ret
        exact ⟨rfl, HB1.out⟩
      rw [chkN_ok ho1]
      have Ho1 := Lib.hid ho1
      clear ho1
      go_wp2_with fail
      refine (mcheck a0 A2 m2 c2 L2 wd (Tb.out.bel HB1.out)).mono ?_
      rintro e we ⟨rfl, hb⟩
      have HB : Hid (Below w.heap.size w we) := HB1.out.trans (hb.mono HB1.out.size)
      clear hb HB1
      by_cases ho2 : OkL a0 L2
      rotate_left
      · rw [chkN_no ho2]
        go_wp2_with fail
        go_ret
        exact ⟨rfl, HB.out⟩
      · rw [chkN_ok ho2]
        have Ho2 := Lib.hid ho2
        clear ho2
        obtain ⟨n, hn⟩ : ∃ n : Nat, a0 = (n : Int) := ⟨a0.toNat, by have := Ho1.out.1; omega⟩
        subst hn
        have hn6 : n ≤ 6 := by have := Ho1.out.2.1; omega
        obtain ⟨s1, s2⟩ : SmallL 8 2 6 L1 ∧ SmallL 8 2 6 L2 := (by first | exact Hsm.out rfl | exact Hsm.out trivial)
        have Ha := Lib.hid (in_of Ta.out (by omega) s1 Ho1.out)
        have Hb := Lib.hid (in_of Tb.out (by omega) s2 Ho2.out)
        clear s1 s2 Hsm Ho1 Ho2
        have hm1 : m1 ≤ 8 := by have h1 := Ta.out.len; have h2 := Ha.out.cnt; omega
        have hm2 : m2 ≤ 8 := by have h1 := Tb.out.len; have h2 := Hb.out.cnt; omega
        replace Ta := Lib.hid (Ta.out.bel HB.out)
        replace Tb := Lib.hid (Tb.out.bel HB.out)
        go_wp2_with fail
        refine (mnorm4 n 2 A1 m1 c1 L1 we Ta.out Ha.out.arg hn6 (by omega)).mono ?_
        rintro e v1 ⟨Ax, cx, X, rfl, lx, t1, t2, t3, hb⟩
        replace Ta := Lib.hid (Ta.out.bel hb)
        replace Tb := Lib.hid (Tb.out.bel hb)
        replace HB : Hid (Below w.heap.size w v1) := HB.out.trans (hb.mono HB.out.size)
        have Tx := Lib.hid t1
        have Px := Lib.hid t2
        have Ex := Lib.hid t3
        clear t1 t2 t3 hb
        go_wp2_with fail
        refine (mnorm4 n 2 A2 m2 c2 L2 v1 Tb.out Hb.out.arg hn6 (by omega)).mono ?_
        rintro e v2 ⟨Ay, cy, Y, rfl, ly, t1, t2, t3, hb⟩
        replace Ta := Lib.hid (Ta.out.bel hb)
        replace Tb := Lib.hid (Tb.out.bel hb)
        replace Tx := Lib.hid (Tx.out.bel hb)
        replace HB : Hid (Below w.heap.size w v2) := HB.out.trans (hb.mono HB.out.size)
        have Py := Lib.hid t2
        have Ey := Lib.hid t3
        clear t1 t2 t3 hb
        go_wp2_with fail
        have hll : m1 * m2 ≤ 64 := Nat.mul_le_mul (show m1 ≤ 8 by omega) (show m2 ≤ 8 by omega)
        refine (ltimes4 n 2 2 A1 A2 m1 c1 m2 c2 L1 L2 v2 Ta.out Tb.out Ha.out.arg Hb.out.arg hn6 6 6 (by omega) (by omega) (by omega) Ha.out.bd Hb.out.bd (by omega)).mono ?_
        rintro e v3 ⟨Az, cz, Z, rfl, lz, t1, t2, t3, hb⟩
        replace Ta := Lib.hid (Ta.out.bel hb)
        replace Tb := Lib.hid (Tb.out.bel hb)
        replace Tx := Lib.hid (Tx.out.bel hb)
        replace HB : Hid (Below w.heap.size w v3) := HB.out.trans (hb.mono HB.out.size)
        have Tz := Lib.hid t1
        have Pz := Lib.hid t2
        have Ez := Lib.hid t3
        obtain ⟨az, bz, cz64⟩ := prod_arg Ha.out Hb.out (by omega) t2 t3
        have Haz := Lib.hid az
        clear t1 t2 t3 hb az bz hll
        rcases div_domE hn6 Hb.out.arg.lenM Hb.out.bd (Nat.le_trans Hb.out.ab (by decide)) with h0 | ⟨P', pl, cl, hD⟩
        · have hy0 : Y = [] := by
            have h1 : mvT Y = [] := Py.out.mv.unique (PlainM.nil n) fun p hp => (Ey.out p hp).trans (h0 p hp)
            exact List.map_eq_nil_iff.1 h1
          subst hy0
          have H0 := Lib.hid h0
          clear h0
          go_wp2_with fail
          refine (mdiv_zero n 5 2 Az A2 Z.length cz m2 c2 Z L2 v3 Tz.out Tb.out Haz.out Hb.out.arg hn6 (by omega) H0.out).mono ?_
          rintro e v4 ⟨rfl, hb⟩
          replace Ta := Lib.hid (Ta.out.bel hb)
          replace Tb := Lib.hid (Tb.out.bel hb)
          replace HB : Hid (Below w.heap.size w v4) := HB.out.trans (hb.mono HB.out.size)
          clear hb
          go_wp2_with fail
          refine (mdiv_zero n 2 2 A1 A2 m1 c1 m2 c2 L1 L2 v4 Ta.out Tb.out Ha.out.arg Hb.out.arg hn6 (by omega) H0.out).mono ?_
          rintro e v5 ⟨rfl, hb⟩
          replace HB : Hid (Below w.heap.size w v5) := HB.out.trans (hb.mono HB.out.size)
          clear hb
          have hz : (((([] : List TV).length : Nat) : Int) == 0) = true := rfl
          go_wp2_with fail
          go_ret
          exact ⟨rfl, HB.out⟩
        · have hy0 : (((Y.length : Nat) : Int) == 0) = false := by
            have h1 : mvT Y = (pl, cl) :: P' := Py.out.mv.unique hD.pln (Ey.out.trans hD.eq.symm)
            have h2 : Y.length = P'.length + 1 := by rw [← mvT_length, h1]; rfl
            exact beq_eq_false_iff_ne.2 (by omega)
          have bX := Lib.hid (Px.out.mv.bd Ex.out Ha.out.bd)
          have hcX : X.length ≤ 8 := by
            have h := Px.out.mv.count Ex.out
            rw [mvT_length, mvT_length] at h
            have h2 := Ha.out.cnt
            omega
          have HD := Lib.hid hD
          clear hD
          go_wp2_with fail
          refine (mdiv_prod n Az A2 Z.length cz m2 c2 L1 L2 X Z v3 Tz.out Tb.out Ha.out Hb.out Haz.out cz64 hn6 Px.out Ex.out Ez.out HD.out).mono ?_
          rintro e v4 ⟨Aq, cq, Q, rfl, t1, t2, t3, t4, t5, hb⟩
          obtain rfl : Q = X := t4.unique Px.out t5
          replace Ta := Lib.hid (Ta.out.bel hb)
          replace Tb := Lib.hid (Tb.out.bel hb)
          replace Tx := Lib.hid (Tx.out.bel hb)
          replace HB : Hid (Below w.heap.size w v4) := HB.out.trans (hb.mono HB.out.size)
          have Tq := Lib.hid t3
          clear t3 t4 t5 hb Tz Haz Ez Pz
          go_wp2_with fail
          refine (mdiv_any n 117648 240900 rfl rfl A1 A2 m1 c1 m2 c2 L1 L2 v4 Ta.out Tb.out hn6 Ha.out Hb.out HD.out).mono ?_
          rintro e v5 (⟨rfl, hb⟩ | ⟨Ar, cr, R, rfl, r1, r2, r3, r4, r5, r6, hb⟩)
          · replace Tx := Lib.hid (Tx.out.bel hb)
            replace Tq := Lib.hid (Tq.out.bel hb)
            replace HB : Hid (Below w.heap.size w v5) := HB.out.trans (hb.mono HB.out.size)
            clear hb
            go_wp2_with fail
            refine (lsame_true _ _ _ _ _ _ _ Tq.out Tx.out (by omega)).mono ?_
            rintro e v6 ⟨rfl, hb⟩
            replace HB : Hid (Below w.heap.size w v6) := HB.out.trans (hb.mono HB.out.size)
            clear hb
            go_wp2_with fail
            go_ret
            exact ⟨rfl, HB.out⟩
          · replace Tb := Lib.hid (Tb.out.bel hb)
            replace Tx := Lib.hid (Tx.out.bel hb)
            replace Tq := Lib.hid (Tq.out.bel hb)
            replace HB : Hid (Below w.heap.size w v5) := HB.out.trans (hb.mono HB.out.size)
            have Tr := Lib.hid r3
            have Hr := Lib.hid r4
            have Er := Lib.hid r6
            clear hb r3 r4 r6
            go_wp2_with fail
            refine (lsame_true _ _ _ _ _ _ _ Tq.out Tx.out (by omega)).mono ?_
            rintro e v6 ⟨rfl, hb⟩
            replace Tb := Lib.hid (Tb.out.bel hb)
            replace Tx := Lib.hid (Tx.out.bel hb)
            replace Tr := Lib.hid (Tr.out.bel hb)
            replace HB : Hid (Below w.heap.size w v6) := HB.out.trans (hb.mono HB.out.size)
            clear hb Tq
            go_wp2_with fail
            refine (ltimesG n Ar A2 R.length cr m2 c2 R L2 Q v6 Tr.out Tb.out Hr.out r5 Hb.out.arg Hb.out.cnt hn6 (Er.out.trans Ex.out.symm) Px.out bX.out hcX).mono ?_
            rintro e v7 ⟨At, ct, rfl, t1, hb⟩
            replace Tx := Lib.hid (Tx.out.bel hb)
            have Tt := Lib.hid t1
            replace HB : Hid (Below w.heap.size w v7) := HB.out.trans (hb.mono HB.out.size)
            clear hb t1
            go_wp2_with fail
            refine (lsame_true _ _ _ _ _ _ _ Tt.out Tx.out (by omega)).mono ?_
            rintro e v8 ⟨rfl, hb⟩
            replace HB : Hid (Below w.heap.size w v8) := HB.out.trans (hb.mono HB.out.size)
            clear hb
            go_wp2_with fail
            go_ret
            exact ⟨rfl, HB.out⟩
end Go.Proofs.Ytjmbejodcloapaa
