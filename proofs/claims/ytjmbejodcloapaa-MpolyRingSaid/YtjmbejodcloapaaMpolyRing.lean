/- The walk of MpolyRing: the polynomials are a ring without divisors of nought. -/
import Derived.Test.YtjmbejodcloapaaLawK17
import Derived.Test.YtjmbejodcloapaaTrmS
namespace Go.Proofs.Ytjmbejodcloapaa
open Go.RowKit Cl
attribute [local go_sem ↓] Go.wp_at_zero Go.wp_at_succ
set_option maxRecDepth 1000000 in
set_option maxHeartbeats 16000000 in
theorem law_MpolyRing (a0 : Int) (A1 : Option Addr) (m1 c1 : Nat) (L1 : List TV) (A2 : Option Addr) (m2 c2 : Nat) (L2 : List TV) (A3 : Option Addr) (m3 c3 : Nat) (L3 : List TV) (w : World) (lo0 : -9223372036854775808 ≤ a0) (hi0 : a0 ≤ 9223372036854775807)
    (w1 : Trs w A1 m1 L1) (h1 : m1 ≤ c1) (k1 : c1 ≤ 9223372036854775807) (w2 : Trs w A2 m2 L2) (h2 : m2 ≤ c2) (k2 : c2 ≤ 9223372036854775807) (w3 : Trs w A3 m3 L3) (h3 : m3 ≤ c3) (k3 : c3 ≤ 9223372036854775807) :
    Calls Try.prog 3 #[.int .i64 a0, .slice A1 m1 c1, .slice A2 m2 c2, .slice A3 m3 c3] w fun e w' => e = .returned (.bool true) ∧ Below w.heap.size w w' := by
  have W1 := Lib.hid w1
  have W2 := Lib.hid w2
  have W3 := Lib.hid w3
  clear w1 w2 w3
  go_enter Try.func3, Try.ntmps3
  go_wp2_with fail
  refine (awake17 w).mono ?_
  rintro e wa ⟨rfl, hba⟩
  have hb3 : Below w.heap.size w (wa.alloc (.cells #[.slice A1 m1 c1, .slice A2 m2 c2, .slice A3 m3 c3] 22)) := hba.alloc hba.size _
  have hq := heap_alloc_new wa (.cells #[.slice A1 m1 c1, .slice A2 m2 c2, .slice A3 m3 c3] 22)
  go_wp2_with fail
  generalize wa.alloc (.cells #[.slice A1 m1 c1, .slice A2 m2 c2, .slice A3 m3 c3] 22) = wb at *
  refine (lsmall3 8 2 30 wa.heap.size 3 A1 A2 A3 m1 m2 m3 c1 c2 c3 L1 L2 L3 wb ((cell_of_row wb _ 0 _ _ (0, 0) hq).trans rfl) ((cell_of_row wb _ 1 _ _ (0, 0) hq).trans rfl) ((cell_of_row wb _ 2 _ _ (0, 0) hq).trans rfl) (W1.out.bel hb3) (W2.out.bel hb3) (W3.out.bel hb3) (by omega) (by omega) (by omega)).mono ?_
  rintro e wc ⟨sm, rfl, rfl, hsm⟩
  have Hb := Lib.hid hb3
  have Hsm := Lib.hid hsm
  clear hb3 hq hba hsm
  cases sm with
  | false =>
    go_wp2_with fail
    go_ret
    exact ⟨rfl, Hb.out⟩
  | true =>
    go_wp2_with fail
    refine (mcheck a0 A1 m1 c1 L1 wb (W1.out.bel Hb.out)).mono ?_
    rintro e wd ⟨rfl, hbd⟩
    have Hb1 : Hid (Below w.heap.size w wd) := Hb.out.trans (hbd.mono Hb.out.size)
    clear hbd Hb
    by_cases ho1 : OkL a0 L1
    · rw [chkN_ok ho1]
      have Ho1 := Lib.hid ho1
      clear ho1
      go_wp2_with fail
      refine (mcheck a0 A2 m2 c2 L2 wd (W2.out.bel Hb1.out)).mono ?_
      rintro e we ⟨rfl, hbe⟩
      have Hb2 : Hid (Below w.heap.size w we) := Hb1.out.trans (hbe.mono Hb1.out.size)
      clear hbe Hb1
      by_cases ho2 : OkL a0 L2
      · rw [chkN_ok ho2]
        have Ho2 := Lib.hid ho2
        clear ho2
        go_wp2_with fail
        refine (mcheck a0 A3 m3 c3 L3 we (W3.out.bel Hb2.out)).mono ?_
        rintro e wf ⟨rfl, hbf⟩
        have Hb3 : Hid (Below w.heap.size w wf) := Hb2.out.trans (hbf.mono Hb2.out.size)
        clear hbf Hb2
        by_cases ho3 : OkL a0 L3
        · rw [chkN_ok ho3]
          have Ho3 := Lib.hid ho3
          clear ho3
          obtain ⟨n, hn⟩ : ∃ n : Nat, a0 = (n : Int) := ⟨a0.toNat, by have := Ho1.out.1; omega⟩
          subst hn
          have hn6 : n ≤ 6 := by have := Ho1.out.2.1; omega
          obtain ⟨s1, s2, s3⟩ : SmallL 8 2 30 L1 ∧ SmallL 8 2 30 L2 ∧ SmallL 8 2 30 L3 := (by first | exact Hsm.out rfl | exact Hsm.out trivial)
          have I1 := Lib.hid (in_of W1.out (by omega) s1 Ho1.out)
          have I2 := Lib.hid (in_of W2.out (by omega) s2 Ho2.out)
          have I3 := Lib.hid (in_of W3.out (by omega) s3 Ho3.out)
          have hm1 : m1 ≤ 8 := by have := I1.out.cnt; have := W1.out.len; omega
          have hm2 : m2 ≤ 8 := by have := I2.out.cnt; have := W2.out.len; omega
          have hm3 : m3 ≤ 8 := by have := I3.out.cnt; have := W3.out.len; omega
          clear s1 s2 s3 Hsm Ho1 Ho2 Ho3
          -- MAIN
          have HB := Hb3
          replace W1 := Lib.hid (W1.out.bel Hb3.out)
          replace W2 := Lib.hid (W2.out.bel Hb3.out)
          replace W3 := Lib.hid (W3.out.bel Hb3.out)
          clear Hb3
          go_wp2_with fail
          refine (mnorm4 n 2 A1 m1 c1 L1 _ W1.out I1.out.arg hn6 (by omega)).mono ?_
          rintro e v1 ⟨AX, cX, LX, rfl, lX, t3, t4, t5, hb⟩
          replace W1 := Lib.hid (W1.out.bel hb)
          replace W2 := Lib.hid (W2.out.bel hb)
          replace W3 := Lib.hid (W3.out.bel hb)
          replace HB : Hid (Below w.heap.size w v1) := HB.out.trans (hb.mono HB.out.size)
          clear hb
          obtain ⟨nX, hnX⟩ : ∃ k, LX.length = k := ⟨_, rfl⟩
          rw [hnX] at lX t3 ⊢
          have TX := Lib.hid t3
          have PX := Lib.hid t4
          have EX := Lib.hid t5
          have NX := Lib.hid hnX
          clear t3 t4 t5 hnX
          go_wp2_with fail
          refine (mnorm4 n 2 A2 m2 c2 L2 _ W2.out I2.out.arg hn6 (by omega)).mono ?_
          rintro e v2 ⟨AY, cY, LY, rfl, lY, t3, t4, t5, hb⟩
          replace W1 := Lib.hid (W1.out.bel hb)
          replace W2 := Lib.hid (W2.out.bel hb)
          replace W3 := Lib.hid (W3.out.bel hb)
          replace TX := Lib.hid (TX.out.bel hb)
          replace HB : Hid (Below w.heap.size w v2) := HB.out.trans (hb.mono HB.out.size)
          clear hb
          obtain ⟨nY, hnY⟩ : ∃ k, LY.length = k := ⟨_, rfl⟩
          rw [hnY] at lY t3 ⊢
          have TY := Lib.hid t3
          have PY := Lib.hid t4
          have EY := Lib.hid t5
          have NY := Lib.hid hnY
          clear t3 t4 t5 hnY
          go_wp2_with fail
          refine (ltimes4 n 2 2 A1 A2 m1 c1 m2 c2 L1 L2 _ W1.out W2.out I1.out.arg I2.out.arg hn6 30 30 (by omega) (by omega) (Nat.le_trans (Nat.mul_le_mul (show m1 ≤ 64 by omega) (show m2 ≤ 64 by omega)) (by omega)) I1.out.bd I2.out.bd (by omega)).mono ?_
          rintro e v3 ⟨AZ, cZ, LZ, rfl, lZ, t3, t4, t5, hb⟩
          replace W1 := Lib.hid (W1.out.bel hb)
          replace W2 := Lib.hid (W2.out.bel hb)
          replace W3 := Lib.hid (W3.out.bel hb)
          replace TX := Lib.hid (TX.out.bel hb)
          replace TY := Lib.hid (TY.out.bel hb)
          replace HB : Hid (Below w.heap.size w v3) := HB.out.trans (hb.mono HB.out.size)
          clear hb
          obtain ⟨nZ, hnZ⟩ : ∃ k, LZ.length = k := ⟨_, rfl⟩
          rw [hnZ] at lZ t3 ⊢
          have TZ := Lib.hid t3
          have PZ := Lib.hid t4
          have EZ := Lib.hid t5
          have NZ := Lib.hid hnZ
          clear t3 t4 t5 hnZ
          go_wp2_with fail
          refine (lsum4 n 2 2 A1 A2 m1 c1 m2 c2 L1 L2 _ W1.out W2.out I1.out.arg I2.out.arg hn6 (by omega) (by omega) (by omega)).mono ?_
          rintro e v4 ⟨AS, cS, LS, rfl, lS, t3, t4, t5, hb⟩
          replace W1 := Lib.hid (W1.out.bel hb)
          replace W2 := Lib.hid (W2.out.bel hb)
          replace W3 := Lib.hid (W3.out.bel hb)
          replace TX := Lib.hid (TX.out.bel hb)
          replace TY := Lib.hid (TY.out.bel hb)
          replace TZ := Lib.hid (TZ.out.bel hb)
          replace HB : Hid (Below w.heap.size w v4) := HB.out.trans (hb.mono HB.out.size)
          clear hb
          obtain ⟨nS, hnS⟩ : ∃ k, LS.length = k := ⟨_, rfl⟩
          rw [hnS] at lS t3 ⊢
          have TS := Lib.hid t3
          have PS := Lib.hid t4
          have ES := Lib.hid t5
          have NS := Lib.hid hnS
          clear t3 t4 t5 hnS
          have QS := Lib.hid (sum_arg I1.out I2.out (by omega) PS.out ES.out)
          have BS : nS ≤ 16 := by rw [← NS.out]; exact QS.out.2.2
          go_wp2_with fail
          refine (pSub4 n 3 2 AS A2 nS cS m2 c2 LS L2 _ TS.out W2.out QS.out.1 I2.out.arg hn6 (by omega) (by omega) (by omega)).mono ?_
          rintro e v5 ⟨AD, cD, LD, rfl, lD, t3, t4, t5, hb⟩
          replace W1 := Lib.hid (W1.out.bel hb)
          replace W2 := Lib.hid (W2.out.bel hb)
          replace W3 := Lib.hid (W3.out.bel hb)
          replace TX := Lib.hid (TX.out.bel hb)
          replace TY := Lib.hid (TY.out.bel hb)
          replace TZ := Lib.hid (TZ.out.bel hb)
          replace TS := Lib.hid (TS.out.bel hb)
          replace HB : Hid (Below w.heap.size w v5) := HB.out.trans (hb.mono HB.out.size)
          clear hb
          obtain ⟨nD, hnD⟩ : ∃ k, LD.length = k := ⟨_, rfl⟩
          rw [hnD] at lD t3 ⊢
          have TD := Lib.hid t3
          have PD := Lib.hid t4
          have ED := Lib.hid t5
          have ND := Lib.hid hnD
          clear t3 t4 t5 hnD
          have QZ := Lib.hid (prod_arg I1.out I2.out (by omega) PZ.out EZ.out)
          have BZ : nZ ≤ 64 := by rw [← NZ.out]; exact QZ.out.2.2
          clear QS BS TS
          have hzero : Hid (nX = 0 ∨ nY = 0 → nZ = 0) := fun h => by
            have h1 : EqM n (mvT LZ) [] := by
              refine EZ.out.trans ?_
              rcases h with h | h
              · have h2 : LX = [] := List.eq_nil_of_length_eq_zero (by rw [NX.out]; exact h)
                have h3 := EX.out
                rw [h2] at h3
                exact (h3.symm.mulL I1.out.arg.lenM (fun t ht => by cases ht) I2.out.arg.lenM)
              · have h2 : LY = [] := List.eq_nil_of_length_eq_zero (by rw [NY.out]; exact h)
                have h3 := EY.out
                rw [h2] at h3
                refine (ring_mul_comm n _ _).trans ?_
                exact (h3.symm.mulL I2.out.arg.lenM (fun t ht => by cases ht) I1.out.arg.lenM)
            have h4 := PZ.out.mv.mul_nil h1
            have h5 := congrArg List.length h4
            rw [mvT_length, NZ.out] at h5
            exact h5
          by_cases hX0 : nX = 0
          · have hz := hzero.out (.inl hX0)
            have ex : ((nX : Int) == 0) = true := by rw [hX0]; rfl
            have ez : ((nZ : Int) != 0) = false := by rw [hz]; rfl
            clear hzero hX0 hz
            go_wp2_with fail
            refine (lsum4 n 2 2 A1 A2 m1 c1 m2 c2 L1 L2 _ W1.out W2.out I1.out.arg I2.out.arg hn6 (by omega) (by omega) (by omega)).mono ?_
            rintro e v101 ⟨As1, cs1, Ls1, rfl, ls1, t3, t4, t5, hb⟩
            replace W1 := Lib.hid (W1.out.bel hb)
            replace W2 := Lib.hid (W2.out.bel hb)
            replace W3 := Lib.hid (W3.out.bel hb)
            replace TX := Lib.hid (TX.out.bel hb)
            replace TY := Lib.hid (TY.out.bel hb)
            replace TZ := Lib.hid (TZ.out.bel hb)
            replace TD := Lib.hid (TD.out.bel hb)
            replace HB : Hid (Below w.heap.size w v101) := HB.out.trans (hb.mono HB.out.size)
            clear hb
            obtain ⟨ns1, hns1⟩ : ∃ k, Ls1.length = k := ⟨_, rfl⟩
            rw [hns1] at ls1 t3 ⊢
            have Ts1 := Lib.hid t3
            have Ps1 := Lib.hid t4
            have Es1 := Lib.hid t5
            have Ns1 := Lib.hid hns1
            clear t3 t4 t5 hns1
            go_wp2_with fail
            refine (lsum4 n 2 2 A2 A1 m2 c2 m1 c1 L2 L1 _ W2.out W1.out I2.out.arg I1.out.arg hn6 (by omega) (by omega) (by omega)).mono ?_
            rintro e v102 ⟨As2, cs2, Ls2, rfl, ls2, t3, t4, t5, hb⟩
            replace W1 := Lib.hid (W1.out.bel hb)
            replace W2 := Lib.hid (W2.out.bel hb)
            replace W3 := Lib.hid (W3.out.bel hb)
            replace TX := Lib.hid (TX.out.bel hb)
            replace TY := Lib.hid (TY.out.bel hb)
            replace TZ := Lib.hid (TZ.out.bel hb)
            replace TD := Lib.hid (TD.out.bel hb)
            replace Ts1 := Lib.hid (Ts1.out.bel hb)
            replace HB : Hid (Below w.heap.size w v102) := HB.out.trans (hb.mono HB.out.size)
            clear hb
            obtain ⟨ns2, hns2⟩ : ∃ k, Ls2.length = k := ⟨_, rfl⟩
            rw [hns2] at ls2 t3 ⊢
            have Ts2 := Lib.hid t3
            have Ps2 := Lib.hid t4
            have Es2 := Lib.hid t5
            have Ns2 := Lib.hid hns2
            clear t3 t4 t5 hns2
            go_wp2_with fail
            have he : Ls1 = Ls2 := Ps1.out.unique Ps2.out (Es1.out.trans ((ring_add_comm n (mvT L1) (mvT L2)).trans Es2.out.symm))
            have hlen : ns1 = ns2 := by rw [← Ns1.out, ← Ns2.out, he]
            have hb2 := Ts2.out
            rw [← he, ← hlen] at hb2
            have CS := Lib.hid (lsame_true As1 As2 ns1 cs1 cs2 Ls1 _ Ts1.out hb2 (by omega))
            rw [← hlen]
            clear he hlen hb2
            refine CS.out.mono ?_
            rintro e v103 ⟨rfl, hb⟩
            clear CS
            replace W1 := Lib.hid (W1.out.bel hb)
            replace W2 := Lib.hid (W2.out.bel hb)
            replace W3 := Lib.hid (W3.out.bel hb)
            replace TX := Lib.hid (TX.out.bel hb)
            replace TY := Lib.hid (TY.out.bel hb)
            replace TZ := Lib.hid (TZ.out.bel hb)
            replace TD := Lib.hid (TD.out.bel hb)
            replace Ts1 := Lib.hid (Ts1.out.bel hb)
            replace Ts2 := Lib.hid (Ts2.out.bel hb)
            replace HB : Hid (Below w.heap.size w v103) := HB.out.trans (hb.mono HB.out.size)
            clear hb
            clear Ts1 Ps1 Es1 Ns1
            clear Ts2 Ps2 Es2 Ns2
            go_wp2_with fail
            refine (ltimes4 n 2 2 A2 A1 m2 c2 m1 c1 L2 L1 _ W2.out W1.out I2.out.arg I1.out.arg hn6 30 30 (by omega) (by omega) (Nat.le_trans (Nat.mul_le_mul (show m2 ≤ 64 by omega) (show m1 ≤ 64 by omega)) (by omega)) I2.out.bd I1.out.bd (by omega)).mono ?_
            rintro e v104 ⟨At1, ct1, Lt1, rfl, lt1, t3, t4, t5, hb⟩
            replace W1 := Lib.hid (W1.out.bel hb)
            replace W2 := Lib.hid (W2.out.bel hb)
            replace W3 := Lib.hid (W3.out.bel hb)
            replace TX := Lib.hid (TX.out.bel hb)
            replace TY := Lib.hid (TY.out.bel hb)
            replace TZ := Lib.hid (TZ.out.bel hb)
            replace TD := Lib.hid (TD.out.bel hb)
            replace HB : Hid (Below w.heap.size w v104) := HB.out.trans (hb.mono HB.out.size)
            clear hb
            obtain ⟨nt1, hnt1⟩ : ∃ k, Lt1.length = k := ⟨_, rfl⟩
            rw [hnt1] at lt1 t3 ⊢
            have Tt1 := Lib.hid t3
            have Pt1 := Lib.hid t4
            have Et1 := Lib.hid t5
            have Nt1 := Lib.hid hnt1
            clear t3 t4 t5 hnt1
            go_wp2_with fail
            have he : LZ = Lt1 := PZ.out.unique Pt1.out (EZ.out.trans ((ring_mul_comm n (mvT L1) (mvT L2)).trans Et1.out.symm))
            have hlen : nZ = nt1 := by rw [← NZ.out, ← Nt1.out, he]
            have hb2 := Tt1.out
            rw [← he, ← hlen] at hb2
            have CS := Lib.hid (lsame_true AZ At1 nZ cZ ct1 LZ _ TZ.out hb2 (by omega))
            rw [← hlen]
            clear he hlen hb2
            refine CS.out.mono ?_
            rintro e v105 ⟨rfl, hb⟩
            clear CS
            replace W1 := Lib.hid (W1.out.bel hb)
            replace W2 := Lib.hid (W2.out.bel hb)
            replace W3 := Lib.hid (W3.out.bel hb)
            replace TX := Lib.hid (TX.out.bel hb)
            replace TY := Lib.hid (TY.out.bel hb)
            replace TZ := Lib.hid (TZ.out.bel hb)
            replace TD := Lib.hid (TD.out.bel hb)
            replace Tt1 := Lib.hid (Tt1.out.bel hb)
            replace HB : Hid (Below w.heap.size w v105) := HB.out.trans (hb.mono HB.out.size)
            clear hb
            clear Tt1 Pt1 Et1 Nt1
            go_wp2_with fail
            refine (lsum4 n 2 2 A1 A2 m1 c1 m2 c2 L1 L2 _ W1.out W2.out I1.out.arg I2.out.arg hn6 (by omega) (by omega) (by omega)).mono ?_
            rintro e v106 ⟨As3, cs3, Ls3, rfl, ls3, t3, t4, t5, hb⟩
            replace W1 := Lib.hid (W1.out.bel hb)
            replace W2 := Lib.hid (W2.out.bel hb)
            replace W3 := Lib.hid (W3.out.bel hb)
            replace TX := Lib.hid (TX.out.bel hb)
            replace TY := Lib.hid (TY.out.bel hb)
            replace TZ := Lib.hid (TZ.out.bel hb)
            replace TD := Lib.hid (TD.out.bel hb)
            replace HB : Hid (Below w.heap.size w v106) := HB.out.trans (hb.mono HB.out.size)
            clear hb
            obtain ⟨ns3, hns3⟩ : ∃ k, Ls3.length = k := ⟨_, rfl⟩
            rw [hns3] at ls3 t3 ⊢
            have Ts3 := Lib.hid t3
            have Ps3 := Lib.hid t4
            have Es3 := Lib.hid t5
            have Ns3 := Lib.hid hns3
            clear t3 t4 t5 hns3
            have Qs3 := Lib.hid (sum_arg I1.out I2.out (by omega) Ps3.out Es3.out)
            have Bs3 : ns3 ≤ 16 := by rw [← Ns3.out]; exact Qs3.out.2.2
            go_wp2_with fail
            refine (lsum4 n 3 2 As3 A3 ns3 cs3 m3 c3 Ls3 L3 _ Ts3.out W3.out Qs3.out.1 I3.out.arg hn6 (by omega) (by omega) (by omega)).mono ?_
            rintro e v107 ⟨Au1, cu1, Lu1, rfl, lu1, t3, t4, t5, hb⟩
            replace W1 := Lib.hid (W1.out.bel hb)
            replace W2 := Lib.hid (W2.out.bel hb)
            replace W3 := Lib.hid (W3.out.bel hb)
            replace TX := Lib.hid (TX.out.bel hb)
            replace TY := Lib.hid (TY.out.bel hb)
            replace TZ := Lib.hid (TZ.out.bel hb)
            replace TD := Lib.hid (TD.out.bel hb)
            replace Ts3 := Lib.hid (Ts3.out.bel hb)
            replace HB : Hid (Below w.heap.size w v107) := HB.out.trans (hb.mono HB.out.size)
            clear hb
            obtain ⟨nu1, hnu1⟩ : ∃ k, Lu1.length = k := ⟨_, rfl⟩
            rw [hnu1] at lu1 t3 ⊢
            have Tu1 := Lib.hid t3
            have Pu1 := Lib.hid t4
            have Eu1 := Lib.hid t5
            have Nu1 := Lib.hid hnu1
            clear t3 t4 t5 hnu1
            go_wp2_with fail
            refine (lsum4 n 2 2 A2 A3 m2 c2 m3 c3 L2 L3 _ W2.out W3.out I2.out.arg I3.out.arg hn6 (by omega) (by omega) (by omega)).mono ?_
            rintro e v108 ⟨As4, cs4, Ls4, rfl, ls4, t3, t4, t5, hb⟩
            replace W1 := Lib.hid (W1.out.bel hb)
            replace W2 := Lib.hid (W2.out.bel hb)
            replace W3 := Lib.hid (W3.out.bel hb)
            replace TX := Lib.hid (TX.out.bel hb)
            replace TY := Lib.hid (TY.out.bel hb)
            replace TZ := Lib.hid (TZ.out.bel hb)
            replace TD := Lib.hid (TD.out.bel hb)
            replace Ts3 := Lib.hid (Ts3.out.bel hb)
            replace Tu1 := Lib.hid (Tu1.out.bel hb)
            replace HB : Hid (Below w.heap.size w v108) := HB.out.trans (hb.mono HB.out.size)
            clear hb
            obtain ⟨ns4, hns4⟩ : ∃ k, Ls4.length = k := ⟨_, rfl⟩
            rw [hns4] at ls4 t3 ⊢
            have Ts4 := Lib.hid t3
            have Ps4 := Lib.hid t4
            have Es4 := Lib.hid t5
            have Ns4 := Lib.hid hns4
            clear t3 t4 t5 hns4
            have Qs4 := Lib.hid (sum_arg I2.out I3.out (by omega) Ps4.out Es4.out)
            have Bs4 : ns4 ≤ 16 := by rw [← Ns4.out]; exact Qs4.out.2.2
            go_wp2_with fail
            refine (lsum4 n 2 3 A1 As4 m1 c1 ns4 cs4 L1 Ls4 _ W1.out Ts4.out I1.out.arg Qs4.out.1 hn6 (by omega) (by omega) (by omega)).mono ?_
            rintro e v109 ⟨Au2, cu2, Lu2, rfl, lu2, t3, t4, t5, hb⟩
            replace W1 := Lib.hid (W1.out.bel hb)
            replace W2 := Lib.hid (W2.out.bel hb)
            replace W3 := Lib.hid (W3.out.bel hb)
            replace TX := Lib.hid (TX.out.bel hb)
            replace TY := Lib.hid (TY.out.bel hb)
            replace TZ := Lib.hid (TZ.out.bel hb)
            replace TD := Lib.hid (TD.out.bel hb)
            replace Ts3 := Lib.hid (Ts3.out.bel hb)
            replace Tu1 := Lib.hid (Tu1.out.bel hb)
            replace Ts4 := Lib.hid (Ts4.out.bel hb)
            replace HB : Hid (Below w.heap.size w v109) := HB.out.trans (hb.mono HB.out.size)
            clear hb
            obtain ⟨nu2, hnu2⟩ : ∃ k, Lu2.length = k := ⟨_, rfl⟩
            rw [hnu2] at lu2 t3 ⊢
            have Tu2 := Lib.hid t3
            have Pu2 := Lib.hid t4
            have Eu2 := Lib.hid t5
            have Nu2 := Lib.hid hnu2
            clear t3 t4 t5 hnu2
            go_wp2_with fail
            have he : Lu1 = Lu2 := Pu1.out.unique Pu2.out (ring_add_assoc Es3.out Eu1.out Es4.out Eu2.out)
            have hlen : nu1 = nu2 := by rw [← Nu1.out, ← Nu2.out, he]
            have hb2 := Tu2.out
            rw [← he, ← hlen] at hb2
            have CS := Lib.hid (lsame_true Au1 Au2 nu1 cu1 cu2 Lu1 _ Tu1.out hb2 (by omega))
            rw [← hlen]
            clear he hlen hb2
            refine CS.out.mono ?_
            rintro e v110 ⟨rfl, hb⟩
            clear CS
            replace W1 := Lib.hid (W1.out.bel hb)
            replace W2 := Lib.hid (W2.out.bel hb)
            replace W3 := Lib.hid (W3.out.bel hb)
            replace TX := Lib.hid (TX.out.bel hb)
            replace TY := Lib.hid (TY.out.bel hb)
            replace TZ := Lib.hid (TZ.out.bel hb)
            replace TD := Lib.hid (TD.out.bel hb)
            replace Ts3 := Lib.hid (Ts3.out.bel hb)
            replace Tu1 := Lib.hid (Tu1.out.bel hb)
            replace Ts4 := Lib.hid (Ts4.out.bel hb)
            replace Tu2 := Lib.hid (Tu2.out.bel hb)
            replace HB : Hid (Below w.heap.size w v110) := HB.out.trans (hb.mono HB.out.size)
            clear hb
            clear Qs3 Qs4 Bs3 Bs4
            clear Ts3 Ps3 Es3 Ns3
            clear Tu1 Pu1 Eu1 Nu1
            clear Ts4 Ps4 Es4 Ns4
            clear Tu2 Pu2 Eu2 Nu2
            go_wp2_with fail
            refine (ltimes4 n 5 2 AZ A3 nZ cZ m3 c3 LZ L3 _ TZ.out W3.out QZ.out.1 I3.out.arg hn6 (30 + 30) 30 (by omega) (by omega) (Nat.le_trans (Nat.mul_le_mul (show nZ ≤ 64 by omega) (show m3 ≤ 64 by omega)) (by omega)) QZ.out.2.1 I3.out.bd (by omega)).mono ?_
            rintro e v111 ⟨Av1, cv1, Lv1, rfl, lv1, t3, t4, t5, hb⟩
            replace W1 := Lib.hid (W1.out.bel hb)
            replace W2 := Lib.hid (W2.out.bel hb)
            replace W3 := Lib.hid (W3.out.bel hb)
            replace TX := Lib.hid (TX.out.bel hb)
            replace TY := Lib.hid (TY.out.bel hb)
            replace TZ := Lib.hid (TZ.out.bel hb)
            replace TD := Lib.hid (TD.out.bel hb)
            replace HB : Hid (Below w.heap.size w v111) := HB.out.trans (hb.mono HB.out.size)
            clear hb
            obtain ⟨nv1, hnv1⟩ : ∃ k, Lv1.length = k := ⟨_, rfl⟩
            rw [hnv1] at lv1 t3 ⊢
            have Tv1 := Lib.hid t3
            have Pv1 := Lib.hid t4
            have Ev1 := Lib.hid t5
            have Nv1 := Lib.hid hnv1
            clear t3 t4 t5 hnv1
            go_wp2_with fail
            refine (ltimes4 n 2 2 A2 A3 m2 c2 m3 c3 L2 L3 _ W2.out W3.out I2.out.arg I3.out.arg hn6 30 30 (by omega) (by omega) (Nat.le_trans (Nat.mul_le_mul (show m2 ≤ 64 by omega) (show m3 ≤ 64 by omega)) (by omega)) I2.out.bd I3.out.bd (by omega)).mono ?_
            rintro e v112 ⟨At2, ct2, Lt2, rfl, lt2, t3, t4, t5, hb⟩
            replace W1 := Lib.hid (W1.out.bel hb)
            replace W2 := Lib.hid (W2.out.bel hb)
            replace W3 := Lib.hid (W3.out.bel hb)
            replace TX := Lib.hid (TX.out.bel hb)
            replace TY := Lib.hid (TY.out.bel hb)
            replace TZ := Lib.hid (TZ.out.bel hb)
            replace TD := Lib.hid (TD.out.bel hb)
            replace Tv1 := Lib.hid (Tv1.out.bel hb)
            replace HB : Hid (Below w.heap.size w v112) := HB.out.trans (hb.mono HB.out.size)
            clear hb
            obtain ⟨nt2, hnt2⟩ : ∃ k, Lt2.length = k := ⟨_, rfl⟩
            rw [hnt2] at lt2 t3 ⊢
            have Tt2 := Lib.hid t3
            have Pt2 := Lib.hid t4
            have Et2 := Lib.hid t5
            have Nt2 := Lib.hid hnt2
            clear t3 t4 t5 hnt2
            have Qt2 := Lib.hid (prod_arg I2.out I3.out (by omega) Pt2.out Et2.out)
            have Bt2 : nt2 ≤ 64 := by rw [← Nt2.out]; exact Qt2.out.2.2
            go_wp2_with fail
            refine (ltimes4 n 2 5 A1 At2 m1 c1 nt2 ct2 L1 Lt2 _ W1.out Tt2.out I1.out.arg Qt2.out.1 hn6 30 (30 + 30) (by omega) (by omega) (Nat.le_trans (Nat.mul_le_mul (show m1 ≤ 64 by omega) (show nt2 ≤ 64 by omega)) (by omega)) I1.out.bd Qt2.out.2.1 (by omega)).mono ?_
            rintro e v113 ⟨Av2, cv2, Lv2, rfl, lv2, t3, t4, t5, hb⟩
            replace W1 := Lib.hid (W1.out.bel hb)
            replace W2 := Lib.hid (W2.out.bel hb)
            replace W3 := Lib.hid (W3.out.bel hb)
            replace TX := Lib.hid (TX.out.bel hb)
            replace TY := Lib.hid (TY.out.bel hb)
            replace TZ := Lib.hid (TZ.out.bel hb)
            replace TD := Lib.hid (TD.out.bel hb)
            replace Tv1 := Lib.hid (Tv1.out.bel hb)
            replace Tt2 := Lib.hid (Tt2.out.bel hb)
            replace HB : Hid (Below w.heap.size w v113) := HB.out.trans (hb.mono HB.out.size)
            clear hb
            obtain ⟨nv2, hnv2⟩ : ∃ k, Lv2.length = k := ⟨_, rfl⟩
            rw [hnv2] at lv2 t3 ⊢
            have Tv2 := Lib.hid t3
            have Pv2 := Lib.hid t4
            have Ev2 := Lib.hid t5
            have Nv2 := Lib.hid hnv2
            clear t3 t4 t5 hnv2
            go_wp2_with fail
            have he : Lv1 = Lv2 := Pv1.out.unique Pv2.out (ring_mul_assoc I1.out.arg.lenM I2.out.arg.lenM I3.out.arg.lenM PZ.out.mv.len Pt2.out.mv.len EZ.out Ev1.out Et2.out Ev2.out)
            have hlen : nv1 = nv2 := by rw [← Nv1.out, ← Nv2.out, he]
            have hb2 := Tv2.out
            rw [← he, ← hlen] at hb2
            have CS := Lib.hid (lsame_true Av1 Av2 nv1 cv1 cv2 Lv1 _ Tv1.out hb2 (by omega))
            rw [← hlen]
            clear he hlen hb2
            refine CS.out.mono ?_
            rintro e v114 ⟨rfl, hb⟩
            clear CS
            replace W1 := Lib.hid (W1.out.bel hb)
            replace W2 := Lib.hid (W2.out.bel hb)
            replace W3 := Lib.hid (W3.out.bel hb)
            replace TX := Lib.hid (TX.out.bel hb)
            replace TY := Lib.hid (TY.out.bel hb)
            replace TZ := Lib.hid (TZ.out.bel hb)
            replace TD := Lib.hid (TD.out.bel hb)
            replace Tv1 := Lib.hid (Tv1.out.bel hb)
            replace Tt2 := Lib.hid (Tt2.out.bel hb)
            replace Tv2 := Lib.hid (Tv2.out.bel hb)
            replace HB : Hid (Below w.heap.size w v114) := HB.out.trans (hb.mono HB.out.size)
            clear hb
            clear Qt2 Bt2
            clear Tv1 Pv1 Ev1 Nv1
            clear Tt2 Pt2 Et2 Nt2
            clear Tv2 Pv2 Ev2 Nv2
            go_wp2_with fail
            refine (lsum4 n 2 2 A2 A3 m2 c2 m3 c3 L2 L3 _ W2.out W3.out I2.out.arg I3.out.arg hn6 (by omega) (by omega) (by omega)).mono ?_
            rintro e v115 ⟨As5, cs5, Ls5, rfl, ls5, t3, t4, t5, hb⟩
            replace W1 := Lib.hid (W1.out.bel hb)
            replace W2 := Lib.hid (W2.out.bel hb)
            replace W3 := Lib.hid (W3.out.bel hb)
            replace TX := Lib.hid (TX.out.bel hb)
            replace TY := Lib.hid (TY.out.bel hb)
            replace TZ := Lib.hid (TZ.out.bel hb)
            replace TD := Lib.hid (TD.out.bel hb)
            replace HB : Hid (Below w.heap.size w v115) := HB.out.trans (hb.mono HB.out.size)
            clear hb
            obtain ⟨ns5, hns5⟩ : ∃ k, Ls5.length = k := ⟨_, rfl⟩
            rw [hns5] at ls5 t3 ⊢
            have Ts5 := Lib.hid t3
            have Ps5 := Lib.hid t4
            have Es5 := Lib.hid t5
            have Ns5 := Lib.hid hns5
            clear t3 t4 t5 hns5
            have Qs5 := Lib.hid (sum_arg I2.out I3.out (by omega) Ps5.out Es5.out)
            have Bs5 : ns5 ≤ 16 := by rw [← Ns5.out]; exact Qs5.out.2.2
            go_wp2_with fail
            refine (ltimes4 n 2 3 A1 As5 m1 c1 ns5 cs5 L1 Ls5 _ W1.out Ts5.out I1.out.arg Qs5.out.1 hn6 30 30 (by omega) (by omega) (Nat.le_trans (Nat.mul_le_mul (show m1 ≤ 64 by omega) (show ns5 ≤ 64 by omega)) (by omega)) I1.out.bd Qs5.out.2.1 (by omega)).mono ?_
            rintro e v116 ⟨Av3, cv3, Lv3, rfl, lv3, t3, t4, t5, hb⟩
            replace W1 := Lib.hid (W1.out.bel hb)
            replace W2 := Lib.hid (W2.out.bel hb)
            replace W3 := Lib.hid (W3.out.bel hb)
            replace TX := Lib.hid (TX.out.bel hb)
            replace TY := Lib.hid (TY.out.bel hb)
            replace TZ := Lib.hid (TZ.out.bel hb)
            replace TD := Lib.hid (TD.out.bel hb)
            replace Ts5 := Lib.hid (Ts5.out.bel hb)
            replace HB : Hid (Below w.heap.size w v116) := HB.out.trans (hb.mono HB.out.size)
            clear hb
            obtain ⟨nv3, hnv3⟩ : ∃ k, Lv3.length = k := ⟨_, rfl⟩
            rw [hnv3] at lv3 t3 ⊢
            have Tv3 := Lib.hid t3
            have Pv3 := Lib.hid t4
            have Ev3 := Lib.hid t5
            have Nv3 := Lib.hid hnv3
            clear t3 t4 t5 hnv3
            go_wp2_with fail
            refine (ltimes4 n 2 2 A1 A3 m1 c1 m3 c3 L1 L3 _ W1.out W3.out I1.out.arg I3.out.arg hn6 30 30 (by omega) (by omega) (Nat.le_trans (Nat.mul_le_mul (show m1 ≤ 64 by omega) (show m3 ≤ 64 by omega)) (by omega)) I1.out.bd I3.out.bd (by omega)).mono ?_
            rintro e v117 ⟨At3, ct3, Lt3, rfl, lt3, t3, t4, t5, hb⟩
            replace W1 := Lib.hid (W1.out.bel hb)
            replace W2 := Lib.hid (W2.out.bel hb)
            replace W3 := Lib.hid (W3.out.bel hb)
            replace TX := Lib.hid (TX.out.bel hb)
            replace TY := Lib.hid (TY.out.bel hb)
            replace TZ := Lib.hid (TZ.out.bel hb)
            replace TD := Lib.hid (TD.out.bel hb)
            replace Ts5 := Lib.hid (Ts5.out.bel hb)
            replace Tv3 := Lib.hid (Tv3.out.bel hb)
            replace HB : Hid (Below w.heap.size w v117) := HB.out.trans (hb.mono HB.out.size)
            clear hb
            obtain ⟨nt3, hnt3⟩ : ∃ k, Lt3.length = k := ⟨_, rfl⟩
            rw [hnt3] at lt3 t3 ⊢
            have Tt3 := Lib.hid t3
            have Pt3 := Lib.hid t4
            have Et3 := Lib.hid t5
            have Nt3 := Lib.hid hnt3
            clear t3 t4 t5 hnt3
            have Qt3 := Lib.hid (prod_arg I1.out I3.out (by omega) Pt3.out Et3.out)
            have Bt3 : nt3 ≤ 64 := by rw [← Nt3.out]; exact Qt3.out.2.2
            go_wp2_with fail
            refine (lsum4 n 5 5 AZ At3 nZ cZ nt3 ct3 LZ Lt3 _ TZ.out Tt3.out QZ.out.1 Qt3.out.1 hn6 (by omega) (by omega) (by omega)).mono ?_
            rintro e v118 ⟨Av4, cv4, Lv4, rfl, lv4, t3, t4, t5, hb⟩
            replace W1 := Lib.hid (W1.out.bel hb)
            replace W2 := Lib.hid (W2.out.bel hb)
            replace W3 := Lib.hid (W3.out.bel hb)
            replace TX := Lib.hid (TX.out.bel hb)
            replace TY := Lib.hid (TY.out.bel hb)
            replace TZ := Lib.hid (TZ.out.bel hb)
            replace TD := Lib.hid (TD.out.bel hb)
            replace Ts5 := Lib.hid (Ts5.out.bel hb)
            replace Tv3 := Lib.hid (Tv3.out.bel hb)
            replace Tt3 := Lib.hid (Tt3.out.bel hb)
            replace HB : Hid (Below w.heap.size w v118) := HB.out.trans (hb.mono HB.out.size)
            clear hb
            obtain ⟨nv4, hnv4⟩ : ∃ k, Lv4.length = k := ⟨_, rfl⟩
            rw [hnv4] at lv4 t3 ⊢
            have Tv4 := Lib.hid t3
            have Pv4 := Lib.hid t4
            have Ev4 := Lib.hid t5
            have Nv4 := Lib.hid hnv4
            clear t3 t4 t5 hnv4
            go_wp2_with fail
            have he : Lv3 = Lv4 := Pv3.out.unique Pv4.out (ring_dist I1.out.arg.lenM I2.out.arg.lenM I3.out.arg.lenM Ps5.out.mv.len Es5.out Ev3.out EZ.out Et3.out Ev4.out)
            have hlen : nv3 = nv4 := by rw [← Nv3.out, ← Nv4.out, he]
            have hb2 := Tv4.out
            rw [← he, ← hlen] at hb2
            have CS := Lib.hid (lsame_true Av3 Av4 nv3 cv3 cv4 Lv3 _ Tv3.out hb2 (by omega))
            rw [← hlen]
            clear he hlen hb2
            refine CS.out.mono ?_
            rintro e v119 ⟨rfl, hb⟩
            clear CS
            replace W1 := Lib.hid (W1.out.bel hb)
            replace W2 := Lib.hid (W2.out.bel hb)
            replace W3 := Lib.hid (W3.out.bel hb)
            replace TX := Lib.hid (TX.out.bel hb)
            replace TY := Lib.hid (TY.out.bel hb)
            replace TZ := Lib.hid (TZ.out.bel hb)
            replace TD := Lib.hid (TD.out.bel hb)
            replace Ts5 := Lib.hid (Ts5.out.bel hb)
            replace Tv3 := Lib.hid (Tv3.out.bel hb)
            replace Tt3 := Lib.hid (Tt3.out.bel hb)
            replace Tv4 := Lib.hid (Tv4.out.bel hb)
            replace HB : Hid (Below w.heap.size w v119) := HB.out.trans (hb.mono HB.out.size)
            clear hb
            clear Qs5 Qt3 Bs5 Bt3
            clear Ts5 Ps5 Es5 Ns5
            clear Tv3 Pv3 Ev3 Nv3
            clear Tt3 Pt3 Et3 Nt3
            clear Tv4 Pv4 Ev4 Nv4
            go_wp2_with fail
            have he : LD = LX := PD.out.unique PX.out ((ring_sub ES.out ED.out).trans EX.out.symm)
            have hlen : nD = nX := by rw [← ND.out, ← NX.out, he]
            have hb2 := TX.out
            rw [← he, ← hlen] at hb2
            have CS := Lib.hid (lsame_true AD AX nD cD cX LD _ TD.out hb2 (by omega))
            rw [← hlen]
            clear he hlen hb2
            refine CS.out.mono ?_
            rintro e v120 ⟨rfl, hb⟩
            clear CS
            replace W1 := Lib.hid (W1.out.bel hb)
            replace W2 := Lib.hid (W2.out.bel hb)
            replace W3 := Lib.hid (W3.out.bel hb)
            replace TX := Lib.hid (TX.out.bel hb)
            replace TY := Lib.hid (TY.out.bel hb)
            replace TZ := Lib.hid (TZ.out.bel hb)
            replace TD := Lib.hid (TD.out.bel hb)
            replace HB : Hid (Below w.heap.size w v120) := HB.out.trans (hb.mono HB.out.size)
            clear hb
            go_wp2_with fail
            go_ret
            exact ⟨rfl, HB.out⟩
          · have ex : ((nX : Int) == 0) = false := by simp; omega
            by_cases hY0 : nY = 0
            · have hz := hzero.out (.inr hY0)
              have ey : ((nY : Int) == 0) = true := by rw [hY0]; rfl
              have ez : ((nZ : Int) != 0) = false := by rw [hz]; rfl
              clear hzero hX0 hY0 hz
              go_wp2_with fail
              refine (lsum4 n 2 2 A1 A2 m1 c1 m2 c2 L1 L2 _ W1.out W2.out I1.out.arg I2.out.arg hn6 (by omega) (by omega) (by omega)).mono ?_
              rintro e v101 ⟨As1, cs1, Ls1, rfl, ls1, t3, t4, t5, hb⟩
              replace W1 := Lib.hid (W1.out.bel hb)
              replace W2 := Lib.hid (W2.out.bel hb)
              replace W3 := Lib.hid (W3.out.bel hb)
              replace TX := Lib.hid (TX.out.bel hb)
              replace TY := Lib.hid (TY.out.bel hb)
              replace TZ := Lib.hid (TZ.out.bel hb)
              replace TD := Lib.hid (TD.out.bel hb)
              replace HB : Hid (Below w.heap.size w v101) := HB.out.trans (hb.mono HB.out.size)
              clear hb
              obtain ⟨ns1, hns1⟩ : ∃ k, Ls1.length = k := ⟨_, rfl⟩
              rw [hns1] at ls1 t3 ⊢
              have Ts1 := Lib.hid t3
              have Ps1 := Lib.hid t4
              have Es1 := Lib.hid t5
              have Ns1 := Lib.hid hns1
              clear t3 t4 t5 hns1
              go_wp2_with fail
              refine (lsum4 n 2 2 A2 A1 m2 c2 m1 c1 L2 L1 _ W2.out W1.out I2.out.arg I1.out.arg hn6 (by omega) (by omega) (by omega)).mono ?_
              rintro e v102 ⟨As2, cs2, Ls2, rfl, ls2, t3, t4, t5, hb⟩
              replace W1 := Lib.hid (W1.out.bel hb)
              replace W2 := Lib.hid (W2.out.bel hb)
              replace W3 := Lib.hid (W3.out.bel hb)
              replace TX := Lib.hid (TX.out.bel hb)
              replace TY := Lib.hid (TY.out.bel hb)
              replace TZ := Lib.hid (TZ.out.bel hb)
              replace TD := Lib.hid (TD.out.bel hb)
              replace Ts1 := Lib.hid (Ts1.out.bel hb)
              replace HB : Hid (Below w.heap.size w v102) := HB.out.trans (hb.mono HB.out.size)
              clear hb
              obtain ⟨ns2, hns2⟩ : ∃ k, Ls2.length = k := ⟨_, rfl⟩
              rw [hns2] at ls2 t3 ⊢
              have Ts2 := Lib.hid t3
              have Ps2 := Lib.hid t4
              have Es2 := Lib.hid t5
              have Ns2 := Lib.hid hns2
              clear t3 t4 t5 hns2
              go_wp2_with fail
              have he : Ls1 = Ls2 := Ps1.out.unique Ps2.out (Es1.out.trans ((ring_add_comm n (mvT L1) (mvT L2)).trans Es2.out.symm))
              have hlen : ns1 = ns2 := by rw [← Ns1.out, ← Ns2.out, he]
              have hb2 := Ts2.out
              rw [← he, ← hlen] at hb2
              have CS := Lib.hid (lsame_true As1 As2 ns1 cs1 cs2 Ls1 _ Ts1.out hb2 (by omega))
              rw [← hlen]
              clear he hlen hb2
              refine CS.out.mono ?_
              rintro e v103 ⟨rfl, hb⟩
              clear CS
              replace W1 := Lib.hid (W1.out.bel hb)
              replace W2 := Lib.hid (W2.out.bel hb)
              replace W3 := Lib.hid (W3.out.bel hb)
              replace TX := Lib.hid (TX.out.bel hb)
              replace TY := Lib.hid (TY.out.bel hb)
              replace TZ := Lib.hid (TZ.out.bel hb)
              replace TD := Lib.hid (TD.out.bel hb)
              replace Ts1 := Lib.hid (Ts1.out.bel hb)
              replace Ts2 := Lib.hid (Ts2.out.bel hb)
              replace HB : Hid (Below w.heap.size w v103) := HB.out.trans (hb.mono HB.out.size)
              clear hb
              clear Ts1 Ps1 Es1 Ns1
              clear Ts2 Ps2 Es2 Ns2
              go_wp2_with fail
              refine (ltimes4 n 2 2 A2 A1 m2 c2 m1 c1 L2 L1 _ W2.out W1.out I2.out.arg I1.out.arg hn6 30 30 (by omega) (by omega) (Nat.le_trans (Nat.mul_le_mul (show m2 ≤ 64 by omega) (show m1 ≤ 64 by omega)) (by omega)) I2.out.bd I1.out.bd (by omega)).mono ?_
              rintro e v104 ⟨At1, ct1, Lt1, rfl, lt1, t3, t4, t5, hb⟩
              replace W1 := Lib.hid (W1.out.bel hb)
              replace W2 := Lib.hid (W2.out.bel hb)
              replace W3 := Lib.hid (W3.out.bel hb)
              replace TX := Lib.hid (TX.out.bel hb)
              replace TY := Lib.hid (TY.out.bel hb)
              replace TZ := Lib.hid (TZ.out.bel hb)
              replace TD := Lib.hid (TD.out.bel hb)
              replace HB : Hid (Below w.heap.size w v104) := HB.out.trans (hb.mono HB.out.size)
              clear hb
              obtain ⟨nt1, hnt1⟩ : ∃ k, Lt1.length = k := ⟨_, rfl⟩
              rw [hnt1] at lt1 t3 ⊢
              have Tt1 := Lib.hid t3
              have Pt1 := Lib.hid t4
              have Et1 := Lib.hid t5
              have Nt1 := Lib.hid hnt1
              clear t3 t4 t5 hnt1
              go_wp2_with fail
              have he : LZ = Lt1 := PZ.out.unique Pt1.out (EZ.out.trans ((ring_mul_comm n (mvT L1) (mvT L2)).trans Et1.out.symm))
              have hlen : nZ = nt1 := by rw [← NZ.out, ← Nt1.out, he]
              have hb2 := Tt1.out
              rw [← he, ← hlen] at hb2
              have CS := Lib.hid (lsame_true AZ At1 nZ cZ ct1 LZ _ TZ.out hb2 (by omega))
              rw [← hlen]
              clear he hlen hb2
              refine CS.out.mono ?_
              rintro e v105 ⟨rfl, hb⟩
              clear CS
              replace W1 := Lib.hid (W1.out.bel hb)
              replace W2 := Lib.hid (W2.out.bel hb)
              replace W3 := Lib.hid (W3.out.bel hb)
              replace TX := Lib.hid (TX.out.bel hb)
              replace TY := Lib.hid (TY.out.bel hb)
              replace TZ := Lib.hid (TZ.out.bel hb)
              replace TD := Lib.hid (TD.out.bel hb)
              replace Tt1 := Lib.hid (Tt1.out.bel hb)
              replace HB : Hid (Below w.heap.size w v105) := HB.out.trans (hb.mono HB.out.size)
              clear hb
              clear Tt1 Pt1 Et1 Nt1
              go_wp2_with fail
              refine (lsum4 n 2 2 A1 A2 m1 c1 m2 c2 L1 L2 _ W1.out W2.out I1.out.arg I2.out.arg hn6 (by omega) (by omega) (by omega)).mono ?_
              rintro e v106 ⟨As3, cs3, Ls3, rfl, ls3, t3, t4, t5, hb⟩
              replace W1 := Lib.hid (W1.out.bel hb)
              replace W2 := Lib.hid (W2.out.bel hb)
              replace W3 := Lib.hid (W3.out.bel hb)
              replace TX := Lib.hid (TX.out.bel hb)
              replace TY := Lib.hid (TY.out.bel hb)
              replace TZ := Lib.hid (TZ.out.bel hb)
              replace TD := Lib.hid (TD.out.bel hb)
              replace HB : Hid (Below w.heap.size w v106) := HB.out.trans (hb.mono HB.out.size)
              clear hb
              obtain ⟨ns3, hns3⟩ : ∃ k, Ls3.length = k := ⟨_, rfl⟩
              rw [hns3] at ls3 t3 ⊢
              have Ts3 := Lib.hid t3
              have Ps3 := Lib.hid t4
              have Es3 := Lib.hid t5
              have Ns3 := Lib.hid hns3
              clear t3 t4 t5 hns3
              have Qs3 := Lib.hid (sum_arg I1.out I2.out (by omega) Ps3.out Es3.out)
              have Bs3 : ns3 ≤ 16 := by rw [← Ns3.out]; exact Qs3.out.2.2
              go_wp2_with fail
              refine (lsum4 n 3 2 As3 A3 ns3 cs3 m3 c3 Ls3 L3 _ Ts3.out W3.out Qs3.out.1 I3.out.arg hn6 (by omega) (by omega) (by omega)).mono ?_
              rintro e v107 ⟨Au1, cu1, Lu1, rfl, lu1, t3, t4, t5, hb⟩
              replace W1 := Lib.hid (W1.out.bel hb)
              replace W2 := Lib.hid (W2.out.bel hb)
              replace W3 := Lib.hid (W3.out.bel hb)
              replace TX := Lib.hid (TX.out.bel hb)
              replace TY := Lib.hid (TY.out.bel hb)
              replace TZ := Lib.hid (TZ.out.bel hb)
              replace TD := Lib.hid (TD.out.bel hb)
              replace Ts3 := Lib.hid (Ts3.out.bel hb)
              replace HB : Hid (Below w.heap.size w v107) := HB.out.trans (hb.mono HB.out.size)
              clear hb
              obtain ⟨nu1, hnu1⟩ : ∃ k, Lu1.length = k := ⟨_, rfl⟩
              rw [hnu1] at lu1 t3 ⊢
              have Tu1 := Lib.hid t3
              have Pu1 := Lib.hid t4
              have Eu1 := Lib.hid t5
              have Nu1 := Lib.hid hnu1
              clear t3 t4 t5 hnu1
              go_wp2_with fail
              refine (lsum4 n 2 2 A2 A3 m2 c2 m3 c3 L2 L3 _ W2.out W3.out I2.out.arg I3.out.arg hn6 (by omega) (by omega) (by omega)).mono ?_
              rintro e v108 ⟨As4, cs4, Ls4, rfl, ls4, t3, t4, t5, hb⟩
              replace W1 := Lib.hid (W1.out.bel hb)
              replace W2 := Lib.hid (W2.out.bel hb)
              replace W3 := Lib.hid (W3.out.bel hb)
              replace TX := Lib.hid (TX.out.bel hb)
              replace TY := Lib.hid (TY.out.bel hb)
              replace TZ := Lib.hid (TZ.out.bel hb)
              replace TD := Lib.hid (TD.out.bel hb)
              replace Ts3 := Lib.hid (Ts3.out.bel hb)
              replace Tu1 := Lib.hid (Tu1.out.bel hb)
              replace HB : Hid (Below w.heap.size w v108) := HB.out.trans (hb.mono HB.out.size)
              clear hb
              obtain ⟨ns4, hns4⟩ : ∃ k, Ls4.length = k := ⟨_, rfl⟩
              rw [hns4] at ls4 t3 ⊢
              have Ts4 := Lib.hid t3
              have Ps4 := Lib.hid t4
              have Es4 := Lib.hid t5
              have Ns4 := Lib.hid hns4
              clear t3 t4 t5 hns4
              have Qs4 := Lib.hid (sum_arg I2.out I3.out (by omega) Ps4.out Es4.out)
              have Bs4 : ns4 ≤ 16 := by rw [← Ns4.out]; exact Qs4.out.2.2
              go_wp2_with fail
              refine (lsum4 n 2 3 A1 As4 m1 c1 ns4 cs4 L1 Ls4 _ W1.out Ts4.out I1.out.arg Qs4.out.1 hn6 (by omega) (by omega) (by omega)).mono ?_
              rintro e v109 ⟨Au2, cu2, Lu2, rfl, lu2, t3, t4, t5, hb⟩
              replace W1 := Lib.hid (W1.out.bel hb)
              replace W2 := Lib.hid (W2.out.bel hb)
              replace W3 := Lib.hid (W3.out.bel hb)
              replace TX := Lib.hid (TX.out.bel hb)
              replace TY := Lib.hid (TY.out.bel hb)
              replace TZ := Lib.hid (TZ.out.bel hb)
              replace TD := Lib.hid (TD.out.bel hb)
              replace Ts3 := Lib.hid (Ts3.out.bel hb)
              replace Tu1 := Lib.hid (Tu1.out.bel hb)
              replace Ts4 := Lib.hid (Ts4.out.bel hb)
              replace HB : Hid (Below w.heap.size w v109) := HB.out.trans (hb.mono HB.out.size)
              clear hb
              obtain ⟨nu2, hnu2⟩ : ∃ k, Lu2.length = k := ⟨_, rfl⟩
              rw [hnu2] at lu2 t3 ⊢
              have Tu2 := Lib.hid t3
              have Pu2 := Lib.hid t4
              have Eu2 := Lib.hid t5
              have Nu2 := Lib.hid hnu2
              clear t3 t4 t5 hnu2
              go_wp2_with fail
              have he : Lu1 = Lu2 := Pu1.out.unique Pu2.out (ring_add_assoc Es3.out Eu1.out Es4.out Eu2.out)
              have hlen : nu1 = nu2 := by rw [← Nu1.out, ← Nu2.out, he]
              have hb2 := Tu2.out
              rw [← he, ← hlen] at hb2
              have CS := Lib.hid (lsame_true Au1 Au2 nu1 cu1 cu2 Lu1 _ Tu1.out hb2 (by omega))
              rw [← hlen]
              clear he hlen hb2
              refine CS.out.mono ?_
              rintro e v110 ⟨rfl, hb⟩
              clear CS
              replace W1 := Lib.hid (W1.out.bel hb)
              replace W2 := Lib.hid (W2.out.bel hb)
              replace W3 := Lib.hid (W3.out.bel hb)
              replace TX := Lib.hid (TX.out.bel hb)
              replace TY := Lib.hid (TY.out.bel hb)
              replace TZ := Lib.hid (TZ.out.bel hb)
              replace TD := Lib.hid (TD.out.bel hb)
              replace Ts3 := Lib.hid (Ts3.out.bel hb)
              replace Tu1 := Lib.hid (Tu1.out.bel hb)
              replace Ts4 := Lib.hid (Ts4.out.bel hb)
              replace Tu2 := Lib.hid (Tu2.out.bel hb)
              replace HB : Hid (Below w.heap.size w v110) := HB.out.trans (hb.mono HB.out.size)
              clear hb
              clear Qs3 Qs4 Bs3 Bs4
              clear Ts3 Ps3 Es3 Ns3
              clear Tu1 Pu1 Eu1 Nu1
              clear Ts4 Ps4 Es4 Ns4
              clear Tu2 Pu2 Eu2 Nu2
              go_wp2_with fail
              refine (ltimes4 n 5 2 AZ A3 nZ cZ m3 c3 LZ L3 _ TZ.out W3.out QZ.out.1 I3.out.arg hn6 (30 + 30) 30 (by omega) (by omega) (Nat.le_trans (Nat.mul_le_mul (show nZ ≤ 64 by omega) (show m3 ≤ 64 by omega)) (by omega)) QZ.out.2.1 I3.out.bd (by omega)).mono ?_
              rintro e v111 ⟨Av1, cv1, Lv1, rfl, lv1, t3, t4, t5, hb⟩
              replace W1 := Lib.hid (W1.out.bel hb)
              replace W2 := Lib.hid (W2.out.bel hb)
              replace W3 := Lib.hid (W3.out.bel hb)
              replace TX := Lib.hid (TX.out.bel hb)
              replace TY := Lib.hid (TY.out.bel hb)
              replace TZ := Lib.hid (TZ.out.bel hb)
              replace TD := Lib.hid (TD.out.bel hb)
              replace HB : Hid (Below w.heap.size w v111) := HB.out.trans (hb.mono HB.out.size)
              clear hb
              obtain ⟨nv1, hnv1⟩ : ∃ k, Lv1.length = k := ⟨_, rfl⟩
              rw [hnv1] at lv1 t3 ⊢
              have Tv1 := Lib.hid t3
              have Pv1 := Lib.hid t4
              have Ev1 := Lib.hid t5
              have Nv1 := Lib.hid hnv1
              clear t3 t4 t5 hnv1
              go_wp2_with fail
              refine (ltimes4 n 2 2 A2 A3 m2 c2 m3 c3 L2 L3 _ W2.out W3.out I2.out.arg I3.out.arg hn6 30 30 (by omega) (by omega) (Nat.le_trans (Nat.mul_le_mul (show m2 ≤ 64 by omega) (show m3 ≤ 64 by omega)) (by omega)) I2.out.bd I3.out.bd (by omega)).mono ?_
              rintro e v112 ⟨At2, ct2, Lt2, rfl, lt2, t3, t4, t5, hb⟩
              replace W1 := Lib.hid (W1.out.bel hb)
              replace W2 := Lib.hid (W2.out.bel hb)
              replace W3 := Lib.hid (W3.out.bel hb)
              replace TX := Lib.hid (TX.out.bel hb)
              replace TY := Lib.hid (TY.out.bel hb)
              replace TZ := Lib.hid (TZ.out.bel hb)
              replace TD := Lib.hid (TD.out.bel hb)
              replace Tv1 := Lib.hid (Tv1.out.bel hb)
              replace HB : Hid (Below w.heap.size w v112) := HB.out.trans (hb.mono HB.out.size)
              clear hb
              obtain ⟨nt2, hnt2⟩ : ∃ k, Lt2.length = k := ⟨_, rfl⟩
              rw [hnt2] at lt2 t3 ⊢
              have Tt2 := Lib.hid t3
              have Pt2 := Lib.hid t4
              have Et2 := Lib.hid t5
              have Nt2 := Lib.hid hnt2
              clear t3 t4 t5 hnt2
              have Qt2 := Lib.hid (prod_arg I2.out I3.out (by omega) Pt2.out Et2.out)
              have Bt2 : nt2 ≤ 64 := by rw [← Nt2.out]; exact Qt2.out.2.2
              go_wp2_with fail
              refine (ltimes4 n 2 5 A1 At2 m1 c1 nt2 ct2 L1 Lt2 _ W1.out Tt2.out I1.out.arg Qt2.out.1 hn6 30 (30 + 30) (by omega) (by omega) (Nat.le_trans (Nat.mul_le_mul (show m1 ≤ 64 by omega) (show nt2 ≤ 64 by omega)) (by omega)) I1.out.bd Qt2.out.2.1 (by omega)).mono ?_
              rintro e v113 ⟨Av2, cv2, Lv2, rfl, lv2, t3, t4, t5, hb⟩
              replace W1 := Lib.hid (W1.out.bel hb)
              replace W2 := Lib.hid (W2.out.bel hb)
              replace W3 := Lib.hid (W3.out.bel hb)
              replace TX := Lib.hid (TX.out.bel hb)
              replace TY := Lib.hid (TY.out.bel hb)
              replace TZ := Lib.hid (TZ.out.bel hb)
              replace TD := Lib.hid (TD.out.bel hb)
              replace Tv1 := Lib.hid (Tv1.out.bel hb)
              replace Tt2 := Lib.hid (Tt2.out.bel hb)
              replace HB : Hid (Below w.heap.size w v113) := HB.out.trans (hb.mono HB.out.size)
              clear hb
              obtain ⟨nv2, hnv2⟩ : ∃ k, Lv2.length = k := ⟨_, rfl⟩
              rw [hnv2] at lv2 t3 ⊢
              have Tv2 := Lib.hid t3
              have Pv2 := Lib.hid t4
              have Ev2 := Lib.hid t5
              have Nv2 := Lib.hid hnv2
              clear t3 t4 t5 hnv2
              go_wp2_with fail
              have he : Lv1 = Lv2 := Pv1.out.unique Pv2.out (ring_mul_assoc I1.out.arg.lenM I2.out.arg.lenM I3.out.arg.lenM PZ.out.mv.len Pt2.out.mv.len EZ.out Ev1.out Et2.out Ev2.out)
              have hlen : nv1 = nv2 := by rw [← Nv1.out, ← Nv2.out, he]
              have hb2 := Tv2.out
              rw [← he, ← hlen] at hb2
              have CS := Lib.hid (lsame_true Av1 Av2 nv1 cv1 cv2 Lv1 _ Tv1.out hb2 (by omega))
              rw [← hlen]
              clear he hlen hb2
              refine CS.out.mono ?_
              rintro e v114 ⟨rfl, hb⟩
              clear CS
              replace W1 := Lib.hid (W1.out.bel hb)
              replace W2 := Lib.hid (W2.out.bel hb)
              replace W3 := Lib.hid (W3.out.bel hb)
              replace TX := Lib.hid (TX.out.bel hb)
              replace TY := Lib.hid (TY.out.bel hb)
              replace TZ := Lib.hid (TZ.out.bel hb)
              replace TD := Lib.hid (TD.out.bel hb)
              replace Tv1 := Lib.hid (Tv1.out.bel hb)
              replace Tt2 := Lib.hid (Tt2.out.bel hb)
              replace Tv2 := Lib.hid (Tv2.out.bel hb)
              replace HB : Hid (Below w.heap.size w v114) := HB.out.trans (hb.mono HB.out.size)
              clear hb
              clear Qt2 Bt2
              clear Tv1 Pv1 Ev1 Nv1
              clear Tt2 Pt2 Et2 Nt2
              clear Tv2 Pv2 Ev2 Nv2
              go_wp2_with fail
              refine (lsum4 n 2 2 A2 A3 m2 c2 m3 c3 L2 L3 _ W2.out W3.out I2.out.arg I3.out.arg hn6 (by omega) (by omega) (by omega)).mono ?_
              rintro e v115 ⟨As5, cs5, Ls5, rfl, ls5, t3, t4, t5, hb⟩
              replace W1 := Lib.hid (W1.out.bel hb)
              replace W2 := Lib.hid (W2.out.bel hb)
              replace W3 := Lib.hid (W3.out.bel hb)
              replace TX := Lib.hid (TX.out.bel hb)
              replace TY := Lib.hid (TY.out.bel hb)
              replace TZ := Lib.hid (TZ.out.bel hb)
              replace TD := Lib.hid (TD.out.bel hb)
              replace HB : Hid (Below w.heap.size w v115) := HB.out.trans (hb.mono HB.out.size)
              clear hb
              obtain ⟨ns5, hns5⟩ : ∃ k, Ls5.length = k := ⟨_, rfl⟩
              rw [hns5] at ls5 t3 ⊢
              have Ts5 := Lib.hid t3
              have Ps5 := Lib.hid t4
              have Es5 := Lib.hid t5
              have Ns5 := Lib.hid hns5
              clear t3 t4 t5 hns5
              have Qs5 := Lib.hid (sum_arg I2.out I3.out (by omega) Ps5.out Es5.out)
              have Bs5 : ns5 ≤ 16 := by rw [← Ns5.out]; exact Qs5.out.2.2
              go_wp2_with fail
              refine (ltimes4 n 2 3 A1 As5 m1 c1 ns5 cs5 L1 Ls5 _ W1.out Ts5.out I1.out.arg Qs5.out.1 hn6 30 30 (by omega) (by omega) (Nat.le_trans (Nat.mul_le_mul (show m1 ≤ 64 by omega) (show ns5 ≤ 64 by omega)) (by omega)) I1.out.bd Qs5.out.2.1 (by omega)).mono ?_
              rintro e v116 ⟨Av3, cv3, Lv3, rfl, lv3, t3, t4, t5, hb⟩
              replace W1 := Lib.hid (W1.out.bel hb)
              replace W2 := Lib.hid (W2.out.bel hb)
              replace W3 := Lib.hid (W3.out.bel hb)
              replace TX := Lib.hid (TX.out.bel hb)
              replace TY := Lib.hid (TY.out.bel hb)
              replace TZ := Lib.hid (TZ.out.bel hb)
              replace TD := Lib.hid (TD.out.bel hb)
              replace Ts5 := Lib.hid (Ts5.out.bel hb)
              replace HB : Hid (Below w.heap.size w v116) := HB.out.trans (hb.mono HB.out.size)
              clear hb
              obtain ⟨nv3, hnv3⟩ : ∃ k, Lv3.length = k := ⟨_, rfl⟩
              rw [hnv3] at lv3 t3 ⊢
              have Tv3 := Lib.hid t3
              have Pv3 := Lib.hid t4
              have Ev3 := Lib.hid t5
              have Nv3 := Lib.hid hnv3
              clear t3 t4 t5 hnv3
              go_wp2_with fail
              refine (ltimes4 n 2 2 A1 A3 m1 c1 m3 c3 L1 L3 _ W1.out W3.out I1.out.arg I3.out.arg hn6 30 30 (by omega) (by omega) (Nat.le_trans (Nat.mul_le_mul (show m1 ≤ 64 by omega) (show m3 ≤ 64 by omega)) (by omega)) I1.out.bd I3.out.bd (by omega)).mono ?_
              rintro e v117 ⟨At3, ct3, Lt3, rfl, lt3, t3, t4, t5, hb⟩
              replace W1 := Lib.hid (W1.out.bel hb)
              replace W2 := Lib.hid (W2.out.bel hb)
              replace W3 := Lib.hid (W3.out.bel hb)
              replace TX := Lib.hid (TX.out.bel hb)
              replace TY := Lib.hid (TY.out.bel hb)
              replace TZ := Lib.hid (TZ.out.bel hb)
              replace TD := Lib.hid (TD.out.bel hb)
              replace Ts5 := Lib.hid (Ts5.out.bel hb)
              replace Tv3 := Lib.hid (Tv3.out.bel hb)
              replace HB : Hid (Below w.heap.size w v117) := HB.out.trans (hb.mono HB.out.size)
              clear hb
              obtain ⟨nt3, hnt3⟩ : ∃ k, Lt3.length = k := ⟨_, rfl⟩
              rw [hnt3] at lt3 t3 ⊢
              have Tt3 := Lib.hid t3
              have Pt3 := Lib.hid t4
              have Et3 := Lib.hid t5
              have Nt3 := Lib.hid hnt3
              clear t3 t4 t5 hnt3
              have Qt3 := Lib.hid (prod_arg I1.out I3.out (by omega) Pt3.out Et3.out)
              have Bt3 : nt3 ≤ 64 := by rw [← Nt3.out]; exact Qt3.out.2.2
              go_wp2_with fail
              refine (lsum4 n 5 5 AZ At3 nZ cZ nt3 ct3 LZ Lt3 _ TZ.out Tt3.out QZ.out.1 Qt3.out.1 hn6 (by omega) (by omega) (by omega)).mono ?_
              rintro e v118 ⟨Av4, cv4, Lv4, rfl, lv4, t3, t4, t5, hb⟩
              replace W1 := Lib.hid (W1.out.bel hb)
              replace W2 := Lib.hid (W2.out.bel hb)
              replace W3 := Lib.hid (W3.out.bel hb)
              replace TX := Lib.hid (TX.out.bel hb)
              replace TY := Lib.hid (TY.out.bel hb)
              replace TZ := Lib.hid (TZ.out.bel hb)
              replace TD := Lib.hid (TD.out.bel hb)
              replace Ts5 := Lib.hid (Ts5.out.bel hb)
              replace Tv3 := Lib.hid (Tv3.out.bel hb)
              replace Tt3 := Lib.hid (Tt3.out.bel hb)
              replace HB : Hid (Below w.heap.size w v118) := HB.out.trans (hb.mono HB.out.size)
              clear hb
              obtain ⟨nv4, hnv4⟩ : ∃ k, Lv4.length = k := ⟨_, rfl⟩
              rw [hnv4] at lv4 t3 ⊢
              have Tv4 := Lib.hid t3
              have Pv4 := Lib.hid t4
              have Ev4 := Lib.hid t5
              have Nv4 := Lib.hid hnv4
              clear t3 t4 t5 hnv4
              go_wp2_with fail
              have he : Lv3 = Lv4 := Pv3.out.unique Pv4.out (ring_dist I1.out.arg.lenM I2.out.arg.lenM I3.out.arg.lenM Ps5.out.mv.len Es5.out Ev3.out EZ.out Et3.out Ev4.out)
              have hlen : nv3 = nv4 := by rw [← Nv3.out, ← Nv4.out, he]
              have hb2 := Tv4.out
              rw [← he, ← hlen] at hb2
              have CS := Lib.hid (lsame_true Av3 Av4 nv3 cv3 cv4 Lv3 _ Tv3.out hb2 (by omega))
              rw [← hlen]
              clear he hlen hb2
              refine CS.out.mono ?_
              rintro e v119 ⟨rfl, hb⟩
              clear CS
              replace W1 := Lib.hid (W1.out.bel hb)
              replace W2 := Lib.hid (W2.out.bel hb)
              replace W3 := Lib.hid (W3.out.bel hb)
              replace TX := Lib.hid (TX.out.bel hb)
              replace TY := Lib.hid (TY.out.bel hb)
              replace TZ := Lib.hid (TZ.out.bel hb)
              replace TD := Lib.hid (TD.out.bel hb)
              replace Ts5 := Lib.hid (Ts5.out.bel hb)
              replace Tv3 := Lib.hid (Tv3.out.bel hb)
              replace Tt3 := Lib.hid (Tt3.out.bel hb)
              replace Tv4 := Lib.hid (Tv4.out.bel hb)
              replace HB : Hid (Below w.heap.size w v119) := HB.out.trans (hb.mono HB.out.size)
              clear hb
              clear Qs5 Qt3 Bs5 Bt3
              clear Ts5 Ps5 Es5 Ns5
              clear Tv3 Pv3 Ev3 Nv3
              clear Tt3 Pt3 Et3 Nt3
              clear Tv4 Pv4 Ev4 Nv4
              go_wp2_with fail
              have he : LD = LX := PD.out.unique PX.out ((ring_sub ES.out ED.out).trans EX.out.symm)
              have hlen : nD = nX := by rw [← ND.out, ← NX.out, he]
              have hb2 := TX.out
              rw [← he, ← hlen] at hb2
              have CS := Lib.hid (lsame_true AD AX nD cD cX LD _ TD.out hb2 (by omega))
              rw [← hlen]
              clear he hlen hb2
              refine CS.out.mono ?_
              rintro e v120 ⟨rfl, hb⟩
              clear CS
              replace W1 := Lib.hid (W1.out.bel hb)
              replace W2 := Lib.hid (W2.out.bel hb)
              replace W3 := Lib.hid (W3.out.bel hb)
              replace TX := Lib.hid (TX.out.bel hb)
              replace TY := Lib.hid (TY.out.bel hb)
              replace TZ := Lib.hid (TZ.out.bel hb)
              replace TD := Lib.hid (TD.out.bel hb)
              replace HB : Hid (Below w.heap.size w v120) := HB.out.trans (hb.mono HB.out.size)
              clear hb
              go_wp2_with fail
              go_ret
              exact ⟨rfl, HB.out⟩
            · have ey : ((nY : Int) == 0) = false := by simp; omega
              clear hzero
              obtain ⟨tx, LX', hXe⟩ : ∃ t l, LX = t :: l := by
                match LX, NX.out with
                | [], h => exact absurd h.symm hX0
                | t :: l, _ => exact ⟨t, l, rfl⟩
              obtain ⟨ty, LY', hYe⟩ : ∃ t l, LY = t :: l := by
                match LY, NY.out with
                | [], h => exact absurd h.symm hY0
                | t :: l, _ => exact ⟨t, l, rfl⟩
              have eZ2 : EqM n (mvT LZ) (mulM (mvT LX) (mvT LY)) := EZ.out.trans (EX.out.symm.mul EY.out.symm I1.out.arg.lenM PX.out.mv.len I2.out.arg.lenM PY.out.mv.len)
              have pX := PX.out
              have pY := PY.out
              have tX := TX.out
              have tY := TY.out
              have tZ := TZ.out
              have qX : Arg n 3 LX := arg_plain pX EX.out (I1.out.bd.mono (by omega)) (Nat.lt_of_le_of_lt I1.out.ab (by decide)) (by rw [mvT_length]; have := I1.out.cnt; omega)
              have qY : Arg n 3 LY := arg_plain pY EY.out (I2.out.bd.mono (by omega)) (Nat.lt_of_le_of_lt I2.out.ab (by decide)) (by rw [mvT_length]; have := I2.out.cnt; omega)
              rw [hXe] at eZ2 pX tX qX
              rw [hYe] at eZ2 pY tY qY
              obtain ⟨N', hN'⟩ := PlainM.mul_head (n := n) (s := valT tx) (t := valT ty) (L := mvT LX') (M := mvT LY') (N := mvT LZ) pX.mv pY.mv PZ.out.mv eZ2
              obtain ⟨tz, LZ', hZe⟩ : ∃ t l, LZ = t :: l := by
                match LZ, hN' with
                | [], h => exact absurd h (by simp [mvT])
                | t :: l, _ => exact ⟨t, l, rfl⟩
              have pZ := PZ.out
              rw [hZe] at hN' tZ pZ
              injection hN' with hN1 _
              have hz1 : tz.2 = addP tx.2 ty.2 := congrArg Prod.fst hN1
              have hz2 : intZ tz.1.1 tz.1.2 = intZ tx.1.1 tx.1.2 * intZ ty.1.1 ty.1.2 := congrArg Prod.snd hN1
              have lx := qX.len tx List.mem_cons_self
              have ly := qY.len ty List.mem_cons_self
              have lz : tz.2.length = n := by rw [hz1]; exact addP_length lx ly
              have bx := qX.bd tx List.mem_cons_self
              have by' := qY.bd ty List.mem_cons_self
              have kx := qX.co tx List.mem_cons_self
              have ky := qY.co ty List.mem_cons_self
              have zz := pZ.co tz List.mem_cons_self
              rw [hz2] at zz
              have ez : ((nZ : Int) == 0) = false := by
                have h1 := NZ.out
                rw [hZe, List.length_cons] at h1
                simp; omega
              obtain ⟨bX, oX, Cx, cx, Ex, ex', eAX, blX, x0, x1, x2, x3, x4, x5, x6, x7, x8⟩ := trs_head tX
              obtain ⟨bY, oY, Cy, cy, Ey, ey', eAY, blY, y0, y1, y2, y3, y4, y5, y6, y7, y8⟩ := trs_head tY
              obtain ⟨bZ, oZ, Cz, cz, Ez, ez', eAZ, blZ, z0, z1, z2, z3, z4, z5, z6, z7, z8⟩ := trs_head tZ
              subst eAX
              subst eAY
              subst eAZ
              have hX1 : 0 < nX := by omega
              have hY1 : 0 < nY := by omega
              have hZ1 : 0 < nZ := by
                have h1 := NZ.out
                rw [hZe, List.length_cons] at h1
                omega
              have HZ1 := Lib.hid hz1
              have Hzz := Lib.hid zz
              have Hlx := Lib.hid lx
              have Hly := Lib.hid ly
              have Hlz := Lib.hid lz
              have Hbx := Lib.hid bx
              have Hby := Lib.hid by'
              have X7 := Lib.hid x7
              have X8 := Lib.hid x8
              have Y7 := Lib.hid y7
              have Y8 := Lib.hid y8
              have Z7 := Lib.hid z7
              have Z8 := Lib.hid z8
              clear hXe hYe hZe hz1 hz2 zz lx ly lz bx by' pX pY pZ tX tY tZ qX qY eZ2 hN1 x7 x8 y7 y8 z7 z8 hX0 hY0
              obtain ⟨wo, rfl⟩ : ∃ wo : World, wo = v5 := ⟨_, rfl⟩
              have keepX : Hid (∀ W, Below wo.heap.size wo W → W.cell? ⟨bZ, oZ, none⟩ = some (.bool tz.1.1) ∧ W.cell? ⟨bZ, oZ + 1, none⟩ = some (.slice Cz tz.1.2.length cz) ∧ W.cell? ⟨bX, oX, none⟩ = some (.bool tx.1.1) ∧ W.cell? ⟨bX, oX + 1, none⟩ = some (.slice Cx tx.1.2.length cx) ∧ W.cell? ⟨bY, oY, none⟩ = some (.bool ty.1.1) ∧ W.cell? ⟨bY, oY + 1, none⟩ = some (.slice Cy ty.1.2.length cy)) := fun W hW =>
                ⟨(hW.cell (p := ⟨bZ, oZ, none⟩) blZ).trans z0, (hW.cell (p := ⟨bZ, oZ + 1, none⟩) blZ).trans z1, (hW.cell (p := ⟨bX, oX, none⟩) blX).trans x0, (hW.cell (p := ⟨bX, oX + 1, none⟩) blX).trans x1, (hW.cell (p := ⟨bY, oY, none⟩) blY).trans y0, (hW.cell (p := ⟨bY, oY + 1, none⟩) blY).trans y1⟩
              go_wp2_with fail
              go_region_held3 (fun W => W.cell? ⟨bZ, oZ, none⟩ = some (.bool tz.1.1) ∧ W.cell? ⟨bZ, oZ + 1, none⟩ = some (.slice Cz tz.1.2.length cz) ∧ W.cell? ⟨bX, oX, none⟩ = some (.bool tx.1.1) ∧ W.cell? ⟨bX, oX + 1, none⟩ = some (.slice Cx tx.1.2.length cx) ∧ W.cell? ⟨bY, oY, none⟩ = some (.bool ty.1.1) ∧ W.cell? ⟨bY, oY + 1, none⟩ = some (.slice Cy ty.1.2.length cy))
                (first | go_keep | exact keepX.out _ (Below.refl _ _).drew | exact keepX.out _ hbm | exact keepX.out _ hbs)
                (first
                  | (go_at_call 15; refine (zmul tx.1.1 ty.1.1 Cx Cy tx.1.2.length ty.1.2.length cx cy tx.1.2 ty.1.2 _ (X7.out.bel (by first | exact (Below.refl _ _).drew | exact Below.refl _ _)) (Y7.out.bel (by first | exact (Below.refl _ _).drew | exact Below.refl _ _)) x3 x4 y3 y4 (by omega) (by omega) (Or.inr (by omega))).mono ?_; rintro e wm ⟨sp, Ap, kp, cp, lp, rfl, p1, p2, p3, p4, p5, hbm'⟩; have hbm : Below wo.heap.size wo wm := (Below.refl _ _).drew.trans hbm')
                  | (go_at_call 14; refine (same02_any tz.1.1 sp Cz Ap tz.1.2.length kp cz cp tz.1.2 lp wm (Z7.out.bel hbm) p4 (by omega) (by omega) true ⟨fun _ => rfl, fun _ => Hzz.out.unique p5⟩).mono ?_; rintro e ws ⟨rfl, hbs'⟩; have hbs : Below wo.heap.size wo ws := hbm.trans (hbs'.mono hbm.size)))
              replace z2 := (hbs.cell (p := ⟨bZ, oZ + 2, none⟩) blZ).trans z2
              replace x2 := (hbs.cell (p := ⟨bX, oX + 2, none⟩) blX).trans x2
              replace y2 := (hbs.cell (p := ⟨bY, oY + 2, none⟩) blY).trans y2
              have hbq := hbs.size
              replace Z8 := Lib.hid (Z8.out.bel hbs)
              replace X8 := Lib.hid (X8.out.bel hbs)
              replace Y8 := Lib.hid (Y8.out.bel hbs)
              have Hbs := Lib.hid hbs
              have hnz : bZ < ws.heap.size := by omega
              have hnx : bX < ws.heap.size := by omega
              have hny : bY < ws.heap.size := by omega
              clear hbs hbs' hbm hbm' p4 p5 Hzz keepX z0 z1 x0 x1 y0 y1 X7 Y7 Z7
              go_wp2_with fail
              go_loopw [17] (fun v wr => ∃ k : Nat, k ≤ n ∧ v = .int .i64 k ∧ Hid (Below ws.heap.size ws wr)) (fun v _ => n - (intOf v).toNat)
              case atStart => exact ⟨0, by omega, rfl, Below.refl _ _⟩
              case round =>
                obtain ⟨k, hk, rfl, hbr⟩ := hrel
                by_cases hkn : k < n
                · obtain ⟨gz, pz, rfl, lgz, hcz⟩ := Z8.out.at_ (by rw [Hlz.out]; omega)
                  obtain ⟨gx, px, rfl, lgx, hcx⟩ := X8.out.at_ (by rw [Hlx.out]; omega)
                  obtain ⟨gy, py, rfl, lgy, hcy⟩ := Y8.out.at_ (by rw [Hly.out]; omega)
                  have cz' := (hbr.out.cell (p := ⟨gz, pz + k, none⟩) lgz).trans (hcz k (by rw [Hlz.out]; exact hkn))
                  have cx' := (hbr.out.cell (p := ⟨gx, px + k, none⟩) lgx).trans (hcx k (by rw [Hlx.out]; exact hkn))
                  have cy' := (hbr.out.cell (p := ⟨gy, py + k, none⟩) lgy).trans (hcy k (by rw [Hly.out]; exact hkn))
                  have ez2 := (hbr.out.cell (p := ⟨bZ, oZ + 2, none⟩) hnz).trans z2
                  have ex2 := (hbr.out.cell (p := ⟨bX, oX + 2, none⟩) hnx).trans x2
                  have ey2 := (hbr.out.cell (p := ⟨bY, oY + 2, none⟩) hny).trans y2
                  rw [Hlz.out] at ez2
                  rw [Hlx.out] at ex2
                  rw [Hly.out] at ey2
                  have hsum : nth tz.2 k = nth tx.2 k + nth ty.2 k := by rw [HZ1.out]; exact nth_addN Hlx.out Hly.out hkn
                  rw [hsum] at cz'
                  have bbx := Hbx.out _ (nth_mem (xs := tx.2) (i := k) (by rw [Hlx.out]; exact hkn))
                  have bby := Hby.out _ (nth_mem (xs := ty.2) (i := k) (by rw [Hly.out]; exact hkn))
                  obtain ⟨q1, q2⟩ := bbx
                  obtain ⟨q3, q4⟩ := bby
                  have hk' : (k : Int) < (n : Int) := by omega
                  have hk0 : (0 : Int) ≤ (k : Int) := by omega
                  clear hcz hcx hcy hsum z2 x2 y2
                  generalize nth tx.2 k = ux at *
                  generalize nth ty.2 k = uy at *
                  have ew : IntKind.i64.wrap (ux + uy) = ux + uy := IntWalk.i64_in _ (by omega)
                  clear q1 q2 q3 q4
                  go_wp2_with fail
                  go_quiet (fail)
                  have hbr2 : Hid (Below ws.heap.size ws (wr.drewN nq)) := below_drewN hbr.out nq
                  go_wp2_with fail
                  go_roundw
                  case rel => exact ⟨k + 1, by omega, by go_num, hbr2⟩
                  case measure => simp [intOf]; omega
                · obtain rfl : n = k := by omega
                  have hk' : ¬ (n : Int) < (n : Int) := by omega
                  have hbw : Below wo.heap.size wo wr := Hbs.out.trans (hbr.out.mono Hbs.out.size)
                  replace W1 := Lib.hid (W1.out.bel hbw)
                  replace W2 := Lib.hid (W2.out.bel hbw)
                  replace W3 := Lib.hid (W3.out.bel hbw)
                  replace TX := Lib.hid (TX.out.bel hbw)
                  replace TY := Lib.hid (TY.out.bel hbw)
                  replace TZ := Lib.hid (TZ.out.bel hbw)
                  replace TD := Lib.hid (TD.out.bel hbw)
                  replace HB : Hid (Below w.heap.size w wr) := HB.out.trans (hbw.mono HB.out.size)
                  clear hbw hbr Hbs z2 x2 y2 Z8 X8 Y8 HZ1 Hlx Hly Hlz Hbx Hby
                  try clear x3
                  try clear x4
                  try clear x5
                  try clear x6
                  try clear y3
                  try clear y4
                  try clear y5
                  try clear y6
                  try clear z3
                  try clear z4
                  try clear z5
                  try clear z6
                  try clear kx
                  try clear ky
                  try clear hN'
                  try clear hnz
                  try clear hnx
                  try clear hny
                  try clear hbq
                  try clear blX
                  try clear blY
                  try clear blZ
                  try clear hX1
                  try clear hY1
                  try clear hZ1
                  try clear ez
                  try clear ex
                  try clear ey
                  try clear hk'
                  try clear hkn
                  try clear hk
                  try clear ez2
                  try clear hm1'
                  go_wp2_with fail
                  refine (lsum4 n 2 2 A1 A2 m1 c1 m2 c2 L1 L2 _ W1.out W2.out I1.out.arg I2.out.arg hn6 (by omega) (by omega) (by omega)).mono ?_
                  rintro e v201 ⟨As1, cs1, Ls1, rfl, ls1, t3, t4, t5, hb⟩
                  replace W1 := Lib.hid (W1.out.bel hb)
                  replace W2 := Lib.hid (W2.out.bel hb)
                  replace W3 := Lib.hid (W3.out.bel hb)
                  replace TX := Lib.hid (TX.out.bel hb)
                  replace TY := Lib.hid (TY.out.bel hb)
                  replace TZ := Lib.hid (TZ.out.bel hb)
                  replace TD := Lib.hid (TD.out.bel hb)
                  replace HB : Hid (Below w.heap.size w v201) := HB.out.trans (hb.mono HB.out.size)
                  clear hb
                  obtain ⟨ns1, hns1⟩ : ∃ k, Ls1.length = k := ⟨_, rfl⟩
                  rw [hns1] at ls1 t3 ⊢
                  have Ts1 := Lib.hid t3
                  have Ps1 := Lib.hid t4
                  have Es1 := Lib.hid t5
                  have Ns1 := Lib.hid hns1
                  clear t3 t4 t5 hns1
                  go_wp2_with fail
                  refine (lsum4 n 2 2 A2 A1 m2 c2 m1 c1 L2 L1 _ W2.out W1.out I2.out.arg I1.out.arg hn6 (by omega) (by omega) (by omega)).mono ?_
                  rintro e v202 ⟨As2, cs2, Ls2, rfl, ls2, t3, t4, t5, hb⟩
                  replace W1 := Lib.hid (W1.out.bel hb)
                  replace W2 := Lib.hid (W2.out.bel hb)
                  replace W3 := Lib.hid (W3.out.bel hb)
                  replace TX := Lib.hid (TX.out.bel hb)
                  replace TY := Lib.hid (TY.out.bel hb)
                  replace TZ := Lib.hid (TZ.out.bel hb)
                  replace TD := Lib.hid (TD.out.bel hb)
                  replace Ts1 := Lib.hid (Ts1.out.bel hb)
                  replace HB : Hid (Below w.heap.size w v202) := HB.out.trans (hb.mono HB.out.size)
                  clear hb
                  obtain ⟨ns2, hns2⟩ : ∃ k, Ls2.length = k := ⟨_, rfl⟩
                  rw [hns2] at ls2 t3 ⊢
                  have Ts2 := Lib.hid t3
                  have Ps2 := Lib.hid t4
                  have Es2 := Lib.hid t5
                  have Ns2 := Lib.hid hns2
                  clear t3 t4 t5 hns2
                  go_wp2_with fail
                  have he : Ls1 = Ls2 := Ps1.out.unique Ps2.out (Es1.out.trans ((ring_add_comm n (mvT L1) (mvT L2)).trans Es2.out.symm))
                  have hlen : ns1 = ns2 := by rw [← Ns1.out, ← Ns2.out, he]
                  have hb2 := Ts2.out
                  rw [← he, ← hlen] at hb2
                  have CS := Lib.hid (lsame_true As1 As2 ns1 cs1 cs2 Ls1 _ Ts1.out hb2 (by omega))
                  rw [← hlen]
                  clear he hlen hb2
                  refine CS.out.mono ?_
                  rintro e v203 ⟨rfl, hb⟩
                  clear CS
                  replace W1 := Lib.hid (W1.out.bel hb)
                  replace W2 := Lib.hid (W2.out.bel hb)
                  replace W3 := Lib.hid (W3.out.bel hb)
                  replace TX := Lib.hid (TX.out.bel hb)
                  replace TY := Lib.hid (TY.out.bel hb)
                  replace TZ := Lib.hid (TZ.out.bel hb)
                  replace TD := Lib.hid (TD.out.bel hb)
                  replace Ts1 := Lib.hid (Ts1.out.bel hb)
                  replace Ts2 := Lib.hid (Ts2.out.bel hb)
                  replace HB : Hid (Below w.heap.size w v203) := HB.out.trans (hb.mono HB.out.size)
                  clear hb
                  clear Ts1 Ps1 Es1 Ns1
                  clear Ts2 Ps2 Es2 Ns2
                  go_wp2_with fail
                  refine (ltimes4 n 2 2 A2 A1 m2 c2 m1 c1 L2 L1 _ W2.out W1.out I2.out.arg I1.out.arg hn6 30 30 (by omega) (by omega) (Nat.le_trans (Nat.mul_le_mul (show m2 ≤ 64 by omega) (show m1 ≤ 64 by omega)) (by omega)) I2.out.bd I1.out.bd (by omega)).mono ?_
                  rintro e v204 ⟨At1, ct1, Lt1, rfl, lt1, t3, t4, t5, hb⟩
                  replace W1 := Lib.hid (W1.out.bel hb)
                  replace W2 := Lib.hid (W2.out.bel hb)
                  replace W3 := Lib.hid (W3.out.bel hb)
                  replace TX := Lib.hid (TX.out.bel hb)
                  replace TY := Lib.hid (TY.out.bel hb)
                  replace TZ := Lib.hid (TZ.out.bel hb)
                  replace TD := Lib.hid (TD.out.bel hb)
                  replace HB : Hid (Below w.heap.size w v204) := HB.out.trans (hb.mono HB.out.size)
                  clear hb
                  obtain ⟨nt1, hnt1⟩ : ∃ k, Lt1.length = k := ⟨_, rfl⟩
                  rw [hnt1] at lt1 t3 ⊢
                  have Tt1 := Lib.hid t3
                  have Pt1 := Lib.hid t4
                  have Et1 := Lib.hid t5
                  have Nt1 := Lib.hid hnt1
                  clear t3 t4 t5 hnt1
                  go_wp2_with fail
                  have he : LZ = Lt1 := PZ.out.unique Pt1.out (EZ.out.trans ((ring_mul_comm n (mvT L1) (mvT L2)).trans Et1.out.symm))
                  have hlen : nZ = nt1 := by rw [← NZ.out, ← Nt1.out, he]
                  have hb2 := Tt1.out
                  rw [← he, ← hlen] at hb2
                  have CS := Lib.hid (lsame_true (some ⟨bZ, oZ, none⟩) At1 nZ cZ ct1 LZ _ TZ.out hb2 (by omega))
                  rw [← hlen]
                  clear he hlen hb2
                  refine CS.out.mono ?_
                  rintro e v205 ⟨rfl, hb⟩
                  clear CS
                  replace W1 := Lib.hid (W1.out.bel hb)
                  replace W2 := Lib.hid (W2.out.bel hb)
                  replace W3 := Lib.hid (W3.out.bel hb)
                  replace TX := Lib.hid (TX.out.bel hb)
                  replace TY := Lib.hid (TY.out.bel hb)
                  replace TZ := Lib.hid (TZ.out.bel hb)
                  replace TD := Lib.hid (TD.out.bel hb)
                  replace Tt1 := Lib.hid (Tt1.out.bel hb)
                  replace HB : Hid (Below w.heap.size w v205) := HB.out.trans (hb.mono HB.out.size)
                  clear hb
                  clear Tt1 Pt1 Et1 Nt1
                  go_wp2_with fail
                  refine (lsum4 n 2 2 A1 A2 m1 c1 m2 c2 L1 L2 _ W1.out W2.out I1.out.arg I2.out.arg hn6 (by omega) (by omega) (by omega)).mono ?_
                  rintro e v206 ⟨As3, cs3, Ls3, rfl, ls3, t3, t4, t5, hb⟩
                  replace W1 := Lib.hid (W1.out.bel hb)
                  replace W2 := Lib.hid (W2.out.bel hb)
                  replace W3 := Lib.hid (W3.out.bel hb)
                  replace TX := Lib.hid (TX.out.bel hb)
                  replace TY := Lib.hid (TY.out.bel hb)
                  replace TZ := Lib.hid (TZ.out.bel hb)
                  replace TD := Lib.hid (TD.out.bel hb)
                  replace HB : Hid (Below w.heap.size w v206) := HB.out.trans (hb.mono HB.out.size)
                  clear hb
                  obtain ⟨ns3, hns3⟩ : ∃ k, Ls3.length = k := ⟨_, rfl⟩
                  rw [hns3] at ls3 t3 ⊢
                  have Ts3 := Lib.hid t3
                  have Ps3 := Lib.hid t4
                  have Es3 := Lib.hid t5
                  have Ns3 := Lib.hid hns3
                  clear t3 t4 t5 hns3
                  have Qs3 := Lib.hid (sum_arg I1.out I2.out (by omega) Ps3.out Es3.out)
                  have Bs3 : ns3 ≤ 16 := by rw [← Ns3.out]; exact Qs3.out.2.2
                  go_wp2_with fail
                  refine (lsum4 n 3 2 As3 A3 ns3 cs3 m3 c3 Ls3 L3 _ Ts3.out W3.out Qs3.out.1 I3.out.arg hn6 (by omega) (by omega) (by omega)).mono ?_
                  rintro e v207 ⟨Au1, cu1, Lu1, rfl, lu1, t3, t4, t5, hb⟩
                  replace W1 := Lib.hid (W1.out.bel hb)
                  replace W2 := Lib.hid (W2.out.bel hb)
                  replace W3 := Lib.hid (W3.out.bel hb)
                  replace TX := Lib.hid (TX.out.bel hb)
                  replace TY := Lib.hid (TY.out.bel hb)
                  replace TZ := Lib.hid (TZ.out.bel hb)
                  replace TD := Lib.hid (TD.out.bel hb)
                  replace Ts3 := Lib.hid (Ts3.out.bel hb)
                  replace HB : Hid (Below w.heap.size w v207) := HB.out.trans (hb.mono HB.out.size)
                  clear hb
                  obtain ⟨nu1, hnu1⟩ : ∃ k, Lu1.length = k := ⟨_, rfl⟩
                  rw [hnu1] at lu1 t3 ⊢
                  have Tu1 := Lib.hid t3
                  have Pu1 := Lib.hid t4
                  have Eu1 := Lib.hid t5
                  have Nu1 := Lib.hid hnu1
                  clear t3 t4 t5 hnu1
                  go_wp2_with fail
                  refine (lsum4 n 2 2 A2 A3 m2 c2 m3 c3 L2 L3 _ W2.out W3.out I2.out.arg I3.out.arg hn6 (by omega) (by omega) (by omega)).mono ?_
                  rintro e v208 ⟨As4, cs4, Ls4, rfl, ls4, t3, t4, t5, hb⟩
                  replace W1 := Lib.hid (W1.out.bel hb)
                  replace W2 := Lib.hid (W2.out.bel hb)
                  replace W3 := Lib.hid (W3.out.bel hb)
                  replace TX := Lib.hid (TX.out.bel hb)
                  replace TY := Lib.hid (TY.out.bel hb)
                  replace TZ := Lib.hid (TZ.out.bel hb)
                  replace TD := Lib.hid (TD.out.bel hb)
                  replace Ts3 := Lib.hid (Ts3.out.bel hb)
                  replace Tu1 := Lib.hid (Tu1.out.bel hb)
                  replace HB : Hid (Below w.heap.size w v208) := HB.out.trans (hb.mono HB.out.size)
                  clear hb
                  obtain ⟨ns4, hns4⟩ : ∃ k, Ls4.length = k := ⟨_, rfl⟩
                  rw [hns4] at ls4 t3 ⊢
                  have Ts4 := Lib.hid t3
                  have Ps4 := Lib.hid t4
                  have Es4 := Lib.hid t5
                  have Ns4 := Lib.hid hns4
                  clear t3 t4 t5 hns4
                  have Qs4 := Lib.hid (sum_arg I2.out I3.out (by omega) Ps4.out Es4.out)
                  have Bs4 : ns4 ≤ 16 := by rw [← Ns4.out]; exact Qs4.out.2.2
                  go_wp2_with fail
                  refine (lsum4 n 2 3 A1 As4 m1 c1 ns4 cs4 L1 Ls4 _ W1.out Ts4.out I1.out.arg Qs4.out.1 hn6 (by omega) (by omega) (by omega)).mono ?_
                  rintro e v209 ⟨Au2, cu2, Lu2, rfl, lu2, t3, t4, t5, hb⟩
                  replace W1 := Lib.hid (W1.out.bel hb)
                  replace W2 := Lib.hid (W2.out.bel hb)
                  replace W3 := Lib.hid (W3.out.bel hb)
                  replace TX := Lib.hid (TX.out.bel hb)
                  replace TY := Lib.hid (TY.out.bel hb)
                  replace TZ := Lib.hid (TZ.out.bel hb)
                  replace TD := Lib.hid (TD.out.bel hb)
                  replace Ts3 := Lib.hid (Ts3.out.bel hb)
                  replace Tu1 := Lib.hid (Tu1.out.bel hb)
                  replace Ts4 := Lib.hid (Ts4.out.bel hb)
                  replace HB : Hid (Below w.heap.size w v209) := HB.out.trans (hb.mono HB.out.size)
                  clear hb
                  obtain ⟨nu2, hnu2⟩ : ∃ k, Lu2.length = k := ⟨_, rfl⟩
                  rw [hnu2] at lu2 t3 ⊢
                  have Tu2 := Lib.hid t3
                  have Pu2 := Lib.hid t4
                  have Eu2 := Lib.hid t5
                  have Nu2 := Lib.hid hnu2
                  clear t3 t4 t5 hnu2
                  go_wp2_with fail
                  have he : Lu1 = Lu2 := Pu1.out.unique Pu2.out (ring_add_assoc Es3.out Eu1.out Es4.out Eu2.out)
                  have hlen : nu1 = nu2 := by rw [← Nu1.out, ← Nu2.out, he]
                  have hb2 := Tu2.out
                  rw [← he, ← hlen] at hb2
                  have CS := Lib.hid (lsame_true Au1 Au2 nu1 cu1 cu2 Lu1 _ Tu1.out hb2 (by omega))
                  rw [← hlen]
                  clear he hlen hb2
                  refine CS.out.mono ?_
                  rintro e v210 ⟨rfl, hb⟩
                  clear CS
                  replace W1 := Lib.hid (W1.out.bel hb)
                  replace W2 := Lib.hid (W2.out.bel hb)
                  replace W3 := Lib.hid (W3.out.bel hb)
                  replace TX := Lib.hid (TX.out.bel hb)
                  replace TY := Lib.hid (TY.out.bel hb)
                  replace TZ := Lib.hid (TZ.out.bel hb)
                  replace TD := Lib.hid (TD.out.bel hb)
                  replace Ts3 := Lib.hid (Ts3.out.bel hb)
                  replace Tu1 := Lib.hid (Tu1.out.bel hb)
                  replace Ts4 := Lib.hid (Ts4.out.bel hb)
                  replace Tu2 := Lib.hid (Tu2.out.bel hb)
                  replace HB : Hid (Below w.heap.size w v210) := HB.out.trans (hb.mono HB.out.size)
                  clear hb
                  clear Qs3 Qs4 Bs3 Bs4
                  clear Ts3 Ps3 Es3 Ns3
                  clear Tu1 Pu1 Eu1 Nu1
                  clear Ts4 Ps4 Es4 Ns4
                  clear Tu2 Pu2 Eu2 Nu2
                  go_wp2_with fail
                  refine (ltimes4 n 5 2 (some ⟨bZ, oZ, none⟩) A3 nZ cZ m3 c3 LZ L3 _ TZ.out W3.out QZ.out.1 I3.out.arg hn6 (30 + 30) 30 (by omega) (by omega) (Nat.le_trans (Nat.mul_le_mul (show nZ ≤ 64 by omega) (show m3 ≤ 64 by omega)) (by omega)) QZ.out.2.1 I3.out.bd (by omega)).mono ?_
                  rintro e v211 ⟨Av1, cv1, Lv1, rfl, lv1, t3, t4, t5, hb⟩
                  replace W1 := Lib.hid (W1.out.bel hb)
                  replace W2 := Lib.hid (W2.out.bel hb)
                  replace W3 := Lib.hid (W3.out.bel hb)
                  replace TX := Lib.hid (TX.out.bel hb)
                  replace TY := Lib.hid (TY.out.bel hb)
                  replace TZ := Lib.hid (TZ.out.bel hb)
                  replace TD := Lib.hid (TD.out.bel hb)
                  replace HB : Hid (Below w.heap.size w v211) := HB.out.trans (hb.mono HB.out.size)
                  clear hb
                  obtain ⟨nv1, hnv1⟩ : ∃ k, Lv1.length = k := ⟨_, rfl⟩
                  rw [hnv1] at lv1 t3 ⊢
                  have Tv1 := Lib.hid t3
                  have Pv1 := Lib.hid t4
                  have Ev1 := Lib.hid t5
                  have Nv1 := Lib.hid hnv1
                  clear t3 t4 t5 hnv1
                  go_wp2_with fail
                  refine (ltimes4 n 2 2 A2 A3 m2 c2 m3 c3 L2 L3 _ W2.out W3.out I2.out.arg I3.out.arg hn6 30 30 (by omega) (by omega) (Nat.le_trans (Nat.mul_le_mul (show m2 ≤ 64 by omega) (show m3 ≤ 64 by omega)) (by omega)) I2.out.bd I3.out.bd (by omega)).mono ?_
                  rintro e v212 ⟨At2, ct2, Lt2, rfl, lt2, t3, t4, t5, hb⟩
                  replace W1 := Lib.hid (W1.out.bel hb)
                  replace W2 := Lib.hid (W2.out.bel hb)
                  replace W3 := Lib.hid (W3.out.bel hb)
                  replace TX := Lib.hid (TX.out.bel hb)
                  replace TY := Lib.hid (TY.out.bel hb)
                  replace TZ := Lib.hid (TZ.out.bel hb)
                  replace TD := Lib.hid (TD.out.bel hb)
                  replace Tv1 := Lib.hid (Tv1.out.bel hb)
                  replace HB : Hid (Below w.heap.size w v212) := HB.out.trans (hb.mono HB.out.size)
                  clear hb
                  obtain ⟨nt2, hnt2⟩ : ∃ k, Lt2.length = k := ⟨_, rfl⟩
                  rw [hnt2] at lt2 t3 ⊢
                  have Tt2 := Lib.hid t3
                  have Pt2 := Lib.hid t4
                  have Et2 := Lib.hid t5
                  have Nt2 := Lib.hid hnt2
                  clear t3 t4 t5 hnt2
                  have Qt2 := Lib.hid (prod_arg I2.out I3.out (by omega) Pt2.out Et2.out)
                  have Bt2 : nt2 ≤ 64 := by rw [← Nt2.out]; exact Qt2.out.2.2
                  go_wp2_with fail
                  refine (ltimes4 n 2 5 A1 At2 m1 c1 nt2 ct2 L1 Lt2 _ W1.out Tt2.out I1.out.arg Qt2.out.1 hn6 30 (30 + 30) (by omega) (by omega) (Nat.le_trans (Nat.mul_le_mul (show m1 ≤ 64 by omega) (show nt2 ≤ 64 by omega)) (by omega)) I1.out.bd Qt2.out.2.1 (by omega)).mono ?_
                  rintro e v213 ⟨Av2, cv2, Lv2, rfl, lv2, t3, t4, t5, hb⟩
                  replace W1 := Lib.hid (W1.out.bel hb)
                  replace W2 := Lib.hid (W2.out.bel hb)
                  replace W3 := Lib.hid (W3.out.bel hb)
                  replace TX := Lib.hid (TX.out.bel hb)
                  replace TY := Lib.hid (TY.out.bel hb)
                  replace TZ := Lib.hid (TZ.out.bel hb)
                  replace TD := Lib.hid (TD.out.bel hb)
                  replace Tv1 := Lib.hid (Tv1.out.bel hb)
                  replace Tt2 := Lib.hid (Tt2.out.bel hb)
                  replace HB : Hid (Below w.heap.size w v213) := HB.out.trans (hb.mono HB.out.size)
                  clear hb
                  obtain ⟨nv2, hnv2⟩ : ∃ k, Lv2.length = k := ⟨_, rfl⟩
                  rw [hnv2] at lv2 t3 ⊢
                  have Tv2 := Lib.hid t3
                  have Pv2 := Lib.hid t4
                  have Ev2 := Lib.hid t5
                  have Nv2 := Lib.hid hnv2
                  clear t3 t4 t5 hnv2
                  go_wp2_with fail
                  have he : Lv1 = Lv2 := Pv1.out.unique Pv2.out (ring_mul_assoc I1.out.arg.lenM I2.out.arg.lenM I3.out.arg.lenM PZ.out.mv.len Pt2.out.mv.len EZ.out Ev1.out Et2.out Ev2.out)
                  have hlen : nv1 = nv2 := by rw [← Nv1.out, ← Nv2.out, he]
                  have hb2 := Tv2.out
                  rw [← he, ← hlen] at hb2
                  have CS := Lib.hid (lsame_true Av1 Av2 nv1 cv1 cv2 Lv1 _ Tv1.out hb2 (by omega))
                  rw [← hlen]
                  clear he hlen hb2
                  refine CS.out.mono ?_
                  rintro e v214 ⟨rfl, hb⟩
                  clear CS
                  replace W1 := Lib.hid (W1.out.bel hb)
                  replace W2 := Lib.hid (W2.out.bel hb)
                  replace W3 := Lib.hid (W3.out.bel hb)
                  replace TX := Lib.hid (TX.out.bel hb)
                  replace TY := Lib.hid (TY.out.bel hb)
                  replace TZ := Lib.hid (TZ.out.bel hb)
                  replace TD := Lib.hid (TD.out.bel hb)
                  replace Tv1 := Lib.hid (Tv1.out.bel hb)
                  replace Tt2 := Lib.hid (Tt2.out.bel hb)
                  replace Tv2 := Lib.hid (Tv2.out.bel hb)
                  replace HB : Hid (Below w.heap.size w v214) := HB.out.trans (hb.mono HB.out.size)
                  clear hb
                  clear Qt2 Bt2
                  clear Tv1 Pv1 Ev1 Nv1
                  clear Tt2 Pt2 Et2 Nt2
                  clear Tv2 Pv2 Ev2 Nv2
                  go_wp2_with fail
                  refine (lsum4 n 2 2 A2 A3 m2 c2 m3 c3 L2 L3 _ W2.out W3.out I2.out.arg I3.out.arg hn6 (by omega) (by omega) (by omega)).mono ?_
                  rintro e v215 ⟨As5, cs5, Ls5, rfl, ls5, t3, t4, t5, hb⟩
                  replace W1 := Lib.hid (W1.out.bel hb)
                  replace W2 := Lib.hid (W2.out.bel hb)
                  replace W3 := Lib.hid (W3.out.bel hb)
                  replace TX := Lib.hid (TX.out.bel hb)
                  replace TY := Lib.hid (TY.out.bel hb)
                  replace TZ := Lib.hid (TZ.out.bel hb)
                  replace TD := Lib.hid (TD.out.bel hb)
                  replace HB : Hid (Below w.heap.size w v215) := HB.out.trans (hb.mono HB.out.size)
                  clear hb
                  obtain ⟨ns5, hns5⟩ : ∃ k, Ls5.length = k := ⟨_, rfl⟩
                  rw [hns5] at ls5 t3 ⊢
                  have Ts5 := Lib.hid t3
                  have Ps5 := Lib.hid t4
                  have Es5 := Lib.hid t5
                  have Ns5 := Lib.hid hns5
                  clear t3 t4 t5 hns5
                  have Qs5 := Lib.hid (sum_arg I2.out I3.out (by omega) Ps5.out Es5.out)
                  have Bs5 : ns5 ≤ 16 := by rw [← Ns5.out]; exact Qs5.out.2.2
                  go_wp2_with fail
                  refine (ltimes4 n 2 3 A1 As5 m1 c1 ns5 cs5 L1 Ls5 _ W1.out Ts5.out I1.out.arg Qs5.out.1 hn6 30 30 (by omega) (by omega) (Nat.le_trans (Nat.mul_le_mul (show m1 ≤ 64 by omega) (show ns5 ≤ 64 by omega)) (by omega)) I1.out.bd Qs5.out.2.1 (by omega)).mono ?_
                  rintro e v216 ⟨Av3, cv3, Lv3, rfl, lv3, t3, t4, t5, hb⟩
                  replace W1 := Lib.hid (W1.out.bel hb)
                  replace W2 := Lib.hid (W2.out.bel hb)
                  replace W3 := Lib.hid (W3.out.bel hb)
                  replace TX := Lib.hid (TX.out.bel hb)
                  replace TY := Lib.hid (TY.out.bel hb)
                  replace TZ := Lib.hid (TZ.out.bel hb)
                  replace TD := Lib.hid (TD.out.bel hb)
                  replace Ts5 := Lib.hid (Ts5.out.bel hb)
                  replace HB : Hid (Below w.heap.size w v216) := HB.out.trans (hb.mono HB.out.size)
                  clear hb
                  obtain ⟨nv3, hnv3⟩ : ∃ k, Lv3.length = k := ⟨_, rfl⟩
                  rw [hnv3] at lv3 t3 ⊢
                  have Tv3 := Lib.hid t3
                  have Pv3 := Lib.hid t4
                  have Ev3 := Lib.hid t5
                  have Nv3 := Lib.hid hnv3
                  clear t3 t4 t5 hnv3
                  go_wp2_with fail
                  refine (ltimes4 n 2 2 A1 A3 m1 c1 m3 c3 L1 L3 _ W1.out W3.out I1.out.arg I3.out.arg hn6 30 30 (by omega) (by omega) (Nat.le_trans (Nat.mul_le_mul (show m1 ≤ 64 by omega) (show m3 ≤ 64 by omega)) (by omega)) I1.out.bd I3.out.bd (by omega)).mono ?_
                  rintro e v217 ⟨At3, ct3, Lt3, rfl, lt3, t3, t4, t5, hb⟩
                  replace W1 := Lib.hid (W1.out.bel hb)
                  replace W2 := Lib.hid (W2.out.bel hb)
                  replace W3 := Lib.hid (W3.out.bel hb)
                  replace TX := Lib.hid (TX.out.bel hb)
                  replace TY := Lib.hid (TY.out.bel hb)
                  replace TZ := Lib.hid (TZ.out.bel hb)
                  replace TD := Lib.hid (TD.out.bel hb)
                  replace Ts5 := Lib.hid (Ts5.out.bel hb)
                  replace Tv3 := Lib.hid (Tv3.out.bel hb)
                  replace HB : Hid (Below w.heap.size w v217) := HB.out.trans (hb.mono HB.out.size)
                  clear hb
                  obtain ⟨nt3, hnt3⟩ : ∃ k, Lt3.length = k := ⟨_, rfl⟩
                  rw [hnt3] at lt3 t3 ⊢
                  have Tt3 := Lib.hid t3
                  have Pt3 := Lib.hid t4
                  have Et3 := Lib.hid t5
                  have Nt3 := Lib.hid hnt3
                  clear t3 t4 t5 hnt3
                  have Qt3 := Lib.hid (prod_arg I1.out I3.out (by omega) Pt3.out Et3.out)
                  have Bt3 : nt3 ≤ 64 := by rw [← Nt3.out]; exact Qt3.out.2.2
                  go_wp2_with fail
                  refine (lsum4 n 5 5 (some ⟨bZ, oZ, none⟩) At3 nZ cZ nt3 ct3 LZ Lt3 _ TZ.out Tt3.out QZ.out.1 Qt3.out.1 hn6 (by omega) (by omega) (by omega)).mono ?_
                  rintro e v218 ⟨Av4, cv4, Lv4, rfl, lv4, t3, t4, t5, hb⟩
                  replace W1 := Lib.hid (W1.out.bel hb)
                  replace W2 := Lib.hid (W2.out.bel hb)
                  replace W3 := Lib.hid (W3.out.bel hb)
                  replace TX := Lib.hid (TX.out.bel hb)
                  replace TY := Lib.hid (TY.out.bel hb)
                  replace TZ := Lib.hid (TZ.out.bel hb)
                  replace TD := Lib.hid (TD.out.bel hb)
                  replace Ts5 := Lib.hid (Ts5.out.bel hb)
                  replace Tv3 := Lib.hid (Tv3.out.bel hb)
                  replace Tt3 := Lib.hid (Tt3.out.bel hb)
                  replace HB : Hid (Below w.heap.size w v218) := HB.out.trans (hb.mono HB.out.size)
                  clear hb
                  obtain ⟨nv4, hnv4⟩ : ∃ k, Lv4.length = k := ⟨_, rfl⟩
                  rw [hnv4] at lv4 t3 ⊢
                  have Tv4 := Lib.hid t3
                  have Pv4 := Lib.hid t4
                  have Ev4 := Lib.hid t5
                  have Nv4 := Lib.hid hnv4
                  clear t3 t4 t5 hnv4
                  go_wp2_with fail
                  have he : Lv3 = Lv4 := Pv3.out.unique Pv4.out (ring_dist I1.out.arg.lenM I2.out.arg.lenM I3.out.arg.lenM Ps5.out.mv.len Es5.out Ev3.out EZ.out Et3.out Ev4.out)
                  have hlen : nv3 = nv4 := by rw [← Nv3.out, ← Nv4.out, he]
                  have hb2 := Tv4.out
                  rw [← he, ← hlen] at hb2
                  have CS := Lib.hid (lsame_true Av3 Av4 nv3 cv3 cv4 Lv3 _ Tv3.out hb2 (by omega))
                  rw [← hlen]
                  clear he hlen hb2
                  refine CS.out.mono ?_
                  rintro e v219 ⟨rfl, hb⟩
                  clear CS
                  replace W1 := Lib.hid (W1.out.bel hb)
                  replace W2 := Lib.hid (W2.out.bel hb)
                  replace W3 := Lib.hid (W3.out.bel hb)
                  replace TX := Lib.hid (TX.out.bel hb)
                  replace TY := Lib.hid (TY.out.bel hb)
                  replace TZ := Lib.hid (TZ.out.bel hb)
                  replace TD := Lib.hid (TD.out.bel hb)
                  replace Ts5 := Lib.hid (Ts5.out.bel hb)
                  replace Tv3 := Lib.hid (Tv3.out.bel hb)
                  replace Tt3 := Lib.hid (Tt3.out.bel hb)
                  replace Tv4 := Lib.hid (Tv4.out.bel hb)
                  replace HB : Hid (Below w.heap.size w v219) := HB.out.trans (hb.mono HB.out.size)
                  clear hb
                  clear Qs5 Qt3 Bs5 Bt3
                  clear Ts5 Ps5 Es5 Ns5
                  clear Tv3 Pv3 Ev3 Nv3
                  clear Tt3 Pt3 Et3 Nt3
                  clear Tv4 Pv4 Ev4 Nv4
                  go_wp2_with fail
                  have he : LD = LX := PD.out.unique PX.out ((ring_sub ES.out ED.out).trans EX.out.symm)
                  have hlen : nD = nX := by rw [← ND.out, ← NX.out, he]
                  have hb2 := TX.out
                  rw [← he, ← hlen] at hb2
                  have CS := Lib.hid (lsame_true AD (some ⟨bX, oX, none⟩) nD cD cX LD _ TD.out hb2 (by omega))
                  rw [← hlen]
                  clear he hlen hb2
                  refine CS.out.mono ?_
                  rintro e v220 ⟨rfl, hb⟩
                  clear CS
                  replace W1 := Lib.hid (W1.out.bel hb)
                  replace W2 := Lib.hid (W2.out.bel hb)
                  replace W3 := Lib.hid (W3.out.bel hb)
                  replace TX := Lib.hid (TX.out.bel hb)
                  replace TY := Lib.hid (TY.out.bel hb)
                  replace TZ := Lib.hid (TZ.out.bel hb)
                  replace TD := Lib.hid (TD.out.bel hb)
                  replace HB : Hid (Below w.heap.size w v220) := HB.out.trans (hb.mono HB.out.size)
                  clear hb
                  go_wp2_with fail
                  go_ret
                  exact ⟨rfl, HB.out⟩
        · rw [chkN_no ho3]
          clear ho3
          go_wp2_with fail
          go_ret
          exact ⟨rfl, Hb3.out⟩
      · rw [chkN_no ho2]
        clear ho2
        go_wp2_with fail
        go_ret
        exact ⟨rfl, Hb2.out⟩
    · rw [chkN_no ho1]
      clear ho1
      go_wp2_with fail
      go_ret
      exact ⟨rfl, Hb1.out⟩
end Go.Proofs.Ytjmbejodcloapaa
