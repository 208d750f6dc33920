/- FlinCounts: the statement's walk. -/
import Derived.Test.YthpkpnpkkflfpaaFlinR
import Derived.Test.YthpkpnpkkflfpaaFlinE
import Derived.Test.YthpkpnpkkflfpaaFlinFacts
namespace Go.Proofs.Ythpkpnpkkflfpaa
open Go.RowKit Cl
attribute [local go_sem ↓] Go.wp_at_zero Go.wp_at_succ

/-- Each vector that is told is made nought, and there are as many as must be. -/
theorem null_counts {rows : List (List Int)} {n : Nat} {p : Int} (hok : nullOk rows n p = true) {e v : List (List Int)} (he : IsEch rows p e) (hv : IsNull rows n p v) :
    (v.length : Int) = (n : Int) - (e.length : Int) ∧ e.length ≤ n ∧ ∀ i, i < v.length → (rAt v i).length = n ∧ ∀ j, nth (applyM rows (rAt v i) p) j = 0 := by
  obtain ⟨hmat, hn0, hn64, hcol⟩ := nullOk_iff.1 hok
  have hp := (isPrime_iff p).1 (matOk_iff.1 hmat).1
  have h2 := hp.two
  obtain ⟨e', he', rfl⟩ := hv
  obtain rfl := he.unique hp he'
  have hfew := he.few hcol
  obtain ⟨O, K, hr, rfl⟩ := he
  rw [rowsTab_length] at hfew ⊢
  rcases Nat.eq_zero_or_pos rows.length with h0 | h0
  · -- no rows
    have hK : K = 0 := Nat.eq_zero_of_not_pos fun hK => by
      have := hr.rref.lt 0 hK
      rw [rAt_ge (by omega)] at this
      simp at this
    subst hK
    refine ⟨?_, hfew, fun i hi => ?_⟩
    · have := nullTo_count (e := rowsTab 0 O) (n := n) (p := p) (fun k hk => by simp at hk) (fun j k hj hk => by simp at hk)
      simp at this; omega
    · obtain ⟨c, _, _, h5⟩ := nullTo_row hi
      refine ⟨by rw [h5, putTo_length], fun j => ?_⟩
      unfold applyM
      rw [nth_tab, if_neg (by omega)]
  · have hL : (rAt rows 0).length = n := by rcases hcol with h | h <;> omega
    rw [hL] at hr
    have hre : ∀ i, i < K → rAt (rowsTab K O) i = O i := fun i hi => by rw [rAt_rowsTab, if_pos hi]
    refine ⟨?_, hfew, fun i hi => ?_⟩
    · have := nullTo_count (e := rowsTab K O) (n := n) (p := p) (fun k hk => by rw [rowsTab_length] at hk; rw [hre k hk]; exact hr.rref.lt k hk) (fun j k hj hk => by rw [rowsTab_length] at hk; rw [hre j (by omega), hre k hk]; exact hr.rref.mono j k hj hk)
      rw [rowsTab_length] at this
      omega
    · obtain ⟨c, hc, hf, h5⟩ := nullTo_row hi
      rw [rowsTab_length] at hf h5
      refine ⟨by rw [h5, putTo_length], fun j => ?_⟩
      unfold applyM
      rw [nth_tab]
      split
      · next hj =>
        rw [h5, putTo_length]
        refine dotTo_zero (by omega) ?_
        have hs := span_null (v := putTo (rowsTab K O) n p c K) hr.rref (fun k hk => row_null (by omega) hr.rref rfl hc hf hk) (hr.into j hj)
        refine (sum_cg fun t _ => ?_).trans hs
        rw [nth_redRow]
        exact (Cg.refl _ _ |>.mul (Cg.refl _ _)).trans ((red_cg (by omega)).symm.mul (Cg.refl _ _))
      · rfl

set_option maxRecDepth 100000 in
set_option maxHeartbeats 4000000 in
theorem law_FlinCounts (A : Option Addr) (m c : Nat) (rows : List (List Int)) (n p : Int) (w : World) (hx : Mat w A m rows) (h1 : -9223372036854775808 ≤ n) (h2 : n ≤ 9223372036854775807) (h3 : -9223372036854775808 ≤ p) (h4 : p ≤ 9223372036854775807) :
    Calls Try.prog 12 #[.slice A m c, .int .i64 n, .int .i64 p] w fun e w' => e = .returned (.bool true) ∧ Below w.heap.size w w' := by
  cases hok : nullOk rows n p with
  | false =>
    cases hm : matOk rows p with
    | false =>
      go_enter Try.func12, Try.ntmps12
      go_wp2_with fail
      refine (awake07 _).mono ?_
      rintro e w1 ⟨rfl, hb1⟩
      go_wp2_with fail
      refine (null_bad _ _ _ _ _ _ _ (hx.bel hb1) h1 h2 h3 h4 hok).mono ?_
      rintro e w2 ⟨rfl, hb2⟩
      go_wp2_with fail
      refine (ech_bad _ _ _ _ _ _ ((hx.bel hb1).bel hb2) h3 h4 hm).mono ?_
      rintro e w3 ⟨rfl, hb3⟩
      go_wp2_with fail
      go_ret
      exact ⟨rfl, below_then (below_then hb1 hb2) hb3⟩
    | true =>
      go_enter Try.func12, Try.ntmps12
      go_wp2_with fail
      refine (awake07 _).mono ?_
      rintro e w1 ⟨rfl, hb1⟩
      go_wp2_with fail
      refine (null_bad _ _ _ _ _ _ _ (hx.bel hb1) h1 h2 h3 h4 hok).mono ?_
      rintro e w2 ⟨rfl, hb2⟩
      go_wp2_with fail
      refine (ech_yes _ _ _ _ _ _ ((hx.bel hb1).bel hb2) hm).mono ?_
      rintro e w3 ⟨A3, n3, c3, r3, rfl, hm3, hE3, hb3⟩
      go_wp2_with fail
      go_ret
      exact ⟨rfl, below_then (below_then hb1 hb2) hb3⟩
  | true =>
    obtain ⟨hmat, hn0, hn64, hcol⟩ := nullOk_iff.1 hok
    obtain ⟨k, rfl⟩ := Int.eq_ofNat_of_zero_le hn0
    have Hp := Lib.hid ((isPrime_iff p).1 (matOk_iff.1 hmat).1)
    have Hok := Lib.hid hok
    have Hmat := Lib.hid hmat
    have Hcol := Lib.hid hcol
    clear hok hmat hcol
    go_enter Try.func12, Try.ntmps12
    go_wp2_with fail
    refine (awake07 _).mono ?_
    rintro e w1 ⟨rfl, hb1⟩
    go_wp2_with fail
    refine (null_yes _ _ _ k _ _ _ (hx.bel hb1) Hok.out).mono ?_
    rintro e w2 ⟨A2, n2, c2, r2, rfl, hm2, hE2, hb2⟩
    go_wp2_with fail
    refine (ech_yes _ _ _ _ _ _ ((hx.bel hb1).bel hb2) Hmat.out).mono ?_
    rintro e w3 ⟨A3, n3, c3, r3, rfl, hm3, hE3, hb3⟩
    obtain ⟨q1, q2, q3⟩ := null_counts Hok.out hE3 hE2
    have hl2 := hm2.len
    have hl3 := hm3.len
    have hn3 : n3 ≤ k := by omega
    have hn2 : n2 ≤ k := by omega
    have Hcnt : Hid ((n2 : Int) = (k : Int) - (n3 : Int)) := by show _ = _; omega
    have Hnull := Lib.hid q3
    have Hl2 := Lib.hid hl2
    have hb13 := below_then (below_then hb1 hb2) hb3
    have hx3 := hx.bel hb13
    have hm23 := hm2.bel hb3
    have hlen := Lib.hid hx.len
    have happ : Hid (∀ i, i < n2 → appOk rows (rAt r2 i) p = true) := fun i hi => appOk_iff.2 ⟨Hmat.out, by
      have := (Hnull.out i (by have := Hl2.out; omega)).1
      rcases Hcol.out with h | h
      · exact .inl h
      · exact .inr (by omega)⟩
    have hms := hx.small
    clear q1 q2 q3 hl2 hl3 hE2 hE3 hm2 hm3 hb1 hb2 hb3
    go_wp2_with fail
    go_loopw [12] (fun i wr => ∃ j : Nat, j ≤ n2 ∧ i = .int .i64 j ∧ Below w3.heap.size w3 wr) (fun i _ => n2 - (intOf i).toNat)
    case atStart => exact ⟨0, by omega, rfl, Below.refl _ _⟩
    case round =>
      obtain ⟨j, hj, rfl, hbel⟩ := hrel
      by_cases hlt : j < n2
      · obtain ⟨b, o, rfl, hb, hc⟩ := hm23.at_ (by omega)
        obtain ⟨Aj, cj, hcj0, hij0⟩ := hc j hlt
        have hcj := (hbel.cell (p := ⟨b, o + j, none⟩) hb).trans hcj0
        obtain ⟨q1, q2⟩ := Hnull.out j (by have := Hl2.out; omega)
        rw [q1] at hcj hij0
        have hij := Lib.hid (hij0.bel hbel)
        have hxr := hx3.bel hbel
        have hjl : (j : Int) < (n2 : Int) := by omega
        have hj0 : (0 : Int) ≤ (j : Int) := by omega
        have hne : ((m : Int) != (m : Int)) = false := by simp
        have hne2 : ((k : Int) != (k : Int)) = false := by simp
        have Hq2 := Lib.hid q2
        have happj := Lib.hid (happ.out j hlt)
        clear q1 q2 hc hcj0 hij0
        go_wp2_with fail
        refine (apply_yes _ _ _ _ _ _ _ _ _ _ hxr hij.out (by omega) h3 h4 happj.out).mono ?_
        rintro e w4 ⟨A4, c4, rfl, hn4⟩
        have hb4 := hn4.bel
        have hcj4 : w4.cell? ⟨b, o + j, none⟩ = some (.slice Aj k cj) := (hb4.cell (p := ⟨b, o + j, none⟩) (by have := hbel.size; simp; omega)).trans hcj
        have hrd4 := hn4.rd
        have hbel4 := below_then hbel hb4
        clear hn4
        go_wp2_with fail
        go_loop [15] (fun i => ∃ t : Nat, t ≤ m ∧ i = .int .i64 t) (fun i => m - (intOf i).toNat)
        case atStart => exact ⟨0, by omega, rfl⟩
        case round =>
          obtain ⟨t, ht, rfl⟩ := hrel
          by_cases htl : t < m
          · obtain ⟨b4, o4, rfl, hb4', hc4⟩ := hrd4.at_ (by omega)
            have hct := hc4 t htl
            rw [Hq2.out t] at hct
            clear hc4
            go_wp2_with fail
            go_round
            case rel => exact ⟨t + 1, by omega, by go_num⟩
            case measure => simp [intOf]; omega
          · obtain rfl : t = m := by omega
            go_wp2_with fail
            go_roundw
            case rel => exact ⟨j + 1, by omega, by go_num, hbel4⟩
            case measure => simp [intOf]; omega
      · obtain rfl : j = n2 := by omega
        have hcb : ((j : Int) == (k : Int) - (n3 : Int)) = true := by simpa using Hcnt.out
        go_wp2_with fail
        go_ret
        exact ⟨rfl, below_then hb13 hbel⟩
end Go.Proofs.Ythpkpnpkkflfpaa
