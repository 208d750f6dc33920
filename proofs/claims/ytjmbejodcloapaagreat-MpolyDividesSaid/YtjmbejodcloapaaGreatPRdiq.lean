/- Contracts: the document's answer and Div. -/
import Derived.Test.YtjmbejodcloapaaGreatPRts
import Derived.Test.YtjmbejodcloapaaGreatPMdvn
import Derived.Test.YtjmbejodcloapaaGreatPRdes
import Derived.Test.YtjmbejodcloapaaGreatPRfs
set_option linter.unusedVariables false
set_option linter.unusedSimpArgs false
namespace Go.Proofs.YtjmbejodcloapaaGreat
open Go.RowKit Cl
attribute [local go_sem ↓] Go.wp_at_zero Go.wp_at_succ
set_option maxRecDepth 100000 in
set_option maxHeartbeats 4000000 in
theorem r17answer (n C : Nat) (A : Option Addr) (m c : Nat) (L : List TV) (Q : Mv) (w : World) (hx : Trs w A m L) (hP : PlainT n L) (hQ : PlainM n Q) (hE : EqM n (mvT L) Q) (hC : ∀ t ∈ L, t.1.2.length ≤ C) (hC1 : C ≤ 900000) (hm : m ≤ 1000000) (hb : BdM 1000 Q) (hn : n ≤ 6) :
    Calls Tryz.prog 34 #[.int .i64 (n : Int), .slice A m c] w (GivesA w n Q) := by
  have hml := hx.len
  have Cp := Lib.hid (r17plain n C (C + 1) A m c L w hx (fun t ht => hP.mv.len (valT t) (List.mem_map.2 ⟨t, ht, rfl⟩)) hC (by omega) (by omega) (abs_of_len (k := 1000000) hC (trs_limbs hx) (by omega) (by omega)) (by omega) (by omega))
  have Hlen : Hid (L.length = Q.length) := by show _ = _; rw [← hP.mv.unique hQ hE, mvT_length]
  have HP := Lib.hid hP
  have HE := Lib.hid hE
  have Hb := Lib.hid hb
  clear hx hP hC hQ hE hb hml
  go_enter Tryz.func34, Tryz.ntmps34
  go_wp2_with fail
  refine Cp.out.mono ?_
  rintro e w1 ⟨A1, c1, L1, rfl, h1, h2, h3, h4, h5, h6⟩
  obtain rfl : L1 = L := h4.unique HP.out h5
  have Cc := Lib.hid (r17check (n : Int) A1 L1.length c1 L1 w1 h3)
  unfold RChk at Cc
  have H3 := Lib.hid h3
  have H6 := Lib.hid h6
  clear h3 h4 h5 h6 Cp
  by_cases hl : Q.length ≤ 4096
  · have hok := chkN_ok (plain_ok hn HP.out HE.out hl Hb.out)
    rw [hok] at Cc
    clear hok
    go_wp2_with fail
    refine Cc.out.mono ?_
    rintro e w2 ⟨rfl, rfl⟩
    have Fin : Hid (GivesA w n Q (.returned (.tuple #[.slice A1 L1.length c1, .int .i64 0])) w1) := ⟨fun _ => ⟨A1, c1, L1, rfl, h1, h2, H3.out, HP.out, HE.out, H6.out⟩, fun h => absurd hl h⟩
    clear Cc
    go_wp2_with fail
    go_ret2
    exact Fin.out
  · have hok := chkN_no (n := (n : Int)) (L := L1) (fun h => by have h1 := h.2.2.1; have h2 := Hlen.out; omega)
    rw [hok] at Cc
    clear hok
    go_wp2_with fail
    refine Cc.out.mono ?_
    rintro e w2 ⟨rfl, rfl⟩
    have Fin : Hid (GivesA w n Q (.returned (.tuple #[.slice none 0 0, .int .i64 6])) w1) := ⟨fun h => absurd h hl, fun _ => ⟨rfl, H6.out⟩⟩
    clear Cc
    go_wp2_with fail
    go_ret2
    exact Fin.out
set_option maxRecDepth 100000 in
set_option maxHeartbeats 4000000 in
theorem r17div_no (n : Int) (A B : Option Addr) (ma ca mb cb : Nat) (L T : List TV) (w : World) (hx : Trs w A ma L) (hy : Trs w B mb T) (hno : chkN n L = 1 ∨ chkN n T = 1) :
    Calls Tryz.prog 8 #[.int .i64 n, .slice A ma ca, .slice B mb cb] w (GivesNo w) := by
  have C1 := Lib.hid (r17check n A ma ca L w hx)
  have C2 := Lib.hid (r17check n B mb cb T w hy)
  unfold RChk at C1 C2
  clear hx hy
  by_cases h1 : chkN n L = 1
  · rw [h1] at C1
    clear h1 hno C2
    go_enter Tryz.func8, Tryz.ntmps8
    go_wp2_with fail
    refine C1.out.mono ?_
    rintro e w1 ⟨rfl, rfl⟩
    clear C1
    go_wp2_with fail
    go_ret2
    exact ⟨rfl, Below.refl _ _⟩
  · have h2 : chkN n L = 0 := by
      rcases chk_cases n L with h | h
      · exact h.1
      · exact absurd h h1
    have h3 : chkN n T = 1 := hno.resolve_left h1
    rw [h2] at C1
    rw [h3] at C2
    clear h1 h2 h3 hno
    go_enter Tryz.func8, Tryz.ntmps8
    go_wp2_with fail
    refine C1.out.mono ?_
    rintro e w1 ⟨rfl, rfl⟩
    clear C1
    go_wp2_with fail
    refine C2.out.mono ?_
    rintro e w1 ⟨rfl, rfl⟩
    clear C2
    go_wp2_with fail
    go_ret2
    exact ⟨rfl, Below.refl _ _⟩
set_option maxRecDepth 100000 in
set_option maxHeartbeats 4000000 in
theorem r17div_zero (n : Nat) (A B : Option Addr) (ma ca mb cb : Nat) (L T : List TV) (w : World) (hx : Trs w A ma L) (hy : Trs w B mb T) (oL : OkL (n : Int) L) (oT : OkL (n : Int) T) (hT : In n 4 T) (h0 : ∀ p, p.length = n → coM (mvT T) p = 0) :
    Calls Tryz.prog 8 #[.int .i64 (n : Int), .slice A ma ca, .slice B mb cb] w (GivesDz w) := by
  have hn6 := oL.2.1
  have hmt := hy.len
  have hc8 := hT.cnt
  have C1 := Lib.hid (r17check (n : Int) A ma ca L w hx)
  have C2 := Lib.hid (r17check (n : Int) B mb cb T w hy)
  unfold RChk at C1 C2
  rw [chkN_ok oL] at C1
  rw [chkN_ok oT] at C2
  have Cp := Lib.hid (r17plain n 2 3 B mb cb T w hy hT.arg.len hT.arg.co (by omega) (by omega) (abs_of_len (C := 2) (k := 8) hT.arg.co (trs_limbs hy) hc8 (by omega)) (by omega) (by omega))
  have H0 := Lib.hid h0
  clear hx hy oL oT hT h0 hmt
  go_enter Tryz.func8, Tryz.ntmps8
  go_wp2_with fail
  refine C1.out.mono ?_
  rintro e w1 ⟨rfl, rfl⟩
  clear C1
  go_wp2_with fail
  refine C2.out.mono ?_
  rintro e w1 ⟨rfl, rfl⟩
  clear C2
  go_wp2_with fail
  refine Cp.out.mono ?_
  rintro e w1 ⟨A1, c1, L1, rfl, h1, h2, h3, h4, h5, h6⟩
  obtain rfl : L1 = [] := by
    match L1, h4, h5 with
    | [], _, _ => rfl
    | x :: L1, h4, h5 =>
      exfalso
      have k : PlainM n (valT x :: mvT L1) := h4.mv
      refine k.ne _ List.mem_cons_self ?_
      rw [← k.co_head]
      exact (h5 _ (k.len _ List.mem_cons_self)).trans (H0.out _ (k.len _ List.mem_cons_self))
  have H6 := Lib.hid h6
  clear Cp h3 h4 h5 h6 H0
  have hz : (((([] : List TV).length : Nat) : Int) == 0) = true := rfl
  go_wp2_with fail
  go_ret2
  exact ⟨rfl, H6.out⟩
set_option maxRecDepth 100000 in
set_option maxHeartbeats 8000000 in
theorem r17div_yes (n E K : Nat) (hEE : E = 15624) (hKK : K = 32000) (A B : Option Addr) (ma ca mb cb : Nat) (L T : List TV) (w : World) (hx : Trs w A ma L) (hy : Trs w B mb T) (oL : OkL (n : Int) L) (oT : OkL (n : Int) T) (hL : In n 4 L) (hT : In n 4 T) (P' : Mv) (pl : Plc) (cl : Int) (hD : DivT n (wsD n) (vsD n) (2 ^ 131) (mvT T) P' pl cl) :
    Calls Tryz.prog 8 #[.int .i64 (n : Int), .slice A ma ca, .slice B mb cb] w (fun e w' => ∃ o, Dv n (mvT T) pl cl (mvT L) o ∧ GivesV w n o e w') := by
  have hn6 := oL.2.1
  have hn : n ≤ 6 := by omega
  have hml := hx.len
  have hmt := hy.len
  have hc8 := hT.cnt
  have hl8 := hL.cnt
  have C1 := Lib.hid (r17check (n : Int) A ma ca L w hx)
  have C2 := Lib.hid (r17check (n : Int) B mb cb T w hy)
  unfold RChk at C1 C2
  rw [chkN_ok oL] at C1
  rw [chkN_ok oT] at C2
  have Cp := Lib.hid (r17plain n 2 3 B mb cb T w hy hT.arg.len hT.arg.co (by omega) (by omega) (abs_of_len (C := 2) (k := 8) hT.arg.co (trs_limbs hy) hc8 (by omega)) (by omega) (by omega))
  have Ca := Lib.hid (fun W (hW : Below w.heap.size w W) => r17plain n 2 3 A ma ca L W (hx.bel hW) hL.arg.len hL.arg.co (by omega) (by omega) (abs_of_len (C := 2) (k := 8) hL.arg.co (trs_limbs hx) hl8 (by omega)) (by omega) (by omega))
  have h131 : 8 * 2 ^ 128 = 2 ^ 131 := by decide
  have aL := hL.ab
  have aT := hT.ab
  rw [h131] at aL aT
  clear h131
  obtain ⟨w1', w2', w3', w4', w5', w6', w7', w8'⟩ := weights hn
  have Cq : Hid (∀ (W : World) (A1 B1 : Option Addr) (c1 d1 : Nat) (LA TB : List TV), Trs W A1 LA.length LA → Trs W B1 TB.length TB → PlainT n LA → PlainT n TB → EqM n (mvT LA) (mvT L) → EqM n (mvT TB) (mvT T) →
      Calls Tryz.prog 33 #[.slice A1 LA.length c1, .slice B1 TB.length d1] W (fun e w' => ∃ o, Dv n (mvT T) pl cl (mvT L) o ∧ (∀ Q, o = some Q → PlainM n Q ∧ (∀ t ∈ Q, t.2.natAbs < 2 ^ (64 * K)) ∧ BdM 1000 Q ∧ Q.length ≤ 1000000) ∧ GivesQ W n o e w')) := fun W A1 B1 c1 d1 LA TB k1 k2 k3 k4 k5 k6 => by
    have hTe : mvT TB = (pl, cl) :: P' := k4.mv.unique hD.pln (k6.trans hD.eq.symm)
    have lLA : LenM n (mvT LA) := k3.mv.len
    have lTB : LenM n (mvT TB) := k4.mv.len
    have bLA := k3.mv.bd k5 hL.bd
    have bTB := k4.mv.bd k6 hT.bd
    have aLA := Nat.le_trans (k3.mv.abs_le k5 hL.arg.lenM) aL
    have aTB := Nat.le_trans (k4.mv.abs_le k6 hT.arg.lenM) aT
    have hD2 : DivT n (wsD n) (vsD n) (2 ^ 131) (mvT TB) P' pl cl := ⟨hD.pln, hD.eq.trans k6.symm, lTB, hD.ab, hD.pos, hD.nn, hD.str, hD.weak⟩
    have hcap := cap_dom (T := mvT TB) hEE hKK aTB
    have hl1 := k4.mv.count k6
    rw [mvT_length, mvT_length] at hl1
    refine (r17quotient n K (2 ^ 131 * (2 ^ 131) ^ E) (2 ^ 131) (4 * (vsD n).sum) 2100000000000 (wsD n) (vsD n) A1 B1 LA.length c1 TB.length d1 LA TB P' pl cl W k1 k2 k3 k4 hTe hD2 (start_dom hEE hn lLA bLA aLA) w2' w5' w8' (Nat.le_refl _) (by omega) hcap (by omega) (by omega) ?_ ?_ hn ?_).mono ?_
    · intro t ht
      have h1 := k4.mv.small (EqM.refl n _) (List.mem_map.2 ⟨t, ht, rfl⟩ : valT t ∈ mvT TB)
      obtain ⟨M, hM⟩ : ∃ M : Nat, M = 1000 := ⟨_, rfl⟩
      have h2 : (2 : Nat) ^ 131 < 2 ^ (64 * M) := Nat.pow_lt_pow_right (by omega) (by omega)
      rw [← hM]
      exact (k4.co t ht).cap (Nat.lt_of_le_of_lt (Nat.le_trans h1 aTB) h2)
    · intro t ht x hx
      have := bTB (valT t) (List.mem_map.2 ⟨t, ht, rfl⟩) x hx
      omega
    · intro Q q1 q2 q3
      exact quo_dom hn hD2 bTB lLA bLA w2' w5' q1 q2 q3
    · rintro e w' ⟨o, d1, d2, d3⟩
      refine ⟨o, d1.eq k6 lTB hT.arg.lenM k5, fun Q hQ => ?_, d3⟩
      obtain ⟨z1, _, z3, z4, z5⟩ := d2 Q hQ
      refine ⟨z1, fun t ht => Nat.lt_of_le_of_lt (z3 t ht) ?_, z4, z5⟩
      refine Nat.lt_of_le_of_lt ?_ hcap
      rw [Nat.mul_add, Nat.mul_one]
      exact Nat.le_add_right _ _
  have hTne : Hid (∀ TB : List TV, PlainT n TB → EqM n (mvT TB) (mvT T) → 0 < TB.length) := fun TB k4 k6 => by
    have hTe : mvT TB = (pl, cl) :: P' := k4.mv.unique hD.pln (k6.trans hD.eq.symm)
    rw [← mvT_length, hTe]
    exact Nat.succ_pos _
  clear hx hy oL oT hL hT hml hmt hD aL aT w1' w2' w3' w4' w5' w6' w7' w8'
  go_enter Tryz.func8, Tryz.ntmps8
  go_wp2_with fail
  refine C1.out.mono ?_
  rintro e w1 ⟨rfl, rfl⟩
  clear C1
  go_wp2_with fail
  refine C2.out.mono ?_
  rintro e w1 ⟨rfl, rfl⟩
  clear C2
  go_wp2_with fail
  refine Cp.out.mono ?_
  rintro e w1 ⟨B1, d1, TB, rfl, b1, b2, b3, b4, b5, b6⟩
  have hne := hTne.out TB b4 b5
  have hne' : (((TB.length : Nat) : Int) == 0) = false := beq_eq_false_iff_ne.2 (by omega)
  have H3 := Lib.hid b3
  have H4 := Lib.hid b4
  have H5 := Lib.hid b5
  have H6 := Lib.hid b6
  clear Cp b3 b4 b5 b6 hTne
  go_wp2_with fail
  refine (Ca.out w1 H6.out).mono ?_
  rintro e w2 ⟨A1, c1, LA, rfl, a1, a2, a3, a4, a5, a6⟩
  have Cq2 := Lib.hid (Cq.out w2 A1 B1 c1 d1 LA TB a3 (H3.out.bel a6) a4 H4.out a5 H5.out)
  have HB := Lib.hid (H6.out.trans (a6.mono H6.out.size))
  clear a3 a4 a5 a6 Ca Cq H3 H4 H5 H6
  go_wp2_with fail
  refine Cq2.out.mono ?_
  rintro e w3 ⟨o, d, hq, hG⟩
  cases o with
  | none =>
    obtain ⟨rfl, hb3⟩ := hG
    have Fin : Hid (∃ o, Dv n (mvT T) pl cl (mvT L) o ∧ GivesV w n o (.returned (.tuple #[.slice none 0 0, .int .i64 4])) w3) := ⟨none, d, rfl, HB.out.trans (hb3.mono HB.out.size)⟩
    clear Cq2 hq d hb3
    go_wp2_with fail
    go_ret2
    exact Fin.out
  | some Q =>
    obtain ⟨A3, c3, T3, rfl, y1, y2, y3, y4, y5, y6⟩ := hG
    obtain ⟨q1, q2, q3, q4⟩ := hq Q rfl
    have Hlq : Hid (T3.length = Q.length) := by show _ = _; rw [← y4.mv.unique q1 y5, mvT_length]
    have hcap3 : ∀ t ∈ T3, t.1.2.length ≤ K := fun t ht => (y4.co t ht).cap (by
      have h1 : valT t ∈ Q := by rw [← y4.mv.unique q1 y5]; exact List.mem_map.2 ⟨t, ht, rfl⟩
      exact q2 _ h1)
    have Cn := Lib.hid (r17answer n K A3 T3.length c3 T3 Q w3 y3 y4 q1 y5 hcap3 (by omega) (by have h := Hlq.out; omega) q3 hn)
    have HB3 := Lib.hid (HB.out.trans (y6.mono HB.out.size))
    have Hd := Lib.hid d
    clear y3 y4 y5 y6 q1 q2 q3 q4 hq d hcap3 Cq2
    go_wp2_with fail
    refine Cn.out.mono ?_
    intro e w4 h4
    have h5 := h4.from_ HB3.out
    by_cases hl : Q.length ≤ 4096
    · obtain ⟨A5, c5, T5, rfl, r1, r2, r3, r4, r5, r6⟩ := h5.1 hl
      have Fin : Hid (∃ o, Dv n (mvT T) pl cl (mvT L) o ∧ GivesV w n o (.returned (.tuple #[.slice A5 T5.length c5, .int .i64 0])) w4) := ⟨some Q, Hd.out, ⟨fun _ => ⟨A5, c5, T5, rfl, r1, r2, r3, r4, r5, r6⟩, fun h => absurd hl h⟩⟩
      clear Cn h4 h5 r3 r4 r5 r6
      go_wp2_with fail
      go_ret2
      exact Fin.out
    · obtain ⟨rfl, r6⟩ := h5.2 hl
      have Fin : Hid (∃ o, Dv n (mvT T) pl cl (mvT L) o ∧ GivesV w n o (.returned (.tuple #[.slice none 0 0, .int .i64 6])) w4) := ⟨some Q, Hd.out, ⟨fun h => absurd h hl, fun _ => ⟨rfl, r6⟩⟩⟩
      clear Cn h4 h5 r6
      go_wp2_with fail
      go_ret2
      exact Fin.out
end Go.Proofs.YtjmbejodcloapaaGreat
