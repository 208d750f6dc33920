/- FpolyFrobenius: the statement's walk (printed by gen/law6.py). -/
import Derived.Test.YteddelfkjpljpaaLaw6C
namespace Go.Proofs.Yteddelfkjpljpaa
open Go.RowKit Cl
attribute [local go_sem ↓] Go.wp_at_zero Go.wp_at_succ

set_option maxRecDepth 100000 in
set_option maxHeartbeats 8000000 in
theorem law_FpolyFrobenius (A : Option Addr) (n c : Nat) (xs : List Int) (B : Option Addr) (m d : Nat) (ys : List Int) (C : Option Addr) (k r : Nat) (zs : List Int) (u v p : Int) (w : World) (hx : Ints w A n xs) (hn : n * 8 ≤ 140737488351232) (hy : Ints w B m ys) (hm : m * 8 ≤ 140737488351232) (hz : Ints w C k zs) (hk : k * 8 ≤ 140737488351232) (_lu : -9223372036854775808 ≤ u) (uu : u ≤ 9223372036854775807) (lv : -9223372036854775808 ≤ v) (uv : v ≤ 9223372036854775807) (lp : -9223372036854775808 ≤ p) (up : p ≤ 9223372036854775807) :
    Calls Try.prog 5 #[.slice A n c, .slice B m d, .slice C k r, .int .i64 u, .int .i64 v, .int .i64 p] w fun e w' => e = .returned (.bool true) ∧ Below w.heap.size w w' := by
  go_enter Try.func5, Try.ntmps5
  go_wp2_with fail
  refine (awake06 _).mono ?_
  rintro e w1 ⟨rfl, hb1⟩
  cases hpr : isPrime p with
  | false =>
    go_wp2_with fail
    refine (pnorm_no C k r p _ lp up hpr).mono ?_
    rintro e w' ⟨rfl, rfl⟩
    go_wp2_with fail
    refine (short06 12 12 3 3 (by decide) (some ⟨w1.heap.size, 0, none⟩) [xs, ys, zs] _ (mat_three (hx.bel hb1) (hy.bel hb1) (hz.bel hb1)) (fun i => by match i with | 0 => (show xs.length ≤ _; have := hx.len; omega) | 1 => (show ys.length ≤ _; have := hy.len; omega) | 2 => (show zs.length ≤ _; have := hz.len; omega) | i + 3 => rw [rAt_ge (by simp)]; exact Nat.zero_le _)).mono ?_
    rintro e w' ⟨rfl, rfl⟩
    have hb2 : Below w1.heap.size w1 (w1.alloc (.cells #[.slice A n c, .slice B m d, .slice C k r] 22)) := (Below.refl _ _).alloc (Nat.le_refl _) _
    generalize w1.alloc (.cells #[.slice A n c, .slice B m d, .slice C k r] 22) = w2 at *
    cases hs : shortB 12 [xs, ys, zs] with
    | false =>
      go_wp2_with fail
      go_ret
      exact ⟨rfl, below_tr hb1 hb2⟩
    | true =>
      go_wp2_with fail
      refine (chk_no _ _ lp up hpr).mono ?_
      rintro e w' ⟨rfl, rfl⟩
      go_wp2_with fail
      go_ret
      exact ⟨rfl, below_tr hb1 hb2⟩
  | true =>
    have Hp := Lib.hid ((isPrime_iff p).1 hpr)
    go_wp2_with fail
    refine (pnorm_yes C k r zs p _ Hp.out (hz.bel hb1) (by omega)).mono ?_
    rintro e w2 ⟨A2, c2, rfl, hn2⟩
    have hb2 := hn2.bel
    clear hn2
    go_wp2_with fail
    refine (short06 12 12 3 3 (by decide) (some ⟨w2.heap.size, 0, none⟩) [xs, ys, zs] _ (mat_three ((hx.bel hb1).bel hb2) ((hy.bel hb1).bel hb2) ((hz.bel hb1).bel hb2)) (fun i => by match i with | 0 => (show xs.length ≤ _; have := hx.len; omega) | 1 => (show ys.length ≤ _; have := hy.len; omega) | 2 => (show zs.length ≤ _; have := hz.len; omega) | i + 3 => rw [rAt_ge (by simp)]; exact Nat.zero_le _)).mono ?_
    rintro e w' ⟨rfl, rfl⟩
    have hb3 : Below w2.heap.size w2 (w2.alloc (.cells #[.slice A n c, .slice B m d, .slice C k r] 22)) := (Below.refl _ _).alloc (Nat.le_refl _) _
    generalize w2.alloc (.cells #[.slice A n c, .slice B m d, .slice C k r] 22) = w3 at *
    cases hs : shortB 12 [xs, ys, zs] with
    | false =>
      go_wp2_with fail
      go_ret
      exact ⟨rfl, below_tr (below_tr hb1 hb2) hb3⟩
    | true =>
      have L0 : n ≤ 12 := by have := shortB_iff.1 hs 0 (by simp); rw [← hx.len]; exact this
      have L1 : m ≤ 12 := by have := shortB_iff.1 hs 1 (by simp); rw [← hy.len]; exact this
      have L2 : k ≤ 12 := by have := shortB_iff.1 hs 2 (by simp); rw [← hz.len]; exact this
      clear hs hn hm hk
      go_wp2_with fail
      refine (chk_yes _ _ lp up hpr).mono ?_
      rintro e w' ⟨rfl, rfl⟩
      clear hpr
      by_cases h0 : (toP ⟨p, Hp.out⟩ zs) = 0
      · have g0 : ((Poly.len (toP ⟨p, Hp.out⟩ zs) : Int) == 0) = true := by rw [h0, Poly.len_zero]; rfl
        clear h0
        go_wp2_with fail
        go_ret
        exact ⟨rfl, below_tr (below_tr hb1 hb2) hb3⟩
      · have g0 : ((Poly.len (toP ⟨p, Hp.out⟩ zs) : Int) == 0) = false := beq_eq_false_iff_ne.2 (by have := Poly.len_pos h0; omega)
        obtain ⟨i, ei⟩ : ∃ i, bits .and .i64 u 65535 = i := ⟨_, rfl⟩
        have bi : 0 ≤ i ∧ i ≤ 65535 := by rw [← ei, and_65535]; omega
        obtain ⟨bi0, bi1⟩ := bi
        obtain ⟨j, ej⟩ : ∃ j, bits .and .i64 v 65535 = j := ⟨_, rfl⟩
        have bj : 0 ≤ j ∧ j ≤ 65535 := by rw [← ej, and_65535]; omega
        obtain ⟨bj0, bj1⟩ := bj
        have hp2 := Hp.out.two
        go_wp2_with fail
        refine (zof_pos i _ (by omega) (by omega)).mono ?_
        rintro e w4 ⟨Z4, z4, rfl, p4, q4, s4, hb4⟩
        have t4 := limbs_of (x := i) (by omega)
        have y4 : ([i].take (lmN [i] 1)).length ≤ 1 := by rw [List.length_take]; show min _ 1 ≤ 1; omega
        generalize [i].take (lmN [i] 1) = ls4 at *
        go_wp2_with fail
        refine (powmR (N := 12) (M := 12) (a := (toP ⟨p, Hp.out⟩ xs)) (f := (toP ⟨p, Hp.out⟩ zs)) (hp := Hp.out) (Rd.of_list ((((hx.bel hb1).bel hb2).bel hb3).bel hb4)) (Rd.of_list ((((hz.bel hb1).bel hb2).bel hb3).bel hb4)) (s4) t4 L0 L2 p4 q4 (by omega) (by decide) (by decide) h0).mono ?_
        rintro e w5 ⟨A5, c5, rfl, l5, h5, hb5⟩
        go_wp2_with fail
        refine (zof_pos j _ (by omega) (by omega)).mono ?_
        rintro e w6 ⟨Z6, z6, rfl, p6, q6, s6, hb6⟩
        have t6 := limbs_of (x := j) (by omega)
        have y6 : ([j].take (lmN [j] 1)).length ≤ 1 := by rw [List.length_take]; show min _ 1 ≤ 1; omega
        generalize [j].take (lmN [j] 1) = ls6 at *
        go_wp2_with fail
        refine (powmR (N := 12) (M := 12) (a := (toP ⟨p, Hp.out⟩ xs)) (f := (toP ⟨p, Hp.out⟩ zs)) (hp := Hp.out) (Rd.of_list ((((((hx.bel hb1).bel hb2).bel hb3).bel hb4).bel hb5).bel hb6)) (Rd.of_list ((((((hz.bel hb1).bel hb2).bel hb3).bel hb4).bel hb5).bel hb6)) (s6) t6 L0 L2 p6 q6 (by omega) (by decide) (by decide) h0).mono ?_
        rintro e w7 ⟨A7, c7, rfl, l7, h7, hb7⟩
        go_wp2_with fail
        refine (zof_pos (i + j) _ (by omega) (by omega)).mono ?_
        rintro e w8 ⟨Z8, z8, rfl, p8, q8, s8, hb8⟩
        have t8 := limbs_of (x := (i + j)) (by omega)
        have y8 : ([(i + j)].take (lmN [(i + j)] 1)).length ≤ 1 := by rw [List.length_take]; show min _ 1 ≤ 1; omega
        generalize [(i + j)].take (lmN [(i + j)] 1) = ls8 at *
        go_wp2_with fail
        refine (powmR (N := 12) (M := 12) (a := (toP ⟨p, Hp.out⟩ xs)) (f := (toP ⟨p, Hp.out⟩ zs)) (hp := Hp.out) (Rd.of_list ((((((((hx.bel hb1).bel hb2).bel hb3).bel hb4).bel hb5).bel hb6).bel hb7).bel hb8)) (Rd.of_list ((((((((hz.bel hb1).bel hb2).bel hb3).bel hb4).bel hb5).bel hb6).bel hb7).bel hb8)) (s8) t8 L0 L2 p8 q8 (by omega) (by decide) (by decide) h0).mono ?_
        rintro e w9 ⟨A9, c9, rfl, l9, h9, hb9⟩
        go_wp2_with fail
        refine (timesR (N := 12) (M := 12) (K := 24) (a := (powR (toP ⟨p, Hp.out⟩ xs) (Int.toNat i) (toP ⟨p, Hp.out⟩ zs))) (b := (powR (toP ⟨p, Hp.out⟩ xs) (Int.toNat j) (toP ⟨p, Hp.out⟩ zs))) (hp := Hp.out) (Rd.of ((((h5.bel hb6).bel hb7).bel hb8).bel hb9)) (Rd.of ((h7.bel hb8).bel hb9)) l5 l7 (by decide) (by decide)).mono ?_
        rintro e w10 ⟨A10, c10, rfl, l10, h10, hb10⟩
        go_wp2_with fail
        refine (divR (N := 24) (M := 12) (a := ((powR (toP ⟨p, Hp.out⟩ xs) (Int.toNat i) (toP ⟨p, Hp.out⟩ zs)) * (powR (toP ⟨p, Hp.out⟩ xs) (Int.toNat j) (toP ⟨p, Hp.out⟩ zs)))) (b := (toP ⟨p, Hp.out⟩ zs)) (hp := Hp.out) (Rd.of h10) (Rd.of_list ((((((((((hz.bel hb1).bel hb2).bel hb3).bel hb4).bel hb5).bel hb6).bel hb7).bel hb8).bel hb9).bel hb10)) l10 L2 (by decide) (by decide) h0).mono ?_
        rintro e w11 ⟨A11, c11, B11, d11, rfl, l11, m11, h11, g11, hb11⟩
        go_wp2_with fail
        refine (sumR (N := 12) (M := 12) (K := 24) (a := (toP ⟨p, Hp.out⟩ xs)) (b := (toP ⟨p, Hp.out⟩ ys)) (hp := Hp.out) (Rd.of_list (((((((((((hx.bel hb1).bel hb2).bel hb3).bel hb4).bel hb5).bel hb6).bel hb7).bel hb8).bel hb9).bel hb10).bel hb11)) (Rd.of_list (((((((((((hy.bel hb1).bel hb2).bel hb3).bel hb4).bel hb5).bel hb6).bel hb7).bel hb8).bel hb9).bel hb10).bel hb11)) L0 L1 (by decide) (by decide)).mono ?_
        rintro e w12 ⟨A12, c12, rfl, l12, h12, hb12⟩
        go_wp2_with fail
        refine (zof_pos p _ (by omega) (by omega)).mono ?_
        rintro e w13 ⟨Z13, z13, rfl, p13, q13, s13, hb13⟩
        have t13 := limbs_of (x := p) (by omega)
        have y13 : ([p].take (lmN [p] 1)).length ≤ 1 := by rw [List.length_take]; show min _ 1 ≤ 1; omega
        generalize [p].take (lmN [p] 1) = ls13 at *
        go_wp2_with fail
        refine (powmR (N := 24) (M := 12) (a := ((toP ⟨p, Hp.out⟩ xs) + (toP ⟨p, Hp.out⟩ ys))) (f := (toP ⟨p, Hp.out⟩ zs)) (hp := Hp.out) (Rd.of (h12.bel hb13)) (Rd.of_list (((((((((((((hz.bel hb1).bel hb2).bel hb3).bel hb4).bel hb5).bel hb6).bel hb7).bel hb8).bel hb9).bel hb10).bel hb11).bel hb12).bel hb13)) (s13) t13 l12 L2 p13 q13 (by omega) (by decide) (by decide) h0).mono ?_
        rintro e w14 ⟨A14, c14, rfl, l14, h14, hb14⟩
        go_wp2_with fail
        refine (zof_pos p _ (by omega) (by omega)).mono ?_
        rintro e w15 ⟨Z15, z15, rfl, p15, q15, s15, hb15⟩
        have t15 := limbs_of (x := p) (by omega)
        have y15 : ([p].take (lmN [p] 1)).length ≤ 1 := by rw [List.length_take]; show min _ 1 ≤ 1; omega
        generalize [p].take (lmN [p] 1) = ls15 at *
        go_wp2_with fail
        refine (powmR (N := 12) (M := 12) (a := (toP ⟨p, Hp.out⟩ xs)) (f := (toP ⟨p, Hp.out⟩ zs)) (hp := Hp.out) (Rd.of_list (((((((((((((((hx.bel hb1).bel hb2).bel hb3).bel hb4).bel hb5).bel hb6).bel hb7).bel hb8).bel hb9).bel hb10).bel hb11).bel hb12).bel hb13).bel hb14).bel hb15)) (Rd.of_list (((((((((((((((hz.bel hb1).bel hb2).bel hb3).bel hb4).bel hb5).bel hb6).bel hb7).bel hb8).bel hb9).bel hb10).bel hb11).bel hb12).bel hb13).bel hb14).bel hb15)) (s15) t15 L0 L2 p15 q15 (by omega) (by decide) (by decide) h0).mono ?_
        rintro e w16 ⟨A16, c16, rfl, l16, h16, hb16⟩
        go_wp2_with fail
        refine (zof_pos p _ (by omega) (by omega)).mono ?_
        rintro e w17 ⟨Z17, z17, rfl, p17, q17, s17, hb17⟩
        have t17 := limbs_of (x := p) (by omega)
        have y17 : ([p].take (lmN [p] 1)).length ≤ 1 := by rw [List.length_take]; show min _ 1 ≤ 1; omega
        generalize [p].take (lmN [p] 1) = ls17 at *
        go_wp2_with fail
        refine (powmR (N := 12) (M := 12) (a := (toP ⟨p, Hp.out⟩ ys)) (f := (toP ⟨p, Hp.out⟩ zs)) (hp := Hp.out) (Rd.of_list (((((((((((((((((hy.bel hb1).bel hb2).bel hb3).bel hb4).bel hb5).bel hb6).bel hb7).bel hb8).bel hb9).bel hb10).bel hb11).bel hb12).bel hb13).bel hb14).bel hb15).bel hb16).bel hb17)) (Rd.of_list (((((((((((((((((hz.bel hb1).bel hb2).bel hb3).bel hb4).bel hb5).bel hb6).bel hb7).bel hb8).bel hb9).bel hb10).bel hb11).bel hb12).bel hb13).bel hb14).bel hb15).bel hb16).bel hb17)) (s17) t17 L1 L2 p17 q17 (by omega) (by decide) (by decide) h0).mono ?_
        rintro e w18 ⟨A18, c18, rfl, l18, h18, hb18⟩
        go_wp2_with fail
        refine (sameR (N := 12) (M := 12) (hp := Hp.out) (a := (Poly.rem ((powR (toP ⟨p, Hp.out⟩ xs) (Int.toNat i) (toP ⟨p, Hp.out⟩ zs)) * (powR (toP ⟨p, Hp.out⟩ xs) (Int.toNat j) (toP ⟨p, Hp.out⟩ zs))) (toP ⟨p, Hp.out⟩ zs))) (b := (powR (toP ⟨p, Hp.out⟩ xs) (Int.toNat ((i + j))) (toP ⟨p, Hp.out⟩ zs))) (((((((g11.bel hb12).bel hb13).bel hb14).bel hb15).bel hb16).bel hb17).bel hb18) (((((((((h9.bel hb10).bel hb11).bel hb12).bel hb13).bel hb14).bel hb15).bel hb16).bel hb17).bel hb18) m11 l9 (by decide) (by decide) ((pow_rem _ h0 _ _).trans (by rw [Int.toNat_add bi0 bj0]))).mono ?_
        rintro e w19 ⟨rfl, hb19⟩
        go_wp2_with fail
        refine (sumR (N := 12) (M := 12) (K := 24) (a := (powR (toP ⟨p, Hp.out⟩ xs) (Int.toNat p) (toP ⟨p, Hp.out⟩ zs))) (b := (powR (toP ⟨p, Hp.out⟩ ys) (Int.toNat p) (toP ⟨p, Hp.out⟩ zs))) (hp := Hp.out) (Rd.of (((h16.bel hb17).bel hb18).bel hb19)) (Rd.of (h18.bel hb19)) l16 l18 (by decide) (by decide)).mono ?_
        rintro e w20 ⟨A20, c20, rfl, l20, h20, hb20⟩
        go_wp2_with fail
        refine (sameR (N := 12) (M := 24) (hp := Hp.out) (a := (powR ((toP ⟨p, Hp.out⟩ xs) + (toP ⟨p, Hp.out⟩ ys)) (Int.toNat p) (toP ⟨p, Hp.out⟩ zs))) (b := ((powR (toP ⟨p, Hp.out⟩ xs) (Int.toNat p) (toP ⟨p, Hp.out⟩ zs)) + (powR (toP ⟨p, Hp.out⟩ ys) (Int.toNat p) (toP ⟨p, Hp.out⟩ zs)))) ((((((h14.bel hb15).bel hb16).bel hb17).bel hb18).bel hb19).bel hb20) h20 l14 l20 (by decide) (by decide) (frob_rem _ _ h0 _ rfl)).mono ?_
        rintro e w21 ⟨rfl, hb21⟩
        go_wp2_with fail
        go_ret
        exact ⟨rfl, (below_tr (below_tr (below_tr (below_tr (below_tr (below_tr (below_tr (below_tr (below_tr (below_tr (below_tr (below_tr (below_tr (below_tr (below_tr (below_tr (below_tr (below_tr (below_tr (below_tr hb1 hb2) hb3) hb4) hb5) hb6) hb7) hb8) hb9) hb10) hb11) hb12) hb13) hb14) hb15) hb16) hb17) hb18) hb19) hb20) hb21)⟩
end Go.Proofs.Yteddelfkjpljpaa
