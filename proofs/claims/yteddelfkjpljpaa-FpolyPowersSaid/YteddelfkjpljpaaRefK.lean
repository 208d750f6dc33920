/- Contracts: rests of powers: the document's. -/
import Derived.Test.YteddelfkjpljpaaRefJ
namespace Go.Proofs.Yteddelfkjpljpaa
open Go.RowKit Cl
attribute [local go_sem ↓] Go.wp_at_zero Go.wp_at_succ

theorem rd_one {p : Int} (hp : Pr p) (w : World) : Rd (q := ⟨p, hp⟩) (w.alloc (.cells #[.int .i64 1] 3)) (some ⟨w.heap.size, 0, none⟩) 1 (1 : Poly (Zp ⟨p, hp⟩)) :=
  ⟨[1], (Row.new w 3 [1]).ints (fun i => by
    match i with
    | 0 => exact I64.small (by decide) (by decide)
    | i + 1 => rw [nth_ge (by simp)]; exact I64.zero), by rw [toP_one, Zp.of_one, Poly.C_one]⟩
theorem powR_mul' {q : Prm} (a : Poly (Zp q)) (N : Nat) {m : Poly (Zp q)} (hm : m ≠ 0) : Poly.rem (powR a N m * a) m = powR a (N + 1) m := powR_mul a N hm (Poly.Eqm.refl _ _)

set_option maxRecDepth 100000 in
set_option maxHeartbeats 4000000 in
theorem qpow_yes (A B M : Option Addr) (n c k d m cm : Nat) (neg : Bool) (xs ls ms : List Int) (p : Int) (w : World) (hp : Pr p) (hx : Ints w A n xs) (hl : Limbs w B k ls) (hm : Ints w M m ms) (hn : n ≤ 100000000) (hmn : m ≤ 100000000) (hk : k ≤ 900000000) (hkd : k ≤ d) (hd : d ≤ 9223372036854775807)
    (hs : ¬ signN neg (lmN ls k) < 0) (hm0 : toP ⟨p, hp⟩ ms ≠ 0) :
    Calls Try.prog 15 #[.slice A n c, .agg #[.bool neg, .slice B k d], .slice M m cm, .int .i64 p] w (GivesRE w m (powR (toP ⟨p, hp⟩ xs) (limbs ls) (toP ⟨p, hp⟩ ms)) 0) := by
  have hp1 := hp.two
  have hp2 := hp.max
  have Cs := Lib.hid (fun W (h : Below w.heap.size w W) => rzsign_any neg B k d ls W (hl.bel h) hkd hd (by omega))
  have Cb := Lib.hid (fun W (h : Below w.heap.size w W) => rnbits_any B k d ls W (hl.bel h) hkd hd (by omega))
  have hlm : (toP ⟨p, hp⟩ ms).len ≤ m := len_le_toP hm.len
  have hbit := Lib.hid (limbs_bit hl.ok)
  have hfull := Lib.hid (limbs_lt_bitsN hl.ok hl.len)
  have hble := bitsN_le hl.ok k
  have HL := Lib.hid hl
  have HX := Lib.hid hx
  have HM := Lib.hid hm
  have hd0 := Duo.new w (.bool neg) (.slice B k d)
  have k0 := hd0.cell0
  have k1 := hd0.cell1
  have Hd := Lib.hid hd0
  clear hd0 hx hm hl
  generalize hA : toP ⟨p, hp⟩ xs = a at *
  generalize hF : toP ⟨p, hp⟩ ms = f at *
  have HA := Lib.hid hA
  have HF := Lib.hid hF
  have hf0 := Poly.len_pos hm0
  clear hA hF
  go_enter Try.func15, Try.ntmps15
  go_wp2_with fail
  refine (rchk_yes _ _ (by omega) (by omega) ((isPrime_iff p).2 hp)).mono ?_
  rintro e w' ⟨rfl, rfl⟩
  go_wp2_with fail
  refine (Cs.out _ (by exact (Below.refl _ _).alloc (Nat.le_refl _) _)).mono ?_
  rintro e w1 ⟨rfl, hb1⟩
  generalize signN neg (lmN ls k) = s at *
  have hbw : Below w.heap.size w w1 := ((Below.refl _ w).alloc (Nat.le_refl _) _).trans (hb1.mono (by simp))
  have hd1 := Hd.out.bel hb1
  clear hb1 k0 k1 Hd Cs
  go_wp2_with fail
  have hal : Below w1.heap.size w1 (w1.alloc (.cells #[.int .i64 1] 3)) := (Below.refl _ _).alloc (Nat.le_refl _) _
  refine (qdivR (hp := hp) (N := 1) (M := m) (a := 1) (b := f) (c := 1) (d := cm) (rd_one hp w1) ⟨ms, (HM.out.bel hbw).bel hal, HF.out⟩ (Nat.le_refl _) (Nat.le_refl _) (by omega) (by omega) hm0).mono ?_
  rintro e w2 ⟨Q2, q2, A2, c2, rfl, -, l2, -, h2, hb2⟩
  have hb3 := below_tr (below_tr hbw hal) hb2
  have hd3 := (hd1.bel hal).bel hb2
  have k0 := hd3.cell0
  have k1 := hd3.cell1
  have Hd3 := Lib.hid hd3
  have Hb3 := Lib.hid hb3
  clear hbw hal hd1 hd3
  go_wp2_with fail
  refine (Cb.out _ (by exact hb3)).mono ?_
  rintro e w3 ⟨rfl, hb4⟩
  have hb5 := Lib.hid (below_tr hb3 hb4)
  have hd5 := Lib.hid (Hd3.out.bel hb4)
  have h5 := Lib.hid (h2.bel hb4)
  clear k0 k1 Hd3 Hb3 hb3 hb2 hb4 h2
  generalize hbd : bitsN ls k = b at *
  have e1 : IntKind.i64.wrap ((b : Int) - 1) = (b : Int) - 1 := IntWalk.i64_in _ (by omega)
  have hb0 : (0 : Int) ≤ (b : Int) := by omega
  have h0N : Hid (powR a (topN (limbs ls) b 0) f = Poly.rem 1 f) := by
    show _ = _
    rw [topN_zero hfull.out, powR_zero]
  have hRb := Lib.hid (fun N => Cl.rem_len' (a ^ N) hm0)
  clear hbd
  go_wp2_with fail
  go_loopg [11, 13] (b + 1) (fun gk v i wr => ∃ (e : Nat) (j : Int) (A' : Option Addr) (c' : Nat), e ≤ b ∧ b - e < gk ∧ i = .int .i64 j ∧ j = (b : Int) - 1 - (e : Int) ∧ v = .slice A' (powR a (topN (limbs ls) b e) f).len c' ∧ Hid (Ints wr A' (powR a (topN (limbs ls) b e) f).len (fromP (powR a (topN (limbs ls) b e) f))) ∧ Hid (Below w.heap.size w wr) ∧ Duo wr w.heap.size (.bool neg) (.slice B k d))
  case atStart => exact ⟨0, _, A2, c2, by omega, by omega, rfl, by omega, by rw [h0N.out], by rw [h0N.out]; exact h5, hb5, hd5.out⟩
  case round =>
    obtain ⟨e, j, A', c', he, hgk, rfl, hj, rfl, hN, hB, hD⟩ := hrel
    clear h5 hb5 hd5 h0N
    have hpl2 : (powR a (topN (limbs ls) b e) f).len ≤ 100000000 := by have := hRb.out (topN (limbs ls) b e); show (Poly.rem _ _).len ≤ _; omega
    by_cases hlt : e < b
    · obtain ⟨t, ht⟩ : ∃ t, t = b - 1 - e := ⟨_, rfl⟩
      obtain rfl : j = (t : Int) := by omega
      have ht0 : (0 : Int) ≤ (t : Int) := by omega
      have htk : t / 64 < k := by omega
      have hsq : Hid (Poly.rem (powR a (topN (limbs ls) b e) f * powR a (topN (limbs ls) b e) f) f = powR a (2 * topN (limbs ls) b e) f) := powR_sq a _ hm0
      have hsN : Hid (topN (limbs ls) b (e + 1) = 2 * topN (limbs ls) b e + (nth ls (t / 64)).toNat / 2 ^ (t % 64) % 2) := by
        show _ = _
        rw [topN_succ hlt, show b - (e + 1) = t by omega, hbit.out t]
      have hmu : Hid (Poly.rem (powR a (2 * topN (limbs ls) b e) f * a) f = powR a (2 * topN (limbs ls) b e + 1) f) := powR_mul' a _ hm0
      have hpq2 : (powR a (2 * topN (limbs ls) b e) f).len ≤ 100000000 := by have := hRb.out (2 * topN (limbs ls) b e); show (Poly.rem _ _).len ≤ _; omega
      have Hj := Lib.hid hj
      have Ht := Lib.hid ht
      have htb : (t : Int) ≤ 100000000000 := by omega
      clear hj ht
      generalize hP0 : powR a (topN (limbs ls) b e) f = P0 at *
      generalize hP1 : powR a (2 * topN (limbs ls) b e) f = P1 at *
      have HP1 := Lib.hid hP1
      clear hP0 hP1
      go_wp2_with fail
      refine (qtimesR (hp := hp) (N := 100000000) (M := 100000000) (K := 200000000) (c := c') (d := c') (Rd.of hN.out) (Rd.of hN.out) hpl2 hpl2 (by omega) (by omega)).mono ?_
      rintro ee w6 ⟨A6, c6, rfl, l6, h6, hb6⟩
      go_wp2_with fail
      refine (qdivR (hp := hp) (N := 200000000) (M := m) (b := f) (c := c6) (d := cm) (Rd.of h6) ⟨ms, (HM.out.bel hB.out).bel hb6, HF.out⟩ l6 (Nat.le_refl _) (by omega) (by omega) hm0).mono ?_
      rintro ee w7 ⟨Q7, q7, A7, c7, rfl, -, l7, -, h7, hb67⟩
      rw [hsq.out] at h7 l7 ⊢
      have hb7 := below_tr hb6 hb67
      have hD7 := hD.bel hb7
      have k0 := hD7.cell0
      have k1 := hD7.cell1
      have hB7 := Lib.hid (below_tr hB.out hb7)
      have hN7 := Lib.hid h7
      have hlm7 := HL.out.bel hB7.out
      obtain ⟨bb, o, rfl, hbb, hcl⟩ := hlm7.at_ (by omega)
      have hcy := hcl (t / 64) htk
      have hok := hlm7.ok (t / 64)
      have HD7 := Lib.hid hD7
      have hbo := bit_one hok.1 hok.2 (t % 64)
      rcases Nat.mod_two_eq_zero_or_one ((nth ls (t / 64)).toNat / 2 ^ (t % 64)) with hpar | hpar
      · have hbq : (bits .and .u64 (nth ls (t / 64) / 2 ^ (t % 64)) 1 == 1) = false := by rw [hbo, hpar]; rfl
        have hsN2 : Hid (P1 = powR a (topN (limbs ls) b (e + 1)) f) := by
          show _ = _
          rw [hsN.out, hpar, ← HP1.out]; rfl
        clear hbo hpar hok hcl hlm7 hb6 hb7 hb67 h6 h7 hD7 hN hD
        go_wp2_with fail
        go_roundg (gk - 1)
        case measure => omega
        case rel => exact ⟨e + 1, _, A7, c7, by omega, by omega, rfl, by have := Hj.out; omega, by rw [← hsN2.out], by rw [← hsN2.out]; exact hN7, hB7, HD7.out⟩
      · have hbq : (bits .and .u64 (nth ls (t / 64) / 2 ^ (t % 64)) 1 == 1) = true := by rw [hbo, hpar]; rfl
        have hsN2 : Hid (Poly.rem (P1 * a) f = powR a (topN (limbs ls) b (e + 1)) f) := by
          show _ = _
          rw [hsN.out, hpar]; exact hmu.out
        clear hbo hpar hok hcl hlm7 hb6 hb7 hb67 h6 h7 hD7 hN hD
        go_wp2_with fail
        refine (qtimesR (hp := hp) (N := 100000000) (M := n) (K := 200000000) (c := c7) (d := c) (Rd.of hN7.out) ⟨xs, HX.out.bel hB7.out, HA.out⟩ hpq2 (Nat.le_refl _) (by omega) (by omega)).mono ?_
        rintro ee w8 ⟨A8, c8, rfl, l8, h8, hb8⟩
        go_wp2_with fail
        refine (qdivR (hp := hp) (N := 200000000) (M := m) (b := f) (c := c8) (d := cm) (Rd.of h8) ⟨ms, (HM.out.bel hB7.out).bel hb8, HF.out⟩ l8 (Nat.le_refl _) (by omega) (by omega) hm0).mono ?_
        rintro ee w9 ⟨Q9, q9, A9, c9, rfl, -, l9, -, h9, hb89⟩
        rw [hsN2.out] at h9 ⊢
        have hb9 := below_tr hb8 hb89
        have hD9 := Lib.hid (HD7.out.bel hb9)
        have hB9 := Lib.hid (below_tr hB7.out hb9)
        have hN9 := Lib.hid h9
        clear hb8 hb9 hb89 h8 h9
        go_wp2_with fail
        go_roundg (gk - 1)
        case measure => omega
        case rel => exact ⟨e + 1, _, A9, c9, by omega, by omega, rfl, by have := Hj.out; omega, rfl, hN9, hB9, hD9.out⟩
    · obtain rfl : e = b := by omega
      have hjn : j < 0 := by omega
      have Hfin : Hid (GivesRE w m (powR a (limbs ls) f) 0 (.returned (.tuple #[.slice A' (powR a (topN (limbs ls) e e) f).len c', .int .i64 0])) wr) := by
        have := hN.out
        rw [topN_full] at this ⊢
        have hlen : (powR a (limbs ls) f).len ≤ m := by have := hRb.out (limbs ls); show (Poly.rem _ _).len ≤ _; omega
        exact ⟨_, _, rfl, hlen, this, hB.out⟩
      clear hj
      go_wp2_with fail
      go_ret2
      exact Hfin.out

theorem qpow_no (A B M : Option Addr) (n c k d m cm : Nat) (neg : Bool) (p : Int) (w : World) (h3 : -9223372036854775808 ≤ p) (h4 : p ≤ 9223372036854775807) (hp : isPrime p = false) :
    Calls Try.prog 15 #[.slice A n c, .agg #[.bool neg, .slice B k d], .slice M m cm, .int .i64 p] w fun e w' => e = .returned (.tuple #[.slice none 0 0, .int .i64 1]) ∧ Below w.heap.size w w' := by
  have hb : Below w.heap.size w (w.alloc (.cells #[.bool neg, .slice B k d] 25)) := (Below.refl _ w).alloc (Nat.le_refl _) _
  go_enter Try.func15, Try.ntmps15
  go_wp2_with fail
  refine (rchk_no _ _ h3 h4 hp).mono ?_
  rintro e w' ⟨rfl, rfl⟩
  go_wp2_with fail
  go_ret2
  exact ⟨rfl, hb⟩

set_option maxRecDepth 100000 in
theorem qpow_neg (A B M : Option Addr) (n c k d m cm : Nat) (neg : Bool) (ls : List Int) (p : Int) (w : World) (hp : Pr p) (hl : Limbs w B k ls) (hk : k ≤ 900000000) (hkd : k ≤ d) (hd : d ≤ 9223372036854775807) (hs : signN neg (lmN ls k) < 0) :
    Calls Try.prog 15 #[.slice A n c, .agg #[.bool neg, .slice B k d], .slice M m cm, .int .i64 p] w fun e w' => e = .returned (.tuple #[.slice none 0 0, .int .i64 1]) ∧ Below w.heap.size w w' := by
  have hp1 := hp.two
  have hp2 := hp.max
  have Cs := Lib.hid (fun W (h : Below w.heap.size w W) => rzsign_any neg B k d ls W (hl.bel h) hkd hd (by omega))
  have hd0 := Duo.new w (.bool neg) (.slice B k d)
  have k0 := hd0.cell0
  have k1 := hd0.cell1
  clear hl hd0
  go_enter Try.func15, Try.ntmps15
  go_wp2_with fail
  refine (rchk_yes _ _ (by omega) (by omega) ((isPrime_iff p).2 hp)).mono ?_
  rintro e w' ⟨rfl, rfl⟩
  go_wp2_with fail
  refine (Cs.out _ (by exact (Below.refl _ _).alloc (Nat.le_refl _) _)).mono ?_
  rintro e w1 ⟨rfl, hb1⟩
  generalize signN neg (lmN ls k) = s at *
  have hbw : Below w.heap.size w w1 := ((Below.refl _ w).alloc (Nat.le_refl _) _).trans (hb1.mono (by simp))
  go_wp2_with fail
  go_ret2
  exact ⟨rfl, hbw⟩

set_option maxRecDepth 100000 in
theorem qpow_zero (A B M : Option Addr) (n c k d m cm : Nat) (neg : Bool) (ls ms : List Int) (p : Int) (w : World) (hp : Pr p) (hl : Limbs w B k ls) (hm : Ints w M m ms) (hmn : m ≤ 100000000) (hk : k ≤ 900000000) (hkd : k ≤ d) (hd : d ≤ 9223372036854775807)
    (hs : ¬ signN neg (lmN ls k) < 0) (hm0 : toP ⟨p, hp⟩ ms = 0) :
    Calls Try.prog 15 #[.slice A n c, .agg #[.bool neg, .slice B k d], .slice M m cm, .int .i64 p] w fun e w' => e = .returned (.tuple #[.slice none 0 0, .int .i64 3]) ∧ Below w.heap.size w w' := by
  have hp1 := hp.two
  have hp2 := hp.max
  have Cs := Lib.hid (fun W (h : Below w.heap.size w W) => rzsign_any neg B k d ls W (hl.bel h) hkd hd (by omega))
  have HM := Lib.hid hm
  have Hm0 := Lib.hid hm0
  have hd0 := Duo.new w (.bool neg) (.slice B k d)
  have k0 := hd0.cell0
  have k1 := hd0.cell1
  clear hl hd0 hm hm0
  go_enter Try.func15, Try.ntmps15
  go_wp2_with fail
  refine (rchk_yes _ _ (by omega) (by omega) ((isPrime_iff p).2 hp)).mono ?_
  rintro e w' ⟨rfl, rfl⟩
  go_wp2_with fail
  refine (Cs.out _ (by exact (Below.refl _ _).alloc (Nat.le_refl _) _)).mono ?_
  rintro e w1 ⟨rfl, hb1⟩
  generalize signN neg (lmN ls k) = s at *
  have hbw : Below w.heap.size w w1 := ((Below.refl _ w).alloc (Nat.le_refl _) _).trans (hb1.mono (by simp))
  go_wp2_with fail
  have hal : Below w1.heap.size w1 (w1.alloc (.cells #[.int .i64 1] 3)) := (Below.refl _ _).alloc (Nat.le_refl _) _
  refine (qdiv0R (hp := hp) (M := m) (b := 0) (n := 1) (c := 1) (d := cm) ⟨ms, (HM.out.bel hbw).bel hal, Hm0.out⟩ (Nat.le_refl _) (by omega) rfl).mono ?_
  rintro e w2 ⟨rfl, hb2⟩
  go_wp2_with fail
  go_ret2
  exact ⟨rfl, below_tr (below_tr hbw hal) hb2⟩
end Go.Proofs.Yteddelfkjpljpaa
