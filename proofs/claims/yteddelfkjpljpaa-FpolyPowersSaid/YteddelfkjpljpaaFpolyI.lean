/- Contracts: rests of powers: the program's. -/
import Derived.Test.YteddelfkjpljpaaFpolyE
import Derived.Test.YteddelfkjpljpaaNatB
import Derived.Laws.Bits64b
namespace Go.Proofs.Yteddelfkjpljpaa
open Go.RowKit Cl
attribute [local go_sem ↓] Go.wp_at_zero Go.wp_at_succ


theorem bit_one {x : Int} (h0 : 0 ≤ x) (h1 : x < 18446744073709551616) (j : Nat) : bits .and .u64 (x / 2 ^ j) 1 = ((x.toNat / 2 ^ j % 2 : Nat) : Int) := by
  obtain ⟨X, rfl⟩ : ∃ X : Nat, x = (X : Int) := ⟨x.toNat, by omega⟩
  have e : (X : Int) / 2 ^ j = ((X / 2 ^ j : Nat) : Int) := by rw [Int.natCast_ediv, Int.natCast_pow]; rfl
  have hle : X / 2 ^ j ≤ X := Nat.div_le_self _ _
  have := bits_and_u64_nat (X / 2 ^ j) 1 (by omega) (by decide)
  rw [e, Int.toNat_natCast]
  rw [Nat.and_one_is_mod] at this
  exact this
set_option maxRecDepth 100000 in
set_option maxHeartbeats 4000000 in
theorem ppow_yes (A B M : Option Addr) (n c k d m cm : Nat) (neg : Bool) (xs ls ms : List Int) (p : Int) (w : World) (hp : Pr p) (hx : Ints w A n xs) (hl : Limbs w B k ls) (hm : Ints w M m ms) (hn : n ≤ 900000000) (hmn : m ≤ 900000000) (hk : k ≤ 900000000) (hkd : k ≤ d) (hd : d ≤ 9223372036854775807)
    (hs : ¬ signN neg (lmN ls k) < 0) (hm0 : toP ⟨p, hp⟩ ms ≠ 0) :
    Calls Try.prog 14 #[.slice A n c, .agg #[.bool neg, .slice B k d], .slice M m cm, .int .i64 p] w (GivesPE w (powR (toP ⟨p, hp⟩ xs) (limbs ls) (toP ⟨p, hp⟩ ms)) 0) := by
  have hp1 := hp.two
  have hp2 := hp.max
  have Cs := Lib.hid (fun W (h : Below w.heap.size w W) => zsign_any neg B k d ls W (hl.bel h) hkd hd (by omega))
  have Ca := Lib.hid (fun W (h : Below w.heap.size w W) => pplain_any A n c xs p W hp (hx.bel h) (by omega))
  have Cm := Lib.hid (fun W (h : Below w.heap.size w W) => pplain_any M m cm ms p W hp (hm.bel h) (by omega))
  have Cb := Lib.hid (fun W (h : Below w.heap.size w W) => nbits_any B k d ls W (hl.bel h) hkd hd (by omega))
  have hla : (toP ⟨p, hp⟩ xs).len ≤ n := len_le_toP hx.len
  have hlm : (toP ⟨p, hp⟩ ms).len ≤ m := len_le_toP hm.len
  have hbit := Lib.hid (limbs_bit hl.ok)
  have hfull := Lib.hid (limbs_lt_bitsN hl.ok hl.len)
  have hble := bitsN_le hl.ok k
  have HL := Lib.hid hl
  generalize toP ⟨p, hp⟩ xs = a at *
  generalize toP ⟨p, hp⟩ ms = f at *
  have hd0 := Duo.new w (.bool neg) (.slice B k d)
  have k0 := hd0.cell0
  have k1 := hd0.cell1
  have Hd := Lib.hid hd0
  clear hd0 hx hm hl
  have hf0 := Poly.len_pos hm0
  go_enter Try.func14, Try.ntmps14
  go_wp2_with fail
  refine (chk_yes _ _ (by omega) (by omega) ((isPrime_iff p).2 hp)).mono ?_
  rintro e w' ⟨rfl, rfl⟩
  go_wp2_with fail
  refine (Cs.out _ (by exact (Below.refl _ _).alloc (Nat.le_refl _) _)).mono ?_
  rintro e w1 ⟨rfl, hb1⟩
  generalize signN neg (lmN ls k) = s at *
  have hbw : Below w.heap.size w w1 := ((Below.refl _ w).alloc (Nat.le_refl _) _).trans (hb1.mono (by simp))
  have hd1 := Hd.out.bel hb1
  clear hb1 k0 k1 Hd Cs
  go_wp2_with fail
  refine (Cm.out _ (by exact hbw)).mono ?_
  rintro e w2 ⟨A2, c2, rfl, hn2⟩
  have hb2 := hbw.trans (hn2.bel.mono hbw.size)
  have hd2 := hd1.bel hn2.bel
  have hrf := hn2.rd
  clear hn2 hd1 Cm
  have hfpos : (0 : Int) < (f.len : Int) := by omega
  have hfz : ((f.len : Int) == 0) = false := beq_eq_false_iff_ne.2 (by omega)
  go_wp2_with fail
  have hone : Ints (w2.alloc (.cells #[.int .i64 1] 3)) (some ⟨w2.heap.size, 0, none⟩) 1 (fromP (1 : Poly (Zp ⟨p, hp⟩))) := by
    rw [fromP_one hp]
    exact (Row.new w2 3 [1]).ints (fun i => by
      match i with
      | 0 => exact I64.small (by decide) (by decide)
      | i + 1 => rw [nth_ge (by simp)]; exact I64.zero)
  refine (pdivided_any _ A2 1 _ 1 c2 1 f _ hone (hrf.alloc _) (by omega) (by omega) hm0).mono ?_
  rintro e w3 ⟨Q3, cq3, A3, c3, rfl, -, hn3⟩
  have hal : Below w2.heap.size w2 (w2.alloc (.cells #[.int .i64 1] 3)) := (Below.refl _ _).alloc (Nat.le_refl _) _
  have hb3 := (hb2.trans (hal.mono hb2.size)).trans (hn3.bel.mono (by have := hb2.size; simp; omega))
  have hd3 := (hd2.bel hal).bel hn3.bel
  have hrf3 := (hrf.bel hal).bel hn3.bel
  have hN3 := newInts_sooner hn3 (hb2.trans (hal.mono hb2.size))
  clear hone hn3 hal hb2 hd2 hrf
  go_wp2_with fail
  refine (Ca.out _ (by exact hb3)).mono ?_
  rintro e w4 ⟨A4, c4, rfl, hn4⟩
  have hb4 := hb3.trans (hn4.bel.mono hb3.size)
  have hd4 := hd3.bel hn4.bel
  have hrf4 := hrf3.bel hn4.bel
  have hN4 := newInts_later hN3 hn4.bel
  have hra := hn4.rd
  clear hn4 hb3 hd3 hrf3 hN3 Ca
  go_wp2_with fail
  refine (pdivided_any A4 A2 _ _ c4 c2 a f _ hra hrf4 (by omega) (by omega) hm0).mono ?_
  rintro e w5 ⟨Q5, cq5, A5, c5, rfl, -, hn5⟩
  have hb5 := hb4.trans (hn5.bel.mono hb4.size)
  have hd5 := hd4.bel hn5.bel
  have hrf5 := hrf4.bel hn5.bel
  have hN5 := newInts_later hN4 hn5.bel
  have hrb := hn5.rd
  clear hn5 hb4 hd4 hrf4 hN4 hra
  have k0 := hd5.cell0
  have k1 := hd5.cell1
  go_wp2_with fail
  refine (Cb.out _ (by exact hb5)).mono ?_
  rintro e w' ⟨rfl, rfl⟩
  generalize hbd : bitsN ls k = b at *
  have e1 : IntKind.i64.wrap ((b : Int) - 1) = (b : Int) - 1 := IntWalk.i64_in _ (by omega)
  have hb0 : (0 : Int) ≤ (b : Int) := by omega
  go_wp2_with fail
  have HN := Lib.hid hN5
  have Hrf := Lib.hid hrf5
  have Hrb := Lib.hid hrb
  have Hb5 := Lib.hid hb5
  have Hd5 := Lib.hid hd5
  have h0N : Hid (powR a (topN (limbs ls) b 0) f = Poly.rem 1 f) := by
    show _ = _
    rw [topN_zero hfull.out, powR_zero]
  have hAl : Hid (Poly.Eqm f (Poly.rem a f) a) := Poly.eqm_rem _ hm0
  have hal : (Poly.rem a f).len ≤ 900000000 := by have := Cl.rem_len' a hm0; omega
  have hfl : f.len ≤ 900000000 := by omega
  clear hbd hN5 hrf5 hrb hb5 hd5 k0 k1 hla hlm hfz hfpos hbw Cb
  go_loopg [11, 14] (b + 1) (fun gk v i wr => ∃ (e : Nat) (j : Int) (A' : Option Addr) (c' : Nat), e ≤ b ∧ b - e < gk ∧ i = .int .i64 j ∧ j = (b : Int) - 1 - (e : Int) ∧ v = .slice A' (powR a (topN (limbs ls) b e) f).len c' ∧ Hid (NewInts 3 w wr A' c' (powR a (topN (limbs ls) b e) f).len (fromP (powR a (topN (limbs ls) b e) f))) ∧ Hid (Ints wr A2 f.len (fromP f)) ∧ Hid (Ints wr A5 (Poly.rem a f).len (fromP (Poly.rem a f))) ∧ Duo wr w.heap.size (.bool neg) (.slice B k d))
  case atStart => exact ⟨0, _, A3, c3, by omega, by omega, rfl, by omega, by rw [h0N.out], by rw [h0N.out]; exact HN, Hrf, Hrb, Hd5.out⟩
  case round =>
    obtain ⟨e, j, A', c', he, hgk, rfl, hj, rfl, hN, hF, hB, hD⟩ := hrel
    clear HN Hrf Hrb Hd5 h0N
    have hpl := Cl.rem_len' (a ^ (topN (limbs ls) b e)) hm0
    have hpl2 : (powR a (topN (limbs ls) b e) f).len ≤ 900000000 := by show (Poly.rem _ _).len ≤ _; omega
    clear hpl
    by_cases hlt : e < b
    · obtain ⟨t, ht⟩ : ∃ t, t = b - 1 - e := ⟨_, rfl⟩
      obtain rfl : j = (t : Int) := by omega
      have ht0 : (0 : Int) ≤ (t : Int) := by omega
      have htk : t / 64 < k := by omega
      have hsq : Hid (Poly.rem (powR a (topN (limbs ls) b e) f * powR a (topN (limbs ls) b e) f) f = powR a (2 * topN (limbs ls) b e) f) := powR_sq a _ hm0
      have hsN : Hid (topN (limbs ls) b (e + 1) = 2 * topN (limbs ls) b e + (nth ls (t / 64)).toNat / 2 ^ (t % 64) % 2) := by
        show _ = _
        rw [topN_succ hlt, show b - (e + 1) = t by omega, hbit.out t]
      have hmu : Hid (Poly.rem (powR a (2 * topN (limbs ls) b e) f * Poly.rem a f) f = powR a (2 * topN (limbs ls) b e + 1) f) := powR_mul a _ hm0 hAl.out
      have hpq := Cl.rem_len' (a ^ (2 * topN (limbs ls) b e)) hm0
      have hpq2 : (powR a (2 * topN (limbs ls) b e) f).len ≤ 900000000 := by show (Poly.rem _ _).len ≤ _; omega
      clear hpq
      have Hj := Lib.hid hj
      have Ht := Lib.hid ht
      have htb : (t : Int) ≤ 100000000000 := by omega
      clear hj ht
      generalize hP0 : powR a (topN (limbs ls) b e) f = P0 at *
      generalize hP1 : powR a (2 * topN (limbs ls) b e) f = P1 at *
      have HP1 := Lib.hid hP1
      clear hP0 hP1
      go_wp2_with fail
      refine (pprodP A' A' c' c' P0 P0 _ hN.out.rd hN.out.rd (by omega)).mono ?_
      rintro ee w6 ⟨A6, c6, rfl, hn6⟩
      have hb6 := hn6.bel
      have hr6 := hn6.rd
      have hl6 := Cl.prod_len' P0 P0
      clear hn6
      go_wp2_with fail
      refine (pdivided_any A6 A2 _ _ c6 c2 (P0 * P0) f _ hr6 (hF.out.bel hb6) (by omega) (by omega) hm0).mono ?_
      rintro ee w7 ⟨Q7, cq7, A7, c7, rfl, -, hn7⟩
      rw [hsq.out] at hn7 ⊢
      have hb7 := below_tr hb6 hn7.bel
      have hN7 := Lib.hid (newInts_sooner (newInts_sooner hn7 hb6) hN.out.bel)
      have hD7 := hD.bel hb7
      have k0 := hD7.cell0
      have k1 := hD7.cell1
      have hF7 := Lib.hid (hF.out.bel hb7)
      have hB7 := Lib.hid (hB.out.bel hb7)
      have hlm7 := HL.out.bel hN7.out.bel
      obtain ⟨bb, o, rfl, hbb, hcl⟩ := hlm7.at_ (by omega)
      have hcy := hcl (t / 64) htk
      have hok := hlm7.ok (t / 64)
      have HD7 := Lib.hid hD7
      have hbo := bit_one hok.1 hok.2 (t % 64)
      rcases Nat.mod_two_eq_zero_or_one ((nth ls (t / 64)).toNat / 2 ^ (t % 64)) with hpar | hpar
      · have hbq : (bits .and .u64 (nth ls (t / 64) / 2 ^ (t % 64)) 1 == 1) = false := by rw [hbo, hpar]; rfl
        have hsN2 : Hid (P1 = powR a (topN (limbs ls) b (e + 1)) f) := by
          show _ = _
          rw [hsN.out, hpar, ← HP1.out]; rfl
        clear hbo hpar hok hcl hlm7 hn7 hb6 hb7 hr6 hl6 hD7 hN hF hB hD
        go_wp2_with fail
        go_roundg (gk - 1)
        case measure => omega
        case rel => exact ⟨e + 1, _, A7, c7, by omega, by omega, rfl, by have := Hj.out; omega, by rw [← hsN2.out], by rw [← hsN2.out]; exact hN7, hF7, hB7, HD7.out⟩
      · have hbq : (bits .and .u64 (nth ls (t / 64) / 2 ^ (t % 64)) 1 == 1) = true := by rw [hbo, hpar]; rfl
        have hsN2 : Hid (Poly.rem (P1 * Poly.rem a f) f = powR a (topN (limbs ls) b (e + 1)) f) := by
          show _ = _
          rw [hsN.out, hpar]; exact hmu.out
        clear hbo hpar hok hcl hlm7 hn7 hb6 hb7 hr6 hl6 hD7 hN hF hB hD
        go_wp2_with fail
        refine (pprodP A7 A5 c7 c5 P1 (Poly.rem a f) _ hN7.out.rd hB7.out (by omega)).mono ?_
        rintro ee w8 ⟨A8, c8, rfl, hn8⟩
        have hb8 := hn8.bel
        have hr8 := hn8.rd
        have hl8 := Cl.prod_len' P1 (Poly.rem a f)
        clear hn8
        go_wp2_with fail
        refine (pdivided_any A8 A2 _ _ c8 c2 (P1 * Poly.rem a f) f _ hr8 (hF7.out.bel hb8) (by omega) (by omega) hm0).mono ?_
        rintro ee w9 ⟨Q9, cq9, A9, c9, rfl, -, hn9⟩
        rw [hsN2.out] at hn9 ⊢
        have hb9 := below_tr hb8 hn9.bel
        have hN9 := Lib.hid (newInts_sooner (newInts_sooner hn9 hb8) hN7.out.bel)
        have hD9 := Lib.hid (HD7.out.bel hb9)
        have hF9 := Lib.hid (hF7.out.bel hb9)
        have hB9 := Lib.hid (hB7.out.bel hb9)
        clear hn9 hb8 hb9 hr8 hl8
        go_wp2_with fail
        go_roundg (gk - 1)
        case measure => omega
        case rel => exact ⟨e + 1, _, A9, c9, by omega, by omega, rfl, by have := Hj.out; omega, rfl, hN9, hF9, hB9, hD9.out⟩
    · obtain rfl : e = b := by omega
      have Hfin : Hid (GivesPE w (powR a (limbs ls) f) 0 (.returned (.tuple #[.slice A' (powR a (topN (limbs ls) e e) f).len c', .int .i64 0])) wr) := by
        have := hN.out
        rw [topN_full] at this ⊢
        exact givesPE_of this
      have hjn : j < 0 := by omega
      clear hj
      go_wp2_with fail
      go_ret2
      exact Hfin.out

theorem ppow_no (A B M : Option Addr) (n c k d m cm : Nat) (neg : Bool) (p : Int) (w : World) (h3 : -9223372036854775808 ≤ p) (h4 : p ≤ 9223372036854775807) (hp : isPrime p = false) :
    Calls Try.prog 14 #[.slice A n c, .agg #[.bool neg, .slice B k d], .slice M m cm, .int .i64 p] w fun e w' => e = .returned (.tuple #[.slice none 0 0, .int .i64 1]) ∧ Below w.heap.size w w' := by
  have hb : Below w.heap.size w (w.alloc (.cells #[.bool neg, .slice B k d] 25)) := (Below.refl _ w).alloc (Nat.le_refl _) _
  go_enter Try.func14, Try.ntmps14
  go_wp2_with fail
  refine (chk_no _ _ h3 h4 hp).mono ?_
  rintro e w' ⟨rfl, rfl⟩
  go_wp2_with fail
  go_ret2
  exact ⟨rfl, hb⟩

set_option maxRecDepth 100000 in
theorem ppow_neg (A B M : Option Addr) (n c k d m cm : Nat) (neg : Bool) (ls : List Int) (p : Int) (w : World) (hp : Pr p) (hl : Limbs w B k ls) (hk : k ≤ 900000000) (hkd : k ≤ d) (hd : d ≤ 9223372036854775807) (hs : signN neg (lmN ls k) < 0) :
    Calls Try.prog 14 #[.slice A n c, .agg #[.bool neg, .slice B k d], .slice M m cm, .int .i64 p] w fun e w' => e = .returned (.tuple #[.slice none 0 0, .int .i64 1]) ∧ Below w.heap.size w w' := by
  have hp1 := hp.two
  have hp2 := hp.max
  have Cs := Lib.hid (fun W (h : Below w.heap.size w W) => zsign_any neg B k d ls W (hl.bel h) hkd hd (by omega))
  have hd0 := Duo.new w (.bool neg) (.slice B k d)
  have k0 := hd0.cell0
  have k1 := hd0.cell1
  clear hl hd0
  go_enter Try.func14, Try.ntmps14
  go_wp2_with fail
  refine (chk_yes _ _ (by omega) (by omega) ((isPrime_iff p).2 hp)).mono ?_
  rintro e w' ⟨rfl, rfl⟩
  go_wp2_with fail
  refine (Cs.out _ (by exact (Below.refl _ _).alloc (Nat.le_refl _) _)).mono ?_
  rintro e w1 ⟨rfl, hb1⟩
  generalize signN neg (lmN ls k) = s at *
  have hbw : Below w.heap.size w w1 := ((Below.refl _ w).alloc (Nat.le_refl _) _).trans (hb1.mono (by simp))
  go_wp2_with fail
  go_ret2
  exact ⟨rfl, hbw⟩

set_option maxRecDepth 100000 in
theorem ppow_zero (A B M : Option Addr) (n c k d m cm : Nat) (neg : Bool) (ls ms : List Int) (p : Int) (w : World) (hp : Pr p) (hl : Limbs w B k ls) (hm : Ints w M m ms) (hmn : m ≤ 900000000) (hk : k ≤ 900000000) (hkd : k ≤ d) (hd : d ≤ 9223372036854775807)
    (hs : ¬ signN neg (lmN ls k) < 0) (hm0 : toP ⟨p, hp⟩ ms = 0) :
    Calls Try.prog 14 #[.slice A n c, .agg #[.bool neg, .slice B k d], .slice M m cm, .int .i64 p] w fun e w' => e = .returned (.tuple #[.slice none 0 0, .int .i64 3]) ∧ Below w.heap.size w w' := by
  have hp1 := hp.two
  have hp2 := hp.max
  have Cs := Lib.hid (fun W (h : Below w.heap.size w W) => zsign_any neg B k d ls W (hl.bel h) hkd hd (by omega))
  have Cm := Lib.hid (fun W (h : Below w.heap.size w W) => pplain_any M m cm ms p W hp (hm.bel h) (by omega))
  rw [hm0] at Cm
  have hd0 := Duo.new w (.bool neg) (.slice B k d)
  have k0 := hd0.cell0
  have k1 := hd0.cell1
  clear hl hd0 hm hm0
  go_enter Try.func14, Try.ntmps14
  go_wp2_with fail
  refine (chk_yes _ _ (by omega) (by omega) ((isPrime_iff p).2 hp)).mono ?_
  rintro e w' ⟨rfl, rfl⟩
  go_wp2_with fail
  refine (Cs.out _ (by exact (Below.refl _ _).alloc (Nat.le_refl _) _)).mono ?_
  rintro e w1 ⟨rfl, hb1⟩
  generalize signN neg (lmN ls k) = s at *
  have hbw : Below w.heap.size w w1 := ((Below.refl _ w).alloc (Nat.le_refl _) _).trans (hb1.mono (by simp))
  go_wp2_with fail
  refine (Cm.out _ (by exact hbw)).mono ?_
  rintro e w2 ⟨A2, c2, rfl, hn2⟩
  have hb2 := hbw.trans (hn2.bel.mono hbw.size)
  clear hn2
  rw [Poly.len_zero]
  go_wp2_with fail
  go_ret2
  exact ⟨rfl, hb2⟩
end Go.Proofs.Yteddelfkjpljpaa
