/- Contracts by polynomials: the document's plain ones, sums, differences, products, quotients, monic ones, derivatives, values. -/
import Derived.Test.YtbcapmnklgdeoaaRefD
namespace Go.Proofs.Ytbcapmnklgdeoaa
open Go.RowKit Cl
attribute [local go_sem ↓] Go.wp_at_zero Go.wp_at_succ

section
variable {A B : Option Addr} {n m c d N M K : Nat} {p : Int} {w : World} {hp : Pr p} {a b : Poly (Zp ⟨p, hp⟩)}
theorem qplainR (ha : Rd w A n a) (hn : n ≤ N) (hN : N ≤ 900000000) : Calls Try.prog 44 #[.slice A n c, .int .i64 p] w (GivesR w N a) := by
  obtain ⟨xs, hx, rfl⟩ := ha
  have h2 : (toP ⟨p, hp⟩ xs).len ≤ n := len_le_toP hx.len
  exact (qplain_any A n c xs p w hp hx (by omega)).mono fun e w' h => GivesR.of h (by omega)
theorem qsumR (kk : Int) (hk : -65521 ≤ kk ∧ kk ≤ 65521) (ha : Rd w A n a) (hb : Rd w B m b) (hn : n ≤ N) (hm : m ≤ M) (hK : N + M ≤ K) (hK2 : K ≤ 900000000) :
    Calls Try.prog 69 #[.slice A n c, .slice B m d, .int .i64 kk, .int .i64 p] w (GivesR w K (a + Poly.C (Zp.of ⟨p, hp⟩ kk) * b)) := by
  obtain ⟨xs, hx, rfl⟩ := ha
  obtain ⟨ys, hy, rfl⟩ := hb
  have h2 : (toP ⟨p, hp⟩ xs).len ≤ n := len_le_toP hx.len
  have h3 : (toP ⟨p, hp⟩ ys).len ≤ m := len_le_toP hy.len
  have h1 := add_len (toP ⟨p, hp⟩ xs) (Poly.C (Zp.of ⟨p, hp⟩ kk) * toP ⟨p, hp⟩ ys)
  have h4 : (Poly.C (Zp.of ⟨p, hp⟩ kk) * toP ⟨p, hp⟩ ys).len ≤ (toP ⟨p, hp⟩ ys).len := Poly.len_le fun i hi => by rw [Poly.co_C_mul, Poly.len_sh _ i hi, CRing.mul_zero]
  exact (qsum_any A B n m c d xs ys kk p w hp hx hy (by omega) (by omega) hk).mono fun e w' h => GivesR.of h (by omega)
theorem qtimesR (ha : Rd w A n a) (hb : Rd w B m b) (hn : n ≤ N) (hm : m ≤ M) (hK : N + M ≤ K) (hK2 : K ≤ 400000000) :
    Calls Try.prog 45 #[.slice A n c, .slice B m d, .int .i64 p] w (GivesR w K (a * b)) := by
  obtain ⟨xs, hx, rfl⟩ := ha
  obtain ⟨ys, hy, rfl⟩ := hb
  have h1 := prod_len' (toP ⟨p, hp⟩ xs) (toP ⟨p, hp⟩ ys)
  have h2 : (toP ⟨p, hp⟩ xs).len ≤ n := len_le_toP hx.len
  have h3 : (toP ⟨p, hp⟩ ys).len ≤ m := len_le_toP hy.len
  exact (qtimes_any A B n m c d xs ys p w hp hx hy (by omega) (by omega)).mono fun e w' h => GivesR.of h (by omega)
theorem qdivR (ha : Rd w A n a) (hb : Rd w B m b) (hn : n ≤ N) (hm : m ≤ M) (hK : N ≤ 400000000) (hK2 : M ≤ 400000000) (h0 : b ≠ 0) :
    Calls Try.prog 51 #[.slice A n c, .slice B m d, .int .i64 p] w (GivesRRE w N M (Poly.quo a b) (Poly.rem a b) 0) := by
  obtain ⟨xs, hx, rfl⟩ := ha
  obtain ⟨ys, hy, rfl⟩ := hb
  refine (qdiv_yes A B n m c d xs ys p w hp hx hy (by omega) (by omega) h0).mono ?_
  rintro e w' ⟨A1, c1, B1, d1, rfl, l, k, h1, h2, hb, _⟩
  exact ⟨A1, c1, B1, d1, rfl, by omega, by omega, h1, h2, hb⟩
theorem qdivAt (ha : Rd w A n a) (hb : Rd w B m b) (hn : n ≤ N) (hm : m ≤ M) (hK : N ≤ 400000000) (hK2 : M ≤ 400000000) (h0 : b ≠ 0) :
    Calls Try.prog 51 #[.slice A n c, .slice B m d, .int .i64 p] w (GivesRREat w N M (Poly.quo a b) (Poly.rem a b) 0) := by
  obtain ⟨xs, hx, rfl⟩ := ha
  obtain ⟨ys, hy, rfl⟩ := hb
  refine (qdiv_yes A B n m c d xs ys p w hp hx hy (by omega) (by omega) h0).mono ?_
  rintro e w' ⟨A1, c1, B1, d1, rfl, l, k, h1, h2, hb, hl⟩
  exact ⟨A1, c1, B1, d1, rfl, by omega, by omega, h1, h2, hb, hl⟩
theorem qdiv0R (hb : Rd w B m b) (hm : m ≤ M) (hK2 : M ≤ 900000000) (h0 : b = 0) :
    Calls Try.prog 51 #[.slice A n c, .slice B m d, .int .i64 p] w fun e w' => e = .returned (.tuple #[.slice none 0 0, .slice none 0 0, .int .i64 3]) ∧ Below w.heap.size w w' := by
  have hp1 := hp.two
  have hp2 := hp.max
  have C0 := qplainR (c := d) hb hm hK2
  rw [h0] at C0
  have C := Lib.hid C0
  have Hz := Lib.hid (Poly.len_zero (F := Zp ⟨p, hp⟩))
  clear C0 hb h0
  go_enter Try.func51, Try.ntmps51
  go_wp2_with fail
  refine (rchk_yes _ _ (by omega) (by omega) ((isPrime_iff p).2 hp)).mono ?_
  rintro e w' ⟨rfl, rfl⟩
  go_wp2_with fail
  refine C.out.mono ?_
  rintro e w1 ⟨A1, c1, rfl, l1, h1, hb1⟩
  rw [Hz.out]
  go_wp2_with fail
  go_ret3
  exact ⟨rfl, hb1⟩
theorem qmonicR (ha : Rd w A n a) (hn : n ≤ N) (hN : N ≤ 300000000) : Calls Try.prog 32 #[.slice A n c, .int .i64 p] w (GivesRE w N a.monic 0) := by
  have hp1 := hp.two
  have hp2 := hp.max
  have C := Lib.hid (qplainR (c := c) ha hn (by omega))
  have hml := monic_len_le a
  have han : a.len ≤ n := by obtain ⟨xs, hx, rfl⟩ := ha; exact len_le_toP hx.len
  clear ha
  by_cases h0 : a = 0
  · have g0 : ((a.len : Int) == 0) = true := by rw [h0, Poly.len_zero]; rfl
    have Hm : Hid (a.monic = 0) := by rw [h0]; exact Poly.monic_zero
    clear h0
    go_enter Try.func32, Try.ntmps32
    go_wp2_with fail
    refine (rchk_yes _ _ (by omega) (by omega) ((isPrime_iff p).2 hp)).mono ?_
    rintro e w' ⟨rfl, rfl⟩
    go_wp2_with fail
    refine C.out.mono ?_
    rintro e w1 ⟨A1, c1, rfl, l1, h1, hb1⟩
    go_wp2_with fail
    go_ret2
    rw [Hm.out]
    have hz : (0 : Poly (Zp ⟨p, hp⟩)).len = 0 := Poly.len_zero
    refine ⟨none, 0, by rw [hz]; rfl, by omega, ?_, hb1⟩
    rw [fromP_zero, hz]
    exact ⟨rfl, fun h => absurd h (by omega), fun i => by rw [nth_ge (by simp)]; exact I64.zero⟩
  · have hlp := Poly.len_pos h0
    have g0 : ((a.len : Int) == 0) = false := beq_eq_false_iff_ne.2 (by omega)
    have Hlc : Hid (Zp.of ⟨p, hp⟩ (nth (fromP a) (a.len - 1)) = a.lc) := fromP_top h0
    have hbd := fromP_lt a (a.len - 1)
    have htop := (fromP_pl a).top (by rw [fromP_length]; exact hlp)
    rw [fromP_length] at htop
    have Hbd : Hid (0 < nth (fromP a) (a.len - 1) ∧ nth (fromP a) (a.len - 1) < p) := ⟨by have := hbd.1; omega, hbd.2⟩
    have Hinv : Hid (toP ⟨p, hp⟩ [invm (nth (fromP a) (a.len - 1)) p] = Poly.C (CField.inv a.lc)) := by
      show _ = _
      rw [toP_one, ← Hlc.out]
      congr 1
      exact (Zp.inv_of (q := ⟨p, hp⟩) _).symm
    have Ci := Lib.hid (fun W => qinv_any (nth (fromP a) (a.len - 1)) p W hp Hbd.out)
    have hib := invm_bd (nth (fromP a) (a.len - 1)) hp
    have ea : ((a.len : Int) - 1).toNat = a.len - 1 := by omega
    have eb : (0 : Int) ≤ (a.len : Int) - 1 := by omega
    have ec : (a.len : Int) - 1 < (a.len : Int) := by omega
    have Hm : Hid (a * Poly.C (CField.inv a.lc) = a.monic) := CRing.mul_comm _ _
    clear h0 hbd htop
    generalize invm (nth (fromP a) (a.len - 1)) p = top at *
    go_enter Try.func32, Try.ntmps32
    go_wp2_with fail
    refine (rchk_yes _ _ (by omega) (by omega) ((isPrime_iff p).2 hp)).mono ?_
    rintro e w' ⟨rfl, rfl⟩
    go_wp2_with fail
    refine C.out.mono ?_
    rintro e w1 ⟨A1, c1, rfl, l1, h1, hb1⟩
    obtain ⟨b, o, rfl, hb, hc⟩ := h1.at_ (by omega)
    have hcl := hc (a.len - 1) (by omega)
    clear hc
    go_wp2_with fail
    refine (Ci.out _).mono ?_
    rintro e w' ⟨rfl, rfl⟩
    go_wp2_with fail
    have hrow := Row.new w1 3 [top]
    have hin := hrow.ints (fun i => by
      match i with
      | 0 => show I64 top; exact I64.small hib.1 (by omega)
      | i + 1 => rw [nth_ge (by simp)]; exact I64.zero)
    have h2 := h1.alloc (.cells (ints [top]).toArray 3)
    have ct := qtimesR (hp := hp) (N := N) (M := 1) (K := N + 1) (c := c1) (d := 1) (Rd.of h2) (Rd.of_list hin) l1 (Nat.le_refl _) (Nat.le_refl _) (by omega)
    rw [Hinv.out, Hm.out] at ct
    refine ct.mono ?_
    rintro e w3 ⟨A3, c3, rfl, l3, h3, hb3⟩
    go_wp2_with fail
    go_ret2
    exact ⟨_, _, rfl, by omega, h3, below_tr (below_tr hb1 ((Below.refl _ _).alloc (Nat.le_refl _) _)) hb3⟩
end
theorem qmonic_no (A : Option Addr) (n c : Nat) (p : Int) (w : World) (h3 : -9223372036854775808 ≤ p) (h4 : p ≤ 9223372036854775807) (hp : isPrime p = false) :
    Calls Try.prog 32 #[.slice A n c, .int .i64 p] w fun e w' => e = .returned (.tuple #[.slice none 0 0, .int .i64 1]) ∧ w = w' := by
  go_enter Try.func32, Try.ntmps32
  go_wp2_with fail
  refine (rchk_no _ _ h3 h4 hp).mono ?_
  rintro e w' ⟨rfl, rfl⟩
  go_wp2_with fail
  go_ret2
  exact ⟨rfl, rfl⟩
theorem qderiv_no (A : Option Addr) (n c : Nat) (p : Int) (w : World) (h3 : -9223372036854775808 ≤ p) (h4 : p ≤ 9223372036854775807) (hp : isPrime p = false) :
    Calls Try.prog 47 #[.slice A n c, .int .i64 p] w fun e w' => e = .returned (.tuple #[.slice none 0 0, .int .i64 1]) ∧ w = w' := by
  go_enter Try.func47, Try.ntmps47
  go_wp2_with fail
  refine (rchk_no _ _ h3 h4 hp).mono ?_
  rintro e w' ⟨rfl, rfl⟩
  go_wp2_with fail
  go_ret2
  exact ⟨rfl, rfl⟩
theorem qdiv_no (A B : Option Addr) (n c m d : Nat) (p : Int) (w : World) (h3 : -9223372036854775808 ≤ p) (h4 : p ≤ 9223372036854775807) (hp : isPrime p = false) :
    Calls Try.prog 51 #[.slice A n c, .slice B m d, .int .i64 p] w fun e w' => e = .returned (.tuple #[.slice none 0 0, .slice none 0 0, .int .i64 1]) ∧ w = w' := by
  go_enter Try.func51, Try.ntmps51
  go_wp2_with fail
  refine (rchk_no _ _ h3 h4 hp).mono ?_
  rintro e w' ⟨rfl, rfl⟩
  go_wp2_with fail
  go_ret3
  exact ⟨rfl, rfl⟩
end Go.Proofs.Ytbcapmnklgdeoaa
