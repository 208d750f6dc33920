/- Contracts: the program's plain polynomials, sums, differences, products, quotients, monic ones. -/
import Derived.Test.YtbcapmnklgdeoaaFpolyD
namespace Go.Proofs.Ytbcapmnklgdeoaa
open Go.RowKit Cl
attribute [local go_sem ↓] Go.wp_at_zero Go.wp_at_succ

section
variable {q : Prm}
theorem one_times (a b : Poly (Zp q)) : a + Poly.C (Zp.of q 1) * b = a + b := by rw [Zp.of_one, Poly.C_one, CRing.one_mul]
theorem less_times (a b : Poly (Zp q)) : a + Poly.C (Zp.of q (q.p - 1)) * b = a - b := by
  have e : Zp.of q (q.p - 1) = -1 := by
    rw [← Zp.of_one, ← Zp.of_neg]
    exact Zp.of_cg ⟨1, by omega⟩
  rw [e, Poly.C_neg, Poly.C_one, CRing.neg_mul, CRing.one_mul, CRing.sub_def]
theorem neg_times (a b : Poly (Zp q)) : a + Poly.C (Zp.of q (-1)) * b = a - b := by
  rw [show Zp.of q (-1) = -1 by rw [← Zp.of_one, ← Zp.of_neg], Poly.C_neg, Poly.C_one, CRing.neg_mul, CRing.one_mul, CRing.sub_def]
theorem len_le_toP {xs : List Int} {n : Nat} (h : xs.length = n) : (toP q xs).len ≤ n := h ▸ len_toP_le xs
theorem givesPE_of {w w' : World} {x : Poly (Zp q)} {A : Option Addr} {n c : Nat} {err : Int} (h1 : NewInts 3 w w' A c n (fromP x)) : GivesPE w x err (.returned (.tuple #[.slice A n c, .int .i64 err])) w' := by
  obtain rfl : x.len = n := by have := h1.len; rw [fromP_length] at this; exact this
  exact ⟨_, _, rfl, h1⟩
theorem newInts_nil {w w' : World} (hb : Below w.heap.size w w') : NewInts 3 w w' none 0 0 (fromP (0 : Poly (Zp q))) :=
  NewInts.of (by rw [fromP_zero]; exact World.ownsRow_nil _ _ _ _) (by rw [fromP_zero]; rfl) (fromP_i64 _) hb
end

theorem fromP_one {p : Int} (hp : Pr p) : fromP (1 : Poly (Zp ⟨p, hp⟩)) = [1] := by
  have h := (IsPl.eq_fromP (q := ⟨p, hp⟩) (xs := [1]) ⟨fun i => by
    match i with
    | 0 => show 0 ≤ (1 : Int) ∧ (1 : Int) < p; have := hp.two; omega
    | i + 1 => rw [nth_ge (by simp)]; have := hp.two; show 0 ≤ (0 : Int) ∧ (0 : Int) < p; omega, fun _ => by decide⟩)
  rw [← h]
  congr 1
  rw [toP_one]; rfl

theorem pnorm_yes (A : Option Addr) (n c : Nat) (xs : List Int) (p : Int) (w : World) (hp : Pr p) (hx : Ints w A n xs) (hn : n * 8 ≤ 281474976710656) :
    Calls Try.prog 13 #[.slice A n c, .int .i64 p] w (GivesPE w (toP ⟨p, hp⟩ xs) 0) := by
  have hp1 := hp.two
  have hp2 := hp.max
  have Cp := Lib.hid (pplain_any A n c xs p w hp hx hn)
  go_enter Try.func13, Try.ntmps13
  go_wp2_with fail
  refine (chk_yes _ _ (by omega) (by omega) ((isPrime_iff p).2 hp)).mono ?_
  rintro e w' ⟨rfl, rfl⟩
  go_wp2_with fail
  refine Cp.out.mono ?_
  rintro e w1 ⟨A1, c1, rfl, hn1⟩
  go_wp2_with fail
  go_ret2
  exact givesPE_of hn1

theorem pnorm_no (A : Option Addr) (n c : Nat) (p : Int) (w : World) (h3 : -9223372036854775808 ≤ p) (h4 : p ≤ 9223372036854775807) (hp : isPrime p = false) :
    Calls Try.prog 13 #[.slice A n c, .int .i64 p] w fun e w' => e = .returned (.tuple #[.slice none 0 0, .int .i64 1]) ∧ w = w' := by
  go_enter Try.func13, Try.ntmps13
  go_wp2_with fail
  refine (chk_no _ _ h3 h4 hp).mono ?_
  rintro e w' ⟨rfl, rfl⟩
  go_wp2_with fail
  go_ret2
  exact ⟨rfl, rfl⟩

theorem pmul_yes (A B : Option Addr) (n c m d : Nat) (xs ys : List Int) (p : Int) (w : World) (hp : Pr p) (hx : Ints w A n xs) (hy : Ints w B m ys) (hn : n * 8 ≤ 140737488355328) (hm : m * 8 ≤ 140737488355328) :
    Calls Try.prog 23 #[.slice A n c, .slice B m d, .int .i64 p] w (GivesPE w (toP ⟨p, hp⟩ xs * toP ⟨p, hp⟩ ys) 0) := by
  have hp1 := hp.two
  have hp2 := hp.max
  have Ca := Lib.hid (pplain_any A n c xs p w hp hx (by omega))
  have Cb := Lib.hid (fun W (h : Below w.heap.size w W) => pplain_any B m d ys p W hp (hy.bel h) (by omega))
  have hla : (toP ⟨p, hp⟩ xs).len ≤ n := len_le_toP hx.len
  have hlb : (toP ⟨p, hp⟩ ys).len ≤ m := len_le_toP hy.len
  have Cc := Lib.hid (fun A1 c1 A2 c2 W (h1 : Ints W A1 (toP ⟨p, hp⟩ xs).len (fromP (toP ⟨p, hp⟩ xs))) (h2 : Ints W A2 (toP ⟨p, hp⟩ ys).len (fromP (toP ⟨p, hp⟩ ys))) => pprodP A1 A2 c1 c2 _ _ W h1 h2 (by omega))
  go_enter Try.func23, Try.ntmps23
  go_wp2_with fail
  refine (chk_yes _ _ (by omega) (by omega) ((isPrime_iff p).2 hp)).mono ?_
  rintro e w' ⟨rfl, rfl⟩
  go_wp2_with fail
  refine Ca.out.mono ?_
  rintro e w1 ⟨A1, c1, rfl, hn1⟩
  go_wp2_with fail
  refine (Cb.out _ hn1.bel).mono ?_
  rintro e w2 ⟨A2, c2, rfl, hn2⟩
  go_wp2_with fail
  refine (Cc.out A1 c1 A2 c2 w2 (hn1.rd.bel hn2.bel) hn2.rd).mono ?_
  rintro e w3 ⟨A3, c3, rfl, hn3⟩
  go_wp2_with fail
  go_ret2
  have hn4 := newInts_sooner hn3 (below_tr hn1.bel hn2.bel)
  exact givesPE_of hn4

theorem pmul_no (A B : Option Addr) (n c m d : Nat) (p : Int) (w : World) (h3 : -9223372036854775808 ≤ p) (h4 : p ≤ 9223372036854775807) (hp : isPrime p = false) :
    Calls Try.prog 23 #[.slice A n c, .slice B m d, .int .i64 p] w fun e w' => e = .returned (.tuple #[.slice none 0 0, .int .i64 1]) ∧ w = w' := by
  go_enter Try.func23, Try.ntmps23
  go_wp2_with fail
  refine (chk_no _ _ h3 h4 hp).mono ?_
  rintro e w' ⟨rfl, rfl⟩
  go_wp2_with fail
  go_ret2
  exact ⟨rfl, rfl⟩

theorem givesPPE_of {q : Prm} {w w' : World} {x y : Poly (Zp q)} {A B : Option Addr} {n c m d : Nat} {err : Int} (h1 : NewInts 3 w w' A c n (fromP x)) (h2 : NewInts 3 w w' B d m (fromP y)) :
    GivesPPE w x y err (.returned (.tuple #[.slice A n c, .slice B m d, .int .i64 err])) w' := by
  obtain rfl : x.len = n := by have := h1.len; rw [fromP_length] at this; exact this
  obtain rfl : y.len = m := by have := h2.len; rw [fromP_length] at this; exact this
  exact ⟨_, _, _, _, rfl, h1, h2⟩
theorem pdiv_yes (A B : Option Addr) (n c m d : Nat) (xs ys : List Int) (p : Int) (w : World) (hp : Pr p) (hx : Ints w A n xs) (hy : Ints w B m ys) (hn : n * 8 ≤ 140737488355320) (hm : m * 8 ≤ 140737488355320) (hb0 : toP ⟨p, hp⟩ ys ≠ 0) :
    Calls Try.prog 22 #[.slice A n c, .slice B m d, .int .i64 p] w (GivesPPE w (Poly.quo (toP ⟨p, hp⟩ xs) (toP ⟨p, hp⟩ ys)) (Poly.rem (toP ⟨p, hp⟩ xs) (toP ⟨p, hp⟩ ys)) 0) := by
  have hp1 := hp.two
  have hp2 := hp.max
  have Cb := Lib.hid (pplain_any B m d ys p w hp hy (by omega))
  have Ca := Lib.hid (fun W (h : Below w.heap.size w W) => pplain_any A n c xs p W hp (hx.bel h) (by omega))
  have hla : (toP ⟨p, hp⟩ xs).len ≤ n := len_le_toP hx.len
  have hlb : (toP ⟨p, hp⟩ ys).len ≤ m := len_le_toP hy.len
  have hlp := Poly.len_pos hb0
  have hne : (((toP ⟨p, hp⟩ ys).len : Int) == 0) = false := beq_eq_false_iff_ne.2 (by omega)
  have Cc := Lib.hid (fun A1 c1 A2 c2 W (h1 : Ints W A1 (toP ⟨p, hp⟩ xs).len (fromP (toP ⟨p, hp⟩ xs))) (h2 : Ints W A2 (toP ⟨p, hp⟩ ys).len (fromP (toP ⟨p, hp⟩ ys))) => pdivided_any A1 A2 _ _ c1 c2 _ _ W h1 h2 (by omega) (by omega) hb0)
  go_enter Try.func22, Try.ntmps22
  go_wp2_with fail
  refine (chk_yes _ _ (by omega) (by omega) ((isPrime_iff p).2 hp)).mono ?_
  rintro e w' ⟨rfl, rfl⟩
  go_wp2_with fail
  refine Cb.out.mono ?_
  rintro e w1 ⟨A1, c1, rfl, hn1⟩
  go_wp2_with fail
  refine (Ca.out _ hn1.bel).mono ?_
  rintro e w2 ⟨A2, c2, rfl, hn2⟩
  go_wp2_with fail
  refine (Cc.out A2 c2 A1 c1 w2 hn2.rd (hn1.rd.bel hn2.bel)).mono ?_
  rintro e w3 ⟨A3, c3, A4, c4, rfl, hn3, hn4⟩
  go_wp2_with fail
  go_ret3
  exact givesPPE_of (newInts_sooner hn3 (below_tr hn1.bel hn2.bel)) (newInts_sooner hn4 (below_tr hn1.bel hn2.bel))
theorem pdiv_zero (A B : Option Addr) (n c m d : Nat) (ys : List Int) (p : Int) (w : World) (hp : Pr p) (hy : Ints w B m ys) (hm : m * 8 ≤ 140737488355320) (hb0 : toP ⟨p, hp⟩ ys = 0) :
    Calls Try.prog 22 #[.slice A n c, .slice B m d, .int .i64 p] w fun e w' => e = .returned (.tuple #[.slice none 0 0, .slice none 0 0, .int .i64 3]) ∧ Below w.heap.size w w' := by
  have hp1 := hp.two
  have hp2 := hp.max
  have cb := pplain_any B m d ys p w hp hy (by omega)
  rw [hb0] at cb
  have Cb := Lib.hid cb
  have hz : (0 : Poly (Zp ⟨p, hp⟩)).len = 0 := Poly.len_zero
  have Hz := Lib.hid hz
  clear cb hb0 hz
  go_enter Try.func22, Try.ntmps22
  go_wp2_with fail
  refine (chk_yes _ _ (by omega) (by omega) ((isPrime_iff p).2 hp)).mono ?_
  rintro e w' ⟨rfl, rfl⟩
  go_wp2_with fail
  refine Cb.out.mono ?_
  rintro e w1 ⟨A1, c1, rfl, hn1⟩
  rw [Hz.out]
  go_wp2_with fail
  go_ret3
  exact ⟨rfl, hn1.bel⟩

theorem pdiv_no (A B : Option Addr) (n c m d : Nat) (p : Int) (w : World) (h3 : -9223372036854775808 ≤ p) (h4 : p ≤ 9223372036854775807) (hp : isPrime p = false) :
    Calls Try.prog 22 #[.slice A n c, .slice B m d, .int .i64 p] w fun e w' => e = .returned (.tuple #[.slice none 0 0, .slice none 0 0, .int .i64 1]) ∧ w = w' := by
  go_enter Try.func22, Try.ntmps22
  go_wp2_with fail
  refine (chk_no _ _ h3 h4 hp).mono ?_
  rintro e w' ⟨rfl, rfl⟩
  go_wp2_with fail
  go_ret3
  exact ⟨rfl, rfl⟩

theorem pmonic_yes (A : Option Addr) (n c : Nat) (xs : List Int) (p : Int) (w : World) (hp : Pr p) (hx : Ints w A n xs) (hn : n * 8 ≤ 281474976710640) :
    Calls Try.prog 38 #[.slice A n c, .int .i64 p] w (GivesPE w (Poly.monic (toP ⟨p, hp⟩ xs)) 0) := by
  have hp1 := hp.two
  have hp2 := hp.max
  have ca := pplain_any A n c xs p w hp hx (by omega)
  have hla : (toP ⟨p, hp⟩ xs).len ≤ n := len_le_toP hx.len
  by_cases h0 : toP ⟨p, hp⟩ xs = 0
  · rw [h0] at ca ⊢
    have Ca := Lib.hid ca
    have Hz := Lib.hid (Poly.len_zero (F := Zp ⟨p, hp⟩))
    clear ca h0 hla
    go_enter Try.func38, Try.ntmps38
    go_wp2_with fail
    refine (chk_yes _ _ (by omega) (by omega) ((isPrime_iff p).2 hp)).mono ?_
    rintro e w' ⟨rfl, rfl⟩
    go_wp2_with fail
    refine Ca.out.mono ?_
    rintro e w1 ⟨A1, c1, rfl, hn1⟩
    rw [Hz.out]
    go_wp2_with fail
    go_ret2
    rw [Poly.monic_zero]
    exact givesPE_of (newInts_nil hn1.bel)
  · have Ca := Lib.hid ca
    have hlp := Poly.len_pos h0
    have Hlc : Hid (Zp.of ⟨p, hp⟩ (nth (fromP (toP ⟨p, hp⟩ xs)) ((toP ⟨p, hp⟩ xs).len - 1)) = (toP ⟨p, hp⟩ xs).lc) := fromP_top h0
    have hbd := fromP_lt (toP ⟨p, hp⟩ xs) ((toP ⟨p, hp⟩ xs).len - 1)
    have htop := (fromP_pl (toP ⟨p, hp⟩ xs)).top (by rw [fromP_length]; exact hlp)
    rw [fromP_length] at htop
    have Hbd : Hid (0 < nth (fromP (toP ⟨p, hp⟩ xs)) ((toP ⟨p, hp⟩ xs).len - 1) ∧ nth (fromP (toP ⟨p, hp⟩ xs)) ((toP ⟨p, hp⟩ xs).len - 1) < p) := ⟨by have := hbd.1; omega, hbd.2⟩
    clear ca htop hbd
    generalize hP : toP ⟨p, hp⟩ xs = P at *
    clear hP
    obtain ⟨L, hL⟩ : ∃ L, P.len = L + 1 := ⟨P.len - 1, by omega⟩
    have HL := Lib.hid hL
    rw [hL] at hla Hlc Hbd
    simp only [Nat.add_sub_cancel] at Hlc Hbd
    clear hL hlp
    go_enter Try.func38, Try.ntmps38
    go_wp2_with fail
    refine (chk_yes _ _ (by omega) (by omega) ((isPrime_iff p).2 hp)).mono ?_
    rintro e w' ⟨rfl, rfl⟩
    go_wp2_with fail
    refine Ca.out.mono ?_
    rintro e w1 ⟨A1, c1, rfl, hn1⟩
    have hrd := hn1.rd
    have hb1 := hn1.bel
    rw [HL.out] at hrd ⊢
    obtain ⟨b, o, rfl, hb, hc⟩ := hrd.at_ (by omega)
    have hcl := hc L (by omega)
    clear hc hn1
    go_wp2_with fail
    refine (pscaled_any _ (L + 1) _ P _ w1 hrd (by omega) Hbd.out).mono ?_
    rintro e w2 ⟨A2, c2, rfl, hn2⟩
    rw [Hlc.out] at hn2 ⊢
    go_wp2_with fail
    go_ret2
    exact givesPE_of (newInts_sooner hn2 hb1)

theorem pmonic_no (A : Option Addr) (n c : Nat) (p : Int) (w : World) (h3 : -9223372036854775808 ≤ p) (h4 : p ≤ 9223372036854775807) (hp : isPrime p = false) :
    Calls Try.prog 38 #[.slice A n c, .int .i64 p] w fun e w' => e = .returned (.tuple #[.slice none 0 0, .int .i64 1]) ∧ w = w' := by
  go_enter Try.func38, Try.ntmps38
  go_wp2_with fail
  refine (chk_no _ _ h3 h4 hp).mono ?_
  rintro e w' ⟨rfl, rfl⟩
  go_wp2_with fail
  go_ret2
  exact ⟨rfl, rfl⟩

end Go.Proofs.Ytbcapmnklgdeoaa
