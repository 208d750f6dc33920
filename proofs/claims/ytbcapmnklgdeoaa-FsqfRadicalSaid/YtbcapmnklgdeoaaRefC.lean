/- Contracts: the document's products and inverses. -/
import Derived.Test.YtbcapmnklgdeoaaRefB
namespace Go.Proofs.Ytbcapmnklgdeoaa
open Go.RowKit Cl
attribute [local go_sem ↓] Go.wp_at_zero Go.wp_at_succ

set_option maxRecDepth 100000 in
set_option maxHeartbeats 4000000 in
theorem qtimes_any (A B : Option Addr) (n m c d : Nat) (xs ys : List Int) (p : Int) (w : World) (hp : Pr p) (hx : Ints w A n xs) (hy : Ints w B m ys) (hn : n ≤ 400000000) (hm : m ≤ 400000000) :
    Calls Try.prog 45 #[.slice A n c, .slice B m d, .int .i64 p] w (GivesP w (toP ⟨p, hp⟩ xs * toP ⟨p, hp⟩ ys)) := by
  have hp1 := hp.two
  have hp2 := hp.max
  have hp0 : ¬ p = 0 := by omega
  have Ca := Lib.hid (qplain_any A n c xs p w hp hx (by omega))
  have Cb := Lib.hid (fun W (h : Below w.heap.size w W) => qplain_any B m d ys p W hp (hy.bel h) (by omega))
  have hla : (toP ⟨p, hp⟩ xs).len ≤ n := len_le_toP hx.len
  have hlb : (toP ⟨p, hp⟩ ys).len ≤ m := len_le_toP hy.len
  generalize toP ⟨p, hp⟩ xs = P at *
  generalize toP ⟨p, hp⟩ ys = Q at *
  have Hpx := Lib.hid (fromP_pl P).pl
  have Hpy := Lib.hid (fromP_pl Q).pl
  have hmk := make_ints (P.len + Q.len) (by omega)
  rw [show ((P.len + Q.len : Nat) : Int) = (P.len : Int) + (Q.len : Int) by omega] at hmk
  have hst0 : Hid (MulSt ⟨p, hp⟩ (fromP P) (fromP Q) 0 0 (List.replicate (P.len + Q.len) 0)) := by
    have := MulSt.start (q := ⟨p, hp⟩) (fromP P) (fromP Q)
    rw [fromP_length, fromP_length] at this; exact this
  have Hdone : Hid (∀ out, MulSt ⟨p, hp⟩ (fromP P) (fromP Q) P.len 0 out → toP ⟨p, hp⟩ out = P * Q) := fun out h => by
    have := MulSt.done (q := ⟨p, hp⟩) (xs := fromP P) (ys := fromP Q) (out := out) (by rw [fromP_length]; exact h)
    rwa [toP_fromP, toP_fromP] at this
  have Hxl := Lib.hid (fromP_length P)
  have Hyl := Lib.hid (fromP_length Q)
  go_enter Try.func45, Try.ntmps45
  go_wp2_with fail
  refine Ca.out.mono ?_
  rintro e w1 ⟨A1, c1, rfl, hn1⟩
  have hr1 := hn1.rd
  have hb1 := hn1.bel
  clear hn1
  go_wp2_with fail
  refine (Cb.out _ hb1).mono ?_
  rintro e w2 ⟨A2, c2, rfl, hn2⟩
  have hr2 := hn2.rd
  have hb2 := hn2.bel
  clear hn2
  have hr1' := hr1.bel hb2
  clear hr1
  have hb12 := Lib.hid (below_tr hb1 hb2)
  clear hb1 hb2
  generalize P.len = n1 at *
  generalize Q.len = m1 at *
  have hrow0 := Row.new w2 3 (List.replicate (n1 + m1) 0)
  go_wp2
  go_loopw [10] (fun i wr => ∃ (k : Nat) (out : List Int), k ≤ n1 ∧ i = .int .i64 k ∧ Hid (MulSt ⟨p, hp⟩ (fromP P) (fromP Q) k 0 out) ∧ Row wr w2.heap.size 3 out ∧ Below w2.heap.size w2 wr) (fun i _ => n1 - (intOf i).toNat)
  case atStart => exact ⟨0, _, by omega, rfl, hst0, hrow0, (Below.refl _ _).alloc (Nat.le_refl _) _⟩
  case round =>
    obtain ⟨k, out, hk, rfl, hst, hrow, hbel⟩ := hrel
    obtain ⟨wo, rfl⟩ : ∃ wo : World, wo = wr := ⟨_, rfl⟩
    by_cases hlt : k < n1
    · obtain ⟨b, o, rfl, hb, hc⟩ := hr1'.at_ (by omega)
      obtain ⟨l1, l2⟩ := Hpx.out k
      go_wp2
      go_loopw [11] (fun i wr => ∃ (j : Nat) (out : List Int), j ≤ m1 ∧ i = .int .i64 j ∧ Hid (MulSt ⟨p, hp⟩ (fromP P) (fromP Q) k j out) ∧ Row wr w2.heap.size 3 out ∧ Below w2.heap.size w2 wr) (fun i _ => m1 - (intOf i).toNat)
      case atStart => exact ⟨0, out, by omega, rfl, hst, hrow, hbel⟩
      case round =>
        obtain ⟨j, out2, hj, rfl, hst2, hrow2, hbel2⟩ := hrel
        by_cases hjl : j < m1
        · obtain ⟨b2, o2, rfl, hb2, hc2⟩ := hr2.at_ (by omega)
          have hcx : wr.cell? ⟨b, o + k, none⟩ = some (.int .i64 (nth (fromP P) k)) := (hbel2.cell (p := ⟨b, o + k, none⟩) hb).trans (hc k hlt)
          have hcy : wr.cell? ⟨b2, o2 + j, none⟩ = some (.int .i64 (nth (fromP Q) j)) := (hbel2.cell (p := ⟨b2, o2 + j, none⟩) hb2).trans (hc2 j hjl)
          have hol : k + j < out2.length := by have := hst2.out.len; rw [Hxl.out, Hyl.out] at this; omega
          have hco := hrow2.cell (i := k + j) hol
          have hfo := hrow2.frozen (k + j)
          obtain ⟨l3, l4⟩ := Hpy.out j
          obtain ⟨l5, l6⟩ := hst2.out.pl (k + j)
          have l6' : nth out2 (k + j) < p := l6
          have hm1 : 0 ≤ nth (fromP P) k * nth (fromP Q) j := Int.mul_nonneg l1 l3
          have hm2 : nth (fromP P) k * nth (fromP Q) j ≤ 65521 * 65521 := Int.mul_le_mul (by omega) (by omega) l3 (by omega)
          have hset := Lib.hid (hrow2.set (k + j) ((nth out2 (k + j) + nth (fromP P) k * nth (fromP Q) j) % p))
          have hstep := Lib.hid (hst2.out.step (by rw [Hxl.out]; exact hlt) (by rw [Hyl.out]; exact hjl))
          have ea : ((k : Int) + (j : Int)).toNat = k + j := by omega
          have eb : (k : Int) + (j : Int) < (n1 : Int) + (m1 : Int) := by omega
          have ec : (k : Int) < (n1 : Int) := by omega
          have ed : (j : Int) < (m1 : Int) := by omega
          clear hc2 hol l6
          have e1 : IntKind.i64.wrap (nth (fromP P) k * nth (fromP Q) j) = nth (fromP P) k * nth (fromP Q) j := IntWalk.i64_in _ (by omega)
          have e2 : IntKind.i64.wrap (nth out2 (k + j) + nth (fromP P) k * nth (fromP Q) j) = nth out2 (k + j) + nth (fromP P) k * nth (fromP Q) j := IntWalk.i64_in _ (by omega)
          have e3 : IntKind.i64.wrap ((k : Int) + (j : Int)) = (k : Int) + (j : Int) := IntWalk.i64_in _ (by omega)
          have hb9 := hbel2.setCell (p := ⟨w2.heap.size, k + j, none⟩) (Nat.le_refl _) (.int .i64 ((nth out2 (k + j) + nth (fromP P) k * nth (fromP Q) j) % p))
          clear hbel2 hrow2
          go_wp2
          go_region
          go_wp2
          go_roundw
          case rel => exact ⟨j + 1, _, by omega, by go_num, hstep, hset.out.drew, hb9.drew⟩
          case measure => simp [intOf]; omega
        · obtain rfl : m1 = j := by omega
          have hrw : Hid (MulSt ⟨p, hp⟩ (fromP P) (fromP Q) (k + 1) 0 out2) := MulSt.row (by rw [Hyl.out]; exact hst2.out)
          go_wp2
          go_roundw
          case rel => exact ⟨k + 1, out2, by omega, by go_num, hrw, hrow2, hbel2⟩
          case measure => simp [intOf]; omega
    · obtain rfl : n1 = k := by omega
      have hdone := Hdone.out out hst.out
      have hin := hrow.ints (fun i => (Pl.i64 hst.out.pl hp2 i))
      have hol : out.length = n1 + m1 := by rw [hst.out.len, Hxl.out, Hyl.out]
      rw [hol] at hin
      have cp := qplain_any _ (n1 + m1) (n1 + m1) _ p wo hp hin (by omega)
      rw [hdone] at cp
      have Cp := Lib.hid cp
      clear cp hdone hol
      go_wp2_with fail
      refine Cp.out.mono ?_
      rintro e w4 ⟨A4, c4, rfl, h4⟩
      go_wp2_with fail
      go_ret
      exact ⟨A4, c4, rfl, newInts_sooner h4 (below_tr hb12.out hbel)⟩

/-- A residue's inverse, as the document has it. -/
theorem qinv_any (a p : Int) (w : World) (hp : Pr p) (ha : 0 < a ∧ a < p) :
    Calls Try.prog 46 #[.int .i64 a, .int .i64 p] w fun e w' => e = .returned (.int .i64 (invm a p)) ∧ w = w' := by
  have hp1 := hp.two
  have hp2 := hp.max
  obtain ⟨ha1, ha2⟩ := ha
  have hw : IntKind.i64.wrap (p - 2) = p - 2 := IntWalk.i64_in _ (by omega)
  have Cp := Lib.hid (rpow_yes a (p - 2) p w (by omega) (by omega) (by omega) (by omega) (by omega) (by omega) ((isPrime_iff p).2 hp))
  by_cases h2 : p = 2
  · have h1 : a = 1 := by omega
    have Hi : Hid (invm a p = 1) := by
      refine (invm_unique hp (t := 1) (by omega) (by omega) ?_).symm
      rw [h1]; exact Cg.refl _ _
    have h2' : (p == 2) = true := by simp [h2]
    clear h2 h1
    go_enter Try.func46, Try.ntmps46
    go_wp2_with fail
    refine Cp.out.mono ?_
    rintro e w' ⟨rfl, rfl⟩
    go_wp2_with fail
    go_ret
    exact ⟨by rw [Hi.out]; rfl, rfl⟩
  · have Hi : Hid (powm a (p - 2).toNat p = invm a p) := fermat_inv hp ⟨ha1, ha2⟩ (by omega)
    have h2' : (p == 2) = false := by simp [h2]
    clear h2
    go_enter Try.func46, Try.ntmps46
    go_wp2_with fail
    refine Cp.out.mono ?_
    rintro e w' ⟨rfl, rfl⟩
    go_wp2_with fail
    go_ret
    exact ⟨by rw [Hi.out]; rfl, rfl⟩
end Go.Proofs.Ytbcapmnklgdeoaa
