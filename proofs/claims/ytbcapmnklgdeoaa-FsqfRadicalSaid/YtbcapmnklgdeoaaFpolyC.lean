/- Contracts: a product of two polynomials, the program's; by a residue; a quotient and a rest. -/
import Derived.Test.YtbcapmnklgdeoaaFpolyB
import Derived.Test.YtbcapmnklgdeoaaPolyB
namespace Go.Proofs.Ytbcapmnklgdeoaa
open Go.RowKit Cl
attribute [local go_sem ↓] Go.wp_at_zero Go.wp_at_succ

set_option maxRecDepth 100000 in
theorem pprod_any (A B : Option Addr) (n m c d : Nat) (xs ys : List Int) (p : Int) (w : World) (hp : Pr p) (hx : Ints w A n xs) (hy : Ints w B m ys) (hn : (n + m) * 8 ≤ 281474976710656) (hpx : Pl p xs) (hpy : Pl p ys) :
    Calls Try.prog 37 #[.slice A n c, .slice B m d, .int .i64 p] w (GivesP w (toP ⟨p, hp⟩ xs * toP ⟨p, hp⟩ ys)) := by
  have hmk := make_ints (n + m) (by omega)
  rw [show ((n + m : Nat) : Int) = (n : Int) + (m : Int) by omega] at hmk
  have hp1 := hp.two
  have hp2 := hp.max
  have hp0 : ¬ p = 0 := by omega
  have Hxl := Lib.hid hx.len
  have Hyl := Lib.hid hy.len
  have Hpx := Lib.hid hpx
  have Hpy := Lib.hid hpy
  have hst0 : Hid (MulSt ⟨p, hp⟩ xs ys 0 0 (List.replicate (n + m) 0)) := by
    have := MulSt.start (q := ⟨p, hp⟩) xs ys
    rw [hx.len, hy.len] at this; exact this
  have hrow0 := Row.new w 3 (List.replicate (n + m) 0)
  clear hpx hpy
  go_enter Try.func37, Try.ntmps37
  go_wp2
  go_loopw [20] (fun i wr => ∃ (k : Nat) (out : List Int), k ≤ n ∧ i = .int .i64 k ∧ Hid (MulSt ⟨p, hp⟩ xs ys k 0 out) ∧ Row wr w.heap.size 3 out ∧ Below w.heap.size w wr) (fun i _ => n - (intOf i).toNat)
  case atStart => exact ⟨0, _, by omega, rfl, hst0, hrow0, (Below.refl _ _).alloc (Nat.le_refl _) _⟩
  case round =>
    obtain ⟨k, out, hk, rfl, hst, hrow, hbel⟩ := hrel
    obtain ⟨wo, rfl⟩ : ∃ wo : World, wo = wr := ⟨_, rfl⟩
    by_cases hlt : k < n
    · obtain ⟨b, o, rfl, hb, hc⟩ := hx.at_ (by omega)
      have hcx : wo.cell? ⟨b, o + k, none⟩ = some (.int .i64 (nth xs k)) := (hbel.cell (p := ⟨b, o + k, none⟩) hb).trans (hc k hlt)
      obtain ⟨l1, l2⟩ := Hpx.out k
      clear hc
      go_wp2
      go_loopw [27] (fun i wr => ∃ (j : Nat) (out : List Int), j ≤ m ∧ i = .int .i64 j ∧ Hid (MulSt ⟨p, hp⟩ xs ys k j out) ∧ Row wr w.heap.size 3 out ∧ Below w.heap.size w wr) (fun i _ => m - (intOf i).toNat)
      case atStart => exact ⟨0, out, by omega, rfl, hst, hrow, hbel⟩
      case round =>
        obtain ⟨j, out2, hj, rfl, hst2, hrow2, hbel2⟩ := hrel
        by_cases hjl : j < m
        · obtain ⟨b2, o2, rfl, hb2, hc2⟩ := hy.at_ (by omega)
          have hcy : wr.cell? ⟨b2, o2 + j, none⟩ = some (.int .i64 (nth ys j)) := (hbel2.cell (p := ⟨b2, o2 + j, none⟩) hb2).trans (hc2 j hjl)
          have hol : k + j < out2.length := by have := hst2.out.len; rw [Hxl.out, Hyl.out] at this; omega
          have hco := hrow2.cell (i := k + j) hol
          have hfo := hrow2.frozen (k + j)
          obtain ⟨l3, l4⟩ := Hpy.out j
          obtain ⟨l5, l6⟩ := hst2.out.pl (k + j)
          have l6' : nth out2 (k + j) < p := l6
          have hm1 : 0 ≤ nth xs k * nth ys j := Int.mul_nonneg l1 l3
          have hm2 : nth xs k * nth ys j ≤ 65521 * 65521 := Int.mul_le_mul (by omega) (by omega) l3 (by omega)
          have hset := Lib.hid (hrow2.set (k + j) ((nth out2 (k + j) + nth xs k * nth ys j) % p))
          have hstep := Lib.hid (hst2.out.step (by rw [Hxl.out]; exact hlt) (by rw [Hyl.out]; exact hjl))
          have ea : ((k : Int) + (j : Int)).toNat = k + j := by omega
          have eb : (k : Int) + (j : Int) < (n : Int) + (m : Int) := by omega
          clear hc2 hol l6
          go_wp2
          go_roundw
          case rel => exact ⟨j + 1, _, by omega, by go_num, hstep, hset.out, hbel2.setCell (Nat.le_refl _) _⟩
          case measure => simp [intOf]; omega
        · obtain rfl : m = j := by omega
          have hrw : Hid (MulSt ⟨p, hp⟩ xs ys (k + 1) 0 out2) := MulSt.row (by rw [Hyl.out]; exact hst2.out)
          go_wp2
          go_roundw
          case rel => exact ⟨k + 1, out2, by omega, by go_num, hrw, hrow2, hbel2⟩
          case measure => simp [intOf]; omega
    · obtain rfl : n = k := by omega
      have hdone : toP ⟨p, hp⟩ out = toP ⟨p, hp⟩ xs * toP ⟨p, hp⟩ ys := MulSt.done (by rw [Hxl.out]; exact hst.out)
      have hin := hrow.ints (fun i => (Pl.i64 hst.out.pl hp2 i))
      have hol : out.length = n + m := by rw [hst.out.len, Hxl.out, Hyl.out]
      rw [hol] at hin
      have cp := pplain_any _ (n + m) (n + m) _ p wo hp hin (by omega)
      rw [hdone] at cp
      have Cp := Lib.hid cp
      clear cp hdone hol
      go_wp2_with (go_at_call 30; refine Cp.out.mono ?_; rintro e w2 ⟨A2, c2, rfl, hn2⟩)
      go_ret
      exact ⟨_, _, rfl, newInts_sooner hn2 hbel⟩
end Go.Proofs.Ytbcapmnklgdeoaa
