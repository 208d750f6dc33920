/- Contracts: how many bits; rests of powers: the document's. -/
import Derived.Test.YteddelfkjpljpaaNatC
import Derived.Test.YteddelfkjpljpaaFpolyI
import Derived.Test.YteddelfkjpljpaaRefE
namespace Go.Proofs.Yteddelfkjpljpaa
open Go.RowKit Cl
attribute [local go_sem ↓] Go.wp_at_zero Go.wp_at_succ

theorem bitLen_zero : Lib.bitLen 0 = 0 := by decide
set_option maxRecDepth 100000 in
theorem rnbits_any (A : Option Addr) (n c : Nat) (xs : List Int) (w : World) (hx : Limbs w A n xs) (hn : n ≤ c) (hc : c ≤ 9223372036854775807) (hn8 : n ≤ 1000000000) :
    Calls Try.prog 49 #[.slice A n c] w (fun e w' => e = .returned (.int .i64 (bitsN xs n : Nat)) ∧ Below w.heap.size w w') := by
  have hl := lmN_le xs n
  have hlen : (xs.take (lmN xs n)).length = lmN xs n := by rw [List.length_take, hx.len]; omega
  have Hlen := Lib.hid hlen
  have Cn := Lib.hid (rnnorm_any A n c xs w hx hn hc (by omega))
  have hok := hx.ok
  clear hlen hx
  go_enter Try.func49, Try.ntmps49
  go_wp2_with fail
  refine Cn.out.mono ?_
  rintro e w1 ⟨A1, c1, rfl, h1, h2, h3, h4⟩
  rw [Hlen.out] at h1 h3 ⊢
  by_cases h0 : lmN xs n = 0
  · have hb : bitsN xs n = 0 := if_pos h0
    rw [h0]
    have Hb := Lib.hid hb
    clear hb h0
    go_wp2
    go_ret
    exact ⟨by rw [Hb.out]; rfl, h4⟩
  · obtain ⟨k, hk⟩ : ∃ k, lmN xs n = k + 1 := ⟨lmN xs n - 1, by omega⟩
    have hb : bitsN xs n = 64 * k + Lib.bitLen (nth xs k).toNat := by
      unfold bitsN; rw [if_neg h0, hk]; rfl
    rw [hk] at h1 h3 hl ⊢
    have Hb := Lib.hid hb
    obtain ⟨b, o, rfl, hb', hcl⟩ := h3.at_ (by omega)
    have hcy := hcl k (by omega)
    rw [nth_take (by omega)] at hcy
    obtain ⟨ok1, ok2⟩ := hok k
    have hkn : (k : Int) ≤ 1000000000 := by omega
    clear hcl hb h0 hk h3 Hlen Cn
    have hbl := Lib.bitLen_le (nth xs k).toNat 64 (by omega) (by omega)
    have Hv : Hid (64 * k + Lib.bitLen (nth xs k).toNat = bitsN xs n) := Hb.out.symm
    have hx0 : Hid (nth xs k = (((nth xs k).toNat : Nat) : Int)) := by show _ = _; omega
    have Hok := Lib.hid (And.intro ok1 ok2)
    clear ok1 ok2 hok
    generalize nth xs k = x at *
    have hk0 : (0 : Int) ≤ (k : Int) := by omega
    go_wp2
    go_loopg [4, 5] (Lib.bitLen x.toNat + 1) (fun gk s v wr => ∃ (y : Int) (j : Nat), 0 ≤ y ∧ y ≤ 18446744073709551615 ∧ j ≤ 64 * k + 64 ∧ Lib.bitLen y.toNat < gk ∧ s = .int .i64 j ∧ v = .int .u64 y ∧ Hid (j + Lib.bitLen y.toNat = bitsN xs n) ∧ wr = w1)
    case atStart => exact ⟨x, 64 * k, Hok.out.1, by have := Hok.out; omega, by omega, by omega, by rw [show ((64 * k : Nat) : Int) = 64 * (k : Int) by omega], rfl, Hv.out, rfl⟩
    case round =>
      obtain ⟨y, j, hy0, hy1, hj, hgk, rfl, rfl, hv, rfl⟩ := hrel
      by_cases hz : y = 0
      · subst hz
        have hj2 : Hid (j = bitsN xs n) := by have := hv.out; rw [show (0 : Int).toNat = 0 from rfl, bitLen_zero] at this; exact this
        go_wp2
        go_ret
        exact ⟨by rw [hj2.out]; rfl, h4⟩
      · have hb2 := Lib.bitLen_half y.toNat (by omega) (by omega)
        have he : y.toNat / 2 = (y / 2).toNat := by omega
        rw [he] at hb2
        have hv2 : Hid (j + 1 + Lib.bitLen (y / 2).toNat = bitsN xs n) := by have := hv.out; show _ = _; omega
        have hpos : (0 : Int) < y := by omega
        have Hbb : Hid (Lib.bitLen (y / 2).toNat < Lib.bitLen y.toNat) := by show _ < _; omega
        have hj3 : Hid (j + 1 ≤ 64 * k + 64) := by
          have hle := Lib.bitLen_le y.toNat 64 (by omega) (by omega)
          have h5 := hv.out
          have h6 := Hv.out
          show _ ≤ _
          omega
        clear hb2 hv hz he
        go_wp2
        go_roundg (Lib.bitLen y.toNat)
        case measure => omega
        case rel => exact ⟨y / 2, j + 1, by omega, by omega, hj3.out, Hbb.out, by go_num, rfl, hv2, rfl⟩
end Go.Proofs.Yteddelfkjpljpaa
