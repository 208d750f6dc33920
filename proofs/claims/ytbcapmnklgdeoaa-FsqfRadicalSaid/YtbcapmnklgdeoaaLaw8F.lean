/- Layer 8's laws: the law's product; Norm's last coefficient. -/
import Derived.Test.YtbcapmnklgdeoaaLaw8E
import Derived.Test.YtbcapmnklgdeoaaSqfP
namespace Go.Proofs.Ytbcapmnklgdeoaa
open Go.RowKit Cl
attribute [local go_sem ↓] Go.wp_at_zero Go.wp_at_succ

section
variable {A B : Option Addr} {n m c d N M K : Nat} {p : Int} {w : World} {hp : Pr p} {a b : Poly (Zp ⟨p, hp⟩)}
theorem ltimesR (ha : Rd w A n a) (hb : Rd w B m b) (hn : n ≤ N) (hm : m ≤ M) (hK : N + M ≤ K) (hK2 : K ≤ 900000000) :
    Calls Try.prog 9 #[.slice A n c, .slice B m d, .int .i64 p] w (GivesR w K (a * b)) := by
  have C := Lib.hid (mulR (c := c) (d := d) ha hb hn hm hK hK2)
  clear ha hb
  go_enter Try.func9, Try.ntmps9
  go_wp2_with fail
  refine C.out.mono ?_
  rintro e w1 ⟨A1, c1, rfl, l1, h1, hb1⟩
  go_wp2_with fail
  go_ret
  exact ⟨_, _, rfl, l1, h1, hb1⟩
/-- The last coefficient alone, as a constant. -/
theorem lc_ints (h0 : a ≠ 0) : Ints (w.alloc (.cells #[.int .i64 (nth (fromP a) (a.len - 1))] 3)) (some ⟨w.heap.size, 0, none⟩) (Poly.C a.lc).len (fromP (Poly.C a.lc)) := by
  have hl := Poly.lc_ne h0
  have e : fromP (Poly.C a.lc) = [nth (fromP a) (a.len - 1)] := by
    have h1 : Poly.C a.lc = toP ⟨p, hp⟩ [nth (fromP a) (a.len - 1)] := by rw [toP_one, fromP_top h0]
    rw [h1]
    refine IsPl.eq_fromP (q := ⟨p, hp⟩) ⟨fun i => ?_, fun _ => ?_⟩
    · match i with
      | 0 => exact fromP_lt a (a.len - 1)
      | i + 1 => rw [nth_ge (by simp)]; have := hp.two; show 0 ≤ (0 : Int) ∧ (0 : Int) < p; omega
    · have h2 := (fromP_pl a).top (by rw [fromP_length]; exact Poly.len_pos h0)
      rw [fromP_length] at h2
      exact h2
  have hlen : (Poly.C a.lc).len = 1 := by
    have := congrArg List.length e
    rw [fromP_length] at this
    exact this
  rw [e, hlen]
  exact (Row.new w 3 [nth (fromP a) (a.len - 1)]).ints (fun i => by
    match i with
    | 0 => exact fromP_i64 a (a.len - 1)
    | i + 1 => rw [nth_ge (by simp)]; exact I64.zero)
end
end Go.Proofs.Ytbcapmnklgdeoaa
