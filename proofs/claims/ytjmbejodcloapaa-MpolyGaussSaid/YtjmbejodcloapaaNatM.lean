/- Contracts: nat.less, nat.moved: towards nat.Mul of any factors. -/
import Derived.Test.YtjmbejodcloapaaNatK
namespace Cl
/-- Factors parted in halves. -/
theorem kara {a0 a1 b0 b1 p l h m : Nat} (hl : l = a0 * b0) (hh : h = a1 * b1) (hm : m = (a0 + a1) * (b0 + b1) - l - h) : l + p * m + p * p * h = (a0 + p * a1) * (b0 + p * b1) := by
  have e1 : (a0 + a1) * (b0 + b1) = a0 * b0 + a1 * b1 + (a0 * b1 + a1 * b0) := by rw [Nat.add_mul, Nat.mul_add, Nat.mul_add]; omega
  have e2 : m = a0 * b1 + a1 * b0 := by rw [hm, e1, hl, hh]; omega
  rw [e2, hl, hh, Nat.add_mul, Nat.mul_add, Nat.mul_add, Nat.mul_add]
  have e3 : a0 * (p * b1) = p * (a0 * b1) := by ac_rfl
  have e4 : p * a1 * b0 = p * (a1 * b0) := by ac_rfl
  have e5 : p * a1 * (p * b1) = p * p * (a1 * b1) := by ac_rfl
  rw [e3, e4, e5]; omega
theorem limbs_moved (k : Nat) (xs : List Int) : limbs (List.replicate k 0 ++ xs) = 2 ^ (64 * k) * limbs xs := by
  rw [limbs_append, limbs_replicate, List.length_replicate, Nat.zero_add]
theorem ok_moved {k : Nat} {xs : List Int} (h : IsLimbs xs) : IsLimbs (List.replicate k 0 ++ xs) := fun i => by
  by_cases hi : i < k
  · have e : nth (List.replicate k 0 ++ xs) i = 0 := by
      unfold nth
      simp [List.getD, hi, List.getElem?_append_left]
    rw [e]; omega
  · have e : nth (List.replicate k 0 ++ xs) i = nth xs (i - k) := by
      unfold nth
      simp only [List.getD]
      rw [List.getElem?_append_right (by rw [List.length_replicate]; omega), List.length_replicate]
    rw [e]; exact h (i - k)
/-- Limbs cut in two. -/
theorem limbs_cut (xs : List Int) {k : Nat} (hk : k ≤ xs.length) : limbs xs = limbs (xs.take k) + 2 ^ (64 * k) * limbs (xs.drop k) := by
  have h := limbs_append (xs.take k) (xs.drop k)
  rw [List.take_append_drop, List.length_take, Nat.min_eq_left hk] at h
  exact h
end Cl
namespace Go.Proofs.Ytjmbejodcloapaa
open Go.RowKit Cl
attribute [local go_sem ↓] Go.wp_at_zero Go.wp_at_succ
set_option maxRecDepth 100000 in
theorem nat_less (A B : Option Addr) (n m c d : Nat) (xs ys : List Int) (w : World) (hx : Limbs w A n xs) (hy : Limbs w B m ys) (hn : n ≤ 100000000) (hm : m ≤ 100000000) (hle : limbs ys ≤ limbs xs) :
    Calls Try.prog 51 #[.slice A n c, .slice B m d] w (GivesNew w (subL xs ys)) := by
  have C := Lib.hid (nat_sub A B n m c d xs ys w hx hy hn hm hle)
  clear hx hy hle
  go_enter Try.func51, Try.ntmps51
  go_wp2_with fail
  refine C.out.mono ?_
  rintro e w1 ⟨A1, k1, c1, rfl, g1, g2, g3, g4, g5⟩
  have G3 := Lib.hid g3
  have G4 := Lib.hid g4
  have G5 := Lib.hid g5
  clear g3 g4 g5
  go_wp2_with fail
  go_ret
  exact ⟨A1, k1, c1, rfl, g1, g2, G3.out, G4.out, G5.out⟩
set_option maxRecDepth 100000 in
set_option maxHeartbeats 1000000 in
theorem nat_moved (A : Option Addr) (n c : Nat) (xs : List Int) (k : Nat) (w : World) (hx : Limbs w A n xs) (hn : n ≤ 100000000) (hk : k ≤ 100000000) :
    Calls Try.prog 53 #[.slice A n c, .int .i64 (k : Int)] w (GivesNew w (List.replicate k 0 ++ xs)) := by
  obtain ⟨i0, hi, hz0, hz1, hz2⟩ := info_parts uint_info
  have hmk := run_make_limbs Try.underlying32 hi hz0 hz1 hz2 k (by omega) w
  have hl := hx.len
  have Hr := Lib.hid hx.reads
  have Hok := Lib.hid hx.ok
  have hrow := RowL.new w 77 (List.replicate k 0)
  have hown0 : Hid ((w.alloc (.cells (lmbs (List.replicate k 0)).toArray 77)).ownsRow w.heap.size 77 1 (.slice (some ⟨w.heap.size, 0, none⟩) k k) k (lmbs (List.replicate k 0))) := by
    have h := hrow.own (Nat.le_refl _) (n := k) (by rw [List.length_replicate]; exact Nat.le_refl _) (by rw [List.length_replicate]; unfold maxLen; omega)
    rw [List.length_replicate, List.take_of_length_le (by rw [List.length_replicate]; exact Nat.le_refl _)] at h
    exact h
  have hn0 : (0 : Int) ≤ (k : Int) := by omega
  clear hx hl hrow
  go_enter Try.func53, Try.ntmps53
  go_wp2_with (at_builtin; go_must (refine wpList_append_any (w := w.alloc (.cells (lmbs (List.replicate k 0)).toArray 77)) rfl _ _ 32 rfl w.heap.size 77 i0 (.int .u64 0) 1 8 Try.underlying32 hi hz0 hz1 hz2 rfl (by decide) _ k (lmbs (List.replicate k 0)) rfl hown0.out w.heap.size A n c (lmbs xs) rfl (Hr.out.alloc (Nat.le_refl _) _) (lmbs_oneCell xs) (by unfold maxLen; omega) (by omega) (by simp) ?_); intro v' w1 hown hgrow hat)
  have hown2 : w1.ownsRow w.heap.size 77 1 v' (k + n) (lmbs (List.replicate k 0 ++ xs)) := by rw [lmbs_append]; exact hown
  have hb : Below w.heap.size w w1 := ((Below.refl _ w).alloc (Nat.le_refl _) _).grown hgrow (by simp) (fun k hk => (hown0.out.lt k hk).1)
  have Hown2 := Lib.hid hown2
  have Hb := Lib.hid hb
  clear hown hgrow hat hb hown2
  obtain ⟨A', c', rfl⟩ := own_slice Hown2.out
  go_wp2_with fail
  go_ret
  have hcc : k + n ≤ c' ∧ c' ≤ 9223372036854775807 := by
    rcases Hown2.out.2 with ⟨hv, h0⟩ | ⟨g, cap, cur, hv, _, _, hnc, hcm, _⟩
    · injection hv; omega
    · injection hv with _ _ e
      unfold maxLen at hcm; omega
  exact ⟨A', k + n, c', rfl, hcc.1, hcc.2, Limbs.of_own Hown2.out (ok_moved Hok.out), fun y hy => (Hown2.out.lt y.block (by subst hy; rfl)).1, Hb.out⟩
end Go.Proofs.Ytjmbejodcloapaa
