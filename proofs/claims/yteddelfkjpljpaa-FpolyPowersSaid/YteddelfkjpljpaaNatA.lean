/- Contracts: naturals and integers, as far as powers ask for them: the program's. -/
import Derived.Test.YteddelfkjpljpaaFpolyA
import Derived.Test.YteddelfkjpljpaaLimb
import Derived.Test.YteddelfkjpljpaaLen64
import Derived.Deep.LoopGhost
import Derived.OwnWalk
import Derived.Lib.SliceRun
namespace Go.Proofs.Yteddelfkjpljpaa
open Go.RowKit Cl
attribute [local go_sem ↓] Go.wp_at_zero Go.wp_at_succ

theorem uint_info : (Try.prog.info? 55).map (fun i => (i.zero, i.size, i.bytes)) = some (some (.int .u64 0), 1, 8) := by kernel_rfl
/-- A call that hands back limbs, and turns nothing that was there. -/
def GivesLimbs (w : World) (xs : List Int) (e : Ending) (w' : World) : Prop :=
  ∃ A c, e = .returned (.slice A xs.length c) ∧ xs.length ≤ c ∧ c ≤ 9223372036854775807 ∧ Limbs w' A xs.length xs ∧ Below w.heap.size w w'

set_option maxRecDepth 100000 in
theorem nplain_any (A : Option Addr) (n c : Nat) (xs : List Int) (w : World) (hx : Limbs w A n xs) (hn : n ≤ c) (hc : c ≤ 9223372036854775807) :
    Calls Try.prog 64 #[.slice A n c] w fun e w' => e = .returned (.slice A (lmN xs n) c) ∧ w' = w := by
  go_enter Try.func64, Try.ntmps64
  obtain ⟨wo, rfl⟩ : ∃ wo : World, wo = w := ⟨_, rfl⟩
  go_wp2
  go_loopg [0] (n + 1) (fun gk s wr => ∃ m : Nat, m ≤ n ∧ m < gk ∧ s = .slice A m c ∧ Hid (lmN xs n = lmN xs m) ∧ wr = wo)
  case atStart => exact ⟨n, by omega, by omega, rfl, rfl, rfl⟩
  case round =>
    obtain ⟨m, hm, hgk, rfl, hpl, rfl⟩ := hrel
    cases m with
    | zero =>
      have Hfin : Hid (lmN xs n = 0) := hpl.out
      go_wp2
      go_ret
      refine ⟨?_, rfl⟩
      rw [Hfin.out]; rfl
    | succ m =>
      obtain ⟨b, o, rfl, hb, hc'⟩ := hx.at_ (by omega)
      have hcy := hc' m (by omega)
      clear hc'
      have hmc : m ≤ c := by omega
      have hmc' : (m : Int) ≤ (c : Int) := by omega
      have hmp : (0 : Int) < (m : Int) + 1 := by omega
      by_cases hz : nth xs m = 0
      · rw [hz] at hcy
        have Hz := Lib.hid hz
        clear hz
        go_wp2
        go_roundg (gk - 1)
        case measure => omega
        case rel => exact ⟨m, by omega, by omega, rfl, by show _ = _; rw [hpl.out]; exact plen_drop Hz.out, rfl⟩
      · have hz' : (nth xs m == 0) = false := beq_eq_false_iff_ne.2 hz
        have Hfin : Hid (lmN xs n = m + 1) := hpl.out.trans (plen_stop hz)
        clear hz
        go_wp2
        go_ret
        refine ⟨?_, rfl⟩
        rw [Hfin.out]; rfl

theorem neq_nil (w : World) (a : Option Addr) (n c n' c' : Nat) : (binOp .eql 23 (.slice a n c) (.slice none n' c')).run Try.prog w = .ok (.bool a.isNone) w :=
  Lib.run_eql_slice_nil w _ _ a n c n' c' Try.underlying23

set_option maxRecDepth 100000 in
theorem nclone_any (A : Option Addr) (n c : Nat) (xs : List Int) (w : World) (hx : Limbs w A n xs) (hn : n * 8 ≤ 140737488355328) :
    Calls Try.prog 72 #[.slice A n c] w (GivesLimbs w xs) := by
  obtain rfl := hx.len
  have hr := Lib.hid hx.reads
  have hok := Lib.hid hx.ok
  have q22 := neq_nil
  obtain ⟨i0, hi, hz0, hz1, hz2⟩ := info_parts uint_info
  rcases A with _ | ad
  · have h0 : xs.length = 0 := by
      rcases Nat.eq_zero_or_pos xs.length with h | h
      · exact h
      · obtain ⟨b, o, e, _⟩ := hx.at_ h
        cases e
    have Hfin : Hid (GivesLimbs w xs (.returned (.slice none 0 0)) w) := by
      refine ⟨none, 0, by rw [h0], by omega, by omega, ?_, Below.refl _ _⟩
      rw [List.eq_nil_of_length_eq_zero h0]; exact Limbs.nil _ _
    clear h0 hx
    go_enter Try.func72, Try.ntmps72
    go_wp2
    go_ret
    exact Hfin.out
  · go_enter Try.func72, Try.ntmps72
    go_wp2_with (at_builtin; refine wpList_append_any (w := w.alloc (.cells #[] 55)) rfl _ _ 23 rfl w.heap.size 55 i0 (.int .u64 0) 1 8 Try.underlying23 hi hz0 hz1 hz2 rfl (by decide) _ 0 [] rfl (own_empty w 55 (Nat.le_refl _)) w.heap.size (some ad) xs.length c (lmbs xs) rfl (hr.out.alloc (Nat.le_refl _) _) (lmbs_oneCell xs) (by unfold maxLen; omega) (by omega) (by simp) ?_; intro v' w1 hown hgrow hat)
    have hown2 : w1.ownsRow w.heap.size 55 1 v' xs.length (lmbs xs) := by simpa using hown
    have hb : Below w.heap.size w w1 := ((Below.refl _ w).alloc (Nat.le_refl _) _).grown hgrow (by simp) (fun k hk => ((own_empty w 55 (Nat.le_refl _)).lt k hk).1)
    go_wp2
    go_ret
    obtain ⟨A', c', rfl⟩ := own_slice hown2
    have hcc : xs.length ≤ c' ∧ c' ≤ 9223372036854775807 := by
      rcases hown2.2 with ⟨hv, h0⟩ | ⟨g, cap, cur, hv, _, _, hnc, hcm, _⟩
      · injection hv; omega
      · injection hv with _ _ e
        unfold maxLen at hcm; omega
    exact ⟨A', c', rfl, hcc.1, hcc.2, Limbs.of_own hown2 hok.out, hb⟩

/-- nat.Norm. -/
theorem nnorm_any (A : Option Addr) (n c : Nat) (xs : List Int) (w : World) (hx : Limbs w A n xs) (hn : n ≤ c) (hc : c ≤ 9223372036854775807) (hn8 : n * 8 ≤ 140737488355328) :
    Calls Try.prog 69 #[.slice A n c] w (GivesLimbs w (xs.take (lmN xs n))) := by
  have hl := lmN_le xs n
  go_enter Try.func69, Try.ntmps69
  go_wp2_with fail
  refine (nplain_any A n c xs _ hx hn hc).mono ?_
  rintro e w' ⟨rfl, rfl⟩
  go_wp2_with fail
  refine (nclone_any A _ c _ _ (hx.take hl) (by omega)).mono ?_
  rintro e w1 ⟨A1, c1, rfl, h1, h2, h3, h4⟩
  go_wp2
  go_ret
  refine ⟨A1, c1, ?_, h1, h2, h3, h4⟩
  rw [List.length_take]; rfl
end Go.Proofs.Yteddelfkjpljpaa
