/- Contracts: the document's naturals: plain limbs, digits in base 2^32, limbs of digits, which of two is greater.
   Contracts: the document's naturals: which of two is greater, sums, differences.
   Contracts: the document's product of naturals, digit by digit.
   Contracts: the document's quotients and rests of naturals, bit by bit. -/
import Derived.Test.YtjmbejodcloapaaGreatPLims
import Derived.Test.YtjmbejodcloapaaGreatPDvOne
import Derived.Test.YtjmbejodcloapaaGreatPNatA
set_option linter.unusedVariables false
set_option linter.unusedSimpArgs false
namespace Go.Proofs.YtjmbejodcloapaaGreat
open Go.RowKit Cl
attribute [local go_sem ↓] Go.wp_at_zero Go.wp_at_succ
def GivesN (w : World) (v K : Nat) (e : Ending) (w' : World) : Prop :=
  ∃ A k c ls, e = .returned (.slice A k c) ∧ k ≤ c ∧ c ≤ 9223372036854775807 ∧ k ≤ K ∧ Limbs w' A k ls ∧ PlainL ls ∧ limbs ls = v ∧ Below w.heap.size w w'
def GivesDg (w : World) (v K : Nat) (e : Ending) (w' : World) : Prop :=
  ∃ A k c ds, e = .returned (.slice A k c) ∧ k ≤ c ∧ c ≤ 9223372036854775807 ∧ k ≤ K ∧ Limbs w' A k ds ∧ P32 ds ∧ v32 ds = v ∧ Below w.heap.size w w'
theorem own_caps {w : World} {base : Nat} {t : TypeId} {A : Option Addr} {n c : Nat} {xs : List Value} (h : w.ownsRow base t 1 (.slice A n c) n xs) : n ≤ c ∧ c ≤ 9223372036854775807 := by
  rcases h.2 with ⟨hv, h0⟩ | ⟨g, cap, cur, hv, _, _, hnc, hcm, _⟩
  · injection hv; omega
  · injection hv with _ _ e
    unfold maxLen at hcm; omega
set_option maxRecDepth 100000 in
set_option maxHeartbeats 1000000 in
theorem r1cut (A : Option Addr) (n c : Nat) (xs : List Int) (w : World) (hx : Limbs w A n xs) (hn : n ≤ c) (hc : c ≤ 9223372036854775807) :
    Calls Tryz.prog 111 #[.slice A n c] w fun e w' => e = .returned (.slice A (lmN xs n) c) ∧ w' = w := by
  go_enter Tryz.func111, Tryz.ntmps111
  obtain ⟨wo, rfl⟩ : ∃ wo : World, wo = w := ⟨_, rfl⟩
  go_wp2
  go_loopg [3] (n + 1) (fun gk s wr => ∃ m : Nat, m ≤ n ∧ m < gk ∧ s = .int .i64 m ∧ Hid (lmN xs n = lmN xs m) ∧ wr = wo)
  case atStart => exact ⟨n, by omega, by omega, rfl, rfl, rfl⟩
  case round =>
    obtain ⟨m, hm, hgk, rfl, hpl, rfl⟩ := hrel
    cases m with
    | zero =>
      have Hfin : Hid (lmN xs n = 0) := hpl.out
      go_wp2
      go_ret
      refine ⟨?_, rfl⟩
      rw [Hfin.out]; rfl
    | succ m =>
      obtain ⟨b, o, rfl, hb, hc'⟩ := hx.at_ (by omega)
      have hcy := hc' m (by omega)
      clear hc'
      have hmc : m ≤ c := by omega
      have hmc' : (m : Int) ≤ (c : Int) := by omega
      have hmp : (0 : Int) < (m : Int) + 1 := by omega
      by_cases hz : nth xs m = 0
      · rw [hz] at hcy
        have Hz := Lib.hid hz
        clear hz
        go_wp2
        go_roundg (gk - 1)
        case measure => omega
        case rel => exact ⟨m, by omega, by omega, by go_num, by show _ = _; rw [hpl.out]; exact plen_drop Hz.out, rfl⟩
      · have hz' : (nth xs m == 0) = false := beq_eq_false_iff_ne.2 hz
        have Hfin : Hid (lmN xs n = m + 1) := hpl.out.trans (plen_stop hz)
        clear hz
        go_wp2
        go_ret
        refine ⟨?_, rfl⟩
        rw [Hfin.out]; rfl
set_option maxRecDepth 100000 in
set_option maxHeartbeats 1000000 in
theorem r1norm (A : Option Addr) (n c : Nat) (xs : List Int) (w : World) (hx : Limbs w A n xs) (hn : n ≤ c) (hc : c ≤ 9223372036854775807) (hn8 : n ≤ 1000000000) :
    Calls Tryz.prog 82 #[.slice A n c] w (GivesN w (limbs xs) n) := by
  obtain ⟨i0, hi, hz0, hz1, hz2⟩ := info_parts uint_info
  have Hpl := Lib.hid (plainL_take hx.ok hx.len)
  have Hr := Lib.hid (fun m (h : m ≤ n) => (hx.take h).reads)
  have Hk := Lib.hid (fun m (h : m ≤ n) => (hx.take h).len)
  have Hok := Lib.hid (fun m (h : m ≤ n) => (hx.take h).ok)
  go_enter Tryz.func82, Tryz.ntmps82
  obtain ⟨wo, rfl⟩ : ∃ wo : World, wo = w := ⟨_, rfl⟩
  go_wp2
  go_loopg [3] (n + 1) (fun gk s wr => ∃ m : Nat, m ≤ n ∧ m < gk ∧ s = .int .i64 m ∧ Hid (lmN xs n = lmN xs m) ∧ wr = wo)
  case atStart => exact ⟨n, by omega, by omega, rfl, rfl, rfl⟩
  case round =>
    obtain ⟨m, hm, hgk, rfl, hpl, rfl⟩ := hrel
    have fin : ∀ (q : Nat) (v' : Value) (w1 : World), q ≤ n → lmN xs n = q → w1.ownsRow wr.heap.size 81 1 v' (0 + q) ([] ++ lmbs (xs.take q)) → (wr.alloc (.cells #[] 81)).grownBy w1 (some wr.heap.size) → GivesN wr (limbs xs) n (.returned v') w1 := fun q v' w1 hq he hown hg => by
      subst he
      rw [Nat.zero_add, List.nil_append] at hown
      obtain ⟨A', c', rfl⟩ := own_slice hown
      obtain ⟨k1, k2⟩ := own_caps hown
      have hb : Below wr.heap.size wr w1 := ((Below.refl _ wr).alloc (Nat.le_refl _) _).grown hg (by simp) (fun k hk => by injection hk; omega)
      exact ⟨A', _, c', _, rfl, k1, k2, hq, Limbs.of_own hown (Hok.out _ hq), Hpl.out.1, Hpl.out.2, hb⟩
    have Fin := Lib.hid fin
    clear fin
    cases m with
    | zero =>
      have Hfin : Hid (lmN xs n = 0) := hpl.out
      have hr0 := Lib.hid (Hr.out 0 (by omega))
      clear hx
      go_wp2_with (at_builtin; refine wpList_append_any (w := wr.alloc (.cells #[] 81)) rfl _ _ 30 rfl wr.heap.size 81 i0 (.int .u64 0) 1 8 Tryz.underlying30 hi hz0 hz1 hz2 rfl (by decide) _ 0 [] rfl (own_empty wr 81 (Nat.le_refl _)) wr.heap.size A 0 c (lmbs (xs.take 0)) rfl (hr0.out.alloc (Nat.le_refl _) _) (lmbs_oneCell _) (by unfold maxLen; omega) (by omega) (by simp) ?_; intro v' w1 hown hgrow hat)
      go_wp2
      go_ret
      exact Fin.out 0 _ _ (by omega) Hfin.out hown hgrow
    | succ m =>
      obtain ⟨b, o, rfl, hb, hc'⟩ := hx.at_ (by omega)
      have hcy := hc' m (by omega)
      clear hc'
      have hmc : m ≤ c := by omega
      have hmc' : (m : Int) + 1 ≤ (c : Int) := by omega
      have hmp : (0 : Int) < (m : Int) + 1 := by omega
      by_cases hz : nth xs m = 0
      · rw [hz] at hcy
        have Hz := Lib.hid hz
        clear hz
        go_wp2
        go_roundg (gk - 1)
        case measure => omega
        case rel => exact ⟨m, by omega, by omega, by go_num, by show _ = _; rw [hpl.out]; exact plen_drop Hz.out, rfl⟩
      · have hz' : (nth xs m == 0) = false := beq_eq_false_iff_ne.2 hz
        have Hfin : Hid (lmN xs n = m + 1) := hpl.out.trans (plen_stop hz)
        have hr0 := Lib.hid (Hr.out (m + 1) (by omega))
        clear hz
        go_wp2_with (at_builtin; refine wpList_append_any (w := wr.alloc (.cells #[] 81)) rfl _ _ 30 rfl wr.heap.size 81 i0 (.int .u64 0) 1 8 Tryz.underlying30 hi hz0 hz1 hz2 rfl (by decide) _ 0 [] rfl (own_empty wr 81 (Nat.le_refl _)) wr.heap.size (some ⟨b, o, none⟩) (m + 1) c (lmbs (xs.take (m + 1))) rfl (hr0.out.alloc (Nat.le_refl _) _) (lmbs_oneCell _) (by unfold maxLen; omega) (by omega) (by simp) ?_; intro v' w1 hown hgrow hat)
        go_wp2
        go_ret
        exact Fin.out (m + 1) _ _ (by omega) Hfin.out hown hgrow
set_option maxRecDepth 100000 in
set_option maxHeartbeats 1000000 in
theorem r1at (A : Option Addr) (n c : Nat) (xs : List Int) (k : Nat) (w : World) (hx : Limbs w A n xs) (hn : n ≤ 9223372036854775807) (hk : k ≤ 9223372036854775807) :
    Calls Tryz.prog 108 #[.slice A n c, .int .i64 (k : Int)] w fun e w' => e = .returned (.int .u64 (nth xs k)) ∧ w = w' := by
  by_cases hlt : k < n
  · obtain ⟨b, o, rfl, hb, hc⟩ := hx.at_ (by omega)
    have h1 := hc k hlt
    have hlt' : (k : Int) < (n : Int) := by omega
    have hk0 : (0 : Int) ≤ (k : Int) := by omega
    clear hc hx
    go_enter Tryz.func108, Tryz.ntmps108
    go_wp2
    go_ret
    exact ⟨rfl, rfl⟩
  · have hlt' : ¬ (k : Int) < (n : Int) := by omega
    have hz : Hid (nth xs k = 0) := nth_ge (by rw [hx.len]; omega)
    clear hx
    go_enter Tryz.func108, Tryz.ntmps108
    go_wp2
    go_ret
    rw [hz.out]
    exact ⟨rfl, rfl⟩
set_option maxRecDepth 100000 in
set_option maxHeartbeats 1000000 in
theorem r1digits (A : Option Addr) (n c : Nat) (xs : List Int) (w : World) (hx : Limbs w A n xs) (hn : n ≤ 1000000000) :
    Calls Tryz.prog 87 #[.slice A n c] w (GivesDg w (limbs xs) (2 * n)) := by
  obtain ⟨i0, hi, hz0, hz1, hz2⟩ := info_parts uint_info
  have Hl := Lib.hid hx.len
  have Hv := Lib.hid (v32_dgL hx.ok)
  have Hok := Lib.hid (dgL_ok hx.ok)
  go_enter Tryz.func87, Tryz.ntmps87
  go_wp2
  go_loopw [3, 4] (fun v i wr => ∃ k : Nat, k ≤ n ∧ i = .int .i64 k ∧ wr.ownsRow w.heap.size 81 1 v (2 * k) (lmbs (dgL (xs.take k))) ∧ Below w.heap.size w wr) (fun _ i _ => n - (intOf i).toNat)
  case atStart => exact ⟨0, by omega, rfl, World.ownsRow_nil _ _ _ _, Below.refl _ _⟩
  case round =>
    obtain ⟨k, hk, rfl, hown, hbel⟩ := hrel
    by_cases hlt : k < n
    · obtain ⟨b, o, rfl, hb, hc⟩ := hx.at_ (by omega)
      have hck : wr.cell? ⟨b, o + k, none⟩ = some (.int .u64 (nth xs k)) := (hbel.cell (p := ⟨b, o + k, none⟩) hb).trans (hc k hlt)
      have hlt' : (k : Int) < (n : Int) := by omega
      have hok := hx.ok k
      have e1 := u64_low (nth xs k) hok.1 hok.2
      have Hstep := Lib.hid (dgL_take_succ (xs := xs) (k := k) (by rw [Hl.out]; omega))
      go_wp2
      go_region_held3 (fun W => W.cell? ⟨b, o + k, none⟩ = some (.int .u64 (nth xs k)))
        (first | go_keep | (have hb1 := below_app hbel hown hgrow hbel.size; exact (hb1.cell (p := ⟨b, o + k, none⟩) hb).trans (hc k hlt)))
        (first | (refine step_append_lies _ (by rfl) _ _ _ (by rfl) w.heap.size 81 i0 _ 1 8 Tryz.underlying30 hi hz0 hz1 hz2 rfl (by omega) u3 (2 * k) (lmbs (dgL (xs.take k))) (by rfl) ((hown.alloc _).drew) ⟨wr.heap.size, 0, none⟩ 2 2 [.int .u64 (nth xs k % 4294967296), .int .u64 (nth xs k / 4294967296)] (by rfl) (by rfl) (World.news_of_block (cs := #[.int .u64 (nth xs k % 4294967296), .int .u64 (nth xs k / 4294967296)]) (t := 81) (fr := (0, 0)) (heap_alloc_new wr _)) (by simp [Value.oneCell']) (by omega) (by unfold maxLen; omega) (by omega) (by have := hbel.size; simp; omega) (wr.heap.size + 1) (by simp) ?_; intro gg cap w1 hown1 hgrow hat hlt1))
      have hb1 := below_app hbel hown hgrow hbel.size
      have hown2 : w1.ownsRow w.heap.size 81 1 (.slice (some ⟨gg, 0, none⟩) (2 * k + 2) cap) (2 * (k + 1)) (lmbs (dgL (xs.take (k + 1)))) := by
        rw [Hstep.out, lmbs_append]; exact hown1
      clear hgrow hat hown1 hown
      go_wp2
      go_roundw
      case rel => exact ⟨k + 1, by omega, by go_num, hown2, hb1⟩
      case measure => simp [intOf]; omega
    · obtain rfl : k = n := by omega
      rw [List.take_of_length_le (by rw [Hl.out]; omega)] at hown
      obtain ⟨A1, c1, rfl⟩ := own_slice hown
      obtain ⟨g1, g2⟩ := own_caps hown
      have hin := Limbs.of_own hown Hok.out.lm
      have Cc := Lib.hid (r1cut A1 (2 * k) c1 _ wr hin g1 g2)
      have Hp := Lib.hid (p32_take Hok.out hin.len)
      have Hle := Lib.hid (lmN_le (dgL xs) (2 * k))
      have Hin := Lib.hid hin
      clear hin hown
      go_wp2_with fail
      refine Cc.out.mono ?_
      rintro e w' ⟨rfl, rfl⟩
      go_wp2_with fail
      go_ret
      exact ⟨A1, _, c1, _, rfl, Nat.le_trans Hle.out g1, g2, Hle.out, Hin.out.take Hle.out, Hp.out.1, Hp.out.2.trans Hv.out, hbel⟩
set_option maxRecDepth 100000 in
set_option maxHeartbeats 1000000 in
theorem r1limbs (A : Option Addr) (n c : Nat) (ds : List Int) (w : World) (hx : Limbs w A n ds) (hd : Is32 ds) (hn : n ≤ 1000000000) :
    Calls Tryz.prog 88 #[.slice A n c] w (GivesN w (v32 ds) n) := by
  obtain ⟨i0, hi, hz0, hz1, hz2⟩ := info_parts uint_info
  have Hl := Lib.hid hx.len
  have Hok := Lib.hid (pr_ok hd)
  have Hf := Lib.hid (prF_ok hd)
  have Hd := Lib.hid hd
  clear hd
  go_enter Tryz.func88, Tryz.ntmps88
  go_wp2
  go_loopw [3, 4] (fun v i wr => ∃ k j : Nat, Hid (j = 2 * k) ∧ j ≤ n + 1 ∧ i = .int .i64 j ∧ wr.ownsRow w.heap.size 81 1 v k (lmbs (tab k (prF ds))) ∧ Below w.heap.size w wr) (fun _ i _ => n + 1 - (intOf i).toNat)
  case atStart => exact ⟨0, 0, rfl, by omega, rfl, World.ownsRow_nil _ _ _ _, Below.refl _ _⟩
  case round =>
    obtain ⟨k, j, hj, hk, rfl, hown, hbel⟩ := hrel
    by_cases hlt : j < n
    · obtain ⟨b, o, rfl, hb, hc⟩ := hx.at_ (by omega)
      have hck : wr.cell? ⟨b, o + j, none⟩ = some (.int .u64 (nth ds j)) := (hbel.cell (p := ⟨b, o + j, none⟩) hb).trans (hc j hlt)
      have hlt' : (j : Int) < (n : Int) := by omega
      obtain ⟨d1, d2⟩ := Hd.out j
      obtain ⟨d3, d4⟩ := Hd.out (j + 1)
      have e1 : IntKind.u64.wrap (nth ds (j + 1) * 4294967296) = nth ds (j + 1) * 4294967296 := by rw [u64_wrap_eq]; omega
      have e2 : IntKind.u64.wrap (nth ds j + nth ds (j + 1) * 4294967296) = nth ds j + nth ds (j + 1) * 4294967296 := by rw [u64_wrap_eq]; omega
      have Hpr : Hid (prF ds k = nth ds j + nth ds (j + 1) * 4294967296) := by show _ = _; unfold prF; rw [hj.out]
      by_cases hlt2 : j + 1 < n
      · have hlt2' : (j : Int) + 1 < (n : Int) := by omega
        have hck2 : wr.cell? ⟨b, o + (j + 1), none⟩ = some (.int .u64 (nth ds (j + 1))) := (hbel.cell (p := ⟨b, o + (j + 1), none⟩) hb).trans (hc (j + 1) hlt2)
        clear hc hx
        go_wp2_with (at_builtin; refine wpList_append_lies _ (by rfl) _ _ _ (by rfl) w.heap.size 81 i0 _ 1 8 Tryz.underlying30 hi hz0 hz1 hz2 rfl (by omega) u3 (k) (lmbs (tab k (prF ds))) (by rfl) (hown.alloc _) ⟨wr.heap.size, 0, none⟩ 1 1 [.int .u64 (nth ds j + nth ds (j + 1) * 4294967296)] (by rfl) (by rfl) (World.news_of_block (cs := #[.int .u64 (nth ds j + nth ds (j + 1) * 4294967296)]) (t := 81) (fr := (0, 0)) (heap_alloc_new wr _)) (by simp [Value.oneCell']) (by omega) (by have := hj.out; unfold maxLen; omega) (by have := hj.out; omega) (by have := hbel.size; simp; omega) (wr.heap.size + 1) (by simp) ?_; intro gg cap w1 hown1 hgrow hat hlt1)
        have hb3 := below_app' hbel hown hgrow hbel.size
        have hown2 : w1.ownsRow w.heap.size 81 1 (.slice (some ⟨gg, 0, none⟩) (k + 1) cap) (k + 1) (lmbs (tab (k + 1) (prF ds))) := by
          rw [tab_snoc, lmbs_append, Hpr.out]; exact hown1
        clear hgrow hat hown1 hown
        go_wp2
        go_roundw
        case rel => exact ⟨k + 1, j + 2, by have := hj.out; show _ = _; omega, by omega, by go_num, hown2, hb3⟩
        case measure => simp [intOf]; omega
      · have hlt2' : ¬ (j : Int) + 1 < (n : Int) := by omega
        have Hpr2 : Hid (prF ds k = nth ds j) := by
          show _ = _
          rw [Hpr.out, nth_ge (xs := ds) (i := j + 1) (by rw [Hl.out]; omega)]; omega
        clear hc hx
        go_wp2_with (at_builtin; refine wpList_append_lies _ (by rfl) _ _ _ (by rfl) w.heap.size 81 i0 _ 1 8 Tryz.underlying30 hi hz0 hz1 hz2 rfl (by omega) u3 (k) (lmbs (tab k (prF ds))) (by rfl) (hown.alloc _) ⟨wr.heap.size, 0, none⟩ 1 1 [.int .u64 (nth ds j)] (by rfl) (by rfl) (World.news_of_block (cs := #[.int .u64 (nth ds j)]) (t := 81) (fr := (0, 0)) (heap_alloc_new wr _)) (by simp [Value.oneCell']) (by omega) (by have := hj.out; unfold maxLen; omega) (by have := hj.out; omega) (by have := hbel.size; simp; omega) (wr.heap.size + 1) (by simp) ?_; intro gg cap w1 hown1 hgrow hat hlt1)
        have hb3 := below_app' hbel hown hgrow hbel.size
        have hown2 : w1.ownsRow w.heap.size 81 1 (.slice (some ⟨gg, 0, none⟩) (k + 1) cap) (k + 1) (lmbs (tab (k + 1) (prF ds))) := by
          rw [tab_snoc, lmbs_append, Hpr2.out]; exact hown1
        clear hgrow hat hown1 hown
        go_wp2
        go_roundw
        case rel => exact ⟨k + 1, j + 2, by have := hj.out; show _ = _; omega, by omega, by go_num, hown2, hb3⟩
        case measure => simp [intOf]; omega
    · have hlt' : ¬ (j : Int) < (n : Int) := by omega
      obtain ⟨A1, c1, rfl⟩ := own_slice hown
      obtain ⟨g1, g2⟩ := own_caps hown
      have Cc := Lib.hid (r1norm A1 k c1 _ wr (Limbs.of_own hown (Hok.out k)) g1 g2 (by have := hj.out; omega))
      have He := Lib.hid (pr_whole Hd.out (k := k) (by have := hj.out; rw [Hl.out]; omega))
      rw [He.out] at Cc
      clear hown
      go_wp2_with fail
      refine Cc.out.mono ?_
      rintro e w' ⟨A2, k2, c2, l2, rfl, q1, q2, q3, q4, q5, q6, q7⟩
      have F : Hid (GivesN w (v32 ds) n (.returned (.slice A2 k2 c2)) w') := ⟨A2, k2, c2, l2, rfl, q1, q2, by have := hj.out; omega, q4, q5, q6, hbel.trans (q7.mono hbel.size)⟩
      clear q4 q5 q6 q7
      go_wp2_with fail
      go_ret
      exact F.out
end Go.Proofs.YtjmbejodcloapaaGreat
namespace Go.Proofs.YtjmbejodcloapaaGreat
open Go.RowKit Cl
attribute [local go_sem ↓] Go.wp_at_zero Go.wp_at_succ
def GivesDgF (w : World) (v K : Nat) (e : Ending) (w' : World) : Prop :=
  ∃ A k c ds, e = .returned (.slice A k c) ∧ k ≤ c ∧ c ≤ 9223372036854775807 ∧ k ≤ K ∧ Limbs w' A k ds ∧ P32 ds ∧ v32 ds = v ∧ (∀ y, A = some y → w.heap.size ≤ y.block) ∧ Below w.heap.size w w'
theorem GivesDgF.dg {w : World} {v K : Nat} {e : Ending} {w' : World} (h : GivesDgF w v K e w') : GivesDg w v K e w' := by
  obtain ⟨A, k, c, ds, h1, h2, h3, h4, h5, h6, h7, _, h8⟩ := h
  exact ⟨A, k, c, ds, h1, h2, h3, h4, h5, h6, h7, h8⟩
theorem GivesN.from_ {w0 w : World} {v K : Nat} {e : Ending} {w' : World} (h : GivesN w v K e w') (hb : Below w0.heap.size w0 w) : GivesN w0 v K e w' := by
  obtain ⟨A, k, c, ds, h1, h2, h3, h4, h5, h6, h7, h8⟩ := h
  exact ⟨A, k, c, ds, h1, h2, h3, h4, h5, h6, h7, hb.trans (h8.mono hb.size)⟩
theorem plain_lenR {ls : List Int} (h : PlainL ls) {j : Nat} (hv : limbs ls < 2 ^ (64 * j)) : ls.length ≤ j := by
  rcases Nat.lt_or_ge j ls.length with hl | hl
  · exfalso
    have h1 := h.low (by omega)
    have h3 : 2 ^ (64 * j) ≤ 2 ^ (64 * (ls.length - 1)) := Nat.pow_le_pow_right (by omega) (by omega)
    omega
  · exact hl
theorem GivesN.len {w : World} {v K j : Nat} {e : Ending} {w' : World} (h : GivesN w v K e w') (hv : v < 2 ^ (64 * j)) : GivesN w v j e w' := by
  obtain ⟨A, k, c, ds, h1, h2, h3, h4, h5, h6, h7, h8⟩ := h
  exact ⟨A, k, c, ds, h1, h2, h3, by have := plain_lenR h6 (j := j) (by omega); have := h5.len; omega, h5, h6, h7, h8⟩
theorem addD_int {xs ys : List Int} (hx : Is32 xs) (hy : Is32 ys) (k c : Nat) (hc : c ≤ 1) : ((addD xs ys k c).1 : Int) = (nth xs k + nth ys k + (c : Int)) % 4294967296 ∧ ((addD xs ys k c).2 : Int) = (nth xs k + nth ys k + (c : Int)) / 4294967296 ∧ 0 ≤ nth xs k + nth ys k ∧ nth xs k + nth ys k < 18446744073709551616 ∧ nth xs k + nth ys k + (c : Int) < 18446744073709551616 := by
  have h1 := hx k
  have h2 := hy k
  unfold addD
  simp only
  omega
theorem lesD_int {xs ys : List Int} (hx : Is32 xs) (hy : Is32 ys) (k c : Nat) (hc : c ≤ 1) : ((lesD xs ys k c).1 : Int) = (nth xs k + 4294967296 - nth ys k - (c : Int)) % 4294967296 ∧ ((lesD xs ys k c).2 : Int) = 1 - (nth xs k + 4294967296 - nth ys k - (c : Int)) / 4294967296 ∧ 0 ≤ nth xs k + 4294967296 - nth ys k - (c : Int) ∧ nth xs k + 4294967296 - nth ys k - (c : Int) < 18446744073709551616 ∧ nth xs k + 4294967296 < 18446744073709551616 ∧ 0 ≤ nth xs k + 4294967296 - nth ys k ∧ 0 ≤ nth xs k ∧ 0 ≤ nth ys k ∧ 0 ≤ 1 - (nth xs k + 4294967296 - nth ys k - (c : Int)) / 4294967296 := by
  have h1 := hx k
  have h2 := hy k
  unfold lesD
  simp only
  omega
set_option maxRecDepth 100000 in
set_option maxHeartbeats 1000000 in
theorem r1compare (A B : Option Addr) (n m c d : Nat) (xs ys : List Int) (w : World) (hx : Limbs w A n xs) (hy : Limbs w B m ys) (hdx : Is32 xs) (hdy : Is32 ys) (hn : n ≤ 1000000000) (hm : m ≤ 1000000000) :
    Calls Tryz.prog 109 #[.slice A n c, .slice B m d] w fun e w' => e = .returned (.int .i64 (cmpN (v32 xs) (v32 ys))) ∧ w = w' := by
  have Hl := Lib.hid hx.len
  have Hm := Lib.hid hy.len
  have Cx := Lib.hid (fun k (h : k ≤ 1000000000) => r1at A n c xs k w hx (by omega) (by omega))
  have Cy := Lib.hid (fun k (h : k ≤ 1000000000) => r1at B m d ys k w hy (by omega) (by omega))
  have Hless : Hid (∀ k M, nth xs k < nth ys k → (∀ j, k + 1 ≤ j → j < M → nth xs j = nth ys j) → k < M → n ≤ M → m ≤ M → cmpN (v32 xs) (v32 ys) = -1) := fun k M h1 h2 h3 h4 h5 => by
    have := v32_less hdx hdy h1 h2 h3 (by rw [Hl.out]; exact h4) (by rw [Hm.out]; exact h5)
    unfold cmpN; rw [if_pos this]
  have Hmore : Hid (∀ k M, nth ys k < nth xs k → (∀ j, k + 1 ≤ j → j < M → nth xs j = nth ys j) → k < M → n ≤ M → m ≤ M → cmpN (v32 xs) (v32 ys) = 1) := fun k M h1 h2 h3 h4 h5 => by
    have := v32_less hdy hdx h1 (fun j a b => (h2 j a b).symm) h3 (by rw [Hm.out]; exact h5) (by rw [Hl.out]; exact h4)
    unfold cmpN; rw [if_neg (by omega), if_pos this]
  have Hsame : Hid (∀ M, (∀ j, 0 ≤ j → j < M → nth xs j = nth ys j) → n ≤ M → m ≤ M → cmpN (v32 xs) (v32 ys) = 0) := fun M h2 h4 h5 => by
    have := v32_same (fun j h => h2 j (Nat.zero_le _) h) (by rw [Hl.out]; exact h4) (by rw [Hm.out]; exact h5)
    unfold cmpN; rw [this, if_neg (by omega), if_neg (by omega)]
  clear hx hy hdx hdy
  generalize cmpN (v32 xs) (v32 ys) = r at *
  go_enter Tryz.func109, Tryz.ntmps109
  obtain ⟨wo, rfl⟩ : ∃ wo : World, wo = w := ⟨_, rfl⟩
  by_cases hcase : (n : Int) < (m : Int)
  all_goals
    obtain ⟨M, hLM, hLM', hMe⟩ : ∃ M, n ≤ M ∧ m ≤ M ∧ ((n : Int) < (m : Int) ∧ M = m ∨ ¬ (n : Int) < (m : Int) ∧ M = n) := by
      by_cases h : (n : Int) < (m : Int)
      · exact ⟨m, by omega, Nat.le_refl _, .inl ⟨h, rfl⟩⟩
      · exact ⟨n, Nat.le_refl _, by omega, .inr ⟨h, rfl⟩⟩
    have hMb : M ≤ 1000000000 := by omega
    have hMx : max (n : Int) (m : Int) = (M : Int) := by omega
    rcases hMe with ⟨hq, hMe⟩ | ⟨hq, hMe⟩
    all_goals
     first
      | exact absurd hq hcase
      | exact absurd hcase hq
      | skip
    clear hq
    have HMe := Lib.hid hMe
    clear hMe
    go_wp2
    go_loopw [5] (fun i wr => ∃ (k : Nat) (z : Int), k ≤ M ∧ Hid (z = (k : Int) - 1) ∧ i = .int .i64 z ∧ Hid (∀ j, k ≤ j → j < M → nth xs j = nth ys j) ∧ wr = wo) (fun i _ => (intOf i + 1).toNat)
    case atStart => exact ⟨M, (M : Int) - 1, Nat.le_refl _, rfl, by have := HMe.out; first | rfl | go_num | (subst this; rfl), fun j h1 h2 => absurd h1 (by omega), rfl⟩
    case round =>
      obtain ⟨k, z, hk, hz, rfl, hall, rfl⟩ := hrel
      cases k with
      | zero =>
        obtain rfl : z = -1 := hz.out
        have Hr := Lib.hid (Hsame.out M hall.out hLM hLM')
        go_wp2
        go_ret
        rw [Hr.out]
        exact ⟨rfl, rfl⟩
      | succ k =>
        obtain rfl : z = (k : Int) := by have := hz.out; omega
        have hk0 : (0 : Int) ≤ (k : Int) := by omega
        by_cases h1 : nth xs k < nth ys k
        · have Hr := Lib.hid (Hless.out k M h1 hall.out (by omega) hLM hLM')
          go_wp2_with ((go_at_call 108; first | ((with_reducible show Calls _ _ #[.slice A _ _, _] _ _); refine (Cx.out k (by omega)).mono ?_; rintro e w' ⟨rfl, rfl⟩) | ((with_reducible show Calls _ _ #[.slice B _ _, _] _ _); refine (Cy.out k (by omega)).mono ?_; rintro e w' ⟨rfl, rfl⟩)))
          go_wp2
          go_ret
          rw [Hr.out]
          exact ⟨rfl, rfl⟩
        · by_cases h2 : nth ys k < nth xs k
          · have Hr := Lib.hid (Hmore.out k M h2 hall.out (by omega) hLM hLM')
            go_wp2_with ((go_at_call 108; first | ((with_reducible show Calls _ _ #[.slice A _ _, _] _ _); refine (Cx.out k (by omega)).mono ?_; rintro e w' ⟨rfl, rfl⟩) | ((with_reducible show Calls _ _ #[.slice B _ _, _] _ _); refine (Cy.out k (by omega)).mono ?_; rintro e w' ⟨rfl, rfl⟩)))
            go_wp2
            go_ret
            rw [Hr.out]
            exact ⟨rfl, rfl⟩
          · have Hs : Hid (∀ j, k ≤ j → j < M → nth xs j = nth ys j) := fun j a b => by
              rcases Nat.eq_or_lt_of_le a with e | e
              · subst e; omega
              · exact hall.out j e b
            go_wp2_with ((go_at_call 108; first | ((with_reducible show Calls _ _ #[.slice A _ _, _] _ _); refine (Cx.out k (by omega)).mono ?_; rintro e w' ⟨rfl, rfl⟩) | ((with_reducible show Calls _ _ #[.slice B _ _, _] _ _); refine (Cy.out k (by omega)).mono ?_; rintro e w' ⟨rfl, rfl⟩)))
            go_wp2
            go_roundw
            case rel => exact ⟨k, (k : Int) - 1, by omega, rfl, by go_num, Hs.out, trivial⟩
            case measure => simp [intOf] <;> omega
set_option maxRecDepth 100000 in
set_option maxHeartbeats 1000000 in
theorem r1lessF (A B : Option Addr) (n m c d : Nat) (xs ys : List Int) (w : World) (hx : Limbs w A n xs) (hy : Limbs w B m ys) (hdx : Is32 xs) (hdy : Is32 ys) (hn : n ≤ 1000000000) (hmn : m ≤ n) (hv : v32 ys ≤ v32 xs) :
    Calls Tryz.prog 110 #[.slice A n c, .slice B m d] w (GivesDgF w (v32 xs - v32 ys) n) := by
  obtain ⟨i0, hi, hz0, hz1, hz2⟩ := info_parts uint_info
  have Hl := Lib.hid hx.len
  have Cx := Lib.hid (fun k W (h : Below w.heap.size w W) (hk : k ≤ 1000000000) => r1at A n c xs k W (hx.bel h) (by omega) (by omega))
  have Cy := Lib.hid (fun k W (h : Below w.heap.size w W) (hk : k ≤ 1000000000) => r1at B m d ys k W (hy.bel h) (by omega) (by omega))
  have Hc := Lib.hid (fun k => (lesD_val hdx hdy k).1)
  have Hi := Lib.hid (fun k q (h : q ≤ 1) => lesD_int hdx hdy k q h)
  have Hok := Lib.hid (car_ok32 (lesD_lt xs ys))
  have Hw : Hid (v32 (carL (lesD xs ys) n).1 = v32 xs - v32 ys) := by
    have := lesD_whole hdx hdy (by rw [hx.len, hy.len]; exact hmn) hv
    rw [hx.len] at this; exact this
  have Hlen := Lib.hid (carL_length (lesD xs ys))
  have Hs : Hid (∀ k, (carL (lesD xs ys) (k + 1)).1 = (carL (lesD xs ys) k).1 ++ [((lesD xs ys k (carL (lesD xs ys) k).2).1 : Int)] ∧ (carL (lesD xs ys) (k + 1)).2 = (lesD xs ys k (carL (lesD xs ys) k).2).2) := fun k => ⟨rfl, rfl⟩
  clear hx hy hdx hdy
  generalize lesD xs ys = F at *
  generalize v32 xs - v32 ys = V at *
  go_enter Tryz.func110, Tryz.ntmps110
  go_wp2
  go_loopw [5, 6, 7] (fun v q i wr => ∃ k : Nat, k ≤ n ∧ i = .int .i64 k ∧ q = .int .u64 ((carL F k).2 : Int) ∧ wr.ownsRow w.heap.size 81 1 v k (lmbs (carL F k).1) ∧ Below w.heap.size w wr) (fun _ _ i _ => n - (intOf i).toNat)
  case atStart => exact ⟨0, by omega, rfl, rfl, World.ownsRow_nil _ _ _ _, Below.refl _ _⟩
  case round =>
    obtain ⟨k, hk, rfl, rfl, hown, hbel⟩ := hrel
    by_cases hlt : k < n
    · have hlt' : (k : Int) < (n : Int) := by omega
      obtain ⟨hs1, hs2⟩ := Hs.out k
      have hq := Hc.out k
      generalize hL : (carL F k).1 = L at *
      obtain ⟨q, hqe⟩ : ∃ q : Nat, (carL F k).2 = q := ⟨_, rfl⟩
      rw [hqe] at hs1 hs2 hq ⊢
      obtain ⟨i1, i2, i3, i4, i5, i6, i7, i8, i9⟩ := Hi.out k q hq
      have HL := Lib.hid hL
      have Hs1 := Lib.hid hs1
      have Hs2 := Lib.hid hs2
      have Hi1 := Lib.hid i1
      have Hi2 := Lib.hid i2
      clear hL hqe hs1 hs2 i1 i2
      have e1 : IntKind.u64.wrap (nth xs k + 4294967296) = nth xs k + 4294967296 := by rw [u64_wrap_eq]; omega
      have e2 : IntKind.u64.wrap (nth xs k + 4294967296 - nth ys k) = nth xs k + 4294967296 - nth ys k := by rw [u64_wrap_eq]; omega
      have e3 : IntKind.u64.wrap (nth xs k + 4294967296 - nth ys k - (q : Int)) = nth xs k + 4294967296 - nth ys k - (q : Int) := by rw [u64_wrap_eq]; omega
      have e4 := u64_low (nth xs k + 4294967296 - nth ys k - (q : Int)) i3 i4
      have e5 : IntKind.u64.wrap (1 - (nth xs k + 4294967296 - nth ys k - (q : Int)) / 4294967296) = 1 - (nth xs k + 4294967296 - nth ys k - (q : Int)) / 4294967296 := by rw [u64_wrap_eq]; omega
      go_wp2_with (first
        | (go_at_call 108; first | ((with_reducible show Calls _ _ #[.slice A _ _, _] _ _); refine (Cx.out k _ hbel (by omega)).mono ?_; rintro e w' ⟨rfl, rfl⟩) | ((with_reducible show Calls _ _ #[.slice B _ _, _] _ _); refine (Cy.out k _ hbel (by omega)).mono ?_; rintro e w' ⟨rfl, rfl⟩))
        | (at_builtin; refine wpList_append_lies _ (by rfl) _ _ _ (by rfl) w.heap.size 81 i0 _ 1 8 Tryz.underlying30 hi hz0 hz1 hz2 rfl (by omega) u5 (k) (lmbs (L)) (by rfl) (hown.alloc _) ⟨wr.heap.size, 0, none⟩ 1 1 [.int .u64 ((nth xs k + 4294967296 - nth ys k - (q : Int)) % 4294967296)] (by rfl) (by rfl) (World.news_of_block (cs := #[.int .u64 ((nth xs k + 4294967296 - nth ys k - (q : Int)) % 4294967296)]) (t := 81) (fr := (0, 0)) (heap_alloc_new wr _)) (by simp [Value.oneCell']) (by omega) (by unfold maxLen; omega) (by omega) (by have := hbel.size; simp; omega) (wr.heap.size + 1) (by simp) ?_; intro gg cap w1 hown1 hgrow hat hlt1))
      have hb3 := below_app' hbel hown hgrow hbel.size
      have hown2 : w1.ownsRow w.heap.size 81 1 (.slice (some ⟨gg, 0, none⟩) (k + 1) cap) (k + 1) (lmbs (carL F (k + 1)).1) := by
        rw [Hs1.out, lmbs_append, Hi1.out]; exact hown1
      have Hq : Hid (((carL F (k + 1)).2 : Int) = 1 - (nth xs k + 4294967296 - nth ys k - (q : Int)) / 4294967296) := by
        show _ = _
        rw [Hs2.out]; exact Hi2.out
      clear hgrow hat hown1 hown
      go_wp2
      go_roundw
      case rel => exact ⟨k + 1, by omega, by go_num, by rw [Hq.out], hown2, hb3⟩
      case measure => simp [intOf]; omega
    · obtain rfl : k = n := by omega
      obtain ⟨A1, c1, rfl⟩ := own_slice hown
      obtain ⟨g1, g2⟩ := own_caps hown
      have hin := Limbs.of_own hown (Hok.out k).lm
      have Cc := Lib.hid (r1cut A1 k c1 _ wr hin g1 g2)
      have Hp := Lib.hid (p32_take (Hok.out k) hin.len)
      have Hle := Lib.hid (lmN_le (carL F k).1 k)
      have Hin := Lib.hid hin
      have Hfr : Hid (∀ y, A1 = some y → w.heap.size ≤ y.block) := fun y hy => (hown.lt y.block (by subst hy; rfl)).1
      clear hin hown
      go_wp2_with fail
      refine Cc.out.mono ?_
      rintro e w' ⟨rfl, rfl⟩
      go_wp2_with fail
      go_ret
      exact ⟨A1, _, c1, _, rfl, Nat.le_trans Hle.out g1, g2, Hle.out, Hin.out.take Hle.out, Hp.out.1, Hp.out.2.trans Hw.out, Hfr.out, hbel⟩
theorem r1less (A B : Option Addr) (n m c d : Nat) (xs ys : List Int) (w : World) (hx : Limbs w A n xs) (hy : Limbs w B m ys) (hdx : Is32 xs) (hdy : Is32 ys) (hn : n ≤ 1000000000) (hmn : m ≤ n) (hv : v32 ys ≤ v32 xs) :
    Calls Tryz.prog 110 #[.slice A n c, .slice B m d] w (GivesDg w (v32 xs - v32 ys) n) :=
  (r1lessF A B n m c d xs ys w hx hy hdx hdy hn hmn hv).mono fun _ _ h => h.dg
set_option maxRecDepth 100000 in
set_option maxHeartbeats 1000000 in
theorem r1add (A B : Option Addr) (n m c d : Nat) (xs ys : List Int) (w : World) (hx : Limbs w A n xs) (hy : Limbs w B m ys) (hn : n ≤ 100000000) (hm : m ≤ 100000000) :
    Calls Tryz.prog 80 #[.slice A n c, .slice B m d] w (GivesN w (limbs xs + limbs ys) (max n m + 1)) := by
  obtain ⟨i0, hi, hz0, hz1, hz2⟩ := info_parts uint_info
  have Ca := Lib.hid (r1digits A n c xs w hx (by omega))
  have Cb := Lib.hid (fun W (h : Below w.heap.size w W) => r1digits B m d ys W (hy.bel h) (by omega))
  have Hlt : Hid (limbs xs + limbs ys < 2 ^ (64 * (max n m + 1))) := by
    have h1 := limbs_lt hx.ok
    have h2 := limbs_lt hy.ok
    rw [hx.len] at h1
    rw [hy.len] at h2
    have h3 : 2 ^ (64 * n) ≤ 2 ^ (64 * max n m) := Nat.pow_le_pow_right (by omega) (by omega)
    have h4 : 2 ^ (64 * m) ≤ 2 ^ (64 * max n m) := Nat.pow_le_pow_right (by omega) (by omega)
    show _ < _
    rw [pow64_succ]; omega
  clear hx hy
  generalize limbs xs = X at *
  generalize limbs ys = Y at *
  obtain ⟨N, hN⟩ : ∃ N, N = max n m + 1 := ⟨_, rfl⟩
  rw [← hN] at Hlt ⊢
  clear hN
  go_enter Tryz.func80, Tryz.ntmps80
  go_wp2_with fail
  refine Ca.out.mono ?_
  rintro e w1 ⟨A1, n1, c1, ds, rfl, p1, p2, p3, p4, p5, p6, p7⟩
  have Cb1 := Lib.hid (Cb.out w1 p7)
  have P4 := Lib.hid p4
  have P5 := Lib.hid p5
  have P6 := Lib.hid p6
  have P7 := Lib.hid p7
  clear p4 p5 p6 p7
  go_wp2_with fail
  refine Cb1.out.mono ?_
  rintro e w2 ⟨A2, n2, c2, es, rfl, q1, q2, q3, q4, q5, q6, q7⟩
  have hb2 := P7.out.trans (q7.mono P7.out.size)
  have Cx := Lib.hid (fun k W (h : Below w2.heap.size w2 W) (hk : k ≤ 1000000000) => r1at A1 n1 c1 ds k W ((P4.out.bel q7).bel h) (by omega) (by omega))
  have Cy := Lib.hid (fun k W (h : Below w2.heap.size w2 W) (hk : k ≤ 1000000000) => r1at A2 n2 c2 es k W (q4.bel h) (by omega) (by omega))
  have Hc := Lib.hid (fun k => (addD_val P5.out.ok q5.ok k).1)
  have Hi := Lib.hid (fun k q (h : q ≤ 1) => addD_int P5.out.ok q5.ok k q h)
  have Hok := Lib.hid (car_ok32 (addD_lt ds es))
  have Hw : Hid (∀ M, n1 ≤ M → n2 ≤ M → v32 (carL (addD ds es) (M + 1)).1 = X + Y) := fun M h1 h2 => by
    rw [addD_whole P5.out.ok q5.ok (by rw [P4.out.len]; exact h1) (by rw [q4.len]; exact h2), P6.out, q6]
  have Hs : Hid (∀ k, (carL (addD ds es) (k + 1)).1 = (carL (addD ds es) k).1 ++ [((addD ds es k (carL (addD ds es) k).2).1 : Int)] ∧ (carL (addD ds es) (k + 1)).2 = (addD ds es k (carL (addD ds es) k).2).2) := fun k => ⟨rfl, rfl⟩
  have Hb2 := Lib.hid hb2
  clear hb2 q4 q5 q6 q7 P4 P5 P6 P7 Ca Cb Cb1
  generalize addD ds es = F at *
  by_cases hcase : (n1 : Int) < (n2 : Int)
  all_goals
    obtain ⟨M, hLM, hLM', hMe⟩ : ∃ M, n1 ≤ M ∧ n2 ≤ M ∧ ((n1 : Int) < (n2 : Int) ∧ M = n2 ∨ ¬ (n1 : Int) < (n2 : Int) ∧ M = n1) := by
      by_cases h : (n1 : Int) < (n2 : Int)
      · exact ⟨n2, by omega, Nat.le_refl _, .inl ⟨h, rfl⟩⟩
      · exact ⟨n1, Nat.le_refl _, by omega, .inr ⟨h, rfl⟩⟩
    have hMb : M ≤ 900000000 := by omega
    have hMx : max (n1 : Int) (n2 : Int) = (M : Int) := by omega
    rcases hMe with ⟨hq, hMe⟩ | ⟨hq, hMe⟩
    all_goals
     first
      | exact absurd hq hcase
      | exact absurd hcase hq
      | skip
    clear hq
    obtain rfl := hMe
    go_wp2
    go_loopw [7, 8, 9] (fun v q i wr => ∃ k : Nat, k ≤ M + 1 ∧ i = .int .i64 k ∧ q = .int .u64 ((carL F k).2 : Int) ∧ wr.ownsRow w2.heap.size 81 1 v k (lmbs (carL F k).1) ∧ Below w2.heap.size w2 wr) (fun _ _ i _ => M + 1 - (intOf i).toNat)
    case atStart => exact ⟨0, by omega, rfl, rfl, World.ownsRow_nil _ _ _ _, Below.refl _ _⟩
    case round =>
      obtain ⟨k, hk, rfl, rfl, hown, hbel⟩ := hrel
      by_cases hlt : k < M + 1
      · have hlt' : (k : Int) < (M : Int) + 1 := by omega
        obtain ⟨hs1, hs2⟩ := Hs.out k
        have hq := Hc.out k
        generalize hL : (carL F k).1 = L at *
        obtain ⟨q, hqe⟩ : ∃ q : Nat, (carL F k).2 = q := ⟨_, rfl⟩
        rw [hqe] at hs1 hs2 hq ⊢
        obtain ⟨i1, i2, i3, i4, i5⟩ := Hi.out k q hq
        have HL := Lib.hid hL
        have Hs1 := Lib.hid hs1
        have Hs2 := Lib.hid hs2
        have Hi1 := Lib.hid i1
        have Hi2 := Lib.hid i2
        clear hL hqe hs1 hs2 i1 i2
        have e1 : IntKind.u64.wrap (nth ds k + nth es k) = nth ds k + nth es k := by rw [u64_wrap_eq]; omega
        have e2 : IntKind.u64.wrap (nth ds k + nth es k + (q : Int)) = nth ds k + nth es k + (q : Int) := by rw [u64_wrap_eq]; omega
        have e4 := u64_low (nth ds k + nth es k + (q : Int)) (by omega) i5
        go_wp2_with (first
          | (go_at_call 108; first | ((with_reducible show Calls _ _ #[.slice A1 _ _, _] _ _); refine (Cx.out k _ hbel (by omega)).mono ?_; rintro e w' ⟨rfl, rfl⟩) | ((with_reducible show Calls _ _ #[.slice A2 _ _, _] _ _); refine (Cy.out k _ hbel (by omega)).mono ?_; rintro e w' ⟨rfl, rfl⟩))
          | (at_builtin; refine wpList_append_lies _ (by rfl) _ _ _ (by rfl) w2.heap.size 81 i0 _ 1 8 Tryz.underlying30 hi hz0 hz1 hz2 rfl (by omega) u7 (k) (lmbs (L)) (by rfl) (hown.alloc _) ⟨wr.heap.size, 0, none⟩ 1 1 [.int .u64 ((nth ds k + nth es k + (q : Int)) % 4294967296)] (by rfl) (by rfl) (World.news_of_block (cs := #[.int .u64 ((nth ds k + nth es k + (q : Int)) % 4294967296)]) (t := 81) (fr := (0, 0)) (heap_alloc_new wr _)) (by simp [Value.oneCell']) (by omega) (by unfold maxLen; omega) (by omega) (by have := hbel.size; simp; omega) (wr.heap.size + 1) (by simp) ?_; intro gg cap w3 hown1 hgrow hat hlt1))
        have hb3 := below_app' hbel hown hgrow hbel.size
        have hown2 : w3.ownsRow w2.heap.size 81 1 (.slice (some ⟨gg, 0, none⟩) (k + 1) cap) (k + 1) (lmbs (carL F (k + 1)).1) := by
          rw [Hs1.out, lmbs_append, Hi1.out]; exact hown1
        have Hq : Hid (((carL F (k + 1)).2 : Int) = (nth ds k + nth es k + (q : Int)) / 4294967296) := by
          show _ = _
          rw [Hs2.out]; exact Hi2.out
        clear hgrow hat hown1 hown
        go_wp2
        go_roundw
        case rel => exact ⟨k + 1, by omega, by go_num, by rw [Hq.out], hown2, hb3⟩
        case measure => simp [intOf]; omega
      · obtain rfl : k = M + 1 := by omega
        have hlt' : ¬ ((M + 1 : Nat) : Int) < (M : Int) + 1 := by omega
        obtain ⟨A3, c3, rfl⟩ := own_slice hown
        obtain ⟨g1, g2⟩ := own_caps hown
        have hin := Limbs.of_own hown (Hok.out (M + 1)).lm
        have Cc := Lib.hid (r1limbs A3 (M + 1) c3 _ wr hin (Hok.out (M + 1)) (by omega))
        rw [Hw.out M hLM hLM'] at Cc
        have Hbel := Lib.hid hbel
        clear hin hown hbel
        go_wp2_with fail
        refine Cc.out.mono ?_
        intro e w' h
        have h2 := (h.from_ (Hb2.out.trans (Hbel.out.mono Hb2.out.size))).len Hlt.out
        obtain ⟨A4, n4, c4, l4, rfl, r⟩ := h2
        have F : Hid (GivesN w (X + Y) N (.returned (.slice A4 n4 c4)) w') := ⟨A4, n4, c4, l4, rfl, r⟩
        clear r h
        go_wp2_with fail
        go_ret
        exact F.out
def SubOut (w : World) (X Y K : Nat) (e : Ending) (w' : World) : Prop :=
  if Y ≤ X then ∃ A k c ls, e = .returned (.tuple #[.slice A k c, .int .i64 0]) ∧ k ≤ c ∧ c ≤ 9223372036854775807 ∧ k ≤ K ∧ Limbs w' A k ls ∧ PlainL ls ∧ limbs ls = X - Y ∧ Below w.heap.size w w'
  else e = .returned (.tuple #[.slice none 0 0, .int .i64 1]) ∧ Below w.heap.size w w'
theorem SubOut.yes {w : World} {X Y K : Nat} {e : Ending} {w' : World} (h : SubOut w X Y K e w') (hle : Y ≤ X) : ∃ A k c ls, e = .returned (.tuple #[.slice A k c, .int .i64 0]) ∧ k ≤ c ∧ c ≤ 9223372036854775807 ∧ k ≤ K ∧ Limbs w' A k ls ∧ PlainL ls ∧ limbs ls = X - Y ∧ Below w.heap.size w w' := by
  unfold SubOut at h; rwa [if_pos hle] at h
theorem SubOut.no {w : World} {X Y K : Nat} {e : Ending} {w' : World} (h : SubOut w X Y K e w') (hle : ¬ Y ≤ X) : e = .returned (.tuple #[.slice none 0 0, .int .i64 1]) ∧ Below w.heap.size w w' := by
  unfold SubOut at h; rwa [if_neg hle] at h
set_option maxRecDepth 100000 in
set_option maxHeartbeats 1000000 in
theorem r1sub (A B : Option Addr) (n m c d : Nat) (xs ys : List Int) (w : World) (hx : Limbs w A n xs) (hy : Limbs w B m ys) (hn : n ≤ 100000000) (hm : m ≤ 100000000) :
    Calls Tryz.prog 81 #[.slice A n c, .slice B m d] w (SubOut w (limbs xs) (limbs ys) n) := by
  have Ca := Lib.hid (r1digits A n c xs w hx (by omega))
  have Cb := Lib.hid (fun W (h : Below w.heap.size w W) => r1digits B m d ys W (hy.bel h) (by omega))
  have Hlt : Hid (limbs xs < 2 ^ (64 * n)) := by have := limbs_lt hx.ok; rwa [hx.len] at this
  clear hx hy
  generalize limbs xs = X at *
  generalize limbs ys = Y at *
  go_enter Tryz.func81, Tryz.ntmps81
  go_wp2_with fail
  refine Ca.out.mono ?_
  rintro e w1 ⟨A1, n1, c1, ds, rfl, p1, p2, p3, p4, p5, p6, p7⟩
  have Cb1 := Lib.hid (Cb.out w1 p7)
  have P4 := Lib.hid p4
  have P5 := Lib.hid p5
  have P6 := Lib.hid p6
  have P7 := Lib.hid p7
  clear p4 p5 p6 p7
  go_wp2_with fail
  refine Cb1.out.mono ?_
  rintro e w2 ⟨A2, n2, c2, es, rfl, q1, q2, q3, q4, q5, q6, q7⟩
  have hb2 := P7.out.trans (q7.mono P7.out.size)
  have Cc := r1compare A1 A2 n1 n2 c1 c2 ds es w2 (P4.out.bel q7) q4 P5.out.ok q5.ok (by omega) (by omega)
  rw [P6.out, q6] at Cc
  have Cl := Lib.hid (fun (h : Y ≤ X) => r1less A1 A2 n1 n2 c1 c2 ds es w2 (P4.out.bel q7) q4 P5.out.ok q5.ok (by omega) (by have := P5.out.len_le q5 (by rw [P6.out, q6]; exact h); rw [P4.out.len, q4.len] at this; exact this) (by rw [P6.out, q6]; exact h))
  rw [P6.out, q6] at Cl
  have Hb2 := Lib.hid hb2
  clear hb2 q4 q5 q6 q7 P4 P5 P6 P7 Ca Cb Cb1
  by_cases hle : Y ≤ X
  · obtain ⟨r, hr, hr0⟩ : ∃ r : Int, cmpN X Y = r ∧ ¬ r < 0 := ⟨_, rfl, by unfold cmpN; rw [if_neg (by omega)]; split <;> omega⟩
    rw [hr] at Cc
    have CC := Lib.hid Cc
    have CL := Lib.hid (Cl.out hle)
    have Hle := Lib.hid hle
    clear Cc Cl hr hle
    go_wp2_with fail
    refine CC.out.mono ?_
    rintro e w' ⟨rfl, rfl⟩
    go_wp2_with fail
    refine CL.out.mono ?_
    rintro e w3 ⟨A3, n3, c3, fs, rfl, r1, r2, r3, r4, r5, r6, r7⟩
    have Cm := r1limbs A3 n3 c3 fs w3 r4 r5.ok (by omega)
    rw [r6] at Cm
    have CM := Lib.hid Cm
    have Hb3 := Lib.hid (Hb2.out.trans (r7.mono Hb2.out.size))
    clear Cm r4 r5 r6 r7
    go_wp2_with fail
    refine CM.out.mono ?_
    intro e w' h
    have h2 := (h.from_ Hb3.out).len (j := n) (Nat.lt_of_le_of_lt (Nat.sub_le _ _) Hlt.out)
    obtain ⟨A4, n4, c4, l4, rfl, r⟩ := h2
    have F : Hid (SubOut w X Y n (.returned (.tuple #[.slice A4 n4 c4, .int .i64 0])) w') := by
      show SubOut _ _ _ _ _ _
      unfold SubOut
      rw [if_pos Hle.out]
      exact ⟨A4, n4, c4, l4, rfl, r⟩
    clear r h
    go_wp2_with fail
    go_ret2
    exact F.out
  · have hr : cmpN X Y = -1 := by unfold cmpN; rw [if_pos (by omega)]
    rw [hr] at Cc
    have CC := Lib.hid Cc
    have F : Hid (SubOut w X Y n (.returned (.tuple #[.slice none 0 0, .int .i64 1])) w2) := by
      show SubOut _ _ _ _ _ _
      unfold SubOut
      rw [if_neg hle]
      exact ⟨rfl, Hb2.out⟩
    clear Cc Cl hr hle
    go_wp2_with fail
    refine CC.out.mono ?_
    rintro e w' ⟨rfl, rfl⟩
    go_wp2_with fail
    go_ret2
    exact F.out
end Go.Proofs.YtjmbejodcloapaaGreat
namespace Cl
structure MulAt (xs ys : List Int) (n m i k q : Nat) (os : List Int) : Prop where
  len : os.length = n + m
  ok : Is32 os
  cq : q < 4294967296
  val : v32 os + 4294967296 ^ (i + k) * q = v32 (xs.take i) * v32 ys + 4294967296 ^ i * (nth xs i).toNat * v32 (ys.take k)
  top : ∀ j, i + m ≤ j → nth os j = 0
structure MulRow (xs ys : List Int) (n m i : Nat) (os : List Int) : Prop where
  len : os.length = n + m
  ok : Is32 os
  val : v32 os = v32 (xs.take i) * v32 ys
  top : ∀ j, i + m ≤ j → nth os j = 0
theorem MulRow.zero (xs ys : List Int) (n m : Nat) : MulRow xs ys n m 0 (List.replicate (n + m) 0) :=
  ⟨List.length_replicate, Is32.rep _, by rw [v32_rep]; show 0 = 0 * _; rw [Nat.zero_mul], fun j _ => by
    unfold nth
    rw [List.getD_eq_getElem?_getD, List.getElem?_replicate]
    split <;> simp⟩
theorem MulRow.start {xs ys : List Int} {n m i : Nat} {os : List Int} (h : MulRow xs ys n m i os) : MulAt xs ys n m i 0 0 os :=
  ⟨h.len, h.ok, by omega, by rw [h.val]; show _ + _ * 0 = _ + _ * 0; rfl, h.top⟩
theorem mulS_bd {x y o q : Int} (hx : 0 ≤ x ∧ x < 4294967296) (hy : 0 ≤ y ∧ y < 4294967296) (ho : 0 ≤ o ∧ o < 4294967296) (hq : 0 ≤ q ∧ q < 4294967296) : 0 ≤ x * y ∧ x * y ≤ 18446744065119617025 ∧ 0 ≤ x * y + o ∧ x * y + o < 18446744073709551616 ∧ 0 ≤ x * y + o + q ∧ x * y + o + q < 18446744073709551616 := by
  have h1 : 0 ≤ x * y := Int.mul_nonneg hx.1 hy.1
  have h2 : x * y ≤ 4294967295 * 4294967295 := Int.mul_le_mul (by omega) (by omega) hy.1 (by omega)
  omega
theorem MulAt.step {xs ys : List Int} {n m i k q : Nat} {os : List Int} (h : MulAt xs ys n m i k q os) (hx : Is32 xs) (hy : Is32 ys) (hi : i < n) (hk : k < m) {s : Int} (hs : s = nth xs i * nth ys k + nth os (i + k) + (q : Int)) :
    MulAt xs ys n m i (k + 1) (s / 4294967296).toNat (os.set (i + k) (s % 4294967296)) := by
  have a1 := hx i
  have a2 := hy k
  have a3 := h.ok (i + k)
  have a4 := h.cq
  have hb := mulS_bd a1 a2 a3 (q := (q : Int)) (by omega)
  rw [← hs] at hb
  have hv := h.val
  have hset := v32_set (xs := os) (i := i + k) (by rw [h.len]; omega) (s % 4294967296)
  obtain ⟨x, ex⟩ : ∃ x : Nat, nth xs i = (x : Int) := ⟨(nth xs i).toNat, by omega⟩
  obtain ⟨y, ey⟩ : ∃ y : Nat, nth ys k = (y : Int) := ⟨(nth ys k).toNat, by omega⟩
  obtain ⟨o, eo⟩ : ∃ o : Nat, nth os (i + k) = (o : Int) := ⟨(nth os (i + k)).toNat, by omega⟩
  obtain ⟨t, et⟩ : ∃ t : Nat, s = (t : Int) := ⟨s.toNat, by omega⟩
  have ht : t = x * y + o + q := by
    rw [ex, ey, eo, et] at hs
    rw [← Int.natCast_mul] at hs
    omega
  refine ⟨by rw [List.length_set]; exact h.len, h.ok.set _ (by omega) (by omega), by omega, ?_, fun j hj => ?_⟩
  · rw [v32_take_any, ← Nat.add_assoc, Nat.pow_succ, Nat.mul_add, ey]
    rw [ex] at hv ⊢
    rw [eo] at hset
    rw [et] at hset ⊢
    simp only [Int.toNat_natCast] at hv hset ⊢
    have e1 : ((t : Int) % 4294967296).toNat = t % 4294967296 := by omega
    have e2 : ((t : Int) / 4294967296).toNat = t / 4294967296 := by omega
    rw [e1] at hset
    rw [e2]
    have e3 : 4294967296 ^ i * x * (4294967296 ^ k * y) = 4294967296 ^ (i + k) * (x * y) := by
      rw [Nat.pow_add, Nat.mul_assoc, Nat.mul_assoc, Nat.mul_left_comm x]
    rw [e3]
    generalize v32 (xs.take i) * v32 ys = S at *
    generalize 4294967296 ^ i * x * v32 (ys.take k) = T at *
    generalize 4294967296 ^ (i + k) = P at *
    have e4 : P * (t % 4294967296) + P * 4294967296 * (t / 4294967296) = P * t := by
      rw [Nat.mul_assoc, ← Nat.mul_add]; congr 1; omega
    have e5 : P * t = P * (x * y) + P * o + P * q := by rw [ht, Nat.mul_add, Nat.mul_add]
    omega
  · rw [nth_set (by rw [h.len]; omega), if_neg (by omega)]
    exact h.top j hj
theorem MulAt.last {xs ys : List Int} {n m i q : Nat} {os : List Int} (h : MulAt xs ys n m i m q os) (hi : i < n) (hm : ys.length = m) : MulRow xs ys n m (i + 1) (os.set (i + m) (q : Int)) := by
  have hv := h.val
  have h4 := h.cq
  have hset := v32_set (xs := os) (i := i + m) (by rw [h.len]; omega) (q : Int)
  rw [h.top _ (Nat.le_refl _)] at hset
  refine ⟨by rw [List.length_set]; exact h.len, h.ok.set _ (by omega) (by omega), ?_, fun j hj => ?_⟩
  · rw [v32_take_any, Nat.add_mul]
    rw [v32_take_all (xs := ys) (n := m) (by omega)] at hv
    rw [Int.toNat_natCast] at hset
    have e : (0 : Int).toNat = 0 := rfl
    rw [e, Nat.mul_zero] at hset
    omega
  · rw [nth_set (by rw [h.len]; omega), if_neg (by omega)]
    exact h.top j (by omega)
end Cl
namespace Go.Proofs.YtjmbejodcloapaaGreat
open Go.RowKit Cl
attribute [local go_sem ↓] Go.wp_at_zero Go.wp_at_succ
set_option maxRecDepth 100000 in
set_option maxHeartbeats 2000000 in
theorem r1mul (A B : Option Addr) (n m c d : Nat) (xs ys : List Int) (w : World) (hx : Limbs w A n xs) (hy : Limbs w B m ys) (hn : n ≤ 100000000) (hm : m ≤ 100000000) :
    Calls Tryz.prog 65 #[.slice A n c, .slice B m d] w (GivesN w (limbs xs * limbs ys) (n + m)) := by
  obtain ⟨i0, hi, hz0, hz1, hz2⟩ := info_parts uint_info
  have Ca := Lib.hid (r1digits A n c xs w hx (by omega))
  have Cb := Lib.hid (fun W (h : Below w.heap.size w W) => r1digits B m d ys W (hy.bel h) (by omega))
  have Hlt : Hid (limbs xs * limbs ys < 2 ^ (64 * (n + m))) := by
    have h1 := limbs_lt hx.ok
    have h2 := limbs_lt hy.ok
    rw [hx.len] at h1
    rw [hy.len] at h2
    show _ < _
    rw [Nat.mul_add, Nat.pow_add]
    exact Nat.mul_lt_mul'' h1 h2
  clear hx hy
  generalize limbs xs = X at *
  generalize limbs ys = Y at *
  obtain ⟨N, hN⟩ : ∃ N, N = n + m := ⟨_, rfl⟩
  rw [← hN] at Hlt ⊢
  clear hN
  go_enter Tryz.func65, Tryz.ntmps65
  go_wp2_with fail
  refine Ca.out.mono ?_
  rintro e w1 ⟨A1, n1, c1, ds, rfl, p1, p2, p3, p4, p5, p6, p7⟩
  have Cb1 := Lib.hid (Cb.out w1 p7)
  have P4 := Lib.hid p4
  have P5 := Lib.hid p5
  have P6 := Lib.hid p6
  have P7 := Lib.hid p7
  clear p4 p5 p6 p7
  go_wp2_with fail
  refine Cb1.out.mono ?_
  rintro e w2 ⟨A2, n2, c2, es, rfl, q1, q2, q3, q4, q5, q6, q7⟩
  have Hb2 := Lib.hid (P7.out.trans (q7.mono P7.out.size))
  have Hx := Lib.hid (P4.out.bel q7)
  have Hy := Lib.hid q4
  have Hdx := Lib.hid P5.out.ok
  have Hdy := Lib.hid q5.ok
  have Hv : Hid (∀ os, MulRow ds es n1 n2 n1 os → v32 os = X * Y) := fun os h => by
    have := h.val
    rw [v32_take_all (by rw [P4.out.len]; exact Nat.le_refl _), P6.out, q6] at this
    exact this
  have Hel := Lib.hid q4.len
  clear q4 q5 q6 q7 P4 P5 P6 P7 Ca Cb Cb1
  have hmk := run_make_limbs Tryz.underlying30 hi hz0 hz1 hz2 (n1 + n2) (by omega) w2
  obtain ⟨T, hT⟩ : ∃ T : Nat, T = n1 + n2 := ⟨_, rfl⟩
  have hTi : (n1 : Int) + (n2 : Int) = (T : Int) := by omega
  rw [← hT] at hmk
  have hr0 : Hid (RowL (w2.alloc (.cells (lmbs (List.replicate T 0)).toArray 81)) w2.heap.size 81 (List.replicate T 0)) := RowL.new w2 _ _
  have hm0 : Hid (MulRow ds es n1 n2 0 (List.replicate T 0)) := by rw [hT]; exact MulRow.zero _ _ _ _
  have hb0 : Hid (Below w2.heap.size w2 (w2.alloc (.cells (lmbs (List.replicate T 0)).toArray 81))) := (Below.refl _ _).alloc (Nat.le_refl _) _
  have HT := Lib.hid hT
  have hT1 : T ≤ 400000000 := by omega
  clear hT
  generalize List.replicate T (0 : Int) = R0 at *
  go_wp2_with fail
  clear hmk
  go_loopw [8] (fun i wr => ∃ (k : Nat) (os : List Int), k ≤ n1 ∧ i = .int .i64 (k : Int) ∧ Hid (RowL wr w2.heap.size 81 os) ∧ Hid (MulRow ds es n1 n2 k os) ∧ Hid (Below w2.heap.size w2 wr)) (fun i _ => n1 - (intOf i).toNat)
  case atStart => exact ⟨0, R0, by omega, rfl, hr0, hm0, hb0⟩
  case round =>
    clear hr0 hm0 hb0
    obtain ⟨i, os, hk, rfl, hrow, hmr, hbel⟩ := hrel
    obtain ⟨wo, rfl⟩ : ∃ wo : World, wo = wr := ⟨_, rfl⟩
    by_cases hlt : i < n1
    · have hlt' : (i : Int) < (n1 : Int) := by omega
      obtain ⟨b, o, rfl, hb, hc⟩ := Hx.out.at_ (by omega)
      have Hck : Hid (∀ W, Below w2.heap.size w2 W → W.cell? ⟨b, o + i, none⟩ = some (.int .u64 (nth ds i))) := fun W h => (h.cell (p := ⟨b, o + i, none⟩) hb).trans (hc i hlt)
      have hms := Lib.hid hmr.out.start
      clear hc
      go_wp2_with fail
      go_loopw [9, 10] (fun cv i' wr => ∃ (k q : Nat) (ot : List Int), k ≤ n2 ∧ cv = .int .u64 (q : Int) ∧ i' = .int .i64 (k : Int) ∧ Hid (RowL wr w2.heap.size 81 ot) ∧ Hid (MulAt ds es n1 n2 i k q ot) ∧ Hid (Below w2.heap.size w2 wr)) (fun _ i _ => n2 - (intOf i).toNat)
      case atStart => exact ⟨0, 0, os, by omega, rfl, rfl, hrow, hms, hbel⟩
      case round =>
        clear hrow hmr hbel hms
        obtain ⟨k, q, ot, hk2, rfl, rfl, hrt, hma, hbt⟩ := hrel
        by_cases hlk : k < n2
        · have hlk' : (k : Int) < (n2 : Int) := by omega
          obtain ⟨b2, o2, rfl, hb2, hc2⟩ := Hy.out.at_ (by omega)
          have hcy : wr.cell? ⟨b2, o2 + k, none⟩ = some (.int .u64 (nth es k)) := (hbt.out.cell (p := ⟨b2, o2 + k, none⟩) hb2).trans (hc2 k hlk)
          have hcx := Hck.out wr hbt.out
          obtain ⟨z, hz⟩ : ∃ z : Nat, z = i + k := ⟨_, rfl⟩
          have hzi : (i : Int) + (k : Int) = (z : Int) := by omega
          have hzT : (z : Int) < (T : Int) := by have := HT.out; omega
          have hz0 : (0 : Int) ≤ (z : Int) := by omega
          have hzl : z < ot.length := by have := hma.out.len; omega
          have hco := hrt.out.cell hzl
          have hfo := hrt.out.frozen z
          have hq := hma.out.cq
          have hbd := mulS_bd (Hdx.out i) (Hdy.out k) (hma.out.ok z) (q := (q : Int)) (by omega)
          obtain ⟨s, hs⟩ : ∃ s : Int, s = nth ds i * nth es k + nth ot z + (q : Int) := ⟨_, rfl⟩
          have Hst := Lib.hid (hma.out.step Hdx.out Hdy.out hlt hlk (s := s) (by rw [hs, hz]))
          have e1 : IntKind.u64.wrap (nth ds i * nth es k) = nth ds i * nth es k := by rw [u64_wrap_eq]; omega
          have e2 : IntKind.u64.wrap (nth ds i * nth es k + nth ot z) = nth ds i * nth es k + nth ot z := by rw [u64_wrap_eq]; omega
          have e3 : IntKind.u64.wrap (nth ds i * nth es k + nth ot z + (q : Int)) = s := by rw [u64_wrap_eq, hs]; omega
          have hs0 : 0 ≤ s := by omega
          have hs1 : s < 18446744073709551616 := by omega
          have e4 := u64_low s hs0 hs1
          have e5 : s / 4294967296 = ((s / 4294967296).toNat : Int) := by omega
          have Hz := Lib.hid hz
          rw [← hz] at Hst
          have Hset := Lib.hid (hrt.out.set z (s % 4294967296))
          have Hbt : Hid (∀ nq, Below w2.heap.size w2 ((wr.drewN nq).setCell ⟨w2.heap.size, z, none⟩ (.int .u64 (s % 4294967296)))) := fun nq => (below_drewN hbt.out nq).setCell (p := ⟨w2.heap.size, z, none⟩) (Nat.le_refl _) _
          generalize hq2 : (s / 4294967296).toNat = q2 at *
          have Hq2 := Lib.hid hq2
          generalize nth ot z = ov at *
          clear hc2 hrt hma hbd hz hs hq2 hq
          go_wp2_with fail
          go_quiet (fail)
          go_wp2_with fail
          go_roundw
          case rel => exact ⟨k + 1, q2, _, by omega, rfl, by go_num, Hset, Hst, Hbt.out _⟩
          case measure => simp [intOf]; omega
        · obtain rfl : k = n2 := by omega
          have hlk' : ¬ (k : Int) < (k : Int) := by omega
          obtain ⟨z, hz⟩ : ∃ z : Nat, z = i + k := ⟨_, rfl⟩
          have hzi : (i : Int) + (k : Int) = (z : Int) := by omega
          have hzT : (z : Int) < (T : Int) := by have := HT.out; omega
          have hz0 : (0 : Int) ≤ (z : Int) := by omega
          have hzl : z < ot.length := by have := hma.out.len; omega
          have hco := hrt.out.cell hzl
          have hfo := hrt.out.frozen z
          have Hst := Lib.hid (hma.out.last hlt Hel.out)
          rw [← hz] at Hst
          have Hset := Lib.hid (hrt.out.set z (q : Int))
          have Hbt : Hid (Below w2.heap.size w2 (wr.setCell ⟨w2.heap.size, z, none⟩ (.int .u64 (q : Int)))) := hbt.out.setCell (p := ⟨w2.heap.size, z, none⟩) (Nat.le_refl _) _
          clear hrt hma hz
          go_wp2_with fail
          go_roundw
          case rel => exact ⟨i + 1, _, by omega, by go_num, Hset, Hst, Hbt⟩
          case measure => simp [intOf]; omega
    · obtain rfl : i = n1 := by omega
      have hlt' : ¬ (i : Int) < (i : Int) := by omega
      have hL := hrow.out.limbs hmr.out.ok.lm
      have hol := hmr.out.len
      rw [hol, ← HT.out] at hL
      have Cl := r1limbs (some ⟨w2.heap.size, 0, none⟩) T T os wo hL hmr.out.ok (by omega)
      rw [Hv.out _ hmr.out] at Cl
      have CL := Lib.hid Cl
      clear Cl hL hol
      go_wp2_with fail
      refine CL.out.mono ?_
      intro e w' h
      have h2 := (h.from_ (Hb2.out.trans (hbel.out.mono Hb2.out.size))).len Hlt.out
      obtain ⟨A4, n4, c4, l4, rfl, r⟩ := h2
      have F : Hid (GivesN w (X * Y) N (.returned (.slice A4 n4 c4)) w') := ⟨A4, n4, c4, l4, rfl, r⟩
      clear r h
      go_wp2_with fail
      go_ret
      exact F.out
end Go.Proofs.YtjmbejodcloapaaGreat
namespace Cl
def dblL (rs : List Int) (b : Nat) : Nat → List Int × Nat
  | 0 => ([], b)
  | k + 1 => ((dblL rs b k).1 ++ [((((nth rs k).toNat * 2 + (dblL rs b k).2) % 4294967296 : Nat) : Int)], (nth rs k).toNat / 2147483648)
theorem dblL_len (rs : List Int) (b : Nat) : ∀ k, (dblL rs b k).1.length = k
  | 0 => rfl
  | k + 1 => by show ((dblL rs b k).1 ++ [_]).length = _; rw [List.length_append, dblL_len rs b k]; rfl
theorem dblL_val {rs : List Int} (h : Is32 rs) {b : Nat} (hb : b ≤ 1) : ∀ k, (dblL rs b k).2 ≤ 1 ∧ Is32 (dblL rs b k).1 ∧ v32 (dblL rs b k).1 + 4294967296 ^ k * (dblL rs b k).2 = 2 * v32 (rs.take k) + b
  | 0 => ⟨hb, Is32.nil, by show 0 + 1 * b = 2 * 0 + b; omega⟩
  | k + 1 => by
    obtain ⟨h1, h2, h3⟩ := dblL_val h hb k
    have a1 := h k
    obtain ⟨x, ex⟩ : ∃ x : Nat, (nth rs k).toNat = x := ⟨_, rfl⟩
    have hx : x < 4294967296 := by omega
    have e1 : (dblL rs b (k + 1)).1 = (dblL rs b k).1 ++ [(((x * 2 + (dblL rs b k).2) % 4294967296 : Nat) : Int)] := by rw [← ex]; rfl
    have e2 : (dblL rs b (k + 1)).2 = x / 2147483648 := by rw [← ex]; rfl
    rw [e1, e2]
    refine ⟨by omega, h2.snoc (by omega) (by omega), ?_⟩
    rw [v32_snoc, dblL_len, v32_take_any, ex, Nat.pow_succ, Int.toNat_natCast]
    generalize (dblL rs b k).2 = c at *
    generalize 4294967296 ^ k = Q at *
    have e3 : x / 2147483648 = (x * 2 + c) / 4294967296 := by omega
    have e4 : Q * ((x * 2 + c) % 4294967296) + Q * 4294967296 * ((x * 2 + c) / 4294967296) = Q * (x * 2 + c) := by
      rw [Nat.mul_assoc, ← Nat.mul_add]; congr 1; omega
    rw [e3]
    rw [Nat.mul_add, ← Nat.mul_assoc] at e4
    rw [Nat.mul_comm (Q * x) 2] at e4
    rw [Nat.mul_add]
    omega
theorem dbl_whole {rs : List Int} (h : Is32 rs) {b n : Nat} (hb : b ≤ 1) (hn : rs.length = n) : Is32 ((dblL rs b n).1 ++ [((dblL rs b n).2 : Int)]) ∧ v32 ((dblL rs b n).1 ++ [((dblL rs b n).2 : Int)]) = 2 * v32 rs + b := by
  obtain ⟨h1, h2, h3⟩ := dblL_val h hb n
  refine ⟨h2.snoc (by omega) (by omega), ?_⟩
  rw [v32_snoc, dblL_len, Int.toNat_natCast, h3, v32_take_all (by omega)]
theorem div_bit (N : Nat) {V : Nat} (hV : 0 < V) (i : Nat) :
    (V ≤ 2 * (N / 2 ^ (i + 1) % V) + N / 2 ^ i % 2 → N / 2 ^ i / V = 2 * (N / 2 ^ (i + 1) / V) + 1 ∧ N / 2 ^ i % V = 2 * (N / 2 ^ (i + 1) % V) + N / 2 ^ i % 2 - V) ∧
    (¬ V ≤ 2 * (N / 2 ^ (i + 1) % V) + N / 2 ^ i % 2 → N / 2 ^ i / V = 2 * (N / 2 ^ (i + 1) / V) ∧ N / 2 ^ i % V = 2 * (N / 2 ^ (i + 1) % V) + N / 2 ^ i % 2) := by
  have e1 : N / 2 ^ (i + 1) = N / 2 ^ i / 2 := by rw [Nat.pow_succ, Nat.div_div_eq_div_mul]
  rw [e1]
  generalize N / 2 ^ i = A
  have h1 := Nat.div_add_mod A 2
  have h2 := Nat.div_add_mod (A / 2) V
  have h3 := Nat.mod_lt (A / 2) hV
  generalize A / 2 / V = q at *
  generalize A / 2 % V = r at *
  generalize A % 2 = b at *
  have hb : b ≤ 1 := by omega
  have hA : A = V * (2 * q) + (2 * r + b) := by
    rw [← h1, ← h2, Nat.mul_add, Nat.mul_left_comm]; omega
  constructor
  · intro h
    have hA2 : A = (2 * r + b - V) + V * (2 * q + 1) := by rw [Nat.mul_add, Nat.mul_one]; omega
    rw [hA2]
    refine ⟨?_, ?_⟩
    · rw [Nat.add_mul_div_left _ _ hV, Nat.div_eq_of_lt (by omega), Nat.zero_add]
    · rw [Nat.add_mul_mod_self_left, Nat.mod_eq_of_lt (by omega)]
  · intro h
    have hA2 : A = (2 * r + b) + V * (2 * q) := by omega
    rw [hA2]
    refine ⟨?_, ?_⟩
    · rw [Nat.add_mul_div_left _ _ hV, Nat.div_eq_of_lt (by omega), Nat.zero_add]
    · rw [Nat.add_mul_mod_self_left, Nat.mod_eq_of_lt (by omega)]
theorem nth_v32 {xs : List Int} (h : Is32 xs) (j : Nat) : (nth xs j).toNat = v32 xs / 4294967296 ^ j % 4294967296 := by
  have hP : 0 < 4294967296 ^ j := Nat.pow_pos (by omega)
  have h1 := v32_take_lt h j
  have a := h j
  by_cases hj : j < xs.length
  · have e : v32 xs = v32 (xs.take j) + 4294967296 ^ j * ((nth xs j).toNat + 4294967296 * v32 (xs.drop (j + 1))) := by
      have e0 := v32_append (xs.take (j + 1)) (xs.drop (j + 1))
      rw [List.take_append_drop, v32_take_any, List.length_take, Nat.min_eq_left (by omega), Nat.pow_succ, Nat.mul_assoc, Nat.add_assoc, ← Nat.mul_add] at e0
      exact e0
    rw [e, Nat.add_mul_div_left _ _ hP, Nat.div_eq_of_lt h1, Nat.zero_add, Nat.add_mul_mod_self_left, Nat.mod_eq_of_lt (by omega)]
  · have h2 := v32_take_lt h j
    rw [v32_take_all (by omega)] at h2
    rw [nth_ge (by omega), Nat.div_eq_of_lt h2]; rfl
theorem cast_two_pow' (s : Nat) : ((2 ^ s : Nat) : Int) = 2 ^ s := Int.natCast_pow 2 s
theorem pow32 (i : Nat) : 2 ^ i = 4294967296 ^ (i / 32) * 2 ^ (i % 32) := by
  rw [show (4294967296 : Nat) = 2 ^ 32 by decide, ← Nat.pow_mul, ← Nat.pow_add]; congr 1; omega
theorem bit_v32 {xs : List Int} (h : Is32 xs) (i : Nat) : (nth xs (i / 32)).toNat / 2 ^ (i % 32) % 2 = v32 xs / 2 ^ i % 2 := by
  have he : i % 32 < 32 := Nat.mod_lt _ (by omega)
  rw [nth_v32 h, pow32 i, ← Nat.div_div_eq_div_mul]
  generalize v32 xs / 4294967296 ^ (i / 32) = A
  generalize i % 32 = e at *
  have e1 : (4294967296 : Nat) = 2 ^ e * 2 ^ (32 - e) := by rw [← Nat.pow_add, show e + (32 - e) = 32 by omega]
  have e2 : 2 ^ (32 - e) = 2 * 2 ^ (31 - e) := by rw [← Nat.pow_succ']; congr 1; omega
  rw [e1, Nat.mod_mul_right_div_self, e2, Nat.mod_mul_right_mod]
theorem low_v32 {xs : List Int} (h : Is32 xs) {i t : Nat} (hv : v32 xs = t * 2 ^ (i + 1)) : ∃ u : Nat, (nth xs (i / 32)).toNat = u * 2 ^ (i % 32 + 1) ∧ u * 2 ^ (i % 32 + 1) + 2 ^ (i % 32) < 4294967296 := by
  have he : i % 32 < 32 := Nat.mod_lt _ (by omega)
  have hp := pow32 i
  rw [nth_v32 h, hv, Nat.pow_succ, hp]
  generalize i % 32 = e at *
  have hP : 0 < 4294967296 ^ (i / 32) := Nat.pow_pos (by omega)
  generalize 4294967296 ^ (i / 32) = P at *
  have e0 : t * (P * 2 ^ e * 2) = P * (2 ^ (e + 1) * t) := by
    rw [Nat.pow_succ, Nat.mul_assoc P, Nat.mul_left_comm t P, Nat.mul_comm t]
  have e1 : (4294967296 : Nat) = 2 ^ (e + 1) * 2 ^ (31 - e) := by rw [← Nat.pow_add, show e + 1 + (31 - e) = 32 by omega]
  refine ⟨t % 2 ^ (31 - e), ?_, ?_⟩
  · rw [e0, Nat.mul_div_cancel_left _ hP, e1, Nat.mul_mod_mul_left, Nat.mul_comm]
  · have h1 := Nat.mod_lt t (Nat.two_pow_pos (31 - e))
    have h2 : 2 ^ (e + 1) * (t % 2 ^ (31 - e) + 1) ≤ 2 ^ (e + 1) * 2 ^ (31 - e) := Nat.mul_le_mul_left _ h1
    rw [← e1, Nat.mul_add, Nat.mul_one, Nat.mul_comm] at h2
    have h3 : 2 ^ (e + 1) = 2 ^ e * 2 := Nat.pow_succ ..
    have h4 := Nat.two_pow_pos e
    omega
structure DvRow (N V L I : Nat) (os : List Int) : Prop where
  len : os.length = L
  ok : Is32 os
  val : v32 os = N / 2 ^ I / V * 2 ^ I
theorem DvRow.zero {N V L : Nat} (h : N < 4294967296 ^ L) : DvRow N V L (32 * L) (List.replicate L 0) ∧ N / 2 ^ (32 * L) % V = 0 := by
  have e : N / 2 ^ (32 * L) = 0 := Nat.div_eq_of_lt (by rw [Nat.pow_mul]; exact h)
  exact ⟨⟨List.length_replicate, Is32.rep _, by rw [v32_rep, e, Nat.zero_div, Nat.zero_mul]⟩, by rw [e, Nat.zero_mod]⟩
theorem DvRow.stay {N V L i : Nat} {os : List Int} (h : DvRow N V L (i + 1) os) (hV : 0 < V) (hs : ¬ V ≤ 2 * (N / 2 ^ (i + 1) % V) + N / 2 ^ i % 2) : DvRow N V L i os :=
  ⟨h.len, h.ok, by rw [h.val, ((div_bit N hV i).2 hs).1, Nat.pow_succ, Nat.mul_comm 2, Nat.mul_assoc, Nat.mul_comm (2 ^ i) 2]⟩
theorem DvRow.put {N V L i : Nat} {os : List Int} (h : DvRow N V L (i + 1) os) (hV : 0 < V) (hs : V ≤ 2 * (N / 2 ^ (i + 1) % V) + N / 2 ^ i % 2) (hi : i / 32 < L) :
    DvRow N V L i (os.set (i / 32) (nth os (i / 32) + 2 ^ (i % 32))) ∧ 0 ≤ nth os (i / 32) ∧ nth os (i / 32) + 2 ^ (i % 32) < 4294967296 ∧ ∃ u : Int, 0 ≤ u ∧ nth os (i / 32) = u * 2 ^ (i % 32 + 1) := by
  obtain ⟨u, hu, hl⟩ := low_v32 h.ok h.val
  have a := h.ok (i / 32)
  have hset := v32_set (xs := os) (i := i / 32) (by rw [h.len]; exact hi) (nth os (i / 32) + 2 ^ (i % 32))
  obtain ⟨d, hd⟩ : ∃ d : Nat, nth os (i / 32) = (d : Int) := ⟨(nth os (i / 32)).toNat, by omega⟩
  have hp := pow32 i
  rw [hd] at hset hu a ⊢
  rw [Int.toNat_natCast] at hu hset
  have e1 : (d : Int) + 2 ^ (i % 32) = ((d + 2 ^ (i % 32) : Nat) : Int) := by rw [Int.natCast_add, cast_two_pow']
  rw [e1, Int.toNat_natCast] at hset
  rw [e1]
  rw [← hu] at hl
  have hw : (0 : Int) ≤ ((d + 2 ^ (i % 32) : Nat) : Int) ∧ ((d + 2 ^ (i % 32) : Nat) : Int) < 4294967296 := by
    generalize d + 2 ^ (i % 32) = W at *
    omega
  refine ⟨⟨by rw [List.length_set]; exact h.len, h.ok.set _ hw.1 hw.2, ?_⟩, by omega, hw.2, (u : Int), by omega, ?_⟩
  · have hv := h.val
    rw [((div_bit N hV i).1 hs).1, Nat.add_mul, Nat.mul_comm 2, Nat.mul_assoc, Nat.one_mul]
    rw [Nat.pow_succ, Nat.mul_comm (2 ^ i) 2] at hv
    rw [Nat.mul_add, ← hp] at hset
    rw [show N / 2 ^ (i + 1) = N / (2 * 2 ^ i) by rw [Nat.pow_succ, Nat.mul_comm]]
    omega
  · rw [hu, Int.natCast_mul, cast_two_pow']
end Cl
namespace Go.Proofs.YtjmbejodcloapaaGreat
open Go.RowKit Cl
attribute [local go_sem ↓] Go.wp_at_zero Go.wp_at_succ
def RDivOut (w : World) (n m X Y : Nat) (e : Ending) (w' : World) : Prop :=
  ∃ A1 k1 c1 l1 A2 k2 c2 l2, e = .returned (.tuple #[.slice A1 k1 c1, .slice A2 k2 c2, .int .i64 0]) ∧ k1 ≤ c1 ∧ c1 ≤ 9223372036854775807 ∧ k1 ≤ n ∧ Limbs w' A1 k1 l1 ∧ PlainL l1 ∧ limbs l1 = X / Y ∧ k2 ≤ c2 ∧ c2 ≤ 9223372036854775807 ∧ k2 ≤ m ∧ Limbs w' A2 k2 l2 ∧ PlainL l2 ∧ limbs l2 = X % Y ∧ Below w.heap.size w w'
theorem bit_and {x : Int} {e : Nat} (h0 : 0 ≤ x) (h1 : x < 4294967296) : bits .and .u64 (x / 2 ^ e) 1 = ((x.toNat / 2 ^ e % 2 : Nat) : Int) := by
  obtain ⟨n, rfl⟩ := Int.eq_ofNat_of_zero_le h0
  have h2 : n / 2 ^ e ≤ n := Nat.div_le_self _ _
  have e1 : (n : Int) / 2 ^ e = ((n / 2 ^ e : Nat) : Int) := by rw [Int.natCast_ediv, cast_two_pow']
  have e2 := u64_and_nat (n / 2 ^ e) 1 (by omega) (by omega)
  rw [e1, Int.toNat_natCast]
  have e3 : ((1 : Nat) : Int) = 1 := rfl
  rw [e3] at e2
  rw [e2, Nat.and_one_is_mod]
set_option maxRecDepth 100000 in
set_option maxHeartbeats 2000000 in
theorem r1div (A B : Option Addr) (n m c d : Nat) (xs ys : List Int) (w : World) (hx : Limbs w A n xs) (hy : Limbs w B m ys) (hn : n ≤ 10000000) (hm : m ≤ 10000000) (hY : 0 < limbs ys) :
    Calls Tryz.prog 99 #[.slice A n c, .slice B m d] w (RDivOut w n m (limbs xs) (limbs ys)) := by
  obtain ⟨i0, hi, hz0, hz1, hz2⟩ := info_parts uint_info
  have Cb := Lib.hid (r1digits B m d ys w hy (by omega))
  have Ca := Lib.hid (fun W (h : Below w.heap.size w W) => r1digits A n c xs W (hx.bel h) (by omega))
  have HltX : Hid (limbs xs < 2 ^ (64 * n)) := by have := limbs_lt hx.ok; rwa [hx.len] at this
  have HltY : Hid (limbs ys < 2 ^ (64 * m)) := by have := limbs_lt hy.ok; rwa [hy.len] at this
  have HY := Lib.hid hY
  clear hx hy hY
  generalize limbs xs = X at *
  generalize limbs ys = Y at *
  go_enter Tryz.func99, Tryz.ntmps99
  go_wp2_with fail
  refine Cb.out.mono ?_
  rintro e w1 ⟨A2, n2, c2, es, rfl, p1, p2, p3, p4, p5, p6, p7⟩
  have hn2 : 0 < n2 := by
    rcases Nat.eq_zero_or_pos n2 with h | h
    · have h1 := p5.nil_iff.2 (by rw [p4.len]; exact h)
      have := HY.out
      omega
    · exact h
  have hn2z : ¬ (n2 : Int) = 0 := by omega
  have Ca1 := Lib.hid (Ca.out w1 p7)
  have P4 := Lib.hid p4
  have P5 := Lib.hid p5
  have P6 := Lib.hid p6
  have P7 := Lib.hid p7
  clear p4 p5 p6 p7
  go_wp2_with fail
  refine Ca1.out.mono ?_
  rintro e w2 ⟨A1, L, c1, ds, rfl, q1, q2, q3, q4, q5, q6, q7⟩
  have Hb2 := Lib.hid (P7.out.trans (q7.mono P7.out.size))
  have Hy := Lib.hid (P4.out.bel q7)
  have Hx := Lib.hid q4
  have Hdx := Lib.hid q5.ok
  have Hpy := Lib.hid P5.out
  have Hvy := Lib.hid P6.out
  have Hvx := Lib.hid q6
  have HL : Hid (X < 4294967296 ^ L) := by have := v32_lt q5.ok; rwa [q6, q4.len] at this
  clear q4 q5 q6 q7 P4 P5 P6 P7 Ca Cb Ca1
  have hmk := run_make_limbs Tryz.underlying30 hi hz0 hz1 hz2 L (by omega) w2
  have hr0 : Hid (RowL (w2.alloc (.cells (lmbs (List.replicate L 0)).toArray 81)) w2.heap.size 81 (List.replicate L 0)) := RowL.new w2 _ _
  have hz0' := DvRow.zero (V := Y) HL.out
  have hd0 : Hid (DvRow X Y L (32 * L) (List.replicate L 0)) := hz0'.1
  have hv0 : Hid (v32 [] = X / 2 ^ (32 * L) % Y) := by show _ = _; rw [hz0'.2]; rfl
  have hb0 : Hid (Below w2.heap.size w2 (w2.alloc (.cells (lmbs (List.replicate L 0)).toArray 81))) := (Below.refl _ _).alloc (Nat.le_refl _) _
  have hp0 : Hid (P32 []) := ⟨Is32.nil, fun h => absurd h (by simp)⟩
  clear hz0'
  generalize List.replicate L (0 : Int) = R0 at *
  have hstart : Hid (IntKind.i64.wrap (32 * (L : Int)) = 32 * (L : Int)) := IntWalk.i64_in _ (by omega)
  go_wp2_with fail
  clear hmk
  go_loopw [10, 11] (fun rv i wr => ∃ (I : Nat) (z : Int) (Ar : Option Addr) (kr cr : Nat) (rs os : List Int), I ≤ 32 * L ∧ Hid (z = (I : Int) - 1) ∧ i = .int .i64 z ∧ rv = .slice Ar kr cr ∧ kr ≤ cr ∧ cr ≤ 9223372036854775807 ∧ kr ≤ n2 ∧ Hid (Limbs wr Ar kr rs) ∧ Hid (P32 rs) ∧ Hid (v32 rs = X / 2 ^ I % Y) ∧ Hid (RowL wr w2.heap.size 81 os) ∧ Hid (DvRow X Y L I os) ∧ Hid (Below w2.heap.size w2 wr)) (fun _ i _ => (intOf i + 1).toNat)
  case atStart => exact ⟨32 * L, _, none, 0, 0, [], R0, Nat.le_refl _, by show _ = _; rw [show ((32 * L : Nat) : Int) = 32 * (L : Int) by omega], rfl, rfl, by omega, by omega, by omega, Limbs.nil _ _, hp0, hv0, hr0, hd0, hb0⟩
  case round =>
    clear hr0 hd0 hv0 hb0 hp0
    obtain ⟨I, z, Ar, kr, cr, rs, os, hI, hz, rfl, rfl, hkc, hcr, hkn, hlr, hpr, hvr, hrow, hdv, hbO⟩ := hrel
    obtain ⟨wo, rfl⟩ : ∃ wo : World, wo = wr := ⟨_, rfl⟩
    cases I with
    | zero =>
      obtain rfl : z = -1 := hz.out
      have hol := hdv.out.len
      have hL := hrow.out.limbs hdv.out.ok.lm
      rw [hol] at hL
      have hvq := hdv.out.val
      rw [Nat.pow_zero, Nat.mul_one, Nat.div_one] at hvq
      have hvr2 := hvr.out
      rw [Nat.pow_zero, Nat.div_one] at hvr2
      have Cq := r1limbs (some ⟨w2.heap.size, 0, none⟩) L L os wo hL hdv.out.ok (by omega)
      rw [hvq] at Cq
      have CQ := Lib.hid Cq
      have Cr := Lib.hid (fun W (h : Below wo.heap.size wo W) => r1limbs Ar kr cr rs W (hlr.out.bel h) hpr.out.ok (by omega))
      rw [hvr2] at Cr
      clear Cq hL hvq hvr2 hol
      go_wp2_with fail
      refine CQ.out.mono ?_
      intro e w3 h
      obtain ⟨A3, k3, c3, l3, rfl, g1, g2, g3, g4, g5, g6, g7⟩ := h.len (Nat.lt_of_le_of_lt (Nat.div_le_self _ _) HltX.out)
      have Cr3 := Lib.hid (Cr.out w3 g7)
      have G4 := Lib.hid g4
      have G5 := Lib.hid g5
      have G6 := Lib.hid g6
      have G7 := Lib.hid g7
      clear g4 g5 g6 g7 h
      go_wp2_with fail
      refine Cr3.out.mono ?_
      intro e w4 h
      obtain ⟨A4, k4, c4, l4, rfl, f1, f2, f3, f4, f5, f6, f7⟩ := h.len (Nat.lt_of_lt_of_le (Nat.mod_lt _ HY.out) (Nat.le_of_lt HltY.out))
      have F : Hid (RDivOut w n m X Y (.returned (.tuple #[.slice A3 k3 c3, .slice A4 k4 c4, .int .i64 0])) w4) :=
        ⟨A3, k3, c3, l3, A4, k4, c4, l4, rfl, g1, g2, g3, G4.out.bel f7, G5.out, G6.out, f1, f2, f3, f4, f5, f6, Hb2.out.trans ((hbO.out.trans ((G7.out.trans (f7.mono G7.out.size)).mono hbO.out.size)).mono Hb2.out.size)⟩
      clear f4 f5 f6 f7 h
      go_wp2_with fail
      (try simp only [Exit.inBlock, Exit.then]); refine bodyPost_ret (results_tmp3 rfl _ _ _) rfl ?_
      exact F.out
    | succ i =>
      obtain rfl : z = (i : Int) := by have := hz.out; omega
      obtain ⟨j, hj⟩ : ∃ j, j = i / 32 := ⟨_, rfl⟩
      obtain ⟨e, he⟩ : ∃ e, e = i % 32 := ⟨_, rfl⟩
      have hjL : j < L := by omega
      have hjL' : (j : Int) < (L : Int) := by omega
      have he32 : e < 32 := by omega
      have hi0 : (0 : Int) ≤ (i : Int) := by omega
      have hj0 : (0 : Int) ≤ (j : Int) := by omega
      have he0 : (0 : Int) ≤ (e : Int) := by omega
      have he1 : ¬ (e : Int) < 0 := by omega
      have td : (i : Int).tdiv 32 = (j : Int) := by rw [Int.tdiv_eq_ediv_of_nonneg (by omega)]; omega
      have tm : (i : Int).tmod 32 = (e : Int) := by rw [Int.tmod_eq_emod_of_nonneg (by omega)]; omega
      obtain ⟨b, o, rfl, hb, hc⟩ := Hx.out.at_ (by omega)
      have hcx : wo.cell? ⟨b, o + j, none⟩ = some (.int .u64 (nth ds j)) := (hbO.out.cell (p := ⟨b, o + j, none⟩) hb).trans (hc j hjL)
      have hxb := Hdx.out j
      have hbit := bit_v32 Hdx.out i
      rw [Hvx.out, ← hj, ← he] at hbit
      have hba := bit_and (e := e) hxb.1 hxb.2
      rw [hbit] at hba
      obtain ⟨bt, hbt⟩ : ∃ bt, bt = X / 2 ^ i % 2 := ⟨_, rfl⟩
      have hbt1 : bt ≤ 1 := by omega
      rw [← hbt] at hba
      have Hj := Lib.hid hj
      have He := Lib.hid he
      have Hbt := Lib.hid hbt
      have Hlr2 := Lib.hid (fun W (h : Below wo.heap.size wo W) k (hk : k < kr) => hlr.out.bel h)
      have Hdl := Lib.hid (dblL_val hpr.out.ok hbt1)
      have Hdn := Lib.hid (dblL_len rs bt)
      have Hrok := Lib.hid hpr.out.ok
      have Hdw := Lib.hid (dbl_whole hpr.out.ok hbt1 (n := kr) hlr.out.len)
      clear hc hbit hj he hbt hz
      go_wp2_with fail
      go_loopw [12, 13, 14] (fun tv cv kv wr => ∃ k : Nat, k ≤ kr ∧ kv = .int .i64 k ∧ cv = .int .u64 ((dblL rs bt k).2 : Int) ∧ wr.ownsRow wo.heap.size 81 1 tv k (lmbs (dblL rs bt k).1) ∧ Below wo.heap.size wo wr) (fun _ _ kv _ => kr - (intOf kv).toNat)
      case atStart => exact ⟨0, by omega, rfl, rfl, World.ownsRow_nil _ _ _ _, Below.refl _ _⟩
      case round =>
        obtain ⟨k, hk, rfl, rfl, hown, hbel⟩ := hrel
        by_cases hlk : k < kr
        · have hlk' : (k : Int) < (kr : Int) := by omega
          obtain ⟨b2, o2, rfl, hb2, hc2⟩ := hlr.out.at_ (by omega)
          have hck : wr.cell? ⟨b2, o2 + k, none⟩ = some (.int .u64 (nth rs k)) := (hbel.cell (p := ⟨b2, o2 + k, none⟩) hb2).trans (hc2 k hlk)
          have hrk := Hrok.out k
          have hs1 : (dblL rs bt (k + 1)).1 = (dblL rs bt k).1 ++ [((((nth rs k).toNat * 2 + (dblL rs bt k).2) % 4294967296 : Nat) : Int)] := rfl
          have hs2 : (dblL rs bt (k + 1)).2 = (nth rs k).toNat / 2147483648 := rfl
          have hq := (Hdl.out k).1
          generalize hD : (dblL rs bt k).1 = D at *
          obtain ⟨q, hqe⟩ : ∃ q : Nat, (dblL rs bt k).2 = q := ⟨_, rfl⟩
          rw [hqe] at hs1 hq ⊢
          have Hs1 := Lib.hid hs1
          have Hs2 := Lib.hid hs2
          have HD := Lib.hid hD
          have e1 : IntKind.u64.wrap (nth rs k * 2) = nth rs k * 2 := by rw [u64_wrap_eq]; omega
          have e2 : IntKind.u64.wrap (nth rs k * 2 + (q : Int)) = nth rs k * 2 + (q : Int) := by rw [u64_wrap_eq]; omega
          have e3 := u64_low (nth rs k * 2 + (q : Int)) (by omega) (by omega)
          have Hi1 : Hid (((((nth rs k).toNat * 2 + q) % 4294967296 : Nat) : Int) = (nth rs k * 2 + (q : Int)) % 4294967296) := by show _ = _; omega
          have Hi2 : Hid ((((nth rs k).toNat / 2147483648 : Nat) : Int) = nth rs k / 2147483648) := by show _ = _; omega
          clear hs1 hs2 hD hqe
          go_wp2_with (at_builtin; refine wpList_append_lies _ (by rfl) _ _ _ (by rfl) wo.heap.size 81 i0 _ 1 8 Tryz.underlying30 hi hz0 hz1 hz2 rfl (by omega) u12 (k) (lmbs (D)) (by rfl) (hown.alloc _) ⟨wr.heap.size, 0, none⟩ 1 1 [.int .u64 ((nth rs k * 2 + (q : Int)) % 4294967296)] (by rfl) (by rfl) (World.news_of_block (cs := #[.int .u64 ((nth rs k * 2 + (q : Int)) % 4294967296)]) (t := 81) (fr := (0, 0)) (heap_alloc_new wr _)) (by simp [Value.oneCell']) (by omega) (by unfold maxLen; omega) (by omega) (by have := hbel.size; simp; omega) (wr.heap.size + 1) (by simp) ?_; intro gg cap w3 hown1 hgrow hat hlt1; have hb3 := below_app' hbel hown hgrow hbel.size; have hck3 : w3.cell? ⟨b2, o2 + k, none⟩ = some (.int .u64 (nth rs k)) := (hb3.cell (p := ⟨b2, o2 + k, none⟩) hb2).trans (hc2 k hlk))
          have hown2 : w3.ownsRow wo.heap.size 81 1 (.slice (some ⟨gg, 0, none⟩) (k + 1) cap) (k + 1) (lmbs (dblL rs bt (k + 1)).1) := by
            rw [Hs1.out, lmbs_append, Hi1.out]; exact hown1
          have Hq : Hid (((dblL rs bt (k + 1)).2 : Int) = nth rs k / 2147483648) := by
            show _ = _
            rw [Hs2.out]; exact Hi2.out
          clear hgrow hat hown1 hown
          go_wp2
          go_roundw
          case rel => exact ⟨k + 1, by omega, by go_num, by rw [Hq.out], hown2, hb3⟩
          case measure => simp [intOf]; omega
        · obtain rfl : k = kr := by omega
          have hlk' : ¬ (k : Int) < (k : Int) := by omega
          have hw := Hdw.out
          rw [hvr.out] at hw
          generalize hD : (dblL rs bt k).1 = D at *
          obtain ⟨q, hqe⟩ : ∃ q : Nat, (dblL rs bt k).2 = q := ⟨_, rfl⟩
          rw [hqe] at hw ⊢
          obtain ⟨R, hR⟩ : ∃ R, R = 2 * (X / 2 ^ (i + 1) % Y) + bt := ⟨_, rfl⟩
          rw [← hR] at hw
          have HR := Lib.hid hR
          have Hw := Lib.hid hw
          clear hD hqe hw hR
          go_wp2_with (at_builtin; refine wpList_append_lies _ (by rfl) _ _ _ (by rfl) wo.heap.size 81 i0 _ 1 8 Tryz.underlying30 hi hz0 hz1 hz2 rfl (by omega) u12 (k) (lmbs (D)) (by rfl) (hown.alloc _) ⟨wr.heap.size, 0, none⟩ 1 1 [.int .u64 ((q : Int))] (by rfl) (by rfl) (World.news_of_block (cs := #[.int .u64 ((q : Int))]) (t := 81) (fr := (0, 0)) (heap_alloc_new wr _)) (by simp [Value.oneCell']) (by omega) (by unfold maxLen; omega) (by omega) (by have := hbel.size; simp; omega) (wr.heap.size + 1) (by simp) ?_; intro gg cap w3 hown1 hgrow hat hlt1)
          have hb3 := below_app' hbel hown hgrow hbel.size
          have hown2 : w3.ownsRow wo.heap.size 81 1 (.slice (some ⟨gg, 0, none⟩) (k + 1) cap) (k + 1) (lmbs (D ++ [(q : Int)])) := by rw [lmbs_append]; exact hown1
          obtain ⟨g1, g2⟩ := own_caps hown2
          have hin := Limbs.of_own hown2 Hw.out.1.lm
          have Cc := Lib.hid (r1cut (some ⟨gg, 0, none⟩) (k + 1) cap _ w3 hin g1 g2)
          obtain ⟨hp2, hv2⟩ := p32_take Hw.out.1 hin.len
          rw [Hw.out.2] at hv2
          have hle := lmN_le (D ++ [(q : Int)]) (k + 1)
          have hin2 := hin.take hle
          generalize lmN (D ++ [(q : Int)]) (k + 1) = kz at *
          generalize (D ++ [(q : Int)]).take kz = r2 at *
          have hkz : kz ≤ cap := by omega
          have HbW3 := Lib.hid (hbO.out.trans (hb3.mono hbO.out.size))
          have HB3 := Lib.hid hb3
          have Hrow3 := Lib.hid (hrow.out.bel hb3)
          have Cm := r1compare (some ⟨gg, 0, none⟩) A2 kz n2 cap c2 r2 es w3 hin2 (Hy.out.bel HbW3.out) hp2.ok Hpy.out.ok (by omega) (by omega)
          rw [hv2, Hvy.out] at Cm
          have Hp2 := Lib.hid hp2
          have Hv2 := Lib.hid hv2
          have Hin2 := Lib.hid hin2
          clear hgrow hat hown1 hown hown2 hin hb3 hp2 hv2 hin2 hrow
          refine Cc.out.mono ?_
          rintro ee w' ⟨rfl, rfl⟩
          by_cases hge : Y ≤ R
          · obtain ⟨r, hr, hr0⟩ : ∃ r : Int, cmpN R Y = r ∧ 0 ≤ r := ⟨_, rfl, by unfold cmpN; rw [if_neg (by omega)]; split <;> omega⟩
            rw [hr] at Cm
            have CM := Lib.hid Cm
            have Cl := r1lessF (some ⟨gg, 0, none⟩) A2 kz n2 cap c2 r2 es w' Hin2.out (Hy.out.bel HbW3.out) Hp2.out.ok Hpy.out.ok (by omega) (by have h := Hp2.out.len_le Hpy.out (by rw [Hv2.out, Hvy.out]; exact hge); rw [Hin2.out.len, (Hy.out).len] at h; exact h) (by rw [Hv2.out, Hvy.out]; exact hge)
            rw [Hv2.out, Hvy.out] at Cl
            have CL := Lib.hid Cl
            have hs : Y ≤ 2 * (X / 2 ^ (i + 1) % Y) + X / 2 ^ i % 2 := by rw [← Hbt.out, ← HR.out]; exact hge
            have Hrv : Hid (R - Y = X / 2 ^ i % Y) := by
              show _ = _
              rw [((div_bit X HY.out i).1 hs).2, HR.out, Hbt.out]
            obtain ⟨d1, d2, d3, u, d4, d5⟩ := hdv.out.put HY.out hs (by rw [← Hj.out]; exact hjL)
            rw [← Hj.out, ← He.out] at d1 d3 d5
            rw [← Hj.out] at d2
            have hoj := hdv.out.len
            have hor : bits .or .u64 (nth os j) (2 ^ e) = nth os j + 2 ^ e := by
              have hp1 : (2 : Int) ^ e = ((2 ^ e : Nat) : Int) := (cast_two_pow' e).symm
              have hp2 : (2 : Nat) ^ (e + 1) = 2 ^ e * 2 := Nat.pow_succ ..
              have hp3 : (2 : Int) ^ (e + 1) = ((2 ^ (e + 1) : Nat) : Int) := (cast_two_pow' (e + 1)).symm
              have hp4 := Nat.two_pow_pos e
              rw [d5] at d3 ⊢
              refine u64_or_add d4 ?_ ?_ ?_ ?_
              · rw [hp1]; omega
              · rw [hp1, hp3, hp2]; omega
              · rw [hp1] at d3; omega
              · rw [hp1]
                have : (0 : Int) ≤ u * 2 ^ (e + 1) := Int.mul_nonneg d4 (by rw [hp3]; omega)
                rw [hp1] at d3; omega
            have hsh : IntKind.u64.wrap (2 ^ e) = 2 ^ e := by
              have hp1 : (2 : Int) ^ e = ((2 ^ e : Nat) : Int) := (cast_two_pow' e).symm
              have h31 : 2 ^ e ≤ 2 ^ 31 := Nat.pow_le_pow_right (by omega) (by omega)
              rw [u64_wrap_eq, hp1]
              generalize 2 ^ e = pe at *
              omega
            have hsh2 : IntKind.u64.wrap (1 * 2 ^ e) = 2 ^ e := by rw [Int.one_mul]; exact hsh
            have D1 := Lib.hid d1
            clear d1 d3 d5 hs hr Cm Cl
            go_wp2_with fail
            refine CM.out.mono ?_
            rintro ee w5 ⟨rfl, rfl⟩
            go_wp2_with fail
            refine CL.out.mono ?_
            rintro ee w4 ⟨A5, k5, c5, r5, rfl, f1, f2, f3, f4, f5, f6, f8, f7⟩
            have Hrow4 := Hrow3.out.bel f7
            have hcq := Hrow4.cell (i := j) (by rw [hoj]; exact hjL)
            have hfq := Hrow4.frozen j
            have Hset := Lib.hid (Hrow4.set j (nth os j + 2 ^ e))
            have HbW4 := Lib.hid (HbW3.out.trans (f7.mono HbW3.out.size))
            have Hbs : Hid (∀ nq, Below w2.heap.size w2 ((w4.drewN nq).setCell ⟨w2.heap.size, j, none⟩ (.int .u64 (nth os j + 2 ^ e)))) := fun nq => (below_drewN HbW4.out nq).setCell (p := ⟨w2.heap.size, j, none⟩) (Nat.le_refl _) _
            have F4 := Lib.hid f4
            have F5 := Lib.hid f5
            have F6 := Lib.hid (f6.trans Hrv.out)
            have hk5 : k5 ≤ n2 := by
              have h := Hpy.out.len_le f5 (by rw [f6, Hrv.out, Hvy.out]; exact Nat.le_of_lt (Nat.mod_lt _ HY.out))
              rw [f4.len, Hy.out.len] at h; exact h
            have hlt3 := Hrow3.out.lt
            have Hkeep : Hid (∀ v, Limbs (w4.setCell ⟨w2.heap.size, j, none⟩ v) A5 k5 r5) := fun v => f4.only ((Only.refl (fun b => b = w2.heap.size) w4).setCell (p := ⟨w2.heap.size, j, none⟩) rfl v) (fun y hy e => by have := f8 y hy; omega)
            generalize nth os j + 2 ^ e = dv at *
            generalize nth os j = dw at *
            clear f4 f5 f6 f7 Hrow4
            go_wp2_with fail
            go_region
            have Hkp := Lib.hid ((Hkeep.out (.int .u64 dv)).drew)
            go_wp2_with fail
            go_roundw
            case rel => exact ⟨i, (i : Int) - 1, A5, k5, c5, r5, _, by omega, rfl, by go_num, rfl, f1, f2, hk5, Hkp, F5, F6, Hset, D1, (Hbs.out 0).drew⟩
            case measure => simp [intOf] <;> omega
          · have hr : cmpN R Y = -1 := by unfold cmpN; rw [if_pos (by omega)]
            rw [hr] at Cm
            have CM := Lib.hid Cm
            have hs : ¬ Y ≤ 2 * (X / 2 ^ (i + 1) % Y) + X / 2 ^ i % 2 := by rw [← Hbt.out, ← HR.out]; exact hge
            have Hrv : Hid (v32 r2 = X / 2 ^ i % Y) := by
              show _ = _
              rw [((div_bit X HY.out i).2 hs).2, Hv2.out, HR.out, Hbt.out]
            have Hst := Lib.hid (hdv.out.stay HY.out hs)
            have hk5 : kz ≤ n2 := by
              have h := Hpy.out.len_le Hp2.out (by rw [Hrv.out, Hvy.out]; exact Nat.le_of_lt (Nat.mod_lt _ HY.out))
              rw [Hin2.out.len, Hy.out.len] at h; exact h
            clear hs hr Cm
            go_wp2_with fail
            refine CM.out.mono ?_
            rintro ee w5 ⟨rfl, rfl⟩
            go_wp2_with fail
            go_roundw
            case rel => exact ⟨i, (i : Int) - 1, some ⟨gg, 0, none⟩, kz, cap, r2, os, by omega, rfl, by go_num, rfl, hkz, g2, hk5, Hin2, Hp2, Hrv, Hrow3, Hst, HbW3⟩
            case measure => simp [intOf] <;> omega
end Go.Proofs.YtjmbejodcloapaaGreat
