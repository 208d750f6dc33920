/- Contracts: naturals and integers, as far as powers ask for them: the document's. -/
import Derived.Test.YteddelfkjpljpaaNatB
namespace Go.Proofs.Yteddelfkjpljpaa
open Go.RowKit Cl
attribute [local go_sem ↓] Go.wp_at_zero Go.wp_at_succ

set_option maxRecDepth 100000 in
theorem rnnorm_any (A : Option Addr) (n c : Nat) (xs : List Int) (w : World) (hx : Limbs w A n xs) (hn : n ≤ c) (hc : c ≤ 9223372036854775807) (hn8 : n * 8 ≤ 140737488355328) :
    Calls Try.prog 68 #[.slice A n c] w (GivesLimbs w (xs.take (lmN xs n))) := by
  obtain ⟨i0, hi, hz0, hz1, hz2⟩ := info_parts uint_info
  have hl := lmN_le xs n
  have hok := Lib.hid hx.ok
  have Hlen := Lib.hid hx.len
  go_enter Try.func68, Try.ntmps68
  obtain ⟨wo, rfl⟩ : ∃ wo : World, wo = w := ⟨_, rfl⟩
  go_wp2
  go_loopg [3] (n + 1) (fun gk s wr => ∃ m : Nat, m ≤ n ∧ m < gk ∧ s = .int .i64 m ∧ Hid (lmN xs n = lmN xs m) ∧ wr = wo)
  case atStart => exact ⟨n, by omega, by omega, rfl, rfl, rfl⟩
  case round =>
    obtain ⟨m, hm, hgk, rfl, hpl, rfl⟩ := hrel
    have hmc : (m : Int) ≤ (c : Int) := by omega
    have hrd := Lib.hid (hx.take hm).reads
    have hcap : (c : Int) ≤ 9223372036854775807 := by omega
    have hbase : Hid (Below wr.heap.size wr (wr.alloc (.cells #[] 55))) := (Below.refl _ _).alloc (Nat.le_refl _) _
    have hend : Hid (lmN xs n = m → ∀ v' w1, w1.ownsRow wr.heap.size 55 1 v' (0 + m) ([] ++ lmbs (xs.take m)) → (wr.alloc (.cells #[] 55)).grownBy w1 (Value.slice (some ⟨wr.heap.size, 0, none⟩) 0 0).ownBlock → GivesLimbs wr (xs.take (lmN xs n)) (.returned v') w1) := by
      intro he v' w1 hown hgrow
      rw [he]
      have hown2 : w1.ownsRow wr.heap.size 55 1 v' m (lmbs (xs.take m)) := by simpa using hown
      have hb : Below wr.heap.size wr w1 := hbase.out.grown hgrow (by simp) (fun k hk => ((own_empty wr 55 (Nat.le_refl _)).lt k hk).1)
      obtain ⟨A', c', rfl⟩ := own_slice hown2
      have hcc : m ≤ c' ∧ c' ≤ 9223372036854775807 := by
        rcases hown2.2 with ⟨hv, h0⟩ | ⟨g, cap, cur, hv, _, _, hnc, hcm, _⟩
        · injection hv; omega
        · injection hv with _ _ e
          unfold maxLen at hcm; omega
      have hlm : (xs.take m).length = m := by rw [List.length_take, Hlen.out]; omega
      refine ⟨A', c', by rw [hlm], by rw [hlm]; exact hcc.1, hcc.2, ?_, hb⟩
      rw [hlm]
      exact Limbs.of_own hown2 (hok.out.take m)
    cases m with
    | zero =>
      have Hfin := Lib.hid (fun v' w1 => hend.out hpl.out v' w1)
      clear hend
      rcases A with _ | ad
      · obtain rfl : n = 0 := by
          rcases Nat.eq_zero_or_pos n with h | h
          · exact h
          · obtain ⟨b, o, e, _⟩ := hx.at_ h
            cases e
        have hnil : xs = [] := List.eq_nil_of_length_eq_zero Hlen.out
        subst hnil
        have Hf : Hid (GivesLimbs wr (([] : List Int).take (lmN [] 0)) (.returned (.slice (some ⟨wr.heap.size, 0, none⟩) 0 0)) (wr.alloc (.cells #[] 55))) := by
          rw [List.take_nil]
          exact ⟨some ⟨wr.heap.size, 0, none⟩, 0, rfl, by simp, by omega, Limbs.nil _ _, hbase.out⟩
        clear Hfin
        go_wp2
        go_ret
        exact Hf.out
      · go_wp2_with (at_builtin; refine wpList_append_any (w := wr.alloc (.cells #[] 55)) rfl _ _ 23 rfl wr.heap.size 55 i0 (.int .u64 0) 1 8 Try.underlying23 hi hz0 hz1 hz2 rfl (by decide) _ 0 [] rfl (own_empty wr 55 (Nat.le_refl _)) wr.heap.size (some ad) 0 c (lmbs (xs.take 0)) rfl (hrd.out.alloc (Nat.le_refl _) _) (lmbs_oneCell _) (by unfold maxLen; omega) (by omega) (by simp) ?_; intro v' w1 hown hgrow hat)
        go_wp2
        go_ret
        exact Hfin.out _ _ hown hgrow
    | succ m =>
      obtain ⟨b, o, rfl, hb, hc'⟩ := hx.at_ (by omega)
      have hcy := hc' m (by omega)
      clear hc'
      have hmp : (0 : Int) < (m : Int) + 1 := by omega
      have hmn : (m : Int) < (n : Int) := by omega
      by_cases hz : nth xs m = 0
      · rw [hz] at hcy
        have Hz := Lib.hid hz
        clear hz hend hrd hbase
        go_wp2
        go_roundg (gk - 1)
        case measure => omega
        case rel => exact ⟨m, by omega, by omega, by go_num, by show _ = _; rw [hpl.out]; exact plen_drop Hz.out, rfl⟩
      · have hz' : (nth xs m == 0) = false := beq_eq_false_iff_ne.2 hz
        have Hfin := Lib.hid (fun v' w1 => hend.out (hpl.out.trans (plen_stop hz)) v' w1)
        clear hz hend
        go_wp2_with (at_builtin; refine wpList_append_any (w := wr.alloc (.cells #[] 55)) rfl _ _ 23 rfl wr.heap.size 55 i0 (.int .u64 0) 1 8 Try.underlying23 hi hz0 hz1 hz2 rfl (by decide) _ 0 [] rfl (own_empty wr 55 (Nat.le_refl _)) wr.heap.size (some ⟨b, o, none⟩) (m + 1) c (lmbs (xs.take (m + 1))) rfl (hrd.out.alloc (Nat.le_refl _) _) (lmbs_oneCell _) (by unfold maxLen; omega) (by omega) (by simp) ?_; intro v' w1 hown hgrow hat)
        go_wp2
        go_ret
        exact Hfin.out _ _ hown hgrow

set_option maxRecDepth 100000 in
theorem rznorm_any (neg : Bool) (A : Option Addr) (n c : Nat) (xs : List Int) (w : World) (hx : Limbs w A n xs) (hn : n ≤ c) (hc : c ≤ 9223372036854775807) (hn8 : n * 8 ≤ 140737488355328) :
    Calls Try.prog 67 #[.agg #[.bool neg, .slice A n c]] w (GivesInt w (neg && decide (0 < lmN xs n)) (xs.take (lmN xs n))) := by
  have hl := lmN_le xs n
  have hlen : (xs.take (lmN xs n)).length = lmN xs n := by rw [List.length_take, hx.len]; omega
  have Hlen := Lib.hid hlen
  have Cn := Lib.hid (fun W (h : Below w.heap.size w W) => rnnorm_any A n c xs W (hx.bel h) hn hc hn8)
  have hd0 := (Duo.new w (.bool neg) (.slice A n c)).bel ((Below.refl _ _).alloc (Nat.le_refl _) (.cells #[.bool false, .slice none 0 0] 25))
  have hd := Duo.new (w.alloc (.cells #[.bool neg, .slice A n c] 25)) (.bool false) (.slice none 0 0)
  rw [World.size_alloc] at hd
  have c0 := hd0.cell0
  have c1 := hd0.cell1
  have Hd := Lib.hid hd
  have Hd0 := Lib.hid hd0
  clear hd hd0 hx hlen
  go_enter Try.func67, Try.ntmps67
  go_wp2_with fail
  refine (Cn.out _ (by exact ((Below.refl _ _).alloc (Nat.le_refl _) _).alloc (by simp) _)).mono ?_
  rintro e w1 ⟨A1, c1', rfl, h1, h2, h3, h4⟩
  rw [Hlen.out] at h1 h3 ⊢
  have hd1 := Hd.out.bel h4
  have hd01 := Hd0.out.bel h4
  have m0 := hd01.cell0
  have k0 := hd1.cell0
  have k1 := hd1.cell1
  have f0 := hd1.frozen 0
  have f1 := hd1.frozen 1
  have hb : Below w.heap.size w w1 := (((Below.refl _ w).alloc (Nat.le_refl _) _).alloc (by simp) _).trans (h4.mono (by simp; omega))
  have Hd1 := Lib.hid hd1
  clear hd1 hd01 h4 c0 c1
  have fin : ∀ b : Bool, GivesInt w b (xs.take (lmN xs n)) (.returned (.agg #[.bool b, .slice A1 (lmN xs n) c1'])) ((w1.setCell ⟨w.heap.size + 1, 0, none⟩ (.bool b)).setCell ⟨w.heap.size + 1, 1, none⟩ (.slice A1 (lmN xs n) c1')) := fun b => by
    refine ⟨A1, c1', ?_, ?_, h2, ?_, (hb.setCell (p := ⟨w.heap.size + 1, 0, none⟩) (by simp) _).setCell (p := ⟨w.heap.size + 1, 1, none⟩) (by simp) _⟩
    · rw [Hlen.out]
    · rw [Hlen.out]; exact h1
    · rw [Hlen.out]; exact Hd1.out.limbs _ _ rfl rfl h3
  have Fin := Lib.hid fin
  clear fin
  cases neg with
  | false =>
    go_wp2
    exact bodyPost_ret (v := .agg #[.bool false, .slice A1 (lmN xs n) c1']) (results_cell_row (fn := Try.f67) rfl _ _ _ _ _ _ _ rfl (Hd1.out.set (.bool false) (.slice A1 (lmN xs n) c1')) Try.underlying25 rfl aint_size) rfl (Fin.out _)
  | true =>
    go_wp2
    exact bodyPost_ret (v := .agg #[.bool (decide (0 < lmN xs n)), .slice A1 (lmN xs n) c1']) (results_cell_row (fn := Try.f67) rfl _ _ _ _ _ _ _ rfl (Hd1.out.set (.bool (decide (0 < lmN xs n))) (.slice A1 (lmN xs n) c1')) Try.underlying25 rfl aint_size) rfl (Fin.out _)

set_option maxRecDepth 100000 in
theorem rzsign_any (neg : Bool) (A : Option Addr) (n c : Nat) (xs : List Int) (w : World) (hx : Limbs w A n xs) (hn : n ≤ c) (hc : c ≤ 9223372036854775807) (hn8 : n * 8 ≤ 140737488355328) :
    Calls Try.prog 48 #[.agg #[.bool neg, .slice A n c]] w (fun e w' => e = .returned (.int .i64 (signN neg (lmN xs n))) ∧ Below w.heap.size w w') := by
  have hl := lmN_le xs n
  have hlen : (xs.take (lmN xs n)).length = lmN xs n := by rw [List.length_take, hx.len]; omega
  have Hlen := Lib.hid hlen
  have Cn := Lib.hid (fun W (h : Below w.heap.size w W) => rznorm_any neg A n c xs W (hx.bel h) hn hc hn8)
  have hd := Duo.new w (.bool neg) (.slice A n c)
  have k0 := hd.cell0
  have k1 := hd.cell1
  clear hd hlen hx
  go_enter Try.func48, Try.ntmps48
  go_wp2_with fail
  refine (Cn.out _ (by exact (Below.refl _ _).alloc (Nat.le_refl _) _)).mono ?_
  rintro e w1 ⟨A1, c1, rfl, h1, h2, h3, h4⟩
  rw [Hlen.out] at h1 h3 ⊢
  have hb : Below w.heap.size w w1 := ((Below.refl _ w).alloc (Nat.le_refl _) _).trans (h4.mono (by simp))
  clear h4 k0 k1 h3 Hlen
  obtain ⟨L, hL⟩ : ∃ L, lmN xs n = L := ⟨_, rfl⟩
  have HL := Lib.hid hL
  rw [hL] at h1 ⊢
  clear hL Cn hl
  have Hb := Lib.hid (fun z => hb.alloc hb.size z)
  rcases L with _ | L
  · cases neg <;> (go_wp2; go_ret; exact ⟨by rw [HL.out]; rfl, Hb.out _⟩)
  · have hp' : (0 : Int) < (L : Int) + 1 := by omega
    cases neg <;> (go_wp2; go_ret; exact ⟨by rw [HL.out]; rfl, Hb.out _⟩)
end Go.Proofs.Yteddelfkjpljpaa
