/- Contracts: what a value and a derivative make of one term (mpoly.Eval$1, mpoly.Deriv$1). -/
import Derived.Test.YtjmbejodcloapaaFstK
namespace Go.Proofs.Ytjmbejodcloapaa
open Go.RowKit Cl
attribute [local go_sem ↓] Go.wp_at_zero Go.wp_at_succ
/-- A call that hands back an integer and a number. -/
def GivesZI (w : World) (z : Int) (i : Int) (K : Nat) (e : Ending) (w' : World) : Prop :=
  ∃ s A k c ls, e = .returned (.tuple #[.agg #[.bool s, .slice A k c], .int .i64 i]) ∧ k ≤ c ∧ c ≤ 9223372036854775807 ∧ k ≤ K ∧ Limbs w' A k ls ∧ intZ s ls = z ∧ Below w.heap.size w w'
theorem only_set2 (w : World) (g : Nat) (u v : Value) : Only (fun x => x = g) w ((w.setCell ⟨g, 0, none⟩ u).setCell ⟨g, 1, none⟩ v) :=
  ((Only.refl (fun x => x = g) w).setCell (p := ⟨g, 0, none⟩) rfl _).setCell (p := ⟨g, 1, none⟩) rfl _
set_option maxRecDepth 100000 in
set_option maxHeartbeats 4000000 in
theorem eval1 (gx : Nat) (sx : Bool) (Ax : Option Addr) (kx cx : Nat) (xs : List Int) (s : Bool) (A : Option Addr) (k c : Nat) (ls : List Int) (ex : Nat) (w : World) (hg : Duo w gx (.bool sx) (.slice Ax kx cx)) (hX : Limbs w Ax kx xs) (hxc : kx ≤ cx) (hcx : cx ≤ 9223372036854775807) (hkx : kx ≤ 1)
    (hL : Limbs w A k ls) (hkc : k ≤ c) (hc : c ≤ 9223372036854775807) (hk : k ≤ 100000) (he : ex ≤ 10000) :
    Calls Try.prog 42 #[.agg #[.bool s, .slice A k c], .int .i64 (ex : Int), .pointer (some ⟨gx, 0, none⟩)] w (GivesZI w (intZ s ls * intZ sx xs ^ ex) 0 (k + 2 * ex)) := by
  have hgl := hg.lt
  have Hg := Lib.hid hg
  have HX := Lib.hid hX
  have HL := Lib.hid hL
  clear hg hX hL
  go_enter Try.func42, Try.ntmps42
  go_wp2_with fail
  have b2 := below_two w (.cells #[.bool s, .slice A k c] 34) (.cells #[.bool false, .slice none 0 0] 34)
  have hs2 := size_two w (.cells #[.bool s, .slice A k c] 34) (.cells #[.bool false, .slice none 0 0] 34)
  have d0 : Duo ((w.alloc (.cells #[.bool s, .slice A k c] 34)).alloc (.cells #[.bool false, .slice none 0 0] 34)) w.heap.size (.bool s) (.slice A k c) := (heap_alloc_old _ _ (by simp)).trans (heap_alloc_new _ _)
  have d1 := Duo.new (w.alloc (.cells #[.bool s, .slice A k c] 34)) (.bool false) (.slice none 0 0)
  rw [World.size_alloc] at d1
  generalize (w.alloc (.cells #[.bool s, .slice A k c] 34)).alloc (.cells #[.bool false, .slice none 0 0] 34) = wt at *
  have D0 := Lib.hid d0
  have D1 := Lib.hid d1
  have B2 := Lib.hid b2
  have Hs2 := Lib.hid hs2
  have hl0 : w.heap.size + 1 < wt.heap.size := by omega
  clear d0 d1 b2 hs2
  go_loopw [8] (fun v wr => ∃ j : Nat, j ≤ ex ∧ v = .int .i64 j ∧ Hid (Below w.heap.size w wr) ∧ w.heap.size + 1 < wr.heap.size ∧ Hid (Duo wr (w.heap.size + 1) (.bool false) (.slice none 0 0)) ∧
    Hid (∃ s' A' k' c' ls', Duo wr w.heap.size (.bool s') (.slice A' k' c') ∧ Limbs wr A' k' ls' ∧ k' ≤ c' ∧ c' ≤ 9223372036854775807 ∧ k' ≤ k + 2 * j ∧ intZ s' ls' = intZ s ls * intZ sx xs ^ j)) (fun v _ => ex - (intOf v).toNat)
  case atStart => exact ⟨0, by omega, rfl, B2, hl0, D1, ⟨s, A, k, c, ls, D0.out, HL.out.bel B2.out, hkc, hc, by omega, by rw [Int.pow_zero, Int.mul_one]⟩⟩
  case round =>
    obtain ⟨j, hj, rfl, hb, hlo, hd1, hst⟩ := hrel
    obtain ⟨wo, rfl⟩ : ∃ wo : World, wo = wr := ⟨_, rfl⟩
    obtain ⟨s', A', k', c', ls', hd0, hL', h1, h2, h3, h4⟩ := hst.out
    have v0 := hd0.cell0
    have v1 := hd0.cell1
    have Hd0 := Lib.hid hd0
    have HL' := Lib.hid hL'
    have H4 := Lib.hid h4
    clear hd0 hL' h4 hst
    by_cases hlt : j < ex
    · have hlt' : (j : Int) < (ex : Int) := by omega
      have g0 := (Hg.out.bel hb.out).cell0
      have g1 := (Hg.out.bel hb.out).cell1
      go_wp2_with fail
      refine (zmul s' sx A' Ax k' kx c' cx ls' xs wo HL'.out (HX.out.bel hb.out) h1 h2 hxc hcx (by omega) (by omega)).mono ?_
      rintro e w1 ⟨s1, A1, k1, c1, ls1, rfl, p1, p2, p3, p4, p5, hb1⟩
      have hd2 := Hd0.out.bel hb1
      have hd3 := hd1.out.bel hb1
      have q0 := hd2.cell0
      have q1 := hd2.cell1
      have f0 := hd2.frozen 0
      have f1 := hd2.frozen 1
      have hs1 := hb1.size
      have o1 := only_set2 w1 w.heap.size (.bool s1) (.slice A1 k1 c1)
      have n1 : Hid (Below w.heap.size w ((w1.setCell ⟨w.heap.size, 0, none⟩ (.bool s1)).setCell ⟨w.heap.size, 1, none⟩ (.slice A1 k1 c1))) := below_only (hb.out.trans (hb1.mono hb.out.size)) o1 (by omega) (fun x hx => by omega)
      have n2 : Hid (Duo ((w1.setCell ⟨w.heap.size, 0, none⟩ (.bool s1)).setCell ⟨w.heap.size, 1, none⟩ (.slice A1 k1 c1)) (w.heap.size + 1) (.bool false) (.slice none 0 0)) := hd3.keep (o1.block _ hd3.lt (by omega))
      have n3 : Hid (∃ s' A' k' c' ls', Duo ((w1.setCell ⟨w.heap.size, 0, none⟩ (.bool s1)).setCell ⟨w.heap.size, 1, none⟩ (.slice A1 k1 c1)) w.heap.size (.bool s') (.slice A' k' c') ∧ Limbs ((w1.setCell ⟨w.heap.size, 0, none⟩ (.bool s1)).setCell ⟨w.heap.size, 1, none⟩ (.slice A1 k1 c1)) A' k' ls' ∧ k' ≤ c' ∧ c' ≤ 9223372036854775807 ∧ k' ≤ k + 2 * (j + 1) ∧ intZ s' ls' = intZ s ls * intZ sx xs ^ (j + 1)) :=
        ⟨s1, A1, k1, c1, ls1, hd2.set _ _, limbs_u64 p4 (U64.duo hd2 o1), p1, p2, by omega, by rw [p5.eq, H4.out, Int.pow_succ, Int.mul_assoc]⟩
      have n4 : w.heap.size + 1 < ((w1.setCell ⟨w.heap.size, 0, none⟩ (.bool s1)).setCell ⟨w.heap.size, 1, none⟩ (.slice A1 k1 c1)).heap.size := by have := o1.size; omega
      clear hd2 hd3 o1 p4 p5 hb1 g0 g1 v0 v1 Hd0 HL' H4 hb hd1
      go_wp2_with fail
      go_roundw
      case rel => exact ⟨j + 1, by omega, by go_num, n1, n4, n2, n3⟩
      case measure => simp [intOf]; omega
    · obtain rfl : j = ex := by omega
      have hlt' : ¬ (j : Int) < (j : Int) := by omega
      have q0 := hd1.out.cell0
      have q1 := hd1.out.cell1
      have f0 := hd1.out.frozen 0
      have f1 := hd1.out.frozen 1
      have o1 := only_set2 wo (w.heap.size + 1) (.bool s') (.slice A' k' c')
      have n1 : Hid (Below w.heap.size w ((wo.setCell ⟨w.heap.size + 1, 0, none⟩ (.bool s')).setCell ⟨w.heap.size + 1, 1, none⟩ (.slice A' k' c'))) := below_only hb.out o1 hb.out.size (fun x hx => by omega)
      have n2 := Lib.hid (hd1.out.set (.bool s') (.slice A' k' c'))
      have n3 := Lib.hid (limbs_u64 HL'.out (U64.duo hd1.out o1))
      clear o1
      go_wp2_with fail
      (try simp only [Exit.inBlock, Exit.then])
      exact bodyPost_ret (results_cell_tmp (fn := Try.f42) rfl _ _ _ _ _ _ _ rfl n2.out Try.underlying34 rfl aint_size) rfl ⟨s', A', k', c', ls', rfl, h1, h2, h3, n3.out, H4.out, n1.out⟩
set_option maxRecDepth 100000 in
set_option maxHeartbeats 4000000 in
theorem deriv1_y (s : Bool) (A : Option Addr) (k c : Nat) (ls : List Int) (y : Int) (h2 : 0 ≤ y) (hy : y ≤ 10000) (w : World) (hL : Limbs w A k ls) (hkc : k ≤ c) (hc : c ≤ 9223372036854775807) (hk : k ≤ 100000) :
    Calls Try.prog 43 #[.agg #[.bool s, .slice A k c], .int .i64 y] w (GivesZI w (intZ s ls * y) (max (y - 1) 0) (k + 2)) := by
  have HL := Lib.hid hL
  have Co := Lib.hid (fun W => zof_posZ y W (by omega) (by omega))
  have hew : IntKind.i64.wrap (y - 1) = y - 1 := IntWalk.i64_in _ (by omega)
  clear hL
  go_enter Try.func43, Try.ntmps43
  go_wp2_with fail
  have b2 := below_two w (.cells #[.bool s, .slice A k c] 34) (.cells #[.bool false, .slice none 0 0] 34)
  have hs2 := size_two w (.cells #[.bool s, .slice A k c] 34) (.cells #[.bool false, .slice none 0 0] 34)
  have d0 : Duo ((w.alloc (.cells #[.bool s, .slice A k c] 34)).alloc (.cells #[.bool false, .slice none 0 0] 34)) w.heap.size (.bool s) (.slice A k c) := (heap_alloc_old _ _ (by simp)).trans (heap_alloc_new _ _)
  have d1 := Duo.new (w.alloc (.cells #[.bool s, .slice A k c] 34)) (.bool false) (.slice none 0 0)
  rw [World.size_alloc] at d1
  generalize (w.alloc (.cells #[.bool s, .slice A k c] 34)).alloc (.cells #[.bool false, .slice none 0 0] 34) = wt at *
  have D0 := Lib.hid d0
  have D1 := Lib.hid d1
  have B2 := Lib.hid b2
  have hl0 : w.heap.size + 1 < wt.heap.size := by omega
  have hne : w.heap.size + 1 ≠ w.heap.size := by omega
  have hne' : w.heap.size ≠ w.heap.size + 1 := by omega
  have hw1 : w.heap.size ≤ w.heap.size + 1 := by omega
  clear d0 d1 b2 hs2
  generalize w.heap.size + 1 = gr at *
  have keep : Hid (∀ W, Below wt.heap.size wt W → W.cell? ⟨w.heap.size, 0, none⟩ = some (.bool s) ∧ W.cell? ⟨w.heap.size, 1, none⟩ = some (.slice A k c)) := fun W hW => ⟨(D0.out.bel hW).cell0, (D0.out.bel hW).cell1⟩
  have keep3 : Hid (∀ W u v, Below wt.heap.size wt W → ((W.setCell ⟨gr, 0, none⟩ u).setCell ⟨gr, 1, none⟩ v).cell? ⟨w.heap.size, 0, none⟩ = some (.bool s) ∧ ((W.setCell ⟨gr, 0, none⟩ u).setCell ⟨gr, 1, none⟩ v).cell? ⟨w.heap.size, 1, none⟩ = some (.slice A k c)) := fun W u v hW => by
    have o1 := only_set2 W gr u v
    have hd := (D0.out.bel hW).keep (o1.block _ (D0.out.bel hW).lt hne')
    exact ⟨hd.cell0, hd.cell1⟩
  have res : Hid (∀ W, Below wt.heap.size wt W → W.cell? ⟨gr, 0, none⟩ = some (.bool false) ∧ W.cell? ⟨gr, 1, none⟩ = some (.slice none 0 0) ∧ W.frozen? ⟨gr, 0, none⟩ = false ∧ W.frozen? ⟨gr, 1, none⟩ = false) := fun W hW =>
    ⟨(D1.out.bel hW).cell0, (D1.out.bel hW).cell1, (D1.out.bel hW).frozen 0, (D1.out.bel hW).frozen 1⟩
  obtain ⟨v0, v1⟩ := keep.out wt (Below.refl _ _)
  go_region_held3 (fun W => W.cell? ⟨w.heap.size, 0, none⟩ = some (.bool s) ∧ W.cell? ⟨w.heap.size, 1, none⟩ = some (.slice A k c))
    (first | go_keep | exact keep.out _ (Below.refl _ _).drew | exact keep.out _ hba | exact keep.out _ hbm | exact keep3.out _ _ _ hbm)
    (first
      | (go_at_call 44; refine (Co.out _).mono ?_; rintro e wa ⟨so, Ao, ko, co, lo, rfl, o1, o2, o3, o4, o5, hba'⟩; have hba : Below wt.heap.size wt wa := (Below.refl _ _).drew.trans hba')
      | (go_at_call 15; refine (zmul s so A Ao k ko c co ls lo _ (HL.out.bel (B2.out.trans (hba.mono B2.out.size))) o4 hkc hc o1 o2 (by omega) (by omega)).mono ?_; rintro e wm ⟨s1, A1, k1, c1, ls1, rfl, p1, p2, p3, p4, p5, hbm'⟩; have hbm : Below wt.heap.size wt wm := hba.trans (hbm'.mono hba.size); obtain ⟨r0, r1, q0, q1⟩ := res.out wm hbm))
  all_goals
    have hd1 := D1.out.bel hbm
    have o6 := only_set2 wm gr (.bool s1) (.slice A1 k1 c1)
    have hbw : Below w.heap.size w wm := B2.out.trans (hbm.mono B2.out.size)
    have n1 : Hid (Below w.heap.size w ((wm.setCell ⟨gr, 0, none⟩ (.bool s1)).setCell ⟨gr, 1, none⟩ (.slice A1 k1 c1))) := below_only hbw o6 hbw.size (fun x hx => by omega)
    have n2 := Lib.hid (hd1.set (.bool s1) (.slice A1 k1 c1))
    have n3 := Lib.hid (limbs_u64 p4 (U64.duo hd1 o6))
    have n4 : Hid (intZ s1 ls1 = intZ s ls * y) := by show _ = _; rw [p5.eq, o5.eq]
    have n5 : k1 ≤ k + 2 := by omega
    clear hd1 o6 hbw p4 p5 o4 o5 hba hbm hba' hbm'
    go_wp2_with fail
    (try simp only [Exit.inBlock, Exit.then])
    exact bodyPost_ret (results_cell_tmp (fn := Try.f43) rfl _ _ _ _ _ _ _ rfl n2.out Try.underlying34 rfl aint_size) rfl ⟨s1, A1, k1, c1, ls1, rfl, p1, p2, n5, n3.out, n4.out, n1.out⟩
theorem deriv1 (s : Bool) (A : Option Addr) (k c : Nat) (ls : List Int) (ex : Nat) (w : World) (hL : Limbs w A k ls) (hkc : k ≤ c) (hc : c ≤ 9223372036854775807) (hk : k ≤ 100000) (he : ex ≤ 10000) :
    Calls Try.prog 43 #[.agg #[.bool s, .slice A k c], .int .i64 (ex : Int)] w (GivesZI w (intZ s ls * (ex : Int)) (((ex - 1 : Nat) : Int)) (k + 2)) := by
  have := deriv1_y s A k c ls (ex : Int) (by omega) (by omega) w hL hkc hc hk
  rw [show ((ex - 1 : Nat) : Int) = max ((ex : Int) - 1) 0 by omega]
  exact this
end Go.Proofs.Ytjmbejodcloapaa
