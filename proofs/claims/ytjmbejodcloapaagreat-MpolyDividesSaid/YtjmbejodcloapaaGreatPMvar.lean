/- Contract: mpoly.Var at two variables. -/
import Derived.Test.YtjmbejodcloapaaGreatPTj
set_option linter.unusedVariables false
set_option linter.unusedSimpArgs false
namespace Go.Proofs.YtjmbejodcloapaaGreat
open Go.RowKit Cl
attribute [local go_sem ↓] Go.wp_at_zero Go.wp_at_succ
set_option maxRecDepth 100000 in
theorem one_put (b n B : Nat) (p : Plc) (hp : GoodP n p) (s : Bool) (A : Option Addr) (k c : Nat) (ls : List Int) (W : World) (hm : W.ownsMap Tryz.prog 48 intEl b 0 (.map [])) (hL : Limbs W A k ls) (hk : k ≤ c) (hc : c ≤ 9223372036854775807) (hB : k ≤ B) :
    ∃ w', (Instr.mapUpdate 51 (.map (some b)) (plcV p) (.agg #[.bool s, .slice A k c])).run Tryz.prog W = .ok () w' ∧ SumM w' b 1 n B [(p, intZ s ls)] ∧ Only (fun x => x = b) W w' := by
  obtain ⟨w7, hrun7, hm7, hg7⟩ := hm.update plc_law Tryz.underlying51 (by unfold maxLen; omega) (keyOf_plc hp.len hp.i64) (intEl_mk s A k c)
  have o2 : Only (fun x => x = b) W w7 := (Only.of_grown hg7).mono (fun i hi => by injection hi with hi; exact hi.symm)
  refine ⟨w7, hrun7, ⟨_, hm7, ?_⟩, o2⟩
  have h1 := (SumD.start w7 n B).put hp (v := .agg #[.bool s, .slice A k c]) (t := intZ s ls) ⟨s, A, k, c, ls, rfl, hk, hc, hB, limbs_map hL hm o2, by rw [coM_nil, Int.zero_add]⟩
  simpa using h1
set_option maxRecDepth 1000000 in
set_option maxHeartbeats 4000000 in
theorem mvar0 (w : World) : Calls Tryz.prog 19 #[.int .i64 2, .int .i64 0] w (GivesP w 2 [([1, 0], 1)]) := by
  have Cc := Lib.hid (mcheck_ok (2 : Int) none 0 0 [] w (Trs.nil _ _) ⟨by omega, by omega, by simp, fun i h => absurd h (by simp)⟩)
  have hmm := @run_makeMap Tryz.prog
  have Hg : Hid (GoodP 2 [1, 0, 0, 0, 0, 0]) := ⟨rfl, fun x hx => by simp at hx; omega, fun i hi => by
    match i, hi with
    | 0, h => omega
    | 1, h => omega
    | 2, _ => rfl
    | 3, _ => rfl
    | 4, _ => rfl
    | 5, _ => rfl
    | i + 6, _ => exact nth_ge (by simp)⟩
  go_enter Tryz.func19, Tryz.ntmps19
  go_wp2_with fail
  refine Cc.out.mono ?_
  rintro e w1 ⟨rfl, hb1⟩
  go_wp2_with fail
  have hlt : w1.heap.size < (w1.alloc (.cells #[.int .i64 1, .int .i64 0, .int .i64 0, .int .i64 0, .int .i64 0, .int .i64 0] 48)).heap.size := by simp
  have hrow : Row (w1.alloc (.cells #[.int .i64 1, .int .i64 0, .int .i64 0, .int .i64 0, .int .i64 0, .int .i64 0] 48)) w1.heap.size 48 [1, 0, 0, 0, 0, 0] := heap_alloc_new _ _
  have hbt : Below w.heap.size w (w1.alloc (.cells #[.int .i64 1, .int .i64 0, .int .i64 0, .int .i64 0, .int .i64 0, .int .i64 0] 48)) := hb1.alloc hb1.size _
  generalize (w1.alloc (.cells #[.int .i64 1, .int .i64 0, .int .i64 0, .int .i64 0, .int .i64 0, .int .i64 0] 48)) = wt at *
  have keep : Hid (∀ W, Below wt.heap.size wt W → W.cell? ⟨w1.heap.size, 0, none⟩ = some (.int .i64 1) ∧ W.cell? ⟨w1.heap.size, 1, none⟩ = some (.int .i64 0) ∧ W.cell? ⟨w1.heap.size, 2, none⟩ = some (.int .i64 0) ∧ W.cell? ⟨w1.heap.size, 3, none⟩ = some (.int .i64 0) ∧ W.cell? ⟨w1.heap.size, 4, none⟩ = some (.int .i64 0) ∧ W.cell? ⟨w1.heap.size, 5, none⟩ = some (.int .i64 0)) := fun W hW => by
    have r1 := hrow.below hW hlt
    exact ⟨r1.cell (i := 0) (by show 0 < 6; omega), r1.cell (i := 1) (by show 1 < 6; omega), r1.cell (i := 2) (by show 2 < 6; omega), r1.cell (i := 3) (by show 3 < 6; omega), r1.cell (i := 4) (by show 4 < 6; omega), r1.cell (i := 5) (by show 5 < 6; omega)⟩
  obtain ⟨v0, v1, v2, v3, v4, v5⟩ := keep.out wt (Below.refl _ _)
  have Hbt := Lib.hid hbt
  have Ca := Lib.hid (fun b W (h : SumM W b 1 2 1 [([1, 0, 0, 0, 0, 0], 1)]) => manswer b 1 2 1 _ [([1, 0], 1)] W h (by omega) (by omega) (by omega) (fun t ht => by rw [List.mem_singleton.1 ht]; rfl) (fun t ht x hx => by rw [List.mem_singleton.1 ht] at hx; simp at hx; omega) (by simp) (fun p hp => coM_lift (n := 2) (L := [([1, 0], 1)]) (fun t ht => by rw [List.mem_singleton.1 ht]; rfl) hp))
  have hs1 := hb1.size
  clear hrow hbt Cc
  go_region_with (first
    | (go_at_call 39; refine (zof_posZ 1 _ (by omega) (by omega)).mono ?_; rintro e w3 ⟨s1, A1, k1, c1, ls1, rfl, g1, g2, g3, g4, g5, hb3⟩; (first
        | (have hbw3 : Below wt.heap.size wt w3 := ((Below.refl _ _).drew.alloc (Nat.le_refl _) _).trans (hb3.mono (by simp)); have hmp : w3.ownsMap Tryz.prog 48 intEl wt.heap.size 0 (.map []) := map_bel (World.ownsMap_made wt.drew Tryz.prog 48 intEl) hb3; have hbr := hbw3; obtain ⟨w5, hrun5, hs5, ho5⟩ := one_put wt.heap.size 2 1 [1, 0, 0, 0, 0, 0] Hg.out s1 A1 k1 c1 ls1 w3 hmp g4 g1 g2 g3)
        | (have hbw3 : Below wt.heap.size wt w3 := (Below.refl _ _).drew.trans hb3; have hbr : Below wt.heap.size wt (w3.alloc (.map #[] 0)) := hbw3.alloc hbw3.size _; obtain ⟨w5, hrun5, hs5, ho5⟩ := one_put w3.heap.size 2 1 [1, 0, 0, 0, 0, 0] Hg.out s1 A1 k1 c1 ls1 (w3.alloc (.map #[] 0)) (World.ownsMap_made w3 Tryz.prog 48 intEl) (g4.alloc _) g1 g2 g3)); rw [g5.eq] at hs5; change (Instr.mapUpdate _ _ (.agg #[.int .i64 1, .int .i64 0, .int .i64 0, .int .i64 0, .int .i64 0, .int .i64 0]) _).run _ _ = _ at hrun5; obtain ⟨y0, y1, y2, y3, y4, y5⟩ := keep.out w3 hbw3; have hlt3 : w1.heap.size < w3.heap.size := Nat.lt_of_lt_of_le hlt hbw3.size; have H4 := Lib.hid g4; have H5 := Lib.hid g5; clear g4 g5)
    | (go_at_call 30; refine (Ca.out _ w5 hs5).mono ?_; intro e w6 h6; have hb5 : Below w.heap.size w w5 := Hbt.out.trans ((hbr.trans (ho5.below (B := wt.heap.size) hbr.size (fun x hx => by have := hbw3.size; omega))).mono Hbt.out.size); obtain ⟨A3, c3, L3, rfl, q1, q2, q3, q4, q5, q6⟩ := h6.from_ hb5; have F : Hid (GivesP w 2 [([1, 0], 1)] (.returned (.tuple #[.slice A3 L3.length c3, .int .i64 0])) w6) := ⟨A3, c3, L3, rfl, q1, q2, q3, q4, q5, q6⟩; clear h6 q3 q4 q5 q6))
  all_goals
    go_wp2_with fail
    go_ret2
    exact F.out
set_option maxRecDepth 1000000 in
set_option maxHeartbeats 4000000 in
theorem mvar1 (w : World) : Calls Tryz.prog 19 #[.int .i64 2, .int .i64 1] w (GivesP w 2 [([0, 1], 1)]) := by
  have Cc := Lib.hid (mcheck_ok (2 : Int) none 0 0 [] w (Trs.nil _ _) ⟨by omega, by omega, by simp, fun i h => absurd h (by simp)⟩)
  have hmm := @run_makeMap Tryz.prog
  have Hg : Hid (GoodP 2 [0, 1, 0, 0, 0, 0]) := ⟨rfl, fun x hx => by simp at hx; omega, fun i hi => by
    match i, hi with
    | 0, h => omega
    | 1, h => omega
    | 2, _ => rfl
    | 3, _ => rfl
    | 4, _ => rfl
    | 5, _ => rfl
    | i + 6, _ => exact nth_ge (by simp)⟩
  go_enter Tryz.func19, Tryz.ntmps19
  go_wp2_with fail
  refine Cc.out.mono ?_
  rintro e w1 ⟨rfl, hb1⟩
  go_wp2_with fail
  have hlt : w1.heap.size < (w1.alloc (.cells #[.int .i64 0, .int .i64 1, .int .i64 0, .int .i64 0, .int .i64 0, .int .i64 0] 48)).heap.size := by simp
  have hrow : Row (w1.alloc (.cells #[.int .i64 0, .int .i64 1, .int .i64 0, .int .i64 0, .int .i64 0, .int .i64 0] 48)) w1.heap.size 48 [0, 1, 0, 0, 0, 0] := heap_alloc_new _ _
  have hbt : Below w.heap.size w (w1.alloc (.cells #[.int .i64 0, .int .i64 1, .int .i64 0, .int .i64 0, .int .i64 0, .int .i64 0] 48)) := hb1.alloc hb1.size _
  generalize (w1.alloc (.cells #[.int .i64 0, .int .i64 1, .int .i64 0, .int .i64 0, .int .i64 0, .int .i64 0] 48)) = wt at *
  have keep : Hid (∀ W, Below wt.heap.size wt W → W.cell? ⟨w1.heap.size, 0, none⟩ = some (.int .i64 0) ∧ W.cell? ⟨w1.heap.size, 1, none⟩ = some (.int .i64 1) ∧ W.cell? ⟨w1.heap.size, 2, none⟩ = some (.int .i64 0) ∧ W.cell? ⟨w1.heap.size, 3, none⟩ = some (.int .i64 0) ∧ W.cell? ⟨w1.heap.size, 4, none⟩ = some (.int .i64 0) ∧ W.cell? ⟨w1.heap.size, 5, none⟩ = some (.int .i64 0)) := fun W hW => by
    have r1 := hrow.below hW hlt
    exact ⟨r1.cell (i := 0) (by show 0 < 6; omega), r1.cell (i := 1) (by show 1 < 6; omega), r1.cell (i := 2) (by show 2 < 6; omega), r1.cell (i := 3) (by show 3 < 6; omega), r1.cell (i := 4) (by show 4 < 6; omega), r1.cell (i := 5) (by show 5 < 6; omega)⟩
  obtain ⟨v0, v1, v2, v3, v4, v5⟩ := keep.out wt (Below.refl _ _)
  have Hbt := Lib.hid hbt
  have Ca := Lib.hid (fun b W (h : SumM W b 1 2 1 [([0, 1, 0, 0, 0, 0], 1)]) => manswer b 1 2 1 _ [([0, 1], 1)] W h (by omega) (by omega) (by omega) (fun t ht => by rw [List.mem_singleton.1 ht]; rfl) (fun t ht x hx => by rw [List.mem_singleton.1 ht] at hx; simp at hx; omega) (by simp) (fun p hp => coM_lift (n := 2) (L := [([0, 1], 1)]) (fun t ht => by rw [List.mem_singleton.1 ht]; rfl) hp))
  have hs1 := hb1.size
  clear hrow hbt Cc
  go_region_with (first
    | (go_at_call 39; refine (zof_posZ 1 _ (by omega) (by omega)).mono ?_; rintro e w3 ⟨s1, A1, k1, c1, ls1, rfl, g1, g2, g3, g4, g5, hb3⟩; (first
        | (have hbw3 : Below wt.heap.size wt w3 := ((Below.refl _ _).drew.alloc (Nat.le_refl _) _).trans (hb3.mono (by simp)); have hmp : w3.ownsMap Tryz.prog 48 intEl wt.heap.size 0 (.map []) := map_bel (World.ownsMap_made wt.drew Tryz.prog 48 intEl) hb3; have hbr := hbw3; obtain ⟨w5, hrun5, hs5, ho5⟩ := one_put wt.heap.size 2 1 [0, 1, 0, 0, 0, 0] Hg.out s1 A1 k1 c1 ls1 w3 hmp g4 g1 g2 g3)
        | (have hbw3 : Below wt.heap.size wt w3 := (Below.refl _ _).drew.trans hb3; have hbr : Below wt.heap.size wt (w3.alloc (.map #[] 0)) := hbw3.alloc hbw3.size _; obtain ⟨w5, hrun5, hs5, ho5⟩ := one_put w3.heap.size 2 1 [0, 1, 0, 0, 0, 0] Hg.out s1 A1 k1 c1 ls1 (w3.alloc (.map #[] 0)) (World.ownsMap_made w3 Tryz.prog 48 intEl) (g4.alloc _) g1 g2 g3)); rw [g5.eq] at hs5; change (Instr.mapUpdate _ _ (.agg #[.int .i64 0, .int .i64 1, .int .i64 0, .int .i64 0, .int .i64 0, .int .i64 0]) _).run _ _ = _ at hrun5; obtain ⟨y0, y1, y2, y3, y4, y5⟩ := keep.out w3 hbw3; have hlt3 : w1.heap.size < w3.heap.size := Nat.lt_of_lt_of_le hlt hbw3.size; have H4 := Lib.hid g4; have H5 := Lib.hid g5; clear g4 g5)
    | (go_at_call 30; refine (Ca.out _ w5 hs5).mono ?_; intro e w6 h6; have hb5 : Below w.heap.size w w5 := Hbt.out.trans ((hbr.trans (ho5.below (B := wt.heap.size) hbr.size (fun x hx => by have := hbw3.size; omega))).mono Hbt.out.size); obtain ⟨A3, c3, L3, rfl, q1, q2, q3, q4, q5, q6⟩ := h6.from_ hb5; have F : Hid (GivesP w 2 [([0, 1], 1)] (.returned (.tuple #[.slice A3 L3.length c3, .int .i64 0])) w6) := ⟨A3, c3, L3, rfl, q1, q2, q3, q4, q5, q6⟩; clear h6 q3 q4 q5 q6))
  all_goals
    go_wp2_with fail
    go_ret2
    exact F.out
end Go.Proofs.YtjmbejodcloapaaGreat
