/- Contract: the document's sum of integers once more: it lies in new memory. (Printed by gen/radf.py from XRzin.) -/
import Derived.Test.YtjmbejodcloapaaGreatPRfs
set_option linter.unusedVariables false
set_option linter.unusedSimpArgs false
namespace Go.Proofs.YtjmbejodcloapaaGreat
open Go.RowKit Cl
attribute [local go_sem ↓] Go.wp_at_zero Go.wp_at_succ
set_option maxRecDepth 100000 in
set_option maxHeartbeats 2000000 in
theorem r2add_sameF (s t : Bool) (hst : (s == t) = true) (A B : Option Addr) (n m c d : Nat) (xs ys : List Int) (w : World) (hx : Limbs w A n xs) (hy : Limbs w B m ys) (hnc : n ≤ c) (hc : c ≤ 9223372036854775807) (hmd : m ≤ d) (hd : d ≤ 9223372036854775807) (hn : n ≤ 10000000) (hm : m ≤ 10000000) :
    Calls Tryz.prog 58 #[.agg #[.bool s, .slice A n c], .agg #[.bool t, .slice B m d]] w (GivesZF w (intZ s xs + intZ t ys) (max n m + 1)) := by
  have Cm := Lib.hid (fun W (h : Below w.heap.size w W) => r1add A B n m c d xs ys W (hx.bel h) (hy.bel h) (by omega) (by omega))
  have Cz := Lib.hid (fun (neg : Bool) A' n' c' zs W h h1 h2 h3 => r2normF neg A' n' c' zs W h h1 h2 h3)
  have b1 : Below w.heap.size w (w.alloc (.cells #[.bool s, .slice A n c] 32)) := (Below.refl _ _).alloc (Nat.le_refl _) _
  have b2 : Below w.heap.size w ((w.alloc (.cells #[.bool s, .slice A n c] 32)).alloc (.cells #[.bool t, .slice B m d] 32)) := b1.alloc (by simp) _
  have da := ((Duo.new w (.bool s) (.slice A n c)).bel ((Below.refl _ _).alloc (Nat.le_refl _) (.cells #[.bool t, .slice B m d] 32))).bel ((Below.refl _ _).alloc (Nat.le_refl _) (.cells #[.bool false, .slice none 0 0] 32))
  have db := (Duo.new (w.alloc (.cells #[.bool s, .slice A n c] 32)) (.bool t) (.slice B m d)).bel ((Below.refl _ _).alloc (Nat.le_refl _) (.cells #[.bool false, .slice none 0 0] 32))
  have dr := Duo.new ((w.alloc (.cells #[.bool s, .slice A n c] 32)).alloc (.cells #[.bool t, .slice B m d] 32)) (.bool false) (.slice none 0 0)
  rw [World.size_alloc] at db
  rw [World.size_alloc, World.size_alloc] at dr
  have b3 : Below w.heap.size w (((w.alloc (.cells #[.bool s, .slice A n c] 32)).alloc (.cells #[.bool t, .slice B m d] 32)).alloc (.cells #[.bool false, .slice none 0 0] 32)) := b2.alloc (by simp; omega) _
  go_enter Tryz.func58, Tryz.ntmps58
  go_wp2_with fail
  have Da := Lib.hid da
  have Db := Lib.hid db
  have Dr := Lib.hid dr
  have hsz : (((w.alloc (.cells #[.bool s, .slice A n c] 32)).alloc (.cells #[.bool t, .slice B m d] 32)).alloc (.cells #[.bool false, .slice none 0 0] 32)).heap.size = w.heap.size + 1 + 1 + 1 := by simp
  clear da db dr b1 b2 hx hy
  generalize ((w.alloc (.cells #[.bool s, .slice A n c] 32)).alloc (.cells #[.bool t, .slice B m d] 32)).alloc (.cells #[.bool false, .slice none 0 0] 32) = wt at *
  have a0 := Da.out.cell0
  have a1 := Da.out.cell1
  have e0 := Db.out.cell0
  have e1 := Db.out.cell1
  have r0 := Dr.out.cell0
  have r1 := Dr.out.cell1
  have f0 := Dr.out.frozen 0
  have f1 := Dr.out.frozen 1
  have la : w.heap.size < wt.heap.size := by omega
  have lb : w.heap.size + 1 < wt.heap.size := by omega
  have lr : w.heap.size + 1 + 1 < wt.heap.size := by omega
  have keep : Hid (∀ W, Below wt.heap.size wt W → W.cell? ⟨w.heap.size, 0, none⟩ = some (.bool s) ∧ W.cell? ⟨w.heap.size, 1, none⟩ = some (.slice A n c) ∧ W.cell? ⟨w.heap.size + 1, 0, none⟩ = some (.bool t) ∧ W.cell? ⟨w.heap.size + 1, 1, none⟩ = some (.slice B m d)) := fun W hW =>
    ⟨(hW.cell (p := ⟨w.heap.size, 0, none⟩) la).trans a0, (hW.cell (p := ⟨w.heap.size, 1, none⟩) la).trans a1, (hW.cell (p := ⟨w.heap.size + 1, 0, none⟩) lb).trans e0, (hW.cell (p := ⟨w.heap.size + 1, 1, none⟩) lb).trans e1⟩
  have res : Hid (∀ W, Below wt.heap.size wt W → W.cell? ⟨w.heap.size + 1 + 1, 0, none⟩ = some (.bool false) ∧ W.cell? ⟨w.heap.size + 1 + 1, 1, none⟩ = some (.slice none 0 0) ∧ W.frozen? ⟨w.heap.size + 1 + 1, 0, none⟩ = false ∧ W.frozen? ⟨w.heap.size + 1 + 1, 1, none⟩ = false) := fun W hW =>
    ⟨(hW.cell (p := ⟨w.heap.size + 1 + 1, 0, none⟩) lr).trans r0, (hW.cell (p := ⟨w.heap.size + 1 + 1, 1, none⟩) lr).trans r1, (Dr.out.bel hW).frozen 0, (Dr.out.bel hW).frozen 1⟩
  clear r0 r1 f0 f1
  go_wp2_with fail
  have ne1 : w.heap.size + 1 + 1 ≠ w.heap.size := by omega
  have ne2 : w.heap.size + 1 + 1 ≠ w.heap.size + 1 := by omega
  have le1 : w.heap.size ≤ w.heap.size + 1 + 1 := by omega
  have lr' : w.heap.size ≤ wt.heap.size := by omega
  clear hsz
  generalize w.heap.size + 1 + 1 = gr at *
  generalize w.heap.size + 1 = gb at *
  have keep3 : ∀ (W : World) (u v : Value), (W.cell? ⟨w.heap.size, 0, none⟩ = some (.bool s) ∧ W.cell? ⟨w.heap.size, 1, none⟩ = some (.slice A n c) ∧ W.cell? ⟨gb, 0, none⟩ = some (.bool t) ∧ W.cell? ⟨gb, 1, none⟩ = some (.slice B m d)) → (((W.setCell ⟨gr, 0, none⟩ u).setCell ⟨gr, 1, none⟩ v).cell? ⟨w.heap.size, 0, none⟩ = some (.bool s) ∧ ((W.setCell ⟨gr, 0, none⟩ u).setCell ⟨gr, 1, none⟩ v).cell? ⟨w.heap.size, 1, none⟩ = some (.slice A n c) ∧ ((W.setCell ⟨gr, 0, none⟩ u).setCell ⟨gr, 1, none⟩ v).cell? ⟨gb, 0, none⟩ = some (.bool t) ∧ ((W.setCell ⟨gr, 0, none⟩ u).setCell ⟨gr, 1, none⟩ v).cell? ⟨gb, 1, none⟩ = some (.slice B m d)) := by
    rintro W u v ⟨k1, k2, k3, k4⟩
    refine ⟨?_, ?_, ?_, ?_⟩
    all_goals
      rw [World.cell?_setCell_other _ _ _ _ (fun e => by injection e with e1; first | exact ne1 e1.symm | exact ne2 e1.symm | exact ne1 e1 | exact ne2 e1), World.cell?_setCell_other _ _ _ _ (fun e => by injection e with e1; first | exact ne1 e1.symm | exact ne2 e1.symm | exact ne1 e1 | exact ne2 e1)]
      assumption
  go_region_held3 (fun W => W.cell? ⟨w.heap.size, 0, none⟩ = some (.bool s) ∧ W.cell? ⟨w.heap.size, 1, none⟩ = some (.slice A n c) ∧ W.cell? ⟨gb, 0, none⟩ = some (.bool t) ∧ W.cell? ⟨gb, 1, none⟩ = some (.slice B m d))
    (first | go_keep | exact keep.out _ (Below.refl _ _).drew | exact keep.out _ hbw1 | exact keep.out _ hbw2 | exact keep3 _ _ _ (keep.out _ hbw2))
    (first
      | (go_at_call 80; refine (Cm.out _ (by first | exact b3.drew | exact b3 | exact below_drewN b3 _)).mono ?_; rintro e w1 ⟨A1, k1, c1, zs, rfl, g4, g5, g3, g6, g1, g2, hbw1'⟩; have hbw1 : Below wt.heap.size wt w1 := (Below.refl _ _).drew.trans hbw1')
      | (go_at_call 59; refine (Cz.out s A1 k1 c1 zs w1 g6 g4 g5 (by have := g6.len; omega)).mono ?_; rintro e w2 ⟨s2, A2, k2, c2, ls, rfl, q1, q2, q3, q4, q5, qf, hbw2'⟩; have hbw2 : Below wt.heap.size wt w2 := hbw1.trans (hbw2'.mono hbw1.size); obtain ⟨r0, r1, f0, f1⟩ := res.out w2 hbw2))
  have Dr2 := Dr.out.bel hbw2
  have hb2 : Below w.heap.size w w2 := b3.trans (hbw2.mono (by omega))
  have hz : ZVal s2 ls (intZ s xs + intZ t ys) := by rw [← intZ_add_same hst g2]; exact q5
  have HF : Hid (0 < k2 → ∀ y, A2 = some y → w.heap.size ≤ y.block) := fun h0 y hy => Nat.le_trans (Nat.le_trans lr' hbw1.size) (qf h0 y hy)
  have hk2 : k2 ≤ max n m + 1 := by have := g6.len; omega
  have Hz := Lib.hid hz
  have HD := Lib.hid Dr2
  have Hq4 := Lib.hid q4
  clear hz Dr2 q4 q5 g6 keep qf
  go_wp2
  exact bodyPost_ret (results_cell_row (fn := Tryz.f58) rfl _ _ _ _ _ _ _ rfl (HD.out.set _ _) Tryz.underlying32 rfl aint_size) rfl
    ⟨s2, A2, k2, c2, ls, rfl, q1, q2, hk2, HD.out.limbs _ _ rfl rfl Hq4.out, Hz.out, HF.out, (hb2.setCell (p := ⟨gr, 0, none⟩) le1 _).setCell (p := ⟨gr, 1, none⟩) le1 _⟩
set_option maxRecDepth 100000 in
set_option maxHeartbeats 2000000 in
theorem r2add_geF (s t : Bool) (hst : (s == t) = false) (A B : Option Addr) (n m c d : Nat) (xs ys : List Int) (w : World) (hx : Limbs w A n xs) (hy : Limbs w B m ys) (hnc : n ≤ c) (hc : c ≤ 9223372036854775807) (hmd : m ≤ d) (hd : d ≤ 9223372036854775807) (hn : n ≤ 10000000) (hm : m ≤ 10000000) (hle : limbs ys ≤ limbs xs) :
    Calls Tryz.prog 58 #[.agg #[.bool s, .slice A n c], .agg #[.bool t, .slice B m d]] w (GivesZF w (intZ s xs + intZ t ys) (max n m + 1)) := by
  have Cs := Lib.hid (fun W (h : Below w.heap.size w W) => r1sub A B n m c d xs ys W (hx.bel h) (hy.bel h) (by omega) (by omega))
  have Cs2 := Lib.hid (fun W (h : Below w.heap.size w W) => r1sub B A m n d c ys xs W (hy.bel h) (hx.bel h) (by omega) (by omega))
  have Cz := Lib.hid (fun (neg : Bool) A' n' c' zs W h h1 h2 h3 => r2normF neg A' n' c' zs W h h1 h2 h3)
  have b1 : Below w.heap.size w (w.alloc (.cells #[.bool s, .slice A n c] 32)) := (Below.refl _ _).alloc (Nat.le_refl _) _
  have b2 : Below w.heap.size w ((w.alloc (.cells #[.bool s, .slice A n c] 32)).alloc (.cells #[.bool t, .slice B m d] 32)) := b1.alloc (by simp) _
  have da := ((Duo.new w (.bool s) (.slice A n c)).bel ((Below.refl _ _).alloc (Nat.le_refl _) (.cells #[.bool t, .slice B m d] 32))).bel ((Below.refl _ _).alloc (Nat.le_refl _) (.cells #[.bool false, .slice none 0 0] 32))
  have db := (Duo.new (w.alloc (.cells #[.bool s, .slice A n c] 32)) (.bool t) (.slice B m d)).bel ((Below.refl _ _).alloc (Nat.le_refl _) (.cells #[.bool false, .slice none 0 0] 32))
  have dr := Duo.new ((w.alloc (.cells #[.bool s, .slice A n c] 32)).alloc (.cells #[.bool t, .slice B m d] 32)) (.bool false) (.slice none 0 0)
  rw [World.size_alloc] at db
  rw [World.size_alloc, World.size_alloc] at dr
  have b3 : Below w.heap.size w (((w.alloc (.cells #[.bool s, .slice A n c] 32)).alloc (.cells #[.bool t, .slice B m d] 32)).alloc (.cells #[.bool false, .slice none 0 0] 32)) := b2.alloc (by simp; omega) _
  go_enter Tryz.func58, Tryz.ntmps58
  go_wp2_with fail
  have Da := Lib.hid da
  have Db := Lib.hid db
  have Dr := Lib.hid dr
  have hsz : (((w.alloc (.cells #[.bool s, .slice A n c] 32)).alloc (.cells #[.bool t, .slice B m d] 32)).alloc (.cells #[.bool false, .slice none 0 0] 32)).heap.size = w.heap.size + 1 + 1 + 1 := by simp
  clear da db dr b1 b2 hx hy
  generalize ((w.alloc (.cells #[.bool s, .slice A n c] 32)).alloc (.cells #[.bool t, .slice B m d] 32)).alloc (.cells #[.bool false, .slice none 0 0] 32) = wt at *
  have a0 := Da.out.cell0
  have a1 := Da.out.cell1
  have e0 := Db.out.cell0
  have e1 := Db.out.cell1
  have r0 := Dr.out.cell0
  have r1 := Dr.out.cell1
  have f0 := Dr.out.frozen 0
  have f1 := Dr.out.frozen 1
  have la : w.heap.size < wt.heap.size := by omega
  have lb : w.heap.size + 1 < wt.heap.size := by omega
  have lr : w.heap.size + 1 + 1 < wt.heap.size := by omega
  have keep : Hid (∀ W, Below wt.heap.size wt W → W.cell? ⟨w.heap.size, 0, none⟩ = some (.bool s) ∧ W.cell? ⟨w.heap.size, 1, none⟩ = some (.slice A n c) ∧ W.cell? ⟨w.heap.size + 1, 0, none⟩ = some (.bool t) ∧ W.cell? ⟨w.heap.size + 1, 1, none⟩ = some (.slice B m d)) := fun W hW =>
    ⟨(hW.cell (p := ⟨w.heap.size, 0, none⟩) la).trans a0, (hW.cell (p := ⟨w.heap.size, 1, none⟩) la).trans a1, (hW.cell (p := ⟨w.heap.size + 1, 0, none⟩) lb).trans e0, (hW.cell (p := ⟨w.heap.size + 1, 1, none⟩) lb).trans e1⟩
  have res : Hid (∀ W, Below wt.heap.size wt W → W.cell? ⟨w.heap.size + 1 + 1, 0, none⟩ = some (.bool false) ∧ W.cell? ⟨w.heap.size + 1 + 1, 1, none⟩ = some (.slice none 0 0) ∧ W.frozen? ⟨w.heap.size + 1 + 1, 0, none⟩ = false ∧ W.frozen? ⟨w.heap.size + 1 + 1, 1, none⟩ = false) := fun W hW =>
    ⟨(hW.cell (p := ⟨w.heap.size + 1 + 1, 0, none⟩) lr).trans r0, (hW.cell (p := ⟨w.heap.size + 1 + 1, 1, none⟩) lr).trans r1, (Dr.out.bel hW).frozen 0, (Dr.out.bel hW).frozen 1⟩
  clear r0 r1 f0 f1
  have ne1 : w.heap.size + 1 + 1 ≠ w.heap.size := by omega
  have ne2 : w.heap.size + 1 + 1 ≠ w.heap.size + 1 := by omega
  have le1 : w.heap.size ≤ w.heap.size + 1 + 1 := by omega
  have lr' : w.heap.size ≤ wt.heap.size := by omega
  clear hsz
  generalize w.heap.size + 1 + 1 = gr at *
  generalize w.heap.size + 1 = gb at *
  go_wp2_with fail
  refine (Cs.out _ (by exact b3)).mono ?_
  intro e w1 hsub
  obtain ⟨A1, k1, c1, zs, rfl, g4, g5, g3, g6, g1, g2, hbw1⟩ := hsub.yes hle
  obtain ⟨v1, v2, v3, v4⟩ := keep.out w1 hbw1
  clear a0 a1 e0 e1 hsub
  go_wp2_with fail
  refine (Cz.out s A1 k1 c1 zs w1 g6 g4 g5 (by have := g6.len; omega)).mono ?_
  rintro e w2 ⟨s2, A2, k2, c2, ls, rfl, q1, q2, q3, q4, q5, qf, hbw2'⟩
  have hbw2 : Below wt.heap.size wt w2 := hbw1.trans (hbw2'.mono hbw1.size)
  clear v1 v2 v3 v4
  have Dr2 := Dr.out.bel hbw2
  have hb2 : Below w.heap.size w w2 := b3.trans (hbw2.mono (by omega))
  have hz : ZVal s2 ls (intZ s xs + intZ t ys) := by rw [← intZ_add_diff hst g2 hle]; exact q5
  have HF : Hid (0 < k2 → ∀ y, A2 = some y → w.heap.size ≤ y.block) := fun h0 y hy => Nat.le_trans (Nat.le_trans lr' hbw1.size) (qf h0 y hy)
  have hk2 : k2 ≤ max n m + 1 := by have := g6.len; omega
  have Hz := Lib.hid hz
  have HD := Lib.hid Dr2
  have Hq4 := Lib.hid q4
  obtain ⟨r0, r1, f0, f1⟩ := res.out w2 hbw2
  clear hz Dr2 q4 q5 g6 keep qf
  go_wp2
  exact bodyPost_ret (results_cell_row (fn := Tryz.f58) rfl _ _ _ _ _ _ _ rfl (HD.out.set _ _) Tryz.underlying32 rfl aint_size) rfl
    ⟨s2, A2, k2, c2, ls, rfl, q1, q2, hk2, HD.out.limbs _ _ rfl rfl Hq4.out, Hz.out, HF.out, (hb2.setCell (p := ⟨gr, 0, none⟩) le1 _).setCell (p := ⟨gr, 1, none⟩) le1 _⟩
set_option maxRecDepth 100000 in
set_option maxHeartbeats 2000000 in
theorem r2add_ltF (s t : Bool) (hst : (s == t) = false) (A B : Option Addr) (n m c d : Nat) (xs ys : List Int) (w : World) (hx : Limbs w A n xs) (hy : Limbs w B m ys) (hnc : n ≤ c) (hc : c ≤ 9223372036854775807) (hmd : m ≤ d) (hd : d ≤ 9223372036854775807) (hn : n ≤ 10000000) (hm : m ≤ 10000000) (hle : ¬ limbs ys ≤ limbs xs) :
    Calls Tryz.prog 58 #[.agg #[.bool s, .slice A n c], .agg #[.bool t, .slice B m d]] w (GivesZF w (intZ s xs + intZ t ys) (max n m + 1)) := by
  have Cs := Lib.hid (fun W (h : Below w.heap.size w W) => r1sub A B n m c d xs ys W (hx.bel h) (hy.bel h) (by omega) (by omega))
  have Cs2 := Lib.hid (fun W (h : Below w.heap.size w W) => r1sub B A m n d c ys xs W (hy.bel h) (hx.bel h) (by omega) (by omega))
  have Cz := Lib.hid (fun (neg : Bool) A' n' c' zs W h h1 h2 h3 => r2normF neg A' n' c' zs W h h1 h2 h3)
  have b1 : Below w.heap.size w (w.alloc (.cells #[.bool s, .slice A n c] 32)) := (Below.refl _ _).alloc (Nat.le_refl _) _
  have b2 : Below w.heap.size w ((w.alloc (.cells #[.bool s, .slice A n c] 32)).alloc (.cells #[.bool t, .slice B m d] 32)) := b1.alloc (by simp) _
  have da := ((Duo.new w (.bool s) (.slice A n c)).bel ((Below.refl _ _).alloc (Nat.le_refl _) (.cells #[.bool t, .slice B m d] 32))).bel ((Below.refl _ _).alloc (Nat.le_refl _) (.cells #[.bool false, .slice none 0 0] 32))
  have db := (Duo.new (w.alloc (.cells #[.bool s, .slice A n c] 32)) (.bool t) (.slice B m d)).bel ((Below.refl _ _).alloc (Nat.le_refl _) (.cells #[.bool false, .slice none 0 0] 32))
  have dr := Duo.new ((w.alloc (.cells #[.bool s, .slice A n c] 32)).alloc (.cells #[.bool t, .slice B m d] 32)) (.bool false) (.slice none 0 0)
  rw [World.size_alloc] at db
  rw [World.size_alloc, World.size_alloc] at dr
  have b3 : Below w.heap.size w (((w.alloc (.cells #[.bool s, .slice A n c] 32)).alloc (.cells #[.bool t, .slice B m d] 32)).alloc (.cells #[.bool false, .slice none 0 0] 32)) := b2.alloc (by simp; omega) _
  go_enter Tryz.func58, Tryz.ntmps58
  go_wp2_with fail
  have Da := Lib.hid da
  have Db := Lib.hid db
  have Dr := Lib.hid dr
  have hsz : (((w.alloc (.cells #[.bool s, .slice A n c] 32)).alloc (.cells #[.bool t, .slice B m d] 32)).alloc (.cells #[.bool false, .slice none 0 0] 32)).heap.size = w.heap.size + 1 + 1 + 1 := by simp
  clear da db dr b1 b2 hx hy
  generalize ((w.alloc (.cells #[.bool s, .slice A n c] 32)).alloc (.cells #[.bool t, .slice B m d] 32)).alloc (.cells #[.bool false, .slice none 0 0] 32) = wt at *
  have a0 := Da.out.cell0
  have a1 := Da.out.cell1
  have e0 := Db.out.cell0
  have e1 := Db.out.cell1
  have r0 := Dr.out.cell0
  have r1 := Dr.out.cell1
  have f0 := Dr.out.frozen 0
  have f1 := Dr.out.frozen 1
  have la : w.heap.size < wt.heap.size := by omega
  have lb : w.heap.size + 1 < wt.heap.size := by omega
  have lr : w.heap.size + 1 + 1 < wt.heap.size := by omega
  have keep : Hid (∀ W, Below wt.heap.size wt W → W.cell? ⟨w.heap.size, 0, none⟩ = some (.bool s) ∧ W.cell? ⟨w.heap.size, 1, none⟩ = some (.slice A n c) ∧ W.cell? ⟨w.heap.size + 1, 0, none⟩ = some (.bool t) ∧ W.cell? ⟨w.heap.size + 1, 1, none⟩ = some (.slice B m d)) := fun W hW =>
    ⟨(hW.cell (p := ⟨w.heap.size, 0, none⟩) la).trans a0, (hW.cell (p := ⟨w.heap.size, 1, none⟩) la).trans a1, (hW.cell (p := ⟨w.heap.size + 1, 0, none⟩) lb).trans e0, (hW.cell (p := ⟨w.heap.size + 1, 1, none⟩) lb).trans e1⟩
  have res : Hid (∀ W, Below wt.heap.size wt W → W.cell? ⟨w.heap.size + 1 + 1, 0, none⟩ = some (.bool false) ∧ W.cell? ⟨w.heap.size + 1 + 1, 1, none⟩ = some (.slice none 0 0) ∧ W.frozen? ⟨w.heap.size + 1 + 1, 0, none⟩ = false ∧ W.frozen? ⟨w.heap.size + 1 + 1, 1, none⟩ = false) := fun W hW =>
    ⟨(hW.cell (p := ⟨w.heap.size + 1 + 1, 0, none⟩) lr).trans r0, (hW.cell (p := ⟨w.heap.size + 1 + 1, 1, none⟩) lr).trans r1, (Dr.out.bel hW).frozen 0, (Dr.out.bel hW).frozen 1⟩
  clear r0 r1 f0 f1
  have ne1 : w.heap.size + 1 + 1 ≠ w.heap.size := by omega
  have ne2 : w.heap.size + 1 + 1 ≠ w.heap.size + 1 := by omega
  have le1 : w.heap.size ≤ w.heap.size + 1 + 1 := by omega
  have lr' : w.heap.size ≤ wt.heap.size := by omega
  clear hsz
  generalize w.heap.size + 1 + 1 = gr at *
  generalize w.heap.size + 1 = gb at *
  go_wp2_with fail
  refine (Cs.out _ (by exact b3)).mono ?_
  intro e w0 hsub
  obtain ⟨rfl, hbw0⟩ := hsub.no hle
  obtain ⟨u1, u2, u3, u4⟩ := keep.out w0 hbw0
  clear a0 a1 e0 e1 hsub
  go_wp2_with fail
  refine (Cs2.out _ (b3.trans (hbw0.mono (by omega)))).mono ?_
  intro e w1 hsub
  obtain ⟨A1, k1, c1, zs, rfl, g4, g5, g3, g6, g1, g2, hbw1'⟩ := hsub.yes (by omega)
  have hbw1 : Below wt.heap.size wt w1 := hbw0.trans (hbw1'.mono hbw0.size)
  obtain ⟨v1, v2, v3, v4⟩ := keep.out w1 hbw1
  clear u1 u2 u3 u4 hsub
  go_wp2_with fail
  refine (Cz.out t A1 k1 c1 zs w1 g6 g4 g5 (by have := g6.len; omega)).mono ?_
  rintro e w2 ⟨s2, A2, k2, c2, ls, rfl, q1, q2, q3, q4, q5, qf, hbw2'⟩
  have hbw2 : Below wt.heap.size wt w2 := hbw1.trans (hbw2'.mono hbw1.size)
  clear v1 v2 v3 v4
  have Dr2 := Dr.out.bel hbw2
  have hb2 : Below w.heap.size w w2 := b3.trans (hbw2.mono (by omega))
  have hz : ZVal s2 ls (intZ s xs + intZ t ys) := by rw [Int.add_comm, ← intZ_add_diff (s := t) (t := s) (by cases s <;> cases t <;> simp_all) g2 (by omega)]; exact q5
  have HF : Hid (0 < k2 → ∀ y, A2 = some y → w.heap.size ≤ y.block) := fun h0 y hy => Nat.le_trans (Nat.le_trans lr' hbw1.size) (qf h0 y hy)
  have hk2 : k2 ≤ max n m + 1 := by have := g6.len; omega
  have Hz := Lib.hid hz
  have HD := Lib.hid Dr2
  have Hq4 := Lib.hid q4
  obtain ⟨r0, r1, f0, f1⟩ := res.out w2 hbw2
  clear hz Dr2 q4 q5 g6 keep qf
  go_wp2
  exact bodyPost_ret (results_cell_row (fn := Tryz.f58) rfl _ _ _ _ _ _ _ rfl (HD.out.set _ _) Tryz.underlying32 rfl aint_size) rfl
    ⟨s2, A2, k2, c2, ls, rfl, q1, q2, hk2, HD.out.limbs _ _ rfl rfl Hq4.out, Hz.out, HF.out, (hb2.setCell (p := ⟨gr, 0, none⟩) le1 _).setCell (p := ⟨gr, 1, none⟩) le1 _⟩
theorem r2addF (s t : Bool) (A B : Option Addr) (n m c d : Nat) (xs ys : List Int) (w : World) (hx : Limbs w A n xs) (hy : Limbs w B m ys) (hnc : n ≤ c) (hc : c ≤ 9223372036854775807) (hmd : m ≤ d) (hd : d ≤ 9223372036854775807) (hn : n ≤ 10000000) (hm : m ≤ 10000000) :
    Calls Tryz.prog 58 #[.agg #[.bool s, .slice A n c], .agg #[.bool t, .slice B m d]] w (GivesZF w (intZ s xs + intZ t ys) (max n m + 1)) := by
  by_cases hst : (s == t) = true
  · exact r2add_sameF s t hst A B n m c d xs ys w hx hy hnc hc hmd hd hn hm
  · have hst' : (s == t) = false := by simpa using hst
    by_cases hle : limbs ys ≤ limbs xs
    · exact r2add_geF s t hst' A B n m c d xs ys w hx hy hnc hc hmd hd hn hm hle
    · exact r2add_ltF s t hst' A B n m c d xs ys w hx hy hnc hc hmd hd hn hm hle
end Go.Proofs.YtjmbejodcloapaaGreat
