/- Contracts: the document's integers once more: made plain, multiplied: the result lies in new memory.
   Contracts: the document's quotients once more: the quotient lies in new memory. -/
import Derived.Test.YtjmbejodcloapaaGreatPRzs
import Derived.Test.YtjmbejodcloapaaGreatPDvZin
set_option linter.unusedVariables false
set_option linter.unusedSimpArgs false
namespace Go.Proofs.YtjmbejodcloapaaGreat
open Go.RowKit Cl
attribute [local go_sem ↓] Go.wp_at_zero Go.wp_at_succ
def GivesNF (w : World) (v K : Nat) (e : Ending) (w' : World) : Prop :=
  ∃ A k c ls, e = .returned (.slice A k c) ∧ k ≤ c ∧ c ≤ 9223372036854775807 ∧ k ≤ K ∧ Limbs w' A k ls ∧ PlainL ls ∧ limbs ls = v ∧ (0 < k → ∀ y, A = some y → w.heap.size ≤ y.block) ∧ Below w.heap.size w w'
set_option maxRecDepth 100000 in
set_option maxHeartbeats 1000000 in
theorem r1normF (A : Option Addr) (n c : Nat) (xs : List Int) (w : World) (hx : Limbs w A n xs) (hn : n ≤ c) (hc : c ≤ 9223372036854775807) (hn8 : n ≤ 1000000000) :
    Calls Tryz.prog 82 #[.slice A n c] w (GivesNF w (limbs xs) n) := by
  obtain ⟨i0, hi, hz0, hz1, hz2⟩ := info_parts uint_info
  have Hpl := Lib.hid (plainL_take hx.ok hx.len)
  have Hr := Lib.hid (fun m (h : m ≤ n) => (hx.take h).reads)
  have Hk := Lib.hid (fun m (h : m ≤ n) => (hx.take h).len)
  have Hok := Lib.hid (fun m (h : m ≤ n) => (hx.take h).ok)
  go_enter Tryz.func82, Tryz.ntmps82
  obtain ⟨wo, rfl⟩ : ∃ wo : World, wo = w := ⟨_, rfl⟩
  go_wp2
  go_loopg [3] (n + 1) (fun gk s wr => ∃ m : Nat, m ≤ n ∧ m < gk ∧ s = .int .i64 m ∧ Hid (lmN xs n = lmN xs m) ∧ wr = wo)
  case atStart => exact ⟨n, by omega, by omega, rfl, rfl, rfl⟩
  case round =>
    obtain ⟨m, hm, hgk, rfl, hpl, rfl⟩ := hrel
    have fin : ∀ (q : Nat) (v' : Value) (w1 : World), q ≤ n → lmN xs n = q → w1.ownsRow wr.heap.size 81 1 v' (0 + q) ([] ++ lmbs (xs.take q)) → (wr.alloc (.cells #[] 81)).grownBy w1 (some wr.heap.size) → GivesNF wr (limbs xs) n (.returned v') w1 := fun q v' w1 hq he hown hg => by
      subst he
      rw [Nat.zero_add, List.nil_append] at hown
      obtain ⟨A', c', rfl⟩ := own_slice hown
      obtain ⟨k1, k2⟩ := own_caps hown
      have hb : Below wr.heap.size wr w1 := ((Below.refl _ wr).alloc (Nat.le_refl _) _).grown hg (by simp) (fun k hk => by injection hk; omega)
      exact ⟨A', _, c', _, rfl, k1, k2, hq, Limbs.of_own hown (Hok.out _ hq), Hpl.out.1, Hpl.out.2, fun _ y hy => (hown.lt y.block (by subst hy; rfl)).1, hb⟩
    have Fin := Lib.hid fin
    clear fin
    cases m with
    | zero =>
      have Hfin : Hid (lmN xs n = 0) := hpl.out
      have hr0 := Lib.hid (Hr.out 0 (by omega))
      clear hx
      go_wp2_with (at_builtin; refine wpList_append_any (w := wr.alloc (.cells #[] 81)) rfl _ _ 30 rfl wr.heap.size 81 i0 (.int .u64 0) 1 8 Tryz.underlying30 hi hz0 hz1 hz2 rfl (by decide) _ 0 [] rfl (own_empty wr 81 (Nat.le_refl _)) wr.heap.size A 0 c (lmbs (xs.take 0)) rfl (hr0.out.alloc (Nat.le_refl _) _) (lmbs_oneCell _) (by unfold maxLen; omega) (by omega) (by simp) ?_; intro v' w1 hown hgrow hat)
      go_wp2
      go_ret
      exact Fin.out 0 _ _ (by omega) Hfin.out hown hgrow
    | succ m =>
      obtain ⟨b, o, rfl, hb, hc'⟩ := hx.at_ (by omega)
      have hcy := hc' m (by omega)
      clear hc'
      have hmc : m ≤ c := by omega
      have hmc' : (m : Int) + 1 ≤ (c : Int) := by omega
      have hmp : (0 : Int) < (m : Int) + 1 := by omega
      by_cases hz : nth xs m = 0
      · rw [hz] at hcy
        have Hz := Lib.hid hz
        clear hz
        go_wp2
        go_roundg (gk - 1)
        case measure => omega
        case rel => exact ⟨m, by omega, by omega, by go_num, by show _ = _; rw [hpl.out]; exact plen_drop Hz.out, rfl⟩
      · have hz' : (nth xs m == 0) = false := beq_eq_false_iff_ne.2 hz
        have Hfin : Hid (lmN xs n = m + 1) := hpl.out.trans (plen_stop hz)
        have hr0 := Lib.hid (Hr.out (m + 1) (by omega))
        clear hz
        go_wp2_with (at_builtin; refine wpList_append_any (w := wr.alloc (.cells #[] 81)) rfl _ _ 30 rfl wr.heap.size 81 i0 (.int .u64 0) 1 8 Tryz.underlying30 hi hz0 hz1 hz2 rfl (by decide) _ 0 [] rfl (own_empty wr 81 (Nat.le_refl _)) wr.heap.size (some ⟨b, o, none⟩) (m + 1) c (lmbs (xs.take (m + 1))) rfl (hr0.out.alloc (Nat.le_refl _) _) (lmbs_oneCell _) (by unfold maxLen; omega) (by omega) (by simp) ?_; intro v' w1 hown hgrow hat)
        go_wp2
        go_ret
        exact Fin.out (m + 1) _ _ (by omega) Hfin.out hown hgrow
set_option maxRecDepth 100000 in
set_option maxHeartbeats 1000000 in
theorem r2normF (s : Bool) (A : Option Addr) (n c : Nat) (xs : List Int) (w : World) (hx : Limbs w A n xs) (hn : n ≤ c) (hc : c ≤ 9223372036854775807) (hn8 : n ≤ 100000000) :
    Calls Tryz.prog 59 #[.agg #[.bool s, .slice A n c]] w (GivesZF w (intZ s xs) n) := by
  have Cn := Lib.hid (fun W (h : Below w.heap.size w W) => r1normF A n c xs W (hx.bel h) hn hc (by omega))
  have hd0 := (Duo.new w (.bool s) (.slice A n c)).bel ((Below.refl _ _).alloc (Nat.le_refl _) (.cells #[.bool false, .slice none 0 0] 32))
  have hd := Duo.new (w.alloc (.cells #[.bool s, .slice A n c] 32)) (.bool false) (.slice none 0 0)
  rw [World.size_alloc] at hd
  have c0 := hd0.cell0
  have c1 := hd0.cell1
  have Hd := Lib.hid hd
  have Hd0 := Lib.hid hd0
  clear hd hd0 hx
  go_enter Tryz.func59, Tryz.ntmps59
  go_wp2_with fail
  refine (Cn.out _ (by exact ((Below.refl _ _).alloc (Nat.le_refl _) _).alloc (by simp) _)).mono ?_
  rintro e w1 ⟨A1, k1, c1', l1, rfl, h1, h2, h3, h4, h5, h6, hf, h7⟩
  have hd1 := Hd.out.bel h7
  have hd2 := Hd0.out.bel h7
  have k0 := hd1.cell0
  have k1' := hd1.cell1
  have f0 := hd1.frozen 0
  have f1 := hd1.frozen 1
  have c0' := hd2.cell0
  have c1'' := hd2.cell1
  have hb : Below w.heap.size w w1 := (((Below.refl _ w).alloc (Nat.le_refl _) _).alloc (by simp) _).trans (h7.mono (by simp; omega))
  have Hd1 := Lib.hid hd1
  have hz := zval_of (neg := s) h5 h6 h4.len
  have hfr : 0 < k1 → ∀ y, A1 = some y → w.heap.size ≤ y.block := fun h0 y hy => by have := hf h0 y hy; simp at this; omega
  have Fin : Hid (∀ b : Bool, b = (s && decide (0 < (k1 : Int))) → GivesZF w (intZ s xs) n (.returned (.agg #[.bool b, .slice A1 k1 c1'])) ((w1.setCell ⟨w.heap.size + 1, 0, none⟩ (.bool b)).setCell ⟨w.heap.size + 1, 1, none⟩ (.slice A1 k1 c1'))) := fun b hbe => by
    subst hbe
    exact ⟨_, A1, k1, c1', l1, rfl, h1, h2, h3, hd1.limbs _ _ rfl rfl h4, hz, hfr, (hb.setCell (p := ⟨w.heap.size + 1, 0, none⟩) (by simp) _).setCell (p := ⟨w.heap.size + 1, 1, none⟩) (by simp) _⟩
  clear hd1 hd2 h4 h5 h6 h7 hz hb hf hfr
  cases s with
  | false =>
    go_wp2
    exact bodyPost_ret (results_cell_row (fn := Tryz.f59) rfl _ _ _ _ _ _ _ rfl (Hd1.out.set _ _) Tryz.underlying32 rfl aint_size) rfl (Fin.out _ rfl)
  | true =>
    go_wp2
    exact bodyPost_ret (results_cell_row (fn := Tryz.f59) rfl _ _ _ _ _ _ _ rfl (Hd1.out.set _ _) Tryz.underlying32 rfl aint_size) rfl (Fin.out _ (by simp))
set_option maxRecDepth 100000 in
set_option maxHeartbeats 2000000 in
theorem r2mulF (s t : Bool) (A B : Option Addr) (n m c d : Nat) (xs ys : List Int) (w : World) (hx : Limbs w A n xs) (hy : Limbs w B m ys) (hnc : n ≤ c) (hc : c ≤ 9223372036854775807) (hmd : m ≤ d) (hd : d ≤ 9223372036854775807) (hn : n ≤ 10000000) (hm : m ≤ 10000000) :
    Calls Tryz.prog 40 #[.agg #[.bool s, .slice A n c], .agg #[.bool t, .slice B m d]] w (GivesZF w (intZ s xs * intZ t ys) (n + m)) := by
  have Cm := Lib.hid (fun W (h : Below w.heap.size w W) => r1mul A B n m c d xs ys W (hx.bel h) (hy.bel h) (by omega) (by omega))
  have Cz := Lib.hid (fun (neg : Bool) A' n' c' zs W h h1 h2 h3 => r2normF neg A' n' c' zs W h h1 h2 h3)
  have b1 : Below w.heap.size w (w.alloc (.cells #[.bool s, .slice A n c] 32)) := (Below.refl _ _).alloc (Nat.le_refl _) _
  have b2 : Below w.heap.size w ((w.alloc (.cells #[.bool s, .slice A n c] 32)).alloc (.cells #[.bool t, .slice B m d] 32)) := b1.alloc (by simp) _
  have da := ((Duo.new w (.bool s) (.slice A n c)).bel ((Below.refl _ _).alloc (Nat.le_refl _) (.cells #[.bool t, .slice B m d] 32))).bel ((Below.refl _ _).alloc (Nat.le_refl _) (.cells #[.bool false, .slice none 0 0] 32))
  have db := (Duo.new (w.alloc (.cells #[.bool s, .slice A n c] 32)) (.bool t) (.slice B m d)).bel ((Below.refl _ _).alloc (Nat.le_refl _) (.cells #[.bool false, .slice none 0 0] 32))
  have dr := Duo.new ((w.alloc (.cells #[.bool s, .slice A n c] 32)).alloc (.cells #[.bool t, .slice B m d] 32)) (.bool false) (.slice none 0 0)
  rw [World.size_alloc] at db
  rw [World.size_alloc, World.size_alloc] at dr
  have b3 : Below w.heap.size w (((w.alloc (.cells #[.bool s, .slice A n c] 32)).alloc (.cells #[.bool t, .slice B m d] 32)).alloc (.cells #[.bool false, .slice none 0 0] 32)) := b2.alloc (by simp; omega) _
  go_enter Tryz.func40, Tryz.ntmps40
  go_wp2_with fail
  have Da := Lib.hid da
  have Db := Lib.hid db
  have Dr := Lib.hid dr
  have hsz : (((w.alloc (.cells #[.bool s, .slice A n c] 32)).alloc (.cells #[.bool t, .slice B m d] 32)).alloc (.cells #[.bool false, .slice none 0 0] 32)).heap.size = w.heap.size + 1 + 1 + 1 := by simp
  clear da db dr b1 b2 hx hy
  generalize ((w.alloc (.cells #[.bool s, .slice A n c] 32)).alloc (.cells #[.bool t, .slice B m d] 32)).alloc (.cells #[.bool false, .slice none 0 0] 32) = wt at *
  have a0 := Da.out.cell0
  have a1 := Da.out.cell1
  have e0 := Db.out.cell0
  have e1 := Db.out.cell1
  have r0 := Dr.out.cell0
  have r1 := Dr.out.cell1
  have f0 := Dr.out.frozen 0
  have f1 := Dr.out.frozen 1
  have la : w.heap.size < wt.heap.size := by omega
  have lb : w.heap.size + 1 < wt.heap.size := by omega
  have lr : w.heap.size + 1 + 1 < wt.heap.size := by omega
  have keep : Hid (∀ W, Below wt.heap.size wt W → W.cell? ⟨w.heap.size, 0, none⟩ = some (.bool s) ∧ W.cell? ⟨w.heap.size, 1, none⟩ = some (.slice A n c) ∧ W.cell? ⟨w.heap.size + 1, 0, none⟩ = some (.bool t) ∧ W.cell? ⟨w.heap.size + 1, 1, none⟩ = some (.slice B m d)) := fun W hW =>
    ⟨(hW.cell (p := ⟨w.heap.size, 0, none⟩) la).trans a0, (hW.cell (p := ⟨w.heap.size, 1, none⟩) la).trans a1, (hW.cell (p := ⟨w.heap.size + 1, 0, none⟩) lb).trans e0, (hW.cell (p := ⟨w.heap.size + 1, 1, none⟩) lb).trans e1⟩
  have res : Hid (∀ W, Below wt.heap.size wt W → W.cell? ⟨w.heap.size + 1 + 1, 0, none⟩ = some (.bool false) ∧ W.cell? ⟨w.heap.size + 1 + 1, 1, none⟩ = some (.slice none 0 0) ∧ W.frozen? ⟨w.heap.size + 1 + 1, 0, none⟩ = false ∧ W.frozen? ⟨w.heap.size + 1 + 1, 1, none⟩ = false) := fun W hW =>
    ⟨(hW.cell (p := ⟨w.heap.size + 1 + 1, 0, none⟩) lr).trans r0, (hW.cell (p := ⟨w.heap.size + 1 + 1, 1, none⟩) lr).trans r1, (Dr.out.bel hW).frozen 0, (Dr.out.bel hW).frozen 1⟩
  clear r0 r1 f0 f1
  have ne1 : w.heap.size + 1 + 1 ≠ w.heap.size := by omega
  have ne2 : w.heap.size + 1 + 1 ≠ w.heap.size + 1 := by omega
  have le1 : w.heap.size ≤ w.heap.size + 1 + 1 := by omega
  have lr' : w.heap.size ≤ wt.heap.size := by omega
  clear hsz
  generalize w.heap.size + 1 + 1 = gr at *
  generalize w.heap.size + 1 = gb at *
  have keep3 : ∀ (W : World) (u v : Value), (W.cell? ⟨w.heap.size, 0, none⟩ = some (.bool s) ∧ W.cell? ⟨w.heap.size, 1, none⟩ = some (.slice A n c) ∧ W.cell? ⟨gb, 0, none⟩ = some (.bool t) ∧ W.cell? ⟨gb, 1, none⟩ = some (.slice B m d)) → (((W.setCell ⟨gr, 0, none⟩ u).setCell ⟨gr, 1, none⟩ v).cell? ⟨w.heap.size, 0, none⟩ = some (.bool s) ∧ ((W.setCell ⟨gr, 0, none⟩ u).setCell ⟨gr, 1, none⟩ v).cell? ⟨w.heap.size, 1, none⟩ = some (.slice A n c) ∧ ((W.setCell ⟨gr, 0, none⟩ u).setCell ⟨gr, 1, none⟩ v).cell? ⟨gb, 0, none⟩ = some (.bool t) ∧ ((W.setCell ⟨gr, 0, none⟩ u).setCell ⟨gr, 1, none⟩ v).cell? ⟨gb, 1, none⟩ = some (.slice B m d)) := by
    rintro W u v ⟨k1, k2, k3, k4⟩
    refine ⟨?_, ?_, ?_, ?_⟩
    all_goals
      rw [World.cell?_setCell_other _ _ _ _ (fun e => by injection e with e1; first | exact ne1 e1.symm | exact ne2 e1.symm | exact ne1 e1 | exact ne2 e1), World.cell?_setCell_other _ _ _ _ (fun e => by injection e with e1; first | exact ne1 e1.symm | exact ne2 e1.symm | exact ne1 e1 | exact ne2 e1)]
      assumption
  go_region_held3 (fun W => W.cell? ⟨w.heap.size, 0, none⟩ = some (.bool s) ∧ W.cell? ⟨w.heap.size, 1, none⟩ = some (.slice A n c) ∧ W.cell? ⟨gb, 0, none⟩ = some (.bool t) ∧ W.cell? ⟨gb, 1, none⟩ = some (.slice B m d))
    (first | go_keep | exact keep.out _ (Below.refl _ _).drew | exact keep.out _ hbw1 | exact keep.out _ hbw2 | exact keep3 _ _ _ (keep.out _ hbw2))
    (first
      | (go_at_call 65; refine (Cm.out _ (by first | exact b3.drew | exact b3 | exact below_drewN b3 _)).mono ?_; rintro e w1 ⟨A1, k1, c1, zs, rfl, g4, g5, g3, g6, g1, g2, hbw1'⟩; have hbw1 : Below wt.heap.size wt w1 := (Below.refl _ _).drew.trans hbw1')
      | (go_at_call 59; refine (Cz.out (s != t) A1 k1 c1 zs w1 g6 g4 g5 (by have := g6.len; omega)).mono ?_; rintro e w2 ⟨s2, A2, k2, c2, ls, rfl, q1, q2, q3, q4, q5, qf, hbw2'⟩; have hbw2 : Below wt.heap.size wt w2 := hbw1.trans (hbw2'.mono hbw1.size); obtain ⟨r0, r1, f0, f1⟩ := res.out w2 hbw2))
  have Dr2 := Dr.out.bel hbw2
  have hb2 : Below w.heap.size w w2 := b3.trans (hbw2.mono (by omega))
  have hz : ZVal s2 ls (intZ s xs * intZ t ys) := by rw [← intZ_mul g2]; exact q5
  have HF : Hid (0 < k2 → ∀ y, A2 = some y → w.heap.size ≤ y.block) := fun h0 y hy => Nat.le_trans (Nat.le_trans lr' hbw1.size) (qf h0 y hy)
  have hk2 : k2 ≤ n + m := by have := g6.len; omega
  have Hz := Lib.hid hz
  have HD := Lib.hid Dr2
  have Hq4 := Lib.hid q4
  clear hz Dr2 q4 q5 g6 keep qf
  go_wp2
  exact bodyPost_ret (results_cell_row (fn := Tryz.f40) rfl _ _ _ _ _ _ _ rfl (HD.out.set _ _) Tryz.underlying32 rfl aint_size) rfl
    ⟨s2, A2, k2, c2, ls, rfl, q1, q2, hk2, HD.out.limbs _ _ rfl rfl Hq4.out, Hz.out, HF.out, (hb2.setCell (p := ⟨gr, 0, none⟩) le1 _).setCell (p := ⟨gr, 1, none⟩) le1 _⟩
end Go.Proofs.YtjmbejodcloapaaGreat
namespace Go.Proofs.YtjmbejodcloapaaGreat
open Go.RowKit Cl
attribute [local go_sem ↓] Go.wp_at_zero Go.wp_at_succ
theorem sgn_zeroF (z : Int) : sgn z = 0 ↔ z = 0 := by unfold sgn; split <;> (try split) <;> omega
def RDivZF (w : World) (K : Nat) (a b : Int) (e : Ending) (w' : World) : Prop :=
  ∃ s1 A1 k1 c1 l1 s2 A2 k2 c2 l2, e = .returned (.tuple #[.agg #[.bool s1, .slice A1 k1 c1], .agg #[.bool s2, .slice A2 k2 c2], .int .i64 0]) ∧ k1 ≤ K ∧ k2 ≤ K ∧ k1 ≤ c1 ∧ c1 ≤ 9223372036854775807 ∧ k2 ≤ c2 ∧ c2 ≤ 9223372036854775807 ∧ Limbs w' A1 k1 l1 ∧ Limbs w' A2 k2 l2 ∧ ZVal s1 l1 (a / b) ∧ ZVal s2 l2 (a % b) ∧ (0 < k1 → ∀ y, A1 = some y → w.heap.size ≤ y.block) ∧ Below w.heap.size w w'
set_option maxRecDepth 100000 in
set_option maxHeartbeats 4000000 in
theorem r2div00F (A B : Option Addr) (n m c d : Nat) (xs ys : List Int) (w : World) (hx : Limbs w A n xs) (hy : Limbs w B m ys) (hnc : n ≤ c) (hc : c ≤ 9223372036854775807) (hmd : m ≤ d) (hd : d ≤ 9223372036854775807) (hn : n ≤ 1000000) (hm : m ≤ 1000000) (h0 : 0 < limbs ys) :
    Calls Tryz.prog 75 #[.agg #[.bool false, .slice A n c], .agg #[.bool false, .slice B m d]] w (RDivZF w (n + m + 10) (intZ false xs) (intZ false ys)) := by
  have Cd := Lib.hid (fun W (h : Below w.heap.size w W) => r1div A B n m c d xs ys W (hx.bel h) (hy.bel h) (by omega) (by omega) h0)
  obtain ⟨da, db, dq, dr, b4⟩ := duo4 w (.bool false) (.slice A n c) (.bool false) (.slice B m d) (.bool false) (.slice none 0 0) (.bool false) (.slice none 0 0)
  go_enter Tryz.func75, Tryz.ntmps75
  go_wp2_with fail
  have Da := Lib.hid da
  have Db := Lib.hid db
  have Dq := Lib.hid dq
  have Dr := Lib.hid dr
  have a1 := da.cell1
  have e1 := db.cell1
  have Hy := Lib.hid (hy.bel b4)
  clear da db dq dr hx hy
  generalize (((w.alloc (.cells #[.bool false, .slice A n c] 32)).alloc (.cells #[.bool false, .slice B m d] 32)).alloc (.cells #[.bool false, .slice none 0 0] 32)).alloc (.cells #[.bool false, .slice none 0 0] 32) = wt at *
  go_wp2_with fail
  refine (Cd.out _ (by exact b4)).mono ?_
  rintro e w1 ⟨A1, k1, c1, qs, A2, k2, c2, rs, rfl, g5, g6, g7, g11, g1, g3, g8, g9, g10, g12, g2, g4, hbw1⟩
  have q0 := (Da.out.bel hbw1).cell0
  have q1 := (Db.out.bel hbw1).cell0
  have q2 := (Db.out.bel hbw1).cell1
  have H5 := Lib.hid g11
  have H6 := Lib.hid g12
  have Hy1 := Lib.hid (Hy.out.bel hbw1)
  clear g11 g12 a1 e1
  go_wp2_with fail
  refine (r2normF false A1 k1 c1 qs w1 H5.out (by omega) (by omega) (by omega)).mono ?_
  rintro e w7 ⟨s7, A7, k7, c7, ls, rfl, m1, m2, m3, m4, m5, mf, hbw7⟩
  have HF : Hid (0 < k7 → ∀ y, A7 = some y → w.heap.size ≤ y.block) := fun h0 y hy => Nat.le_trans (Nat.le_trans b4.size hbw1.size) (mf h0 y hy)
  clear mf
  clear q0 q1 q2
  go_wp2_with fail
  refine (r2norm false A2 k2 c2 rs w7 (H6.out.bel hbw7) (by omega) (by omega) (by omega)).mono ?_
  rintro e w8 ⟨s8, A8, k8, c8, l8, rfl, p1, p2, p3, p4, p5, hbw8⟩
  have hb8 : Below wt.heap.size wt w8 := (hbw1.trans (hbw7.mono hbw1.size)).trans (hbw8.mono ((hbw1.trans (hbw7.mono hbw1.size)).size))
  have Dq3 := Dq.out.bel hb8
  have Dr3 := Dr.out.bel hb8
  have r0 := Dq3.cell0
  have r1 := Dq3.cell1
  have t0 := Dr3.cell0
  have t1 := Dr3.cell1
  have f0 := Dq3.frozen 0
  have f1 := Dq3.frozen 1
  have f2 := Dr3.frozen 0
  have f3 := Dr3.frozen 1
  have HL7 := Lib.hid (m4.bel hbw8)
  have HL8 := Lib.hid p4
  have ne1 : w.heap.size + 1 + 1 ≠ w.heap.size + 1 + 1 + 1 := by omega
  have ne2 : w.heap.size + 1 + 1 + 1 ≠ w.heap.size + 1 + 1 := by omega
  have le1 : w.heap.size ≤ w.heap.size + 1 + 1 := by omega
  have le2 : w.heap.size ≤ w.heap.size + 1 + 1 + 1 := by omega
  have Hb : Hid (Below w.heap.size w w8) := b4.trans (hb8.mono b4.size)
  have Hz : Hid (ZVal s7 ls (intZ false xs / intZ false ys)) := by
    have h := m5
    have e : intZ false qs = intZ false xs / intZ false ys := ((zdiv_pos false g3 g4 h0).1)
    rw [e] at h
    exact h
  have Hz8 : Hid (ZVal s8 l8 (intZ false xs % intZ false ys)) := by
    have h := p5
    have e : intZ false rs = intZ false xs % intZ false ys := ((zdiv_pos false g3 g4 h0).2)
    rw [e] at h
    exact h
  have HQ := Lib.hid Dq3
  have HR := Lib.hid Dr3
  have hk7 : k7 ≤ n + m + 10 := by omega
  have hk8 : k8 ≤ n + m + 10 := by omega
  clear Dq3 Dr3 m4 m5 p4 p5 hb8 hbw1 hbw7 hbw8 b4 Cd g1 g2 g3 g4
  generalize w.heap.size + 1 + 1 + 1 = gr at *
  generalize w.heap.size + 1 + 1 = gq at *
  go_wp2_with fail
  have X1 := (HR.out.other ⟨gq, 0, none⟩ ne1 (.bool s7)).other ⟨gq, 1, none⟩ ne1 (.slice A7 k7 c7)
  have X2 := ((HQ.out.set (.bool s7) (.slice A7 k7 c7)).other ⟨gr, 0, none⟩ ne2 (.bool s8)).other ⟨gr, 1, none⟩ ne2 (.slice A8 k8 c8)
  refine bodyPost_ret (results_cell2_tmp (fn := Tryz.f75) rfl _ _ _ _ _ _ _ _ _ _ _ _ rfl X2 rfl (X1.set _ _) Tryz.underlying32 rfl aint_size Tryz.underlying32 rfl aint_size) rfl ?_
  exact ⟨s7, A7, k7, c7, ls, s8, A8, k8, c8, l8, rfl, hk7, hk8, m1, m2, p1, p2, X1.limbs _ _ rfl rfl (HQ.out.limbs _ _ rfl rfl HL7.out), X1.limbs _ _ rfl rfl (HQ.out.limbs _ _ rfl rfl HL8.out), Hz.out, Hz8.out, HF.out, (((Hb.out.setCell (p := ⟨gq, 0, none⟩) le1 _).setCell (p := ⟨gq, 1, none⟩) le1 _).setCell (p := ⟨gr, 0, none⟩) le2 _).setCell (p := ⟨gr, 1, none⟩) le2 _⟩
set_option maxRecDepth 100000 in
set_option maxHeartbeats 4000000 in
theorem r2div01F (A B : Option Addr) (n m c d : Nat) (xs ys : List Int) (w : World) (hx : Limbs w A n xs) (hy : Limbs w B m ys) (hnc : n ≤ c) (hc : c ≤ 9223372036854775807) (hmd : m ≤ d) (hd : d ≤ 9223372036854775807) (hn : n ≤ 1000000) (hm : m ≤ 1000000) (h0 : 0 < limbs ys) :
    Calls Tryz.prog 75 #[.agg #[.bool false, .slice A n c], .agg #[.bool true, .slice B m d]] w (RDivZF w (n + m + 10) (intZ false xs) (intZ true ys)) := by
  have Cd := Lib.hid (fun W (h : Below w.heap.size w W) => r1div A B n m c d xs ys W (hx.bel h) (hy.bel h) (by omega) (by omega) h0)
  obtain ⟨da, db, dq, dr, b4⟩ := duo4 w (.bool false) (.slice A n c) (.bool true) (.slice B m d) (.bool false) (.slice none 0 0) (.bool false) (.slice none 0 0)
  go_enter Tryz.func75, Tryz.ntmps75
  go_wp2_with fail
  have Da := Lib.hid da
  have Db := Lib.hid db
  have Dq := Lib.hid dq
  have Dr := Lib.hid dr
  have a1 := da.cell1
  have e1 := db.cell1
  have Hy := Lib.hid (hy.bel b4)
  clear da db dq dr hx hy
  generalize (((w.alloc (.cells #[.bool false, .slice A n c] 32)).alloc (.cells #[.bool true, .slice B m d] 32)).alloc (.cells #[.bool false, .slice none 0 0] 32)).alloc (.cells #[.bool false, .slice none 0 0] 32) = wt at *
  go_wp2_with fail
  refine (Cd.out _ (by exact b4)).mono ?_
  rintro e w1 ⟨A1, k1, c1, qs, A2, k2, c2, rs, rfl, g5, g6, g7, g11, g1, g3, g8, g9, g10, g12, g2, g4, hbw1⟩
  have q0 := (Da.out.bel hbw1).cell0
  have q1 := (Db.out.bel hbw1).cell0
  have q2 := (Db.out.bel hbw1).cell1
  have H5 := Lib.hid g11
  have H6 := Lib.hid g12
  have Hy1 := Lib.hid (Hy.out.bel hbw1)
  clear g11 g12 a1 e1
  go_wp2_with fail
  refine (r2normF true A1 k1 c1 qs w1 H5.out (by omega) (by omega) (by omega)).mono ?_
  rintro e w7 ⟨s7, A7, k7, c7, ls, rfl, m1, m2, m3, m4, m5, mf, hbw7⟩
  have HF : Hid (0 < k7 → ∀ y, A7 = some y → w.heap.size ≤ y.block) := fun h0 y hy => Nat.le_trans (Nat.le_trans b4.size hbw1.size) (mf h0 y hy)
  clear mf
  clear q0 q1 q2
  go_wp2_with fail
  refine (r2norm false A2 k2 c2 rs w7 (H6.out.bel hbw7) (by omega) (by omega) (by omega)).mono ?_
  rintro e w8 ⟨s8, A8, k8, c8, l8, rfl, p1, p2, p3, p4, p5, hbw8⟩
  have hb8 : Below wt.heap.size wt w8 := (hbw1.trans (hbw7.mono hbw1.size)).trans (hbw8.mono ((hbw1.trans (hbw7.mono hbw1.size)).size))
  have Dq3 := Dq.out.bel hb8
  have Dr3 := Dr.out.bel hb8
  have r0 := Dq3.cell0
  have r1 := Dq3.cell1
  have t0 := Dr3.cell0
  have t1 := Dr3.cell1
  have f0 := Dq3.frozen 0
  have f1 := Dq3.frozen 1
  have f2 := Dr3.frozen 0
  have f3 := Dr3.frozen 1
  have HL7 := Lib.hid (m4.bel hbw8)
  have HL8 := Lib.hid p4
  have ne1 : w.heap.size + 1 + 1 ≠ w.heap.size + 1 + 1 + 1 := by omega
  have ne2 : w.heap.size + 1 + 1 + 1 ≠ w.heap.size + 1 + 1 := by omega
  have le1 : w.heap.size ≤ w.heap.size + 1 + 1 := by omega
  have le2 : w.heap.size ≤ w.heap.size + 1 + 1 + 1 := by omega
  have Hb : Hid (Below w.heap.size w w8) := b4.trans (hb8.mono b4.size)
  have Hz : Hid (ZVal s7 ls (intZ false xs / intZ true ys)) := by
    have h := m5
    have e : intZ true qs = intZ false xs / intZ true ys := ((zdiv_pos true g3 g4 h0).1)
    rw [e] at h
    exact h
  have Hz8 : Hid (ZVal s8 l8 (intZ false xs % intZ true ys)) := by
    have h := p5
    have e : intZ false rs = intZ false xs % intZ true ys := ((zdiv_pos true g3 g4 h0).2)
    rw [e] at h
    exact h
  have HQ := Lib.hid Dq3
  have HR := Lib.hid Dr3
  have hk7 : k7 ≤ n + m + 10 := by omega
  have hk8 : k8 ≤ n + m + 10 := by omega
  clear Dq3 Dr3 m4 m5 p4 p5 hb8 hbw1 hbw7 hbw8 b4 Cd g1 g2 g3 g4
  generalize w.heap.size + 1 + 1 + 1 = gr at *
  generalize w.heap.size + 1 + 1 = gq at *
  go_wp2_with fail
  have X1 := (HR.out.other ⟨gq, 0, none⟩ ne1 (.bool s7)).other ⟨gq, 1, none⟩ ne1 (.slice A7 k7 c7)
  have X2 := ((HQ.out.set (.bool s7) (.slice A7 k7 c7)).other ⟨gr, 0, none⟩ ne2 (.bool s8)).other ⟨gr, 1, none⟩ ne2 (.slice A8 k8 c8)
  refine bodyPost_ret (results_cell2_tmp (fn := Tryz.f75) rfl _ _ _ _ _ _ _ _ _ _ _ _ rfl X2 rfl (X1.set _ _) Tryz.underlying32 rfl aint_size Tryz.underlying32 rfl aint_size) rfl ?_
  exact ⟨s7, A7, k7, c7, ls, s8, A8, k8, c8, l8, rfl, hk7, hk8, m1, m2, p1, p2, X1.limbs _ _ rfl rfl (HQ.out.limbs _ _ rfl rfl HL7.out), X1.limbs _ _ rfl rfl (HQ.out.limbs _ _ rfl rfl HL8.out), Hz.out, Hz8.out, HF.out, (((Hb.out.setCell (p := ⟨gq, 0, none⟩) le1 _).setCell (p := ⟨gq, 1, none⟩) le1 _).setCell (p := ⟨gr, 0, none⟩) le2 _).setCell (p := ⟨gr, 1, none⟩) le2 _⟩
set_option maxRecDepth 100000 in
set_option maxHeartbeats 4000000 in
theorem r2div10F (A B : Option Addr) (n m c d : Nat) (xs ys : List Int) (w : World) (hx : Limbs w A n xs) (hy : Limbs w B m ys) (hnc : n ≤ c) (hc : c ≤ 9223372036854775807) (hmd : m ≤ d) (hd : d ≤ 9223372036854775807) (hn : n ≤ 1000000) (hm : m ≤ 1000000) (h0 : 0 < limbs ys) :
    Calls Tryz.prog 75 #[.agg #[.bool true, .slice A n c], .agg #[.bool false, .slice B m d]] w (RDivZF w (n + m + 10) (intZ true xs) (intZ false ys)) := by
  have Cd := Lib.hid (fun W (h : Below w.heap.size w W) => r1div A B n m c d xs ys W (hx.bel h) (hy.bel h) (by omega) (by omega) h0)
  obtain ⟨da, db, dq, dr, b4⟩ := duo4 w (.bool true) (.slice A n c) (.bool false) (.slice B m d) (.bool false) (.slice none 0 0) (.bool false) (.slice none 0 0)
  go_enter Tryz.func75, Tryz.ntmps75
  go_wp2_with fail
  have Da := Lib.hid da
  have Db := Lib.hid db
  have Dq := Lib.hid dq
  have Dr := Lib.hid dr
  have a1 := da.cell1
  have e1 := db.cell1
  have Hy := Lib.hid (hy.bel b4)
  clear da db dq dr hx hy
  generalize (((w.alloc (.cells #[.bool true, .slice A n c] 32)).alloc (.cells #[.bool false, .slice B m d] 32)).alloc (.cells #[.bool false, .slice none 0 0] 32)).alloc (.cells #[.bool false, .slice none 0 0] 32) = wt at *
  go_wp2_with fail
  refine (Cd.out _ (by exact b4)).mono ?_
  rintro e w1 ⟨A1, k1, c1, qs, A2, k2, c2, rs, rfl, g5, g6, g7, g11, g1, g3, g8, g9, g10, g12, g2, g4, hbw1⟩
  have q0 := (Da.out.bel hbw1).cell0
  have q1 := (Db.out.bel hbw1).cell0
  have q2 := (Db.out.bel hbw1).cell1
  have H5 := Lib.hid g11
  have H6 := Lib.hid g12
  have Hy1 := Lib.hid (Hy.out.bel hbw1)
  clear g11 g12 a1 e1
  have hk2 := H6.out.len
  by_cases hz : k2 = 0
  · have hz' : ¬ (0 : Int) < (k2 : Int) := by omega
    have hr0 : limbs rs = 0 := g2.nil_iff.2 (by omega)
    clear hz
    go_wp2_with fail
    refine (r2normF true A1 k1 c1 qs w1 H5.out (by omega) (by omega) (by omega)).mono ?_
    rintro e w7 ⟨s7, A7, k7, c7, ls, rfl, m1, m2, m3, m4, m5, mf, hbw7⟩
    have HF : Hid (0 < k7 → ∀ y, A7 = some y → w.heap.size ≤ y.block) := fun h0 y hy => Nat.le_trans (Nat.le_trans b4.size hbw1.size) (mf h0 y hy)
    clear mf
    clear q0 q1 q2
    go_wp2_with fail
    refine (r2norm false A2 k2 c2 rs w7 (H6.out.bel hbw7) (by omega) (by omega) (by omega)).mono ?_
    rintro e w8 ⟨s8, A8, k8, c8, l8, rfl, p1, p2, p3, p4, p5, hbw8⟩
    have hb8 : Below wt.heap.size wt w8 := (hbw1.trans (hbw7.mono hbw1.size)).trans (hbw8.mono ((hbw1.trans (hbw7.mono hbw1.size)).size))
    have Dq3 := Dq.out.bel hb8
    have Dr3 := Dr.out.bel hb8
    have r0 := Dq3.cell0
    have r1 := Dq3.cell1
    have t0 := Dr3.cell0
    have t1 := Dr3.cell1
    have f0 := Dq3.frozen 0
    have f1 := Dq3.frozen 1
    have f2 := Dr3.frozen 0
    have f3 := Dr3.frozen 1
    have HL7 := Lib.hid (m4.bel hbw8)
    have HL8 := Lib.hid p4
    have ne1 : w.heap.size + 1 + 1 ≠ w.heap.size + 1 + 1 + 1 := by omega
    have ne2 : w.heap.size + 1 + 1 + 1 ≠ w.heap.size + 1 + 1 := by omega
    have le1 : w.heap.size ≤ w.heap.size + 1 + 1 := by omega
    have le2 : w.heap.size ≤ w.heap.size + 1 + 1 + 1 := by omega
    have Hb : Hid (Below w.heap.size w w8) := b4.trans (hb8.mono b4.size)
    have Hz : Hid (ZVal s7 ls (intZ true xs / intZ false ys)) := by
      have h := m5
      have e : intZ true qs = intZ true xs / intZ false ys := ((zdiv_neg0 false g3 g4 hr0 h0).1)
      rw [e] at h
      exact h
    have Hz8 : Hid (ZVal s8 l8 (intZ true xs % intZ false ys)) := by
      have h := p5
      have e : intZ false rs = intZ true xs % intZ false ys := ((zdiv_neg0 false g3 g4 hr0 h0).2)
      rw [e] at h
      exact h
    have HQ := Lib.hid Dq3
    have HR := Lib.hid Dr3
    have hk7 : k7 ≤ n + m + 10 := by omega
    have hk8 : k8 ≤ n + m + 10 := by omega
    clear Dq3 Dr3 m4 m5 p4 p5 hb8 hbw1 hbw7 hbw8 b4 Cd g1 g2 g3 g4
    generalize w.heap.size + 1 + 1 + 1 = gr at *
    generalize w.heap.size + 1 + 1 = gq at *
    go_wp2_with fail
    have X1 := (HR.out.other ⟨gq, 0, none⟩ ne1 (.bool s7)).other ⟨gq, 1, none⟩ ne1 (.slice A7 k7 c7)
    have X2 := ((HQ.out.set (.bool s7) (.slice A7 k7 c7)).other ⟨gr, 0, none⟩ ne2 (.bool s8)).other ⟨gr, 1, none⟩ ne2 (.slice A8 k8 c8)
    refine bodyPost_ret (results_cell2_tmp (fn := Tryz.f75) rfl _ _ _ _ _ _ _ _ _ _ _ _ rfl X2 rfl (X1.set _ _) Tryz.underlying32 rfl aint_size Tryz.underlying32 rfl aint_size) rfl ?_
    exact ⟨s7, A7, k7, c7, ls, s8, A8, k8, c8, l8, rfl, hk7, hk8, m1, m2, p1, p2, X1.limbs _ _ rfl rfl (HQ.out.limbs _ _ rfl rfl HL7.out), X1.limbs _ _ rfl rfl (HQ.out.limbs _ _ rfl rfl HL8.out), Hz.out, Hz8.out, HF.out, (((Hb.out.setCell (p := ⟨gq, 0, none⟩) le1 _).setCell (p := ⟨gq, 1, none⟩) le1 _).setCell (p := ⟨gr, 0, none⟩) le2 _).setCell (p := ⟨gr, 1, none⟩) le2 _⟩
  · have hz' : (0 : Int) < (k2 : Int) := by omega
    have hr0 : 0 < limbs rs := Nat.pos_of_ne_zero (fun e => hz (by have := g2.nil_iff.1 e; omega))
    have hrle : limbs rs ≤ limbs ys := by rw [g4]; exact Nat.le_of_lt (Nat.mod_lt _ h0)
    have hone := Limbs.one w1 81 (x := 1) (by omega) (by omega)
    have hbo : Below w1.heap.size w1 (w1.alloc (.cells #[.int .u64 1] 81)) := (Below.refl _ _).alloc (Nat.le_refl _) _
    have Ca := Lib.hid (r1add A1 (some ⟨w1.heap.size, 0, none⟩) k1 1 c1 1 qs [1] _ (H5.out.bel hbo) hone (by omega) (by omega))
    have Cs := Lib.hid (fun W (h : Below w1.heap.size w1 W) => r1sub B A2 m k2 d c2 ys rs W (Hy1.out.bel h) (H6.out.bel h) (by omega) (by omega))
    have hl1 := H5.out.len
    have hl2 := Hy1.out.len
    clear hz hone
    go_wp2_with fail
    refine Ca.out.mono ?_
    rintro e w4 ⟨A4, k4, c4, qa, rfl, f4a, f4b, f4k, f4c, f4p, f4v, f4e⟩
    have hb4 : Below wt.heap.size wt w4 := hbw1.trans ((hbo.trans (f4e.mono hbo.size)).mono hbw1.size)
    have hb4' : Below w1.heap.size w1 w4 := hbo.trans (f4e.mono hbo.size)
    replace q0 := (Da.out.bel hb4).cell0
    replace q1 := (Db.out.bel hb4).cell0
    replace q2 := (Db.out.bel hb4).cell1
    clear Ca
    go_wp2_with fail
    refine (Cs.out _ hb4').mono ?_
    intro e w5 hsb
    obtain ⟨A5, k5, c5, bs, rfl, f5a, f5b, f5k, f5c, f5p, f5v, f5e⟩ := hsb.yes hrle
    have hb5 : Below wt.heap.size wt w5 := hb4.trans (f5e.mono hb4.size)
    replace q0 := (Da.out.bel hb5).cell0
    replace q1 := (Db.out.bel hb5).cell0
    replace q2 := (Db.out.bel hb5).cell1
    have f4L := Lib.hid (f4c.bel f5e)
    have f5L := Lib.hid f5c
    have hk4 : k4 ≤ n + 3 := by omega
    have hk5 : k5 ≤ n + m + 3 := by omega
    have hq4 : limbs qa = limbs xs / limbs ys + 1 := by rw [f4v, g3]; rfl
    have hr5 : limbs bs = limbs ys - limbs xs % limbs ys := by rw [f5v, g4]
    have hrm : 0 < limbs xs % limbs ys := by rw [← g4]; exact hr0
    clear Cs f4c f4e f5c f5e hsb hl1 hl2 hb4 hb4' hbo hrle
    go_wp2_with fail
    refine (r2normF true A4 k4 c4 qa w5 f4L.out (by omega) (by omega) (by omega)).mono ?_
    rintro e w7 ⟨s7, A7, k7, c7, ls, rfl, m1, m2, m3, m4, m5, mf, hbw7⟩
    have HF : Hid (0 < k7 → ∀ y, A7 = some y → w.heap.size ≤ y.block) := fun h0 y hy => Nat.le_trans (Nat.le_trans b4.size hb5.size) (mf h0 y hy)
    clear mf
    clear q0 q1 q2
    go_wp2_with fail
    refine (r2norm false A5 k5 c5 bs w7 (f5L.out.bel hbw7) (by omega) (by omega) (by omega)).mono ?_
    rintro e w8 ⟨s8, A8, k8, c8, l8, rfl, p1, p2, p3, p4, p5, hbw8⟩
    have hb8 : Below wt.heap.size wt w8 := (hb5.trans (hbw7.mono hb5.size)).trans (hbw8.mono ((hb5.trans (hbw7.mono hb5.size)).size))
    have Dq3 := Dq.out.bel hb8
    have Dr3 := Dr.out.bel hb8
    have r0 := Dq3.cell0
    have r1 := Dq3.cell1
    have t0 := Dr3.cell0
    have t1 := Dr3.cell1
    have f0 := Dq3.frozen 0
    have f1 := Dq3.frozen 1
    have f2 := Dr3.frozen 0
    have f3 := Dr3.frozen 1
    have HL7 := Lib.hid (m4.bel hbw8)
    have HL8 := Lib.hid p4
    have ne1 : w.heap.size + 1 + 1 ≠ w.heap.size + 1 + 1 + 1 := by omega
    have ne2 : w.heap.size + 1 + 1 + 1 ≠ w.heap.size + 1 + 1 := by omega
    have le1 : w.heap.size ≤ w.heap.size + 1 + 1 := by omega
    have le2 : w.heap.size ≤ w.heap.size + 1 + 1 + 1 := by omega
    have Hb : Hid (Below w.heap.size w w8) := b4.trans (hb8.mono b4.size)
    have Hz : Hid (ZVal s7 ls (intZ true xs / intZ false ys)) := by
      have h := m5
      have e : intZ true qa = intZ true xs / intZ false ys := ((zdiv_neg false hq4 hr5 hrm h0).1)
      rw [e] at h
      exact h
    have Hz8 : Hid (ZVal s8 l8 (intZ true xs % intZ false ys)) := by
      have h := p5
      have e : intZ false bs = intZ true xs % intZ false ys := ((zdiv_neg false hq4 hr5 hrm h0).2)
      rw [e] at h
      exact h
    have HQ := Lib.hid Dq3
    have HR := Lib.hid Dr3
    have hk7 : k7 ≤ n + m + 10 := by omega
    have hk8 : k8 ≤ n + m + 10 := by omega
    clear Dq3 Dr3 m4 m5 p4 p5 hb8 hbw1 hbw7 hbw8 b4 Cd g1 g2 g3 g4
    generalize w.heap.size + 1 + 1 + 1 = gr at *
    generalize w.heap.size + 1 + 1 = gq at *
    go_wp2_with fail
    have X1 := (HR.out.other ⟨gq, 0, none⟩ ne1 (.bool s7)).other ⟨gq, 1, none⟩ ne1 (.slice A7 k7 c7)
    have X2 := ((HQ.out.set (.bool s7) (.slice A7 k7 c7)).other ⟨gr, 0, none⟩ ne2 (.bool s8)).other ⟨gr, 1, none⟩ ne2 (.slice A8 k8 c8)
    refine bodyPost_ret (results_cell2_tmp (fn := Tryz.f75) rfl _ _ _ _ _ _ _ _ _ _ _ _ rfl X2 rfl (X1.set _ _) Tryz.underlying32 rfl aint_size Tryz.underlying32 rfl aint_size) rfl ?_
    exact ⟨s7, A7, k7, c7, ls, s8, A8, k8, c8, l8, rfl, hk7, hk8, m1, m2, p1, p2, X1.limbs _ _ rfl rfl (HQ.out.limbs _ _ rfl rfl HL7.out), X1.limbs _ _ rfl rfl (HQ.out.limbs _ _ rfl rfl HL8.out), Hz.out, Hz8.out, HF.out, (((Hb.out.setCell (p := ⟨gq, 0, none⟩) le1 _).setCell (p := ⟨gq, 1, none⟩) le1 _).setCell (p := ⟨gr, 0, none⟩) le2 _).setCell (p := ⟨gr, 1, none⟩) le2 _⟩
set_option maxRecDepth 100000 in
set_option maxHeartbeats 4000000 in
theorem r2div11F (A B : Option Addr) (n m c d : Nat) (xs ys : List Int) (w : World) (hx : Limbs w A n xs) (hy : Limbs w B m ys) (hnc : n ≤ c) (hc : c ≤ 9223372036854775807) (hmd : m ≤ d) (hd : d ≤ 9223372036854775807) (hn : n ≤ 1000000) (hm : m ≤ 1000000) (h0 : 0 < limbs ys) :
    Calls Tryz.prog 75 #[.agg #[.bool true, .slice A n c], .agg #[.bool true, .slice B m d]] w (RDivZF w (n + m + 10) (intZ true xs) (intZ true ys)) := by
  have Cd := Lib.hid (fun W (h : Below w.heap.size w W) => r1div A B n m c d xs ys W (hx.bel h) (hy.bel h) (by omega) (by omega) h0)
  obtain ⟨da, db, dq, dr, b4⟩ := duo4 w (.bool true) (.slice A n c) (.bool true) (.slice B m d) (.bool false) (.slice none 0 0) (.bool false) (.slice none 0 0)
  go_enter Tryz.func75, Tryz.ntmps75
  go_wp2_with fail
  have Da := Lib.hid da
  have Db := Lib.hid db
  have Dq := Lib.hid dq
  have Dr := Lib.hid dr
  have a1 := da.cell1
  have e1 := db.cell1
  have Hy := Lib.hid (hy.bel b4)
  clear da db dq dr hx hy
  generalize (((w.alloc (.cells #[.bool true, .slice A n c] 32)).alloc (.cells #[.bool true, .slice B m d] 32)).alloc (.cells #[.bool false, .slice none 0 0] 32)).alloc (.cells #[.bool false, .slice none 0 0] 32) = wt at *
  go_wp2_with fail
  refine (Cd.out _ (by exact b4)).mono ?_
  rintro e w1 ⟨A1, k1, c1, qs, A2, k2, c2, rs, rfl, g5, g6, g7, g11, g1, g3, g8, g9, g10, g12, g2, g4, hbw1⟩
  have q0 := (Da.out.bel hbw1).cell0
  have q1 := (Db.out.bel hbw1).cell0
  have q2 := (Db.out.bel hbw1).cell1
  have H5 := Lib.hid g11
  have H6 := Lib.hid g12
  have Hy1 := Lib.hid (Hy.out.bel hbw1)
  clear g11 g12 a1 e1
  have hk2 := H6.out.len
  by_cases hz : k2 = 0
  · have hz' : ¬ (0 : Int) < (k2 : Int) := by omega
    have hr0 : limbs rs = 0 := g2.nil_iff.2 (by omega)
    clear hz
    go_wp2_with fail
    refine (r2normF false A1 k1 c1 qs w1 H5.out (by omega) (by omega) (by omega)).mono ?_
    rintro e w7 ⟨s7, A7, k7, c7, ls, rfl, m1, m2, m3, m4, m5, mf, hbw7⟩
    have HF : Hid (0 < k7 → ∀ y, A7 = some y → w.heap.size ≤ y.block) := fun h0 y hy => Nat.le_trans (Nat.le_trans b4.size hbw1.size) (mf h0 y hy)
    clear mf
    clear q0 q1 q2
    go_wp2_with fail
    refine (r2norm false A2 k2 c2 rs w7 (H6.out.bel hbw7) (by omega) (by omega) (by omega)).mono ?_
    rintro e w8 ⟨s8, A8, k8, c8, l8, rfl, p1, p2, p3, p4, p5, hbw8⟩
    have hb8 : Below wt.heap.size wt w8 := (hbw1.trans (hbw7.mono hbw1.size)).trans (hbw8.mono ((hbw1.trans (hbw7.mono hbw1.size)).size))
    have Dq3 := Dq.out.bel hb8
    have Dr3 := Dr.out.bel hb8
    have r0 := Dq3.cell0
    have r1 := Dq3.cell1
    have t0 := Dr3.cell0
    have t1 := Dr3.cell1
    have f0 := Dq3.frozen 0
    have f1 := Dq3.frozen 1
    have f2 := Dr3.frozen 0
    have f3 := Dr3.frozen 1
    have HL7 := Lib.hid (m4.bel hbw8)
    have HL8 := Lib.hid p4
    have ne1 : w.heap.size + 1 + 1 ≠ w.heap.size + 1 + 1 + 1 := by omega
    have ne2 : w.heap.size + 1 + 1 + 1 ≠ w.heap.size + 1 + 1 := by omega
    have le1 : w.heap.size ≤ w.heap.size + 1 + 1 := by omega
    have le2 : w.heap.size ≤ w.heap.size + 1 + 1 + 1 := by omega
    have Hb : Hid (Below w.heap.size w w8) := b4.trans (hb8.mono b4.size)
    have Hz : Hid (ZVal s7 ls (intZ true xs / intZ true ys)) := by
      have h := m5
      have e : intZ false qs = intZ true xs / intZ true ys := ((zdiv_neg0 true g3 g4 hr0 h0).1)
      rw [e] at h
      exact h
    have Hz8 : Hid (ZVal s8 l8 (intZ true xs % intZ true ys)) := by
      have h := p5
      have e : intZ false rs = intZ true xs % intZ true ys := ((zdiv_neg0 true g3 g4 hr0 h0).2)
      rw [e] at h
      exact h
    have HQ := Lib.hid Dq3
    have HR := Lib.hid Dr3
    have hk7 : k7 ≤ n + m + 10 := by omega
    have hk8 : k8 ≤ n + m + 10 := by omega
    clear Dq3 Dr3 m4 m5 p4 p5 hb8 hbw1 hbw7 hbw8 b4 Cd g1 g2 g3 g4
    generalize w.heap.size + 1 + 1 + 1 = gr at *
    generalize w.heap.size + 1 + 1 = gq at *
    go_wp2_with fail
    have X1 := (HR.out.other ⟨gq, 0, none⟩ ne1 (.bool s7)).other ⟨gq, 1, none⟩ ne1 (.slice A7 k7 c7)
    have X2 := ((HQ.out.set (.bool s7) (.slice A7 k7 c7)).other ⟨gr, 0, none⟩ ne2 (.bool s8)).other ⟨gr, 1, none⟩ ne2 (.slice A8 k8 c8)
    refine bodyPost_ret (results_cell2_tmp (fn := Tryz.f75) rfl _ _ _ _ _ _ _ _ _ _ _ _ rfl X2 rfl (X1.set _ _) Tryz.underlying32 rfl aint_size Tryz.underlying32 rfl aint_size) rfl ?_
    exact ⟨s7, A7, k7, c7, ls, s8, A8, k8, c8, l8, rfl, hk7, hk8, m1, m2, p1, p2, X1.limbs _ _ rfl rfl (HQ.out.limbs _ _ rfl rfl HL7.out), X1.limbs _ _ rfl rfl (HQ.out.limbs _ _ rfl rfl HL8.out), Hz.out, Hz8.out, HF.out, (((Hb.out.setCell (p := ⟨gq, 0, none⟩) le1 _).setCell (p := ⟨gq, 1, none⟩) le1 _).setCell (p := ⟨gr, 0, none⟩) le2 _).setCell (p := ⟨gr, 1, none⟩) le2 _⟩
  · have hz' : (0 : Int) < (k2 : Int) := by omega
    have hr0 : 0 < limbs rs := Nat.pos_of_ne_zero (fun e => hz (by have := g2.nil_iff.1 e; omega))
    have hrle : limbs rs ≤ limbs ys := by rw [g4]; exact Nat.le_of_lt (Nat.mod_lt _ h0)
    have hone := Limbs.one w1 81 (x := 1) (by omega) (by omega)
    have hbo : Below w1.heap.size w1 (w1.alloc (.cells #[.int .u64 1] 81)) := (Below.refl _ _).alloc (Nat.le_refl _) _
    have Ca := Lib.hid (r1add A1 (some ⟨w1.heap.size, 0, none⟩) k1 1 c1 1 qs [1] _ (H5.out.bel hbo) hone (by omega) (by omega))
    have Cs := Lib.hid (fun W (h : Below w1.heap.size w1 W) => r1sub B A2 m k2 d c2 ys rs W (Hy1.out.bel h) (H6.out.bel h) (by omega) (by omega))
    have hl1 := H5.out.len
    have hl2 := Hy1.out.len
    clear hz hone
    go_wp2_with fail
    refine Ca.out.mono ?_
    rintro e w4 ⟨A4, k4, c4, qa, rfl, f4a, f4b, f4k, f4c, f4p, f4v, f4e⟩
    have hb4 : Below wt.heap.size wt w4 := hbw1.trans ((hbo.trans (f4e.mono hbo.size)).mono hbw1.size)
    have hb4' : Below w1.heap.size w1 w4 := hbo.trans (f4e.mono hbo.size)
    replace q0 := (Da.out.bel hb4).cell0
    replace q1 := (Db.out.bel hb4).cell0
    replace q2 := (Db.out.bel hb4).cell1
    clear Ca
    go_wp2_with fail
    refine (Cs.out _ hb4').mono ?_
    intro e w5 hsb
    obtain ⟨A5, k5, c5, bs, rfl, f5a, f5b, f5k, f5c, f5p, f5v, f5e⟩ := hsb.yes hrle
    have hb5 : Below wt.heap.size wt w5 := hb4.trans (f5e.mono hb4.size)
    replace q0 := (Da.out.bel hb5).cell0
    replace q1 := (Db.out.bel hb5).cell0
    replace q2 := (Db.out.bel hb5).cell1
    have f4L := Lib.hid (f4c.bel f5e)
    have f5L := Lib.hid f5c
    have hk4 : k4 ≤ n + 3 := by omega
    have hk5 : k5 ≤ n + m + 3 := by omega
    have hq4 : limbs qa = limbs xs / limbs ys + 1 := by rw [f4v, g3]; rfl
    have hr5 : limbs bs = limbs ys - limbs xs % limbs ys := by rw [f5v, g4]
    have hrm : 0 < limbs xs % limbs ys := by rw [← g4]; exact hr0
    clear Cs f4c f4e f5c f5e hsb hl1 hl2 hb4 hb4' hbo hrle
    go_wp2_with fail
    refine (r2normF false A4 k4 c4 qa w5 f4L.out (by omega) (by omega) (by omega)).mono ?_
    rintro e w7 ⟨s7, A7, k7, c7, ls, rfl, m1, m2, m3, m4, m5, mf, hbw7⟩
    have HF : Hid (0 < k7 → ∀ y, A7 = some y → w.heap.size ≤ y.block) := fun h0 y hy => Nat.le_trans (Nat.le_trans b4.size hb5.size) (mf h0 y hy)
    clear mf
    clear q0 q1 q2
    go_wp2_with fail
    refine (r2norm false A5 k5 c5 bs w7 (f5L.out.bel hbw7) (by omega) (by omega) (by omega)).mono ?_
    rintro e w8 ⟨s8, A8, k8, c8, l8, rfl, p1, p2, p3, p4, p5, hbw8⟩
    have hb8 : Below wt.heap.size wt w8 := (hb5.trans (hbw7.mono hb5.size)).trans (hbw8.mono ((hb5.trans (hbw7.mono hb5.size)).size))
    have Dq3 := Dq.out.bel hb8
    have Dr3 := Dr.out.bel hb8
    have r0 := Dq3.cell0
    have r1 := Dq3.cell1
    have t0 := Dr3.cell0
    have t1 := Dr3.cell1
    have f0 := Dq3.frozen 0
    have f1 := Dq3.frozen 1
    have f2 := Dr3.frozen 0
    have f3 := Dr3.frozen 1
    have HL7 := Lib.hid (m4.bel hbw8)
    have HL8 := Lib.hid p4
    have ne1 : w.heap.size + 1 + 1 ≠ w.heap.size + 1 + 1 + 1 := by omega
    have ne2 : w.heap.size + 1 + 1 + 1 ≠ w.heap.size + 1 + 1 := by omega
    have le1 : w.heap.size ≤ w.heap.size + 1 + 1 := by omega
    have le2 : w.heap.size ≤ w.heap.size + 1 + 1 + 1 := by omega
    have Hb : Hid (Below w.heap.size w w8) := b4.trans (hb8.mono b4.size)
    have Hz : Hid (ZVal s7 ls (intZ true xs / intZ true ys)) := by
      have h := m5
      have e : intZ false qa = intZ true xs / intZ true ys := ((zdiv_neg true hq4 hr5 hrm h0).1)
      rw [e] at h
      exact h
    have Hz8 : Hid (ZVal s8 l8 (intZ true xs % intZ true ys)) := by
      have h := p5
      have e : intZ false bs = intZ true xs % intZ true ys := ((zdiv_neg true hq4 hr5 hrm h0).2)
      rw [e] at h
      exact h
    have HQ := Lib.hid Dq3
    have HR := Lib.hid Dr3
    have hk7 : k7 ≤ n + m + 10 := by omega
    have hk8 : k8 ≤ n + m + 10 := by omega
    clear Dq3 Dr3 m4 m5 p4 p5 hb8 hbw1 hbw7 hbw8 b4 Cd g1 g2 g3 g4
    generalize w.heap.size + 1 + 1 + 1 = gr at *
    generalize w.heap.size + 1 + 1 = gq at *
    go_wp2_with fail
    have X1 := (HR.out.other ⟨gq, 0, none⟩ ne1 (.bool s7)).other ⟨gq, 1, none⟩ ne1 (.slice A7 k7 c7)
    have X2 := ((HQ.out.set (.bool s7) (.slice A7 k7 c7)).other ⟨gr, 0, none⟩ ne2 (.bool s8)).other ⟨gr, 1, none⟩ ne2 (.slice A8 k8 c8)
    refine bodyPost_ret (results_cell2_tmp (fn := Tryz.f75) rfl _ _ _ _ _ _ _ _ _ _ _ _ rfl X2 rfl (X1.set _ _) Tryz.underlying32 rfl aint_size Tryz.underlying32 rfl aint_size) rfl ?_
    exact ⟨s7, A7, k7, c7, ls, s8, A8, k8, c8, l8, rfl, hk7, hk8, m1, m2, p1, p2, X1.limbs _ _ rfl rfl (HQ.out.limbs _ _ rfl rfl HL7.out), X1.limbs _ _ rfl rfl (HQ.out.limbs _ _ rfl rfl HL8.out), Hz.out, Hz8.out, HF.out, (((Hb.out.setCell (p := ⟨gq, 0, none⟩) le1 _).setCell (p := ⟨gq, 1, none⟩) le1 _).setCell (p := ⟨gr, 0, none⟩) le2 _).setCell (p := ⟨gr, 1, none⟩) le2 _⟩
theorem r2divF (s t : Bool) (A B : Option Addr) (n m c d : Nat) (xs ys : List Int) (w : World) (hx : Limbs w A n xs) (hy : Limbs w B m ys) (hnc : n ≤ c) (hc : c ≤ 9223372036854775807) (hmd : m ≤ d) (hd : d ≤ 9223372036854775807) (hn : n ≤ 1000000) (hm : m ≤ 1000000) (h0 : 0 < limbs ys) :
    Calls Tryz.prog 75 #[.agg #[.bool s, .slice A n c], .agg #[.bool t, .slice B m d]] w (RDivZF w (n + m + 10) (intZ s xs) (intZ t ys)) := by
  cases s <;> cases t
  · exact r2div00F A B n m c d xs ys w hx hy hnc hc hmd hd hn hm h0
  · exact r2div01F A B n m c d xs ys w hx hy hnc hc hmd hd hn hm h0
  · exact r2div10F A B n m c d xs ys w hx hy hnc hc hmd hd hn hm h0
  · exact r2div11F A B n m c d xs ys w hx hy hnc hc hmd hd hn hm h0
def RExactZF (w : World) (K : Nat) (a b : Int) (e : Ending) (w' : World) : Prop :=
  ∃ s1 A1 k1 c1 l1, e = .returned (.tuple #[.agg #[.bool s1, .slice A1 k1 c1], .int .i64 (if a % b = 0 then 0 else 4)]) ∧ k1 ≤ K ∧ k1 ≤ c1 ∧ c1 ≤ 9223372036854775807 ∧ Limbs w' A1 k1 l1 ∧ (a % b = 0 → ZVal s1 l1 (a / b)) ∧ (0 < k1 → ∀ y, A1 = some y → w.heap.size ≤ y.block) ∧ Below w.heap.size w w'
section
variable (s t : Bool) (A B : Option Addr) (n m c d : Nat) (xs ys : List Int) (w : World) (hx : Limbs w A n xs) (hy : Limbs w B m ys) (hnc : n ≤ c) (hc : c ≤ 9223372036854775807) (hmd : m ≤ d) (hd : d ≤ 9223372036854775807) (hn : n ≤ 1000000) (hm : m ≤ 1000000) (h0 : 0 < limbs ys)
include hx hy hnc hc hmd hd hn hm h0
set_option maxRecDepth 100000 in
set_option maxHeartbeats 4000000 in
theorem r2exactF : Calls Tryz.prog 49 #[.agg #[.bool s, .slice A n c], .agg #[.bool t, .slice B m d]] w (RExactZF w (n + m + 10) (intZ s xs) (intZ t ys)) := by
  have Cd := Lib.hid (fun W (h : Below w.heap.size w W) => r2divF s t A B n m c d xs ys W (hx.bel h) (hy.bel h) hnc hc hmd hd hn hm h0)
  have al : ∀ (W : World) (o : Obj), Below W.heap.size W (W.alloc o) := fun W o => (Below.refl _ _).alloc (Nat.le_refl _) o
  have da := ((Duo.new w (.bool s) (.slice A n c)).bel (al _ (.cells #[.bool t, .slice B m d] 32))).bel (al _ (.cells #[.bool false, .slice none 0 0] 32))
  have db := (Duo.new (w.alloc (.cells #[.bool s, .slice A n c] 32)) (.bool t) (.slice B m d)).bel (al _ (.cells #[.bool false, .slice none 0 0] 32))
  have dr := Duo.new ((w.alloc (.cells #[.bool s, .slice A n c] 32)).alloc (.cells #[.bool t, .slice B m d] 32)) (.bool false) (.slice none 0 0)
  rw [World.size_alloc] at db
  rw [World.size_alloc, World.size_alloc] at dr
  have b3 : Below w.heap.size w (((w.alloc (.cells #[.bool s, .slice A n c] 32)).alloc (.cells #[.bool t, .slice B m d] 32)).alloc (.cells #[.bool false, .slice none 0 0] 32)) := ((al w _).alloc (by simp) _).alloc (by simp; omega) _
  generalize intZ s xs = za at *
  generalize intZ t ys = zb at *
  go_enter Tryz.func49, Tryz.ntmps49
  go_wp2_with fail
  have a0 := da.cell0
  have a1 := da.cell1
  have e0 := db.cell0
  have e1 := db.cell1
  have Dr := Lib.hid dr
  clear da db dr hx hy al h0
  generalize ((w.alloc (.cells #[.bool s, .slice A n c] 32)).alloc (.cells #[.bool t, .slice B m d] 32)).alloc (.cells #[.bool false, .slice none 0 0] 32) = wt at *
  go_wp2_with fail
  refine (Cd.out _ (by exact b3)).mono ?_
  rintro e w1 ⟨s1, A1, k1, c1, l1, s2, A2, k2, c2, l2, rfl, g1, g2, g3, g4, g5, g6, g7, g8, g9, g10, gf, hbw1⟩
  have HF : Hid (0 < k1 → ∀ y, A1 = some y → w.heap.size ≤ y.block) := fun h0 y hy => Nat.le_trans b3.size (gf h0 y hy)
  clear gf
  have al : ∀ (W : World) (o : Obj), Below W.heap.size W (W.alloc o) := fun W o => (Below.refl _ _).alloc (Nat.le_refl _) o
  have dq := (Duo.new w1 (.bool s1) (.slice A1 k1 c1)).bel (al _ (.cells #[.bool s2, .slice A2 k2 c2] 32))
  have de := Duo.new (w1.alloc (.cells #[.bool s1, .slice A1 k1 c1] 32)) (.bool s2) (.slice A2 k2 c2)
  rw [World.size_alloc] at de
  have hb2 : Below wt.heap.size wt ((w1.alloc (.cells #[.bool s1, .slice A1 k1 c1] 32)).alloc (.cells #[.bool s2, .slice A2 k2 c2] 32)) := (hbw1.alloc hbw1.size _).alloc (by have := hbw1.size; simp; omega) _
  have hL := (g7.alloc (.cells #[.bool s1, .slice A1 k1 c1] 32)).alloc (.cells #[.bool s2, .slice A2 k2 c2] 32)
  have hL2 := (g8.alloc (.cells #[.bool s1, .slice A1 k1 c1] 32)).alloc (.cells #[.bool s2, .slice A2 k2 c2] 32)
  have Hz := Lib.hid g9
  have HL := Lib.hid hL
  have HL2 := Lib.hid hL2
  have HB := Lib.hid hb2
  have HDq := Lib.hid dq
  have HDe := Lib.hid de
  have hsg : sgn (intZ s2 l2) = 0 ↔ za % zb = 0 := by rw [g10.eq]; exact sgn_zeroF _
  have e2 := de.cell0
  have e3 := de.cell1
  clear a0 a1 e0 e1 dq de hL hL2 hb2 g7 g8 g9 g10 al
  go_wp2_with fail
  have hlt := hbw1.size
  clear hbw1
  generalize (w1.alloc (.cells #[.bool s1, .slice A1 k1 c1] 32)).alloc (.cells #[.bool s2, .slice A2 k2 c2] 32) = w2 at *
  refine (r2sign s2 A2 k2 c2 l2 w2 HL2.out g5 g6 (by omega)).mono ?_
  rintro e w3 ⟨rfl, hbw3⟩
  have hb3 : Below wt.heap.size wt w3 := HB.out.trans (hbw3.mono HB.out.size)
  have Dq3 := HDq.out.bel hbw3
  have Dr3 := Dr.out.bel hb3
  have q0 := Dq3.cell0
  have q1 := Dq3.cell1
  have r0 := Dr3.cell0
  have r1 := Dr3.cell1
  have f0 := Dr3.frozen 0
  have f1 := Dr3.frozen 1
  have hL3 := Lib.hid (HL.out.bel hbw3)
  have le1 : w.heap.size ≤ w.heap.size + 1 + 1 := by omega
  have Hb : Hid (Below w.heap.size w w3) := b3.trans (hb3.mono b3.size)
  have HD3 := Lib.hid Dr3
  have Hsg := Lib.hid hsg
  clear hb3 hbw3 Dq3 Dr3 b3 Cd HL HB HDq HDe hsg e2 e3
  generalize sgn (intZ s2 l2) = sg at *
  by_cases hz : za % zb = 0
  · have hs1 : (sg == 0) = true := by simp; exact Hsg.out.2 hz
    have hs2 : (sg != 0) = false := by simp; exact Hsg.out.2 hz
    have HZ := Lib.hid hz
    clear hz
    go_wp2_with fail
    refine bodyPost_ret (results_cell_tmp (fn := Tryz.f49) rfl _ _ _ _ _ _ _ rfl (HD3.out.set _ _) Tryz.underlying32 rfl aint_size) rfl ?_
    unfold RExactZF
    rw [if_pos HZ.out]
    exact ⟨s1, A1, k1, c1, l1, rfl, g1, g3, g4, HD3.out.limbs _ _ rfl rfl hL3.out, fun _ => Hz.out, HF.out, (Hb.out.setCell (p := ⟨w.heap.size + 1 + 1, 0, none⟩) le1 _).setCell (p := ⟨w.heap.size + 1 + 1, 1, none⟩) le1 _⟩
  · have hs1 : (sg == 0) = false := by simp; exact fun e => hz (Hsg.out.1 e)
    have hs2 : (sg != 0) = true := by simp; exact fun e => hz (Hsg.out.1 e)
    have HZ := Lib.hid hz
    clear hz
    go_wp2_with fail
    refine bodyPost_ret (results_cell_tmp (fn := Tryz.f49) rfl _ _ _ _ _ _ _ rfl (HD3.out.set _ _) Tryz.underlying32 rfl aint_size) rfl ?_
    unfold RExactZF
    rw [if_neg HZ.out]
    exact ⟨false, none, 0, 0, [], rfl, by omega, by omega, by omega, Limbs.nil _ _, fun h => absurd h HZ.out, fun h => absurd h (by omega), (Hb.out.setCell (p := ⟨w.heap.size + 1 + 1, 0, none⟩) le1 _).setCell (p := ⟨w.heap.size + 1 + 1, 1, none⟩) le1 _⟩
end
end Go.Proofs.YtjmbejodcloapaaGreat
