/- Contracts: the document's integers.
   Contract: the document's integer of a number that is not less than nought. -/
import Derived.Test.YtjmbejodcloapaaGreatPRones
import Derived.Test.YtjmbejodcloapaaGreatPZsc
set_option linter.unusedVariables false
set_option linter.unusedSimpArgs false
namespace Go.Proofs.YtjmbejodcloapaaGreat
open Go.RowKit Cl
attribute [local go_sem ↓] Go.wp_at_zero Go.wp_at_succ
theorem zval_of {neg : Bool} {xs ls : List Int} (h : PlainL ls) (e : limbs ls = limbs xs) {k : Nat} (hk : ls.length = k) : ZVal (neg && decide (0 < (k : Int))) ls (intZ neg xs) := by
  have hi := h.nil_iff
  refine ⟨h, ?_, fun hn => ?_⟩
  · unfold intZ
    cases neg
    · simp [e]
    · by_cases h0 : 0 < k
      · have : decide (0 < (k : Int)) = true := decide_eq_true (by omega)
        rw [this, e]; rfl
      · have h1 : decide (0 < (k : Int)) = false := decide_eq_false (by omega)
        have h2 := hi.2 (by omega)
        rw [h1, ← e, h2]; rfl
  · cases neg
    · simp at hn
    · have := of_decide_eq_true (by simpa using hn)
      omega
set_option maxRecDepth 100000 in
set_option maxHeartbeats 1000000 in
theorem r2norm (s : Bool) (A : Option Addr) (n c : Nat) (xs : List Int) (w : World) (hx : Limbs w A n xs) (hn : n ≤ c) (hc : c ≤ 9223372036854775807) (hn8 : n ≤ 100000000) :
    Calls Tryz.prog 59 #[.agg #[.bool s, .slice A n c]] w (GivesZ w (intZ s xs) n) := by
  have Cn := Lib.hid (fun W (h : Below w.heap.size w W) => r1norm A n c xs W (hx.bel h) hn hc (by omega))
  have hd0 := (Duo.new w (.bool s) (.slice A n c)).bel ((Below.refl _ _).alloc (Nat.le_refl _) (.cells #[.bool false, .slice none 0 0] 32))
  have hd := Duo.new (w.alloc (.cells #[.bool s, .slice A n c] 32)) (.bool false) (.slice none 0 0)
  rw [World.size_alloc] at hd
  have c0 := hd0.cell0
  have c1 := hd0.cell1
  have Hd := Lib.hid hd
  have Hd0 := Lib.hid hd0
  clear hd hd0 hx
  go_enter Tryz.func59, Tryz.ntmps59
  go_wp2_with fail
  refine (Cn.out _ (by exact ((Below.refl _ _).alloc (Nat.le_refl _) _).alloc (by simp) _)).mono ?_
  rintro e w1 ⟨A1, k1, c1', l1, rfl, h1, h2, h3, h4, h5, h6, h7⟩
  have hd1 := Hd.out.bel h7
  have hd2 := Hd0.out.bel h7
  have k0 := hd1.cell0
  have k1' := hd1.cell1
  have f0 := hd1.frozen 0
  have f1 := hd1.frozen 1
  have c0' := hd2.cell0
  have c1'' := hd2.cell1
  have hb : Below w.heap.size w w1 := (((Below.refl _ w).alloc (Nat.le_refl _) _).alloc (by simp) _).trans (h7.mono (by simp; omega))
  have Hd1 := Lib.hid hd1
  have hz := zval_of (neg := s) h5 h6 h4.len
  have Fin : Hid (∀ b : Bool, b = (s && decide (0 < (k1 : Int))) → GivesZ w (intZ s xs) n (.returned (.agg #[.bool b, .slice A1 k1 c1'])) ((w1.setCell ⟨w.heap.size + 1, 0, none⟩ (.bool b)).setCell ⟨w.heap.size + 1, 1, none⟩ (.slice A1 k1 c1'))) := fun b hbe => by
    subst hbe
    exact ⟨_, A1, k1, c1', l1, rfl, h1, h2, h3, hd1.limbs _ _ rfl rfl h4, hz, (hb.setCell (p := ⟨w.heap.size + 1, 0, none⟩) (by simp) _).setCell (p := ⟨w.heap.size + 1, 1, none⟩) (by simp) _⟩
  clear hd1 hd2 h4 h5 h6 h7 hz hb
  cases s with
  | false =>
    go_wp2
    exact bodyPost_ret (results_cell_row (fn := Tryz.f59) rfl _ _ _ _ _ _ _ rfl (Hd1.out.set _ _) Tryz.underlying32 rfl aint_size) rfl (Fin.out _ rfl)
  | true =>
    go_wp2
    exact bodyPost_ret (results_cell_row (fn := Tryz.f59) rfl _ _ _ _ _ _ _ rfl (Hd1.out.set _ _) Tryz.underlying32 rfl aint_size) rfl (Fin.out _ (by simp))
set_option maxRecDepth 100000 in
set_option maxHeartbeats 1000000 in
theorem r2neg (s : Bool) (A : Option Addr) (n c : Nat) (xs : List Int) (w : World) (hx : Limbs w A n xs) (hn : n ≤ c) (hc : c ≤ 9223372036854775807) (hn8 : n ≤ 100000000) :
    Calls Tryz.prog 48 #[.agg #[.bool s, .slice A n c]] w (GivesZ w (-intZ s xs) n) := by
  have Cn := Lib.hid (fun W (h : Below w.heap.size w W) => r2norm (!s) A n c xs W (hx.bel h) hn hc hn8)
  rw [intZ_neg] at Cn
  have hd0 := (Duo.new w (.bool s) (.slice A n c)).bel ((Below.refl _ _).alloc (Nat.le_refl _) (.cells #[.bool false, .slice none 0 0] 32))
  have hd := Duo.new (w.alloc (.cells #[.bool s, .slice A n c] 32)) (.bool false) (.slice none 0 0)
  rw [World.size_alloc] at hd
  have c0 := hd0.cell0
  have c1 := hd0.cell1
  have Hd := Lib.hid hd
  clear hd hd0 hx
  go_enter Tryz.func48, Tryz.ntmps48
  go_wp2_with fail
  refine (Cn.out _ (by exact ((Below.refl _ _).alloc (Nat.le_refl _) _).alloc (by simp) _)).mono ?_
  rintro e w1 ⟨s1, A1, k1, c1', ls, rfl, h1, h2, h3, h4, h5, h6⟩
  have hd1 := Hd.out.bel h6
  have k0 := hd1.cell0
  have k1' := hd1.cell1
  have f0 := hd1.frozen 0
  have f1 := hd1.frozen 1
  have hb : Below w.heap.size w w1 := (((Below.refl _ w).alloc (Nat.le_refl _) _).alloc (by simp) _).trans (h6.mono (by simp; omega))
  have Hd1 := Lib.hid hd1
  have H5 := Lib.hid h5
  clear hd1 h6 h5
  go_wp2
  exact bodyPost_ret (results_cell_row (fn := Tryz.f48) rfl _ _ _ _ _ _ _ rfl (Hd1.out.set _ _) Tryz.underlying32 rfl aint_size) rfl
    ⟨s1, A1, k1, c1', ls, rfl, h1, h2, h3, Hd1.out.limbs _ _ rfl rfl h4, H5.out, (hb.setCell (p := ⟨w.heap.size + 1, 0, none⟩) (by simp) _).setCell (p := ⟨w.heap.size + 1, 1, none⟩) (by simp) _⟩
set_option maxRecDepth 100000 in
set_option maxHeartbeats 1000000 in
theorem r2abs (s : Bool) (A : Option Addr) (n c : Nat) (xs : List Int) (w : World) (hx : Limbs w A n xs) (hn : n ≤ c) (hc : c ≤ 9223372036854775807) (hn8 : n ≤ 100000000) :
    Calls Tryz.prog 74 #[.agg #[.bool s, .slice A n c]] w (GivesZ w (((limbs xs : Nat) : Int)) n) := by
  have Cn := Lib.hid (fun W (h : Below w.heap.size w W) => r2norm (false) A n c xs W (hx.bel h) hn hc hn8)
  rw [show intZ false xs = ((limbs xs : Nat) : Int) from rfl] at Cn
  have hd0 := (Duo.new w (.bool s) (.slice A n c)).bel ((Below.refl _ _).alloc (Nat.le_refl _) (.cells #[.bool false, .slice none 0 0] 32))
  have hd := Duo.new (w.alloc (.cells #[.bool s, .slice A n c] 32)) (.bool false) (.slice none 0 0)
  rw [World.size_alloc] at hd
  have c0 := hd0.cell0
  have c1 := hd0.cell1
  have Hd := Lib.hid hd
  clear hd hd0 hx
  go_enter Tryz.func74, Tryz.ntmps74
  go_wp2_with fail
  refine (Cn.out _ (by exact ((Below.refl _ _).alloc (Nat.le_refl _) _).alloc (by simp) _)).mono ?_
  rintro e w1 ⟨s1, A1, k1, c1', ls, rfl, h1, h2, h3, h4, h5, h6⟩
  have hd1 := Hd.out.bel h6
  have k0 := hd1.cell0
  have k1' := hd1.cell1
  have f0 := hd1.frozen 0
  have f1 := hd1.frozen 1
  have hb : Below w.heap.size w w1 := (((Below.refl _ w).alloc (Nat.le_refl _) _).alloc (by simp) _).trans (h6.mono (by simp; omega))
  have Hd1 := Lib.hid hd1
  have H5 := Lib.hid h5
  clear hd1 h6 h5
  go_wp2
  exact bodyPost_ret (results_cell_row (fn := Tryz.f74) rfl _ _ _ _ _ _ _ rfl (Hd1.out.set _ _) Tryz.underlying32 rfl aint_size) rfl
    ⟨s1, A1, k1, c1', ls, rfl, h1, h2, h3, Hd1.out.limbs _ _ rfl rfl h4, H5.out, (hb.setCell (p := ⟨w.heap.size + 1, 0, none⟩) (by simp) _).setCell (p := ⟨w.heap.size + 1, 1, none⟩) (by simp) _⟩
def sgn (z : Int) : Int := if z < 0 then -1 else if 0 < z then 1 else 0
theorem sgn_neg {s : Bool} {ls : List Int} {z : Int} (h : ZVal s ls z) (hs : s = true) : sgn z = -1 := by
  have h1 := h.nz hs
  have h2 := h.pl.nil_iff
  have h3 := h.eq
  subst hs
  unfold intZ at h3
  simp only [if_true] at h3
  unfold sgn
  rw [if_pos (by omega)]
theorem sgn_pos {ls : List Int} {z : Int} (h : ZVal false ls z) : sgn z = if 0 < (ls.length : Int) then 1 else 0 := by
  have h2 := h.pl.nil_iff
  have h3 := h.eq
  unfold intZ at h3
  simp only [Bool.false_eq_true, if_false] at h3
  unfold sgn
  rw [if_neg (by omega)]
  by_cases h0 : 0 < ls.length
  · rw [if_pos (by omega), if_pos (by omega)]
  · rw [if_neg (by omega), if_neg (by omega)]
set_option maxRecDepth 100000 in
set_option maxHeartbeats 1000000 in
theorem r2sign (s : Bool) (A : Option Addr) (n c : Nat) (xs : List Int) (w : World) (hx : Limbs w A n xs) (hn : n ≤ c) (hc : c ≤ 9223372036854775807) (hn8 : n ≤ 100000000) :
    Calls Tryz.prog 60 #[.agg #[.bool s, .slice A n c]] w fun e w' => e = .returned (.int .i64 (sgn (intZ s xs))) ∧ Below w.heap.size w w' := by
  have Cn := Lib.hid (fun W (h : Below w.heap.size w W) => r2norm s A n c xs W (hx.bel h) hn hc hn8)
  have hd0 := Duo.new w (.bool s) (.slice A n c)
  have c0 := hd0.cell0
  have c1 := hd0.cell1
  clear hd0 hx
  generalize intZ s xs = z at *
  go_enter Tryz.func60, Tryz.ntmps60
  go_wp2_with fail
  refine (Cn.out _ (by exact (Below.refl _ _).alloc (Nat.le_refl _) _)).mono ?_
  rintro e w1 ⟨s1, A1, k1, c1', ls, rfl, h1, h2, h3, h4, h5, h6⟩
  have hb : Below w.heap.size w w1 := ((Below.refl _ w).alloc (Nat.le_refl _) _).trans (h6.mono (by simp))
  have hl := h4.len
  have Hb := Lib.hid (fun o => hb.alloc hb.size o)
  cases s1 with
  | true =>
    have Hs := Lib.hid (sgn_neg h5 rfl)
    clear h4 h5 h6 hb hl
    go_wp2
    go_ret
    rw [Hs.out]
    exact ⟨rfl, Hb.out _⟩
  | false =>
    have hs := sgn_pos h5
    rw [hl] at hs
    by_cases h0 : 0 < k1
    · rw [if_pos (by omega)] at hs
      have h0' : (0 : Int) < (k1 : Int) := by omega
      have Hs := Lib.hid hs
      clear h4 h5 h6 hb hl hs
      go_wp2
      go_ret
      rw [Hs.out]
      exact ⟨rfl, Hb.out _⟩
    · rw [if_neg (by omega)] at hs
      have h0' : ¬ (0 : Int) < (k1 : Int) := by omega
      have Hs := Lib.hid hs
      clear h4 h5 h6 hb hl hs
      go_wp2
      go_ret
      rw [Hs.out]
      exact ⟨rfl, Hb.out _⟩
set_option maxRecDepth 100000 in
set_option maxHeartbeats 2000000 in
theorem r2mul (s t : Bool) (A B : Option Addr) (n m c d : Nat) (xs ys : List Int) (w : World) (hx : Limbs w A n xs) (hy : Limbs w B m ys) (hnc : n ≤ c) (hc : c ≤ 9223372036854775807) (hmd : m ≤ d) (hd : d ≤ 9223372036854775807) (hn : n ≤ 10000000) (hm : m ≤ 10000000) :
    Calls Tryz.prog 40 #[.agg #[.bool s, .slice A n c], .agg #[.bool t, .slice B m d]] w (GivesZ w (intZ s xs * intZ t ys) (n + m)) := by
  have Cm := Lib.hid (fun W (h : Below w.heap.size w W) => r1mul A B n m c d xs ys W (hx.bel h) (hy.bel h) (by omega) (by omega))
  have Cz := Lib.hid (fun (neg : Bool) A' n' c' zs W h h1 h2 h3 => r2norm neg A' n' c' zs W h h1 h2 h3)
  have b1 : Below w.heap.size w (w.alloc (.cells #[.bool s, .slice A n c] 32)) := (Below.refl _ _).alloc (Nat.le_refl _) _
  have b2 : Below w.heap.size w ((w.alloc (.cells #[.bool s, .slice A n c] 32)).alloc (.cells #[.bool t, .slice B m d] 32)) := b1.alloc (by simp) _
  have da := ((Duo.new w (.bool s) (.slice A n c)).bel ((Below.refl _ _).alloc (Nat.le_refl _) (.cells #[.bool t, .slice B m d] 32))).bel ((Below.refl _ _).alloc (Nat.le_refl _) (.cells #[.bool false, .slice none 0 0] 32))
  have db := (Duo.new (w.alloc (.cells #[.bool s, .slice A n c] 32)) (.bool t) (.slice B m d)).bel ((Below.refl _ _).alloc (Nat.le_refl _) (.cells #[.bool false, .slice none 0 0] 32))
  have dr := Duo.new ((w.alloc (.cells #[.bool s, .slice A n c] 32)).alloc (.cells #[.bool t, .slice B m d] 32)) (.bool false) (.slice none 0 0)
  rw [World.size_alloc] at db
  rw [World.size_alloc, World.size_alloc] at dr
  have b3 : Below w.heap.size w (((w.alloc (.cells #[.bool s, .slice A n c] 32)).alloc (.cells #[.bool t, .slice B m d] 32)).alloc (.cells #[.bool false, .slice none 0 0] 32)) := b2.alloc (by simp; omega) _
  go_enter Tryz.func40, Tryz.ntmps40
  go_wp2_with fail
  have Da := Lib.hid da
  have Db := Lib.hid db
  have Dr := Lib.hid dr
  have hsz : (((w.alloc (.cells #[.bool s, .slice A n c] 32)).alloc (.cells #[.bool t, .slice B m d] 32)).alloc (.cells #[.bool false, .slice none 0 0] 32)).heap.size = w.heap.size + 1 + 1 + 1 := by simp
  clear da db dr b1 b2 hx hy
  generalize ((w.alloc (.cells #[.bool s, .slice A n c] 32)).alloc (.cells #[.bool t, .slice B m d] 32)).alloc (.cells #[.bool false, .slice none 0 0] 32) = wt at *
  have a0 := Da.out.cell0
  have a1 := Da.out.cell1
  have e0 := Db.out.cell0
  have e1 := Db.out.cell1
  have r0 := Dr.out.cell0
  have r1 := Dr.out.cell1
  have f0 := Dr.out.frozen 0
  have f1 := Dr.out.frozen 1
  have la : w.heap.size < wt.heap.size := by omega
  have lb : w.heap.size + 1 < wt.heap.size := by omega
  have lr : w.heap.size + 1 + 1 < wt.heap.size := by omega
  have keep : Hid (∀ W, Below wt.heap.size wt W → W.cell? ⟨w.heap.size, 0, none⟩ = some (.bool s) ∧ W.cell? ⟨w.heap.size, 1, none⟩ = some (.slice A n c) ∧ W.cell? ⟨w.heap.size + 1, 0, none⟩ = some (.bool t) ∧ W.cell? ⟨w.heap.size + 1, 1, none⟩ = some (.slice B m d)) := fun W hW =>
    ⟨(hW.cell (p := ⟨w.heap.size, 0, none⟩) la).trans a0, (hW.cell (p := ⟨w.heap.size, 1, none⟩) la).trans a1, (hW.cell (p := ⟨w.heap.size + 1, 0, none⟩) lb).trans e0, (hW.cell (p := ⟨w.heap.size + 1, 1, none⟩) lb).trans e1⟩
  have res : Hid (∀ W, Below wt.heap.size wt W → W.cell? ⟨w.heap.size + 1 + 1, 0, none⟩ = some (.bool false) ∧ W.cell? ⟨w.heap.size + 1 + 1, 1, none⟩ = some (.slice none 0 0) ∧ W.frozen? ⟨w.heap.size + 1 + 1, 0, none⟩ = false ∧ W.frozen? ⟨w.heap.size + 1 + 1, 1, none⟩ = false) := fun W hW =>
    ⟨(hW.cell (p := ⟨w.heap.size + 1 + 1, 0, none⟩) lr).trans r0, (hW.cell (p := ⟨w.heap.size + 1 + 1, 1, none⟩) lr).trans r1, (Dr.out.bel hW).frozen 0, (Dr.out.bel hW).frozen 1⟩
  clear r0 r1 f0 f1
  have ne1 : w.heap.size + 1 + 1 ≠ w.heap.size := by omega
  have ne2 : w.heap.size + 1 + 1 ≠ w.heap.size + 1 := by omega
  have le1 : w.heap.size ≤ w.heap.size + 1 + 1 := by omega
  have lr' : w.heap.size ≤ wt.heap.size := by omega
  clear hsz
  generalize w.heap.size + 1 + 1 = gr at *
  generalize w.heap.size + 1 = gb at *
  have keep3 : ∀ (W : World) (u v : Value), (W.cell? ⟨w.heap.size, 0, none⟩ = some (.bool s) ∧ W.cell? ⟨w.heap.size, 1, none⟩ = some (.slice A n c) ∧ W.cell? ⟨gb, 0, none⟩ = some (.bool t) ∧ W.cell? ⟨gb, 1, none⟩ = some (.slice B m d)) → (((W.setCell ⟨gr, 0, none⟩ u).setCell ⟨gr, 1, none⟩ v).cell? ⟨w.heap.size, 0, none⟩ = some (.bool s) ∧ ((W.setCell ⟨gr, 0, none⟩ u).setCell ⟨gr, 1, none⟩ v).cell? ⟨w.heap.size, 1, none⟩ = some (.slice A n c) ∧ ((W.setCell ⟨gr, 0, none⟩ u).setCell ⟨gr, 1, none⟩ v).cell? ⟨gb, 0, none⟩ = some (.bool t) ∧ ((W.setCell ⟨gr, 0, none⟩ u).setCell ⟨gr, 1, none⟩ v).cell? ⟨gb, 1, none⟩ = some (.slice B m d)) := by
    rintro W u v ⟨k1, k2, k3, k4⟩
    refine ⟨?_, ?_, ?_, ?_⟩
    all_goals
      rw [World.cell?_setCell_other _ _ _ _ (fun e => by injection e with e1; first | exact ne1 e1.symm | exact ne2 e1.symm | exact ne1 e1 | exact ne2 e1), World.cell?_setCell_other _ _ _ _ (fun e => by injection e with e1; first | exact ne1 e1.symm | exact ne2 e1.symm | exact ne1 e1 | exact ne2 e1)]
      assumption
  go_region_held3 (fun W => W.cell? ⟨w.heap.size, 0, none⟩ = some (.bool s) ∧ W.cell? ⟨w.heap.size, 1, none⟩ = some (.slice A n c) ∧ W.cell? ⟨gb, 0, none⟩ = some (.bool t) ∧ W.cell? ⟨gb, 1, none⟩ = some (.slice B m d))
    (first | go_keep | exact keep.out _ (Below.refl _ _).drew | exact keep.out _ hbw1 | exact keep.out _ hbw2 | exact keep3 _ _ _ (keep.out _ hbw2))
    (first
      | (go_at_call 65; refine (Cm.out _ (by first | exact b3.drew | exact b3 | exact below_drewN b3 _)).mono ?_; rintro e w1 ⟨A1, k1, c1, zs, rfl, g4, g5, g3, g6, g1, g2, hbw1'⟩; have hbw1 : Below wt.heap.size wt w1 := (Below.refl _ _).drew.trans hbw1')
      | (go_at_call 59; refine (Cz.out (s != t) A1 k1 c1 zs w1 g6 g4 g5 (by have := g6.len; omega)).mono ?_; rintro e w2 ⟨s2, A2, k2, c2, ls, rfl, q1, q2, q3, q4, q5, hbw2'⟩; have hbw2 : Below wt.heap.size wt w2 := hbw1.trans (hbw2'.mono hbw1.size); obtain ⟨r0, r1, f0, f1⟩ := res.out w2 hbw2))
  have Dr2 := Dr.out.bel hbw2
  have hb2 : Below w.heap.size w w2 := b3.trans (hbw2.mono (by omega))
  have hz : ZVal s2 ls (intZ s xs * intZ t ys) := by rw [← intZ_mul g2]; exact q5
  have hk2 : k2 ≤ n + m := by have := g6.len; omega
  have Hz := Lib.hid hz
  have HD := Lib.hid Dr2
  have Hq4 := Lib.hid q4
  clear hz Dr2 q4 q5 g6 keep
  go_wp2
  exact bodyPost_ret (results_cell_row (fn := Tryz.f40) rfl _ _ _ _ _ _ _ rfl (HD.out.set _ _) Tryz.underlying32 rfl aint_size) rfl
    ⟨s2, A2, k2, c2, ls, rfl, q1, q2, hk2, HD.out.limbs _ _ rfl rfl Hq4.out, Hz.out, (hb2.setCell (p := ⟨gr, 0, none⟩) le1 _).setCell (p := ⟨gr, 1, none⟩) le1 _⟩
set_option maxRecDepth 100000 in
set_option maxHeartbeats 2000000 in
theorem r2add_same (s t : Bool) (hst : (s == t) = true) (A B : Option Addr) (n m c d : Nat) (xs ys : List Int) (w : World) (hx : Limbs w A n xs) (hy : Limbs w B m ys) (hnc : n ≤ c) (hc : c ≤ 9223372036854775807) (hmd : m ≤ d) (hd : d ≤ 9223372036854775807) (hn : n ≤ 10000000) (hm : m ≤ 10000000) :
    Calls Tryz.prog 58 #[.agg #[.bool s, .slice A n c], .agg #[.bool t, .slice B m d]] w (GivesZ w (intZ s xs + intZ t ys) (max n m + 1)) := by
  have Cm := Lib.hid (fun W (h : Below w.heap.size w W) => r1add A B n m c d xs ys W (hx.bel h) (hy.bel h) (by omega) (by omega))
  have Cz := Lib.hid (fun (neg : Bool) A' n' c' zs W h h1 h2 h3 => r2norm neg A' n' c' zs W h h1 h2 h3)
  have b1 : Below w.heap.size w (w.alloc (.cells #[.bool s, .slice A n c] 32)) := (Below.refl _ _).alloc (Nat.le_refl _) _
  have b2 : Below w.heap.size w ((w.alloc (.cells #[.bool s, .slice A n c] 32)).alloc (.cells #[.bool t, .slice B m d] 32)) := b1.alloc (by simp) _
  have da := ((Duo.new w (.bool s) (.slice A n c)).bel ((Below.refl _ _).alloc (Nat.le_refl _) (.cells #[.bool t, .slice B m d] 32))).bel ((Below.refl _ _).alloc (Nat.le_refl _) (.cells #[.bool false, .slice none 0 0] 32))
  have db := (Duo.new (w.alloc (.cells #[.bool s, .slice A n c] 32)) (.bool t) (.slice B m d)).bel ((Below.refl _ _).alloc (Nat.le_refl _) (.cells #[.bool false, .slice none 0 0] 32))
  have dr := Duo.new ((w.alloc (.cells #[.bool s, .slice A n c] 32)).alloc (.cells #[.bool t, .slice B m d] 32)) (.bool false) (.slice none 0 0)
  rw [World.size_alloc] at db
  rw [World.size_alloc, World.size_alloc] at dr
  have b3 : Below w.heap.size w (((w.alloc (.cells #[.bool s, .slice A n c] 32)).alloc (.cells #[.bool t, .slice B m d] 32)).alloc (.cells #[.bool false, .slice none 0 0] 32)) := b2.alloc (by simp; omega) _
  go_enter Tryz.func58, Tryz.ntmps58
  go_wp2_with fail
  have Da := Lib.hid da
  have Db := Lib.hid db
  have Dr := Lib.hid dr
  have hsz : (((w.alloc (.cells #[.bool s, .slice A n c] 32)).alloc (.cells #[.bool t, .slice B m d] 32)).alloc (.cells #[.bool false, .slice none 0 0] 32)).heap.size = w.heap.size + 1 + 1 + 1 := by simp
  clear da db dr b1 b2 hx hy
  generalize ((w.alloc (.cells #[.bool s, .slice A n c] 32)).alloc (.cells #[.bool t, .slice B m d] 32)).alloc (.cells #[.bool false, .slice none 0 0] 32) = wt at *
  have a0 := Da.out.cell0
  have a1 := Da.out.cell1
  have e0 := Db.out.cell0
  have e1 := Db.out.cell1
  have r0 := Dr.out.cell0
  have r1 := Dr.out.cell1
  have f0 := Dr.out.frozen 0
  have f1 := Dr.out.frozen 1
  have la : w.heap.size < wt.heap.size := by omega
  have lb : w.heap.size + 1 < wt.heap.size := by omega
  have lr : w.heap.size + 1 + 1 < wt.heap.size := by omega
  have keep : Hid (∀ W, Below wt.heap.size wt W → W.cell? ⟨w.heap.size, 0, none⟩ = some (.bool s) ∧ W.cell? ⟨w.heap.size, 1, none⟩ = some (.slice A n c) ∧ W.cell? ⟨w.heap.size + 1, 0, none⟩ = some (.bool t) ∧ W.cell? ⟨w.heap.size + 1, 1, none⟩ = some (.slice B m d)) := fun W hW =>
    ⟨(hW.cell (p := ⟨w.heap.size, 0, none⟩) la).trans a0, (hW.cell (p := ⟨w.heap.size, 1, none⟩) la).trans a1, (hW.cell (p := ⟨w.heap.size + 1, 0, none⟩) lb).trans e0, (hW.cell (p := ⟨w.heap.size + 1, 1, none⟩) lb).trans e1⟩
  have res : Hid (∀ W, Below wt.heap.size wt W → W.cell? ⟨w.heap.size + 1 + 1, 0, none⟩ = some (.bool false) ∧ W.cell? ⟨w.heap.size + 1 + 1, 1, none⟩ = some (.slice none 0 0) ∧ W.frozen? ⟨w.heap.size + 1 + 1, 0, none⟩ = false ∧ W.frozen? ⟨w.heap.size + 1 + 1, 1, none⟩ = false) := fun W hW =>
    ⟨(hW.cell (p := ⟨w.heap.size + 1 + 1, 0, none⟩) lr).trans r0, (hW.cell (p := ⟨w.heap.size + 1 + 1, 1, none⟩) lr).trans r1, (Dr.out.bel hW).frozen 0, (Dr.out.bel hW).frozen 1⟩
  clear r0 r1 f0 f1
  go_wp2_with fail
  have ne1 : w.heap.size + 1 + 1 ≠ w.heap.size := by omega
  have ne2 : w.heap.size + 1 + 1 ≠ w.heap.size + 1 := by omega
  have le1 : w.heap.size ≤ w.heap.size + 1 + 1 := by omega
  have lr' : w.heap.size ≤ wt.heap.size := by omega
  clear hsz
  generalize w.heap.size + 1 + 1 = gr at *
  generalize w.heap.size + 1 = gb at *
  have keep3 : ∀ (W : World) (u v : Value), (W.cell? ⟨w.heap.size, 0, none⟩ = some (.bool s) ∧ W.cell? ⟨w.heap.size, 1, none⟩ = some (.slice A n c) ∧ W.cell? ⟨gb, 0, none⟩ = some (.bool t) ∧ W.cell? ⟨gb, 1, none⟩ = some (.slice B m d)) → (((W.setCell ⟨gr, 0, none⟩ u).setCell ⟨gr, 1, none⟩ v).cell? ⟨w.heap.size, 0, none⟩ = some (.bool s) ∧ ((W.setCell ⟨gr, 0, none⟩ u).setCell ⟨gr, 1, none⟩ v).cell? ⟨w.heap.size, 1, none⟩ = some (.slice A n c) ∧ ((W.setCell ⟨gr, 0, none⟩ u).setCell ⟨gr, 1, none⟩ v).cell? ⟨gb, 0, none⟩ = some (.bool t) ∧ ((W.setCell ⟨gr, 0, none⟩ u).setCell ⟨gr, 1, none⟩ v).cell? ⟨gb, 1, none⟩ = some (.slice B m d)) := by
    rintro W u v ⟨k1, k2, k3, k4⟩
    refine ⟨?_, ?_, ?_, ?_⟩
    all_goals
      rw [World.cell?_setCell_other _ _ _ _ (fun e => by injection e with e1; first | exact ne1 e1.symm | exact ne2 e1.symm | exact ne1 e1 | exact ne2 e1), World.cell?_setCell_other _ _ _ _ (fun e => by injection e with e1; first | exact ne1 e1.symm | exact ne2 e1.symm | exact ne1 e1 | exact ne2 e1)]
      assumption
  go_region_held3 (fun W => W.cell? ⟨w.heap.size, 0, none⟩ = some (.bool s) ∧ W.cell? ⟨w.heap.size, 1, none⟩ = some (.slice A n c) ∧ W.cell? ⟨gb, 0, none⟩ = some (.bool t) ∧ W.cell? ⟨gb, 1, none⟩ = some (.slice B m d))
    (first | go_keep | exact keep.out _ (Below.refl _ _).drew | exact keep.out _ hbw1 | exact keep.out _ hbw2 | exact keep3 _ _ _ (keep.out _ hbw2))
    (first
      | (go_at_call 80; refine (Cm.out _ (by first | exact b3.drew | exact b3 | exact below_drewN b3 _)).mono ?_; rintro e w1 ⟨A1, k1, c1, zs, rfl, g4, g5, g3, g6, g1, g2, hbw1'⟩; have hbw1 : Below wt.heap.size wt w1 := (Below.refl _ _).drew.trans hbw1')
      | (go_at_call 59; refine (Cz.out s A1 k1 c1 zs w1 g6 g4 g5 (by have := g6.len; omega)).mono ?_; rintro e w2 ⟨s2, A2, k2, c2, ls, rfl, q1, q2, q3, q4, q5, hbw2'⟩; have hbw2 : Below wt.heap.size wt w2 := hbw1.trans (hbw2'.mono hbw1.size); obtain ⟨r0, r1, f0, f1⟩ := res.out w2 hbw2))
  have Dr2 := Dr.out.bel hbw2
  have hb2 : Below w.heap.size w w2 := b3.trans (hbw2.mono (by omega))
  have hz : ZVal s2 ls (intZ s xs + intZ t ys) := by rw [← intZ_add_same hst g2]; exact q5
  have hk2 : k2 ≤ max n m + 1 := by have := g6.len; omega
  have Hz := Lib.hid hz
  have HD := Lib.hid Dr2
  have Hq4 := Lib.hid q4
  clear hz Dr2 q4 q5 g6 keep
  go_wp2
  exact bodyPost_ret (results_cell_row (fn := Tryz.f58) rfl _ _ _ _ _ _ _ rfl (HD.out.set _ _) Tryz.underlying32 rfl aint_size) rfl
    ⟨s2, A2, k2, c2, ls, rfl, q1, q2, hk2, HD.out.limbs _ _ rfl rfl Hq4.out, Hz.out, (hb2.setCell (p := ⟨gr, 0, none⟩) le1 _).setCell (p := ⟨gr, 1, none⟩) le1 _⟩
set_option maxRecDepth 100000 in
set_option maxHeartbeats 2000000 in
theorem r2add_ge (s t : Bool) (hst : (s == t) = false) (A B : Option Addr) (n m c d : Nat) (xs ys : List Int) (w : World) (hx : Limbs w A n xs) (hy : Limbs w B m ys) (hnc : n ≤ c) (hc : c ≤ 9223372036854775807) (hmd : m ≤ d) (hd : d ≤ 9223372036854775807) (hn : n ≤ 10000000) (hm : m ≤ 10000000) (hle : limbs ys ≤ limbs xs) :
    Calls Tryz.prog 58 #[.agg #[.bool s, .slice A n c], .agg #[.bool t, .slice B m d]] w (GivesZ w (intZ s xs + intZ t ys) (max n m + 1)) := by
  have Cs := Lib.hid (fun W (h : Below w.heap.size w W) => r1sub A B n m c d xs ys W (hx.bel h) (hy.bel h) (by omega) (by omega))
  have Cs2 := Lib.hid (fun W (h : Below w.heap.size w W) => r1sub B A m n d c ys xs W (hy.bel h) (hx.bel h) (by omega) (by omega))
  have Cz := Lib.hid (fun (neg : Bool) A' n' c' zs W h h1 h2 h3 => r2norm neg A' n' c' zs W h h1 h2 h3)
  have b1 : Below w.heap.size w (w.alloc (.cells #[.bool s, .slice A n c] 32)) := (Below.refl _ _).alloc (Nat.le_refl _) _
  have b2 : Below w.heap.size w ((w.alloc (.cells #[.bool s, .slice A n c] 32)).alloc (.cells #[.bool t, .slice B m d] 32)) := b1.alloc (by simp) _
  have da := ((Duo.new w (.bool s) (.slice A n c)).bel ((Below.refl _ _).alloc (Nat.le_refl _) (.cells #[.bool t, .slice B m d] 32))).bel ((Below.refl _ _).alloc (Nat.le_refl _) (.cells #[.bool false, .slice none 0 0] 32))
  have db := (Duo.new (w.alloc (.cells #[.bool s, .slice A n c] 32)) (.bool t) (.slice B m d)).bel ((Below.refl _ _).alloc (Nat.le_refl _) (.cells #[.bool false, .slice none 0 0] 32))
  have dr := Duo.new ((w.alloc (.cells #[.bool s, .slice A n c] 32)).alloc (.cells #[.bool t, .slice B m d] 32)) (.bool false) (.slice none 0 0)
  rw [World.size_alloc] at db
  rw [World.size_alloc, World.size_alloc] at dr
  have b3 : Below w.heap.size w (((w.alloc (.cells #[.bool s, .slice A n c] 32)).alloc (.cells #[.bool t, .slice B m d] 32)).alloc (.cells #[.bool false, .slice none 0 0] 32)) := b2.alloc (by simp; omega) _
  go_enter Tryz.func58, Tryz.ntmps58
  go_wp2_with fail
  have Da := Lib.hid da
  have Db := Lib.hid db
  have Dr := Lib.hid dr
  have hsz : (((w.alloc (.cells #[.bool s, .slice A n c] 32)).alloc (.cells #[.bool t, .slice B m d] 32)).alloc (.cells #[.bool false, .slice none 0 0] 32)).heap.size = w.heap.size + 1 + 1 + 1 := by simp
  clear da db dr b1 b2 hx hy
  generalize ((w.alloc (.cells #[.bool s, .slice A n c] 32)).alloc (.cells #[.bool t, .slice B m d] 32)).alloc (.cells #[.bool false, .slice none 0 0] 32) = wt at *
  have a0 := Da.out.cell0
  have a1 := Da.out.cell1
  have e0 := Db.out.cell0
  have e1 := Db.out.cell1
  have r0 := Dr.out.cell0
  have r1 := Dr.out.cell1
  have f0 := Dr.out.frozen 0
  have f1 := Dr.out.frozen 1
  have la : w.heap.size < wt.heap.size := by omega
  have lb : w.heap.size + 1 < wt.heap.size := by omega
  have lr : w.heap.size + 1 + 1 < wt.heap.size := by omega
  have keep : Hid (∀ W, Below wt.heap.size wt W → W.cell? ⟨w.heap.size, 0, none⟩ = some (.bool s) ∧ W.cell? ⟨w.heap.size, 1, none⟩ = some (.slice A n c) ∧ W.cell? ⟨w.heap.size + 1, 0, none⟩ = some (.bool t) ∧ W.cell? ⟨w.heap.size + 1, 1, none⟩ = some (.slice B m d)) := fun W hW =>
    ⟨(hW.cell (p := ⟨w.heap.size, 0, none⟩) la).trans a0, (hW.cell (p := ⟨w.heap.size, 1, none⟩) la).trans a1, (hW.cell (p := ⟨w.heap.size + 1, 0, none⟩) lb).trans e0, (hW.cell (p := ⟨w.heap.size + 1, 1, none⟩) lb).trans e1⟩
  have res : Hid (∀ W, Below wt.heap.size wt W → W.cell? ⟨w.heap.size + 1 + 1, 0, none⟩ = some (.bool false) ∧ W.cell? ⟨w.heap.size + 1 + 1, 1, none⟩ = some (.slice none 0 0) ∧ W.frozen? ⟨w.heap.size + 1 + 1, 0, none⟩ = false ∧ W.frozen? ⟨w.heap.size + 1 + 1, 1, none⟩ = false) := fun W hW =>
    ⟨(hW.cell (p := ⟨w.heap.size + 1 + 1, 0, none⟩) lr).trans r0, (hW.cell (p := ⟨w.heap.size + 1 + 1, 1, none⟩) lr).trans r1, (Dr.out.bel hW).frozen 0, (Dr.out.bel hW).frozen 1⟩
  clear r0 r1 f0 f1
  have ne1 : w.heap.size + 1 + 1 ≠ w.heap.size := by omega
  have ne2 : w.heap.size + 1 + 1 ≠ w.heap.size + 1 := by omega
  have le1 : w.heap.size ≤ w.heap.size + 1 + 1 := by omega
  have lr' : w.heap.size ≤ wt.heap.size := by omega
  clear hsz
  generalize w.heap.size + 1 + 1 = gr at *
  generalize w.heap.size + 1 = gb at *
  go_wp2_with fail
  refine (Cs.out _ (by exact b3)).mono ?_
  intro e w1 hsub
  obtain ⟨A1, k1, c1, zs, rfl, g4, g5, g3, g6, g1, g2, hbw1⟩ := hsub.yes hle
  obtain ⟨v1, v2, v3, v4⟩ := keep.out w1 hbw1
  clear a0 a1 e0 e1 hsub
  go_wp2_with fail
  refine (Cz.out s A1 k1 c1 zs w1 g6 g4 g5 (by have := g6.len; omega)).mono ?_
  rintro e w2 ⟨s2, A2, k2, c2, ls, rfl, q1, q2, q3, q4, q5, hbw2'⟩
  have hbw2 : Below wt.heap.size wt w2 := hbw1.trans (hbw2'.mono hbw1.size)
  clear v1 v2 v3 v4
  have Dr2 := Dr.out.bel hbw2
  have hb2 : Below w.heap.size w w2 := b3.trans (hbw2.mono (by omega))
  have hz : ZVal s2 ls (intZ s xs + intZ t ys) := by rw [← intZ_add_diff hst g2 hle]; exact q5
  have hk2 : k2 ≤ max n m + 1 := by have := g6.len; omega
  have Hz := Lib.hid hz
  have HD := Lib.hid Dr2
  have Hq4 := Lib.hid q4
  obtain ⟨r0, r1, f0, f1⟩ := res.out w2 hbw2
  clear hz Dr2 q4 q5 g6 keep
  go_wp2
  exact bodyPost_ret (results_cell_row (fn := Tryz.f58) rfl _ _ _ _ _ _ _ rfl (HD.out.set _ _) Tryz.underlying32 rfl aint_size) rfl
    ⟨s2, A2, k2, c2, ls, rfl, q1, q2, hk2, HD.out.limbs _ _ rfl rfl Hq4.out, Hz.out, (hb2.setCell (p := ⟨gr, 0, none⟩) le1 _).setCell (p := ⟨gr, 1, none⟩) le1 _⟩
set_option maxRecDepth 100000 in
set_option maxHeartbeats 2000000 in
theorem r2add_lt (s t : Bool) (hst : (s == t) = false) (A B : Option Addr) (n m c d : Nat) (xs ys : List Int) (w : World) (hx : Limbs w A n xs) (hy : Limbs w B m ys) (hnc : n ≤ c) (hc : c ≤ 9223372036854775807) (hmd : m ≤ d) (hd : d ≤ 9223372036854775807) (hn : n ≤ 10000000) (hm : m ≤ 10000000) (hle : ¬ limbs ys ≤ limbs xs) :
    Calls Tryz.prog 58 #[.agg #[.bool s, .slice A n c], .agg #[.bool t, .slice B m d]] w (GivesZ w (intZ s xs + intZ t ys) (max n m + 1)) := by
  have Cs := Lib.hid (fun W (h : Below w.heap.size w W) => r1sub A B n m c d xs ys W (hx.bel h) (hy.bel h) (by omega) (by omega))
  have Cs2 := Lib.hid (fun W (h : Below w.heap.size w W) => r1sub B A m n d c ys xs W (hy.bel h) (hx.bel h) (by omega) (by omega))
  have Cz := Lib.hid (fun (neg : Bool) A' n' c' zs W h h1 h2 h3 => r2norm neg A' n' c' zs W h h1 h2 h3)
  have b1 : Below w.heap.size w (w.alloc (.cells #[.bool s, .slice A n c] 32)) := (Below.refl _ _).alloc (Nat.le_refl _) _
  have b2 : Below w.heap.size w ((w.alloc (.cells #[.bool s, .slice A n c] 32)).alloc (.cells #[.bool t, .slice B m d] 32)) := b1.alloc (by simp) _
  have da := ((Duo.new w (.bool s) (.slice A n c)).bel ((Below.refl _ _).alloc (Nat.le_refl _) (.cells #[.bool t, .slice B m d] 32))).bel ((Below.refl _ _).alloc (Nat.le_refl _) (.cells #[.bool false, .slice none 0 0] 32))
  have db := (Duo.new (w.alloc (.cells #[.bool s, .slice A n c] 32)) (.bool t) (.slice B m d)).bel ((Below.refl _ _).alloc (Nat.le_refl _) (.cells #[.bool false, .slice none 0 0] 32))
  have dr := Duo.new ((w.alloc (.cells #[.bool s, .slice A n c] 32)).alloc (.cells #[.bool t, .slice B m d] 32)) (.bool false) (.slice none 0 0)
  rw [World.size_alloc] at db
  rw [World.size_alloc, World.size_alloc] at dr
  have b3 : Below w.heap.size w (((w.alloc (.cells #[.bool s, .slice A n c] 32)).alloc (.cells #[.bool t, .slice B m d] 32)).alloc (.cells #[.bool false, .slice none 0 0] 32)) := b2.alloc (by simp; omega) _
  go_enter Tryz.func58, Tryz.ntmps58
  go_wp2_with fail
  have Da := Lib.hid da
  have Db := Lib.hid db
  have Dr := Lib.hid dr
  have hsz : (((w.alloc (.cells #[.bool s, .slice A n c] 32)).alloc (.cells #[.bool t, .slice B m d] 32)).alloc (.cells #[.bool false, .slice none 0 0] 32)).heap.size = w.heap.size + 1 + 1 + 1 := by simp
  clear da db dr b1 b2 hx hy
  generalize ((w.alloc (.cells #[.bool s, .slice A n c] 32)).alloc (.cells #[.bool t, .slice B m d] 32)).alloc (.cells #[.bool false, .slice none 0 0] 32) = wt at *
  have a0 := Da.out.cell0
  have a1 := Da.out.cell1
  have e0 := Db.out.cell0
  have e1 := Db.out.cell1
  have r0 := Dr.out.cell0
  have r1 := Dr.out.cell1
  have f0 := Dr.out.frozen 0
  have f1 := Dr.out.frozen 1
  have la : w.heap.size < wt.heap.size := by omega
  have lb : w.heap.size + 1 < wt.heap.size := by omega
  have lr : w.heap.size + 1 + 1 < wt.heap.size := by omega
  have keep : Hid (∀ W, Below wt.heap.size wt W → W.cell? ⟨w.heap.size, 0, none⟩ = some (.bool s) ∧ W.cell? ⟨w.heap.size, 1, none⟩ = some (.slice A n c) ∧ W.cell? ⟨w.heap.size + 1, 0, none⟩ = some (.bool t) ∧ W.cell? ⟨w.heap.size + 1, 1, none⟩ = some (.slice B m d)) := fun W hW =>
    ⟨(hW.cell (p := ⟨w.heap.size, 0, none⟩) la).trans a0, (hW.cell (p := ⟨w.heap.size, 1, none⟩) la).trans a1, (hW.cell (p := ⟨w.heap.size + 1, 0, none⟩) lb).trans e0, (hW.cell (p := ⟨w.heap.size + 1, 1, none⟩) lb).trans e1⟩
  have res : Hid (∀ W, Below wt.heap.size wt W → W.cell? ⟨w.heap.size + 1 + 1, 0, none⟩ = some (.bool false) ∧ W.cell? ⟨w.heap.size + 1 + 1, 1, none⟩ = some (.slice none 0 0) ∧ W.frozen? ⟨w.heap.size + 1 + 1, 0, none⟩ = false ∧ W.frozen? ⟨w.heap.size + 1 + 1, 1, none⟩ = false) := fun W hW =>
    ⟨(hW.cell (p := ⟨w.heap.size + 1 + 1, 0, none⟩) lr).trans r0, (hW.cell (p := ⟨w.heap.size + 1 + 1, 1, none⟩) lr).trans r1, (Dr.out.bel hW).frozen 0, (Dr.out.bel hW).frozen 1⟩
  clear r0 r1 f0 f1
  have ne1 : w.heap.size + 1 + 1 ≠ w.heap.size := by omega
  have ne2 : w.heap.size + 1 + 1 ≠ w.heap.size + 1 := by omega
  have le1 : w.heap.size ≤ w.heap.size + 1 + 1 := by omega
  have lr' : w.heap.size ≤ wt.heap.size := by omega
  clear hsz
  generalize w.heap.size + 1 + 1 = gr at *
  generalize w.heap.size + 1 = gb at *
  go_wp2_with fail
  refine (Cs.out _ (by exact b3)).mono ?_
  intro e w0 hsub
  obtain ⟨rfl, hbw0⟩ := hsub.no hle
  obtain ⟨u1, u2, u3, u4⟩ := keep.out w0 hbw0
  clear a0 a1 e0 e1 hsub
  go_wp2_with fail
  refine (Cs2.out _ (b3.trans (hbw0.mono (by omega)))).mono ?_
  intro e w1 hsub
  obtain ⟨A1, k1, c1, zs, rfl, g4, g5, g3, g6, g1, g2, hbw1'⟩ := hsub.yes (by omega)
  have hbw1 : Below wt.heap.size wt w1 := hbw0.trans (hbw1'.mono hbw0.size)
  obtain ⟨v1, v2, v3, v4⟩ := keep.out w1 hbw1
  clear u1 u2 u3 u4 hsub
  go_wp2_with fail
  refine (Cz.out t A1 k1 c1 zs w1 g6 g4 g5 (by have := g6.len; omega)).mono ?_
  rintro e w2 ⟨s2, A2, k2, c2, ls, rfl, q1, q2, q3, q4, q5, hbw2'⟩
  have hbw2 : Below wt.heap.size wt w2 := hbw1.trans (hbw2'.mono hbw1.size)
  clear v1 v2 v3 v4
  have Dr2 := Dr.out.bel hbw2
  have hb2 : Below w.heap.size w w2 := b3.trans (hbw2.mono (by omega))
  have hz : ZVal s2 ls (intZ s xs + intZ t ys) := by rw [Int.add_comm, ← intZ_add_diff (s := t) (t := s) (by cases s <;> cases t <;> simp_all) g2 (by omega)]; exact q5
  have hk2 : k2 ≤ max n m + 1 := by have := g6.len; omega
  have Hz := Lib.hid hz
  have HD := Lib.hid Dr2
  have Hq4 := Lib.hid q4
  obtain ⟨r0, r1, f0, f1⟩ := res.out w2 hbw2
  clear hz Dr2 q4 q5 g6 keep
  go_wp2
  exact bodyPost_ret (results_cell_row (fn := Tryz.f58) rfl _ _ _ _ _ _ _ rfl (HD.out.set _ _) Tryz.underlying32 rfl aint_size) rfl
    ⟨s2, A2, k2, c2, ls, rfl, q1, q2, hk2, HD.out.limbs _ _ rfl rfl Hq4.out, Hz.out, (hb2.setCell (p := ⟨gr, 0, none⟩) le1 _).setCell (p := ⟨gr, 1, none⟩) le1 _⟩
theorem r2add (s t : Bool) (A B : Option Addr) (n m c d : Nat) (xs ys : List Int) (w : World) (hx : Limbs w A n xs) (hy : Limbs w B m ys) (hnc : n ≤ c) (hc : c ≤ 9223372036854775807) (hmd : m ≤ d) (hd : d ≤ 9223372036854775807) (hn : n ≤ 10000000) (hm : m ≤ 10000000) :
    Calls Tryz.prog 58 #[.agg #[.bool s, .slice A n c], .agg #[.bool t, .slice B m d]] w (GivesZ w (intZ s xs + intZ t ys) (max n m + 1)) := by
  by_cases hst : (s == t) = true
  · exact r2add_same s t hst A B n m c d xs ys w hx hy hnc hc hmd hd hn hm
  · have hst' : (s == t) = false := by simpa using hst
    by_cases hle : limbs ys ≤ limbs xs
    · exact r2add_ge s t hst' A B n m c d xs ys w hx hy hnc hc hmd hd hn hm hle
    · exact r2add_lt s t hst' A B n m c d xs ys w hx hy hnc hc hmd hd hn hm hle
end Go.Proofs.YtjmbejodcloapaaGreat
namespace Go.Proofs.YtjmbejodcloapaaGreat
open Go.RowKit Cl
attribute [local go_sem ↓] Go.wp_at_zero Go.wp_at_succ
set_option maxRecDepth 100000 in
theorem r2of (x : Int) (w : World) (h0 : 0 ≤ x) (h1 : x ≤ 9223372036854775807) :
    Calls Tryz.prog 41 #[.int .i64 x] w (GivesZ w x 1) := by
  have Cn := Lib.hid (fun W (h : Limbs W (some ⟨w.heap.size + 1, 0, none⟩) 1 [x]) => r2norm false (some ⟨w.heap.size + 1, 0, none⟩) 1 1 [x] W h (by omega) (by omega) (by omega))
  have hv : Hid (intZ false [x] = x) := by
    show ((limbs [x] : Nat) : Int) = x
    show ((x.toNat + 2 ^ 64 * 0 : Nat) : Int) = x
    omega
  rw [hv.out] at Cn
  have hd := (Duo.new w (.bool false) (.slice none 0 0)).bel ((Below.refl _ _).alloc (Nat.le_refl _) (.cells #[.int .u64 x] 81))
  have hlm := Limbs.one (w.alloc (.cells #[.bool false, .slice none 0 0] 32)) 81 h0 (x := x) (by omega)
  rw [World.size_alloc] at hlm
  have Hlm := Lib.hid hlm
  have Hd := Lib.hid hd
  have hx0 : ¬ x < 0 := by omega
  clear hd hlm
  go_enter Tryz.func41, Tryz.ntmps41
  go_wp2_with fail
  refine (Cn.out _ (by exact Hlm.out)).mono ?_
  rintro e w1 ⟨s1, A1, k1, c1, ls, rfl, g1, g2, g3, g4, g5, hb⟩
  have hd1 := Hd.out.bel hb
  have k0 := hd1.cell0
  have k1' := hd1.cell1
  have f0 := hd1.frozen 0
  have f1 := hd1.frozen 1
  have hb2 : Below w.heap.size w w1 := (((Below.refl _ w).alloc (Nat.le_refl _) _).alloc (by simp) _).trans (hb.mono (by simp; omega))
  have Hd1 := Lib.hid hd1
  have G5 := Lib.hid g5
  clear hd1 hb g5
  go_wp2
  exact bodyPost_ret (results_cell_row (fn := Tryz.f41) rfl _ _ _ _ _ _ _ rfl (Hd1.out.set _ _) Tryz.underlying32 rfl aint_size) rfl
    ⟨s1, A1, k1, c1, ls, rfl, g1, g2, g3, Hd1.out.limbs _ _ rfl rfl g4, G5.out, (hb2.setCell (p := ⟨w.heap.size, 0, none⟩) (Nat.le_refl _) _).setCell (p := ⟨w.heap.size, 1, none⟩) (Nat.le_refl _) _⟩
end Go.Proofs.YtjmbejodcloapaaGreat
