/- Contracts: zint.Div and zint.Exact by any divisor (printed by gen/zdivg.py).
   Contract: zint.Gcd of any integers. -/
import Derived.Test.YtjmbejodcloapaaGreatPDvFou
import Derived.Test.YtjmbejodcloapaaGreatPZsc
set_option linter.unusedVariables false
set_option linter.unusedSimpArgs false
namespace Go.Proofs.YtjmbejodcloapaaGreat
open Go.RowKit Cl
attribute [local go_sem ↓] Go.wp_at_zero Go.wp_at_succ
theorem int_div_unique {a b q r : Int} (h : q * b + r = a) (h0 : 0 ≤ r) (h1 : r < b ∨ r < -b) : q = a / b ∧ r = a % b := by
  rcases Int.lt_or_le 0 b with hb | hb
  · have h2 : r < b := by omega
    obtain ⟨e1, e2⟩ := (Int.ediv_emod_unique hb (a := a) (q := q) (r := r)).2 ⟨by rw [Int.mul_comm b q]; omega, h0, h2⟩
    exact ⟨e1.symm, e2.symm⟩
  · have h2 : r < -b := by omega
    obtain ⟨e1, e2⟩ := (Int.ediv_emod_unique (b := -b) (by omega) (a := a) (q := -q) (r := r)).2 ⟨by rw [Int.neg_mul_neg, Int.mul_comm b q]; omega, h0, h2⟩
    rw [Int.ediv_neg] at e1
    rw [Int.emod_neg] at e2
    exact ⟨by omega, e2.symm⟩
theorem nat_dm (X Y : Nat) (h0 : 0 < Y) : ((X / Y : Nat) : Int) * (Y : Int) + ((X % Y : Nat) : Int) = (X : Int) ∧ X % Y < Y := by
  have h1 := Nat.div_add_mod X Y
  have h2 : ((Y * (X / Y) + X % Y : Nat) : Int) = (X : Int) := by rw [h1]
  rw [Int.natCast_add, Int.natCast_mul, Int.mul_comm] at h2
  exact ⟨h2, Nat.mod_lt X h0⟩
theorem zdiv_pos (t : Bool) {xs ys qs rs : List Int} (hq : limbs qs = limbs xs / limbs ys) (hr : limbs rs = limbs xs % limbs ys) (h0 : 0 < limbs ys) : intZ (false != t) qs = intZ false xs / intZ t ys ∧ intZ false rs = intZ false xs % intZ t ys := by
  obtain ⟨h1, h2⟩ := nat_dm (limbs xs) (limbs ys) h0
  unfold intZ
  rw [hq, hr]
  generalize limbs xs / limbs ys = Q at *
  generalize limbs xs % limbs ys = R at *
  cases t <;> simp only [Bool.false_eq_true, if_false, if_true, bne_self_eq_false, Bool.false_bne]
  · exact int_div_unique h1 (by omega) (.inl (by omega))
  · exact int_div_unique (by rw [Int.neg_mul_neg]; exact h1) (by omega) (.inr (by omega))
theorem zdiv_neg0 (t : Bool) {xs ys qs rs : List Int} (hq : limbs qs = limbs xs / limbs ys) (hr : limbs rs = limbs xs % limbs ys) (hz : limbs rs = 0) (h0 : 0 < limbs ys) : intZ (true != t) qs = intZ true xs / intZ t ys ∧ intZ false rs = intZ true xs % intZ t ys := by
  obtain ⟨h1, h2⟩ := nat_dm (limbs xs) (limbs ys) h0
  unfold intZ
  rw [hq, hz]
  rw [hz] at hr
  rw [← hr] at h1
  generalize limbs xs / limbs ys = Q at *
  cases t <;> simp only [Bool.false_eq_true, if_false, if_true, Bool.bne_false, bne_self_eq_false]
  · exact int_div_unique (by rw [Int.neg_mul]; omega) (by omega) (.inl (by omega))
  · exact int_div_unique (by rw [Int.mul_neg]; omega) (by omega) (.inr (by omega))
theorem zdiv_neg (t : Bool) {xs ys qs rs : List Int} (hq : limbs qs = limbs xs / limbs ys + 1) (hr : limbs rs = limbs ys - limbs xs % limbs ys) (hz : 0 < limbs xs % limbs ys) (h0 : 0 < limbs ys) : intZ (true != t) qs = intZ true xs / intZ t ys ∧ intZ false rs = intZ true xs % intZ t ys := by
  obtain ⟨h1, h2⟩ := nat_dm (limbs xs) (limbs ys) h0
  unfold intZ
  rw [hq, hr]
  generalize limbs xs / limbs ys = Q at *
  generalize limbs xs % limbs ys = R at *
  have h3 : ((limbs ys - R : Nat) : Int) = (limbs ys : Int) - (R : Int) := by omega
  cases t <;> simp only [Bool.false_eq_true, if_false, if_true, Bool.bne_false, bne_self_eq_false]
  · exact int_div_unique (by rw [h3, Int.neg_mul, Int.natCast_add, Int.add_mul]; omega) (by omega) (.inl (by omega))
  · exact int_div_unique (by rw [h3, Int.mul_neg, Int.natCast_add, Int.add_mul]; omega) (by omega) (.inr (by omega))
def GivesZF (w : World) (z : Int) (K : Nat) (e : Ending) (w' : World) : Prop :=
  ∃ s A k c ls, e = .returned (.agg #[.bool s, .slice A k c]) ∧ k ≤ c ∧ c ≤ 9223372036854775807 ∧ k ≤ K ∧ Limbs w' A k ls ∧ ZVal s ls z ∧ (0 < k → ∀ y, A = some y → w.heap.size ≤ y.block) ∧ Below w.heap.size w w'
theorem zmadeZF (neg : Bool) (A : Option Addr) (n c : Nat) (xs : List Int) (w : World) (hx : Limbs w A n xs) (hn : n ≤ c) (hc : c ≤ 9223372036854775807) (hn8 : n ≤ 100000000) :
    Calls Tryz.prog 56 #[.bool neg, .slice A n c] w fun e w' => ∃ s A k c ls, e = .returned (.agg #[.bool s, .slice A k c]) ∧ k ≤ c ∧ c ≤ 9223372036854775807 ∧ k ≤ n ∧ Limbs w' A k ls ∧ ZVal s ls (intZ neg xs) ∧ (0 < k → ∀ y, A = some y → w.heap.size ≤ y.block) ∧ Below w.heap.size w w' := by
  have hz := intZ_made hx.ok hx.len neg
  have hl := lmN_le xs n
  refine (zmade_f neg A n c xs w hx hn hc (by omega)).mono ?_
  rintro e w' ⟨A1, c1, rfl, h1, h2, h3, h4, h5⟩
  exact ⟨_, A1, _, c1, _, rfl, h1, h2, by rw [List.length_take]; omega, h3, hz, h5, h4⟩
def DivZ (w : World) (K : Nat) (a b : Int) (e : Ending) (w' : World) : Prop :=
  ∃ s1 A1 k1 c1 l1 s2 A2 k2 c2 l2, e = .returned (.tuple #[.agg #[.bool s1, .slice A1 k1 c1], .agg #[.bool s2, .slice A2 k2 c2], .int .i64 0]) ∧ k1 ≤ K ∧ k2 ≤ K ∧ k1 ≤ c1 ∧ c1 ≤ 9223372036854775807 ∧ k2 ≤ c2 ∧ c2 ≤ 9223372036854775807 ∧ Limbs w' A1 k1 l1 ∧ Limbs w' A2 k2 l2 ∧ ZVal s1 l1 (a / b) ∧ ZVal s2 l2 (a % b) ∧ (0 < k1 → ∀ y, A1 = some y → w.heap.size ≤ y.block) ∧ Below w.heap.size w w'
set_option maxRecDepth 100000 in
set_option maxHeartbeats 4000000 in
theorem zdiv00 (A B : Option Addr) (n m c d : Nat) (xs ys : List Int) (w : World) (hx : Limbs w A n xs) (hy : Limbs w B m ys) (hnc : n ≤ c) (hc : c ≤ 9223372036854775807) (hmd : m ≤ d) (hd : d ≤ 9223372036854775807) (hn : n ≤ 1000000) (hm : m ≤ 1000000) (h0 : 0 < limbs ys) :
    Calls Tryz.prog 54 #[.agg #[.bool false, .slice A n c], .agg #[.bool false, .slice B m d]] w (DivZ w (n + m + 10) (intZ false xs) (intZ false ys)) := by
  have Cd := Lib.hid (fun W (h : Below w.heap.size w W) => nat_div A B n m c d xs ys W (hx.bel h) (hy.bel h) hnc hc hmd hd hn hm h0)
  obtain ⟨da, db, dq, dr, b4⟩ := duo4 w (.bool false) (.slice A n c) (.bool false) (.slice B m d) (.bool false) (.slice none 0 0) (.bool false) (.slice none 0 0)
  go_enter Tryz.func54, Tryz.ntmps54
  go_wp2_with fail
  have Da := Lib.hid da
  have Db := Lib.hid db
  have Dq := Lib.hid dq
  have Dr := Lib.hid dr
  have a1 := da.cell1
  have e1 := db.cell1
  have Hy := Lib.hid (hy.bel b4)
  clear da db dq dr hx hy
  generalize (((w.alloc (.cells #[.bool false, .slice A n c] 32)).alloc (.cells #[.bool false, .slice B m d] 32)).alloc (.cells #[.bool false, .slice none 0 0] 32)).alloc (.cells #[.bool false, .slice none 0 0] 32) = wt at *
  go_wp2_with fail
  refine (Cd.out _ (by exact b4)).mono ?_
  rintro e w1 ⟨qs, rs, A1, k1, c1, A2, k2, c2, rfl, g1, g2, g3, g4, g5, g6, g7, g8, g9, g10, g11, g12, hbw1⟩
  have q0 := (Da.out.bel hbw1).cell0
  have q1 := (Db.out.bel hbw1).cell0
  have q2 := (Db.out.bel hbw1).cell1
  have H5 := Lib.hid g11
  have H6 := Lib.hid g12
  have Hy1 := Lib.hid (Hy.out.bel hbw1)
  clear g11 g12 a1 e1
  go_wp2_with fail
  refine (zmadeZF false A1 k1 c1 qs w1 H5.out (by omega) (by omega) (by omega)).mono ?_
  rintro e w7 ⟨s7, A7, k7, c7, ls, rfl, m1, m2, m3, m4, m5, m6, hbw7⟩
  clear q0 q1 q2
  go_wp2_with fail
  refine (zmadeZ false A2 k2 c2 rs w7 (H6.out.bel hbw7) (by omega) (by omega) (by omega)).mono ?_
  rintro e w8 ⟨s8, A8, k8, c8, l8, rfl, p1, p2, p3, p4, p5, hbw8⟩
  have hb8 : Below wt.heap.size wt w8 := (hbw1.trans (hbw7.mono hbw1.size)).trans (hbw8.mono ((hbw1.trans (hbw7.mono hbw1.size)).size))
  have Dq3 := Dq.out.bel hb8
  have Dr3 := Dr.out.bel hb8
  have r0 := Dq3.cell0
  have r1 := Dq3.cell1
  have t0 := Dr3.cell0
  have t1 := Dr3.cell1
  have f0 := Dq3.frozen 0
  have f1 := Dq3.frozen 1
  have f2 := Dr3.frozen 0
  have f3 := Dr3.frozen 1
  have HL7 := Lib.hid (m4.bel hbw8)
  have HL8 := Lib.hid p4
  have ne1 : w.heap.size + 1 + 1 ≠ w.heap.size + 1 + 1 + 1 := by omega
  have ne2 : w.heap.size + 1 + 1 + 1 ≠ w.heap.size + 1 + 1 := by omega
  have le1 : w.heap.size ≤ w.heap.size + 1 + 1 := by omega
  have le2 : w.heap.size ≤ w.heap.size + 1 + 1 + 1 := by omega
  have Hb : Hid (Below w.heap.size w w8) := b4.trans (hb8.mono b4.size)
  have Hz : Hid (ZVal s7 ls (intZ false xs / intZ false ys)) := by
    have h := m5
    have e : intZ false qs = intZ false xs / intZ false ys := ((zdiv_pos false g3 g4 h0).1)
    rw [e] at h
    exact h
  have Hz8 : Hid (ZVal s8 l8 (intZ false xs % intZ false ys)) := by
    have h := p5
    have e : intZ false rs = intZ false xs % intZ false ys := ((zdiv_pos false g3 g4 h0).2)
    rw [e] at h
    exact h
  have HQ := Lib.hid Dq3
  have HR := Lib.hid Dr3
  have hf7 : Hid (0 < k7 → ∀ y, A7 = some y → w.heap.size ≤ y.block) := fun h0 y hy => Nat.le_trans (Nat.le_trans b4.size hbw1.size) (m6 h0 y hy)
  have hk7 : k7 ≤ n + m + 10 := by omega
  have hk8 : k8 ≤ n + m + 10 := by omega
  clear Dq3 Dr3 m4 m5 m6 p4 p5 hb8 hbw1 hbw7 hbw8 b4 Cd g1 g2 g3 g4
  generalize w.heap.size + 1 + 1 + 1 = gr at *
  generalize w.heap.size + 1 + 1 = gq at *
  go_wp2_with fail
  have X1 := (HR.out.other ⟨gq, 0, none⟩ ne1 (.bool s7)).other ⟨gq, 1, none⟩ ne1 (.slice A7 k7 c7)
  have X2 := ((HQ.out.set (.bool s7) (.slice A7 k7 c7)).other ⟨gr, 0, none⟩ ne2 (.bool s8)).other ⟨gr, 1, none⟩ ne2 (.slice A8 k8 c8)
  refine bodyPost_ret (results_cell2_tmp (fn := Tryz.f54) rfl _ _ _ _ _ _ _ _ _ _ _ _ rfl X2 rfl (X1.set _ _) Tryz.underlying32 rfl aint_size Tryz.underlying32 rfl aint_size) rfl ?_
  exact ⟨s7, A7, k7, c7, ls, s8, A8, k8, c8, l8, rfl, hk7, hk8, m1, m2, p1, p2, X1.limbs _ _ rfl rfl (HQ.out.limbs _ _ rfl rfl HL7.out), X1.limbs _ _ rfl rfl (HQ.out.limbs _ _ rfl rfl HL8.out), Hz.out, Hz8.out, hf7.out, (((Hb.out.setCell (p := ⟨gq, 0, none⟩) le1 _).setCell (p := ⟨gq, 1, none⟩) le1 _).setCell (p := ⟨gr, 0, none⟩) le2 _).setCell (p := ⟨gr, 1, none⟩) le2 _⟩
set_option maxRecDepth 100000 in
set_option maxHeartbeats 4000000 in
theorem zdiv01 (A B : Option Addr) (n m c d : Nat) (xs ys : List Int) (w : World) (hx : Limbs w A n xs) (hy : Limbs w B m ys) (hnc : n ≤ c) (hc : c ≤ 9223372036854775807) (hmd : m ≤ d) (hd : d ≤ 9223372036854775807) (hn : n ≤ 1000000) (hm : m ≤ 1000000) (h0 : 0 < limbs ys) :
    Calls Tryz.prog 54 #[.agg #[.bool false, .slice A n c], .agg #[.bool true, .slice B m d]] w (DivZ w (n + m + 10) (intZ false xs) (intZ true ys)) := by
  have Cd := Lib.hid (fun W (h : Below w.heap.size w W) => nat_div A B n m c d xs ys W (hx.bel h) (hy.bel h) hnc hc hmd hd hn hm h0)
  obtain ⟨da, db, dq, dr, b4⟩ := duo4 w (.bool false) (.slice A n c) (.bool true) (.slice B m d) (.bool false) (.slice none 0 0) (.bool false) (.slice none 0 0)
  go_enter Tryz.func54, Tryz.ntmps54
  go_wp2_with fail
  have Da := Lib.hid da
  have Db := Lib.hid db
  have Dq := Lib.hid dq
  have Dr := Lib.hid dr
  have a1 := da.cell1
  have e1 := db.cell1
  have Hy := Lib.hid (hy.bel b4)
  clear da db dq dr hx hy
  generalize (((w.alloc (.cells #[.bool false, .slice A n c] 32)).alloc (.cells #[.bool true, .slice B m d] 32)).alloc (.cells #[.bool false, .slice none 0 0] 32)).alloc (.cells #[.bool false, .slice none 0 0] 32) = wt at *
  go_wp2_with fail
  refine (Cd.out _ (by exact b4)).mono ?_
  rintro e w1 ⟨qs, rs, A1, k1, c1, A2, k2, c2, rfl, g1, g2, g3, g4, g5, g6, g7, g8, g9, g10, g11, g12, hbw1⟩
  have q0 := (Da.out.bel hbw1).cell0
  have q1 := (Db.out.bel hbw1).cell0
  have q2 := (Db.out.bel hbw1).cell1
  have H5 := Lib.hid g11
  have H6 := Lib.hid g12
  have Hy1 := Lib.hid (Hy.out.bel hbw1)
  clear g11 g12 a1 e1
  go_wp2_with fail
  refine (zmadeZF true A1 k1 c1 qs w1 H5.out (by omega) (by omega) (by omega)).mono ?_
  rintro e w7 ⟨s7, A7, k7, c7, ls, rfl, m1, m2, m3, m4, m5, m6, hbw7⟩
  clear q0 q1 q2
  go_wp2_with fail
  refine (zmadeZ false A2 k2 c2 rs w7 (H6.out.bel hbw7) (by omega) (by omega) (by omega)).mono ?_
  rintro e w8 ⟨s8, A8, k8, c8, l8, rfl, p1, p2, p3, p4, p5, hbw8⟩
  have hb8 : Below wt.heap.size wt w8 := (hbw1.trans (hbw7.mono hbw1.size)).trans (hbw8.mono ((hbw1.trans (hbw7.mono hbw1.size)).size))
  have Dq3 := Dq.out.bel hb8
  have Dr3 := Dr.out.bel hb8
  have r0 := Dq3.cell0
  have r1 := Dq3.cell1
  have t0 := Dr3.cell0
  have t1 := Dr3.cell1
  have f0 := Dq3.frozen 0
  have f1 := Dq3.frozen 1
  have f2 := Dr3.frozen 0
  have f3 := Dr3.frozen 1
  have HL7 := Lib.hid (m4.bel hbw8)
  have HL8 := Lib.hid p4
  have ne1 : w.heap.size + 1 + 1 ≠ w.heap.size + 1 + 1 + 1 := by omega
  have ne2 : w.heap.size + 1 + 1 + 1 ≠ w.heap.size + 1 + 1 := by omega
  have le1 : w.heap.size ≤ w.heap.size + 1 + 1 := by omega
  have le2 : w.heap.size ≤ w.heap.size + 1 + 1 + 1 := by omega
  have Hb : Hid (Below w.heap.size w w8) := b4.trans (hb8.mono b4.size)
  have Hz : Hid (ZVal s7 ls (intZ false xs / intZ true ys)) := by
    have h := m5
    have e : intZ true qs = intZ false xs / intZ true ys := ((zdiv_pos true g3 g4 h0).1)
    rw [e] at h
    exact h
  have Hz8 : Hid (ZVal s8 l8 (intZ false xs % intZ true ys)) := by
    have h := p5
    have e : intZ false rs = intZ false xs % intZ true ys := ((zdiv_pos true g3 g4 h0).2)
    rw [e] at h
    exact h
  have HQ := Lib.hid Dq3
  have HR := Lib.hid Dr3
  have hf7 : Hid (0 < k7 → ∀ y, A7 = some y → w.heap.size ≤ y.block) := fun h0 y hy => Nat.le_trans (Nat.le_trans b4.size hbw1.size) (m6 h0 y hy)
  have hk7 : k7 ≤ n + m + 10 := by omega
  have hk8 : k8 ≤ n + m + 10 := by omega
  clear Dq3 Dr3 m4 m5 m6 p4 p5 hb8 hbw1 hbw7 hbw8 b4 Cd g1 g2 g3 g4
  generalize w.heap.size + 1 + 1 + 1 = gr at *
  generalize w.heap.size + 1 + 1 = gq at *
  go_wp2_with fail
  have X1 := (HR.out.other ⟨gq, 0, none⟩ ne1 (.bool s7)).other ⟨gq, 1, none⟩ ne1 (.slice A7 k7 c7)
  have X2 := ((HQ.out.set (.bool s7) (.slice A7 k7 c7)).other ⟨gr, 0, none⟩ ne2 (.bool s8)).other ⟨gr, 1, none⟩ ne2 (.slice A8 k8 c8)
  refine bodyPost_ret (results_cell2_tmp (fn := Tryz.f54) rfl _ _ _ _ _ _ _ _ _ _ _ _ rfl X2 rfl (X1.set _ _) Tryz.underlying32 rfl aint_size Tryz.underlying32 rfl aint_size) rfl ?_
  exact ⟨s7, A7, k7, c7, ls, s8, A8, k8, c8, l8, rfl, hk7, hk8, m1, m2, p1, p2, X1.limbs _ _ rfl rfl (HQ.out.limbs _ _ rfl rfl HL7.out), X1.limbs _ _ rfl rfl (HQ.out.limbs _ _ rfl rfl HL8.out), Hz.out, Hz8.out, hf7.out, (((Hb.out.setCell (p := ⟨gq, 0, none⟩) le1 _).setCell (p := ⟨gq, 1, none⟩) le1 _).setCell (p := ⟨gr, 0, none⟩) le2 _).setCell (p := ⟨gr, 1, none⟩) le2 _⟩
set_option maxRecDepth 100000 in
set_option maxHeartbeats 4000000 in
theorem zdiv10 (A B : Option Addr) (n m c d : Nat) (xs ys : List Int) (w : World) (hx : Limbs w A n xs) (hy : Limbs w B m ys) (hnc : n ≤ c) (hc : c ≤ 9223372036854775807) (hmd : m ≤ d) (hd : d ≤ 9223372036854775807) (hn : n ≤ 1000000) (hm : m ≤ 1000000) (h0 : 0 < limbs ys) :
    Calls Tryz.prog 54 #[.agg #[.bool true, .slice A n c], .agg #[.bool false, .slice B m d]] w (DivZ w (n + m + 10) (intZ true xs) (intZ false ys)) := by
  have Cd := Lib.hid (fun W (h : Below w.heap.size w W) => nat_div A B n m c d xs ys W (hx.bel h) (hy.bel h) hnc hc hmd hd hn hm h0)
  obtain ⟨da, db, dq, dr, b4⟩ := duo4 w (.bool true) (.slice A n c) (.bool false) (.slice B m d) (.bool false) (.slice none 0 0) (.bool false) (.slice none 0 0)
  go_enter Tryz.func54, Tryz.ntmps54
  go_wp2_with fail
  have Da := Lib.hid da
  have Db := Lib.hid db
  have Dq := Lib.hid dq
  have Dr := Lib.hid dr
  have a1 := da.cell1
  have e1 := db.cell1
  have Hy := Lib.hid (hy.bel b4)
  clear da db dq dr hx hy
  generalize (((w.alloc (.cells #[.bool true, .slice A n c] 32)).alloc (.cells #[.bool false, .slice B m d] 32)).alloc (.cells #[.bool false, .slice none 0 0] 32)).alloc (.cells #[.bool false, .slice none 0 0] 32) = wt at *
  go_wp2_with fail
  refine (Cd.out _ (by exact b4)).mono ?_
  rintro e w1 ⟨qs, rs, A1, k1, c1, A2, k2, c2, rfl, g1, g2, g3, g4, g5, g6, g7, g8, g9, g10, g11, g12, hbw1⟩
  have q0 := (Da.out.bel hbw1).cell0
  have q1 := (Db.out.bel hbw1).cell0
  have q2 := (Db.out.bel hbw1).cell1
  have H5 := Lib.hid g11
  have H6 := Lib.hid g12
  have Hy1 := Lib.hid (Hy.out.bel hbw1)
  clear g11 g12 a1 e1
  have hk2 := H6.out.len
  by_cases hz : k2 = 0
  · have hz' : ¬ (0 : Int) < (k2 : Int) := by omega
    have hr0 : limbs rs = 0 := g2.nil_iff.2 (by omega)
    clear hz
    go_wp2_with fail
    refine (zmadeZF true A1 k1 c1 qs w1 H5.out (by omega) (by omega) (by omega)).mono ?_
    rintro e w7 ⟨s7, A7, k7, c7, ls, rfl, m1, m2, m3, m4, m5, m6, hbw7⟩
    clear q0 q1 q2
    go_wp2_with fail
    refine (zmadeZ false A2 k2 c2 rs w7 (H6.out.bel hbw7) (by omega) (by omega) (by omega)).mono ?_
    rintro e w8 ⟨s8, A8, k8, c8, l8, rfl, p1, p2, p3, p4, p5, hbw8⟩
    have hb8 : Below wt.heap.size wt w8 := (hbw1.trans (hbw7.mono hbw1.size)).trans (hbw8.mono ((hbw1.trans (hbw7.mono hbw1.size)).size))
    have Dq3 := Dq.out.bel hb8
    have Dr3 := Dr.out.bel hb8
    have r0 := Dq3.cell0
    have r1 := Dq3.cell1
    have t0 := Dr3.cell0
    have t1 := Dr3.cell1
    have f0 := Dq3.frozen 0
    have f1 := Dq3.frozen 1
    have f2 := Dr3.frozen 0
    have f3 := Dr3.frozen 1
    have HL7 := Lib.hid (m4.bel hbw8)
    have HL8 := Lib.hid p4
    have ne1 : w.heap.size + 1 + 1 ≠ w.heap.size + 1 + 1 + 1 := by omega
    have ne2 : w.heap.size + 1 + 1 + 1 ≠ w.heap.size + 1 + 1 := by omega
    have le1 : w.heap.size ≤ w.heap.size + 1 + 1 := by omega
    have le2 : w.heap.size ≤ w.heap.size + 1 + 1 + 1 := by omega
    have Hb : Hid (Below w.heap.size w w8) := b4.trans (hb8.mono b4.size)
    have Hz : Hid (ZVal s7 ls (intZ true xs / intZ false ys)) := by
      have h := m5
      have e : intZ true qs = intZ true xs / intZ false ys := ((zdiv_neg0 false g3 g4 hr0 h0).1)
      rw [e] at h
      exact h
    have Hz8 : Hid (ZVal s8 l8 (intZ true xs % intZ false ys)) := by
      have h := p5
      have e : intZ false rs = intZ true xs % intZ false ys := ((zdiv_neg0 false g3 g4 hr0 h0).2)
      rw [e] at h
      exact h
    have HQ := Lib.hid Dq3
    have HR := Lib.hid Dr3
    have hf7 : Hid (0 < k7 → ∀ y, A7 = some y → w.heap.size ≤ y.block) := fun h0 y hy => Nat.le_trans (Nat.le_trans b4.size hbw1.size) (m6 h0 y hy)
    have hk7 : k7 ≤ n + m + 10 := by omega
    have hk8 : k8 ≤ n + m + 10 := by omega
    clear Dq3 Dr3 m4 m5 m6 p4 p5 hb8 hbw1 hbw7 hbw8 b4 Cd g1 g2 g3 g4
    generalize w.heap.size + 1 + 1 + 1 = gr at *
    generalize w.heap.size + 1 + 1 = gq at *
    go_wp2_with fail
    have X1 := (HR.out.other ⟨gq, 0, none⟩ ne1 (.bool s7)).other ⟨gq, 1, none⟩ ne1 (.slice A7 k7 c7)
    have X2 := ((HQ.out.set (.bool s7) (.slice A7 k7 c7)).other ⟨gr, 0, none⟩ ne2 (.bool s8)).other ⟨gr, 1, none⟩ ne2 (.slice A8 k8 c8)
    refine bodyPost_ret (results_cell2_tmp (fn := Tryz.f54) rfl _ _ _ _ _ _ _ _ _ _ _ _ rfl X2 rfl (X1.set _ _) Tryz.underlying32 rfl aint_size Tryz.underlying32 rfl aint_size) rfl ?_
    exact ⟨s7, A7, k7, c7, ls, s8, A8, k8, c8, l8, rfl, hk7, hk8, m1, m2, p1, p2, X1.limbs _ _ rfl rfl (HQ.out.limbs _ _ rfl rfl HL7.out), X1.limbs _ _ rfl rfl (HQ.out.limbs _ _ rfl rfl HL8.out), Hz.out, Hz8.out, hf7.out, (((Hb.out.setCell (p := ⟨gq, 0, none⟩) le1 _).setCell (p := ⟨gq, 1, none⟩) le1 _).setCell (p := ⟨gr, 0, none⟩) le2 _).setCell (p := ⟨gr, 1, none⟩) le2 _⟩
  · have hz' : (0 : Int) < (k2 : Int) := by omega
    have hr0 : 0 < limbs rs := Nat.pos_of_ne_zero (fun e => hz (by have := g2.nil_iff.1 e; omega))
    have hrle : limbs rs ≤ limbs ys := by rw [g4]; exact Nat.le_of_lt (Nat.mod_lt _ h0)
    have hone := Limbs.one w1 81 (x := 1) (by omega) (by omega)
    have hbo : Below w1.heap.size w1 (w1.alloc (.cells #[.int .u64 1] 81)) := (Below.refl _ _).alloc (Nat.le_refl _) _
    have Ca := Lib.hid (nat_add A1 (some ⟨w1.heap.size, 0, none⟩) k1 1 c1 1 qs [1] _ (H5.out.bel hbo) hone (by omega) (by omega))
    have Cs := Lib.hid (fun W (h : Below w1.heap.size w1 W) => nat_sub B A2 m k2 d c2 ys rs W (Hy1.out.bel h) (H6.out.bel h) (by omega) (by omega) hrle)
    have hadd := addL_spec H5.out.ok hone.ok
    have hsub := subL_spec Hy1.out.ok H6.out.ok hrle
    have hl1 := H5.out.len
    have hl2 := Hy1.out.len
    clear hz hone
    go_wp2_with fail
    refine Ca.out.mono ?_
    rintro e w4 ⟨A4, k4, c4, rfl, f4a, f4b, f4c, f4d, f4e⟩
    have hb4 : Below wt.heap.size wt w4 := hbw1.trans ((hbo.trans (f4e.mono hbo.size)).mono hbw1.size)
    have hb4' : Below w1.heap.size w1 w4 := hbo.trans (f4e.mono hbo.size)
    replace q0 := (Da.out.bel hb4).cell0
    replace q1 := (Db.out.bel hb4).cell0
    replace q2 := (Db.out.bel hb4).cell1
    clear Ca
    go_wp2_with fail
    refine (Cs.out _ hb4').mono ?_
    rintro e w5 ⟨A5, k5, c5, rfl, f5a, f5b, f5c, f5d, f5e⟩
    have hb5 : Below wt.heap.size wt w5 := hb4.trans (f5e.mono hb4.size)
    replace q0 := (Da.out.bel hb5).cell0
    replace q1 := (Db.out.bel hb5).cell0
    replace q2 := (Db.out.bel hb5).cell1
    have f4L := Lib.hid (f4c.bel f5e)
    have f5L := Lib.hid f5c
    have hk4 : k4 ≤ n + 3 := by have := f4c.len; rw [← this]; have := hadd.2.2; rw [hl1] at this; simp at this; omega
    have hk5 : k5 ≤ n + m + 3 := by have := f5c.len; rw [← this]; have := hsub.2.2.2; rw [hl2, hk2] at this; omega
    have hq4 : limbs (addL qs [1]) = limbs xs / limbs ys + 1 := by rw [hadd.2.1, g3]; rfl
    have hr5 : limbs (subL ys rs) = limbs ys - limbs xs % limbs ys := by rw [hsub.2.2.1, g4]
    have hrm : 0 < limbs xs % limbs ys := by rw [← g4]; exact hr0
    clear Cs f4c f4d f4e f5c f5d f5e hadd hsub hl1 hl2 hb4 hb4' hbo hrle
    go_wp2_with fail
    refine (zmadeZF true A4 k4 c4 (addL qs [1]) w5 f4L.out (by omega) (by omega) (by omega)).mono ?_
    rintro e w7 ⟨s7, A7, k7, c7, ls, rfl, m1, m2, m3, m4, m5, m6, hbw7⟩
    clear q0 q1 q2
    go_wp2_with fail
    refine (zmadeZ false A5 k5 c5 (subL ys rs) w7 (f5L.out.bel hbw7) (by omega) (by omega) (by omega)).mono ?_
    rintro e w8 ⟨s8, A8, k8, c8, l8, rfl, p1, p2, p3, p4, p5, hbw8⟩
    have hb8 : Below wt.heap.size wt w8 := (hb5.trans (hbw7.mono hb5.size)).trans (hbw8.mono ((hb5.trans (hbw7.mono hb5.size)).size))
    have Dq3 := Dq.out.bel hb8
    have Dr3 := Dr.out.bel hb8
    have r0 := Dq3.cell0
    have r1 := Dq3.cell1
    have t0 := Dr3.cell0
    have t1 := Dr3.cell1
    have f0 := Dq3.frozen 0
    have f1 := Dq3.frozen 1
    have f2 := Dr3.frozen 0
    have f3 := Dr3.frozen 1
    have HL7 := Lib.hid (m4.bel hbw8)
    have HL8 := Lib.hid p4
    have ne1 : w.heap.size + 1 + 1 ≠ w.heap.size + 1 + 1 + 1 := by omega
    have ne2 : w.heap.size + 1 + 1 + 1 ≠ w.heap.size + 1 + 1 := by omega
    have le1 : w.heap.size ≤ w.heap.size + 1 + 1 := by omega
    have le2 : w.heap.size ≤ w.heap.size + 1 + 1 + 1 := by omega
    have Hb : Hid (Below w.heap.size w w8) := b4.trans (hb8.mono b4.size)
    have Hz : Hid (ZVal s7 ls (intZ true xs / intZ false ys)) := by
      have h := m5
      have e : intZ true (addL qs [1]) = intZ true xs / intZ false ys := ((zdiv_neg false hq4 hr5 hrm h0).1)
      rw [e] at h
      exact h
    have Hz8 : Hid (ZVal s8 l8 (intZ true xs % intZ false ys)) := by
      have h := p5
      have e : intZ false (subL ys rs) = intZ true xs % intZ false ys := ((zdiv_neg false hq4 hr5 hrm h0).2)
      rw [e] at h
      exact h
    have HQ := Lib.hid Dq3
    have HR := Lib.hid Dr3
    have hf7 : Hid (0 < k7 → ∀ y, A7 = some y → w.heap.size ≤ y.block) := fun h0 y hy => Nat.le_trans (Nat.le_trans b4.size hb5.size) (m6 h0 y hy)
    have hk7 : k7 ≤ n + m + 10 := by omega
    have hk8 : k8 ≤ n + m + 10 := by omega
    clear Dq3 Dr3 m4 m5 m6 p4 p5 hb8 hbw1 hbw7 hbw8 b4 Cd g1 g2 g3 g4
    generalize w.heap.size + 1 + 1 + 1 = gr at *
    generalize w.heap.size + 1 + 1 = gq at *
    go_wp2_with fail
    have X1 := (HR.out.other ⟨gq, 0, none⟩ ne1 (.bool s7)).other ⟨gq, 1, none⟩ ne1 (.slice A7 k7 c7)
    have X2 := ((HQ.out.set (.bool s7) (.slice A7 k7 c7)).other ⟨gr, 0, none⟩ ne2 (.bool s8)).other ⟨gr, 1, none⟩ ne2 (.slice A8 k8 c8)
    refine bodyPost_ret (results_cell2_tmp (fn := Tryz.f54) rfl _ _ _ _ _ _ _ _ _ _ _ _ rfl X2 rfl (X1.set _ _) Tryz.underlying32 rfl aint_size Tryz.underlying32 rfl aint_size) rfl ?_
    exact ⟨s7, A7, k7, c7, ls, s8, A8, k8, c8, l8, rfl, hk7, hk8, m1, m2, p1, p2, X1.limbs _ _ rfl rfl (HQ.out.limbs _ _ rfl rfl HL7.out), X1.limbs _ _ rfl rfl (HQ.out.limbs _ _ rfl rfl HL8.out), Hz.out, Hz8.out, hf7.out, (((Hb.out.setCell (p := ⟨gq, 0, none⟩) le1 _).setCell (p := ⟨gq, 1, none⟩) le1 _).setCell (p := ⟨gr, 0, none⟩) le2 _).setCell (p := ⟨gr, 1, none⟩) le2 _⟩
set_option maxRecDepth 100000 in
set_option maxHeartbeats 4000000 in
theorem zdiv11 (A B : Option Addr) (n m c d : Nat) (xs ys : List Int) (w : World) (hx : Limbs w A n xs) (hy : Limbs w B m ys) (hnc : n ≤ c) (hc : c ≤ 9223372036854775807) (hmd : m ≤ d) (hd : d ≤ 9223372036854775807) (hn : n ≤ 1000000) (hm : m ≤ 1000000) (h0 : 0 < limbs ys) :
    Calls Tryz.prog 54 #[.agg #[.bool true, .slice A n c], .agg #[.bool true, .slice B m d]] w (DivZ w (n + m + 10) (intZ true xs) (intZ true ys)) := by
  have Cd := Lib.hid (fun W (h : Below w.heap.size w W) => nat_div A B n m c d xs ys W (hx.bel h) (hy.bel h) hnc hc hmd hd hn hm h0)
  obtain ⟨da, db, dq, dr, b4⟩ := duo4 w (.bool true) (.slice A n c) (.bool true) (.slice B m d) (.bool false) (.slice none 0 0) (.bool false) (.slice none 0 0)
  go_enter Tryz.func54, Tryz.ntmps54
  go_wp2_with fail
  have Da := Lib.hid da
  have Db := Lib.hid db
  have Dq := Lib.hid dq
  have Dr := Lib.hid dr
  have a1 := da.cell1
  have e1 := db.cell1
  have Hy := Lib.hid (hy.bel b4)
  clear da db dq dr hx hy
  generalize (((w.alloc (.cells #[.bool true, .slice A n c] 32)).alloc (.cells #[.bool true, .slice B m d] 32)).alloc (.cells #[.bool false, .slice none 0 0] 32)).alloc (.cells #[.bool false, .slice none 0 0] 32) = wt at *
  go_wp2_with fail
  refine (Cd.out _ (by exact b4)).mono ?_
  rintro e w1 ⟨qs, rs, A1, k1, c1, A2, k2, c2, rfl, g1, g2, g3, g4, g5, g6, g7, g8, g9, g10, g11, g12, hbw1⟩
  have q0 := (Da.out.bel hbw1).cell0
  have q1 := (Db.out.bel hbw1).cell0
  have q2 := (Db.out.bel hbw1).cell1
  have H5 := Lib.hid g11
  have H6 := Lib.hid g12
  have Hy1 := Lib.hid (Hy.out.bel hbw1)
  clear g11 g12 a1 e1
  have hk2 := H6.out.len
  by_cases hz : k2 = 0
  · have hz' : ¬ (0 : Int) < (k2 : Int) := by omega
    have hr0 : limbs rs = 0 := g2.nil_iff.2 (by omega)
    clear hz
    go_wp2_with fail
    refine (zmadeZF false A1 k1 c1 qs w1 H5.out (by omega) (by omega) (by omega)).mono ?_
    rintro e w7 ⟨s7, A7, k7, c7, ls, rfl, m1, m2, m3, m4, m5, m6, hbw7⟩
    clear q0 q1 q2
    go_wp2_with fail
    refine (zmadeZ false A2 k2 c2 rs w7 (H6.out.bel hbw7) (by omega) (by omega) (by omega)).mono ?_
    rintro e w8 ⟨s8, A8, k8, c8, l8, rfl, p1, p2, p3, p4, p5, hbw8⟩
    have hb8 : Below wt.heap.size wt w8 := (hbw1.trans (hbw7.mono hbw1.size)).trans (hbw8.mono ((hbw1.trans (hbw7.mono hbw1.size)).size))
    have Dq3 := Dq.out.bel hb8
    have Dr3 := Dr.out.bel hb8
    have r0 := Dq3.cell0
    have r1 := Dq3.cell1
    have t0 := Dr3.cell0
    have t1 := Dr3.cell1
    have f0 := Dq3.frozen 0
    have f1 := Dq3.frozen 1
    have f2 := Dr3.frozen 0
    have f3 := Dr3.frozen 1
    have HL7 := Lib.hid (m4.bel hbw8)
    have HL8 := Lib.hid p4
    have ne1 : w.heap.size + 1 + 1 ≠ w.heap.size + 1 + 1 + 1 := by omega
    have ne2 : w.heap.size + 1 + 1 + 1 ≠ w.heap.size + 1 + 1 := by omega
    have le1 : w.heap.size ≤ w.heap.size + 1 + 1 := by omega
    have le2 : w.heap.size ≤ w.heap.size + 1 + 1 + 1 := by omega
    have Hb : Hid (Below w.heap.size w w8) := b4.trans (hb8.mono b4.size)
    have Hz : Hid (ZVal s7 ls (intZ true xs / intZ true ys)) := by
      have h := m5
      have e : intZ false qs = intZ true xs / intZ true ys := ((zdiv_neg0 true g3 g4 hr0 h0).1)
      rw [e] at h
      exact h
    have Hz8 : Hid (ZVal s8 l8 (intZ true xs % intZ true ys)) := by
      have h := p5
      have e : intZ false rs = intZ true xs % intZ true ys := ((zdiv_neg0 true g3 g4 hr0 h0).2)
      rw [e] at h
      exact h
    have HQ := Lib.hid Dq3
    have HR := Lib.hid Dr3
    have hf7 : Hid (0 < k7 → ∀ y, A7 = some y → w.heap.size ≤ y.block) := fun h0 y hy => Nat.le_trans (Nat.le_trans b4.size hbw1.size) (m6 h0 y hy)
    have hk7 : k7 ≤ n + m + 10 := by omega
    have hk8 : k8 ≤ n + m + 10 := by omega
    clear Dq3 Dr3 m4 m5 m6 p4 p5 hb8 hbw1 hbw7 hbw8 b4 Cd g1 g2 g3 g4
    generalize w.heap.size + 1 + 1 + 1 = gr at *
    generalize w.heap.size + 1 + 1 = gq at *
    go_wp2_with fail
    have X1 := (HR.out.other ⟨gq, 0, none⟩ ne1 (.bool s7)).other ⟨gq, 1, none⟩ ne1 (.slice A7 k7 c7)
    have X2 := ((HQ.out.set (.bool s7) (.slice A7 k7 c7)).other ⟨gr, 0, none⟩ ne2 (.bool s8)).other ⟨gr, 1, none⟩ ne2 (.slice A8 k8 c8)
    refine bodyPost_ret (results_cell2_tmp (fn := Tryz.f54) rfl _ _ _ _ _ _ _ _ _ _ _ _ rfl X2 rfl (X1.set _ _) Tryz.underlying32 rfl aint_size Tryz.underlying32 rfl aint_size) rfl ?_
    exact ⟨s7, A7, k7, c7, ls, s8, A8, k8, c8, l8, rfl, hk7, hk8, m1, m2, p1, p2, X1.limbs _ _ rfl rfl (HQ.out.limbs _ _ rfl rfl HL7.out), X1.limbs _ _ rfl rfl (HQ.out.limbs _ _ rfl rfl HL8.out), Hz.out, Hz8.out, hf7.out, (((Hb.out.setCell (p := ⟨gq, 0, none⟩) le1 _).setCell (p := ⟨gq, 1, none⟩) le1 _).setCell (p := ⟨gr, 0, none⟩) le2 _).setCell (p := ⟨gr, 1, none⟩) le2 _⟩
  · have hz' : (0 : Int) < (k2 : Int) := by omega
    have hr0 : 0 < limbs rs := Nat.pos_of_ne_zero (fun e => hz (by have := g2.nil_iff.1 e; omega))
    have hrle : limbs rs ≤ limbs ys := by rw [g4]; exact Nat.le_of_lt (Nat.mod_lt _ h0)
    have hone := Limbs.one w1 81 (x := 1) (by omega) (by omega)
    have hbo : Below w1.heap.size w1 (w1.alloc (.cells #[.int .u64 1] 81)) := (Below.refl _ _).alloc (Nat.le_refl _) _
    have Ca := Lib.hid (nat_add A1 (some ⟨w1.heap.size, 0, none⟩) k1 1 c1 1 qs [1] _ (H5.out.bel hbo) hone (by omega) (by omega))
    have Cs := Lib.hid (fun W (h : Below w1.heap.size w1 W) => nat_sub B A2 m k2 d c2 ys rs W (Hy1.out.bel h) (H6.out.bel h) (by omega) (by omega) hrle)
    have hadd := addL_spec H5.out.ok hone.ok
    have hsub := subL_spec Hy1.out.ok H6.out.ok hrle
    have hl1 := H5.out.len
    have hl2 := Hy1.out.len
    clear hz hone
    go_wp2_with fail
    refine Ca.out.mono ?_
    rintro e w4 ⟨A4, k4, c4, rfl, f4a, f4b, f4c, f4d, f4e⟩
    have hb4 : Below wt.heap.size wt w4 := hbw1.trans ((hbo.trans (f4e.mono hbo.size)).mono hbw1.size)
    have hb4' : Below w1.heap.size w1 w4 := hbo.trans (f4e.mono hbo.size)
    replace q0 := (Da.out.bel hb4).cell0
    replace q1 := (Db.out.bel hb4).cell0
    replace q2 := (Db.out.bel hb4).cell1
    clear Ca
    go_wp2_with fail
    refine (Cs.out _ hb4').mono ?_
    rintro e w5 ⟨A5, k5, c5, rfl, f5a, f5b, f5c, f5d, f5e⟩
    have hb5 : Below wt.heap.size wt w5 := hb4.trans (f5e.mono hb4.size)
    replace q0 := (Da.out.bel hb5).cell0
    replace q1 := (Db.out.bel hb5).cell0
    replace q2 := (Db.out.bel hb5).cell1
    have f4L := Lib.hid (f4c.bel f5e)
    have f5L := Lib.hid f5c
    have hk4 : k4 ≤ n + 3 := by have := f4c.len; rw [← this]; have := hadd.2.2; rw [hl1] at this; simp at this; omega
    have hk5 : k5 ≤ n + m + 3 := by have := f5c.len; rw [← this]; have := hsub.2.2.2; rw [hl2, hk2] at this; omega
    have hq4 : limbs (addL qs [1]) = limbs xs / limbs ys + 1 := by rw [hadd.2.1, g3]; rfl
    have hr5 : limbs (subL ys rs) = limbs ys - limbs xs % limbs ys := by rw [hsub.2.2.1, g4]
    have hrm : 0 < limbs xs % limbs ys := by rw [← g4]; exact hr0
    clear Cs f4c f4d f4e f5c f5d f5e hadd hsub hl1 hl2 hb4 hb4' hbo hrle
    go_wp2_with fail
    refine (zmadeZF false A4 k4 c4 (addL qs [1]) w5 f4L.out (by omega) (by omega) (by omega)).mono ?_
    rintro e w7 ⟨s7, A7, k7, c7, ls, rfl, m1, m2, m3, m4, m5, m6, hbw7⟩
    clear q0 q1 q2
    go_wp2_with fail
    refine (zmadeZ false A5 k5 c5 (subL ys rs) w7 (f5L.out.bel hbw7) (by omega) (by omega) (by omega)).mono ?_
    rintro e w8 ⟨s8, A8, k8, c8, l8, rfl, p1, p2, p3, p4, p5, hbw8⟩
    have hb8 : Below wt.heap.size wt w8 := (hb5.trans (hbw7.mono hb5.size)).trans (hbw8.mono ((hb5.trans (hbw7.mono hb5.size)).size))
    have Dq3 := Dq.out.bel hb8
    have Dr3 := Dr.out.bel hb8
    have r0 := Dq3.cell0
    have r1 := Dq3.cell1
    have t0 := Dr3.cell0
    have t1 := Dr3.cell1
    have f0 := Dq3.frozen 0
    have f1 := Dq3.frozen 1
    have f2 := Dr3.frozen 0
    have f3 := Dr3.frozen 1
    have HL7 := Lib.hid (m4.bel hbw8)
    have HL8 := Lib.hid p4
    have ne1 : w.heap.size + 1 + 1 ≠ w.heap.size + 1 + 1 + 1 := by omega
    have ne2 : w.heap.size + 1 + 1 + 1 ≠ w.heap.size + 1 + 1 := by omega
    have le1 : w.heap.size ≤ w.heap.size + 1 + 1 := by omega
    have le2 : w.heap.size ≤ w.heap.size + 1 + 1 + 1 := by omega
    have Hb : Hid (Below w.heap.size w w8) := b4.trans (hb8.mono b4.size)
    have Hz : Hid (ZVal s7 ls (intZ true xs / intZ true ys)) := by
      have h := m5
      have e : intZ false (addL qs [1]) = intZ true xs / intZ true ys := ((zdiv_neg true hq4 hr5 hrm h0).1)
      rw [e] at h
      exact h
    have Hz8 : Hid (ZVal s8 l8 (intZ true xs % intZ true ys)) := by
      have h := p5
      have e : intZ false (subL ys rs) = intZ true xs % intZ true ys := ((zdiv_neg true hq4 hr5 hrm h0).2)
      rw [e] at h
      exact h
    have HQ := Lib.hid Dq3
    have HR := Lib.hid Dr3
    have hf7 : Hid (0 < k7 → ∀ y, A7 = some y → w.heap.size ≤ y.block) := fun h0 y hy => Nat.le_trans (Nat.le_trans b4.size hb5.size) (m6 h0 y hy)
    have hk7 : k7 ≤ n + m + 10 := by omega
    have hk8 : k8 ≤ n + m + 10 := by omega
    clear Dq3 Dr3 m4 m5 m6 p4 p5 hb8 hbw1 hbw7 hbw8 b4 Cd g1 g2 g3 g4
    generalize w.heap.size + 1 + 1 + 1 = gr at *
    generalize w.heap.size + 1 + 1 = gq at *
    go_wp2_with fail
    have X1 := (HR.out.other ⟨gq, 0, none⟩ ne1 (.bool s7)).other ⟨gq, 1, none⟩ ne1 (.slice A7 k7 c7)
    have X2 := ((HQ.out.set (.bool s7) (.slice A7 k7 c7)).other ⟨gr, 0, none⟩ ne2 (.bool s8)).other ⟨gr, 1, none⟩ ne2 (.slice A8 k8 c8)
    refine bodyPost_ret (results_cell2_tmp (fn := Tryz.f54) rfl _ _ _ _ _ _ _ _ _ _ _ _ rfl X2 rfl (X1.set _ _) Tryz.underlying32 rfl aint_size Tryz.underlying32 rfl aint_size) rfl ?_
    exact ⟨s7, A7, k7, c7, ls, s8, A8, k8, c8, l8, rfl, hk7, hk8, m1, m2, p1, p2, X1.limbs _ _ rfl rfl (HQ.out.limbs _ _ rfl rfl HL7.out), X1.limbs _ _ rfl rfl (HQ.out.limbs _ _ rfl rfl HL8.out), Hz.out, Hz8.out, hf7.out, (((Hb.out.setCell (p := ⟨gq, 0, none⟩) le1 _).setCell (p := ⟨gq, 1, none⟩) le1 _).setCell (p := ⟨gr, 0, none⟩) le2 _).setCell (p := ⟨gr, 1, none⟩) le2 _⟩
theorem zdivG (s t : Bool) (A B : Option Addr) (n m c d : Nat) (xs ys : List Int) (w : World) (hx : Limbs w A n xs) (hy : Limbs w B m ys) (hnc : n ≤ c) (hc : c ≤ 9223372036854775807) (hmd : m ≤ d) (hd : d ≤ 9223372036854775807) (hn : n ≤ 1000000) (hm : m ≤ 1000000) (h0 : 0 < limbs ys) :
    Calls Tryz.prog 54 #[.agg #[.bool s, .slice A n c], .agg #[.bool t, .slice B m d]] w (DivZ w (n + m + 10) (intZ s xs) (intZ t ys)) := by
  cases s <;> cases t
  · exact zdiv00 A B n m c d xs ys w hx hy hnc hc hmd hd hn hm h0
  · exact zdiv01 A B n m c d xs ys w hx hy hnc hc hmd hd hn hm h0
  · exact zdiv10 A B n m c d xs ys w hx hy hnc hc hmd hd hn hm h0
  · exact zdiv11 A B n m c d xs ys w hx hy hnc hc hmd hd hn hm h0
theorem lmN_plain {xs : List Int} (h : PlainL xs) {n : Nat} (hn : xs.length = n) : lmN xs n = n := by
  have h1 := plainL_take h.1 hn
  have h2 := h1.1.inj h h1.2
  have h3 := congrArg List.length h2
  rw [List.length_take, hn] at h3
  have := lmN_le xs n
  omega
def ExactZ (w : World) (K : Nat) (a b : Int) (e : Ending) (w' : World) : Prop :=
  ∃ s1 A1 k1 c1 l1, e = .returned (.tuple #[.agg #[.bool s1, .slice A1 k1 c1], .int .i64 (if a % b = 0 then 0 else 4)]) ∧ k1 ≤ K ∧ k1 ≤ c1 ∧ c1 ≤ 9223372036854775807 ∧ Limbs w' A1 k1 l1 ∧ (a % b = 0 → ZVal s1 l1 (a / b)) ∧ (0 < k1 → ∀ y, A1 = some y → w.heap.size ≤ y.block) ∧ Below w.heap.size w w'
theorem signN_zero {s : Bool} {xs : List Int} {z : Int} (h : ZVal s xs z) {n : Nat} (hn : xs.length = n) : signN s (lmN xs n) = 0 ↔ z = 0 := by
  rw [lmN_plain h.pl hn, h.zero_iff, hn]
  cases n with
  | zero => exact ⟨fun _ => rfl, fun _ => by cases s <;> rfl⟩
  | succ n => exact ⟨fun e => absurd e (by cases s <;> simp [signN]), fun e => by omega⟩
section
variable (s t : Bool) (A B : Option Addr) (n m c d : Nat) (xs ys : List Int) (w : World) (hx : Limbs w A n xs) (hy : Limbs w B m ys) (hnc : n ≤ c) (hc : c ≤ 9223372036854775807) (hmd : m ≤ d) (hd : d ≤ 9223372036854775807) (hn : n ≤ 1000000) (hm : m ≤ 1000000) (h0 : 0 < limbs ys)
include hx hy hnc hc hmd hd hn hm h0
set_option maxRecDepth 100000 in
set_option maxHeartbeats 4000000 in
theorem zexactG : Calls Tryz.prog 26 #[.agg #[.bool s, .slice A n c], .agg #[.bool t, .slice B m d]] w (ExactZ w (n + m + 10) (intZ s xs) (intZ t ys)) := by
  have Cd := Lib.hid (fun W (h : Below w.heap.size w W) => zdivG s t A B n m c d xs ys W (hx.bel h) (hy.bel h) hnc hc hmd hd hn hm h0)
  have al : ∀ (W : World) (o : Obj), Below W.heap.size W (W.alloc o) := fun W o => (Below.refl _ _).alloc (Nat.le_refl _) o
  have da := ((Duo.new w (.bool s) (.slice A n c)).bel (al _ (.cells #[.bool t, .slice B m d] 32))).bel (al _ (.cells #[.bool false, .slice none 0 0] 32))
  have db := (Duo.new (w.alloc (.cells #[.bool s, .slice A n c] 32)) (.bool t) (.slice B m d)).bel (al _ (.cells #[.bool false, .slice none 0 0] 32))
  have dr := Duo.new ((w.alloc (.cells #[.bool s, .slice A n c] 32)).alloc (.cells #[.bool t, .slice B m d] 32)) (.bool false) (.slice none 0 0)
  rw [World.size_alloc] at db
  rw [World.size_alloc, World.size_alloc] at dr
  have b3 : Below w.heap.size w (((w.alloc (.cells #[.bool s, .slice A n c] 32)).alloc (.cells #[.bool t, .slice B m d] 32)).alloc (.cells #[.bool false, .slice none 0 0] 32)) := ((al w _).alloc (by simp) _).alloc (by simp; omega) _
  generalize intZ s xs = za at *
  generalize intZ t ys = zb at *
  go_enter Tryz.func26, Tryz.ntmps26
  go_wp2_with fail
  have a0 := da.cell0
  have a1 := da.cell1
  have e0 := db.cell0
  have e1 := db.cell1
  have Dr := Lib.hid dr
  clear da db dr hx hy al h0
  generalize ((w.alloc (.cells #[.bool s, .slice A n c] 32)).alloc (.cells #[.bool t, .slice B m d] 32)).alloc (.cells #[.bool false, .slice none 0 0] 32) = wt at *
  go_wp2_with fail
  refine (Cd.out _ (by exact b3)).mono ?_
  rintro e w1 ⟨s1, A1, k1, c1, l1, s2, A2, k2, c2, l2, rfl, g1, g2, g3, g4, g5, g6, g7, g8, g9, g10, g11, hbw1⟩
  have al : ∀ (W : World) (o : Obj), Below W.heap.size W (W.alloc o) := fun W o => (Below.refl _ _).alloc (Nat.le_refl _) o
  have dq := (Duo.new w1 (.bool s1) (.slice A1 k1 c1)).bel (al _ (.cells #[.bool s2, .slice A2 k2 c2] 32))
  have de := Duo.new (w1.alloc (.cells #[.bool s1, .slice A1 k1 c1] 32)) (.bool s2) (.slice A2 k2 c2)
  rw [World.size_alloc] at de
  have hb2 : Below wt.heap.size wt ((w1.alloc (.cells #[.bool s1, .slice A1 k1 c1] 32)).alloc (.cells #[.bool s2, .slice A2 k2 c2] 32)) := (hbw1.alloc hbw1.size _).alloc (by have := hbw1.size; simp; omega) _
  have hL := (g7.alloc (.cells #[.bool s1, .slice A1 k1 c1] 32)).alloc (.cells #[.bool s2, .slice A2 k2 c2] 32)
  have hL2 := (g8.alloc (.cells #[.bool s1, .slice A1 k1 c1] 32)).alloc (.cells #[.bool s2, .slice A2 k2 c2] 32)
  have Hz := Lib.hid g9
  have HF : Hid (0 < k1 → ∀ y, A1 = some y → w.heap.size ≤ y.block) := fun h y hy => Nat.le_trans b3.size (g11 h y hy)
  have HL := Lib.hid hL
  have HL2 := Lib.hid hL2
  have HB := Lib.hid hb2
  have HDq := Lib.hid dq
  have HDe := Lib.hid de
  have hsg := signN_zero g10 g8.len
  have e2 := de.cell0
  have e3 := de.cell1
  clear a0 a1 e0 e1 dq de hL hL2 hb2 g7 g8 g9 g10 g11 al
  go_wp2_with fail
  have hlt := hbw1.size
  clear hbw1
  generalize (w1.alloc (.cells #[.bool s1, .slice A1 k1 c1] 32)).alloc (.cells #[.bool s2, .slice A2 k2 c2] 32) = w2 at *
  refine (zsign_any s2 A2 k2 c2 l2 w2 HL2.out g5 g6 (by omega)).mono ?_
  rintro e w3 ⟨rfl, hbw3⟩
  have hb3 : Below wt.heap.size wt w3 := HB.out.trans (hbw3.mono HB.out.size)
  have Dq3 := HDq.out.bel hbw3
  have Dr3 := Dr.out.bel hb3
  have q0 := Dq3.cell0
  have q1 := Dq3.cell1
  have r0 := Dr3.cell0
  have r1 := Dr3.cell1
  have f0 := Dr3.frozen 0
  have f1 := Dr3.frozen 1
  have hL3 := Lib.hid (HL.out.bel hbw3)
  have le1 : w.heap.size ≤ w.heap.size + 1 + 1 := by omega
  have Hb : Hid (Below w.heap.size w w3) := b3.trans (hb3.mono b3.size)
  have HD3 := Lib.hid Dr3
  have Hsg := Lib.hid hsg
  clear hb3 hbw3 Dq3 Dr3 b3 Cd HL HB HDq HDe hsg e2 e3
  generalize signN s2 (lmN l2 k2) = sg at *
  by_cases hz : za % zb = 0
  · have hs1 : (sg == 0) = true := by simp; exact Hsg.out.2 hz
    have hs2 : (sg != 0) = false := by simp; exact Hsg.out.2 hz
    have HZ := Lib.hid hz
    clear hz
    go_wp2_with fail
    refine bodyPost_ret (results_cell_tmp (fn := Tryz.f26) rfl _ _ _ _ _ _ _ rfl (HD3.out.set _ _) Tryz.underlying32 rfl aint_size) rfl ?_
    unfold ExactZ
    rw [if_pos HZ.out]
    exact ⟨s1, A1, k1, c1, l1, rfl, g1, g3, g4, HD3.out.limbs _ _ rfl rfl hL3.out, fun _ => Hz.out, HF.out, (Hb.out.setCell (p := ⟨w.heap.size + 1 + 1, 0, none⟩) le1 _).setCell (p := ⟨w.heap.size + 1 + 1, 1, none⟩) le1 _⟩
  · have hs1 : (sg == 0) = false := by simp; exact fun e => hz (Hsg.out.1 e)
    have hs2 : (sg != 0) = true := by simp; exact fun e => hz (Hsg.out.1 e)
    have HZ := Lib.hid hz
    clear hz
    go_wp2_with fail
    refine bodyPost_ret (results_cell_tmp (fn := Tryz.f26) rfl _ _ _ _ _ _ _ rfl (HD3.out.set _ _) Tryz.underlying32 rfl aint_size) rfl ?_
    unfold ExactZ
    rw [if_neg HZ.out]
    exact ⟨false, none, 0, 0, [], rfl, by omega, by omega, by omega, Limbs.nil _ _, fun h => absurd h HZ.out, fun h => absurd h (by omega), (Hb.out.setCell (p := ⟨w.heap.size + 1 + 1, 0, none⟩) le1 _).setCell (p := ⟨w.heap.size + 1 + 1, 1, none⟩) le1 _⟩
end
end Go.Proofs.YtjmbejodcloapaaGreat
