/- ffac.Degrees: the products of a squarefree polynomial's factors of each degree. -/
import Derived.Test.YtpikakapflebkaaGreatLaw9Base
import Derived.Test.YtpikakapflebkaaGreatDegG
namespace Cl
namespace Poly
variable {q : Prm}
/-- What is left after k steps, and the power of x by it. -/
structure DegSt (m left h : Poly (Zp q)) (k : Nat) : Prop where
  left_eq : left = pick (fun f => k + 2 ≤ f.len) m
  h_eq : Eqm left h (X (Zp q) ^ q.p.toNat ^ k)
theorem DegSt.start {m : Poly (Zp q)} (hm : m.Mon) (hs : ∀ f : Poly (Zp q), f.Irr → val f m ≤ 1) : DegSt m m (X (Zp q)) 0 where
  left_eq := by
    have hP := pick_spec (fun f : Poly (Zp q) => 0 + 2 ≤ f.len) hm.ne
    refine hm.eq_of_val hP.1 fun f hf => ?_
    rw [hP.2 f hf]
    have h1 := hs f hf
    have h2 := hf.len
    split <;> omega
  h_eq := by rw [Nat.pow_zero, CRing.pow_succ, CRing.pow_zero, CRing.one_mul]; exact Eqm.refl _ _
theorem DegSt.mon {m left h : Poly (Zp q)} {k : Nat} (hm : m ≠ 0) (s : DegSt m left h k) : left.Mon := by
  rw [s.left_eq]; exact (pick_spec _ hm).1
theorem DegSt.len {m left h : Poly (Zp q)} {k : Nat} (hm : m ≠ 0) (s : DegSt m left h k) : left.len ≤ m.len := by
  have hP := pick_spec (fun f : Poly (Zp q) => k + 2 ≤ f.len) hm
  rw [s.left_eq]
  exact len_le_of_dvd (dvd_of_val hP.1.ne hm fun f hf => by rw [hP.2 f hf]; split <;> omega) hm
theorem DegSt.step {m left h : Poly (Zp q)} {k : Nat} (hm : m ≠ 0) (s : DegSt m left h k) :
    gcdP (powR h q.p.toNat left - X (Zp q)) left = pick (fun f => f.len = k + 2) m ∧ DegSt m (quo left (gcdP (powR h q.p.toNat left - X (Zp q)) left)) (powR h q.p.toNat left) (k + 1) := by
  have hl0 := (s.mon hm).ne
  have e1 : Eqm left (powR h q.p.toNat left) (X (Zp q) ^ q.p.toNat ^ (k + 1)) := by
    refine (powR_eqm h q.p.toNat hl0).trans ?_
    rw [Nat.pow_succ, CRing.pow_mul]
    exact s.h_eq.pow _
  have e2 : left = pick (fun f => k + 1 + 1 ≤ f.len) m := s.left_eq
  have hg : gcdP (powR h q.p.toNat left - X (Zp q)) left = pick (fun f => f.len = k + 2) m := by
    have h1 := deg_gcd (n := k + 1) (h := powR h q.p.toNat left) hm (by omega) (by rw [← e2]; exact e1)
    rw [← e2] at h1
    exact h1
  refine ⟨hg, ?_⟩
  have h2 := deg_quo (n := k + 1) hm
  rw [← e2] at h2
  have h3 : quo left (pick (fun f => f.len = k + 2) m) = pick (fun f => k + 1 + 2 ≤ f.len) m := by
    conv => lhs; rw [h2, CRing.mul_comm]
    exact (quo_of_mul (pick_spec (fun f : Poly (Zp q) => f.len = k + 2) hm).1.ne _).1
  rw [hg]
  refine ⟨h3, Eqm.of_dvd e1 ?_⟩
  rw [h3]
  exact ⟨pick (fun f => f.len = k + 2) m, by rw [CRing.mul_comm]; exact h2⟩
/-- The products by degree. -/
noncomputable def degL (m : Poly (Zp q)) (n : Nat) : List (Poly (Zp q)) := (List.range n).map fun k => pick (fun f => f.len = k + 2) m
theorem degL_length (m : Poly (Zp q)) (n : Nat) : (degL m n).length = n := by simp [degL]
theorem degL_succ (m : Poly (Zp q)) (n : Nat) : degL m (n + 1) = degL m n ++ [pick (fun f => f.len = n + 2) m] := by simp [degL, List.range_succ]
theorem degL_get (m : Poly (Zp q)) (n i : Nat) (h : i < (degL m n).length) : (degL m n)[i] = pick (fun f => f.len = i + 2) m := by simp [degL]
end Poly
end Cl
namespace Go.Proofs.YtpikakapflebkaaGreat
open Go.RowKit Cl
attribute [local go_sem ↓] Go.wp_at_zero Go.wp_at_succ

theorem rows_ne : (22 : TypeId) ≠ 3 := by decide
section
variable {q : Prm}
/-- Degrees under way. -/
structure DS (w wr : World) (v : Value) (Al : Option Addr) (lf : Poly (Zp q)) (Ah : Option Addr) (hl : Nat) (h : Poly (Zp q)) (gx : Nat) (E : List (EntP q)) : Prop where
  pls : Pls wr w.heap.size v E
  left : Ints wr Al lf.len (fromP lf)
  lown : 0 < lf.len → ∀ y, Al = some y → v.ownBlock ≠ some y.block
  hrd : Rd wr Ah hl h
  hown : 0 < hl → ∀ y, Ah = some y → v.ownBlock ≠ some y.block
  xrow : Row wr gx 3 [0, 1]
  bel : Below w.heap.size w wr
/-- A call that hands back products by degree. -/
def GivesDeg (w : World) (m : Poly (Zp q)) (e : Ending) (w' : World) : Prop :=
  ∃ A n c, e = .returned (.tuple #[.slice A n c, .int .i64 0]) ∧ n + 1 = m.len ∧ Pol w' A n (Poly.degL m n) ∧ Below w.heap.size w w'
end
section
variable {A : Option Addr} {n c : Nat} {p : Int} {w : World} {hp : Pr p} {a : Poly (Zp ⟨p, hp⟩)}
set_option maxRecDepth 100000 in
set_option maxHeartbeats 8000000 in
theorem fdegR (ha : Rd w A n a) (hn : n * 8 ≤ 140737488355328) (h0 : a ≠ 0) (hl : a.len ≤ 65) (hs : sqB a = true) :
    Calls Tryz.prog 20 #[.slice A n c, .int .i64 p] w (GivesDeg w a.monic) := by
  obtain ⟨i0, hi, hz0, hz1, hz2⟩ := info_parts rows_info
  have hp1 := hp.two
  have hp2 := hp.max
  have C := Lib.hid (fsquareR (c := c) ha hn h0 hl hs)
  have Hm := Lib.hid (Poly.monic_mon h0)
  have Hst0 := Lib.hid (Poly.DegSt.start (Poly.monic_mon h0) (sq_val h0 hs))
  have hml := Poly.monic_len h0
  have hmp := Poly.len_pos (Poly.monic_mon h0).ne
  have hml65 : a.monic.len ≤ 65 := by omega
  clear ha hs h0 hml hl
  obtain ⟨t, ht⟩ : ∃ t, a.monic.len = t + 1 := ⟨a.monic.len - 1, by omega⟩
  have Ht := Lib.hid ht
  have ht1 : (a.monic.len : Int) - 1 = (t : Int) := by omega
  have ht64 : t ≤ 64 := by omega
  clear ht hmp
  go_enter Tryz.func20, Tryz.ntmps20
  go_wp2_with fail
  refine C.out.mono ?_
  rintro e w1 ⟨A1, c1, rfl, l1, h1, hb1⟩
  generalize a.monic = m at *
  have hal : Below w1.heap.size w1 (w1.alloc (.cells #[.int .i64 0, .int .i64 1] 3)) := (Below.refl _ _).alloc (Nat.le_refl _) _
  have Hds0 : Hid (DS (q := ⟨p, hp⟩) w (w1.alloc (.cells #[.int .i64 0, .int .i64 1] 3)) (.slice none 0 0) A1 m (some ⟨w1.heap.size, 0, none⟩) 2 (Poly.X (Zp ⟨p, hp⟩)) w1.heap.size []) :=
    ⟨Pls.nil _ _, h1.bel hal, fun _ y _ e => (by cases e), ⟨_, x_ints w1, toP_X _⟩, fun _ y _ e => (by cases e), Row.new w1 3 [0, 1], hb1.trans (hal.mono hb1.size)⟩
  have hdg0 : Hid (([] : List (EntP ⟨p, hp⟩)).map (·.2) = Poly.degL m 0) := rfl
  obtain ⟨gx, hgx⟩ : ∃ gx, gx = w1.heap.size := ⟨_, rfl⟩
  rw [← hgx] at Hds0
  have Hgx := Lib.hid hgx
  clear hal h1 hb1 hgx
  go_wp2_with fail
  rw [← Hgx.out]
  go_loopw [6, 8, 11, 30] (fun sl v sh i wr => ∃ (Al : Option Addr) (cl : Nat) (left : Poly (Zp ⟨p, hp⟩)) (Ah : Option Addr) (nh ch : Nat) (h : Poly (Zp ⟨p, hp⟩)) (E : List (EntP ⟨p, hp⟩)) (k : Nat), k ≤ t ∧ nh ≤ 65 ∧ sl = .slice Al left.len cl ∧ sh = .slice Ah nh ch ∧ i = .int .i64 (k : Int) ∧ Hid (DS w wr v Al left Ah nh h gx E) ∧ Hid (Poly.DegSt m left h k) ∧ Hid (E.map (·.2) = Poly.degL m k)) (fun _ _ _ i _ => t - (intOf i).toNat)
  case atStart => exact ⟨A1, c1, m, _, 2, 2, _, [], 0, by omega, by omega, rfl, rfl, rfl, Hds0, Hst0, hdg0⟩
  case round =>
    clear Hds0 Hst0 hdg0
    obtain ⟨Al, cl, left, Ah, nh, ch, h, E, k, hk, hnh, rfl, rfl, rfl, hds, hst, hdg⟩ := hrel
    obtain ⟨wo, rfl⟩ : ∃ wo : World, wo = wr := ⟨_, rfl⟩
    have hElen : Hid (E.length = k) := by
      have h1 := congrArg List.length hdg.out
      rw [List.length_map, Poly.degL_length] at h1
      exact h1
    by_cases hlt : k < t
    · have hlt' : (k : Int) < (t : Int) := by omega
      have hlm := Lib.hid (hst.out.mon Hm.out.ne)
      have hll := hst.out.len Hm.out.ne
      have hl65 : left.len ≤ 65 := by omega
      have Hstep := Lib.hid (hst.out.step Hm.out.ne)
      clear hst hll
      go_wp2_with fail
      refine (zof_pos p _ (by omega) (by omega)).mono ?_
      rintro e w3 ⟨Z3, z3, rfl, p3, q3, s3, hb3⟩
      have t3 := limbs_of (x := p) (by omega)
      have y3 : ([p].take (lmN [p] 1)).length ≤ 1 := by rw [List.length_take]; show min _ 1 ≤ 1; omega
      generalize [p].take (lmN [p] 1) = ls3 at *
      have T3 := Lib.hid t3
      have Hh3 := Lib.hid (Rd.bel hds.out.hrd hb3)
      have Hl3 := Lib.hid (hds.out.left.bel hb3)
      have Hb3 := Lib.hid hb3
      clear t3 hb3
      go_wp2_with fail
      refine (powmAt (N := 65) (M := 65) (a := h) (f := left) (hp := hp) Hh3.out (Rd.of Hl3.out) s3 T3.out hnh hl65 p3 q3 (by omega) (by omega) (by omega) hlm.out.ne).mono ?_
      rintro e w4 ⟨A4, c4, rfl, l4, h4, hb4, hn4⟩
      have hb34 := below_tr Hb3.out hb4
      have H4 := Lib.hid h4
      have Hn4 : Hid (∀ y, A4 = some y → wo.heap.size ≤ y.block) := fun y hy => by have h1 := hn4 y hy; have h2 := Hb3.out.size; omega
      have Hl4 := Lib.hid (hds.out.left.bel hb34)
      have Hx4 := Lib.hid (hds.out.xrow.bel hb34)
      clear h4 hb4 hn4 Hh3 Hl3 Hb3 s3 p3 q3 y3 T3
      generalize powR h p.toNat left = h' at *
      have hI4 : Hid (Rd (q := ⟨p, hp⟩) w4 (some ⟨gx, 0, none⟩) 2 (Poly.X (Zp ⟨p, hp⟩))) := ⟨[0, 1], Hx4.out.ints (fun i => by
        match i with
        | 0 => exact I64.small (by decide) (by decide)
        | 1 => exact I64.small (by decide) (by decide)
        | i + 2 => rw [nth_ge (by simp)]; exact I64.zero), toP_X _⟩
      go_wp2_with fail
      refine (subR (N := 65) (M := 2) (K := 67) (hp := hp) (Rd.of H4.out) hI4.out l4 (Nat.le_refl _) (by omega) (by omega)).mono ?_
      rintro e w5 ⟨A5, c5, rfl, l5, h5, hb5⟩
      have hb35 := below_tr hb34 hb5
      have H5 := Lib.hid h5
      have H45 := Lib.hid (H4.out.bel hb5)
      have Hl5 := Lib.hid (hds.out.left.bel hb35)
      clear h5 hb5 hb34 H4 Hl4 Hx4 hI4
      go_wp2_with fail
      refine (fgcdAt (N := 67) (hp := hp) (Rd.of H5.out) (Rd.of Hl5.out) l5 (by omega) (by omega) hlm.out.ne).mono ?_
      rintro e w6 ⟨A6, c6, rfl, l6, h6, hb6, hn6⟩
      have hb36 := below_tr hb35 hb6
      have H6 := Lib.hid h6
      have Hn6 : Hid (∀ y, A6 = some y → wo.heap.size ≤ y.block) := fun y hy => by have h1 := hn6 y hy; have h2 := hb35.size; omega
      have H46 := Lib.hid (H45.out.bel hb6)
      have hgm := Lib.hid (Poly.gcd_mon (w := h' - Poly.X (Zp ⟨p, hp⟩)) hlm.out.ne)
      have hgp := Poly.len_pos hgm.out.ne
      have Hpls6 := Lib.hid (hds.out.pls.bel hb36)
      have Hl6 := Lib.hid (hds.out.left.bel hb36)
      have Hx6 := Lib.hid (hds.out.xrow.bel hb36)
      have hs36 := hb36.size
      have hsw := hds.out.bel.size
      have hbel6 := Lib.hid (hds.out.bel.trans (hb36.mono hsw))
      have Hlown := Lib.hid hds.out.lown
      have Hvb : Hid (∀ x, u8.ownBlock = some x → x < wo.heap.size) := fun x hx => (hds.out.pls.own.lt x hx).2
      clear h6 hb6 hn6 hb35 hb36 H45 H5 Hl5 hds
      generalize Poly.gcdP (h' - Poly.X (Zp ⟨p, hp⟩)) left = g at *
      have hEl2 := hElen.out
      go_wp2_with (at_builtin; refine wpList_append_lies _ (by rfl) _ _ _ (by rfl) w.heap.size 22 i0 _ 1 24 Tryz.underlying44 hi hz0 hz1 hz2 rfl (by omega) u8 E.length (ecells E) (by rfl) (Hpls6.out.own.alloc _) ⟨w6.heap.size, 0, none⟩ 1 1 [.slice A6 g.len c6] (by rfl) (by rfl) (World.news_of_block (cs := #[.slice A6 g.len c6]) (t := 22) (fr := (0, 0)) (heap_alloc_new w6 _)) (by simp [Value.oneCell']) (by omega) (by unfold maxLen; omega) (by omega) (by simp; omega) (w6.heap.size + 1) (by simp) ?_; intro gg cap w8 hown8 hgrow hat hlt8)
      have hfar6 : ∀ y, A6 = some y → u8.ownBlock ≠ some y.block := fun y hy e => by have h1 := Hn6.out y hy; have h2 := Hvb.out _ e; omega
      have hfar4 : ∀ y, A4 = some y → u8.ownBlock ≠ some y.block := fun y hy e => by have h1 := Hn4.out y hy; have h2 := Hvb.out _ e; omega
      have Hpls8 := Lib.hid (Hpls6.out.app (x := ((A6, c6), g)) hgrow hat (by simp) hown8 rfl hgp H6.out hfar6)
      have Hl8 := Lib.hid ((Hl6.out.alloc _).grown hgrow (fun h0 y hy e => Hlown.out h0 y hy e))
      have H68 := Lib.hid ((H6.out.alloc _).grown hgrow (fun _ y hy e => hfar6 y hy e))
      have H48 := Lib.hid ((H46.out.alloc _).grown hgrow (fun _ y hy e => hfar4 y hy e))
      have Hx8 := Lib.hid ((Hx6.out.alloc _).grown hgrow (own_row_ne Hpls6.out.own Hx6.out rows_ne))
      have Hbel8 := Lib.hid (below_app' hbel6.out Hpls6.out.own hgrow (by omega))
      have Hown4 : Hid (0 < h'.len → ∀ y, A4 = some y → (Value.slice (some ⟨gg, 0, none⟩) (E.length + 1) cap).ownBlock ≠ some y.block) := fun h0 y hy e => by
        have e' : gg = y.block := by injection e
        have h1 := H46.out.blk_lt h0 y hy
        rcases hat with h4 | h4
        · exact hfar4 y hy (by rw [h4, e'])
        · omega
      have Hsz8 : Hid (gg < w8.heap.size) := hlt8
      clear hown8 hgrow hat hlt8 hfar6 hfar4 Hpls6 Hl6 H6 H46 Hx6 hbel6 Hlown Hvb
      go_wp2_with fail
      refine (fbyAt (N := 65) (M := 67) (hp := hp) (Rd.of Hl8.out) (Rd.of H68.out) hl65 l6 (by omega) (by omega) hgm.out.ne).mono ?_
      rintro e w9 ⟨A9, c9, rfl, l9, h9, hb9, hn9⟩
      have hds9 : Hid (DS w w9 (.slice (some ⟨gg, 0, none⟩) (E.length + 1) cap) A9 (Poly.quo left g) A4 h'.len h' gx (E ++ [((A6, c6), g)])) := by
        refine ⟨Hpls8.out.bel hb9, h9, fun _ y hy e => ?_, Rd.of (H48.out.bel hb9), Hown4.out, Hx8.out.bel hb9, Hbel8.out.trans (hb9.mono Hbel8.out.size)⟩
        have e' : gg = y.block := by injection e
        have h1 := hn9 y hy
        have h2 := Hsz8.out
        omega
      have hdg9 : Hid ((E ++ [((A6, c6), g)]).map (·.2) = Poly.degL m (k + 1)) := by
        show _ = _
        rw [List.map_append, hdg.out, Poly.degL_succ]
        have := Hstep.out.1
        rw [← this]; rfl
      have hds9k := hds9
      rw [hElen.out] at hds9k
      have Hst9 := Lib.hid Hstep.out.2
      clear h9 hb9 hn9 Hpls8 Hl8 H68 H48 Hx8 Hbel8 Hown4 Hsz8 Hstep
      generalize Poly.quo left g = left' at *
      clear hds9
      go_wp2_with fail
      go_roundw
      case rel => exact ⟨A9, c9, left', A4, h'.len, c4, h', _, k + 1, by omega, l4, rfl, rfl, by go_num, hds9k, Hst9, hdg9⟩
      case measure => simp [intOf]; omega
    · obtain rfl : k = t := by omega
      have hlt' : ¬ (k : Int) < (k : Int) := by omega
      have hpls := hds.out.pls
      obtain ⟨Av, cv, rfl⟩ : ∃ Av cv, u8 = .slice Av E.length cv := by
        rcases hpls.own.2 with ⟨hv, h0⟩ | ⟨g, cap, cur, hv, _⟩
        · exact ⟨none, 0, by rw [hv, h0]⟩
        · exact ⟨_, _, hv⟩
      have hpol := hpls.pol
      rw [hdg.out, hElen.out] at hpol
      have Hpol := Lib.hid hpol
      have Hbel := Lib.hid hds.out.bel
      rw [hElen.out]
      clear hpls hpol hds hst
      go_wp2_with fail
      go_ret2
      exact ⟨Av, k, cv, rfl, Ht.out.symm, Hpol.out, Hbel.out⟩
end
end Go.Proofs.YtpikakapflebkaaGreat
