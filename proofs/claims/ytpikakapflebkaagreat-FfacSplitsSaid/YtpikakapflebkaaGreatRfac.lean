/- cleaverref09.Factors: trial division by all monic polynomials in Order hands back the factors. -/
import Derived.Test.YtpikakapflebkaaGreatRfacA
import Derived.Test.YtpikakapflebkaaGreatPut
namespace Go.Proofs.YtpikakapflebkaaGreat
open Go.RowKit Cl
attribute [local go_sem ↓] Go.wp_at_zero Go.wp_at_succ

theorem own_only {S : Nat → Prop} {w w' : World} {base : Nat} {e : TypeId} {sz n : Nat} {v : Value} {xs : List Value} (h : w.ownsRow base e sz v n xs) (ho : Only S w w') (hv : ∀ k, v.ownBlock = some k → ¬ S k) : w'.ownsRow base e sz v n xs := by
  refine ⟨h.1, ?_⟩
  rcases h.2 with h2 | ⟨g, cap, cur, hv', hg, hh, r⟩
  · exact .inl h2
  · subst hv'
    exact .inr ⟨g, cap, cur, rfl, hg, (ho.block g (Array.getElem?_eq_some_iff.1 hh).1 (hv g rfl)).trans hh, r⟩
theorem hdm_ne : (50 : TypeId) ≠ 3 := by decide
section
variable {q : Prm} {w wr : World} {v : Value} {Ar : Option Addr} {r g : Poly (Zp q)} {E : List (EntQ q)} {gq : Nat}
/-- At the head of the outer loop: what is found, what is left. -/
structure S0 (w wr : World) (v : Value) (Ar : Option Addr) (r : Poly (Zp q)) (E : List (EntQ q)) : Prop where
  fls : Fls 50 wr w.heap.size v E
  left : Ints wr Ar r.len (fromP r)
  lown : ∀ y, Ar = some y → v.ownBlock ≠ some y.block
  bel : Below w.heap.size w wr
/-- Inside: who is tried lies in the row gq. -/
structure TS (w wr : World) (v : Value) (Ar : Option Addr) (r g : Poly (Zp q)) (E : List (EntQ q)) (gq : Nat) : Prop where
  s0 : S0 w wr v Ar r E
  far : ∀ x ∈ E, ∀ y, x.1.1 = some y → y.block ≠ gq
  lfar : ∀ y, Ar = some y → y.block ≠ gq
  row : Row wr gq 3 (fromP g)
  ge : w.heap.size ≤ gq
theorem S0.to (h : S0 w wr v Ar r E) {w' : World} (hb : Below wr.heap.size wr w') : S0 w w' v Ar r E :=
  ⟨h.fls.bel hb, h.left.bel hb, h.lown, h.bel.trans (hb.mono h.bel.size)⟩
theorem TS.to (h : TS w wr v Ar r g E gq) {w' : World} (hb : Below wr.heap.size wr w') : TS w w' v Ar r g E gq :=
  ⟨h.s0.to hb, h.far, h.lfar, h.row.bel hb, h.ge⟩
theorem S0.quo (h : S0 w wr v Ar r E) {w' : World} (hb : Below wr.heap.size wr w') {A1 : Option Addr} {r1 : Poly (Zp q)} (hI : Ints w' A1 r1.len (fromP r1)) (hn : ∀ x, A1 = some x → wr.heap.size ≤ x.block) : S0 w w' v A1 r1 E :=
  ⟨h.fls.bel hb, hI, fun y hy e => by
    have h1 := hn y hy
    have h2 := (h.fls.own.lt y.block e).2
    omega, h.bel.trans (hb.mono h.bel.size)⟩
theorem TS.quo (h : TS w wr v Ar r g E gq) {w' : World} (hb : Below wr.heap.size wr w') {A1 : Option Addr} {r1 : Poly (Zp q)} (hI : Ints w' A1 r1.len (fromP r1)) (hn : ∀ x, A1 = some x → wr.heap.size ≤ x.block) : TS w w' v A1 r1 g E gq :=
  ⟨h.s0.quo hb hI hn, h.far, fun y hy e => by
    have h1 := hn y hy
    have h2 := h.row.lt
    omega, h.row.bel hb, h.ge⟩
theorem S0.make (h : S0 w wr v Ar r E) (hr : 0 < r.len) {xs : List Int} (hg : fromP g = xs) : TS w (wr.alloc (.cells (ints xs).toArray 3)) v Ar r g E wr.heap.size := by
  refine ⟨h.to ((Below.refl _ _).alloc (Nat.le_refl _) _), fun x hx y hy e => ?_, fun y hy e => ?_, by rw [hg]; exact Row.new wr _ xs, h.bel.size⟩
  · obtain ⟨h1, h2, _⟩ := h.fls.rd x hx
    have := h2.blk_lt h1 y hy
    omega
  · have := h.left.blk_lt hr y hy
    omega
theorem TS.ownNe (h : TS w wr v Ar r g E gq) : some gq ≠ v.ownBlock := own_row_ne h.s0.fls.own h.row hdm_ne
theorem TS.step (h : TS w wr v Ar r g E gq) {w' : World} (ho : Only (fun k => k = gq) wr w') {g' : Poly (Zp q)} {ys : List Int} (hy : Row w' gq 3 ys) (hg : fromP g' = ys) : TS w w' v Ar r g' E gq := by
  have hne := h.ownNe
  refine ⟨⟨⟨own_only h.s0.fls.own ho fun k hk e => hne (by rw [hk, e]), fun x hx => ?_⟩, h.s0.left.only ho fun y hy e => h.lfar y hy e, h.s0.lown, h.s0.bel.trans ((ho.below (B := w.heap.size) h.s0.bel.size fun k hk => by rw [hk]; exact h.ge))⟩, h.far, h.lfar, by rw [hg]; exact hy, h.ge⟩
  obtain ⟨h1, h2, h3⟩ := h.s0.fls.rd x hx
  exact ⟨h1, h2.only ho fun y hy e => h.far x hx y hy e, h3⟩
/-- The row is left behind. -/
theorem TS.left7 (h : TS w wr v Ar r g E gq) {w' : World} (ho : Only (fun k => k = gq) wr w') : S0 w w' v Ar r E := by
  have hne := h.ownNe
  refine ⟨⟨own_only h.s0.fls.own ho fun k hk e => hne (by rw [hk, e]), fun x hx => ?_⟩, h.s0.left.only ho fun y hy e => h.lfar y hy e, h.s0.lown, h.s0.bel.trans ((ho.below (B := w.heap.size) h.s0.bel.size fun k hk => by rw [hk]; exact h.ge))⟩
  obtain ⟨h1, h2, h3⟩ := h.s0.fls.rd x hx
  exact ⟨h1, h2.only ho fun y hy e => h.far x hx y hy e, h3⟩
/-- A factor more is kept: a copy of who is tried. -/
theorem TS.push (h : TS w wr v Ar r g E gq) {x : EntQ q} {o : Obj} {gg n cap H : Nat} {w2 w4 : World} (hb : Below wr.heap.size wr w2) (hgr : (w2.alloc o).grownBy w4 v.ownBlock) (hat : v.ownBlock = some gg ∨ gg = H) (hH : (w2.alloc o).heap.size = H)
    (hown : w4.ownsRow w.heap.size 50 2 (.slice (some ⟨gg, 0, none⟩) n cap) n (fcells E ++ fcell x)) (hn : n = E.length + 1) (hr : 0 < r.len)
    (hp : 0 < x.2.1.len) (hx : Ints w2 x.1.1 x.2.1.len (fromP x.2.1)) (hl : ∀ y, x.1.1 = some y → wr.heap.size ≤ y.block) : TS w w4 (.slice (some ⟨gg, 0, none⟩) n cap) Ar r g (E ++ [x]) gq := by
  have h2 := h.to hb
  have hs := hb.size
  have hne := h2.ownNe
  have hx2 : ∀ y, x.1.1 = some y → v.ownBlock ≠ some y.block := fun y hy e => by
    have h3 := hl y hy
    have h4 := (h.s0.fls.own.lt y.block e).2
    omega
  have hfls := h2.s0.fls.app hgr hat hH hown hn hp hx hx2
  refine ⟨⟨hfls, (h2.s0.left.alloc o).grown hgr (fun _ y hy e => h2.s0.lown y hy e), fun y hy e => ?_, ((h2.s0.bel.alloc h2.s0.bel.size o)).grown hgr (by simp; have := h2.s0.bel.size; omega) (fun k hk => (h2.s0.fls.own.lt k hk).1)⟩, fun z hz y hy e => ?_, h.lfar, (h2.row.alloc o).grown hgr hne, h.ge⟩
  · have h3 := h2.s0.left.blk_lt hr y hy
    have e' : gg = y.block := by injection e
    rcases hat with h4 | h4
    · exact h2.s0.lown y hy (by rw [h4, e'])
    · rw [← hH] at h4; simp at h4; omega
  · rcases List.mem_append.1 hz with hz | hz
    · exact h.far z hz y hy e
    · rw [List.mem_singleton] at hz
      subst hz
      have h3 := hl y hy
      have h4 := h.row.lt
      omega
end
section
variable {A : Option Addr} {n c : Nat} {p : Int} {w : World} {hp : Pr p} {a : Poly (Zp ⟨p, hp⟩)}
set_option maxRecDepth 100000 in
set_option maxHeartbeats 16000000 in
theorem rfactorsR (ha : Rd w A n a) (hn : n ≤ 1000000) (h0 : a ≠ 0) (hl : a.len ≤ 65) :
    Calls Tryz.prog 22 #[.slice A n c, .int .i64 p] w (GivesFac w a) := by
  obtain ⟨i0, hi, hz0, hz1, hz2⟩ := info_parts fac9_info
  obtain ⟨j0, hj0, hy0, hy1, hy2⟩ := info_parts int_info
  have hp1 := hp.two
  have hp2 := hp.max
  have Hm := Lib.hid (Poly.monic_mon h0)
  have Hfin : Hid (∀ L, Poly.IsFac a.monic L → Poly.IsFac a L) := fun L h => h.of_val fun f hf => hf.val_monic h0
  have hml65 : a.monic.len ≤ 65 := by rw [Poly.monic_len h0]; exact hl
  have C := Lib.hid (rwrongR (c := c) 0 ha (by omega) (.inr (.inr ⟨h0, hl, rfl⟩)))
  have HA := Lib.hid ha
  clear ha
  go_enter Tryz.func22, Tryz.ntmps22
  go_wp2_with fail
  refine C.out.mono ?_
  rintro e w1 ⟨rfl, hb1⟩
  have HA1 := Lib.hid (Rd.bel HA.out hb1)
  clear C HA h0
  go_wp2_with fail
  refine (qmonicR (hp := hp) HA1.out hn (by omega)).mono ?_
  rintro e w2 ⟨A2, c2, rfl, l2, h2, hb2⟩
  generalize a.monic = m at *
  have hm65 : m.len ≤ 65 := hml65
  have hb02 := below_tr hb1 hb2
  have Hs0 : Hid (S0 (q := ⟨p, hp⟩) w w2 (.slice none 0 0) A2 m []) := ⟨Fls.nil _ _ _, h2, fun y _ e => (by cases e), hb02⟩
  have Htr0 := Lib.hid (Poly.Trial.start Hm.out)
  clear h2 hb1 hb2 hb02 HA1
  go_wp2_with fail
  go_loopg [7, 9, 10] 40 (fun g1 l v i wr => ∃ (Ar : Option Addr) (cr : Nat) (r : Poly (Zp ⟨p, hp⟩)) (E : List (EntQ ⟨p, hp⟩)) (d : Nat), 1 ≤ d ∧ d < 40 ∧ g1 = 41 - d ∧ l = .slice Ar r.len cr ∧ i = .int .i64 (d : Int) ∧ Hid (S0 w wr v Ar r E) ∧ Hid (Poly.Trial m (E.map (·.2)) r (Poly.G ⟨p, hp⟩ d)))
  case atStart => exact ⟨A2, c2, m, [], 1, by omega, by omega, by omega, rfl, rfl, Hs0, Htr0⟩
  case round =>
    obtain ⟨Ar, cr, r, E, d, hd1, hd2, hg1, rfl, rfl, hs, htr⟩ := hrel
    obtain ⟨g1, rfl⟩ : ∃ x : Nat, x = gk := ⟨_, rfl⟩
    obtain ⟨wo, rfl⟩ : ∃ wo : World, wo = wr := ⟨_, rfl⟩
    obtain ⟨hr65, hP65, hL65, hL2⟩ := htr.out.lens hm65
    have hrp := Poly.len_pos htr.out.mon.ne
    by_cases hlt : 2 * (d : Int) < (r.len : Int)
    · have hmk := make_ints (d + 1) (by omega) wo
      obtain ⟨R0, hR0⟩ : ∃ R0 : List Int, R0 = List.replicate (d + 1) (0 : Int) := ⟨_, rfl⟩
      rw [← hR0, show ((d + 1 : Nat) : Int) = (d : Int) + 1 from rfl] at hmk
      have hl0 : R0.length = d + 1 := by rw [hR0]; exact List.length_replicate
      have hr0 := Row.new wo 3 R0
      have hc0 := hr0.cell (i := d) (by rw [hl0]; omega)
      have hf0 := hr0.frozen d
      have Hts : Hid (TS w (wo.alloc (.cells ((ints R0).set d (.int .i64 1)).toArray 3)) u9 Ar r (Poly.G ⟨p, hp⟩ d) E wo.heap.size) := by
        show TS _ _ _ _ _ _ _ _
        rw [ints_set]
        exact hs.out.make hrp (xs := R0.set d 1) (by rw [(Poly.G_spec ⟨p, hp⟩ d).2.2, hR0]; rfl)
      obtain ⟨Hgm, Hgl, _⟩ := Poly.G_spec ⟨p, hp⟩ d
      have HGm := Lib.hid Hgm
      have HGl := Lib.hid Hgl
      have hd0 : (0 : Int) ≤ (d : Int) := by omega
      have hd32 : d ≤ 32 := by omega
      have hdd : (d : Int) < (d : Int) + 1 := by omega
      clear hr0 hR0 hl0 Hgm Hgl
      go_wp2_with fail
      clear hmk hc0 hf0
      go_loopg [7, 9] (restN p (fromP (Poly.G ⟨p, hp⟩ d)) d + 1) (fun g2 l v wr => ∃ (Ar : Option Addr) (cr : Nat) (r g : Poly (Zp ⟨p, hp⟩)) (E : List (EntQ ⟨p, hp⟩)), restN p (fromP g) d < g2 ∧ l = .slice Ar r.len cr ∧ Hid (g.Mon) ∧ Hid (g.len = d + 1) ∧ Hid (TS w wr v Ar r g E wo.heap.size) ∧ Hid (Poly.Trial m (E.map (·.2)) r g))
      case atStart => exact ⟨Ar, cr, r, _, E, by omega, rfl, HGm, HGl, Hts, htr⟩
      case round =>
        clear hs htr Hts hL2 hlt hrp hr65 HGm HGl
        obtain ⟨Ar, cr, r, g, E, hg2, rfl, hgm, hgl, hts, htr⟩ := hrel
        obtain ⟨g2, rfl⟩ : ∃ x : Nat, x = gk := ⟨_, rfl⟩
        obtain ⟨wq, rfl⟩ : ∃ wo : World, wo = wr := ⟨_, rfl⟩
        obtain ⟨hr65, hP65, hL65, hL2⟩ := htr.out.lens hm65
        have HL2 := Lib.hid hL2
        have hEl : Hid (E.length ≤ 65) := by rw [List.length_map] at hL65; exact hL65
        have Hg2 := Lib.hid hg2
        have hpu0 := Lib.hid (Poly.Pulled.start (g := g) htr.out.mon)
        clear hL2 hL65 hP65 hg2
        go_wp2_with fail
        go_loopg [7, 12] (r.len + 1) (fun g3 l nn wr => ∃ (A3 : Option Addr) (c3 : Nat) (r3 : Poly (Zp ⟨p, hp⟩)) (j : Nat), r3.len < g3 ∧ r3.len ≤ 65 ∧ j ≤ 65 ∧ l = .slice A3 r3.len c3 ∧ nn = .int .i64 (j : Int) ∧ Hid (TS w wr u9 A3 r3 g E wo.heap.size) ∧ Hid (Poly.Pulled r g r3 j))
        case atStart => exact ⟨Ar, cr, r, 0, by omega, by omega, by omega, rfl, rfl, hts, hpu0⟩
        case round =>
          obtain ⟨A3, c3, r3, j, hg3, hr3, hj, rfl, rfl, hts3, hpu⟩ := hrel
          obtain ⟨g3, rfl⟩ : ∃ x : Nat, x = gk := ⟨_, rfl⟩
          obtain ⟨w3, rfl⟩ : ∃ wo : World, wo = wr := ⟨_, rfl⟩
          have hg1' : 1 < g.len := by rw [hgl.out]; omega
          obtain ⟨hyes, hno⟩ := Poly.div_step hpu.out.mon hgm.out hg1'
          have Hq3 : Hid (Rd (q := ⟨p, hp⟩) w3 (some ⟨wo.heap.size, 0, none⟩) (d + 1) g) := by
            have h5 := hts3.out.row.ints (fromP_i64 g)
            rw [fromP_length, hgl.out] at h5
            exact ⟨_, h5, toP_fromP g⟩
          have Hr3 : Hid (Rd (q := ⟨p, hp⟩) w3 A3 r3.len r3) := Rd.of hts3.out.s0.left
          have Hyes := Lib.hid hyes
          have Hno := Lib.hid hno
          have hpl := hpu.out.len hgm.out hg1'
          clear hyes hno
          by_cases hdv : g ∣ r3
          · obtain ⟨e1, e2, e3, e4, e5⟩ := Hyes.out hdv
            have g0 : ¬ (0 : Int) < ((Poly.rem r3 g).len : Int) := by rw [e4, Poly.len_zero]; omega
            have g0' : decide ((0 : Int) < ((Poly.rem r3 g).len : Int)) = false := decide_eq_false g0
            have g1x : ¬ (r3.len : Int) ≤ (d : Int) := by have := hgl.out; omega
            have g1' : decide ((r3.len : Int) ≤ (d : Int)) = false := decide_eq_false g1x
            have Hpu2 := Lib.hid (hpu.out.step hgm.out hg1' hdv)
            have hpl2 := Hpu2.out.len hgm.out hg1'
            have hj2 : j + 1 ≤ 65 := by omega
            have hqr : (Poly.quo r3 g).len < r3.len := e3
            clear e1 e2 e3 e4 e5 hdv Hyes Hno hpl
            go_wp2_with fail
            refine (qdivAt (N := 65) (M := d + 1) (hp := hp) Hr3.out Hq3.out hr3 (Nat.le_refl _) (by omega) (by omega) hgm.out.ne).mono ?_
            rintro e w4 ⟨A4, c4, B4, d4, rfl, l4, k4, h4, _, hb4, hn4⟩
            have Hts4 := Lib.hid (hts3.out.quo hb4 h4 hn4)
            clear h4 hb4 hn4 k4
            generalize Poly.quo r3 g = r4 at *
            go_wp2_with fail
            go_roundg (g3 - 1)
            case measure => omega
            case rel => exact ⟨A4, c4, r4, j + 1, by omega, by omega, hj2, rfl, by go_num, Hts4, Hpu2⟩
          · have g0' := Hno.out hdv
            have g0 : (0 : Int) < ((Poly.rem r3 g).len : Int) := by omega
            have g0'' : decide ((0 : Int) < ((Poly.rem r3 g).len : Int)) = true := decide_eq_true g0
            have Hdv := Lib.hid hdv
            clear hdv Hyes Hno
            rcases Nat.eq_zero_or_pos j with hj0 | hj0
            · have gj : ¬ (0 : Int) < (j : Int) := by omega
              have gj' : decide ((0 : Int) < (j : Int)) = false := decide_eq_false gj
              have Hmid := Lib.hid (htr.out.mid0 (r := r3) (by have := hpu.out; rwa [hj0] at this) Hdv.out)
              clear hj0
              go_wp2_with fail
              refine (qdivAt (N := 65) (M := d + 1) (hp := hp) Hr3.out Hq3.out hr3 (Nat.le_refl _) (by omega) (by omega) hgm.out.ne).mono ?_
              rintro e w4 ⟨A4, c4, B4, d4, rfl, l4, k4, _, _, hb4, _⟩
              have Hts4 := Lib.hid (hts3.out.to hb4)
              clear hb4 k4 l4
              go_wp2_with fail
              have hxs := fromP_length g
              rw [hgl.out] at hxs
              have hg1d : nth (fromP g) d = 1 := by have := fromP_mon9 hgm.out; rwa [hgl.out, Nat.add_sub_cancel] at this
              refine (rstep wo.heap.size (d + 1) 3 d (fromP g) p _ Hts4.out.row hxs (Poly.fromP_dig g d) hg1d hp1 hp2 (by omega)).mono ?_
              rintro e w7 ⟨rr, ys, rfl, hrow7, honly7, hcase⟩
              rcases hcase with ⟨rfl, hyl, i, hnx, hyb⟩ | ⟨rfl, hlast⟩
              · obtain ⟨n1, n2, n3, n4, n5, n6⟩ := Poly.next_ok hgm.out hgl.out hnx hyb hyl
                have Hts7 := Lib.hid (Hts4.out.step honly7 hrow7 n3)
                have Htr7 := Lib.hid (Hmid.out _ n4 n5)
                have N1 := Lib.hid n1
                have N2 := Lib.hid n2
                have hrest : restN p (fromP (toP ⟨p, hp⟩ ys)) d < g2 - 1 := by have := Hg2.out; have n6' : restN p ys d < restN p (fromP g) d := n6; rw [n3]; omega
                clear n1 n2 n3 n4 n5 n6 hnx hyb hyl hrow7 honly7 hxs hg1d
                generalize toP ⟨p, hp⟩ ys = g' at *
                go_wp2_with fail
                go_roundg (g2 - 1)
                case measure => have := Hg2.out; omega
                case rel => exact ⟨A3, c3, r3, g', _, hrest, rfl, N1, N2, Hts7, Htr7⟩
              · obtain ⟨n4, n5⟩ := Poly.last_ok hgm.out hgl.out hlast
                have Hts7 := Lib.hid (Hts4.out.left7 honly7)
                have Htr7 := Lib.hid (Hmid.out _ n4 n5)
                clear n4 n5 hrow7 honly7 hxs hg1d hlast
                go_wp2_with fail
                go_roundg (g1 - 1)
                case measure => omega
                case rel => exact ⟨A3, c3, r3, _, d + 1, by omega, by omega, by omega, rfl, by go_num, Hts7, Htr7⟩
            · have gj : (0 : Int) < (j : Int) := by omega
              have gj' : decide ((0 : Int) < (j : Int)) = true := decide_eq_true gj
              have Hmid := Lib.hid (htr.out.mid1 hgm.out hg1' hj0 hpu.out Hdv.out)
              have hglen := hgl.out
              clear hj0
              go_wp2_with fail
              refine (qdivAt (N := 65) (M := d + 1) (hp := hp) Hr3.out Hq3.out hr3 (Nat.le_refl _) (by omega) (by omega) hgm.out.ne).mono ?_
              rintro e w4 ⟨A4, c4, B4, d4, rfl, l4, k4, _, _, hb4, _⟩
              have Hts4 := Lib.hid (hts3.out.to hb4)
              have hr3p := Poly.len_pos hpu.out.mon.ne
              clear hb4 k4 l4
              have HA4 : Hid (World.ownsRow (w4.alloc (.cells #[] 3)) w4.heap.size 3 1 (.slice (some ⟨w4.heap.size, 0, none⟩) 0 0) 0 []) := own_empty w4 _ (Nat.le_refl _)
              have BA4 : Hid (Below w4.heap.size w4 (w4.alloc (.cells #[] 3))) := (Below.refl _ _).alloc (Nat.le_refl _) _
              have RA4 : Hid (Reads (w4.alloc (.cells #[] 3)) w4.heap.size 1 (some ⟨wo.heap.size, 0, none⟩) (d + 1) (ints (fromP g))) := by
                have h5 := (Hts4.out.row.ints (fromP_i64 g)).reads
                rw [fromP_length, hgl.out] at h5
                exact h5.below BA4.out
              have Hdl := Lib.hid (show d + 1 ≤ 41 by omega)
              have Hs4 := Lib.hid Hts4.out.s0.bel.size
              have hEl2 := hEl.out
              go_wp2_with (first
                | (at_builtin; refine wpList_append_any _ (by rfl) (.tmp 64) (.tmp 65) _ (by rfl) w4.heap.size 3 j0 _ 1 8 Tryz.underlying22 hj0 hy0 hy1 hy2 rfl (by omega) (.slice (some ⟨w4.heap.size, 0, none⟩) 0 0) 0 [] (by rfl) HA4.out w4.heap.size (some ⟨wo.heap.size, 0, none⟩) (d + 1) (d + 1) (ints (fromP g)) (by rfl) RA4.out (Cl.ints_oneCell _) (by unfold maxLen; omega) (by omega) BA4.out.size ?_; intro v5 w5 hown5 hg5 hat5; rw [List.nil_append, Nat.zero_add] at hown5; obtain ⟨A5, c5, rfl⟩ := own_slice hown5; have hb5 : Below w4.heap.size w4 w5 := BA4.out.grown hg5 BA4.out.size (fun k hk => (HA4.out.lt k hk).1))
                | (at_builtin; refine wpList_append_lies _ (by rfl) (.tmp 63) (.tmp 69) _ (by rfl) w.heap.size 50 i0 _ 2 32 Tryz.underlying30 hi hz0 hz1 hz2 rfl (by omega) u9 E.length (fcells E) (by rfl) (((Hts4.out.to hb5).s0.fls.own).alloc _) ⟨w5.heap.size, 0, none⟩ 1 1 [.slice A5 (d + 1) c5, .int .i64 (j : Int)] (by rfl) (by rfl) (World.news_of_block (cs := #[.slice A5 (d + 1) c5, .int .i64 (j : Int)]) (t := 50) (fr := (0, 0)) (heap_alloc_new w5 _)) (by simp [Value.oneCell']) (by omega) (by unfold maxLen; omega) (by omega) (by have := hb5.size; have := Hs4.out; simp; omega) (w5.heap.size + 1) (by simp) ?_; intro gg cap w6 hown6 hgrow hat hlt6))
              have hI5 := Ints.of_own hown5 (fromP_i64 g)
              have hts6 := Hts4.out.push (x := ((A5, c5), (g, j))) hb5 hgrow hat (by simp) (by simp only [fcell, hglen]; exact hown6) rfl hr3p (by show 0 < g.len; omega) (by show Ints w5 A5 g.len _; rw [hglen]; exact hI5) (fun y hy => by
                rcases hown5.2 with ⟨hv, _⟩ | ⟨gg5, _, _, hv, hge, _⟩
                · omega
                · injection hv with h7; have hy' : A5 = some y := hy; rw [hy'] at h7; injection h7 with h7; rw [h7]; exact hge)
              have Hts5 := Lib.hid hts6
              clear hts6 hI5 hgrow hat hlt6 hown6 hown5 hb5 hg5 hat5 Hts4 HA4 BA4 RA4
              have Hmid2 : Hid (∀ g' : Poly (Zp ⟨p, hp⟩), Poly.Bef g g' → (∀ f : Poly (Zp ⟨p, hp⟩), f.Irr → ¬ Poly.Bef f g → f ≠ g → ¬ Poly.Bef f g') → Poly.Trial m ((E ++ [((A5, c5), (g, j))]).map (·.2)) r3 g') := by
                show ∀ g', _
                rw [List.map_append]
                exact Hmid.out
              clear Hmid
              go_wp2_with fail
              have hxs := fromP_length g
              rw [hgl.out] at hxs
              have hg1d : nth (fromP g) d = 1 := by have := fromP_mon9 hgm.out; rwa [hgl.out, Nat.add_sub_cancel] at this
              refine (rstep wo.heap.size (d + 1) 3 d (fromP g) p _ Hts5.out.row hxs (Poly.fromP_dig g d) hg1d hp1 hp2 (by omega)).mono ?_
              rintro e w7 ⟨rr, ys, rfl, hrow7, honly7, hcase⟩
              rcases hcase with ⟨rfl, hyl, i, hnx, hyb⟩ | ⟨rfl, hlast⟩
              · obtain ⟨n1, n2, n3, n4, n5, n6⟩ := Poly.next_ok hgm.out hgl.out hnx hyb hyl
                have Hts7 := Lib.hid (Hts5.out.step honly7 hrow7 n3)
                have Htr7 := Lib.hid (Hmid2.out _ n4 n5)
                have N1 := Lib.hid n1
                have N2 := Lib.hid n2
                have hrest : restN p (fromP (toP ⟨p, hp⟩ ys)) d < g2 - 1 := by have := Hg2.out; have n6' : restN p ys d < restN p (fromP g) d := n6; rw [n3]; omega
                clear n1 n2 n3 n4 n5 n6 hnx hyb hyl hrow7 honly7 hxs hg1d
                generalize toP ⟨p, hp⟩ ys = g' at *
                go_wp2_with fail
                go_roundg (g2 - 1)
                case measure => have := Hg2.out; omega
                case rel => exact ⟨A3, c3, r3, g', _, hrest, rfl, N1, N2, Hts7, Htr7⟩
              · obtain ⟨n4, n5⟩ := Poly.last_ok hgm.out hgl.out hlast
                have Hts7 := Lib.hid (Hts5.out.left7 honly7)
                have Htr7 := Lib.hid (Hmid2.out _ n4 n5)
                clear n4 n5 hrow7 honly7 hxs hg1d hlast
                go_wp2_with fail
                go_roundg (g1 - 1)
                case measure => omega
                case rel => exact ⟨A3, c3, r3, _, d + 1, by omega, by omega, by omega, rfl, by go_num, Hts7, Htr7⟩
    · have hdn := htr.out.done (by omega)
      obtain ⟨hd3, hd4⟩ := hdn
      have hpow := Lib.hid htr.out.powF_mon
      have hfac := Lib.hid htr.out.fac
      have heq := Lib.hid htr.out.eq
      by_cases h1 : 1 < r.len
      · have Hri := Lib.hid (hd4 h1)
        obtain ⟨B, dd, rfl, k1, k2, k3, hprs⟩ := prs_of_own hs.out.fls.own rfl (fun x hx => (hs.out.fls.rd x hx).2.1)
        have Hprs := Lib.hid hprs
        have h1' : (1 : Int) < (r.len : Int) := by omega
        rw [List.length_map] at hL65
        have HL3 : Hid (∀ x ∈ E.map (·.2), x.1.len ≤ 900000000 ∧ x.2 ≤ 900000000) := fun x hx => by have := hL2 x hx; omega
        clear hd3 hd4 hprs hL2
        go_wp2_with fail
        refine (rputR (b := Poly.powF (E.map (·.2))) (f := r) Hprs.out k1 k2 (by omega) hs.out.left (by omega) HL3.out hpow.out.ne hfac.out Hri.out).mono ?_
        rintro e w9 ⟨B9, m9, d9, L9, rfl, _, _, _, u4, u5, hb9⟩
        rw [heq.out] at u5
        have U5 := Lib.hid (Hfin.out _ u5)
        have hbel := hs.out.bel
        clear u5
        go_wp2_with fail
        go_ret2
        exact ⟨B9, m9, d9, L9, rfl, u4, U5.out, hbel.trans (hb9.mono hbel.size)⟩
      · have Hr := Lib.hid (Hfin.out _ (hd3 h1))
        have h1' : ¬ (1 : Int) < (r.len : Int) := by omega
        obtain ⟨B, dd, rfl, k1, k2, k3, hprs⟩ := prs_of_own hs.out.fls.own rfl (fun x hx => (hs.out.fls.rd x hx).2.1)
        have Hprs := Lib.hid hprs
        have hbel := hs.out.bel
        clear hd3 hd4 hprs hL2
        go_wp2_with fail
        go_ret2
        exact ⟨B, _, dd, _, rfl, Hprs.out, Hr.out, hbel⟩
end
end Go.Proofs.YtpikakapflebkaaGreat
