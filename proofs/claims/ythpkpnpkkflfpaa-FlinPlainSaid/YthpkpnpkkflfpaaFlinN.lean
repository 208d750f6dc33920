/- Contract: what a matrix makes nought: the program's. -/
import Derived.Test.YthpkpnpkkflfpaaFlinM
namespace Go.Proofs.Ythpkpnpkkflfpaa
open Go.RowKit Cl
attribute [local go_sem ↓] Go.wp_at_zero Go.wp_at_succ

theorem null1_any (A : Option Addr) (n c0 gc c : Nat) (xs : List Int) (w : World) (hx : Ints w A n xs) (hn : n ≤ 9223372036854775807) (hgc : w.cell? ⟨gc, 0, none⟩ = some (.int .i64 c)) :
    Calls Try.prog 51 #[.slice A n c0, .pointer (some ⟨gc, 0, none⟩)] w fun e w' => e = .returned (.bool (leadI xs == (c : Int))) ∧ ∃ k, w' = w.drewN k := by
  have C := Lib.hid (fun q => lead_any A n c0 xs (w.drewN q) (hx.drewN q) hn)
  go_enter Try.func51, Try.ntmps51
  go_wp2
  go_quiet ((go_at_call 52; first | exact quiet_add_left (lead_any _ _ _ _ _ (hx.drewN _) hn) | exact quiet_left (lead_any _ _ _ _ _ (hx.drewN _) hn) | exact quiet_left (lead_any _ _ _ _ _ hx hn)))
  go_wp2
  go_ret
  exact ⟨rfl, _, rfl⟩

theorem idx_null (A : Option Addr) (m d : Nat) (c n gc : Nat) (p : Int) (ech : List (List Int)) (w : World) (hx : Mat w A m ech) (hpl : Plains ech n p) (hn : n ≤ 64) (hm : m ≤ 64) (hgc : w.cell? ⟨gc, 0, none⟩ = some (.int .i64 c)) :
    Calls Try.prog 44 #[.slice A m d, .func (.func 51) #[] #[.pointer (some ⟨gc, 0, none⟩)]] w fun e w' => (∃ r : Int, e = .returned (.int .i64 r) ∧ -1 ≤ r ∧ r ≤ 64 ∧ decide (0 ≤ r) = !freeTo ech c m) ∧ ∃ k, w' = w.drewN k := by
  have hlen := Lib.hid hx.len
  have Hpl := Lib.hid hpl
  clear hpl
  go_enter Try.func44, Try.ntmps44
  go_wp2
  go_loopw [8] (fun i wr => ∃ (j q : Nat), j ≤ m ∧ i = .int .i64 j ∧ Hid (freeTo ech c j = true) ∧ wr = w.drewN q) (fun i _ => m - (intOf i).toNat)
  case atStart => exact ⟨0, 0, by omega, rfl, freeTo_zero _ _, rfl⟩
  case round =>
    obtain ⟨j, q, hj, rfl, hfr, rfl⟩ := hrel
    by_cases hlt : j < m
    · obtain ⟨b, o, rfl, hb, hc⟩ := hx.at_ (by omega)
      obtain ⟨Ak, ck, hck, hik⟩ := hc j hlt
      obtain ⟨q1, q2, q3⟩ := Hpl.out j (by have := hlen.out; omega)
      have hcl := null1_any Ak (rAt ech j).length ck gc c (rAt ech j) (w.drewN q) (hik.drewN q) (by omega) hgc
      have hoi := leadI_of (xs := rAt ech j) (by omega)
      by_cases hld : leadN (rAt ech j) = c
      · have hb : (leadI (rAt ech j) == (c : Int)) = true := by rw [hoi, hld]; simp
        rw [hb] at hcl
        have Hcl := Lib.hid hcl
        have Hfm := Lib.hid (freeTo_hit hld)
        have Hff : Hid (freeTo ech c m = false) := by
          apply Bool.eq_false_iff.2; intro h; exact freeTo_iff.1 h j hlt hld
        clear hcl hb hoi hld hc q1 q2 q3
        go_wp2_with (go_at_call 51; refine Hcl.out.mono ?_; rintro e w' ⟨rfl, k2, rfl⟩)
        go_ret
        exact ⟨⟨_, rfl, by omega, by omega, by rw [Hff.out]; exact decide_eq_true (by omega)⟩, _, rfl⟩
      · have hb : (leadI (rAt ech j) == (c : Int)) = false := by rw [hoi]; exact beq_eq_false_iff_ne.2 (by omega)
        rw [hb] at hcl
        have Hcl := Lib.hid hcl
        have Hfm := Lib.hid (freeTo_miss hld)
        clear hcl hb hoi hld hc q1 q2 q3
        go_wp2_with (go_at_call 51; refine Hcl.out.mono ?_; rintro e w' ⟨rfl, k2, rfl⟩)
        go_roundw
        case rel => exact ⟨j + 1, _, by omega, by go_num, by rw [Hfm.out]; exact hfr, rfl⟩
        case measure => simp [intOf]; omega
    · obtain rfl : j = m := by omega
      have Hff := hfr
      go_wp2
      go_ret
      exact ⟨⟨_, rfl, by omega, by omega, by rw [Hff.out]; rfl⟩, _, rfl⟩

theorem contains_any (A : Option Addr) (m d : Nat) (c n gc : Nat) (p : Int) (ech : List (List Int)) (w : World) (hx : Mat w A m ech) (hpl : Plains ech n p) (hn : n ≤ 64) (hm : m ≤ 64) (hgc : w.cell? ⟨gc, 0, none⟩ = some (.int .i64 c)) :
    Calls Try.prog 50 #[.slice A m d, .func (.func 51) #[] #[.pointer (some ⟨gc, 0, none⟩)]] w fun e w' => e = .returned (.bool (!freeTo ech c m)) ∧ ∃ k, w' = w.drewN k := by
  have C := Lib.hid (idx_null A m d c n gc p ech w hx hpl hn hm hgc)
  clear hpl hx hgc
  go_enter Try.func50, Try.ntmps50
  go_wp2_with (go_at_call 44; refine C.out.mono ?_; rintro e w' ⟨⟨r, rfl, hr1, hr2, hr3⟩, k2, rfl⟩; have Hr := Lib.hid hr3; clear hr3)
  go_ret
  exact ⟨ret_bool Hr.out, _, rfl⟩


set_option maxRecDepth 100000 in
set_option maxHeartbeats 4000000 in
theorem null_yes (A0 : Option Addr) (m c0 n : Nat) (rows : List (List Int)) (p : Int) (w : World) (hx : Mat w A0 m rows) (hok : nullOk rows n p = true) :
    Calls Try.prog 35 #[.slice A0 m c0, .int .i64 n, .int .i64 p] w (GivesRows w 0 (IsNull rows n p)) := by
  obtain ⟨i0, hi, hz0, hz1, hz2⟩ := info_parts rows_info
  obtain ⟨i1, hi1, hw0, hw1, hw2⟩ := info_parts int_info
  obtain ⟨hmat, hn0, hn64, hcol⟩ := nullOk_iff.1 hok
  obtain ⟨hp, h64, hrow⟩ := matOk_iff.1 hmat
  have Hp := Lib.hid ((isPrime_iff p).1 hp)
  have hp1 : 2 ≤ p := Hp.out.two
  have hp2 : p ≤ 65521 := Hp.out.max
  have hlen := hx.len
  have c1 := right_any A0 m c0 rows p w hx (by omega) (by omega)
  rw [matE_yes hmat] at c1
  have C1 := Lib.hid c1
  have C2 := Lib.hid (fun W (h : Mat W A0 m rows) => ech_yes A0 m c0 rows p W h hmat)
  have Hcol := Lib.hid hcol
  have hnn : n ≤ 64 := by omega
  have hm64 : m ≤ 64 := by omega
  have hnlt : ¬ ((n : Int) < 0) := by omega
  have hgt : ¬ ((64 : Int) < (n : Int)) := by omega
  -- what the first lines see of the matrix
  have hhead : m = 0 ∨ (∃ b o A1 c1, 0 < m ∧ A0 = some ⟨b, o, none⟩ ∧ w.cell? ⟨b, o, none⟩ = some (.slice A1 n c1)) := by
    rcases Nat.eq_zero_or_pos m with h | h
    · exact .inl h
    · obtain ⟨b, o, e, hb, hc⟩ := hx.at_ h
      obtain ⟨A1, c1, hc1, _⟩ := hc 0 h
      rw [Nat.add_zero, show (rAt rows 0).length = n by rcases hcol with h' | h' <;> omega] at hc1
      exact .inr ⟨b, o, A1, c1, h, e, hc1⟩
  clear c1 hcol hrow hmat hok hlen h64
  go_enter Try.func35, Try.ntmps35
  go_upto_region 1 with fail
  go_cut [39] (fun c wx => c = .bool false ∧ wx = w)
  case first =>
    rcases hhead with rfl | ⟨b, o, A1, c1, hpos, rfl, hc1⟩
    · go_wp2_with (go_at_call 42; refine C1.out.mono ?_; rintro e w' ⟨rfl, rfl⟩)
      go_meet
      exact ⟨by simp; omega, rfl⟩
    · have hd0 : decide ((0 : Int) < (m : Int)) = true := decide_eq_true (by omega)
      have hd1 : ((n : Int) != (n : Int)) = false := by simp
      have hpb : (0 : Int) < (m : Int) := by omega
      go_wp2_with (go_at_call 42; refine C1.out.mono ?_; rintro e w' ⟨rfl, rfl⟩)
      go_meet
      exact ⟨by simp; omega, rfl⟩
  case rest =>
    obtain ⟨rfl, rfl⟩ := hcut
    clear hhead C1
    go_wp2_with (go_at_call 32; refine (C2.out _ hx).mono ?_; rintro e w2 ⟨Ae, ne, ce, ech, rfl, hme, hE, hb2⟩)
    have hpl := hE.plains Hcol.out
    have hfw := hE.few Hcol.out
    have hne := hme.len
    have hne64 : ne ≤ 64 := by omega
    have HE := Lib.hid hE
    have Hpl := Lib.hid hpl
    have Hne := Lib.hid hne
    have hb3 := hb2
    clear hE hpl hb2 hx C2 hne
    go_loopw [10, 47] (fun v i wr => ∃ (c : Nat) (G : Nat → Nat), c ≤ n ∧ i = .int .i64 c ∧ Hid (Grid wr w2.heap.size v G (nullTo ech n p c).length n (rAt (nullTo ech n p n)) p) ∧ Below w2.heap.size w2 wr ∧ Hid (Mat wr Ae ne ech)) (fun _ i _ => n - (intOf i).toNat)
    case atStart => exact ⟨0, fun _ => 0, by omega, rfl, ⟨World.ownsRow_nil _ _ _ _, fun i hi => absurd hi (by simp [nullTo_zero]), fun i hi => absurd hi (by simp [nullTo_zero]), fun i hi => absurd hi (by simp [nullTo_zero]), fun i _ hi => absurd hi (by simp [nullTo_zero]), fun i hi => absurd hi (by simp [nullTo_zero])⟩, Below.refl _ _, hme⟩
    case round =>
      obtain ⟨c, G, hc, rfl, hgrid, hbel, hmr⟩ := hrel
      obtain ⟨wi, rfl⟩ : ∃ wi : World, wi = wr := ⟨_, rfl⟩
      by_cases hlt : c < n
      · have hcb : (c : Int) < (n : Int) := by omega
        have hs2 := hbel.size
        have hcb0 : (0 : Int) ≤ (c : Int) := by omega
        have hmk := make_ints n (by omega)
        have hone := Row.new wi 3 [(c : Int)]
        have hgc : (wi.alloc (.cells #[.int .i64 (c : Int)] 3)).cell? ⟨wi.heap.size, 0, none⟩ = some (.int .i64 (c : Int)) := hone.cell (i := 0) (by simp)
        have Cc := Lib.hid (contains_any Ae ne ce c n wi.heap.size p ech _ (hmr.out.bel ((Below.refl wi.heap.size wi).alloc (Nat.le_refl _) (.cells #[.int .i64 (c : Int)] 3))) Hpl.out hnn hne64 hgc)
        cases hfr : freeTo ech c ne with
        | false =>
          rw [hfr] at Cc
          have Hnu := Lib.hid (nullTo_held (e := ech) (n := n) (p := p) (c := c) (by rw [Hne.out]; exact hfr))
          have hb9 : Below wi.heap.size wi (wi.alloc (.cells #[.int .i64 (c : Int)] 3)) := (Below.refl _ _).alloc (Nat.le_refl _) _
          clear hfr hone hgc
          go_wp2_with (go_at_call 50; refine Cc.out.mono ?_; rintro e w' ⟨rfl, k2, rfl⟩)
          go_roundw
          case rel => exact ⟨c + 1, G, by omega, by go_num, by rw [Hnu.out]; exact hgrid.out.bel (below_drewN hb9 _), hbel.trans ((below_drewN hb9 _).mono hs2), hmr.out.bel (below_drewN hb9 _)⟩
          case measure => simp [intOf]; omega
        | true =>
          rw [hfr] at Cc
          have hsA : wi.heap.size + 1 ≤ (wi.alloc (.cells #[.int .i64 (c : Int)] 3)).heap.size := by simp
          have Cb := Lib.hid (Cc.out.mono (R' := fun e w' => e = .returned (.bool (!true)) ∧ Below (wi.heap.size + 1) (wi.alloc (.cells #[.int .i64 (c : Int)] 3)) w') (by rintro e w' ⟨he, k2, rfl⟩; exact ⟨he, below_drewN (Below.refl _ _) _⟩))
          have Hgr := Lib.hid (fun w4 (h : Below (wi.heap.size + 1) (wi.alloc (.cells #[.int .i64 (c : Int)] 3)) w4) => (show Below wi.heap.size wi w4 from ((Below.refl wi.heap.size wi).alloc (Nat.le_refl _) _).trans (h.mono (by omega))))
          have Hone := Lib.hid hone
          have Hfr := Lib.hid hfr
          clear hone hgc hfr Cc
          go_wp2_with (go_at_call 50; refine Cb.out.mono ?_; rintro e w4 ⟨rfl, hb4⟩; have hs4 := Nat.le_trans hsA hb4.size; have hone4 := Hone.out.below hb4 (Nat.lt_succ_self _); have hg4 : (w4.alloc (.cells (ints (List.replicate n 0)).toArray 3)).cell? ⟨wi.heap.size, 0, none⟩ = some (.int .i64 (c : Int)) := (hone4.alloc (.cells (ints (List.replicate n 0)).toArray 3)).cell (i := 0) (by simp); have hrow0 := Row.new w4 3 (List.replicate n 0); have hcz := hrow0.cell (i := c) (by simp; exact hlt); have hfz := hrow0.frozen c)
          have Hone4 := Lib.hid hone4
          have hgrid4 := hgrid.out.bel (Hgr.out _ hb4)
          have hmr4 := hmr.out.bel (Hgr.out _ hb4)
          have hbel4 := hbel.trans ((Hgr.out _ hb4).mono hs2)
          have hs24 := hbel4.size
          have hset0 : Hid (Row (w4.alloc (.cells ((ints (List.replicate n 0)).set c (.int .i64 1)).toArray 3)) w4.heap.size 3 (putTo ech n p c 0)) := by
            have := Row.new w4 3 ((List.replicate n 0).set c 1)
            rw [← ints_set] at this
            exact this
          have hbel0 : Hid (Below w4.heap.size w4 (w4.alloc (.cells ((ints (List.replicate n 0)).set c (.int .i64 1)).toArray 3))) := (Below.refl w4.heap.size w4).alloc (Nat.le_refl _) _
          have Hgrid4 := Lib.hid hgrid4
          have Hmr4 := Lib.hid hmr4
          have hlw : wi.heap.size < w4.heap.size := by omega
          clear hrow0 hcz hfz hg4 hone4 hgrid4 hmr4 hgrid hmr Hgr Cb Hone hb4 hbel
          go_loopw [60] (fun i wr => ∃ (k : Nat), k ≤ ne ∧ i = .int .i64 k ∧ Hid (Row wr w4.heap.size 3 (putTo ech n p c k)) ∧ Hid (Below w4.heap.size w4 wr)) (fun i _ => ne - (intOf i).toNat)
          case atStart => exact ⟨0, by omega, rfl, hset0, hbel0⟩
          case round =>
            obtain ⟨k, hk, rfl, hrw, hbw⟩ := hrel
            by_cases hkn : k < ne
            · obtain ⟨be, oe, rfl, hbe, hce⟩ := Hmr4.out.at_ (by omega)
              obtain ⟨Ak, ck, hck0, hik0⟩ := hce k hkn
              have hck := (hbw.out.cell (p := ⟨be, oe + k, none⟩) hbe).trans hck0
              obtain ⟨q1, q2, q3⟩ := Hpl.out k (by have := Hne.out; omega)
              rw [q1] at hck hck0 hik0
              have hoi := leadI_of (xs := rAt ech k) (by omega)
              have cf := fun W (h : Ints W Ak n (rAt ech k)) => lead_any Ak n ck (rAt ech k) W h (by omega)
              rw [hoi] at cf
              have Cf := Lib.hid cf
              have Hik := Lib.hid (hik0.bel hbw.out)
              have hkb : (k : Int) < (ne : Int) := by omega
              have hkb0 : (0 : Int) ≤ (k : Int) := by omega
              have hrwl := hrw.out.lt
              obtain ⟨bk, ok, rfl, hbk, hck2⟩ := hik0.at_ (by omega)
              have hcc0 := hck2 c hlt
              have hcc := (hbw.out.cell (p := ⟨bk, ok + c, none⟩) hbk).trans hcc0
              have hgc0 : w4.cell? ⟨wi.heap.size, 0, none⟩ = some (.int .i64 (c : Int)) := Hone4.out.cell (i := 0) (by simp)
              have hgc := (hbw.out.cell (p := ⟨wi.heap.size, 0, none⟩) hlw).trans hgc0
              obtain ⟨z1, z2⟩ := q3.small hp2 c
              have hco := hrw.out.cell (i := leadN (rAt ech k)) (by rw [putTo_length]; exact q2)
              have hfo := hrw.out.frozen (leadN (rAt ech k))
              have hset := Lib.hid (hrw.out.set (leadN (rAt ech k)) (red (-(nth (rAt ech k) c)) p))
              have hbs := Lib.hid (hbw.out.setCell (p := ⟨w4.heap.size, leadN (rAt ech k), none⟩) (Nat.le_refl _) (.int .i64 (red (-(nth (rAt ech k) c)) p)))
              have hccs := (hbs.out.cell (p := ⟨bk, ok + c, none⟩) hbk).trans hcc0
              have hgcs := (hbs.out.cell (p := ⟨wi.heap.size, 0, none⟩) hlw).trans hgc0
              have q2b : (leadN (rAt ech k) : Int) < (n : Int) := by omega
              have q2c : (0 : Int) ≤ (leadN (rAt ech k) : Int) := by omega
              have eneg : IntKind.i64.wrap (-(nth (rAt ech k) c)) = -(nth (rAt ech k) c) := IntWalk.i64_in _ (by omega)
              have Hput : Hid ((putTo ech n p c k).set (leadN (rAt ech k)) (red (-(nth (rAt ech k) c)) p) = putTo ech n p c (k + 1)) := rfl
              clear hoi cf hik0 hck0 hcc0 hgc0 hce q1 q3 hck2
              generalize leadN (rAt ech k) = ld at *
              go_wp2
              go_region_held3 (fun w' => w'.cell? ⟨wi.heap.size, 0, none⟩ = some (.int .i64 (c : Int)) ∧ w'.cell? ⟨bk, ok + c, none⟩ = some (.int .i64 (nth (rAt ech k) c)))
                (first | exact ⟨hgc, hcc⟩ | exact ⟨hgcs, hccs⟩ | go_keep)
                (first
                  | (go_at_call 52; refine (Cf.out _ Hik.out.drew).mono ?_; rintro e w' ⟨rfl, rfl⟩)
                  | (go_at_call 15; refine (red_any _ _ _ (by omega) (by omega) (by omega) (by omega)).mono ?_; rintro e w' ⟨rfl, rfl⟩))
              go_wp2
              go_roundw
              case rel => exact ⟨k + 1, by omega, by go_num, (by rw [← Hput.out]; exact hset.out.drew), hbs.out.drew⟩
              case measure => simp [intOf]; omega
            · obtain rfl : ne = k := by omega
              have hg9 := Hgrid4.out.bel hbw.out
              have hm9 := Hmr4.out.bel hbw.out
              have hb9 := hbel4.trans (hbw.out.mono hs24)
              have hnu := nullTo_free (e := ech) (n := n) (p := p) (c := c) (by rw [Hne.out]; exact Hfr.out)
              have hat := nullTo_at (e := ech) (n := n) (p := p) (c := c) (N := n) hlt (by rw [Hne.out]; exact Hfr.out)
              have hput : putTo ech n p c ne = putTo ech n p c ech.length := by rw [Hne.out]
              have hrw9 := hrw.out
              rw [hput, ← hat] at hrw9
              have hl9 : (rAt (nullTo ech n p n) (nullTo ech n p c).length).length = n := by rw [hat, putTo_length]
              have hp9 : Pl p (rAt (nullTo ech n p n) (nullTo ech n p c).length) := by rw [hat]; exact putTo_pl hp1
              have hlen9 : (nullTo ech n p (c + 1)).length = (nullTo ech n p c).length + 1 := by rw [hnu]; simp
              have hle9 := nullTo_len ech n p c
              have Hlen9 := Lib.hid hlen9
              have hown9 := hg9.own
              have hs9 := hb9.size
              clear hnu hat hput hlen9
              generalize hKK : (nullTo ech n p c).length = K at *
              go_wp2_with (at_builtin; refine wpList_append_lies _ (by rfl) _ _ _ (by rfl) w2.heap.size 39 i0 _ 1 24 Try.underlying32 hi hz0 hz1 hz2 rfl (by omega) u10 K (heads G n K) (by rfl) (hown9.alloc _) ⟨wr.heap.size, 0, none⟩ 1 1 [.slice (some ⟨w4.heap.size, 0, none⟩) n n] (by rfl) (by rfl) (World.news_of_block (cs := #[.slice (some ⟨w4.heap.size, 0, none⟩) n n]) (t := 39) (fr := (0, 0)) (heap_alloc_new wr _)) (by simp [Value.oneCell']) (by omega) (by unfold maxLen; omega) (by omega) (by simp; omega) (wr.heap.size + 1) (by simp) ?_; intro gg cap w3 hown3 hgrow hat hlt3)
              have hb10 := below_app' hb9 hown9 hgrow hs9
              have hg10 := Hgrid4.out.push hbw.out hs24 hrw9 hl9 hp9 hown3 hgrow
              have hm10 : Mat w3 Ae ne ech := hme.bel hb10
              clear hgrow hat hown3 hown9 hrw9
              go_wp2
              go_roundw
              case rel => exact ⟨c + 1, _, by omega, by go_num, by rw [Hlen9.out]; exact hg10, hb10, hm10⟩
              case measure => simp [intOf]; omega
      · obtain rfl : c = n := by omega
        go_wp2
        go_ret2
        obtain ⟨Av, cv, rfl, hm9⟩ := hgrid.out.mat_any (by have := nullTo_len ech c p c; omega) hp2
        exact ⟨_, _, _, _, rfl, hm9, ⟨ech, HE.out, rowsTab_rAt _⟩, hb3.trans (hbel.mono hb3.size)⟩

end Go.Proofs.Ythpkpnpkkflfpaa
