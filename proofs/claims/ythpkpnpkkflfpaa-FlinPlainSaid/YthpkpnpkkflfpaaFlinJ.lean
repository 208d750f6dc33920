/- Contract: a matrix's plain rows: the document's. -/
import Derived.Test.YthpkpnpkkflfpaaFlinI
import Derived.Deep.RegionWith
namespace Go.Proofs.Ythpkpnpkkflfpaa
open Go.RowKit Cl
attribute [local go_sem ↓] Go.wp_at_zero Go.wp_at_succ

set_option maxRecDepth 100000 in
set_option maxHeartbeats 4000000 in
theorem rech_yes (A0 : Option Addr) (m c0 L : Nat) (rows : List (List Int)) (p : Int) (w : World) (hx : Mat w A0 m rows) (hrow : ∀ i, i < m → (rAt rows i).length = L) (hm : m ≤ 64) (hL : L ≤ 64) (hp : isPrime p = true) (hok : matOk rows p = true) :
    Calls Try.prog 33 #[.slice A0 m c0, .int .i64 p] w (GivesRows w 0 (fun rows' => ∃ O n, RrefOf L p m (fun i => redRow (rAt rows i) p) n O ∧ rows' = rowsTab n O)) := by
  obtain ⟨i0, hi, hz0, hz1, hz2⟩ := info_parts int_info
  obtain ⟨j0, hj00, hy0, hy1, hy2⟩ := info_parts rows_info
  have Hrow := Lib.hid hrow
  have Hp := Lib.hid ((isPrime_iff p).1 hp)
  have hp1 : 2 ≤ p := Hp.out.two
  have hp2 : p ≤ 65521 := Hp.out.max
  have c1 := rright_any A0 m c0 rows p w hx (by omega) (by omega)
  rw [hok] at c1
  have C1 := Lib.hid c1
  clear c1 hrow
  go_enter Try.func33, Try.ntmps33
  go_wp2_with (go_at_call 47; refine C1.out.mono ?_; rintro e w' ⟨rfl, kr, rfl⟩)
  have hx1 : Mat (w.drewN kr) A0 m rows := hx.bel (below_drewN (Below.refl _ _) _)
  have hbel0 : Below w.heap.size w (w.drewN kr) := below_drewN (Below.refl _ _) _
  generalize w.drewN kr = ws at hx1 hbel0 ⊢
  go_loopw [6, 7] (fun v i wr => ∃ (k n cv : Nat) (Av : Option Addr) (A : Nat → Option Addr) (C : Nat → Nat) (O : Nat → List Int), k ≤ m ∧ n ≤ k ∧ i = .int .i64 k ∧ v = .slice Av n cv ∧ Hid (Shelf wr w.heap.size Av cv A C n L O) ∧ Hid (RrefOf L p k (fun i => redRow (rAt rows i) p) n O) ∧ Below w.heap.size w wr) (fun _ i _ => m - (intOf i).toNat)
  case atStart =>
    refine ⟨0, 0, 0, none, fun _ => none, fun _ => 0, fun _ => [], by omega, by omega, rfl, rfl, ⟨World.ownsRow_nil _ _ _ _, fun i hi => absurd hi (by omega)⟩, ⟨⟨?_, ?_, ?_, ?_, ?_, ?_⟩, ?_, ?_⟩, hbel0⟩ <;> intro a b <;> omega
  case round =>
    obtain ⟨k, n, cv, Av, A, C, O, hk, hnk, rfl, rfl, hsh, hrr, hbel⟩ := hrel
    obtain ⟨wi, rfl⟩ : ∃ wi : World, wi = wr := ⟨_, rfl⟩
    have hsi := hbel.size
    by_cases hlt : k < m
    · obtain ⟨b, o, rfl, hb, hc⟩ := hx.at_ (by omega)
      obtain ⟨Ak, ck, hck, hik⟩ := hc k hlt
      have hckb := (hbel.cell (p := ⟨b, o + k, none⟩) hb).trans hck
      have hikb := hik.bel hbel
      rw [Hrow.out k hlt] at hckb hikb
      have hkb : (k : Int) < (m : Int) := by omega
      clear hck hik hc
      go_wp2
      -- the row's rests
      go_loopw [8, 9] (fun v i wr => ∃ (j : Nat), j ≤ L ∧ i = .int .i64 j ∧ wr.ownsRow wi.heap.size 3 1 v j (ints (tab j (fun i => red (nth (rAt rows k) i) p))) ∧ Below wi.heap.size wi wr) (fun _ i _ => L - (intOf i).toNat)
      case atStart => exact ⟨0, by omega, rfl, World.ownsRow_nil _ _ _ _, Below.refl _ _⟩
      case round =>
        obtain ⟨j, hj, rfl, hown, hbr⟩ := hrel
        have hsr := hbr.size
        have hcw : wr.cell? ⟨b, o + k, none⟩ = some (.slice Ak L ck) := (hbr.cell (p := ⟨b, o + k, none⟩) (World.block_lt_of_cell? _ _ hckb)).trans hckb
        by_cases hjL : j < L
        · obtain ⟨b2, o2, rfl, hb2, hc2⟩ := hikb.at_ (by omega)
          have hcj := (hbr.cell (p := ⟨b2, o2 + j, none⟩) hb2).trans (hc2 j hjL)
          obtain ⟨l1, l2⟩ := hikb.ok j
          clear hc2
          go_wp2_with (first
            | (go_at_call 29; refine (rred_any _ _ _ (by omega) (by omega) (by omega) (by omega)).mono ?_; rintro e w' ⟨rfl, rfl⟩)
            | (at_builtin; refine wpList_append_lies _ (by rfl) _ _ _ (by rfl) wi.heap.size 3 i0 _ 1 8 Try.underlying39 hi hz0 hz1 hz2 rfl (by omega) u8 j (ints (tab j (fun i => red (nth (rAt rows k) i) p))) (by rfl) (hown.alloc _) ⟨wr.heap.size, 0, none⟩ 1 1 [.int .i64 (red (nth (rAt rows k) j) p)] (by rfl) (by rfl) (World.news_of_block (cs := #[.int .i64 (red (nth (rAt rows k) j) p)]) (t := 3) (fr := (0, 0)) (heap_alloc_new wr _)) (by simp [Value.oneCell']) (by omega) (by unfold maxLen; omega) (by omega) (by simp; omega) (wr.heap.size + 1) (by simp) ?_; intro gg cap w3 hown3 hgrow hat hlt3))
          have hb3 := below_app' hbr hown hgrow hsr
          rw [ints_tab_succ j (fun i => red (nth (rAt rows k) i) p)] at hown3
          clear hgrow hat hown
          go_wp2
          go_roundw
          case rel => exact ⟨j + 1, by omega, by go_num, hown3, hb3⟩
          case measure => simp [intOf]; omega
        · obtain rfl : L = j := by omega
          have hown1 : wr.ownsRow wi.heap.size 3 1 u8 L (ints (redRow (rAt rows k) p)) := by
            have e : redRow (rAt rows k) p = tab L (fun i => red (nth (rAt rows k) i) p) := by unfold redRow; rw [Hrow.out k hlt]
            rw [e]; exact hown
          have hred : Hid (Red L p n O (redRow (rAt rows k) p) 0 (redRow (rAt rows k) p)) := Red.start (by rw [redRow_length, Hrow.out k hlt]) (redRow_pl _ (by omega))
          obtain ⟨A1, q1, rfl⟩ := own_slice hown1
          obtain ⟨wj, rfl⟩ : ∃ wj : World, wj = wr := ⟨_, rfl⟩
          clear hown
          go_wp2
          clear hcw
          -- the rows that are there are taken away
          go_loopw [8, 10] (fun v i wr => ∃ (t : Nat) (r : List Int) (Ar : Option Addr) (cr : Nat), t ≤ n ∧ i = .int .i64 t ∧ v = .slice Ar L cr ∧ wr.ownsRow wi.heap.size 3 1 (.slice Ar L cr) L (ints r) ∧ Hid (Red L p n O (redRow (rAt rows k) p) t r) ∧ Below wi.heap.size wi wr) (fun _ i _ => n - (intOf i).toNat)
          case atStart => exact ⟨0, _, A1, q1, by omega, rfl, rfl, hown1, hred, hbr⟩
          case round =>
            obtain ⟨t, r, Ar, cr, ht, rfl, rfl, hownr, hredr, hbt⟩ := hrel
            obtain ⟨wt, rfl⟩ : ∃ wt : World, wt = wr := ⟨_, rfl⟩
            have hst := hbt.size
            by_cases htn : t < n
            · obtain ⟨g, rfl, hgB, hgl, hncv⟩ := hsh.out.form (by omega)
              have hsht := hsh.out.bel hbt
              have hcg := hsht.cell htn
              have hrg := hsht.rd t htn
              have hld := hrr.out.rref.lt t htn
              have hoi := leadI_of (xs := O t) (by rw [hrr.out.rref.len t htn]; exact hld)
              have hopl := hrr.out.rref.pl t htn
              obtain ⟨gr, rfl⟩ : ∃ gr, Ar = some ⟨gr, 0, none⟩ := by
                rcases hownr.2 with ⟨_, h0⟩ | ⟨gr, _, _, hv, _⟩
                · omega
                · exact ⟨gr, by simp only [Value.slice.injEq] at hv; exact hv.1⟩
              have hrpl := hredr.out.pl
              have hrl := hredr.out.len
              have hcr : wt.cell? ⟨gr, leadN (O t), none⟩ = some (.int .i64 (nth r (leadN (O t)))) := by rw [hownr.cellAt _ (by omega)]; exact ints_get (by omega)
              have hri : Ints wt (some ⟨gr, 0, none⟩) L r := Ints.of_own hownr (hrpl.i64 hp2)
              have hstep := hredr.out.step hrr.out.rref (by omega) htn
              have cf := fun W (h : Ints W (A t) L (O t)) => first_any (A t) L (C t) (O t) W h (by omega)
              rw [hoi] at cf
              have Cf := Lib.hid cf
              have Hstep := Lib.hid hstep
              have Hopl := Lib.hid hopl
              have Hrpl := Lib.hid hrpl
              have Hri := Lib.hid hri
              have Hrg := Lib.hid hrg
              obtain ⟨z1, z2⟩ := hrpl.small hp2 (leadN (O t))
              clear hsht hoi hopl hrpl hri hrg cf hstep hrl
              generalize leadN (O t) = ld at *
              have hldb : (ld : Int) < (L : Int) := by omega
              have hldb0 : (0 : Int) ≤ (ld : Int) := by omega
              have htb : (t : Int) < (n : Int) := by omega
              have htb0 : (0 : Int) ≤ (t : Int) := by omega
              go_wp2
              go_region_held3 (fun w' => w'.cell? ⟨g, t, none⟩ = some (.slice (A t) L (C t)) ∧ w'.cell? ⟨gr, ld, none⟩ = some (.int .i64 (nth r ld)))
                (first | go_keep | exact ⟨(hnew.bel.cell (p := ⟨g, t, none⟩) (World.block_lt_of_cell? _ _ hcg)).trans hcg, (hnew.bel.cell (p := ⟨gr, ld, none⟩) (World.block_lt_of_cell? _ _ hcr)).trans hcr⟩)
                (first
                  | (go_at_call 49; refine (Cf.out _ Hrg.out.drew).mono ?_; rintro e w' ⟨rfl, rfl⟩)
                  | (go_at_call 48; refine (less_any _ _ L cr (C t) r (O t) (nth r ld) p _ Hri.out.drew Hrg.out.drew (by omega) (Hrpl.out.small hp2) (Hopl.out.small hp2) ⟨z1, z2⟩ (by omega) (by omega)).mono ?_; rintro e w2 ⟨A2, q2, rfl, hnew⟩))
              have hown2 := own_mono hnew.own (show wi.heap.size ≤ wt.drew.heap.size from hst)
              have hbel2 := hbt.drew.trans (hnew.bel.mono hst)
              clear hnew hcg hcr hownr
              go_wp2
              go_roundw
              case rel => exact ⟨t + 1, _, A2, q2, by omega, by go_num, rfl, hown2, Hstep.out, hbel2⟩
              case measure => simp [intOf]; omega
            · obtain rfl : n = t := by omega
              have hrl := hredr.out.len
              have hrpl := hredr.out.pl
              have hri : Ints wt Ar L r := Ints.of_own hownr (hrpl.i64 hp2)
              have Hri := Lib.hid hri
              have Hrpl := Lib.hid hrpl
              have Hrl := Lib.hid hrl
              have cf := fun W (h : Ints W Ar L r) => first_any Ar L cr r W h (by omega)
              by_cases hat : leadN r < L
              · rw [leadI_of (by omega)] at cf
                have Cf := Lib.hid cf
                obtain ⟨gr, rfl⟩ : ∃ gr, Ar = some ⟨gr, 0, none⟩ := by
                  rcases hownr.2 with ⟨_, h0⟩ | ⟨gr, _, _, hv, _⟩
                  · omega
                  · exact ⟨gr, by simp only [Value.slice.injEq] at hv; exact hv.1⟩
                have hcr : wt.cell? ⟨gr, leadN r, none⟩ = some (.int .i64 (nth r (leadN r))) := by rw [hownr.cellAt _ (by omega)]; exact ints_get (by omega)
                obtain ⟨z1, z2⟩ := hrpl.small hp2 (leadN r)
                have hrc := hrpl (leadN r)
                have hnz : nth r (leadN r) ≠ 0 := leadN_nz (by omega)
                have hnc : ¬ Cg p (nth r (leadN r)) 0 := fun h0 => hnz (h0.eq_of_lt hrc.1 hrc.2 (by omega) (by omega))
                have hinv : ∀ W : World, Calls Try.prog 20 #[.int .i64 (nth r (leadN r)), .int .i64 p] W fun e w' => e = .returned (.tuple #[.int .i64 (invm (nth r (leadN r)) p), .int .i64 0]) ∧ W = w' := fun W => by
                  have := rinv_yes (nth r (leadN r)) p W (by omega) (by omega) (by omega) (by omega) hp
                  rwa [invE_ok hnc] at this
                have Hinv := Lib.hid hinv
                obtain ⟨v1, v2⟩ := invm_bd (nth r (leadN r)) Hp.out
                have hldb : (leadN r : Int) < (L : Int) := by omega
                have hldb0 : (0 : Int) ≤ (leadN r : Int) := by omega
                have hldn : ¬ (leadN r : Int) < 0 := by omega
                clear hri hrl cf hinv hrc hnz hnc hrpl
                go_wp2_with (first
                  | (go_at_call 49; refine (Cf.out _ Hri.out).mono ?_; rintro e w' ⟨rfl, rfl⟩)
                  | (go_at_call 20; refine (Hinv.out _).mono ?_; rintro e w' ⟨rfl, rfl⟩))
                clear hcr
                -- the row is multiplied
                go_loopw [14] (fun i wr => ∃ (j : Nat), j ≤ L ∧ i = .int .i64 j ∧ wr.ownsRow wi.heap.size 3 1 (.slice (some ⟨gr, 0, none⟩) L cr) L (ints (scaleTo (invm (nth r (leadN r)) p) p r j)) ∧ Below wi.heap.size wi wr) (fun i _ => L - (intOf i).toNat)
                case atStart => exact ⟨0, by omega, rfl, by rw [scaleTo_zero]; exact hownr, hbt⟩
                case round =>
                  obtain ⟨j, hj, rfl, hown, hbj⟩ := hrel
                  obtain ⟨wj2, rfl⟩ : ∃ wj2 : World, wj2 = wr := ⟨_, rfl⟩
                  have hgrB := (hown.lt gr rfl).1
                  by_cases hjL : j < L
                  · have hcj : wj2.cell? ⟨gr, j, none⟩ = some (.int .i64 (nth r j)) := by
                      rw [hown.cellAt _ (by omega), ints_get (by rw [scaleTo_length, Hrl.out]; exact hjL), nth_scaleTo]
                    have hfj := hown.frozenAt j
                    obtain ⟨d1, d2⟩ := Hrpl.out.small hp2 j
                    have hm1 : 0 ≤ nth r j * invm (nth r (leadN r)) p := Int.mul_nonneg d1 v1
                    have hm2 : nth r j * invm (nth r (leadN r)) p ≤ 65521 * 65521 := Int.mul_le_mul (by omega) (by omega) v1 (by omega)
                    have hset := (hown.stored j (.int .i64 (nth r j * invm (nth r (leadN r)) p % p))).1
                    rw [ints_set, scaleTo_set _ p _ (by rw [Hrl.out]; exact hjL)] at hset
                    have Hset := Lib.hid hset
                    have hbj' := Lib.hid (hbj.setCell (p := ⟨gr, j, none⟩) hgrB (.int .i64 (nth r j * invm (nth r (leadN r)) p % p)))
                    clear hset hown hbj
                    go_wp2
                    go_roundw
                    case rel => exact ⟨j + 1, by omega, by go_num, Hset.out, hbj'.out⟩
                    case measure => simp [intOf]; omega
                  · obtain rfl : L = j := by omega
                    obtain ⟨s, hs⟩ : ∃ s, s = scaleRow (invm (nth r (leadN r)) p) p r := ⟨_, rfl⟩
                    have hown5 : wj2.ownsRow wi.heap.size 3 1 (.slice (some ⟨gr, 0, none⟩) L cr) L (ints s) := by
                      rw [hs, ← scaleTo_full, Hrl.out]; exact hown
                    have hspl : Pl p s := by rw [hs]; exact scaleRow_pl _ (by omega) _
                    have hsi5 : Ints wj2 (some ⟨gr, 0, none⟩) L s := Ints.of_own hown5 (hspl.i64 hp2)
                    have hsh5 : Hid (Shelf wj2 w.heap.size Av cv A C n L (mixR L O s (leadN r) p 0)) := (hsh.out.bel hbj).congr (fun i _ => by unfold mixR; rw [if_neg (by omega)])
                    have Hs := Lib.hid hs
                    have Hspl := Lib.hid hspl
                    have hbel5 := hbel.trans (hbj.mono hsi)
                    clear hown hs hown5 hspl
                    go_wp2
                    -- the new row is taken away from those that are there
                    go_loopw [15, 16] (fun c15 c16 wr => ∃ (t q : Nat) (A : Nat → Option Addr) (C : Nat → Nat), t ≤ n ∧ q ≤ t ∧ c15 = .int .i64 q ∧ c16 = .int .i64 t ∧ Hid (Shelf wr w.heap.size Av cv A C n L (mixR L O s (leadN r) p t)) ∧ Hid (Ints wr (some ⟨gr, 0, none⟩) L s) ∧ Hid (∀ j, j < q → leadN (O j) < leadN r) ∧ Hid (∀ j, q ≤ j → j < t → ¬ leadN (O j) < leadN r) ∧ Below w.heap.size w wr) (fun _ i _ => n - (intOf i).toNat)
                    case atStart => exact ⟨0, 0, A, C, by omega, by omega, rfl, rfl, hsh5, hsi5, (fun j h => absurd h (by omega)), (fun j _ h => absurd h (by omega)), hbel5⟩
                    case round =>
                      obtain ⟨t, q, A, C, ht, hqt, rfl, rfl, hsh6, hsi6, hq1, hq2, hb6⟩ := hrel
                      obtain ⟨wt2, rfl⟩ : ∃ wt2 : World, wt2 = wr := ⟨_, rfl⟩
                      by_cases htn : t < n
                      · obtain ⟨g, rfl, hgB, hgl, hncv⟩ := hsh6.out.form (by omega)
                        have hcg := hsh6.out.cell htn
                        have hrg := hsh6.out.rd t htn
                        have emix : mixR L O s (leadN r) p t t = O t := by unfold mixR; rw [if_neg (by omega)]
                        rw [emix] at hrg
                        obtain ⟨bo, oo, hAt, hbo, hco⟩ := hrg.at_ (by omega)
                        have hce := hco (leadN r) hat
                        rw [hAt] at hcg hrg
                        have hfz : wt2.frozen? ⟨g, t, none⟩ = false := hsh6.out.own.frozenAt t
                        have hopl := hrr.out.rref.pl t htn
                        obtain ⟨y1, y2⟩ := hopl.small hp2 (leadN r)
                        have hlead := lessAll_lead hrr.out.rref Hp.out hredr.out hat Hs.out htn
                        have hln := hrr.out.rref.lt t htn
                        have Hlead := Lib.hid hlead
                        have Hopl := Lib.hid hopl
                        have Hrg := Lib.hid hrg
                        have HAt := Lib.hid hAt
                        clear hrg hco hAt hopl hlead emix
                        have htb : (t : Int) < (n : Int) := by omega
                        have htb0 : (0 : Int) ≤ (t : Int) := by omega
                        go_wp2
                        go_region_with (first
                          | (go_at_call 48; refine (less_any _ _ L (C t) cr (O t) s (nth (O t) (leadN r)) p _ Hrg.out.drew hsi6.out.drew (by omega) (Hopl.out.small hp2) (Hspl.out.small hp2) ⟨y1, y2⟩ (by omega) (by omega)).mono ?_; rintro e w2 ⟨A2, q2, rfl, hnew⟩; have hfz2 : w2.frozen? ⟨g, t, none⟩ = false := (hnew.bel.frozen (p := ⟨g, t, none⟩) (World.block_lt_of_cell? _ _ hcg)).trans hfz; have hcz2 : w2.cell? ⟨g, t, none⟩ = some (.slice (some ⟨bo, oo, none⟩) L (C t)) := (hnew.bel.cell (p := ⟨g, t, none⟩) (World.block_lt_of_cell? _ _ hcg)).trans hcg))
                        all_goals
                          have hsh7 := ((hsh6.out.drew.bel hnew.bel).set (c := q2) htn hnew.rd).congr (O' := mixR L O s (leadN r) p (t + 1)) (fun i hi => by
                            unfold mixR lessAll
                            by_cases e : i = t
                            · subst e; rw [if_pos rfl, if_pos (by omega)]
                            · rw [if_neg e]
                              by_cases e2 : i < t
                              · rw [if_pos e2, if_pos (by omega)]
                              · rw [if_neg e2, if_neg (by omega)])
                          have hsi7 := (hsi6.out.drew.bel hnew.bel).far (x := .slice A2 L q2) hcz2 (fun _ _ => by simp)
                          have hrd7 := hnew.rd.far (x := .slice A2 L q2) hcz2 (fun _ _ => by simp)
                          have hb7 := (hb6.drew.trans (hnew.bel.mono (show w.heap.size ≤ wt2.drew.heap.size from hb6.size))).setCell (p := ⟨g, t, none⟩) hgB (.slice A2 L q2)
                          have hch : (w2.setCell ⟨g, t, none⟩ (.slice A2 L q2)).cell? ⟨g, t, none⟩ = some (.slice A2 L q2) := hsh7.own.cellAt t (by omega) |>.trans (by rw [shd_get htn]; simp)
                          have cf2 := first_any A2 L q2 _ _ hrd7 (by omega)
                          rw [leadI_of (by rw [lessRow_length]; have := Hlead.out; unfold lessAll at this; rw [this]; exact hln), show leadN (lessRow L (O t) s (nth (O t) (leadN r)) p) = leadN (O t) from Hlead.out] at cf2
                          have Cf2 := Lib.hid cf2
                          have Hsh7 := Lib.hid hsh7
                          have Hsi7 := Lib.hid hsi7
                          clear hsh7 hsi7 hrd7 cf2 hnew hcz2 hfz2 hcg hce hfz
                          generalize w2.setCell ⟨g, t, none⟩ (.slice A2 L q2) = w3 at hch hb7 Cf2 Hsh7 Hsi7 ⊢
                          by_cases hlq : leadN (O t) < leadN r
                          · have hlqb : (leadN (O t) : Int) < (leadN r : Int) := by omega
                            go_wp2_with (go_at_call 49; refine Cf2.out.mono ?_; rintro e w' ⟨rfl, rfl⟩)
                            go_roundw
                            case rel => exact ⟨t + 1, t + 1, _, _, by omega, by omega, by go_num, by go_num, Hsh7.out, Hsi7.out, (fun j hj => by by_cases e : j = t; (subst e; exact hlq); (have := hrr.out.rref.mono j t (by omega) htn; omega)), (fun j h1 h2 => absurd h2 (by omega)), hb7⟩
                            case measure => simp [intOf]; omega
                          · have hlqb : ¬ (leadN (O t) : Int) < (leadN r : Int) := by omega
                            go_wp2_with (go_at_call 49; refine Cf2.out.mono ?_; rintro e w' ⟨rfl, rfl⟩)
                            go_roundw
                            case rel => exact ⟨t + 1, q, _, _, by omega, by omega, rfl, by go_num, Hsh7.out, Hsi7.out, hq1, (fun j h1 h2 => if e : j = t then e ▸ hlq else hq2.out j h1 (by omega)), hb7⟩
                            case measure => simp [intOf]; omega
                      · obtain rfl : n = t := by omega
                        have hs6 := hb6.size
                        have hmrg := Lib.hid (Red.insert Hp.out hrr.out (R0 := fun i => redRow (rAt rows i) p) hredr.out hat Hs.out hqt hq1.out hq2.out)
                        have hrd0 : Hid (Reads wt2 wt2.heap.size 1 Av n (shd A C L n)) := Reads.of_own hsh6.out.own
                        have hncv : n ≤ cv := by
                          rcases hsh6.out.own.2 with ⟨hv, h0⟩ | ⟨g, cap, cur, hv, hg, hh, hc, _⟩
                          · omega
                          · simp only [Value.slice.injEq] at hv; omega
                        have hqb : (q : Int) ≤ (n : Int) := by omega
                        have hqb0 : (0 : Int) ≤ (q : Int) := by omega
                        have hqc : (q : Int) ≤ (cv : Int) := by omega
                        have hqc2 : (n : Int) ≤ (cv : Int) := by omega
                        go_wp2
                        have HA : Hid (World.ownsRow (wt2.alloc (.cells #[] 39)).drew wt2.heap.size 39 1 (.slice (some ⟨wt2.heap.size, 0, none⟩) 0 0) 0 []) := own_drew (own_empty wt2 _ (Nat.le_refl _))
                        have HB : Hid (World.ownsRow ((wt2.alloc (.cells #[] 39)).alloc (.cells #[.slice (some ⟨gr, 0, none⟩) L cr] 39)).drew wt2.heap.size 39 1 (.slice (some ⟨wt2.heap.size, 0, none⟩) 0 0) 0 []) := own_drew ((own_empty wt2 _ (Nat.le_refl _)).alloc _)
                        have HC : Hid (World.ownsRow ((wt2.alloc (.cells #[.slice (some ⟨gr, 0, none⟩) L cr] 39)).alloc (.cells #[] 39)).drew wt2.heap.size 39 1 (.slice (some ⟨wt2.heap.size + 1, 0, none⟩) 0 0) 0 []) := own_drew (by have := own_empty (wt2.alloc (.cells #[.slice (some ⟨gr, 0, none⟩) L cr] 39)) (base := wt2.heap.size) 39 (by simp); simpa using this)
                        have BA : Hid (Below wt2.heap.size wt2 (wt2.alloc (.cells #[] 39)).drew) := ((Below.refl _ _).alloc (Nat.le_refl _) _).drew
                        have BB : Hid (Below wt2.heap.size wt2 ((wt2.alloc (.cells #[] 39)).alloc (.cells #[.slice (some ⟨gr, 0, none⟩) L cr] 39)).drew) := (((Below.refl _ _).alloc (Nat.le_refl _) _).alloc (by simp) _).drew
                        have BC : Hid (Below wt2.heap.size wt2 ((wt2.alloc (.cells #[.slice (some ⟨gr, 0, none⟩) L cr] 39)).alloc (.cells #[] 39)).drew) := (((Below.refl _ _).alloc (Nat.le_refl _) _).alloc (by simp) _).drew
                        have hrq : Reads wt2 wt2.heap.size 1 Av q (shd A C L q) := by have := hrd0.out.take hqt; rwa [shd_take hqt] at this
                        have RA := Lib.hid (hrq.below BA.out)
                        have RB := Lib.hid (hrq.below BB.out)
                        have RC := Lib.hid (hrq.below BC.out)
                        have NB : Hid (World.cell? ((wt2.alloc (.cells #[] 39)).alloc (.cells #[.slice (some ⟨gr, 0, none⟩) L cr] 39)).drew ⟨wt2.heap.size + 1, 0, none⟩ = some (.slice (some ⟨gr, 0, none⟩) L cr)) := cell_new1 _ _ _ _
                        have NC : Hid (World.cell? ((wt2.alloc (.cells #[.slice (some ⟨gr, 0, none⟩) L cr] 39)).alloc (.cells #[] 39)).drew ⟨wt2.heap.size, 0, none⟩ = some (.slice (some ⟨gr, 0, none⟩) L cr)) := cell_old0 _ _ _ _
                        have hl1 : 0 + q ≤ maxLen := by unfold maxLen; omega
                        have hl2 : (0 + q) * 24 ≤ 140737488355328 := by omega
                        have hl3 : 0 + q + 1 ≤ maxLen := by unfold maxLen; omega
                        have hl4 : (0 + q + 1) * 24 ≤ 140737488355328 := by omega
                        have hl5 : 0 + q + 1 + (n - q) ≤ maxLen := by unfold maxLen; omega
                        have hl6 : (0 + q + 1 + (n - q)) * 24 ≤ 140737488355328 := by omega
                        have Hl := Lib.hid (And.intro hl1 (And.intro hl3 hl5))
                        have hct : Hid (Reads wt2 wt2.heap.size 1 (if cv = q then Av else Av.map (fun x => x.add q)) (n - q) ((shd A C L n).drop q)) := by have := hrd0.out.cut hqt hncv; simp only [Nat.mul_one] at this; exact this
                        clear hrq
                        go_region_held3 (fun w' => Below wt2.heap.size wt2 w')
                          (first | exact hb3 | exact hb2 | exact hb1 | exact BA.out | exact BB.out | exact BC.out | exact hb1.alloc hb1.size _ | exact (Below.refl _ _).drew | exact ((Below.refl _ _).alloc (Nat.le_refl _) _).drew)
                          (first
                            | (refine step_append_any (w := (wt2.alloc (.cells #[] 39)).drew) (by rfl) (.tmp 131) (.tmp 134) _ (by rfl) wt2.heap.size 39 j0 _ 1 24 Try.underlying32 hj00 hy0 hy1 hy2 rfl (by omega) (.slice (some ⟨wt2.heap.size, 0, none⟩) 0 0) 0 [] (by rfl) HA.out wt2.heap.size Av q cv (shd A C L q) (by rfl) RA.out (shd_oneCell _ _ _ _) hl1 hl2 BA.out.size ?_; intro v1 w1 hown1 hg1 hat1; have hb1 := BA.out.grown hg1 BA.out.size (fun k hk => (HA.out.lt k hk).1))
                            | (refine step_append_any (w := ((wt2.alloc (.cells #[] 39)).alloc (.cells #[.slice (some ⟨gr, 0, none⟩) L cr] 39)).drew) (by rfl) (.tmp 131) (.tmp 134) _ (by rfl) wt2.heap.size 39 j0 _ 1 24 Try.underlying32 hj00 hy0 hy1 hy2 rfl (by omega) (.slice (some ⟨wt2.heap.size, 0, none⟩) 0 0) 0 [] (by rfl) HB.out wt2.heap.size Av q cv (shd A C L q) (by rfl) RB.out (shd_oneCell _ _ _ _) hl1 hl2 BB.out.size ?_; intro v1 w1 hown1 hg1 hat1; have hb1 := BB.out.grown hg1 BB.out.size (fun k hk => (HB.out.lt k hk).1); have hn1 := hg1.cell NB.out (by simp [Value.ownBlock]))
                            | (refine step_append_any (w := ((wt2.alloc (.cells #[.slice (some ⟨gr, 0, none⟩) L cr] 39)).alloc (.cells #[] 39)).drew) (by rfl) (.tmp 131) (.tmp 134) _ (by rfl) wt2.heap.size 39 j0 _ 1 24 Try.underlying32 hj00 hy0 hy1 hy2 rfl (by omega) (.slice (some ⟨wt2.heap.size + 1, 0, none⟩) 0 0) 0 [] (by rfl) HC.out wt2.heap.size Av q cv (shd A C L q) (by rfl) RC.out (shd_oneCell _ _ _ _) hl1 hl2 BC.out.size ?_; intro v1 w1 hown1 hg1 hat1; have hb1 := BC.out.grown hg1 BC.out.size (fun k hk => (HC.out.lt k hk).1); have hn1 := hg1.cell NC.out (by simp [Value.ownBlock]))
                            | (refine step_append_any (w := w1.alloc (.cells #[.slice (some ⟨gr, 0, none⟩) L cr] 39)) (by rfl) (.tmp 135) (.tmp 137) _ (by rfl) wt2.heap.size 39 j0 _ 1 24 Try.underlying32 hj00 hy0 hy1 hy2 rfl (by omega) v1 (0 + q) ([] ++ shd A C L q) (by rfl) (hown1.alloc _) (w1.heap.size + 1) (some ⟨w1.heap.size, 0, none⟩) 1 1 [.slice (some ⟨gr, 0, none⟩) L cr] (by rfl) (reads_of_cell (cell_new0 w1 _ _) (by omega)) (by simp [Value.oneCell']) hl3 hl4 (hb1.alloc hb1.size _).size ?_; intro v2 w2 hown2 hg2 hat2; have hb2 := (hb1.alloc hb1.size _).grown hg2 (hb1.alloc hb1.size _).size (fun k hk => (hown1.lt k hk).1))
                            | (refine step_append_any (w := w1) (by rfl) (.tmp 135) (.tmp 137) _ (by rfl) wt2.heap.size 39 j0 _ 1 24 Try.underlying32 hj00 hy0 hy1 hy2 rfl (by omega) v1 (0 + q) ([] ++ shd A C L q) (by rfl) hown1 w1.heap.size (some ⟨_, 0, none⟩) 1 1 [.slice (some ⟨gr, 0, none⟩) L cr] (by rfl) (reads_of_cell hn1 (World.block_lt_of_cell? _ _ hn1)) (by simp [Value.oneCell']) hl3 hl4 hb1.size ?_; intro v2 w2 hown2 hg2 hat2; have hb2 := hb1.grown hg2 hb1.size (fun k hk => (hown1.lt k hk).1))
                            | (refine step_append_any (w := w2) (by rfl) (.tmp 138) (.tmp 141) _ (by rfl) wt2.heap.size 39 j0 _ 1 24 Try.underlying32 hj00 hy0 hy1 hy2 rfl (by omega) v2 (0 + q + 1) ([] ++ shd A C L q ++ [.slice (some ⟨gr, 0, none⟩) L cr]) (by rfl) hown2 wt2.heap.size (if cv = q then Av else Av.map (fun x => x.add q)) (n - q) (cv - q) ((shd A C L n).drop q) (by rfl) (hct.out.below hb2) (fun u hu => shd_oneCell _ _ _ _ u (List.mem_of_mem_drop hu)) hl5 hl6 hb2.size ?_; intro v3 w3 hown3 hg3 hat3; have hb3 := hb2.grown hg3 hb2.size (fun k hk => (hown2.lt k hk).1)))
                        all_goals
                          rw [shd_ins hqt, show 0 + q + 1 + (n - q) = n + 1 by omega] at hown3
                          obtain ⟨Av3, cv3, rfl⟩ := own_slice hown3
                          have hsh8 : Hid (Shelf w3 w.heap.size Av3 cv3 (fun i => if i < q then A i else if i = q then some ⟨gr, 0, none⟩ else A (i - 1)) (fun i => if i < q then C i else if i = q then cr else C (i - 1)) (n + 1) L (insR (lessAll L O s (leadN r) p) q s)) := by
                            refine ⟨own_mono hown3 hs6, fun i hi => ?_⟩
                            have hmix : ∀ j, j < n → mixR L O s (leadN r) p n j = lessAll L O s (leadN r) p j := fun j hj => by unfold mixR; rw [if_pos hj]
                            unfold insR
                            by_cases e1 : i < q
                            · simp only [if_pos e1]
                              have := (hsh6.out.rd i (by omega)).bel hb3
                              rwa [hmix i (by omega)] at this
                            · by_cases e2 : i = q
                              · simp only [if_neg e1, if_pos e2]; exact hsi6.out.bel hb3
                              · simp only [if_neg e1, if_neg e2]
                                have := (hsh6.out.rd (i - 1) (by omega)).bel hb3
                                rwa [hmix (i - 1) (by omega)] at this
                          have hb8 := hb6.trans (hb3.mono hs6)
                          clear hown3 hg3 hat3 hown2 hg2 hat2 hown1 hg1 hat1 hb1 hb2 hb3
                          go_wp2
                          go_roundw
                          case rel => exact ⟨k + 1, n + 1, cv3, Av3, _, _, _, by omega, by omega, by go_num, rfl, hsh8, hmrg.out, hb8⟩
                          case measure => simp [intOf]; omega
              · have hL2 : leadN r = L := by have := leadN_le r; omega
                have e1 : leadI r = -1 := by unfold leadI; rw [if_neg (by omega)]
                rw [e1] at cf
                have Cf := Lib.hid cf
                have Hnone := Lib.hid (Red.none (by omega) hrr.out (R0 := fun i => redRow (rAt rows i) p) hredr.out hL2)
                have Hsh2 := Lib.hid (hsh.out.bel hbt)
                have hbel3 := hbel.trans (hbt.mono hsi)
                clear hri hrl cf hrpl hL2 e1 hownr
                go_wp2_with (go_at_call 49; refine (Cf.out _ Hri.out).mono ?_; rintro e w' ⟨rfl, rfl⟩)
                go_roundw
                case rel => exact ⟨k + 1, n, cv, Av, A, C, O, by omega, by omega, by go_num, rfl, Hsh2.out, Hnone.out, hbel3⟩
                case measure => simp [intOf]; omega
    · obtain rfl : m = k := by omega
      have hmat := hsh.out.mat (by omega) hrr.out.rref.len
      go_wp2
      go_ret2
      exact ⟨_, _, _, _, rfl, hmat, ⟨O, n, hrr.out, rfl⟩, hbel⟩

end Go.Proofs.Ythpkpnpkkflfpaa
