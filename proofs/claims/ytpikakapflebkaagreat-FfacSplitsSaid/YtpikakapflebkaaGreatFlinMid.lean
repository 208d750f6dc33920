/- Contract: a matrix's plain rows: the program's.
   Memory of rows whose headers lie in a block of the call's own.
   Contract: a matrix's plain rows: the document's.
   Contracts: a matrix's plain rows, of any rows: the program's and the document's.
   Contracts: are matrices the same? -/
import Derived.Test.YtpikakapflebkaaGreatFlinBase
import Derived.Test.YtpikakapflebkaaGreatBase
import Derived.Test.YtpikakapflebkaaGreatSpanAll
import Derived.Deep.RegionWith
namespace Go.Proofs.YtpikakapflebkaaGreat
open Go.RowKit Cl
attribute [local go_sem ↓] Go.wp_at_zero Go.wp_at_succ

set_option maxRecDepth 100000 in
set_option maxHeartbeats 4000000 in
theorem grid_build (A : Option Addr) (m c L : Nat) (rows : List (List Int)) (p : Int) (w : World) (hx : Mat w A m rows) (hrow : ∀ i, i < m → (rAt rows i).length = L) (hm : m ≤ 64) (hL : L ≤ 64) (hp1 : 2 ≤ p) (hp2 : p ≤ 65521) (hp : isPrime p = true) (hok : matOk rows p = true) (hpos : 0 < m) :
    Calls Tryz.prog 93 #[.slice A m c, .int .i64 p] w (GivesRows w 0 (fun rows' => ∃ R n, Ech m L (fun i => redRow (rAt rows i) p) p L R n ∧ rows' = rowsTab n R)) := by
  obtain ⟨i0, hi, hz0, hz1, hz2⟩ := info_parts rows_info
  have Hrow := Lib.hid hrow
  have c1 := right_any A m c rows p w hx (by omega) (by omega)
  rw [matE_yes hok] at c1
  have C1 := Lib.hid c1
  clear c1 hrow
  go_enter Tryz.func93, Tryz.ntmps93
  go_wp2_with (go_at_call 92; refine C1.out.mono ?_; rintro e w' ⟨rfl, rfl⟩)
  go_loopw [7, 25] (fun v i wr => ∃ (k : Nat) (G : Nat → Nat), k ≤ m ∧ i = .int .i64 k ∧ Grid wr w.heap.size v G k L (fun i => redRow (rAt rows i) p) p ∧ Below w.heap.size w wr) (fun _ i _ => m - (intOf i).toNat)
  case atStart => exact ⟨0, fun _ => 0, by omega, rfl, ⟨World.ownsRow_nil _ _ _ _, fun i hi => absurd hi (by omega), fun i hi => absurd hi (by omega), fun i hi => absurd hi (by omega), fun i _ hi => absurd hi (by omega), fun i hi => absurd hi (by omega)⟩, Below.refl _ _⟩
  case round =>
    obtain ⟨k, G, hk, rfl, hgrid, hbel⟩ := hrel
    have hs2 := hbel.size
    by_cases hlt : k < m
    · obtain ⟨b, o, rfl, hb, hc⟩ := hx.at_ (by omega)
      obtain ⟨Ak, ck, hck, hik⟩ := hc k hlt
      have hck' : wr.cell? ⟨b, o + k, none⟩ = some (.slice Ak (rAt rows k).length ck) := (hbel.cell (p := ⟨b, o + k, none⟩) hb).trans hck
      have hik' : Ints wr Ak (rAt rows k).length (rAt rows k) := hik.bel hbel
      rw [Hrow.out k hlt] at hck' hik'
      clear hck hik hc
      have C3 := Lib.hid (plain_row Ak L ck (rAt rows k) p wr hik' (by omega) (by omega) (by omega))
      have hown := hgrid.own
      have Hgrid := Lib.hid hgrid
      clear hgrid
      go_wp2_with (first
        | (go_at_call 131; refine C3.out.mono ?_; rintro e w2 ⟨rfl, hrow2, hb2⟩; have hown2 := own_bel hown hb2; have hbel2 := hbel.trans (hb2.mono hs2); have hsz2 := hbel2.size)
        | (at_builtin; refine wpList_append_lies _ (by rfl) _ _ _ (by rfl) w.heap.size 22 i0 _ 1 24 Tryz.underlying44 hi hz0 hz1 hz2 rfl (by omega) u7 k (heads G L k) (by rfl) (hown2.alloc _) ⟨w2.heap.size, 0, none⟩ 1 1 [.slice (some ⟨wr.heap.size, 0, none⟩) L L] (by rfl) (by rfl) (World.news_of_block (cs := #[.slice (some ⟨wr.heap.size, 0, none⟩) L L]) (t := 22) (fr := (0, 0)) (heap_alloc_new w2 _)) (by simp [Value.oneCell']) (by omega) (by unfold maxLen; omega) (by omega) (by simp; omega) (w2.heap.size + 1) (by simp) ?_; intro gg cap w3 hown3 hgrow hat hlt3))
      have hb3 := below_app' hbel2 hown2 hgrow hsz2
      have hg3 := Hgrid.out.push hb2 hs2 hrow2 (by rw [redRow_length]; exact Hrow.out k hlt) (redRow_pl _ (by omega)) hown3 hgrow
      clear hgrow hat hown3 hown2 hrow2
      go_wp2
      go_roundw
      case rel => exact ⟨k + 1, _, by omega, by go_num, hg3, hb3⟩
      case measure => simp [intOf]; omega
    · obtain rfl : k = m := by omega
      have hm0 : 0 < k := hpos
      obtain ⟨g, cap, rfl, hgB, hkc, hcm⟩ := hgrid.form hm0
      obtain ⟨wo, rfl⟩ : ∃ wo : World, wo = wr := ⟨_, rfl⟩
      go_wp2
      go_loopg [10, 11] (L + 1) (fun gk cn cc wr => ∃ (n c gc : Nat) (G : Nat → Nat) (R : Nat → List Int), n ≤ k ∧ c ≤ L ∧ L - c ≤ gk ∧ cn = .int .i64 n ∧ cc = .pointer (some ⟨gc, 0, none⟩) ∧ Row wr gc 3 [(c : Int)] ∧ w.heap.size ≤ gc ∧ Hid (∀ i, i < k → G i ≠ gc) ∧ Hid (Grid wr w.heap.size (.slice (some ⟨g, 0, none⟩) k cap) G k L R p) ∧ Below w.heap.size w wr ∧ Hid (Ech k L (fun i => redRow (rAt rows i) p) p c R n))
      case atStart =>
        refine ⟨0, 0, wo.heap.size, G, _, by omega, by omega, by omega, rfl, rfl, Row.new wo _ [0], hs2, (fun i hi => ?_), ?_, hbel.alloc hs2 _, Ech.start⟩
        · have := (hgrid.row i hi).lt; omega
        · exact hgrid.only (Only.alloc (S := fun _ => False) (Only.refl _ _) _) (fun h => h) (fun _ _ h => h)
      case round =>
        obtain ⟨n, c, gc, G, R, hn, hc, hgk, rfl, rfl, hone, hgcB, hgc, hgrid, hbel, hE⟩ := hrel
        have hcc : wr.cell? ⟨gc, 0, none⟩ = some (.int .i64 (c : Int)) := hone.cell (i := 0) (by simp)
        have h0c := hgrid.out.cell (i := 0) hm0
        by_cases hnk : n < k
        · by_cases hcL : c < L
          · rcases hit_or_miss R k n c with ⟨q, hq⟩ | hq
            · obtain ⟨d, rfl⟩ : ∃ d, q = n + d := ⟨q - n, by have := hq.ge; omega⟩
              have hd1 : (n : Int) < (k : Int) := by omega
              have hd2 : (c : Int) < (L : Int) := by omega
              have hql := hq.lt
              go_wp2
              go_quiet (fail)
              have hgrid2 := hgrid.out.drewN nq
              have hone2 := hone.drewN nq
              have hbel2 := below_drewN hbel nq
              clear hgrid hone hbel hcc h0c
              generalize wr.drewN nq = wq at hgrid2 hone2 hbel2 ⊢
              have Hoth := Lib.hid (hgrid2.others (a := n) (k := k - n) (by omega))
              have Hgrid := Lib.hid hgrid2
              have Hq : Hid (∀ i, i < d → nth (R (n + i)) c = 0) := fun i hi => hq.no (n + i) (by omega) (by omega)
              have Hy := Lib.hid hq.yes
              have Hhit := Lib.hid hq
              have hcc : wq.cell? ⟨gc, 0, none⟩ = some (.int .i64 (c : Int)) := hone2.cell (i := 0) (by simp)
              have hgn := hgrid2.cell (i := n) hnk
              have hgd := hgrid2.cell (i := n + d) hql
              have hfn : wq.frozen? ⟨g, n, none⟩ = false := hgrid2.own.frozenAt n
              have hfd : wq.frozen? ⟨g, n + d, none⟩ = false := hgrid2.own.frozenAt (n + d)
              have hdn : ¬ ((d : Int) < 0) := by omega
              have hnb : (0 : Int) ≤ (n : Int) := by omega
              have hdb : (n : Int) + (d : Int) < (k : Int) := by omega
              have hown2 := hgrid2.own
              clear hgrid2 hq
              go_wp2_with (go_at_call 132; refine (idx_hit _ _ _ c L gc p (fun i => G (n + i)) (fun i => R (n + i)) _ Hoth.out hcc hcL hL (by omega) hp2 d (by omega) Hq.out Hy.out).mono ?_; rintro e w' ⟨rfl, rfl⟩)
              obtain ⟨y1, hy1⟩ := cell?_setCell_some (w := wq) (p := ⟨g, n, none⟩) (x := .slice (some ⟨G (n + d), 0, none⟩) L L) (q := ⟨g, n + d, none⟩) (v := .slice (some ⟨G (n + d), 0, none⟩) L L) hgd
              obtain ⟨y2, hy2⟩ := cell?_setCell_some (w := wq) (p := ⟨g, n + d, none⟩) (x := .slice (some ⟨G n, 0, none⟩) L L) (q := ⟨g, n, none⟩) (v := .slice (some ⟨G n, 0, none⟩) L L) hgn
              go_region
              have hgne : gc ≠ g := fun e => (own_row_ne hown2 hone2 (by decide)) (by rw [e]; rfl)
              have hg3 := (Hgrid.out.swap (a := n) (b := (n + d)) hnk hql).drew
              have hone3 : Row ((wq.setCell ⟨g, n, none⟩ (.slice (some ⟨G (n + d), 0, none⟩) L L)).setCell ⟨g, (n + d), none⟩ (.slice (some ⟨G n, 0, none⟩) L L)).drew gc 3 [(c : Int)] := ((hone2.far (p := ⟨g, n, none⟩) hgne _).far (p := ⟨g, (n + d), none⟩) hgne _).drew
              have hbel3 : Below w.heap.size w ((wq.setCell ⟨g, n, none⟩ (.slice (some ⟨G (n + d), 0, none⟩) L L)).setCell ⟨g, (n + d), none⟩ (.slice (some ⟨G n, 0, none⟩) L L)).drew := ((hbel2.setCell (p := ⟨g, n, none⟩) hgB _).setCell (p := ⟨g, (n + d), none⟩) hgB _).drew
              clear hone2 hbel2 hown2 hcc hgn hgd hfn hfd hy1 hy2
              generalize ((wq.setCell ⟨g, n, none⟩ (.slice (some ⟨G (n + d), 0, none⟩) L L)).setCell ⟨g, (n + d), none⟩ (.slice (some ⟨G n, 0, none⟩) L L)).drew = wx at hg3 hone3 hbel3 ⊢
              have hcx : wx.cell? ⟨gc, 0, none⟩ = some (.int .i64 (c : Int)) := hone3.cell (i := 0) (by simp)
              have hhx := hg3.cell (i := n) hnk
              rw [swapG_left] at hhx
              have hrx := hg3.row n hnk
              have hlx := hg3.len n hnk
              have hpx := hg3.pl n hnk
              rw [swapG_left] at hrx
              rw [swapR_left] at hrx hlx hpx
              have hxc := hrx.cell (i := c) (by omega)
              have Hg3 := Lib.hid hg3
              have Hone3 := Lib.hid hone3
              have Hrx := Lib.hid hrx
              have Hlx := Lib.hid hlx
              have Hpx := Lib.hid hpx
              obtain ⟨x1, x2⟩ := hpx c
              have hnc : ¬ Cg p (nth (R (n + d)) c) 0 := fun h0 => Hy.out (h0.eq_of_lt x1 x2 (by omega) (by omega))
              have hinv : ∀ W : World, Calls Tryz.prog 107 #[.int .i64 (nth (R (n + d)) c), .int .i64 p] W fun e w' => e = .returned (.tuple #[.int .i64 (invm (nth (R (n + d)) c) p), .int .i64 0]) ∧ W = w' := fun W => by
                have := inv_yes (nth (R (n + d)) c) p W (by omega) (by omega) (by omega) (by omega) hp
                rwa [invE_ok hnc] at this
              have Hinv := Lib.hid hinv
              obtain ⟨v1, v2⟩ := invm_bd (nth (R (n + d)) c) ((isPrime_iff p).1 hp)
              clear hg3 hone3 hrx hlx hpx hnc hinv
              go_wp2
              go_quiet ((go_at_call 107; first | exact quiet_add_left (Hinv.out _) | exact quiet_left (Hinv.out _)))
              have hbel4 := below_drewN hbel3 nq
              have Hg4 := Lib.hid (Hg3.out.drewN nq)
              have Hone4 := Lib.hid (Hone3.out.drewN nq)
              have hrx4 := Hrx.out.drewN nq
              clear Hg3 Hone3 Hrx hbel3 hhx hcx hxc
              generalize wx.drewN nq = wy at hbel4 Hg4 Hone4 hrx4 ⊢
              have hhy := Hg4.out.cell (i := n) hnk
              rw [swapG_left] at hhy
              have hcy : wy.cell? ⟨gc, 0, none⟩ = some (.int .i64 (c : Int)) := Hone4.out.cell (i := 0) (by simp)
              have hgq : gc ≠ G (n + d) := fun e => hgc.out (n + d) hql e.symm
              go_wp2
              go_loopw [92] (fun i wr => ∃ j : Nat, j ≤ L ∧ i = .int .i64 j ∧ Row wr (G (n + d)) 3 (scaleTo (invm (nth (R (n + d)) c) p) p (R (n + d)) j) ∧ Only (fun y => y = G (n + d)) wy wr) (fun i _ => L - (intOf i).toNat)
              case atStart => exact ⟨0, by omega, rfl, by rw [scaleTo_zero]; exact hrx4, Only.refl _ _⟩
              case round =>
                obtain ⟨j, hj, rfl, hrw, hon⟩ := hrel
                have hneg : g ≠ G (n + d) := fun e => by have := Hg4.out.ne (i := n) hnk; rw [swapG_left] at this; exact this e.symm
                have hlg := Hg4.out.lt
                by_cases hjL : j < L
                · have hhw : wr.cell? ⟨g, n, none⟩ = some (.slice (some ⟨G (n + d), 0, none⟩) L L) := (hon.cell (p := ⟨g, n, none⟩) hlg hneg).trans hhy
                  have hjr : j < (scaleTo (invm (nth (R (n + d)) c) p) p (R (n + d)) j).length := by rw [scaleTo_length, Hlx.out]; exact hjL
                  have hrc := hrw.cell hjr
                  rw [nth_scaleTo] at hrc
                  have hrf := hrw.frozen j
                  obtain ⟨d1, d2⟩ := Hpx.out j
                  have hm1 : 0 ≤ nth (R (n + d)) j * invm (nth (R (n + d)) c) p := Int.mul_nonneg d1 v1
                  have hm2 : nth (R (n + d)) j * invm (nth (R (n + d)) c) p ≤ 65521 * 65521 := Int.mul_le_mul (by omega) (by omega) v1 (by omega)
                  have hjb : (j : Int) < (L : Int) := by omega
                  have hset := hrw.set j (nth (R (n + d)) j * invm (nth (R (n + d)) c) p % p)
                  rw [scaleTo_set _ p _ (by rw [Hlx.out]; exact hjL)] at hset
                  have Hset := Lib.hid hset
                  clear hset hjr
                  go_wp2
                  go_region
                  all_goals go_wp2
                  all_goals go_roundw
                  case rel => exact ⟨j + 1, by omega, by go_num, Hset.out.drew, (hon.setCell rfl _).drew⟩
                  case measure => simp [intOf]; omega
                · obtain rfl : L = j := by omega
                  have hown5 : Row wr (G (n + d)) 3 (scaleRow (invm (nth (R (n + d)) c) p) p (R (n + d))) := by rw [← scaleTo_full, Hlx.out]; exact hrw
                  have hg5 := Hg4.out.setRow (w' := wr) hnk (by rw [swapG_left]; exact hown5) (by rw [scaleRow_length, Hlx.out]) (scaleRow_pl _ (by omega) _) (hon.mono (fun x hx => by rw [swapG_left]; exact hx))
                  have hbel5 := hbel4.trans (hon.below (B := w.heap.size) (by have := hbel4.size; omega) (fun x hx => by have := Hg4.out.ge n hnk; rw [swapG_left] at this; omega))
                  have hone5 := Hone4.out.only hon hgq
                  clear hrw hon Hg4 Hone4 hbel4 hrx4 hhy hcy
                  obtain ⟨OWN, hOWN⟩ : ∃ OWN, OWN = scaleRow (invm (nth (R (n + d)) c) p) p (R (n + d)) := ⟨_, rfl⟩
                  have HOWN := Lib.hid hOWN
                  rw [← hOWN] at hown5 hg5
                  clear hOWN
                  obtain ⟨wz, hwz⟩ : ∃ wz : World, wz = wr := ⟨_, rfl⟩
                  subst hwz
                  have hhz := hg5.cell (i := n) hnk
                  rw [swapG_left] at hhz
                  have hcz : wz.cell? ⟨gc, 0, none⟩ = some (.int .i64 (c : Int)) := hone5.cell (i := 0) (by simp)
                  have Hoth5 := Lib.hid (hg5.drew.others (a := 0) (k := n) (by omega))
                  have Hg5 := Lib.hid hg5
                  have Hone5 := Lib.hid hone5
                  have Hown5 := Lib.hid hown5
                  have hownl : Hid (OWN.length = L) := by
                    have := hg5.len n hnk
                    simp only [if_true] at this
                    exact this
                  have hownp : Hid (Pl p OWN) := by
                    have := hg5.pl n hnk
                    simp only [if_true] at this
                    exact this
                  clear hg5 hone5 hown5
                  have hncap : (n : Int) ≤ (cap : Int) := by omega
                  have hnk1 : (n : Int) + 1 ≤ (k : Int) := by omega
                  go_wp2
                  go_region_held3 (fun w' => w'.cell? ⟨g, n, none⟩ = some (.slice (some ⟨G (n + d), 0, none⟩) L L) ∧ w'.cell? ⟨gc, 0, none⟩ = some (.int .i64 (c : Int)))
                    (first | go_keep | exact ⟨(hst.only.cell (p := ⟨g, n, none⟩) Hg5.out.lt (fun ⟨i, hi, e⟩ => Hg5.out.ne (i := 0 + i) (by omega) e.symm)).trans hhz, (hst.only.cell (p := ⟨gc, 0, none⟩) Hone5.out.lt (fun ⟨i, hi, e⟩ => swapG_ne hgc.out hnk hql (0 + i) (by omega) e.symm)).trans hcz⟩)
                    (first
                      | (go_at_call 134; refine (strike_any _ _ (G (n + d)) L n cap OWN c p (fun i => swapG G n (n + d) (0 + i)) _ _ rfl Hown5.out.drew hownl.out hownp.out Hoth5.out (fun i hi e => by have := Hg5.out.inj (0 + i) n (by omega) hnk (by rw [swapG_left]; exact e); omega) hcL hL (by omega) hp1 hp2).mono ?_; rintro e w5 ⟨rfl, hst⟩))
                  have Hg6 := Lib.hid (Hg5.out.drew.struck (a := 0) (k := n) (by omega) (by omega) hst)
                  have hbel6 := hbel5.drew.trans (hst.only.below (B := w.heap.size) hbel5.size (fun x ⟨i, hi, e⟩ => by rw [e]; exact Hg5.out.ge _ (by omega)))
                  have hone6 := Hone5.out.drew.only hst.only (fun ⟨i, hi, e⟩ => swapG_ne hgc.out hnk hql (0 + i) (by omega) e.symm)
                  have hown6 := Hown5.out.drew.only hst.only (fun ⟨i, hi, e⟩ => by have := Hg5.out.inj n (0 + i) hnk (by omega) (by rw [swapG_left]; exact e); omega)
                  have hhv := Hg6.out.cell (i := n) hnk
                  rw [swapG_left] at hhv
                  have hcv : w5.cell? ⟨gc, 0, none⟩ = some (.int .i64 (c : Int)) := hone6.cell (i := 0) (by simp)
                  have Hone6 := Lib.hid hone6
                  have Hown6 := Lib.hid hown6
                  clear hone6 hown6 hst hbel5 hhz hcz Hone5 Hown5 Hoth5
                  by_cases hcap : cap = n + 1
                  · have hcap1 : (cap : Int) ≤ (n : Int) + 1 := by omega
                    have hcap0 : (0 : Int) ≤ (n : Int) + 1 := by omega
                    have hcap2 : (k : Int) ≤ (cap : Int) := by omega
                    have hcapn : ((n : Int) + 1).toNat = n + 1 := by omega
                    have hcap3 : IntKind.i64.wrap ((n : Int) + 1) = (n : Int) + 1 := IntWalk.i64_in _ (by omega)
                    subst hcap
                    go_wp2
                    go_region_held3 (fun w' => w'.cell? ⟨g, n, none⟩ = some (.slice (some ⟨G (n + d), 0, none⟩) L L) ∧ w'.cell? ⟨gc, 0, none⟩ = some (.int .i64 (c : Int)))
                      (first | go_keep | exact ⟨(hst6.only.cell (p := ⟨g, n, none⟩) Hg6.out.lt (fun ⟨i, hi, e⟩ => absurd hi (by omega))).trans hhv, (hst6.only.cell (p := ⟨gc, 0, none⟩) Hone6.out.lt (fun ⟨i, hi, e⟩ => absurd hi (by omega))).trans hcv⟩)
                      (first
                        | (go_at_call 134; refine (strike_any _ _ (G (n + d)) L 0 0 OWN c p (fun i => G i) (fun _ => []) _ rfl Hown6.out.drew hownl.out hownp.out (Others.none _ _ _ _ _ _) (fun i hi e => absurd hi (by omega)) hcL hL (by omega) hp1 hp2).mono ?_; rintro e w6 ⟨rfl, hst6⟩))
                    have Hg7 := Lib.hid (Hg6.out.drew.struck0 hst6)
                    have hbel7 := hbel6.drew.trans (hst6.only.below (B := w.heap.size) hbel6.size (fun x ⟨i, hi, e⟩ => absurd hi (by omega)))
                    have hone7 := Hone6.out.drew.only hst6.only (fun ⟨i, hi, e⟩ => absurd hi (by omega))
                    have hcw : w6.cell? ⟨gc, 0, none⟩ = some (.int .i64 (c : Int)) := hone7.cell (i := 0) (by simp)
                    clear hone7 hst6 hbel6 hhv hcv Hone6 Hown6
                    go_wp2
                    go_roundg (gk - 1)
                    case measure => omega
                    case rel =>
                      exact ⟨n + 1, c + 1, w6.heap.size, swapG G n (n + d), pivotR R n (n + d) c p, by omega, by omega, by omega, by go_num, rfl, row_one _ _ _, hbel7.size, (fun i hi => by have := (Hg7.out.row i hi).lt; omega), (Hg7.out.congr (fun t ht => pivotR_eq0 (by omega) OWN HOWN.out t ht)).alloc _, hbel7.alloc hbel7.size _, hE.out.hit Hhit.out⟩
                  · have hcap1 : (n : Int) + 1 < (cap : Int) := by omega
                    have hcap0 : (0 : Int) ≤ (n : Int) + 1 := by omega
                    have hcap2 : (k : Int) ≤ (cap : Int) := by omega
                    have hcapn : ((n : Int) + 1).toNat = n + 1 := by omega
                    have hcap3 : IntKind.i64.wrap ((n : Int) + 1) = (n : Int) + 1 := IntWalk.i64_in _ (by omega)
                    have Hoth6 := Lib.hid (Hg6.out.drew.others (a := n + 1) (k := k - (n + 1)) (by omega))
                    go_wp2
                    go_region_held3 (fun w' => w'.cell? ⟨g, n, none⟩ = some (.slice (some ⟨G (n + d), 0, none⟩) L L) ∧ w'.cell? ⟨gc, 0, none⟩ = some (.int .i64 (c : Int)))
                      (first | go_keep | exact ⟨(hst6.only.cell (p := ⟨g, n, none⟩) Hg6.out.lt (fun ⟨i, hi, e⟩ => Hg6.out.ne (i := n + 1 + i) (by omega) e.symm)).trans hhv, (hst6.only.cell (p := ⟨gc, 0, none⟩) Hone6.out.lt (fun ⟨i, hi, e⟩ => swapG_ne hgc.out hnk hql (n + 1 + i) (by omega) e.symm)).trans hcv⟩)
                      (first
                        | (go_at_call 134; refine (strike_any _ _ (G (n + d)) L (k - (n + 1)) (cap - (n + 1)) OWN c p (fun i => swapG G n (n + d) (n + 1 + i)) _ _ rfl Hown6.out.drew hownl.out hownp.out Hoth6.out (fun i hi e => by have := Hg6.out.inj (n + 1 + i) n (by omega) hnk (by rw [swapG_left]; exact e); omega) hcL hL (by omega) hp1 hp2).mono ?_; rintro e w6 ⟨rfl, hst6⟩))
                    have Hg7 := Lib.hid (Hg6.out.drew.struck (a := n + 1) (k := k - (n + 1)) (by omega) (by omega) hst6)
                    have hbel7 := hbel6.drew.trans (hst6.only.below (B := w.heap.size) hbel6.size (fun x ⟨i, hi, e⟩ => by rw [e]; exact Hg6.out.ge _ (by omega)))
                    have hone7 := Hone6.out.drew.only hst6.only (fun ⟨i, hi, e⟩ => swapG_ne hgc.out hnk hql (n + 1 + i) (by omega) e.symm)
                    have hcw : w6.cell? ⟨gc, 0, none⟩ = some (.int .i64 (c : Int)) := hone7.cell (i := 0) (by simp)
                    clear hone7 hst6 hbel6 hhv hcv Hone6 Hown6 Hoth6
                    go_wp2
                    go_roundg (gk - 1)
                    case measure => omega
                    case rel =>
                      exact ⟨n + 1, c + 1, w6.heap.size, swapG G n (n + d), pivotR R n (n + d) c p, by omega, by omega, by omega, by go_num, rfl, row_one _ _ _, hbel7.size, (fun i hi => by have := (Hg7.out.row i hi).lt; omega), (Hg7.out.congr (fun t ht => pivotR_eq hnk OWN HOWN.out t ht)).alloc _, hbel7.alloc hbel7.size _, hE.out.hit Hhit.out⟩
            · have hd1 : (n : Int) < (k : Int) := by omega
              have hd2 : (c : Int) < (L : Int) := by omega
              go_wp2
              go_quiet (fail)
              have hgrid2 := hgrid.out.drewN nq
              have hone2 := hone.drewN nq
              have hbel2 := below_drewN hbel nq
              clear hgrid hone hbel hcc h0c
              generalize wr.drewN nq = wq at hgrid2 hone2 hbel2 ⊢
              have Hoth := Lib.hid (hgrid2.others (a := n) (k := k - n) (by omega))
              have Hgrid := Lib.hid hgrid2
              have Hq : Hid (∀ i, i < k - n → nth (R (n + i)) c = 0) := fun i hi => hq (n + i) (by omega) (by omega)
              have hcc : wq.cell? ⟨gc, 0, none⟩ = some (.int .i64 (c : Int)) := hone2.cell (i := 0) (by simp)
              clear hgrid2
              go_wp2_with (go_at_call 132; refine (idx_none _ _ _ c L gc p (fun i => G (n + i)) (fun i => R (n + i)) _ Hoth.out hcc hcL hL (by omega) hp2 Hq.out).mono ?_; rintro e w' ⟨rfl, rfl⟩)
              go_roundg (gk - 1)
              case measure => omega
              case rel =>
                exact ⟨n, c + 1, wq.heap.size, G, R, by omega, by omega, by omega, rfl, rfl, row_one _ _ _, hbel2.size, (fun i hi => by have := (Hgrid.out.row i hi).lt; omega), Hgrid.out.alloc _, hbel2.alloc hbel2.size _, hE.out.miss hq⟩
          · obtain rfl : c = L := by omega
            have hd1 : (n : Int) < (k : Int) := by omega
            have hd2 : decide ((c : Int) < (c : Int)) = false := decide_eq_false (by omega)
            go_wp2
            go_quiet (fail)
            go_wp2
            go_ret2
            exact ⟨_, _, _, _, rfl, (hgrid.out.drewN _).mat hn hm hp2, ⟨R, n, hE.out, rfl⟩, below_drewN hbel _⟩
        · obtain rfl : n = k := by omega
          have hd1 : decide ((n : Int) < (n : Int)) = false := decide_eq_false (by omega)
          have hE2 := hE.out.full hc
          go_wp2
          go_quiet (fail)
          go_wp2
          go_ret2
          exact ⟨_, _, _, _, rfl, (hgrid.out.drewN _).mat hn hm hp2, ⟨R, n, hE2, rfl⟩, below_drewN hbel _⟩

end Go.Proofs.YtpikakapflebkaaGreat

namespace Go.Proofs.YtpikakapflebkaaGreat
open Go.RowKit Cl

def shd (A : Nat → Option Addr) (C : Nat → Nat) (L n : Nat) : List Value := (List.range n).map fun i => .slice (A i) L (C i)
theorem shd_length (A : Nat → Option Addr) (C : Nat → Nat) (L n : Nat) : (shd A C L n).length = n := by simp [shd]
theorem shd_get {A : Nat → Option Addr} {C : Nat → Nat} {L n i : Nat} (h : i < n) : (shd A C L n)[i]? = some (.slice (A i) L (C i)) := by simp [shd, h]
theorem shd_congr {A A' : Nat → Option Addr} {C C' : Nat → Nat} {L n : Nat} (h : ∀ i, i < n → A i = A' i ∧ C i = C' i) : shd A C L n = shd A' C' L n := by
  unfold shd
  exact List.map_congr_left fun i hi => by have := h i (List.mem_range.1 hi); rw [this.1, this.2]
theorem shd_oneCell (A : Nat → Option Addr) (C : Nat → Nat) (L n : Nat) : ∀ u ∈ shd A C L n, u.oneCell' = true := by
  intro u hu
  simp only [shd, List.mem_map] at hu
  obtain ⟨x, _, rfl⟩ := hu
  rfl
theorem shd_set {A : Nat → Option Addr} {C : Nat → Nat} {L n : Nat} (j : Nat) (a : Option Addr) (c : Nat) : (shd A C L n).set j (.slice a L c) = shd (fun i => if i = j then a else A i) (fun i => if i = j then c else C i) L n := by
  apply List.ext_getElem
  · simp [shd]
  · intro i h1 h2
    simp only [List.getElem_set, shd, List.getElem_map, List.getElem_range]
    by_cases e : j = i
    · subst e; simp
    · rw [if_neg e, if_neg (fun h => e h.symm), if_neg (fun h => e h.symm)]

theorem shd_take {A : Nat → Option Addr} {C : Nat → Nat} {L n q : Nat} (h : q ≤ n) : (shd A C L n).take q = shd A C L q := by
  apply List.ext_getElem?
  intro i
  rw [List.getElem?_take]
  by_cases hi : i < q
  · rw [if_pos hi, shd_get (by omega), shd_get hi]
  · rw [if_neg hi]; symm; simp [shd_length]; omega
/-- A header put in at place q. -/
theorem shd_ins {A : Nat → Option Addr} {C : Nat → Nat} {L n q : Nat} (h : q ≤ n) (a : Option Addr) (c : Nat) :
    [] ++ shd A C L q ++ [.slice a L c] ++ (shd A C L n).drop q = shd (fun i => if i < q then A i else if i = q then a else A (i - 1)) (fun i => if i < q then C i else if i = q then c else C (i - 1)) L (n + 1) := by
  apply List.ext_getElem?
  intro i
  rw [List.nil_append]
  by_cases h1 : i < q
  · rw [List.append_assoc, List.getElem?_append_left (by rw [shd_length]; exact h1), shd_get h1, shd_get (by omega), if_pos h1, if_pos h1]
  · by_cases h2 : i = q
    · subst h2
      rw [List.append_assoc, List.getElem?_append_right (by rw [shd_length]; omega), shd_length, Nat.sub_self, shd_get (by omega), if_neg h1, if_neg h1, if_pos rfl, if_pos rfl]; rfl
    · rw [List.getElem?_append_right (by simp [shd_length]; omega), List.getElem?_drop]
      simp only [List.length_append, shd_length, List.length_singleton]
      rw [show q + (i - (q + 1)) = i - 1 by omega]
      by_cases h3 : i < n + 1
      · rw [shd_get (by omega), shd_get h3, if_neg h1, if_neg h1, if_neg h2, if_neg h2]
      · rw [List.getElem?_eq_none (by rw [shd_length]; omega), List.getElem?_eq_none (by rw [shd_length]; omega)]
/-- Rows under headers in a block of the call's own. -/
structure Shelf (w : World) (B : Nat) (Av : Option Addr) (cv : Nat) (A : Nat → Option Addr) (C : Nat → Nat) (n L : Nat) (O : Nat → List Int) : Prop where
  own : w.ownsRow B 22 1 (.slice Av n cv) n (shd A C L n)
  rd : ∀ i, i < n → Ints w (A i) L (O i)
section
variable {w w' : World} {B : Nat} {Av : Option Addr} {cv : Nat} {A : Nat → Option Addr} {C : Nat → Nat} {n L : Nat} {O : Nat → List Int}
theorem Shelf.bel (h : Shelf w B Av cv A C n L O) (hb : Below w.heap.size w w') : Shelf w' B Av cv A C n L O := ⟨own_bel h.own hb, fun i hi => (h.rd i hi).bel hb⟩
theorem Shelf.form (h : Shelf w B Av cv A C n L O) (hn : 0 < n) : ∃ g, Av = some ⟨g, 0, none⟩ ∧ B ≤ g ∧ g < w.heap.size ∧ n ≤ cv := by
  rcases h.own.2 with ⟨hv, h0⟩ | ⟨g, cap, cur, hv, hg, hh, hc, _⟩
  · omega
  · simp only [Value.slice.injEq] at hv
    obtain ⟨rfl, _, rfl⟩ := hv
    exact ⟨g, rfl, hg, (Array.getElem?_eq_some_iff.1 hh).1, hc⟩
theorem Shelf.cell {g : Nat} (h : Shelf w B (some ⟨g, 0, none⟩) cv A C n L O) {i : Nat} (hi : i < n) : w.cell? ⟨g, i, none⟩ = some (.slice (A i) L (C i)) := by
  rw [h.own.cellAt i (by omega), shd_get hi]
theorem Shelf.mat (h : Shelf w B Av cv A C n L O) (hn : n ≤ 9223372036854775807) (hl : ∀ i, i < n → (O i).length = L) : Mat w Av n (rowsTab n O) := by
  refine ⟨rowsTab_length _ _, hn, fun h0 => ?_⟩
  obtain ⟨g, rfl, _, hg, _⟩ := h.form h0
  refine ⟨g, 0, rfl, hg, fun i hi => ?_⟩
  rw [rAt_rowsTab, if_pos hi, Nat.zero_add, hl i hi]
  exact ⟨_, _, h.cell hi, h.rd i hi⟩
theorem Shelf.set {g : Nat} (h : Shelf w B (some ⟨g, 0, none⟩) cv A C n L O) {j : Nat} (hj : j < n) {a : Option Addr} {c : Nat} {r : List Int} (hr : Ints w a L r) :
    Shelf (w.setCell ⟨g, j, none⟩ (.slice a L c)) B (some ⟨g, 0, none⟩) cv (fun i => if i = j then a else A i) (fun i => if i = j then c else C i) n L (fun i => if i = j then r else O i) := by
  have hc := h.cell hj
  refine ⟨?_, fun i hi => ?_⟩
  · have := (h.own.stored j (.slice a L c)).1
    rwa [shd_set] at this
  · by_cases e : i = j
    · simp only [if_pos e]; exact hr.far hc (fun _ _ => by simp)
    · simp only [if_neg e]; exact (h.rd i hi).far hc (fun _ _ => by simp)
theorem Shelf.drew (h : Shelf w B Av cv A C n L O) : Shelf w.drew B Av cv A C n L O := ⟨own_drew h.own, fun i hi => (h.rd i hi).drew⟩
theorem Shelf.congr {O' : Nat → List Int} (h : Shelf w B Av cv A C n L O) (ho : ∀ i, i < n → O i = O' i) : Shelf w B Av cv A C n L O' := ⟨h.own, fun i hi => ho i hi ▸ h.rd i hi⟩
end

end Go.Proofs.YtpikakapflebkaaGreat

namespace Go.Proofs.YtpikakapflebkaaGreat
open Go.RowKit Cl
attribute [local go_sem ↓] Go.wp_at_zero Go.wp_at_succ

end Go.Proofs.YtpikakapflebkaaGreat

namespace Go.Proofs.YtpikakapflebkaaGreat
open Go.RowKit Cl

/-- The plain rows of a matrix. -/
def IsEch (rows : List (List Int)) (p : Int) (out : List (List Int)) : Prop :=
  ∃ O n, RrefOf (rAt rows 0).length p rows.length (fun i => redRow (rAt rows i) p) n O ∧ out = rowsTab n O
theorem IsEch.unique {rows : List (List Int)} {p : Int} (hp : Pr p) {a b : List (List Int)} (ha : IsEch rows p a) (hb : IsEch rows p b) : a = b := by
  obtain ⟨O, n, h, rfl⟩ := ha
  obtain ⟨O', n', h', rfl⟩ := hb
  obtain ⟨rfl, e⟩ := h.unique hp h'
  exact rowsTab_congr e
theorem IsEch.empty (p : Int) : IsEch [] p [] := by
  refine ⟨fun _ => [], 0, ⟨⟨?_, ?_, ?_, ?_, ?_, ?_⟩, ?_, ?_⟩, rfl⟩ <;> intro a b
  all_goals first | exact absurd b (by simp) | omega
theorem Mat.empty (w : World) (A : Option Addr) : Mat w A 0 [] := ⟨rfl, by omega, fun h => absurd h (by omega)⟩

theorem ech_yes (A : Option Addr) (m c : Nat) (rows : List (List Int)) (p : Int) (w : World) (hx : Mat w A m rows) (hok : matOk rows p = true) :
    Calls Tryz.prog 93 #[.slice A m c, .int .i64 p] w (GivesRows w 0 (IsEch rows p)) := by
  obtain ⟨hp, h64, hrow⟩ := matOk_iff.1 hok
  have hpr := (isPrime_iff p).1 hp
  have hlen := hx.len
  rcases Nat.eq_zero_or_pos m with h0 | hpos
  · obtain rfl : rows = [] := List.length_eq_zero_iff.1 (by omega)
    subst h0
    have hb2 := hpr.two
    have hb3 := hpr.max
    have c1 := right_any A 0 c [] p w hx (by omega) (by omega)
    rw [matE_yes hok] at c1
    have C1 := Lib.hid c1
    clear c1 hlen
    go_enter Tryz.func93, Tryz.ntmps93
    go_wp2_with (go_at_call 92; refine C1.out.mono ?_; rintro e w' ⟨rfl, rfl⟩)
    go_loop [7, 25] (fun u i => u = .slice none 0 0 ∧ i = .int .i64 0) (fun _ _ => 0)
    case atStart => exact ⟨rfl, rfl⟩
    case round =>
      obtain ⟨rfl, rfl⟩ := hrel
      go_wp2
      go_loopw [10, 11] (fun cn cc wr => cn = .int .i64 0 ∧ cc = .pointer (some ⟨w.heap.size, 0, none⟩) ∧ Below w.heap.size w wr) (fun _ _ _ => 0)
      case atStart => exact ⟨rfl, rfl, (Below.refl _ _).alloc (Nat.le_refl _) _⟩
      case round =>
        obtain ⟨rfl, rfl, hbel⟩ := hrel
        go_wp2
        go_quiet (fail)
        go_wp2
        go_ret2
        exact ⟨_, _, _, _, rfl, Mat.empty _ _, IsEch.empty p, below_drewN hbel _⟩
  · have hr0 := hrow 0 (by omega)
    refine (grid_build A m c (rAt rows 0).length rows p w hx (fun i hi => (hrow i (by omega)).2) (by omega) hr0.1 hpr.two hpr.max hp hok hpos).mono ?_
    rintro e w' ⟨A', n, c', rows', he, hmat, ⟨R, k, hE, hR⟩, hb⟩
    refine ⟨A', n, c', rows', he, hmat, ?_, hb⟩
    have hinv := EInv.of hpr (fun i hi => by rw [redRow_length]; exact (hrow i (by omega)).2) (fun i _ => redRow_pl _ (by have := hpr.two; omega)) hE (Nat.le_refl _)
    exact ⟨R, k, by rw [hlen]; exact hinv.done, hR⟩

theorem ech_no (A : Option Addr) (m c : Nat) (rows : List (List Int)) (p : Int) (w : World) (hx : Mat w A m rows) (h3 : -9223372036854775808 ≤ p) (h4 : p ≤ 9223372036854775807) (hok : matOk rows p = false) :
    Calls Tryz.prog 93 #[.slice A m c, .int .i64 p] w fun e w' => e = .returned (.tuple #[.slice none 0 0, .int .i64 1]) ∧ w = w' := by
  have c1 := right_any A m c rows p w hx h3 h4
  rw [matE_no hok] at c1
  have C1 := Lib.hid c1
  clear c1
  go_enter Tryz.func93, Tryz.ntmps93
  go_wp2_with (go_at_call 92; refine C1.out.mono ?_; rintro e w' ⟨rfl, rfl⟩)
  go_ret2
  exact ⟨rfl, rfl⟩
end Go.Proofs.YtpikakapflebkaaGreat

namespace Go.Proofs.YtpikakapflebkaaGreat
open Go.RowKit Cl

theorem rAt_of_eq {a b : List (List Int)} {i : Nat} (h : rAt a i ≠ rAt b i) : a ≠ b := fun e => h (by rw [e])

end Go.Proofs.YtpikakapflebkaaGreat
