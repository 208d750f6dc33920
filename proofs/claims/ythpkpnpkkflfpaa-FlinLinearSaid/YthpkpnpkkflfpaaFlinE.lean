/- Contracts: what a matrix makes of residues: the program's. -/
import Derived.Test.YthpkpnpkkflfpaaFlinD
namespace Go.Proofs.Ythpkpnpkkflfpaa
open Go.RowKit Cl
attribute [local go_sem ↓] Go.wp_at_zero Go.wp_at_succ

theorem apply_yes (A B : Option Addr) (n m c d : Nat) (rows : List (List Int)) (v : List Int) (p : Int) (w : World) (hx : Mat w A n rows) (hv : Ints w B m v) (hm : m * 8 ≤ 140737488351232)
    (h3 : -9223372036854775808 ≤ p) (h4 : p ≤ 9223372036854775807) (hok : appOk rows v p = true) :
    Calls Try.prog 37 #[.slice A n c, .slice B m d, .int .i64 p] w (GivesIntsE 3 w n (applyM rows v p) 0) := by
  obtain ⟨i0, hi, hz0, hz1, hz2⟩ := info_parts int_info
  obtain rfl := hx.len
  obtain rfl := hv.len
  obtain ⟨hmat, hcol⟩ := appOk_iff.1 hok
  obtain ⟨hp, hn64, hrow⟩ := matOk_iff.1 hmat
  have Hp := Lib.hid ((isPrime_iff p).1 hp)
  have hp1 : 2 ≤ p := Hp.out.two
  have hp2 : p ≤ 65521 := Hp.out.max
  have hrow' : ∀ i, i < rows.length → (rAt rows i).length = v.length := fun i hi => by
    rcases hcol with h | h
    · omega
    · rw [(hrow i hi).2, h]
  have Hrow := Lib.hid hrow'
  have c1 := right_any A _ c rows p w hx h3 h4
  rw [matE_yes hmat] at c1
  have C1 := Lib.hid c1; clear c1
  have C2 := Lib.hid (plain_any B _ d v p w hv hm h3 h4)
  clear hok hmat hcol hrow hrow'
  rcases Nat.eq_zero_or_pos rows.length with h0 | hpos
  · obtain rfl : rows = [] := List.length_eq_zero_iff.1 h0
    have Hz : Hid (applyM [] v p = []) := rfl
    clear h0
    go_enter Try.func37, Try.ntmps37
    go_wp2_with (first
      | (go_at_call 42; refine C1.out.mono ?_; rintro e w' ⟨rfl, rfl⟩)
      | (go_at_call 43; refine C2.out.mono ?_; rintro e w1 ⟨A1, c1, rfl, hv1⟩))
    go_loop [8, 37] (fun u i => u = .slice none 0 0 ∧ i = .int .i64 0) (fun _ _ => 0)
    case atStart => exact ⟨rfl, rfl⟩
    case round =>
      obtain ⟨rfl, rfl⟩ := hrel
      go_wp2
      go_ret2
      rw [Hz.out]
      exact GivesIntsE.nil _ _ hv1.bel
  · have hd0 : decide ((0 : Int) < (rows.length : Int)) = true := decide_eq_true (by omega)
    obtain ⟨b, o, rfl, hb, hc⟩ := hx.at_ hpos
    obtain ⟨A0, c0, hc0, hi0⟩ := hc 0 hpos
    rw [Nat.add_zero] at hc0
    have hd1 : (((rAt rows 0).length : Int) != (v.length : Int)) = false := by rw [Hrow.out 0 hpos]; simp
    go_enter Try.func37, Try.ntmps37
    go_wp2_with (first
      | (go_at_call 42; refine C1.out.mono ?_; rintro e w' ⟨rfl, rfl⟩)
      | (go_at_call 43; refine C2.out.mono ?_; rintro e w1 ⟨A1, c1, rfl, hv1⟩))
    clear hc0 hd1 hi0
    have hb1 := hv1.bel
    have hs1 := hb1.size
    go_loopw [8, 37] (fun u i wr => ∃ k : Nat, k ≤ rows.length ∧ i = .int .i64 k ∧ wr.ownsRow w1.heap.size 3 1 u k (ints (tab k (fun i => dotTo (rAt rows i) v p v.length))) ∧ Below w1.heap.size w1 wr) (fun _ i _ => rows.length - (intOf i).toNat)
    case atStart => exact ⟨0, by omega, rfl, World.ownsRow_nil _ _ _ _, Below.refl _ _⟩
    case round =>
      obtain ⟨k, hk, rfl, hown, hbel⟩ := hrel
      have hs2 := hbel.size
      by_cases hlt : k < rows.length
      · obtain ⟨Ak, ck, hck, hik⟩ := hc k hlt
        have hck' : wr.cell? ⟨b, o + k, none⟩ = some (.slice Ak (rAt rows k).length ck) := (hbel.cell (p := ⟨b, o + k, none⟩) (by simp; omega)).trans ((hb1.cell (p := ⟨b, o + k, none⟩) hb).trans hck)
        have hik' : Ints wr Ak (rAt rows k).length (rAt rows k) := (hik.bel hb1).bel hbel
        have hvr : Ints wr A1 v.length (redRow v p) := hv1.rd.bel hbel
        have hkl := Hrow.out k hlt
        rw [hkl] at hck' hik'
        clear hck hik hkl hc
        have C3 := Lib.hid (plain_any Ak _ ck (rAt rows k) p wr hik' (by omega) h3 h4)
        go_wp2_with (go_at_call 43; refine C3.out.mono ?_; rintro e w2 ⟨A2, c2, rfl, hn2⟩)
        have hb2 := hn2.bel
        have hrd2 := hn2.rd
        have hvr2 := hvr.bel hb2
        have hown2 := own_bel hown hb2
        have hbel2 := hbel.trans (hb2.mono hs2)
        go_loop [11, 45] (fun s i => ∃ j : Nat, j ≤ v.length ∧ i = .int .i64 j ∧ s = .int .i64 (dotTo (rAt rows k) v p j)) (fun _ i => v.length - (intOf i).toNat)
        case atStart => exact ⟨0, by omega, rfl, rfl⟩
        case round =>
          obtain ⟨j, hj, rfl, rfl⟩ := hrel
          by_cases hjl : j < v.length
          · obtain ⟨b2, o2, rfl, hb2', hc2⟩ := hrd2.at_ (by omega)
            obtain ⟨b1, o1, rfl, hb1', hc1⟩ := hvr2.at_ (by omega)
            have hx2 := hc2 j hjl
            have hx1 := hc1 j hjl
            rw [nth_redRow] at hx2 hx1
            obtain ⟨l1, l2⟩ := red_bd (nth (rAt rows k) j) (p := p) (by omega)
            obtain ⟨l3, l4⟩ := red_bd (nth v j) (p := p) (by omega)
            obtain ⟨l5, l6⟩ := dotTo_bd (rAt rows k) v (p := p) (by omega) j
            have hm1 : 0 ≤ red (nth (rAt rows k) j) p * red (nth v j) p := Int.mul_nonneg l1 l3
            have hm2 : red (nth (rAt rows k) j) p * red (nth v j) p ≤ 65521 * 65521 := Int.mul_le_mul (by omega) (by omega) l3 (by omega)
            clear hc1 hc2
            go_wp2
            go_round
            case rel => exact ⟨j + 1, by omega, by go_num, rfl⟩
            case measure => simp [intOf]; omega
          · obtain rfl : j = v.length := by omega
            have hsz := hbel2.size
            go_wp2_with (at_builtin; refine wpList_append_lies _ (by rfl) _ _ _ (by rfl) w1.heap.size 3 i0 _ 1 8 Try.underlying39 hi hz0 hz1 hz2 rfl (by omega) u8 k (ints (tab k (fun i => dotTo (rAt rows i) v p v.length))) (by rfl) (hown2.alloc _) ⟨w2.heap.size, 0, none⟩ 1 1 [.int .i64 (dotTo (rAt rows k) v p v.length)] (by rfl) (by rfl) (World.news_of_block (cs := #[.int .i64 (dotTo (rAt rows k) v p v.length)]) (t := 3) (fr := (0, 0)) (heap_alloc_new w2 _)) (by simp [Value.oneCell']) (by omega) (by unfold maxLen; omega) (by omega) (by simp; omega) (w2.heap.size + 1) (by simp) ?_; intro gg cap w3 hown3 hgrow hat hlt3)
            have hb3 := below_app' hbel2 hown2 hgrow hsz
            rw [ints_tab_succ k (fun i => dotTo (rAt rows i) v p v.length)] at hown3
            clear hgrow hat hown hown2
            go_wp2
            go_roundw
            case rel => exact ⟨k + 1, by omega, by go_num, hown3, hb3⟩
            case measure => simp [intOf]; omega
      · obtain rfl : k = rows.length := by omega
        have hbd : ∀ i, I64 (dotTo (rAt rows i) v p v.length) := fun i => by have := dotTo_bd (rAt rows i) v (p := p) (by omega) v.length; exact I64.small this.1 (by omega)
        have Hbd := Lib.hid hbd; clear hbd
        go_wp2
        go_ret2
        exact GivesIntsE.of_own (own_mono hown hs1) (tab_length _ _) (tab_i64 Hbd.out) (hb1.trans (hbel.mono hs1))

theorem rapply_yes (A B : Option Addr) (n m c d : Nat) (rows : List (List Int)) (v : List Int) (p : Int) (w : World) (hx : Mat w A n rows) (hv : Ints w B m v) (hm : m * 8 ≤ 140737488351232)
    (h3 : -9223372036854775808 ≤ p) (h4 : p ≤ 9223372036854775807) (hok : appOk rows v p = true) :
    Calls Try.prog 38 #[.slice A n c, .slice B m d, .int .i64 p] w (GivesIntsE 3 w n (applyM rows v p) 0) := by
  obtain ⟨i0, hi, hz0, hz1, hz2⟩ := info_parts int_info
  obtain rfl := hx.len
  obtain rfl := hv.len
  obtain ⟨hmat, hcol⟩ := appOk_iff.1 hok
  obtain ⟨hp, hn64, hrow⟩ := matOk_iff.1 hmat
  have Hp := Lib.hid ((isPrime_iff p).1 hp)
  have hp1 : 2 ≤ p := Hp.out.two
  have hp2 : p ≤ 65521 := Hp.out.max
  have hrow' : ∀ i, i < rows.length → (rAt rows i).length = v.length := fun i hi => by
    rcases hcol with h | h
    · omega
    · rw [(hrow i hi).2, h]
  have Hrow := Lib.hid hrow'
  have c1 := rright_any A _ c rows p w hx h3 h4
  rw [hmat] at c1
  have C1 := Lib.hid c1; clear c1
  clear hok hmat hcol hrow hrow'
  rcases Nat.eq_zero_or_pos rows.length with h0 | hpos
  · obtain rfl : rows = [] := List.length_eq_zero_iff.1 h0
    have Hz : Hid (applyM [] v p = []) := rfl
    clear h0
    go_enter Try.func38, Try.ntmps38
    go_wp2_with (go_at_call 47; refine C1.out.mono ?_; rintro e w' ⟨rfl, kr, rfl⟩)
    go_loop [8, 9] (fun u i => u = .slice none 0 0 ∧ i = .int .i64 0) (fun _ _ => 0)
    case atStart => exact ⟨rfl, rfl⟩
    case round =>
      obtain ⟨rfl, rfl⟩ := hrel
      go_wp2
      go_ret2
      rw [Hz.out]
      exact GivesIntsE.nil _ _ (below_drewN (Below.refl _ _) _)
  · have hd0 : decide ((0 : Int) < (rows.length : Int)) = true := decide_eq_true (by omega)
    obtain ⟨b, o, rfl, hb, hc⟩ := hx.at_ hpos
    obtain ⟨A0, c0, hc0, hi0⟩ := hc 0 hpos
    rw [Nat.add_zero] at hc0
    have hd1 : (((rAt rows 0).length : Int) != (v.length : Int)) = false := by rw [Hrow.out 0 hpos]; simp
    go_enter Try.func38, Try.ntmps38
    go_wp2_with (go_at_call 47; refine C1.out.mono ?_; rintro e w' ⟨rfl, kr, rfl⟩)
    clear hc0 hd1 hi0
    go_loopw [8, 9] (fun u i wr => ∃ k : Nat, k ≤ rows.length ∧ i = .int .i64 k ∧ wr.ownsRow w.heap.size 3 1 u k (ints (tab k (fun i => dotTo (rAt rows i) v p v.length))) ∧ Below w.heap.size w wr) (fun _ i _ => rows.length - (intOf i).toNat)
    case atStart => exact ⟨0, by omega, rfl, World.ownsRow_nil _ _ _ _, below_drewN (Below.refl _ _) _⟩
    case round =>
      obtain ⟨k, hk, rfl, hown, hbel⟩ := hrel
      have hs2 := hbel.size
      by_cases hlt : k < rows.length
      · obtain ⟨Ak, ck, hck, hik⟩ := hc k hlt
        have hck' : wr.cell? ⟨b, o + k, none⟩ = some (.slice Ak (rAt rows k).length ck) := (hbel.cell (p := ⟨b, o + k, none⟩) hb).trans hck
        have hik' : Ints wr Ak (rAt rows k).length (rAt rows k) := hik.bel hbel
        have hvr : Ints wr B v.length v := hv.bel hbel
        have hkl := Hrow.out k hlt
        have hkb : (k : Int) < (rows.length : Int) := by omega
        rw [hkl] at hck' hik'
        clear hck hik hkl hc
        go_wp2
        go_loopw [10, 11] (fun s i wx => ∃ j q : Nat, j ≤ v.length ∧ i = .int .i64 j ∧ s = .int .i64 (dotTo (rAt rows k) v p j) ∧ wx = wr.drewN q) (fun _ i _ => v.length - (intOf i).toNat)
        case atStart => exact ⟨0, 0, by omega, rfl, rfl, rfl⟩
        case round =>
          obtain ⟨j, q, hj, rfl, rfl, rfl⟩ := hrel
          by_cases hjl : j < v.length
          · obtain ⟨b2, o2, rfl, hb2', hc2⟩ := hik'.at_ (by omega)
            obtain ⟨b1, o1, rfl, hb1', hc1⟩ := hvr.at_ (by omega)
            have hx2 := hc2 j hjl
            have hx1 := hc1 j hjl
            obtain ⟨i1, i2⟩ := hik'.ok j
            obtain ⟨i3, i4⟩ := hvr.ok j
            have hjb : (j : Int) < (v.length : Int) := by omega
            obtain ⟨l1, l2⟩ := red_bd (nth (rAt rows k) j) (p := p) (by omega)
            obtain ⟨l3, l4⟩ := red_bd (nth v j) (p := p) (by omega)
            obtain ⟨l5, l6⟩ := dotTo_bd (rAt rows k) v (p := p) (by omega) j
            have hm1 : 0 ≤ red (nth (rAt rows k) j) p * red (nth v j) p := Int.mul_nonneg l1 l3
            have hm2 : red (nth (rAt rows k) j) p * red (nth v j) p ≤ 65521 * 65521 := Int.mul_le_mul (by omega) (by omega) l3 (by omega)
            have e1 : IntKind.i64.wrap (red (nth (rAt rows k) j) p * red (nth v j) p) = red (nth (rAt rows k) j) p * red (nth v j) p := IntWalk.i64_in _ (by omega)
            have e2 : IntKind.i64.wrap (dotTo (rAt rows k) v p j + red (nth (rAt rows k) j) p * red (nth v j) p) = dotTo (rAt rows k) v p j + red (nth (rAt rows k) j) p * red (nth v j) p := IntWalk.i64_in _ (by omega)
            have e3 : (dotTo (rAt rows k) v p j + red (nth (rAt rows k) j) p * red (nth v j) p).tmod p = dotTo (rAt rows k) v p (j + 1) := by rw [dotTo_succ, Int.tmod_eq_emod_of_nonneg (by omega)]
            clear hc1 hc2
            go_wp2
            go_quiet ((go_at_call 29; first | exact quiet_add_left (rred_any _ _ _ (by omega) (by omega) (by omega) (by omega)) | exact quiet_left (rred_any _ _ _ (by omega) (by omega) (by omega) (by omega))))
            go_wp2
            go_roundw
            case rel => exact ⟨j + 1, _, by omega, by go_num, rfl, rfl⟩
            case measure => simp [intOf]; omega
          · obtain rfl : j = v.length := by omega
            have hbel2 := below_drewN hbel q
            go_wp2_with (at_builtin; refine wpList_append_lies _ (by rfl) _ _ _ (by rfl) w.heap.size 3 i0 _ 1 8 Try.underlying39 hi hz0 hz1 hz2 rfl (by omega) u8 k (ints (tab k (fun i => dotTo (rAt rows i) v p v.length))) (by rfl) (own_drewN (hown.alloc _) q) ⟨wr.heap.size, 0, none⟩ 1 1 [.int .i64 (dotTo (rAt rows k) v p v.length)] (by rfl) (by rfl) (World.news_of_block (cs := #[.int .i64 (dotTo (rAt rows k) v p v.length)]) (t := 3) (fr := (0, 0)) (heap_alloc_new wr _)) (by simp [Value.oneCell']) (by omega) (by unfold maxLen; omega) (by omega) (by simp; omega) (wr.heap.size + 1) (by simp) ?_; intro gg cap w3 hown3 hgrow hat hlt3)
            have hb3 := (below_drewN (hbel.alloc hs2 _) q).grown hgrow (by simp; omega) (fun k hk => (hown.lt k hk).1)
            rw [ints_tab_succ k (fun i => dotTo (rAt rows i) v p v.length)] at hown3
            clear hgrow hat hown
            go_wp2
            go_roundw
            case rel => exact ⟨k + 1, by omega, by go_num, hown3, hb3⟩
            case measure => simp [intOf]; omega
      · obtain rfl : k = rows.length := by omega
        have hbd : ∀ i, I64 (dotTo (rAt rows i) v p v.length) := fun i => by have := dotTo_bd (rAt rows i) v (p := p) (by omega) v.length; exact I64.small this.1 (by omega)
        have Hbd := Lib.hid hbd; clear hbd
        go_wp2
        go_ret2
        exact GivesIntsE.of_own hown (tab_length _ _) (tab_i64 Hbd.out) hbel

end Go.Proofs.Ythpkpnpkkflfpaa
