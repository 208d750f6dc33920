/- Law: FfacField. -/
import Derived.Test.YtbcapmnklgdeoaaGreatLaw9Base
import Derived.Test.YtbcapmnklgdeoaaGreatFieldA
namespace Go.Proofs.YtbcapmnklgdeoaaGreat
open Go.RowKit Cl
attribute [local go_sem ↓] Go.wp_at_zero Go.wp_at_succ

theorem and_7f (n : Int) : bits .and .i64 n 7 = n % 8 := i64_and_mask n 3 (by omega)
set_option maxRecDepth 100000 in
set_option maxHeartbeats 16000000 in
theorem law_FfacField (n : Int) (D : Option Addr) (nd cD : Nat) (ds : List Int) (w : World) (_ln : -9223372036854775808 ≤ n) (_un : n ≤ 9223372036854775807)
    (hd : Ints w D nd ds) (hd8 : nd * 8 ≤ 140737488351232) (hdn : D = none → cD = 0) (hdc : nd ≤ cD) (hdm : cD ≤ 9223372036854775807) :
    Calls Tryz.prog 5 #[.int .i64 n, .slice D nd cD] w fun e w' => e = .returned (.bool true) ∧ Below w.heap.size w w' := by
  have Hd := Lib.hid hd
  have Hdn := Lib.hid hdn
  have Hdc := Lib.hid hdc
  have Hdm := Lib.hid hdm
  clear hd hdn hdc hdm
  obtain ⟨t, ht⟩ : ∃ t : Nat, n % 8 = (t : Int) := ⟨(n % 8).toNat, by omega⟩
  have ht8 : t = 0 ∨ t = 1 ∨ t = 2 ∨ t = 3 ∨ t = 4 ∨ t = 5 ∨ t = 6 ∨ t = 7 := by omega
  have h7 : bits .and .i64 n 7 = (t : Int) := (and_7f n).trans ht
  clear ht _ln _un
  have hdd : (decide ((1000 : Int) < (nd : Int)) = false ∧ ¬ (1000 : Int) < (nd : Int)) ∨ (decide ((1000 : Int) < (nd : Int)) = true ∧ (1000 : Int) < (nd : Int)) := by
    by_cases h : (1000 : Int) < (nd : Int)
    · exact .inr ⟨decide_eq_true h, h⟩
    · exact .inl ⟨decide_eq_false h, h⟩
  go_enter Tryz.func5, Tryz.ntmps5
  go_wp2_with fail
  refine (awake09 _).mono ?_
  rintro e w1 ⟨rfl, hb1⟩
  have Hd1 := Lib.hid (Hd.out.bel hb1)
  clear Hd
  obtain ⟨R0, hR0⟩ : ∃ R0 : Nat → List Int, R0 = fun k => List.replicate k (0 : Int) := ⟨_, rfl⟩
  have HR0 := Lib.hid hR0
  have HRl : Hid (∀ k, (R0 k).length = k) := fun k => by rw [hR0]; exact List.length_replicate
  have Hmk : Hid (∀ k : Nat, k * 8 ≤ 281474976710656 → (Instr.makeSlice 22 (.int .i64 (k : Int)) (.int .i64 (k : Int))).run Tryz.prog w1 = .ok (.slice (some ⟨w1.heap.size, 0, none⟩) k k) (w1.alloc (.cells (ints (R0 k)).toArray 3))) := fun k hk => by rw [hR0]; exact make_ints k hk w1
  have HW : Hid (∀ k : Nat, 2 ≤ k → Row (w1.alloc (.cells (ints (R0 (k + 1))).toArray 3)) w1.heap.size 3 (R0 (k + 1)) ∧ Row (w1.alloc (.cells ((ints (R0 (k + 1))).set 1 (.int .i64 (-1))).toArray 3)) w1.heap.size 3 ((R0 (k + 1)).set 1 (-1)) ∧ Row (w1.alloc (.cells (((ints (R0 (k + 1))).set 1 (.int .i64 (-1))).set k (.int .i64 1)).toArray 3)) w1.heap.size 3 (Poly.fieldRow k)) := fun k hk => by
    refine ⟨Row.new w1 _ _, ?_, ?_⟩
    · have := Row.new w1 3 ((R0 (k + 1)).set 1 (-1))
      rw [← ints_set] at this
      exact this
    · have := Row.new w1 3 (((R0 (k + 1)).set 1 (-1)).set k 1)
      rw [← ints_set, ← ints_set] at this
      rw [hR0] at this ⊢
      exact this
  have HI : Hid (∀ (k : Nat) (W : World), Row W w1.heap.size 3 (Poly.fieldRow k) → Ints W (some ⟨w1.heap.size, 0, none⟩) (k + 1) (Poly.fieldRow k)) := fun k W h => by
    have := h.ints (Poly.fieldRow_i64 k)
    rw [Poly.fieldRow_length] at this
    exact this
  clear hR0 HR0
  rcases ht8 with rfl | rfl | rfl | rfl | rfl | rfl | rfl | rfl
  · have h7' : bits .and .i64 n 7 = 0 := h7
    have hpr : Pr 2 := (isPrime_iff _).1 (by decide +kernel)
    have hmk := Hmk.out 3 (by omega)
    rw [show ((3 : Nat) : Int) = 3 from rfl] at hmk
    obtain ⟨hr0, hr1, hr2⟩ := HW.out 2 (by omega)
    have hl0 := HRl.out 3
    have hc0 := hr0.cell (i := 1) (by rw [hl0]; omega)
    have hf0 := hr0.frozen 1
    have hc1 := hr1.cell (i := 2) (by rw [List.length_set, hl0]; omega)
    have hf1 := hr1.frozen 2
    have Hi2 := Lib.hid (HI.out 2 _ hr2)
    have hbW : Hid (Below w1.heap.size w1 (w1.alloc (.cells (((ints (R0 3)).set 1 (.int .i64 (-1))).set 2 (.int .i64 1)).toArray 3))) := (Below.refl _ _).alloc (Nat.le_refl _) _
    have Hrd : Hid (Rd (w1.alloc (.cells (((ints (R0 3)).set 1 (.int .i64 (-1))).set 2 (.int .i64 1)).toArray 3)) (some ⟨w1.heap.size, 0, none⟩) 3 (Poly.allLin ⟨2, hpr⟩ 2)) := by
      have := Rd.of_list (q := ⟨2, hpr⟩) Hi2.out
      rw [Poly.toP_fieldRow (q := ⟨2, hpr⟩) rfl] at this
      exact this
    have Hd2 := Lib.hid (Hd1.out.bel hbW.out)
    clear hr0 hr1 hr2 h7 hl0 Hmk HW HI HRl Hi2 Hd1
    go_wp2_with fail
    refine (ffactorsR (hp := hpr) Hrd.out (by omega) (Poly.allLin_mon _).ne (by rw [Poly.allLin_len]; omega) Hd2.out Hdn.out Hdc.out Hdm.out).mono ?_
    rintro e w3 ⟨A3, n3, c3, L3, rfl, hp3, hf3, hb3⟩
    have hL : L3 = (List.range 2).map (fun j => (Poly.linP ⟨2, hpr⟩ j, 1)) := hf3.unique (Poly.isFac_allLin (q := ⟨2, hpr⟩))
    have hlen := hp3.len
    rw [hL, List.length_map, List.length_range] at hlen
    subst hlen
    have Hp3 := Lib.hid hp3
    have HL := Lib.hid hL
    have hbel3 := below_tr hb1 (below_tr hbW.out hb3)
    clear hp3 hf3 hb3 hL Hrd Hd2 hc0 hc1 hf0 hf1 hmk hbW hb1 h7'
    rcases hdd with ⟨hd1, hd2⟩ | ⟨hd1, hd2⟩
    · go_wp2_with fail
      go_loopw [10] (fun i wr => ∃ k : Nat, k ≤ 2 ∧ i = .int .i64 (k : Int) ∧ Below w3.heap.size w3 wr) (fun i _ => 2 - (intOf i).toNat)
      case atStart => exact ⟨0, by omega, rfl, Below.refl _ _⟩
      case round =>
        obtain ⟨k, hk, rfl, hbel⟩ := hrel
        by_cases hlt : k < 2
        · have hlt' : (k : Int) < 2 := by omega
          obtain ⟨b, o, rfl, hb, hc⟩ := Hp3.out.at_ (by omega)
          have hkl : k < L3.length := by rw [Hp3.out.len]; exact hlt
          obtain ⟨Ai, ci, e1, e2, e3⟩ := hc k hkl
          have hg : L3[k] = (Poly.linP ⟨2, hpr⟩ k, 1) := by
            have h1 := HL.out
            simp only [h1, List.getElem_map, List.getElem_range]
          rw [hg] at e1 e2 e3
          have e4 : (Poly.linP ⟨2, hpr⟩ k).len = 2 := Poly.linP_len (q := ⟨2, hpr⟩) (by show (k : Int) < 2; omega)
          have e5 : fromP (Poly.linP ⟨2, hpr⟩ k) = [(k : Int), 1] := Poly.linP_from (q := ⟨2, hpr⟩) (by show (k : Int) < 2; omega)
          rw [e4] at e1 e3
          rw [e5] at e3
          have e6 : ((1 : Nat) : Int) = 1 := rfl
          rw [e6] at e2
          rw [Nat.mul_comm 2 k] at e1 e2
          rw [← Nat.add_assoc] at e2
          have c1' := (hbel.cell (p := ⟨b, o + k * 2, none⟩) hb).trans e1
          have c2' := (hbel.cell (p := ⟨b, o + k * 2 + 1, none⟩) hb).trans e2
          have hal : Below wr.heap.size wr (wr.alloc (.cells #[.int .i64 (k : Int), .int .i64 1] 3)) := (Below.refl _ _).alloc (Nat.le_refl _) _
          have E3 := Lib.hid ((e3.bel hbel).bel hal)
          have hnew : Hid (Ints (wr.alloc (.cells #[.int .i64 (k : Int), .int .i64 1] 3)) (some ⟨wr.heap.size, 0, none⟩) 2 [(k : Int), 1]) := (Row.new wr 3 [(k : Int), 1]).ints (fun i => by
            match i with
            | 0 => exact I64.small (by show 0 ≤ (k : Int); omega) (by show (k : Int) ≤ _; omega)
            | 1 => exact I64.small (by show 0 ≤ (1 : Int); omega) (by show (1 : Int) ≤ _; omega)
            | i + 2 => rw [nth_ge (by simp)]; exact I64.zero)
          have hbelA := below_tr hbel hal
          clear hc e1 e2 e3 e4 e5 e6 hg HL
          go_wp2_with fail
          refine (same06_true _ _ 2 _ _ _ _ E3.out hnew.out (by omega)).mono ?_
          rintro e w' ⟨rfl, m, rfl⟩
          go_wp2_with fail
          go_roundw
          case rel => exact ⟨k + 1, by omega, by go_num, below_drewN hbelA _⟩
          case measure => simp [intOf]; omega
        · obtain rfl : k = 2 := by omega
          go_wp2_with fail
          go_ret
          exact ⟨rfl, below_tr hbel3 hbel⟩
    · go_wp2_with fail
      go_ret
      exact ⟨rfl, hbel3⟩
  · have h7' : bits .and .i64 n 7 = 1 := h7
    have hpr : Pr 3 := (isPrime_iff _).1 (by decide +kernel)
    have hmk := Hmk.out 4 (by omega)
    rw [show ((4 : Nat) : Int) = 4 from rfl] at hmk
    obtain ⟨hr0, hr1, hr2⟩ := HW.out 3 (by omega)
    have hl0 := HRl.out 4
    have hc0 := hr0.cell (i := 1) (by rw [hl0]; omega)
    have hf0 := hr0.frozen 1
    have hc1 := hr1.cell (i := 3) (by rw [List.length_set, hl0]; omega)
    have hf1 := hr1.frozen 3
    have Hi2 := Lib.hid (HI.out 3 _ hr2)
    have hbW : Hid (Below w1.heap.size w1 (w1.alloc (.cells (((ints (R0 4)).set 1 (.int .i64 (-1))).set 3 (.int .i64 1)).toArray 3))) := (Below.refl _ _).alloc (Nat.le_refl _) _
    have Hrd : Hid (Rd (w1.alloc (.cells (((ints (R0 4)).set 1 (.int .i64 (-1))).set 3 (.int .i64 1)).toArray 3)) (some ⟨w1.heap.size, 0, none⟩) 4 (Poly.allLin ⟨3, hpr⟩ 3)) := by
      have := Rd.of_list (q := ⟨3, hpr⟩) Hi2.out
      rw [Poly.toP_fieldRow (q := ⟨3, hpr⟩) rfl] at this
      exact this
    have Hd2 := Lib.hid (Hd1.out.bel hbW.out)
    clear hr0 hr1 hr2 h7 hl0 Hmk HW HI HRl Hi2 Hd1
    go_wp2_with fail
    refine (ffactorsR (hp := hpr) Hrd.out (by omega) (Poly.allLin_mon _).ne (by rw [Poly.allLin_len]; omega) Hd2.out Hdn.out Hdc.out Hdm.out).mono ?_
    rintro e w3 ⟨A3, n3, c3, L3, rfl, hp3, hf3, hb3⟩
    have hL : L3 = (List.range 3).map (fun j => (Poly.linP ⟨3, hpr⟩ j, 1)) := hf3.unique (Poly.isFac_allLin (q := ⟨3, hpr⟩))
    have hlen := hp3.len
    rw [hL, List.length_map, List.length_range] at hlen
    subst hlen
    have Hp3 := Lib.hid hp3
    have HL := Lib.hid hL
    have hbel3 := below_tr hb1 (below_tr hbW.out hb3)
    clear hp3 hf3 hb3 hL Hrd Hd2 hc0 hc1 hf0 hf1 hmk hbW hb1 h7'
    rcases hdd with ⟨hd1, hd2⟩ | ⟨hd1, hd2⟩
    · go_wp2_with fail
      go_loopw [10] (fun i wr => ∃ k : Nat, k ≤ 3 ∧ i = .int .i64 (k : Int) ∧ Below w3.heap.size w3 wr) (fun i _ => 3 - (intOf i).toNat)
      case atStart => exact ⟨0, by omega, rfl, Below.refl _ _⟩
      case round =>
        obtain ⟨k, hk, rfl, hbel⟩ := hrel
        by_cases hlt : k < 3
        · have hlt' : (k : Int) < 3 := by omega
          obtain ⟨b, o, rfl, hb, hc⟩ := Hp3.out.at_ (by omega)
          have hkl : k < L3.length := by rw [Hp3.out.len]; exact hlt
          obtain ⟨Ai, ci, e1, e2, e3⟩ := hc k hkl
          have hg : L3[k] = (Poly.linP ⟨3, hpr⟩ k, 1) := by
            have h1 := HL.out
            simp only [h1, List.getElem_map, List.getElem_range]
          rw [hg] at e1 e2 e3
          have e4 : (Poly.linP ⟨3, hpr⟩ k).len = 2 := Poly.linP_len (q := ⟨3, hpr⟩) (by show (k : Int) < 3; omega)
          have e5 : fromP (Poly.linP ⟨3, hpr⟩ k) = [(k : Int), 1] := Poly.linP_from (q := ⟨3, hpr⟩) (by show (k : Int) < 3; omega)
          rw [e4] at e1 e3
          rw [e5] at e3
          have e6 : ((1 : Nat) : Int) = 1 := rfl
          rw [e6] at e2
          rw [Nat.mul_comm 2 k] at e1 e2
          rw [← Nat.add_assoc] at e2
          have c1' := (hbel.cell (p := ⟨b, o + k * 2, none⟩) hb).trans e1
          have c2' := (hbel.cell (p := ⟨b, o + k * 2 + 1, none⟩) hb).trans e2
          have hal : Below wr.heap.size wr (wr.alloc (.cells #[.int .i64 (k : Int), .int .i64 1] 3)) := (Below.refl _ _).alloc (Nat.le_refl _) _
          have E3 := Lib.hid ((e3.bel hbel).bel hal)
          have hnew : Hid (Ints (wr.alloc (.cells #[.int .i64 (k : Int), .int .i64 1] 3)) (some ⟨wr.heap.size, 0, none⟩) 2 [(k : Int), 1]) := (Row.new wr 3 [(k : Int), 1]).ints (fun i => by
            match i with
            | 0 => exact I64.small (by show 0 ≤ (k : Int); omega) (by show (k : Int) ≤ _; omega)
            | 1 => exact I64.small (by show 0 ≤ (1 : Int); omega) (by show (1 : Int) ≤ _; omega)
            | i + 2 => rw [nth_ge (by simp)]; exact I64.zero)
          have hbelA := below_tr hbel hal
          clear hc e1 e2 e3 e4 e5 e6 hg HL
          go_wp2_with fail
          refine (same06_true _ _ 2 _ _ _ _ E3.out hnew.out (by omega)).mono ?_
          rintro e w' ⟨rfl, m, rfl⟩
          go_wp2_with fail
          go_roundw
          case rel => exact ⟨k + 1, by omega, by go_num, below_drewN hbelA _⟩
          case measure => simp [intOf]; omega
        · obtain rfl : k = 3 := by omega
          go_wp2_with fail
          go_ret
          exact ⟨rfl, below_tr hbel3 hbel⟩
    · go_wp2_with fail
      go_ret
      exact ⟨rfl, hbel3⟩
  · have h7' : bits .and .i64 n 7 = 2 := h7
    have hpr : Pr 5 := (isPrime_iff _).1 (by decide +kernel)
    have hmk := Hmk.out 6 (by omega)
    rw [show ((6 : Nat) : Int) = 6 from rfl] at hmk
    obtain ⟨hr0, hr1, hr2⟩ := HW.out 5 (by omega)
    have hl0 := HRl.out 6
    have hc0 := hr0.cell (i := 1) (by rw [hl0]; omega)
    have hf0 := hr0.frozen 1
    have hc1 := hr1.cell (i := 5) (by rw [List.length_set, hl0]; omega)
    have hf1 := hr1.frozen 5
    have Hi2 := Lib.hid (HI.out 5 _ hr2)
    have hbW : Hid (Below w1.heap.size w1 (w1.alloc (.cells (((ints (R0 6)).set 1 (.int .i64 (-1))).set 5 (.int .i64 1)).toArray 3))) := (Below.refl _ _).alloc (Nat.le_refl _) _
    have Hrd : Hid (Rd (w1.alloc (.cells (((ints (R0 6)).set 1 (.int .i64 (-1))).set 5 (.int .i64 1)).toArray 3)) (some ⟨w1.heap.size, 0, none⟩) 6 (Poly.allLin ⟨5, hpr⟩ 5)) := by
      have := Rd.of_list (q := ⟨5, hpr⟩) Hi2.out
      rw [Poly.toP_fieldRow (q := ⟨5, hpr⟩) rfl] at this
      exact this
    have Hd2 := Lib.hid (Hd1.out.bel hbW.out)
    clear hr0 hr1 hr2 h7 hl0 Hmk HW HI HRl Hi2 Hd1
    go_wp2_with fail
    refine (ffactorsR (hp := hpr) Hrd.out (by omega) (Poly.allLin_mon _).ne (by rw [Poly.allLin_len]; omega) Hd2.out Hdn.out Hdc.out Hdm.out).mono ?_
    rintro e w3 ⟨A3, n3, c3, L3, rfl, hp3, hf3, hb3⟩
    have hL : L3 = (List.range 5).map (fun j => (Poly.linP ⟨5, hpr⟩ j, 1)) := hf3.unique (Poly.isFac_allLin (q := ⟨5, hpr⟩))
    have hlen := hp3.len
    rw [hL, List.length_map, List.length_range] at hlen
    subst hlen
    have Hp3 := Lib.hid hp3
    have HL := Lib.hid hL
    have hbel3 := below_tr hb1 (below_tr hbW.out hb3)
    clear hp3 hf3 hb3 hL Hrd Hd2 hc0 hc1 hf0 hf1 hmk hbW hb1 h7'
    rcases hdd with ⟨hd1, hd2⟩ | ⟨hd1, hd2⟩
    · go_wp2_with fail
      go_loopw [10] (fun i wr => ∃ k : Nat, k ≤ 5 ∧ i = .int .i64 (k : Int) ∧ Below w3.heap.size w3 wr) (fun i _ => 5 - (intOf i).toNat)
      case atStart => exact ⟨0, by omega, rfl, Below.refl _ _⟩
      case round =>
        obtain ⟨k, hk, rfl, hbel⟩ := hrel
        by_cases hlt : k < 5
        · have hlt' : (k : Int) < 5 := by omega
          obtain ⟨b, o, rfl, hb, hc⟩ := Hp3.out.at_ (by omega)
          have hkl : k < L3.length := by rw [Hp3.out.len]; exact hlt
          obtain ⟨Ai, ci, e1, e2, e3⟩ := hc k hkl
          have hg : L3[k] = (Poly.linP ⟨5, hpr⟩ k, 1) := by
            have h1 := HL.out
            simp only [h1, List.getElem_map, List.getElem_range]
          rw [hg] at e1 e2 e3
          have e4 : (Poly.linP ⟨5, hpr⟩ k).len = 2 := Poly.linP_len (q := ⟨5, hpr⟩) (by show (k : Int) < 5; omega)
          have e5 : fromP (Poly.linP ⟨5, hpr⟩ k) = [(k : Int), 1] := Poly.linP_from (q := ⟨5, hpr⟩) (by show (k : Int) < 5; omega)
          rw [e4] at e1 e3
          rw [e5] at e3
          have e6 : ((1 : Nat) : Int) = 1 := rfl
          rw [e6] at e2
          rw [Nat.mul_comm 2 k] at e1 e2
          rw [← Nat.add_assoc] at e2
          have c1' := (hbel.cell (p := ⟨b, o + k * 2, none⟩) hb).trans e1
          have c2' := (hbel.cell (p := ⟨b, o + k * 2 + 1, none⟩) hb).trans e2
          have hal : Below wr.heap.size wr (wr.alloc (.cells #[.int .i64 (k : Int), .int .i64 1] 3)) := (Below.refl _ _).alloc (Nat.le_refl _) _
          have E3 := Lib.hid ((e3.bel hbel).bel hal)
          have hnew : Hid (Ints (wr.alloc (.cells #[.int .i64 (k : Int), .int .i64 1] 3)) (some ⟨wr.heap.size, 0, none⟩) 2 [(k : Int), 1]) := (Row.new wr 3 [(k : Int), 1]).ints (fun i => by
            match i with
            | 0 => exact I64.small (by show 0 ≤ (k : Int); omega) (by show (k : Int) ≤ _; omega)
            | 1 => exact I64.small (by show 0 ≤ (1 : Int); omega) (by show (1 : Int) ≤ _; omega)
            | i + 2 => rw [nth_ge (by simp)]; exact I64.zero)
          have hbelA := below_tr hbel hal
          clear hc e1 e2 e3 e4 e5 e6 hg HL
          go_wp2_with fail
          refine (same06_true _ _ 2 _ _ _ _ E3.out hnew.out (by omega)).mono ?_
          rintro e w' ⟨rfl, m, rfl⟩
          go_wp2_with fail
          go_roundw
          case rel => exact ⟨k + 1, by omega, by go_num, below_drewN hbelA _⟩
          case measure => simp [intOf]; omega
        · obtain rfl : k = 5 := by omega
          go_wp2_with fail
          go_ret
          exact ⟨rfl, below_tr hbel3 hbel⟩
    · go_wp2_with fail
      go_ret
      exact ⟨rfl, hbel3⟩
  · have h7' : bits .and .i64 n 7 = 3 := h7
    have hpr : Pr 7 := (isPrime_iff _).1 (by decide +kernel)
    have hmk := Hmk.out 8 (by omega)
    rw [show ((8 : Nat) : Int) = 8 from rfl] at hmk
    obtain ⟨hr0, hr1, hr2⟩ := HW.out 7 (by omega)
    have hl0 := HRl.out 8
    have hc0 := hr0.cell (i := 1) (by rw [hl0]; omega)
    have hf0 := hr0.frozen 1
    have hc1 := hr1.cell (i := 7) (by rw [List.length_set, hl0]; omega)
    have hf1 := hr1.frozen 7
    have Hi2 := Lib.hid (HI.out 7 _ hr2)
    have hbW : Hid (Below w1.heap.size w1 (w1.alloc (.cells (((ints (R0 8)).set 1 (.int .i64 (-1))).set 7 (.int .i64 1)).toArray 3))) := (Below.refl _ _).alloc (Nat.le_refl _) _
    have Hrd : Hid (Rd (w1.alloc (.cells (((ints (R0 8)).set 1 (.int .i64 (-1))).set 7 (.int .i64 1)).toArray 3)) (some ⟨w1.heap.size, 0, none⟩) 8 (Poly.allLin ⟨7, hpr⟩ 7)) := by
      have := Rd.of_list (q := ⟨7, hpr⟩) Hi2.out
      rw [Poly.toP_fieldRow (q := ⟨7, hpr⟩) rfl] at this
      exact this
    have Hd2 := Lib.hid (Hd1.out.bel hbW.out)
    clear hr0 hr1 hr2 h7 hl0 Hmk HW HI HRl Hi2 Hd1
    go_wp2_with fail
    refine (ffactorsR (hp := hpr) Hrd.out (by omega) (Poly.allLin_mon _).ne (by rw [Poly.allLin_len]; omega) Hd2.out Hdn.out Hdc.out Hdm.out).mono ?_
    rintro e w3 ⟨A3, n3, c3, L3, rfl, hp3, hf3, hb3⟩
    have hL : L3 = (List.range 7).map (fun j => (Poly.linP ⟨7, hpr⟩ j, 1)) := hf3.unique (Poly.isFac_allLin (q := ⟨7, hpr⟩))
    have hlen := hp3.len
    rw [hL, List.length_map, List.length_range] at hlen
    subst hlen
    have Hp3 := Lib.hid hp3
    have HL := Lib.hid hL
    have hbel3 := below_tr hb1 (below_tr hbW.out hb3)
    clear hp3 hf3 hb3 hL Hrd Hd2 hc0 hc1 hf0 hf1 hmk hbW hb1 h7'
    rcases hdd with ⟨hd1, hd2⟩ | ⟨hd1, hd2⟩
    · go_wp2_with fail
      go_loopw [10] (fun i wr => ∃ k : Nat, k ≤ 7 ∧ i = .int .i64 (k : Int) ∧ Below w3.heap.size w3 wr) (fun i _ => 7 - (intOf i).toNat)
      case atStart => exact ⟨0, by omega, rfl, Below.refl _ _⟩
      case round =>
        obtain ⟨k, hk, rfl, hbel⟩ := hrel
        by_cases hlt : k < 7
        · have hlt' : (k : Int) < 7 := by omega
          obtain ⟨b, o, rfl, hb, hc⟩ := Hp3.out.at_ (by omega)
          have hkl : k < L3.length := by rw [Hp3.out.len]; exact hlt
          obtain ⟨Ai, ci, e1, e2, e3⟩ := hc k hkl
          have hg : L3[k] = (Poly.linP ⟨7, hpr⟩ k, 1) := by
            have h1 := HL.out
            simp only [h1, List.getElem_map, List.getElem_range]
          rw [hg] at e1 e2 e3
          have e4 : (Poly.linP ⟨7, hpr⟩ k).len = 2 := Poly.linP_len (q := ⟨7, hpr⟩) (by show (k : Int) < 7; omega)
          have e5 : fromP (Poly.linP ⟨7, hpr⟩ k) = [(k : Int), 1] := Poly.linP_from (q := ⟨7, hpr⟩) (by show (k : Int) < 7; omega)
          rw [e4] at e1 e3
          rw [e5] at e3
          have e6 : ((1 : Nat) : Int) = 1 := rfl
          rw [e6] at e2
          rw [Nat.mul_comm 2 k] at e1 e2
          rw [← Nat.add_assoc] at e2
          have c1' := (hbel.cell (p := ⟨b, o + k * 2, none⟩) hb).trans e1
          have c2' := (hbel.cell (p := ⟨b, o + k * 2 + 1, none⟩) hb).trans e2
          have hal : Below wr.heap.size wr (wr.alloc (.cells #[.int .i64 (k : Int), .int .i64 1] 3)) := (Below.refl _ _).alloc (Nat.le_refl _) _
          have E3 := Lib.hid ((e3.bel hbel).bel hal)
          have hnew : Hid (Ints (wr.alloc (.cells #[.int .i64 (k : Int), .int .i64 1] 3)) (some ⟨wr.heap.size, 0, none⟩) 2 [(k : Int), 1]) := (Row.new wr 3 [(k : Int), 1]).ints (fun i => by
            match i with
            | 0 => exact I64.small (by show 0 ≤ (k : Int); omega) (by show (k : Int) ≤ _; omega)
            | 1 => exact I64.small (by show 0 ≤ (1 : Int); omega) (by show (1 : Int) ≤ _; omega)
            | i + 2 => rw [nth_ge (by simp)]; exact I64.zero)
          have hbelA := below_tr hbel hal
          clear hc e1 e2 e3 e4 e5 e6 hg HL
          go_wp2_with fail
          refine (same06_true _ _ 2 _ _ _ _ E3.out hnew.out (by omega)).mono ?_
          rintro e w' ⟨rfl, m, rfl⟩
          go_wp2_with fail
          go_roundw
          case rel => exact ⟨k + 1, by omega, by go_num, below_drewN hbelA _⟩
          case measure => simp [intOf]; omega
        · obtain rfl : k = 7 := by omega
          go_wp2_with fail
          go_ret
          exact ⟨rfl, below_tr hbel3 hbel⟩
    · go_wp2_with fail
      go_ret
      exact ⟨rfl, hbel3⟩
  · have h7' : bits .and .i64 n 7 = 4 := h7
    have hpr : Pr 11 := (isPrime_iff _).1 (by decide +kernel)
    have hmk := Hmk.out 12 (by omega)
    rw [show ((12 : Nat) : Int) = 12 from rfl] at hmk
    obtain ⟨hr0, hr1, hr2⟩ := HW.out 11 (by omega)
    have hl0 := HRl.out 12
    have hc0 := hr0.cell (i := 1) (by rw [hl0]; omega)
    have hf0 := hr0.frozen 1
    have hc1 := hr1.cell (i := 11) (by rw [List.length_set, hl0]; omega)
    have hf1 := hr1.frozen 11
    have Hi2 := Lib.hid (HI.out 11 _ hr2)
    have hbW : Hid (Below w1.heap.size w1 (w1.alloc (.cells (((ints (R0 12)).set 1 (.int .i64 (-1))).set 11 (.int .i64 1)).toArray 3))) := (Below.refl _ _).alloc (Nat.le_refl _) _
    have Hrd : Hid (Rd (w1.alloc (.cells (((ints (R0 12)).set 1 (.int .i64 (-1))).set 11 (.int .i64 1)).toArray 3)) (some ⟨w1.heap.size, 0, none⟩) 12 (Poly.allLin ⟨11, hpr⟩ 11)) := by
      have := Rd.of_list (q := ⟨11, hpr⟩) Hi2.out
      rw [Poly.toP_fieldRow (q := ⟨11, hpr⟩) rfl] at this
      exact this
    have Hd2 := Lib.hid (Hd1.out.bel hbW.out)
    clear hr0 hr1 hr2 h7 hl0 Hmk HW HI HRl Hi2 Hd1
    go_wp2_with fail
    refine (ffactorsR (hp := hpr) Hrd.out (by omega) (Poly.allLin_mon _).ne (by rw [Poly.allLin_len]; omega) Hd2.out Hdn.out Hdc.out Hdm.out).mono ?_
    rintro e w3 ⟨A3, n3, c3, L3, rfl, hp3, hf3, hb3⟩
    have hL : L3 = (List.range 11).map (fun j => (Poly.linP ⟨11, hpr⟩ j, 1)) := hf3.unique (Poly.isFac_allLin (q := ⟨11, hpr⟩))
    have hlen := hp3.len
    rw [hL, List.length_map, List.length_range] at hlen
    subst hlen
    have Hp3 := Lib.hid hp3
    have HL := Lib.hid hL
    have hbel3 := below_tr hb1 (below_tr hbW.out hb3)
    clear hp3 hf3 hb3 hL Hrd Hd2 hc0 hc1 hf0 hf1 hmk hbW hb1 h7'
    rcases hdd with ⟨hd1, hd2⟩ | ⟨hd1, hd2⟩
    · go_wp2_with fail
      go_loopw [10] (fun i wr => ∃ k : Nat, k ≤ 11 ∧ i = .int .i64 (k : Int) ∧ Below w3.heap.size w3 wr) (fun i _ => 11 - (intOf i).toNat)
      case atStart => exact ⟨0, by omega, rfl, Below.refl _ _⟩
      case round =>
        obtain ⟨k, hk, rfl, hbel⟩ := hrel
        by_cases hlt : k < 11
        · have hlt' : (k : Int) < 11 := by omega
          obtain ⟨b, o, rfl, hb, hc⟩ := Hp3.out.at_ (by omega)
          have hkl : k < L3.length := by rw [Hp3.out.len]; exact hlt
          obtain ⟨Ai, ci, e1, e2, e3⟩ := hc k hkl
          have hg : L3[k] = (Poly.linP ⟨11, hpr⟩ k, 1) := by
            have h1 := HL.out
            simp only [h1, List.getElem_map, List.getElem_range]
          rw [hg] at e1 e2 e3
          have e4 : (Poly.linP ⟨11, hpr⟩ k).len = 2 := Poly.linP_len (q := ⟨11, hpr⟩) (by show (k : Int) < 11; omega)
          have e5 : fromP (Poly.linP ⟨11, hpr⟩ k) = [(k : Int), 1] := Poly.linP_from (q := ⟨11, hpr⟩) (by show (k : Int) < 11; omega)
          rw [e4] at e1 e3
          rw [e5] at e3
          have e6 : ((1 : Nat) : Int) = 1 := rfl
          rw [e6] at e2
          rw [Nat.mul_comm 2 k] at e1 e2
          rw [← Nat.add_assoc] at e2
          have c1' := (hbel.cell (p := ⟨b, o + k * 2, none⟩) hb).trans e1
          have c2' := (hbel.cell (p := ⟨b, o + k * 2 + 1, none⟩) hb).trans e2
          have hal : Below wr.heap.size wr (wr.alloc (.cells #[.int .i64 (k : Int), .int .i64 1] 3)) := (Below.refl _ _).alloc (Nat.le_refl _) _
          have E3 := Lib.hid ((e3.bel hbel).bel hal)
          have hnew : Hid (Ints (wr.alloc (.cells #[.int .i64 (k : Int), .int .i64 1] 3)) (some ⟨wr.heap.size, 0, none⟩) 2 [(k : Int), 1]) := (Row.new wr 3 [(k : Int), 1]).ints (fun i => by
            match i with
            | 0 => exact I64.small (by show 0 ≤ (k : Int); omega) (by show (k : Int) ≤ _; omega)
            | 1 => exact I64.small (by show 0 ≤ (1 : Int); omega) (by show (1 : Int) ≤ _; omega)
            | i + 2 => rw [nth_ge (by simp)]; exact I64.zero)
          have hbelA := below_tr hbel hal
          clear hc e1 e2 e3 e4 e5 e6 hg HL
          go_wp2_with fail
          refine (same06_true _ _ 2 _ _ _ _ E3.out hnew.out (by omega)).mono ?_
          rintro e w' ⟨rfl, m, rfl⟩
          go_wp2_with fail
          go_roundw
          case rel => exact ⟨k + 1, by omega, by go_num, below_drewN hbelA _⟩
          case measure => simp [intOf]; omega
        · obtain rfl : k = 11 := by omega
          go_wp2_with fail
          go_ret
          exact ⟨rfl, below_tr hbel3 hbel⟩
    · go_wp2_with fail
      go_ret
      exact ⟨rfl, hbel3⟩
  · have h7' : bits .and .i64 n 7 = 5 := h7
    have hpr : Pr 13 := (isPrime_iff _).1 (by decide +kernel)
    have hmk := Hmk.out 14 (by omega)
    rw [show ((14 : Nat) : Int) = 14 from rfl] at hmk
    obtain ⟨hr0, hr1, hr2⟩ := HW.out 13 (by omega)
    have hl0 := HRl.out 14
    have hc0 := hr0.cell (i := 1) (by rw [hl0]; omega)
    have hf0 := hr0.frozen 1
    have hc1 := hr1.cell (i := 13) (by rw [List.length_set, hl0]; omega)
    have hf1 := hr1.frozen 13
    have Hi2 := Lib.hid (HI.out 13 _ hr2)
    have hbW : Hid (Below w1.heap.size w1 (w1.alloc (.cells (((ints (R0 14)).set 1 (.int .i64 (-1))).set 13 (.int .i64 1)).toArray 3))) := (Below.refl _ _).alloc (Nat.le_refl _) _
    have Hrd : Hid (Rd (w1.alloc (.cells (((ints (R0 14)).set 1 (.int .i64 (-1))).set 13 (.int .i64 1)).toArray 3)) (some ⟨w1.heap.size, 0, none⟩) 14 (Poly.allLin ⟨13, hpr⟩ 13)) := by
      have := Rd.of_list (q := ⟨13, hpr⟩) Hi2.out
      rw [Poly.toP_fieldRow (q := ⟨13, hpr⟩) rfl] at this
      exact this
    have Hd2 := Lib.hid (Hd1.out.bel hbW.out)
    clear hr0 hr1 hr2 h7 hl0 Hmk HW HI HRl Hi2 Hd1
    go_wp2_with fail
    refine (ffactorsR (hp := hpr) Hrd.out (by omega) (Poly.allLin_mon _).ne (by rw [Poly.allLin_len]; omega) Hd2.out Hdn.out Hdc.out Hdm.out).mono ?_
    rintro e w3 ⟨A3, n3, c3, L3, rfl, hp3, hf3, hb3⟩
    have hL : L3 = (List.range 13).map (fun j => (Poly.linP ⟨13, hpr⟩ j, 1)) := hf3.unique (Poly.isFac_allLin (q := ⟨13, hpr⟩))
    have hlen := hp3.len
    rw [hL, List.length_map, List.length_range] at hlen
    subst hlen
    have Hp3 := Lib.hid hp3
    have HL := Lib.hid hL
    have hbel3 := below_tr hb1 (below_tr hbW.out hb3)
    clear hp3 hf3 hb3 hL Hrd Hd2 hc0 hc1 hf0 hf1 hmk hbW hb1 h7'
    rcases hdd with ⟨hd1, hd2⟩ | ⟨hd1, hd2⟩
    · go_wp2_with fail
      go_loopw [10] (fun i wr => ∃ k : Nat, k ≤ 13 ∧ i = .int .i64 (k : Int) ∧ Below w3.heap.size w3 wr) (fun i _ => 13 - (intOf i).toNat)
      case atStart => exact ⟨0, by omega, rfl, Below.refl _ _⟩
      case round =>
        obtain ⟨k, hk, rfl, hbel⟩ := hrel
        by_cases hlt : k < 13
        · have hlt' : (k : Int) < 13 := by omega
          obtain ⟨b, o, rfl, hb, hc⟩ := Hp3.out.at_ (by omega)
          have hkl : k < L3.length := by rw [Hp3.out.len]; exact hlt
          obtain ⟨Ai, ci, e1, e2, e3⟩ := hc k hkl
          have hg : L3[k] = (Poly.linP ⟨13, hpr⟩ k, 1) := by
            have h1 := HL.out
            simp only [h1, List.getElem_map, List.getElem_range]
          rw [hg] at e1 e2 e3
          have e4 : (Poly.linP ⟨13, hpr⟩ k).len = 2 := Poly.linP_len (q := ⟨13, hpr⟩) (by show (k : Int) < 13; omega)
          have e5 : fromP (Poly.linP ⟨13, hpr⟩ k) = [(k : Int), 1] := Poly.linP_from (q := ⟨13, hpr⟩) (by show (k : Int) < 13; omega)
          rw [e4] at e1 e3
          rw [e5] at e3
          have e6 : ((1 : Nat) : Int) = 1 := rfl
          rw [e6] at e2
          rw [Nat.mul_comm 2 k] at e1 e2
          rw [← Nat.add_assoc] at e2
          have c1' := (hbel.cell (p := ⟨b, o + k * 2, none⟩) hb).trans e1
          have c2' := (hbel.cell (p := ⟨b, o + k * 2 + 1, none⟩) hb).trans e2
          have hal : Below wr.heap.size wr (wr.alloc (.cells #[.int .i64 (k : Int), .int .i64 1] 3)) := (Below.refl _ _).alloc (Nat.le_refl _) _
          have E3 := Lib.hid ((e3.bel hbel).bel hal)
          have hnew : Hid (Ints (wr.alloc (.cells #[.int .i64 (k : Int), .int .i64 1] 3)) (some ⟨wr.heap.size, 0, none⟩) 2 [(k : Int), 1]) := (Row.new wr 3 [(k : Int), 1]).ints (fun i => by
            match i with
            | 0 => exact I64.small (by show 0 ≤ (k : Int); omega) (by show (k : Int) ≤ _; omega)
            | 1 => exact I64.small (by show 0 ≤ (1 : Int); omega) (by show (1 : Int) ≤ _; omega)
            | i + 2 => rw [nth_ge (by simp)]; exact I64.zero)
          have hbelA := below_tr hbel hal
          clear hc e1 e2 e3 e4 e5 e6 hg HL
          go_wp2_with fail
          refine (same06_true _ _ 2 _ _ _ _ E3.out hnew.out (by omega)).mono ?_
          rintro e w' ⟨rfl, m, rfl⟩
          go_wp2_with fail
          go_roundw
          case rel => exact ⟨k + 1, by omega, by go_num, below_drewN hbelA _⟩
          case measure => simp [intOf]; omega
        · obtain rfl : k = 13 := by omega
          go_wp2_with fail
          go_ret
          exact ⟨rfl, below_tr hbel3 hbel⟩
    · go_wp2_with fail
      go_ret
      exact ⟨rfl, hbel3⟩
  · have h7' : bits .and .i64 n 7 = 6 := h7
    have hpr : Pr 31 := (isPrime_iff _).1 (by decide +kernel)
    have hmk := Hmk.out 32 (by omega)
    rw [show ((32 : Nat) : Int) = 32 from rfl] at hmk
    obtain ⟨hr0, hr1, hr2⟩ := HW.out 31 (by omega)
    have hl0 := HRl.out 32
    have hc0 := hr0.cell (i := 1) (by rw [hl0]; omega)
    have hf0 := hr0.frozen 1
    have hc1 := hr1.cell (i := 31) (by rw [List.length_set, hl0]; omega)
    have hf1 := hr1.frozen 31
    have Hi2 := Lib.hid (HI.out 31 _ hr2)
    have hbW : Hid (Below w1.heap.size w1 (w1.alloc (.cells (((ints (R0 32)).set 1 (.int .i64 (-1))).set 31 (.int .i64 1)).toArray 3))) := (Below.refl _ _).alloc (Nat.le_refl _) _
    have Hrd : Hid (Rd (w1.alloc (.cells (((ints (R0 32)).set 1 (.int .i64 (-1))).set 31 (.int .i64 1)).toArray 3)) (some ⟨w1.heap.size, 0, none⟩) 32 (Poly.allLin ⟨31, hpr⟩ 31)) := by
      have := Rd.of_list (q := ⟨31, hpr⟩) Hi2.out
      rw [Poly.toP_fieldRow (q := ⟨31, hpr⟩) rfl] at this
      exact this
    have Hd2 := Lib.hid (Hd1.out.bel hbW.out)
    clear hr0 hr1 hr2 h7 hl0 Hmk HW HI HRl Hi2 Hd1
    go_wp2_with fail
    refine (ffactorsR (hp := hpr) Hrd.out (by omega) (Poly.allLin_mon _).ne (by rw [Poly.allLin_len]; omega) Hd2.out Hdn.out Hdc.out Hdm.out).mono ?_
    rintro e w3 ⟨A3, n3, c3, L3, rfl, hp3, hf3, hb3⟩
    have hL : L3 = (List.range 31).map (fun j => (Poly.linP ⟨31, hpr⟩ j, 1)) := hf3.unique (Poly.isFac_allLin (q := ⟨31, hpr⟩))
    have hlen := hp3.len
    rw [hL, List.length_map, List.length_range] at hlen
    subst hlen
    have Hp3 := Lib.hid hp3
    have HL := Lib.hid hL
    have hbel3 := below_tr hb1 (below_tr hbW.out hb3)
    clear hp3 hf3 hb3 hL Hrd Hd2 hc0 hc1 hf0 hf1 hmk hbW hb1 h7'
    rcases hdd with ⟨hd1, hd2⟩ | ⟨hd1, hd2⟩
    · go_wp2_with fail
      go_loopw [10] (fun i wr => ∃ k : Nat, k ≤ 31 ∧ i = .int .i64 (k : Int) ∧ Below w3.heap.size w3 wr) (fun i _ => 31 - (intOf i).toNat)
      case atStart => exact ⟨0, by omega, rfl, Below.refl _ _⟩
      case round =>
        obtain ⟨k, hk, rfl, hbel⟩ := hrel
        by_cases hlt : k < 31
        · have hlt' : (k : Int) < 31 := by omega
          obtain ⟨b, o, rfl, hb, hc⟩ := Hp3.out.at_ (by omega)
          have hkl : k < L3.length := by rw [Hp3.out.len]; exact hlt
          obtain ⟨Ai, ci, e1, e2, e3⟩ := hc k hkl
          have hg : L3[k] = (Poly.linP ⟨31, hpr⟩ k, 1) := by
            have h1 := HL.out
            simp only [h1, List.getElem_map, List.getElem_range]
          rw [hg] at e1 e2 e3
          have e4 : (Poly.linP ⟨31, hpr⟩ k).len = 2 := Poly.linP_len (q := ⟨31, hpr⟩) (by show (k : Int) < 31; omega)
          have e5 : fromP (Poly.linP ⟨31, hpr⟩ k) = [(k : Int), 1] := Poly.linP_from (q := ⟨31, hpr⟩) (by show (k : Int) < 31; omega)
          rw [e4] at e1 e3
          rw [e5] at e3
          have e6 : ((1 : Nat) : Int) = 1 := rfl
          rw [e6] at e2
          rw [Nat.mul_comm 2 k] at e1 e2
          rw [← Nat.add_assoc] at e2
          have c1' := (hbel.cell (p := ⟨b, o + k * 2, none⟩) hb).trans e1
          have c2' := (hbel.cell (p := ⟨b, o + k * 2 + 1, none⟩) hb).trans e2
          have hal : Below wr.heap.size wr (wr.alloc (.cells #[.int .i64 (k : Int), .int .i64 1] 3)) := (Below.refl _ _).alloc (Nat.le_refl _) _
          have E3 := Lib.hid ((e3.bel hbel).bel hal)
          have hnew : Hid (Ints (wr.alloc (.cells #[.int .i64 (k : Int), .int .i64 1] 3)) (some ⟨wr.heap.size, 0, none⟩) 2 [(k : Int), 1]) := (Row.new wr 3 [(k : Int), 1]).ints (fun i => by
            match i with
            | 0 => exact I64.small (by show 0 ≤ (k : Int); omega) (by show (k : Int) ≤ _; omega)
            | 1 => exact I64.small (by show 0 ≤ (1 : Int); omega) (by show (1 : Int) ≤ _; omega)
            | i + 2 => rw [nth_ge (by simp)]; exact I64.zero)
          have hbelA := below_tr hbel hal
          clear hc e1 e2 e3 e4 e5 e6 hg HL
          go_wp2_with fail
          refine (same06_true _ _ 2 _ _ _ _ E3.out hnew.out (by omega)).mono ?_
          rintro e w' ⟨rfl, m, rfl⟩
          go_wp2_with fail
          go_roundw
          case rel => exact ⟨k + 1, by omega, by go_num, below_drewN hbelA _⟩
          case measure => simp [intOf]; omega
        · obtain rfl : k = 31 := by omega
          go_wp2_with fail
          go_ret
          exact ⟨rfl, below_tr hbel3 hbel⟩
    · go_wp2_with fail
      go_ret
      exact ⟨rfl, hbel3⟩
  · have h7' : bits .and .i64 n 7 = 7 := h7
    have hpr : Pr 61 := (isPrime_iff _).1 (by decide +kernel)
    have hmk := Hmk.out 62 (by omega)
    rw [show ((62 : Nat) : Int) = 62 from rfl] at hmk
    obtain ⟨hr0, hr1, hr2⟩ := HW.out 61 (by omega)
    have hl0 := HRl.out 62
    have hc0 := hr0.cell (i := 1) (by rw [hl0]; omega)
    have hf0 := hr0.frozen 1
    have hc1 := hr1.cell (i := 61) (by rw [List.length_set, hl0]; omega)
    have hf1 := hr1.frozen 61
    have Hi2 := Lib.hid (HI.out 61 _ hr2)
    have hbW : Hid (Below w1.heap.size w1 (w1.alloc (.cells (((ints (R0 62)).set 1 (.int .i64 (-1))).set 61 (.int .i64 1)).toArray 3))) := (Below.refl _ _).alloc (Nat.le_refl _) _
    have Hrd : Hid (Rd (w1.alloc (.cells (((ints (R0 62)).set 1 (.int .i64 (-1))).set 61 (.int .i64 1)).toArray 3)) (some ⟨w1.heap.size, 0, none⟩) 62 (Poly.allLin ⟨61, hpr⟩ 61)) := by
      have := Rd.of_list (q := ⟨61, hpr⟩) Hi2.out
      rw [Poly.toP_fieldRow (q := ⟨61, hpr⟩) rfl] at this
      exact this
    have Hd2 := Lib.hid (Hd1.out.bel hbW.out)
    clear hr0 hr1 hr2 h7 hl0 Hmk HW HI HRl Hi2 Hd1
    go_wp2_with fail
    refine (ffactorsR (hp := hpr) Hrd.out (by omega) (Poly.allLin_mon _).ne (by rw [Poly.allLin_len]; omega) Hd2.out Hdn.out Hdc.out Hdm.out).mono ?_
    rintro e w3 ⟨A3, n3, c3, L3, rfl, hp3, hf3, hb3⟩
    have hL : L3 = (List.range 61).map (fun j => (Poly.linP ⟨61, hpr⟩ j, 1)) := hf3.unique (Poly.isFac_allLin (q := ⟨61, hpr⟩))
    have hlen := hp3.len
    rw [hL, List.length_map, List.length_range] at hlen
    subst hlen
    have Hp3 := Lib.hid hp3
    have HL := Lib.hid hL
    have hbel3 := below_tr hb1 (below_tr hbW.out hb3)
    clear hp3 hf3 hb3 hL Hrd Hd2 hc0 hc1 hf0 hf1 hmk hbW hb1 h7'
    rcases hdd with ⟨hd1, hd2⟩ | ⟨hd1, hd2⟩
    · go_wp2_with fail
      go_loopw [10] (fun i wr => ∃ k : Nat, k ≤ 61 ∧ i = .int .i64 (k : Int) ∧ Below w3.heap.size w3 wr) (fun i _ => 61 - (intOf i).toNat)
      case atStart => exact ⟨0, by omega, rfl, Below.refl _ _⟩
      case round =>
        obtain ⟨k, hk, rfl, hbel⟩ := hrel
        by_cases hlt : k < 61
        · have hlt' : (k : Int) < 61 := by omega
          obtain ⟨b, o, rfl, hb, hc⟩ := Hp3.out.at_ (by omega)
          have hkl : k < L3.length := by rw [Hp3.out.len]; exact hlt
          obtain ⟨Ai, ci, e1, e2, e3⟩ := hc k hkl
          have hg : L3[k] = (Poly.linP ⟨61, hpr⟩ k, 1) := by
            have h1 := HL.out
            simp only [h1, List.getElem_map, List.getElem_range]
          rw [hg] at e1 e2 e3
          have e4 : (Poly.linP ⟨61, hpr⟩ k).len = 2 := Poly.linP_len (q := ⟨61, hpr⟩) (by show (k : Int) < 61; omega)
          have e5 : fromP (Poly.linP ⟨61, hpr⟩ k) = [(k : Int), 1] := Poly.linP_from (q := ⟨61, hpr⟩) (by show (k : Int) < 61; omega)
          rw [e4] at e1 e3
          rw [e5] at e3
          have e6 : ((1 : Nat) : Int) = 1 := rfl
          rw [e6] at e2
          rw [Nat.mul_comm 2 k] at e1 e2
          rw [← Nat.add_assoc] at e2
          have c1' := (hbel.cell (p := ⟨b, o + k * 2, none⟩) hb).trans e1
          have c2' := (hbel.cell (p := ⟨b, o + k * 2 + 1, none⟩) hb).trans e2
          have hal : Below wr.heap.size wr (wr.alloc (.cells #[.int .i64 (k : Int), .int .i64 1] 3)) := (Below.refl _ _).alloc (Nat.le_refl _) _
          have E3 := Lib.hid ((e3.bel hbel).bel hal)
          have hnew : Hid (Ints (wr.alloc (.cells #[.int .i64 (k : Int), .int .i64 1] 3)) (some ⟨wr.heap.size, 0, none⟩) 2 [(k : Int), 1]) := (Row.new wr 3 [(k : Int), 1]).ints (fun i => by
            match i with
            | 0 => exact I64.small (by show 0 ≤ (k : Int); omega) (by show (k : Int) ≤ _; omega)
            | 1 => exact I64.small (by show 0 ≤ (1 : Int); omega) (by show (1 : Int) ≤ _; omega)
            | i + 2 => rw [nth_ge (by simp)]; exact I64.zero)
          have hbelA := below_tr hbel hal
          clear hc e1 e2 e3 e4 e5 e6 hg HL
          go_wp2_with fail
          refine (same06_true _ _ 2 _ _ _ _ E3.out hnew.out (by omega)).mono ?_
          rintro e w' ⟨rfl, m, rfl⟩
          go_wp2_with fail
          go_roundw
          case rel => exact ⟨k + 1, by omega, by go_num, below_drewN hbelA _⟩
          case measure => simp [intOf]; omega
        · obtain rfl : k = 61 := by omega
          go_wp2_with fail
          go_ret
          exact ⟨rfl, below_tr hbel3 hbel⟩
    · go_wp2_with fail
      go_ret
      exact ⟨rfl, hbel3⟩
end Go.Proofs.YtbcapmnklgdeoaaGreat
