/- Contracts: layer 8's radical, and what its functions answer where something is wrong: the program's. -/
import Derived.Test.YtbcapmnklgdeoaaSqfC
import Derived.Test.YtbcapmnklgdeoaaSqfM
namespace Go.Proofs.Ytbcapmnklgdeoaa
open Go.RowKit Cl
attribute [local go_sem ↓] Go.wp_at_zero Go.wp_at_succ

theorem sparts_no (A : Option Addr) (n c : Nat) (p : Int) (w : World) (h3 : -9223372036854775808 ≤ p) (h4 : p ≤ 9223372036854775807) (hp : isPrime p = false) :
    Calls Try.prog 10 #[.slice A n c, .int .i64 p] w fun e w' => e = .returned (.tuple #[.slice none 0 0, .int .i64 1]) ∧ w = w' := by
  go_enter Try.func10, Try.ntmps10
  go_wp2
  refine scope_jumps 0 (fun _ _ => False) (fun _ _ => 0) rfl (fun _ _ h => h.elim) ?_
  intro _
  go_wp2_with fail
  refine (smonic_no _ _ _ _ _ h3 h4 hp).mono ?_
  rintro e w' ⟨rfl, rfl⟩
  go_wp2_with fail
  dsimp only [Exit.jump]
  go_ret2
  exact ⟨rfl, rfl⟩
theorem srad_no (A : Option Addr) (n c : Nat) (p : Int) (w : World) (h3 : -9223372036854775808 ≤ p) (h4 : p ≤ 9223372036854775807) (hp : isPrime p = false) :
    Calls Try.prog 11 #[.slice A n c, .int .i64 p] w fun e w' => e = .returned (.tuple #[.slice none 0 0, .int .i64 1]) ∧ w = w' := by
  go_enter Try.func11, Try.ntmps11
  go_wp2_with fail
  refine (sparts_no _ _ _ _ _ h3 h4 hp).mono ?_
  rintro e w' ⟨rfl, rfl⟩
  go_wp2_with fail
  go_ret2
  exact ⟨rfl, rfl⟩
section
variable {A : Option Addr} {n c N : Nat} {p : Int} {w : World} {hp : Pr p} {a : Poly (Zp ⟨p, hp⟩)}
theorem sparts0R (ha : Rd w A n a) (hn : n ≤ N) (hN : N ≤ 900000000) (h0 : a = 0) :
    Calls Try.prog 10 #[.slice A n c, .int .i64 p] w fun e w' => e = .returned (.tuple #[.slice none 0 0, .int .i64 8]) ∧ Below w.heap.size w w' := by
  have C := Lib.hid (smonic0R (c := c) ha hn hN h0)
  clear ha h0
  go_enter Try.func10, Try.ntmps10
  go_wp2
  refine scope_jumps 0 (fun _ _ => False) (fun _ _ => 0) rfl (fun _ _ h => h.elim) ?_
  intro _
  go_wp2_with fail
  refine C.out.mono ?_
  rintro e w1 ⟨rfl, hb1⟩
  go_wp2_with fail
  dsimp only [Exit.jump]
  go_ret2
  exact ⟨rfl, hb1⟩
theorem srad0R (ha : Rd w A n a) (hn : n ≤ N) (hN : N ≤ 900000000) (h0 : a = 0) :
    Calls Try.prog 11 #[.slice A n c, .int .i64 p] w fun e w' => e = .returned (.tuple #[.slice none 0 0, .int .i64 8]) ∧ Below w.heap.size w w' := by
  have C := Lib.hid (sparts0R (c := c) ha hn hN h0)
  clear ha h0
  go_enter Try.func11, Try.ntmps11
  go_wp2_with fail
  refine C.out.mono ?_
  rintro e w1 ⟨rfl, hb1⟩
  go_wp2_with fail
  go_ret2
  exact ⟨rfl, hb1⟩
theorem spartsR (ha : Rd w A n a) (hn : n ≤ N) (hN : N ≤ 100000000) (h0 : a ≠ 0) :
    Calls Try.prog 10 #[.slice A n c, .int .i64 p] w (GivesPrs w (Poly.partsL a) 0) := by
  obtain ⟨xs, hx, rfl⟩ := ha
  exact sparts_yes A n c xs p w hp hx (by omega) h0
set_option maxRecDepth 100000 in
set_option maxHeartbeats 4000000 in
theorem sradR (ha : Rd w A n a) (hn : n ≤ N) (hN : N ≤ 100000000) (h0 : a ≠ 0) :
    Calls Try.prog 11 #[.slice A n c, .int .i64 p] w (GivesRE w N (Poly.rad a) 0) := by
  have C := Lib.hid (spartsR (c := c) ha hn hN h0)
  have han : a.len ≤ N := by obtain ⟨xs, hx, rfl⟩ := ha; exact Nat.le_trans (len_le_toP hx.len) hn
  clear ha
  go_enter Try.func11, Try.ntmps11
  go_wp2_with fail
  refine C.out.mono ?_
  rintro e w1 ⟨A1, c1, rfl, hprs, hb1⟩
  have Hprs := Lib.hid hprs
  have hone : Ints (w1.alloc (.cells #[.int .i64 1] 3)) (some ⟨w1.heap.size, 0, none⟩) 1 (fromP (1 : Poly (Zp ⟨p, hp⟩))) := by
    rw [fromP_one hp]
    exact (Row.new w1 3 [1]).ints (fun i => by
      match i with
      | 0 => exact I64.small (by decide) (by decide)
      | i + 1 => rw [nth_ge (by simp)]; exact I64.zero)
  have Hone := Lib.hid hone
  have hal : Below w1.heap.size w1 (w1.alloc (.cells #[.int .i64 1] 3)) := (Below.refl _ _).alloc (Nat.le_refl _) _
  obtain ⟨K, hK⟩ : ∃ K, K = (Poly.partsL a).length := ⟨_, rfl⟩
  rw [← hK]
  have hKa : (Poly.lvls a).length = K := by rw [hK, Poly.partsL_length]
  have HKa := Lib.hid hKa
  have HK := Lib.hid hK
  have hKn : K ≤ 100000000 := by
    have h1 : (Poly.lvls a).length ≤ a.len := by unfold Poly.lvls; exact Nat.le_trans (List.length_filter_le _ _) (by rw [List.length_range]; omega)
    omega
  clear hprs hone hK hKa
  go_wp2_with fail
  go_loopw [8, 23] (fun v i wr => ∃ (k : Nat) (B : Option Addr) (d : Nat), k ≤ K ∧ i = .int .i64 (k : Int) ∧ v = .slice B (Poly.prodL a ((Poly.lvls a).take k)).len d ∧ Hid (Ints wr B (Poly.prodL a ((Poly.lvls a).take k)).len (fromP (Poly.prodL a ((Poly.lvls a).take k)))) ∧ Below w1.heap.size w1 wr) (fun _ i _ => K - (intOf i).toNat)
  case atStart => exact ⟨0, _, 1, by omega, rfl, by rw [List.take_zero]; show _ = Value.slice _ (1 : Poly _).len _; rw [Poly.len_one], by show Ints _ _ _ _; rw [List.take_zero]; show Ints _ _ (1 : Poly _).len (fromP (1 : Poly _)); rw [Poly.len_one]; exact Hone.out, hal⟩
  case round =>
    obtain ⟨k, B, d, hk, rfl, rfl, hB, hbel⟩ := hrel
    by_cases hlt : k < K
    · obtain ⟨b, o, rfl, hb, hc⟩ := Hprs.out.at_ (by rw [← HK.out]; omega)
      obtain ⟨Ai, ci, e1, e2, e3⟩ := hc k (by rw [← HK.out]; exact hlt)
      have c1' := (hbel.cell (p := ⟨b, o + 2 * k, none⟩) hb).trans e1
      have c2' := (hbel.cell (p := ⟨b, o + (2 * k + 1), none⟩) hb).trans e2
      rw [Nat.mul_comm 2 k] at c1' c2'
      rw [← Nat.add_assoc] at c2'
      have hi := e3.bel hbel
      have e5 := Lib.hid (Poly.take_succ_get (l := Poly.lvls a) (i := k) (by rw [HKa.out]; exact hlt))
      clear hc e1 e2 e3
      rw [Poly.partsL_get] at c1' c2' hi
      have HI := Lib.hid hi
      have hlen1 := Poly.prodL_take_len h0 k
      have hl1 : 1 ≤ (Poly.lvls a)[k]'(by rw [HKa.out]; exact hlt) := ((Poly.mem_lvls h0).1 (List.getElem_mem _)).1
      have hlen2 := Poly.lvl_len h0 hl1
      generalize (Poly.lvls a)[k]'(by rw [HKa.out]; exact hlt) = kk at *
      clear hi
      go_wp2_with fail
      refine (stimesR (hp := hp) (N := N) (M := N) (K := 2 * N) (Rd.of (hB.out.alloc _)) (Rd.of (HI.out.alloc _)) (by omega) (by omega) (by omega) (by omega)).mono ?_
      rintro e w3 ⟨A3, c3, rfl, -, h3, hb3⟩
      have hal2 : Below wr.heap.size wr (wr.alloc (.cells #[.slice Ai (Poly.lvl a kk).len ci, .int .i64 (kk : Int)] 32)) := (Below.refl _ _).alloc (Nat.le_refl _) _
      have hb4 := below_tr hbel (hal2.trans (hb3.mono (by simp)))
      rw [← Poly.prodL_snoc, ← e5.out] at h3 ⊢
      have H3 := Lib.hid h3
      clear h3 hb3 hal2
      go_wp2_with fail
      go_roundw
      case rel => exact ⟨k + 1, A3, c3, by omega, by go_num, rfl, H3, hb4⟩
      case measure => simp [intOf]; omega
    · obtain rfl : k = K := by omega
      have er : Hid (Poly.prodL a ((Poly.lvls a).take k) = Poly.rad a) := by
        show _ = _
        rw [List.take_of_length_le (by rw [HKa.out]; omega), Poly.prodL_rad h0]
      have hB2 := hB.out
      rw [er.out] at hB2 ⊢
      have HB := Lib.hid hB2
      have hrl := Poly.rad_len h0
      clear hB hB2
      go_wp2_with fail
      go_ret2
      exact ⟨_, _, rfl, by omega, HB.out, below_tr hb1 hbel⟩
end
end Go.Proofs.Ytbcapmnklgdeoaa
