/- Contracts of the matrices' least functions. -/
import Derived.Test.YtpikakapflebkaaGreatFpAll
import Derived.Test.YtpikakapflebkaaGreatPolyB
namespace Go.Proofs.YtpikakapflebkaaGreat
open Go.RowKit Cl

theorem int_info : (Tryz.prog.info? 3).map (fun i => (i.zero, i.size, i.bytes)) = some (some (.int .i64 0), 1, 8) := by kernel_rfl
theorem make_ints (n : Nat) (hn : n * 8 ≤ 281474976710656) (w : World) :
    (Instr.makeSlice 22 (.int .i64 (n : Int)) (.int .i64 (n : Int))).run Tryz.prog w = .ok (.slice (some ⟨w.heap.size, 0, none⟩) n n) (w.alloc (.cells (ints (List.replicate n 0)).toArray 3)) := by
  obtain ⟨i0, hi, hz, hs, hb⟩ := info_parts int_info
  exact run_make_ints Tryz.underlying22 hi hz hs hb n hn w

/-- A row's rests. -/
theorem plain_row (A : Option Addr) (n c : Nat) (xs : List Int) (p : Int) (w : World) (hx : Ints w A n xs) (hn : n * 8 ≤ 140737488351232) (h3 : -9223372036854775808 ≤ p) (h4 : p ≤ 9223372036854775807) :
    Calls Tryz.prog 131 #[.slice A n c, .int .i64 p] w fun e w' => e = .returned (.slice (some ⟨w.heap.size, 0, none⟩) n n) ∧ Row w' w.heap.size 3 (redRow xs p) ∧ Below w.heap.size w w' := by
  have hmk := make_ints n (by omega)
  have Hf : Hid (redRow xs p = tab n (fun i => red (nth xs i) p)) := by show _ = _; unfold redRow; rw [hx.len]
  go_enter Tryz.func131, Tryz.ntmps131
  go_wp2
  go_loopw [13] (fun i wr => ∃ k : Nat, k ≤ n ∧ i = .int .i64 k ∧ Row wr w.heap.size 3 (fillTo n k (fun i => red (nth xs i) p)) ∧ Below w.heap.size w wr) (fun i _ => n - (intOf i).toNat)
  case atStart => exact ⟨0, by omega, rfl, by rw [fillTo_zero]; exact Row.new w _ _, (Below.refl _ _).alloc (Nat.le_refl _) _⟩
  case round =>
    obtain ⟨k, hk, rfl, hrow, hbel⟩ := hrel
    by_cases hlt : k < n
    · obtain ⟨b, o, rfl, hb, hc⟩ := hx.at_ (by omega)
      have hcx : wr.cell? ⟨b, o + k, none⟩ = some (.int .i64 (nth xs k)) := (hbel.cell (p := ⟨b, o + k, none⟩) hb).trans (hc k hlt)
      have hcy := hrow.cell (i := k) (by rw [fillTo_length]; omega)
      have hfz := hrow.frozen k
      obtain ⟨l1, l2⟩ := hx.ok k
      have hset := hrow.set k (red (nth xs k) p)
      rw [fillTo_set (f := fun i => red (nth xs i) p) hlt] at hset
      have Hset := Lib.hid hset; clear hset
      go_wp2_with (go_at_call 64; refine (red_any _ _ _ (by omega) (by omega) (by omega) (by omega)).mono ?_; rintro e w' ⟨rfl, rfl⟩)
      go_roundw
      case rel => exact ⟨k + 1, by omega, by go_num, Hset.out, hbel.setCell (Nat.le_refl _) _⟩
      case measure => simp [intOf]; omega
    · obtain rfl : k = n := by omega
      rw [fillTo_full] at hrow
      go_wp2
      go_ret
      rw [Hf.out]
      exact ⟨rfl, hrow, hbel⟩
theorem plain_any (A : Option Addr) (n c : Nat) (xs : List Int) (p : Int) (w : World) (hx : Ints w A n xs) (hn : n * 8 ≤ 140737488351232) (h3 : -9223372036854775808 ≤ p) (h4 : p ≤ 9223372036854775807) :
    Calls Tryz.prog 131 #[.slice A n c, .int .i64 p] w (GivesInts 3 w n (redRow xs p)) := by
  have hl := hx.len
  refine (plain_row A n c xs p w hx hn h3 h4).mono ?_
  rintro e w' ⟨rfl, hrow, hbel⟩
  exact GivesInts.mk hrow (Nat.le_refl _) (by rw [redRow_length, hl]) (by unfold maxLen; omega) (fun i => by rw [nth_redRow]; exact red_i64 _ h3 h4) hbel

end Go.Proofs.YtpikakapflebkaaGreat
