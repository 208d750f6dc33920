/- cleaverref09: step, Cost; cleaverlaw09.cheap; Squarefree. -/
import Derived.Test.YtpikakapflebkaaGreatPutA
import Derived.Test.YtpikakapflebkaaGreatFacU
import Derived.Test.YtpikakapflebkaaGreatQsfAll
namespace Go.Proofs.YtpikakapflebkaaGreat
open Go.RowKit Cl
attribute [local go_sem ↓] Go.wp_at_zero Go.wp_at_succ

/-- What a step does: it counts up, or all digits were the last ones. -/
def StepSaid (g : Nat) (t : TypeId) (d : Nat) (xs : List Int) (p : Int) (w : World) (e : Ending) (w' : World) : Prop :=
  ∃ (r : Bool) (ys : List Int), e = .returned (.bool r) ∧ Row w' g t ys ∧ Only (fun k => k = g) w w' ∧ ((r = true ∧ ys.length = d + 1 ∧ ∃ i, Cl.Next p xs ys d i ∧ nth ys i < p) ∨ (r = false ∧ ∀ i, i < d → nth xs i = p - 1))
set_option maxRecDepth 100000 in
set_option maxHeartbeats 4000000 in
theorem rstep (g cq : Nat) (t : TypeId) (d : Nat) (xs : List Int) (p : Int) (w : World) (hr : Row w g t xs) (hl : xs.length = d + 1) (hd : Dig p xs d) (h1 : nth xs d = 1) (hp : 2 ≤ p) (hp2 : p ≤ 65521) (hdm : d ≤ 1000) :
    Calls Tryz.prog 49 #[.slice (some ⟨g, 0, none⟩) (d + 1) cq, .int .i64 p] w (StepSaid g t d xs p w) := by
  have Hl := Lib.hid hl
  have Hd := Lib.hid hd
  have Hz : Hid (Row w g t (stepAt xs d 0)) := by show Row _ _ _ _; rw [stepAt_zero hl]; exact hr
  clear hr hl hd h1
  go_enter Tryz.func49, Tryz.ntmps49
  go_wp2_with fail
  go_loopw [5] (fun i wr => ∃ k : Nat, k ≤ d ∧ i = .int .i64 (k : Int) ∧ Hid (Row wr g t (stepAt xs d k)) ∧ Hid (∀ j, j < k → nth xs j = p - 1) ∧ Hid (Only (fun k => k = g) w wr)) (fun i _ => d - (intOf i).toNat)
  case atStart => exact ⟨0, by omega, rfl, Hz, (fun j h => absurd h (by omega)), Only.refl _ _⟩
  case round =>
    obtain ⟨k, hk, rfl, hrow, hlow, honly⟩ := hrel
    by_cases hlt : k < d
    · have hlt' : (k : Int) + 1 < (d : Int) + 1 := by omega
      have hlt2 : (k : Int) < (d : Int) + 1 := by omega
      have hk0 : (0 : Int) ≤ (k : Int) := by omega
      obtain ⟨b1, b2⟩ := Hd.out k hlt
      have hc := hrow.out.cell (i := k) (by rw [stepAt_length]; omega)
      rw [nth_stepAt (by omega), if_neg (by omega)] at hc
      have hf := hrow.out.frozen k
      have hr2 := hrow.out.set k (nth xs k + 1)
      have hc2 := hr2.cell (i := k) (by rw [List.length_set, stepAt_length]; omega)
      rw [nth_set (by rw [stepAt_length]; omega), if_pos rfl] at hc2
      have hf2 := hr2.frozen k
      have Hr2 := Lib.hid hr2
      have ho2 := Lib.hid (honly.out.setCell (p := ⟨g, k, none⟩) rfl (.int .i64 (nth xs k + 1)))
      clear hr2
      by_cases hlast : nth xs k + 1 < p
      · have Hn := Lib.hid (stepAt_next (p := p) Hl.out hlt hlow.out)
        have Hv : Hid (nth ((stepAt xs d k).set k (nth xs k + 1)) k < p) := by show _ < _; rw [nth_set (by rw [stepAt_length]; omega), if_pos rfl]; exact hlast
        go_wp2_with fail
        go_ret
        exact ⟨true, _, rfl, Hr2.out, ho2.out, .inl ⟨rfl, by rw [List.length_set, stepAt_length], k, Hn.out, Hv.out⟩⟩
      · have Hx : Hid (nth xs k = p - 1) := by show _ = _; omega
        have hr3 := Hr2.out.set k 0
        rw [stepAt_set hlt] at hr3
        have Hr3 := Lib.hid hr3
        have ho3 := Lib.hid (ho2.out.setCell (p := ⟨g, k, none⟩) rfl (.int .i64 0))
        clear hr3
        go_wp2_with fail
        go_roundw
        case rel => exact ⟨k + 1, by omega, by go_num, Hr3, (fun j hj => by by_cases e : j = k; (subst e; exact Hx.out); exact hlow.out j (by omega)), ho3⟩
        case measure => simp [intOf]; omega
    · obtain rfl : k = d := by omega
      have hlt' : ¬ (k : Int) + 1 < (k : Int) + 1 := by omega
      go_wp2_with fail
      go_ret
      exact ⟨false, _, rfl, hrow.out, honly.out, .inr ⟨rfl, hlow.out⟩⟩
theorem rcost (A : Option Addr) (n c : Nat) (p : Int) (w : World) (hn : n ≤ 30) (hp : 2 ≤ p) (hp2 : p ≤ 65521) :
    Calls Tryz.prog 46 #[.slice A n c, .int .i64 p, .int .i64 1500] w fun e w' => ∃ z : Int, e = .returned (.int .i64 z) ∧ 0 ≤ z ∧ z ≤ 3000 ∧ w = w' := by
  go_enter Tryz.func46, Tryz.ntmps46
  go_wp2_with fail
  go_loopw [7, 8] (fun v i wr => ∃ (z : Int) (k : Nat), 1 ≤ z ∧ z ≤ 1500 ∧ 1 ≤ k ∧ k ≤ 16 ∧ v = .int .i64 z ∧ i = .int .i64 (k : Int) ∧ w = wr) (fun _ i _ => 16 - (intOf i).toNat)
  case atStart => exact ⟨1, 1, by omega, by omega, by omega, by omega, rfl, rfl, rfl⟩
  case round =>
    obtain ⟨z, k, hz1, hz2, hk1, hk2, rfl, rfl, rfl⟩ := hrel
    by_cases hlt : 2 * (k : Int) < (n : Int)
    · have hm1 : 0 ≤ z * p := Int.mul_nonneg (by omega) (by omega)
      have hm2 : z * p ≤ 1500 * 65521 := Int.mul_le_mul hz2 hp2 (by omega) (by omega)
      have hm3 : 1 * 2 ≤ z * p := Int.mul_le_mul hz1 hp (by omega) (by omega)
      by_cases hgt : 1500 < z * p
      · go_wp2_with fail
        go_ret
        exact ⟨1501, rfl, by omega, by omega, rfl⟩
      · go_wp2_with fail
        go_roundw
        case rel => exact ⟨z * p, k + 1, by omega, by omega, by omega, by omega, rfl, by go_num, by first | rfl | trivial⟩
        case measure => simp [intOf]; omega
    · go_wp2_with fail
      go_ret
      exact ⟨2 * z, rfl, by omega, by omega, rfl⟩
theorem lcheap (A : Option Addr) (n c : Nat) (p : Int) (w : World) (hp : 2 ≤ p) (hp2 : p ≤ 65521) :
    Calls Tryz.prog 21 #[.slice A n c, .int .i64 p] w fun e w' => ∃ r : Bool, e = .returned (.bool r) ∧ w = w' ∧ (r = true → n ≤ 30) := by
  by_cases hn : n ≤ 30
  · have hn' : (n : Int) ≤ 30 := by omega
    have hn2 : decide ((n : Int) ≤ 30) = true := decide_eq_true hn'
    go_enter Tryz.func21, Tryz.ntmps21
    go_wp2_with fail
    refine (rcost A n c p w hn hp hp2).mono ?_
    rintro e w1 ⟨z, rfl, hz1, hz2, rfl⟩
    go_wp2_with fail
    go_ret
    exact ⟨_, rfl, rfl, fun _ => hn⟩
  · have hn' : ¬ (n : Int) ≤ 30 := by omega
    have hn2 : decide ((n : Int) ≤ 30) = false := decide_eq_false hn'
    go_enter Tryz.func21, Tryz.ntmps21
    go_wp2_with fail
    go_ret
    first | exact ⟨false, rfl, rfl, fun h => by cases h⟩ | exact ⟨rfl, rfl⟩ | exact rfl
section
variable {A : Option Addr} {n c : Nat} {p : Int} {w : World} {hp : Pr p} {a : Poly (Zp ⟨p, hp⟩)}
theorem rsqfree (ha : Rd w A n a) (hn : n ≤ 90000000) (h0 : a ≠ 0) : Calls Tryz.prog 23 #[.slice A n c, .int .i64 p] w fun e w' => e = .returned (.bool (sqB a)) ∧ Below w.heap.size w w' := by
  have C := Lib.hid (qisR (N := 90000000) (c := c) ha hn (by omega) h0)
  clear ha h0
  go_enter Tryz.func23, Tryz.ntmps23
  go_wp2_with fail
  refine C.out.mono ?_
  rintro e w1 ⟨rfl, hb1⟩
  go_wp2_with fail
  go_ret
  exact ⟨rfl, hb1⟩
end
end Go.Proofs.YtpikakapflebkaaGreat
