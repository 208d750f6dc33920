/- Contracts: a row's first residue that is not 0; are lists the same? -/
import Derived.Test.YthpkpnpkkflfpaaFlinB
namespace Go.Proofs.Ythpkpnpkkflfpaa
open Go.RowKit Cl

theorem idx_lead (A : Option Addr) (n c : Nat) (xs : List Int) (w : World) (hx : Ints w A n xs) (hn : n ≤ 9223372036854775807) :
    Calls Try.prog 53 #[.slice A n c, .func (.func 54) #[] #[]] w fun e w' => e = .returned (.int .i64 (leadI xs)) ∧ w = w' := by
  have Hl := Lib.hid hx.len
  go_enter Try.func53, Try.ntmps53
  go_wp2
  go_loop [8] (fun i => ∃ k : Nat, k ≤ n ∧ i = .int .i64 k ∧ Hid (∀ j, j < k → nth xs j = 0)) (fun i => n - (intOf i).toNat)
  case atStart => exact ⟨0, by omega, rfl, fun j hj => absurd hj (by omega)⟩
  case round =>
    obtain ⟨k, hk, rfl, hall⟩ := hrel
    by_cases hlt : k < n
    · obtain ⟨b, o, rfl, hb, hc⟩ := hx.at_ (by omega)
      have hck := hc k hlt
      obtain ⟨l1, l2⟩ := hx.ok k
      by_cases hz : nth xs k = 0
      · have hz' : (nth xs k != 0) = false := by simp [hz]
        have Hz := Lib.hid hz; clear hz
        go_wp2_with go_in
        go_round
        case rel => exact ⟨k + 1, by omega, by go_num, fun j hj => if e : j = k then e ▸ Hz.out else hall.out j (by omega)⟩
        case measure => simp [intOf]; omega
      · have hz' : (nth xs k != 0) = true := by simp [hz]
        have Hz := Lib.hid (leadI_some (by have := Hl.out; omega) hall.out hz)
        clear hz
        go_wp2_with go_in
        go_ret
        exact ⟨ret_int Hz.out.symm, rfl⟩
    · have Hz := Lib.hid (leadI_none (fun i hi => hall.out i (by have := Hl.out; omega)))
      go_wp2
      go_ret
      exact ⟨ret_int Hz.out.symm, rfl⟩

theorem lead_any (A : Option Addr) (n c : Nat) (xs : List Int) (w : World) (hx : Ints w A n xs) (hn : n ≤ 9223372036854775807) :
    Calls Try.prog 52 #[.slice A n c] w fun e w' => e = .returned (.int .i64 (leadI xs)) ∧ w = w' := by
  go_enter Try.func52, Try.ntmps52
  go_wp2_with (go_at_call 53; refine (idx_lead _ _ _ _ _ hx hn).mono ?_; rintro e w' ⟨rfl, rfl⟩)
  go_ret
  exact ⟨rfl, rfl⟩

theorem first_any (A : Option Addr) (n c : Nat) (xs : List Int) (w : World) (hx : Ints w A n xs) (hn : n ≤ 9223372036854775807) :
    Calls Try.prog 49 #[.slice A n c] w fun e w' => e = .returned (.int .i64 (leadI xs)) ∧ w = w' := by
  have Hl := Lib.hid hx.len
  go_enter Try.func49, Try.ntmps49
  go_wp2
  go_loop [3] (fun i => ∃ k : Nat, k ≤ n ∧ i = .int .i64 k ∧ Hid (∀ j, j < k → nth xs j = 0)) (fun i => n - (intOf i).toNat)
  case atStart => exact ⟨0, by omega, rfl, fun j hj => absurd hj (by omega)⟩
  case round =>
    obtain ⟨k, hk, rfl, hall⟩ := hrel
    by_cases hlt : k < n
    · obtain ⟨b, o, rfl, hb, hc⟩ := hx.at_ (by omega)
      have hck := hc k hlt
      obtain ⟨l1, l2⟩ := hx.ok k
      by_cases hz : nth xs k = 0
      · have hz' : (nth xs k != 0) = false := by simp [hz]
        have Hz := Lib.hid hz; clear hz
        go_wp2
        go_round
        case rel => exact ⟨k + 1, by omega, by go_num, fun j hj => if e : j = k then e ▸ Hz.out else hall.out j (by omega)⟩
        case measure => simp [intOf]; omega
      · have hz' : (nth xs k != 0) = true := by simp [hz]
        have Hz := Lib.hid (leadI_some (by have := Hl.out; omega) hall.out hz)
        clear hz
        go_wp2
        go_ret
        exact ⟨ret_int Hz.out.symm, rfl⟩
    · have Hz := Lib.hid (leadI_none (fun i hi => hall.out i (by have := Hl.out; omega)))
      go_wp2
      go_ret
      exact ⟨ret_int Hz.out.symm, rfl⟩

theorem same06_any (A B : Option Addr) (n m c d : Nat) (xs ys : List Int) (w : World) (hx : Ints w A n xs) (hy : Ints w B m ys) (hn : n ≤ 9223372036854775807) (hm : m ≤ 9223372036854775807) :
    Calls Try.prog 39 #[.slice A n c, .slice B m d] w fun e w' => e = .returned (.bool (eqI xs ys)) ∧ ∃ k, w' = w.drewN k := by
  have Hl := Lib.hid hx.len
  have Hm := Lib.hid hy.len
  by_cases hnm : n = m
  · subst hnm
    have hne : ((n : Int) != (n : Int)) = false := by simp
    go_enter Try.func39, Try.ntmps39
    go_wp2
    go_loopw [5] (fun i wr => ∃ k q : Nat, k ≤ n ∧ i = .int .i64 k ∧ Hid (∀ j, j < k → nth xs j = nth ys j) ∧ wr = w.drewN q) (fun i _ => n - (intOf i).toNat)
    case atStart => exact ⟨0, 0, by omega, rfl, (fun j hj => absurd hj (by omega)), rfl⟩
    case round =>
      obtain ⟨k, q, hk, rfl, hall, rfl⟩ := hrel
      by_cases hlt : k < n
      · obtain ⟨b, o, rfl, hb, hc⟩ := hx.at_ (by omega)
        obtain ⟨b', o', rfl, hb', hc'⟩ := hy.at_ (by omega)
        have hck := hc k hlt
        have hck' := hc' k hlt
        have hlt' : (k : Int) < (n : Int) := by omega
        by_cases hz : nth xs k = nth ys k
        · have hz' : (nth xs k != nth ys k) = false := by simp [hz]
          have Hz := Lib.hid hz; clear hz
          go_wp2
          go_quiet (fail)
          go_wp2
          go_roundw
          case rel => exact ⟨k + 1, _, by omega, by go_num, (fun j hj => if e : j = k then e ▸ Hz.out else hall.out j (by omega)), rfl⟩
          case measure => simp [intOf]; omega
        · have hz' : (nth xs k != nth ys k) = true := by simp [hz]
          have Hz := Lib.hid (eqI_no (a := xs) (b := ys) (fun e => hz (by rw [e])))
          clear hz
          go_wp2
          go_quiet (fail)
          go_wp2
          go_ret
          exact ⟨ret_bool Hz.out.symm, _, World.drewN_drewN _ _ _⟩
      · have Hz := Lib.hid (eqI_yes (list_ext (xs := xs) (ys := ys) (by rw [Hl.out, Hm.out]) (fun i hi => hall.out i (by have := Hl.out; omega))))
        go_wp2
        go_ret
        exact ⟨ret_bool Hz.out.symm, _, rfl⟩
  · have hne : ((n : Int) != (m : Int)) = true := by simp; omega
    have Hz := Lib.hid (eqI_no (a := xs) (b := ys) (fun e => hnm (by rw [← Hl.out, ← Hm.out, e])))
    go_enter Try.func39, Try.ntmps39
    go_wp2
    go_ret
    exact ⟨ret_bool Hz.out.symm, 0, rfl⟩

end Go.Proofs.Ythpkpnpkkflfpaa
