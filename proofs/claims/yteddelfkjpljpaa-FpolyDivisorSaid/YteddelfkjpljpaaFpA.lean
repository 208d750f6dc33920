/- Contracts of the field's least functions: a number's rest, and whether a number is a prime. -/
import Derived.Test.YteddelfkjpljpaaRows
import Derived.Test.YteddelfkjpljpaaFpMath
import Derived.Test.YteddelfkjpljpaaAid
import Derived.WalkKit
import Derived.WalkSpells
import Derived.WalkLawsBesides
import Derived.Lib.Hide
namespace Go.Proofs.Yteddelfkjpljpaa
open Go.RowKit Cl


theorem red_any (a p : Int) (w : World) (h1 : -9223372036854775808 ≤ a) (h2 : a ≤ 9223372036854775807) (h3 : -9223372036854775808 ≤ p) (h4 : p ≤ 9223372036854775807) :
    Calls Try.prog 59 #[.int .i64 a, .int .i64 p] w fun e w' => e = .returned (.int .i64 (red a p)) ∧ w = w' := by
  by_cases hp : p < 1
  · have hr : red a p = 0 := by unfold red; rw [if_pos hp]
    have Hr := Lib.hid hr; clear hr
    go_enter Try.func59, Try.ntmps59
    go_wp2
    go_ret
    exact ⟨ret_int Hr.out.symm, rfl⟩
  · have hp' : 1 ≤ p := by omega
    have hr := red_of_pos (a := a) hp'
    have Hr := Lib.hid hr; clear hr
    by_cases h0 : 0 ≤ a
    · have h5 := Int.emod_nonneg a (b := p) (by omega)
      go_enter Try.func59, Try.ntmps59
      go_wp2
      go_ret
      exact ⟨ret_int Hr.out.symm, rfl⟩
    · have h5 : -p < a.tmod p := by have := Int.lt_tmod_of_pos a (b := p) (by omega); omega
      have h6 : a.tmod p ≤ 0 := by
        have := Int.tmod_nonneg p (a := -a) (by omega)
        rw [Int.neg_tmod] at this; omega
      have ht : a.tmod p < 0 → a % p = a.tmod p + p := by
        intro h
        have := Int.emod_emod_of_dvd a (m := p) (k := p) (Int.dvd_refl _)
        rw [Int.tmod_eq_emod] at h ⊢
        split at h
        · have := Int.emod_nonneg a (b := p) (by omega); omega
        · rw [if_neg (by assumption)]; omega
      have ht0 : 0 ≤ a.tmod p → a % p = a.tmod p := by
        intro h
        rw [Int.tmod_eq_emod] at h ⊢
        split
        · omega
        · rename_i hc
          rw [if_neg hc] at h
          have := Int.emod_lt_of_pos a (b := p) (by omega); omega
      have Ht := Lib.hid ht; clear ht
      have Ht0 := Lib.hid ht0; clear ht0
      by_cases h7 : a.tmod p < 0
      · go_enter Try.func59, Try.ntmps59
        go_wp2
        go_ret
        exact ⟨ret_int (by rw [Hr.out, Ht.out h7]), rfl⟩
      · have h8 : 0 ≤ a.tmod p := by omega
        go_enter Try.func59, Try.ntmps59
        go_wp2
        go_ret
        exact ⟨ret_int (by rw [Hr.out, Ht0.out h8]), rfl⟩


theorem is_any (n : Int) (w : World) (h1 : -9223372036854775808 ≤ n) (h2 : n ≤ 9223372036854775807) :
    Calls Try.prog 52 #[.int .i64 n] w fun e w' => e = .returned (.bool (isPrime n)) ∧ w = w' := by
  by_cases hlo : 2 ≤ n
  · by_cases hhi : n ≤ 65521
    · go_enter Try.func52, Try.ntmps52
      go_wp2; go_step3; go_wp2; go_step3; go_wp2
      go_loop [3, 4] (fun u d => ∃ k : Int, 2 ≤ k ∧ k ≤ 256 ∧ k ≤ n ∧ Hid (∀ j : Int, 2 ≤ j → j < k → n % j ≠ 0) ∧ u = .bool true ∧ d = .int .i64 k) (fun _ d => (257 - intOf d).toNat)
      case atStart => exact ⟨2, by omega, by omega, by omega, (fun j hj hk => by omega), rfl, rfl⟩
      case round =>
        obtain ⟨k, hk1, hk2, hkn, hno, rfl, rfl⟩ := hrel
        have hsq : 2 * k ≤ k * k := by have := Int.mul_le_mul_of_nonneg_right hk1 (show 0 ≤ k by omega); omega
        have hsq2 : k * k ≤ 65536 := by have := Int.mul_le_mul hk2 hk2 (by omega) (by omega); omega
        by_cases hlt : k * k ≤ n
        · have hk3 : k ≤ 255 := by
            apply Int.not_lt.1
            intro h
            have := Int.mul_le_mul (show 256 ≤ k by omega) (show 256 ≤ k by omega) (by omega) (by omega); omega
          have h5 := Int.emod_nonneg n (b := k) (by omega)
          by_cases hd : n % k = 0
          · have hz : isPrime n = false := isPrime_no_of hk1 (by omega) hd
            have Hz := Lib.hid hz; clear hz
            have hd' : (n % k == 0) = true := by simp [hd]
            clear hd
            go_wp2
            try rw [Exit.noGoto_ret]
            go_ret
            exact ⟨ret_bool Hz.out.symm, rfl⟩
          · have hd' : (n % k == 0) = false := by simp [hd]
            have Hd := Lib.hid hd; clear hd
            go_wp2
            go_round
            case rel => exact ⟨k + 1, by omega, by omega, by omega, (fun j hj hk => if e : j = k then e ▸ Hd.out else hno.out j hj (by omega)), rfl, rfl⟩
            case measure => simp [intOf]; omega
        · have hz : isPrime n = true := (isPrime_iff n).2 (Pr.of_sqrt hlo hhi hk1 hno.out (by omega))
          have Hz := Lib.hid hz; clear hz
          go_wp2
          try rw [Exit.noGoto_ret]
          go_ret
          exact ⟨ret_bool Hz.out.symm, rfl⟩
    · have hz : isPrime n = false := isPrime_no (.inr (by omega))
      have Hz := Lib.hid hz; clear hz
      have hdc : decide (n ≤ 65521) = false := by simpa using hhi
      go_enter Try.func52, Try.ntmps52
      go_wp2; go_step3; go_wp2; go_step3; go_wp2
      go_loop [3, 4] (fun u d => u = .bool false ∧ d = .int .i64 2) (fun _ d => 0)
      case atStart => exact ⟨rfl, rfl⟩
      case round =>
        obtain ⟨rfl, rfl⟩ := hrel
        go_wp2
        try rw [Exit.noGoto_ret]
        go_ret
        exact ⟨ret_bool Hz.out.symm, rfl⟩
  · have hz : isPrime n = false := isPrime_no (.inl (by omega))
    have Hz := Lib.hid hz; clear hz
    have hdc : decide (2 ≤ n) = false := by simpa using hlo
    go_enter Try.func52, Try.ntmps52
    go_wp2; go_step3; go_wp2; go_step3; go_wp2
    go_loop [3, 4] (fun u d => u = .bool false ∧ d = .int .i64 2) (fun _ d => 0)
    case atStart => exact ⟨rfl, rfl⟩
    case round =>
      obtain ⟨rfl, rfl⟩ := hrel
      go_wp2
      try rw [Exit.noGoto_ret]
      go_ret
      exact ⟨ret_bool Hz.out.symm, rfl⟩

theorem rred_any (a p : Int) (w : World) (h1 : -9223372036854775808 ≤ a) (h2 : a ≤ 9223372036854775807) (h3 : -9223372036854775808 ≤ p) (h4 : p ≤ 9223372036854775807) :
    Calls Try.prog 60 #[.int .i64 a, .int .i64 p] w fun e w' => e = .returned (.int .i64 (red a p)) ∧ w = w' := by
  by_cases hp : p < 1
  · have hr : red a p = 0 := by unfold red; rw [if_pos hp]
    have Hr := Lib.hid hr; clear hr
    go_enter Try.func60, Try.ntmps60
    go_wp2
    go_ret
    exact ⟨ret_int Hr.out.symm, rfl⟩
  · have hp' : 1 ≤ p := by omega
    have hr := red_of_pos (a := a) hp'
    have Hr := Lib.hid hr; clear hr
    by_cases h0 : 0 ≤ a
    · have h5 := Int.emod_nonneg a (b := p) (by omega)
      go_enter Try.func60, Try.ntmps60
      go_wp2
      go_ret
      exact ⟨ret_int Hr.out.symm, rfl⟩
    · have h5 : -p < a.tmod p := by have := Int.lt_tmod_of_pos a (b := p) (by omega); omega
      have h6 : a.tmod p ≤ 0 := by
        have := Int.tmod_nonneg p (a := -a) (by omega)
        rw [Int.neg_tmod] at this; omega
      have ht : a.tmod p < 0 → a % p = a.tmod p + p := by
        intro h
        have := Int.emod_emod_of_dvd a (m := p) (k := p) (Int.dvd_refl _)
        rw [Int.tmod_eq_emod] at h ⊢
        split at h
        · have := Int.emod_nonneg a (b := p) (by omega); omega
        · rw [if_neg (by assumption)]; omega
      have ht0 : 0 ≤ a.tmod p → a % p = a.tmod p := by
        intro h
        rw [Int.tmod_eq_emod] at h ⊢
        split
        · omega
        · rename_i hc
          rw [if_neg hc] at h
          have := Int.emod_lt_of_pos a (b := p) (by omega); omega
      have Ht := Lib.hid ht; clear ht
      have Ht0 := Lib.hid ht0; clear ht0
      by_cases h7 : a.tmod p < 0
      · go_enter Try.func60, Try.ntmps60
        go_wp2
        go_ret
        exact ⟨ret_int (by rw [Hr.out, Ht.out h7]), rfl⟩
      · have h8 : 0 ≤ a.tmod p := by omega
        go_enter Try.func60, Try.ntmps60
        go_wp2
        go_ret
        exact ⟨ret_int (by rw [Hr.out, Ht0.out h8]), rfl⟩

theorem ris_any (n : Int) (w : World) (h1 : -9223372036854775808 ≤ n) (h2 : n ≤ 9223372036854775807) :
    Calls Try.prog 66 #[.int .i64 n] w fun e w' => e = .returned (.bool (isPrime n)) ∧ w = w' := by
  by_cases hlo : 2 ≤ n
  · by_cases hhi : n ≤ 65521
    · go_enter Try.func66, Try.ntmps66
      go_wp2
      go_loop [3] (fun d => ∃ k : Int, 2 ≤ k ∧ k ≤ 256 ∧ k ≤ n ∧ Hid (∀ j : Int, 2 ≤ j → j < k → n % j ≠ 0) ∧ d = .int .i64 k) (fun d => (257 - intOf d).toNat)
      case atStart => exact ⟨2, by omega, by omega, by omega, (fun j hj hk => by omega), rfl⟩
      case round =>
        obtain ⟨k, hk1, hk2, hkn, hno, rfl⟩ := hrel
        have hsq : 2 * k ≤ k * k := by have := Int.mul_le_mul_of_nonneg_right hk1 (show 0 ≤ k by omega); omega
        have hsq2 : k * k ≤ 65536 := by have := Int.mul_le_mul hk2 hk2 (by omega) (by omega); omega
        by_cases hlt : k * k ≤ n
        · have hk3 : k ≤ 255 := by
            apply Int.not_lt.1
            intro h
            have := Int.mul_le_mul (show 256 ≤ k by omega) (show 256 ≤ k by omega) (by omega) (by omega); omega
          have h5 := Int.emod_nonneg n (b := k) (by omega)
          by_cases hd : n % k = 0
          · have hz : isPrime n = false := isPrime_no_of hk1 (by omega) hd
            have Hz := Lib.hid hz; clear hz
            have hd' : (n % k == 0) = true := by simp [hd]
            clear hd
            go_wp2
            go_ret
            exact ⟨ret_bool Hz.out.symm, rfl⟩
          · have hd' : (n % k == 0) = false := by simp [hd]
            have Hd := Lib.hid hd; clear hd
            go_wp2
            go_round
            case rel => exact ⟨k + 1, by omega, by omega, by omega, (fun j hj hk => if e : j = k then e ▸ Hd.out else hno.out j hj (by omega)), rfl⟩
            case measure => simp [intOf]; omega
        · have hz : isPrime n = true := (isPrime_iff n).2 (Pr.of_sqrt hlo hhi hk1 hno.out (by omega))
          have Hz := Lib.hid hz; clear hz
          go_wp2
          go_ret
          exact ⟨ret_bool Hz.out.symm, rfl⟩
    · have hz : isPrime n = false := isPrime_no (.inr (by omega))
      have Hz := Lib.hid hz; clear hz
      go_enter Try.func66, Try.ntmps66
      go_wp2
      go_ret
      exact ⟨ret_bool Hz.out.symm, rfl⟩
  · have hz : isPrime n = false := isPrime_no (.inl (by omega))
    have Hz := Lib.hid hz; clear hz
    go_enter Try.func66, Try.ntmps66
    go_wp2
    go_ret
    exact ⟨ret_bool Hz.out.symm, rfl⟩

end Go.Proofs.Yteddelfkjpljpaa
