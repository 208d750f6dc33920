/- Contracts of the field's least functions: a number's rest, and whether a number is a prime.
   Contracts of the field's sums, differences, products: the program's and the document's.
   Contracts of the field's inverses, the program's: Euclid's rows.
   Contracts of the field's quotients and powers, and of the document's inverse.
   The statements' own head: the document's example holds. -/
import Derived.Test.YtpikakapflebkaaGreatRows
import Derived.Test.YtpikakapflebkaaGreatNum
import Derived.Test.YtpikakapflebkaaGreatBase
import Derived.WalkKit
import Derived.WalkSpells
import Derived.WalkLawsBesides
import Derived.Lib.Hide
namespace Go.Proofs.YtpikakapflebkaaGreat
open Go.RowKit Cl


theorem red_any (a p : Int) (w : World) (h1 : -9223372036854775808 ≤ a) (h2 : a ≤ 9223372036854775807) (h3 : -9223372036854775808 ≤ p) (h4 : p ≤ 9223372036854775807) :
    Calls Tryz.prog 64 #[.int .i64 a, .int .i64 p] w fun e w' => e = .returned (.int .i64 (red a p)) ∧ w = w' := by
  by_cases hp : p < 1
  · have hr : red a p = 0 := by unfold red; rw [if_pos hp]
    have Hr := Lib.hid hr; clear hr
    go_enter Tryz.func64, Tryz.ntmps64
    go_wp2
    go_ret
    exact ⟨ret_int Hr.out.symm, rfl⟩
  · have hp' : 1 ≤ p := by omega
    have hr := red_of_pos (a := a) hp'
    have Hr := Lib.hid hr; clear hr
    by_cases h0 : 0 ≤ a
    · have h5 := Int.emod_nonneg a (b := p) (by omega)
      go_enter Tryz.func64, Tryz.ntmps64
      go_wp2
      go_ret
      exact ⟨ret_int Hr.out.symm, rfl⟩
    · have h5 : -p < a.tmod p := by have := Int.lt_tmod_of_pos a (b := p) (by omega); omega
      have h6 : a.tmod p ≤ 0 := by
        have := Int.tmod_nonneg p (a := -a) (by omega)
        rw [Int.neg_tmod] at this; omega
      have ht : a.tmod p < 0 → a % p = a.tmod p + p := by
        intro h
        have := Int.emod_emod_of_dvd a (m := p) (k := p) (Int.dvd_refl _)
        rw [Int.tmod_eq_emod] at h ⊢
        split at h
        · have := Int.emod_nonneg a (b := p) (by omega); omega
        · rw [if_neg (by assumption)]; omega
      have ht0 : 0 ≤ a.tmod p → a % p = a.tmod p := by
        intro h
        rw [Int.tmod_eq_emod] at h ⊢
        split
        · omega
        · rename_i hc
          rw [if_neg hc] at h
          have := Int.emod_lt_of_pos a (b := p) (by omega); omega
      have Ht := Lib.hid ht; clear ht
      have Ht0 := Lib.hid ht0; clear ht0
      by_cases h7 : a.tmod p < 0
      · go_enter Tryz.func64, Tryz.ntmps64
        go_wp2
        go_ret
        exact ⟨ret_int (by rw [Hr.out, Ht.out h7]), rfl⟩
      · have h8 : 0 ≤ a.tmod p := by omega
        go_enter Tryz.func64, Tryz.ntmps64
        go_wp2
        go_ret
        exact ⟨ret_int (by rw [Hr.out, Ht0.out h8]), rfl⟩


theorem is_any (n : Int) (w : World) (h1 : -9223372036854775808 ≤ n) (h2 : n ≤ 9223372036854775807) :
    Calls Tryz.prog 63 #[.int .i64 n] w fun e w' => e = .returned (.bool (isPrime n)) ∧ w = w' := by
  by_cases hlo : 2 ≤ n
  · by_cases hhi : n ≤ 65521
    · go_enter Tryz.func63, Tryz.ntmps63
      go_wp2; go_step3; go_wp2; go_step3; go_wp2
      go_loop [3, 4] (fun u d => ∃ k : Int, 2 ≤ k ∧ k ≤ 256 ∧ k ≤ n ∧ Hid (∀ j : Int, 2 ≤ j → j < k → n % j ≠ 0) ∧ u = .bool true ∧ d = .int .i64 k) (fun _ d => (257 - intOf d).toNat)
      case atStart => exact ⟨2, by omega, by omega, by omega, (fun j hj hk => by omega), rfl, rfl⟩
      case round =>
        obtain ⟨k, hk1, hk2, hkn, hno, rfl, rfl⟩ := hrel
        have hsq : 2 * k ≤ k * k := by have := Int.mul_le_mul_of_nonneg_right hk1 (show 0 ≤ k by omega); omega
        have hsq2 : k * k ≤ 65536 := by have := Int.mul_le_mul hk2 hk2 (by omega) (by omega); omega
        by_cases hlt : k * k ≤ n
        · have hk3 : k ≤ 255 := by
            apply Int.not_lt.1
            intro h
            have := Int.mul_le_mul (show 256 ≤ k by omega) (show 256 ≤ k by omega) (by omega) (by omega); omega
          have h5 := Int.emod_nonneg n (b := k) (by omega)
          by_cases hd : n % k = 0
          · have hz : isPrime n = false := isPrime_no_of hk1 (by omega) hd
            have Hz := Lib.hid hz; clear hz
            have hd' : (n % k == 0) = true := by simp [hd]
            clear hd
            go_wp2
            try rw [Exit.noGoto_ret]
            go_ret
            exact ⟨ret_bool Hz.out.symm, rfl⟩
          · have hd' : (n % k == 0) = false := by simp [hd]
            have Hd := Lib.hid hd; clear hd
            go_wp2
            go_round
            case rel => exact ⟨k + 1, by omega, by omega, by omega, (fun j hj hk => if e : j = k then e ▸ Hd.out else hno.out j hj (by omega)), rfl, rfl⟩
            case measure => simp [intOf]; omega
        · have hz : isPrime n = true := (isPrime_iff n).2 (Pr.of_sqrt hlo hhi hk1 hno.out (by omega))
          have Hz := Lib.hid hz; clear hz
          go_wp2
          try rw [Exit.noGoto_ret]
          go_ret
          exact ⟨ret_bool Hz.out.symm, rfl⟩
    · have hz : isPrime n = false := isPrime_no (.inr (by omega))
      have Hz := Lib.hid hz; clear hz
      have hdc : decide (n ≤ 65521) = false := by simpa using hhi
      go_enter Tryz.func63, Tryz.ntmps63
      go_wp2; go_step3; go_wp2; go_step3; go_wp2
      go_loop [3, 4] (fun u d => u = .bool false ∧ d = .int .i64 2) (fun _ d => 0)
      case atStart => exact ⟨rfl, rfl⟩
      case round =>
        obtain ⟨rfl, rfl⟩ := hrel
        go_wp2
        try rw [Exit.noGoto_ret]
        go_ret
        exact ⟨ret_bool Hz.out.symm, rfl⟩
  · have hz : isPrime n = false := isPrime_no (.inl (by omega))
    have Hz := Lib.hid hz; clear hz
    have hdc : decide (2 ≤ n) = false := by simpa using hlo
    go_enter Tryz.func63, Tryz.ntmps63
    go_wp2; go_step3; go_wp2; go_step3; go_wp2
    go_loop [3, 4] (fun u d => u = .bool false ∧ d = .int .i64 2) (fun _ d => 0)
    case atStart => exact ⟨rfl, rfl⟩
    case round =>
      obtain ⟨rfl, rfl⟩ := hrel
      go_wp2
      try rw [Exit.noGoto_ret]
      go_ret
      exact ⟨ret_bool Hz.out.symm, rfl⟩

theorem rred_any (a p : Int) (w : World) (h1 : -9223372036854775808 ≤ a) (h2 : a ≤ 9223372036854775807) (h3 : -9223372036854775808 ≤ p) (h4 : p ≤ 9223372036854775807) :
    Calls Tryz.prog 51 #[.int .i64 a, .int .i64 p] w fun e w' => e = .returned (.int .i64 (red a p)) ∧ w = w' := by
  by_cases hp : p < 1
  · have hr : red a p = 0 := by unfold red; rw [if_pos hp]
    have Hr := Lib.hid hr; clear hr
    go_enter Tryz.func51, Tryz.ntmps51
    go_wp2
    go_ret
    exact ⟨ret_int Hr.out.symm, rfl⟩
  · have hp' : 1 ≤ p := by omega
    have hr := red_of_pos (a := a) hp'
    have Hr := Lib.hid hr; clear hr
    by_cases h0 : 0 ≤ a
    · have h5 := Int.emod_nonneg a (b := p) (by omega)
      go_enter Tryz.func51, Tryz.ntmps51
      go_wp2
      go_ret
      exact ⟨ret_int Hr.out.symm, rfl⟩
    · have h5 : -p < a.tmod p := by have := Int.lt_tmod_of_pos a (b := p) (by omega); omega
      have h6 : a.tmod p ≤ 0 := by
        have := Int.tmod_nonneg p (a := -a) (by omega)
        rw [Int.neg_tmod] at this; omega
      have ht : a.tmod p < 0 → a % p = a.tmod p + p := by
        intro h
        have := Int.emod_emod_of_dvd a (m := p) (k := p) (Int.dvd_refl _)
        rw [Int.tmod_eq_emod] at h ⊢
        split at h
        · have := Int.emod_nonneg a (b := p) (by omega); omega
        · rw [if_neg (by assumption)]; omega
      have ht0 : 0 ≤ a.tmod p → a % p = a.tmod p := by
        intro h
        rw [Int.tmod_eq_emod] at h ⊢
        split
        · omega
        · rename_i hc
          rw [if_neg hc] at h
          have := Int.emod_lt_of_pos a (b := p) (by omega); omega
      have Ht := Lib.hid ht; clear ht
      have Ht0 := Lib.hid ht0; clear ht0
      by_cases h7 : a.tmod p < 0
      · go_enter Tryz.func51, Tryz.ntmps51
        go_wp2
        go_ret
        exact ⟨ret_int (by rw [Hr.out, Ht.out h7]), rfl⟩
      · have h8 : 0 ≤ a.tmod p := by omega
        go_enter Tryz.func51, Tryz.ntmps51
        go_wp2
        go_ret
        exact ⟨ret_int (by rw [Hr.out, Ht0.out h8]), rfl⟩

theorem ris_any (n : Int) (w : World) (h1 : -9223372036854775808 ≤ n) (h2 : n ≤ 9223372036854775807) :
    Calls Tryz.prog 52 #[.int .i64 n] w fun e w' => e = .returned (.bool (isPrime n)) ∧ w = w' := by
  by_cases hlo : 2 ≤ n
  · by_cases hhi : n ≤ 65521
    · go_enter Tryz.func52, Tryz.ntmps52
      go_wp2
      go_loop [3] (fun d => ∃ k : Int, 2 ≤ k ∧ k ≤ 256 ∧ k ≤ n ∧ Hid (∀ j : Int, 2 ≤ j → j < k → n % j ≠ 0) ∧ d = .int .i64 k) (fun d => (257 - intOf d).toNat)
      case atStart => exact ⟨2, by omega, by omega, by omega, (fun j hj hk => by omega), rfl⟩
      case round =>
        obtain ⟨k, hk1, hk2, hkn, hno, rfl⟩ := hrel
        have hsq : 2 * k ≤ k * k := by have := Int.mul_le_mul_of_nonneg_right hk1 (show 0 ≤ k by omega); omega
        have hsq2 : k * k ≤ 65536 := by have := Int.mul_le_mul hk2 hk2 (by omega) (by omega); omega
        by_cases hlt : k * k ≤ n
        · have hk3 : k ≤ 255 := by
            apply Int.not_lt.1
            intro h
            have := Int.mul_le_mul (show 256 ≤ k by omega) (show 256 ≤ k by omega) (by omega) (by omega); omega
          have h5 := Int.emod_nonneg n (b := k) (by omega)
          by_cases hd : n % k = 0
          · have hz : isPrime n = false := isPrime_no_of hk1 (by omega) hd
            have Hz := Lib.hid hz; clear hz
            have hd' : (n % k == 0) = true := by simp [hd]
            clear hd
            go_wp2
            go_ret
            exact ⟨ret_bool Hz.out.symm, rfl⟩
          · have hd' : (n % k == 0) = false := by simp [hd]
            have Hd := Lib.hid hd; clear hd
            go_wp2
            go_round
            case rel => exact ⟨k + 1, by omega, by omega, by omega, (fun j hj hk => if e : j = k then e ▸ Hd.out else hno.out j hj (by omega)), rfl⟩
            case measure => simp [intOf]; omega
        · have hz : isPrime n = true := (isPrime_iff n).2 (Pr.of_sqrt hlo hhi hk1 hno.out (by omega))
          have Hz := Lib.hid hz; clear hz
          go_wp2
          go_ret
          exact ⟨ret_bool Hz.out.symm, rfl⟩
    · have hz : isPrime n = false := isPrime_no (.inr (by omega))
      have Hz := Lib.hid hz; clear hz
      go_enter Tryz.func52, Tryz.ntmps52
      go_wp2
      go_ret
      exact ⟨ret_bool Hz.out.symm, rfl⟩
  · have hz : isPrime n = false := isPrime_no (.inl (by omega))
    have Hz := Lib.hid hz; clear hz
    go_enter Tryz.func52, Tryz.ntmps52
    go_wp2
    go_ret
    exact ⟨ret_bool Hz.out.symm, rfl⟩

end Go.Proofs.YtpikakapflebkaaGreat

namespace Go.Proofs.YtpikakapflebkaaGreat
open Go.RowKit Cl


/-- What a modulus is told as: 0, if it is a prime that may be; else 1. -/
theorem chk_yes (p : Int) (w : World) (h1 : -9223372036854775808 ≤ p) (h2 : p ≤ 9223372036854775807) (hp : isPrime p = true) :
    Calls Tryz.prog 34 #[.int .i64 p] w fun e w' => e = .returned (.int .i64 0) ∧ w = w' := by
  go_enter Tryz.func34, Tryz.ntmps34
  go_wp2_with (go_at_call 63; refine (is_any _ _ (by omega) (by omega)).mono ?_; rintro e w' ⟨rfl, rfl⟩)
  go_ret
  exact ⟨rfl, rfl⟩
theorem chk_no (p : Int) (w : World) (h1 : -9223372036854775808 ≤ p) (h2 : p ≤ 9223372036854775807) (hp : isPrime p = false) :
    Calls Tryz.prog 34 #[.int .i64 p] w fun e w' => e = .returned (.int .i64 1) ∧ w = w' := by
  go_enter Tryz.func34, Tryz.ntmps34
  go_wp2_with (go_at_call 63; refine (is_any _ _ (by omega) (by omega)).mono ?_; rintro e w' ⟨rfl, rfl⟩)
  go_ret
  exact ⟨rfl, rfl⟩

/-- What a modulus is told as: 0, if it is a prime that may be; else 1. -/
theorem rchk_yes (p : Int) (w : World) (h1 : -9223372036854775808 ≤ p) (h2 : p ≤ 9223372036854775807) (hp : isPrime p = true) :
    Calls Tryz.prog 26 #[.int .i64 p] w fun e w' => e = .returned (.int .i64 0) ∧ w = w' := by
  go_enter Tryz.func26, Tryz.ntmps26
  go_wp2_with (go_at_call 52; refine (ris_any _ _ (by omega) (by omega)).mono ?_; rintro e w' ⟨rfl, rfl⟩)
  go_ret
  exact ⟨rfl, rfl⟩
theorem rchk_no (p : Int) (w : World) (h1 : -9223372036854775808 ≤ p) (h2 : p ≤ 9223372036854775807) (hp : isPrime p = false) :
    Calls Tryz.prog 26 #[.int .i64 p] w fun e w' => e = .returned (.int .i64 1) ∧ w = w' := by
  go_enter Tryz.func26, Tryz.ntmps26
  go_wp2_with (go_at_call 52; refine (ris_any _ _ (by omega) (by omega)).mono ?_; rintro e w' ⟨rfl, rfl⟩)
  go_ret
  exact ⟨rfl, rfl⟩

end Go.Proofs.YtpikakapflebkaaGreat

namespace Go.Proofs.YtpikakapflebkaaGreat
open Go.RowKit Cl

theorem inv_no (a p : Int) (w : World) (h5 : -9223372036854775808 ≤ p) (h6 : p ≤ 9223372036854775807) (hp : isPrime p = false) :
    Calls Tryz.prog 107 #[.int .i64 a, .int .i64 p] w fun e w' => e = .returned (.tuple #[.int .i64 0, .int .i64 1]) ∧ w = w' := by
  go_enter Tryz.func107, Tryz.ntmps107
  go_wp2
  go_step3
  go_wp2_with (go_at_call 34; refine (chk_no _ _ (by omega) (by omega) hp).mono ?_; rintro e w' ⟨rfl, rfl⟩)
  try rw [Exit.noGoto_ret]
  go_ret2
  exact ⟨rfl, rfl⟩

theorem inv_yes (a p : Int) (w : World) (h1 : -9223372036854775808 ≤ a) (h2 : a ≤ 9223372036854775807)
    (h5 : -9223372036854775808 ≤ p) (h6 : p ≤ 9223372036854775807) (hp : isPrime p = true) :
    Calls Tryz.prog 107 #[.int .i64 a, .int .i64 p] w fun e w' => e = .returned (.tuple #[.int .i64 (invm a p), .int .i64 (invE a p)]) ∧ w = w' := by
  have Hp := Lib.hid ((isPrime_iff p).1 hp)
  have hp1 : 2 ≤ p := Hp.out.two
  have hp2 : p ≤ 65521 := Hp.out.max
  have ha := red_bd a (p := p) (by omega)
  obtain ⟨ha1, ha2⟩ := ha
  go_enter Tryz.func107, Tryz.ntmps107
  go_wp2
  go_step3
  go_wp2_with (first
    | (go_at_call 34; refine (chk_yes _ _ (by omega) (by omega) hp).mono ?_; rintro e w' ⟨rfl, rfl⟩)
    | (go_at_call 64; refine (red_any _ _ _ (by omega) (by omega) (by omega) (by omega)).mono ?_; rintro e w' ⟨rfl, rfl⟩))
  go_step3
  go_wp2
  go_loop [7, 8, 9, 10] (fun c7 c8 c9 c10 => ∃ x y s t : Int, 2 ≤ x ∧ 0 ≤ y ∧ y < x ∧ x ≤ p ∧ Hid (Eu p a x y s t) ∧ c7 = .int .i64 x ∧ c8 = .int .i64 y ∧ c9 = .int .i64 s ∧ c10 = .int .i64 t) (fun _ c8 _ _ => (intOf c8).toNat)
  case atStart => exact ⟨p, red a p, 0, 1, by omega, by omega, by omega, by omega, Eu.start Hp.out, rfl, rfl, rfl, rfl⟩
  case round =>
    obtain ⟨x, y, s, t, hx2, hy0, hyx, hxp, hE, rfl, rfl, rfl, rfl⟩ := hrel
    by_cases hy1 : y = 0
    · subst hy1
      have hz := hE.out.zero Hp.out
      have hv := invm_zero Hp.out hz
      have he := invE_zero hz
      have Hv := Lib.hid hv; clear hv
      have He := Lib.hid he; clear he
      go_wp2
      try rw [Exit.noGoto_ret]
      go_ret2
      exact ⟨by rw [Hv.out, He.out]; rfl, rfl⟩
    · by_cases hy2 : y = 1
      · subst hy2
        obtain ⟨hv, hz⟩ := hE.out.one Hp.out
        have he := invE_ok hz
        have Hv := Lib.hid hv; clear hv
        have He := Lib.hid he; clear he
        have hb := hE.out.tbd (by omega)
        obtain ⟨hb1, hb2⟩ := hb
        have hy1' : ((1 : Int) == 0) = false := rfl
        go_wp2_with (go_at_call 64; refine (red_any _ _ _ (by omega) (by omega) (by omega) (by omega)).mono ?_; rintro e w' ⟨rfl, rfl⟩)
        try rw [Exit.noGoto_ret]
        go_ret2
        exact ⟨by rw [He.out, ← Hv.out]; rfl, rfl⟩
      · have hy3 : 2 ≤ y := by omega
        obtain ⟨q1, q2, q3, q4, q5, q6⟩ := hE.out.q hy3
        obtain ⟨b1, b2, b3, b4, b5, b6, b7, b8⟩ := hE.out.bd hy3
        have e1 : (y == 0) = false := by simpa using hy1
        have e2 : (y == 1) = false := by simpa using hy2
        have hn := hE.out.next hy3
        have Hn := Lib.hid hn; clear hn
        go_wp2
        go_round
        case rel => exact ⟨y, x - x / y * y, t, s - x / y * t, by omega, by omega, by omega, by omega, Hn.out, rfl, rfl, rfl, rfl⟩
        case measure => simp [intOf]; omega

end Go.Proofs.YtpikakapflebkaaGreat

namespace Go.Proofs.YtpikakapflebkaaGreat
open Go.RowKit Cl

theorem rpow_yes (a n p : Int) (w : World) (h1 : -9223372036854775808 ≤ a) (h2 : a ≤ 9223372036854775807) (hn : 0 ≤ n) (hn2 : n ≤ 9223372036854775807)
    (h5 : -9223372036854775808 ≤ p) (h6 : p ≤ 9223372036854775807) (hp : isPrime p = true) :
    Calls Tryz.prog 110 #[.int .i64 a, .int .i64 n, .int .i64 p] w fun e w' => e = .returned (.tuple #[.int .i64 (powm a n.toNat p), .int .i64 0]) ∧ w = w' := by
  have Hp := Lib.hid ((isPrime_iff p).1 hp)
  have hp1 : 2 ≤ p := Hp.out.two
  have hp2 : p ≤ 65521 := Hp.out.max
  have ha := red_bd a (p := p) (by omega)
  obtain ⟨ha1, ha2⟩ := ha
  have e1p : (1 : Int) % p = 1 := Int.emod_eq_of_lt (by omega) (by omega)
  go_enter Tryz.func110, Tryz.ntmps110
  go_wp2_with (first
    | (go_at_call 26; refine (rchk_yes _ _ (by omega) (by omega) hp).mono ?_; rintro e w' ⟨rfl, rfl⟩)
    | (go_at_call 51; refine (rred_any _ _ _ (by omega) (by omega) (by omega) (by omega)).mono ?_; rintro e w' ⟨rfl, rfl⟩))
  go_loop [8, 9, 10] (fun c8 c9 c1 => ∃ out base k : Int, 0 ≤ k ∧ k ≤ n ∧ 0 ≤ out ∧ out < p ∧ 0 ≤ base ∧ base < p ∧ Hid (Pw p a n.toNat out base k) ∧ c1 = .int .i64 k ∧ c8 = .int .i64 out ∧ c9 = .int .i64 base) (fun _ _ c1 => (intOf c1).toNat)
  case atStart => exact ⟨1, red a p, n, by omega, by omega, by omega, by omega, by omega, by omega, Pw.start Hp.out hn, rfl, rfl, rfl⟩
  case round =>
    obtain ⟨out, base, k, hk0, hkn, ho0, hop, hb0, hbp, hP, rfl, rfl, rfl⟩ := hrel
    have hm1 : 0 ≤ out * base := Int.mul_nonneg ho0 hb0
    have hm2 : out * base ≤ 65521 * 65521 := Int.mul_le_mul (by omega) (by omega) (by omega) (by omega)
    have hm3 : 0 ≤ base * base := Int.mul_nonneg hb0 hb0
    have hm4 : base * base ≤ 65521 * 65521 := Int.mul_le_mul (by omega) (by omega) (by omega) (by omega)
    by_cases hz : k = 0
    · subst hz
      have hd := hP.out.done
      have Hd := Lib.hid hd; clear hd
      go_wp2
      go_ret2
      exact ⟨ret_int2 Hd.out, rfl⟩
    · have hk1 : 1 ≤ k := by omega
      by_cases hodd : k % 2 = 1
      · have hn2' := hP.out.odd hodd
        have Hn := Lib.hid hn2'; clear hn2'
        have ho := emod_bd (out * base) (p := p) (by omega)
        have hb := emod_bd (base * base) (p := p) (by omega)
        obtain ⟨ho1, ho2⟩ := ho
        obtain ⟨hb1, hb2⟩ := hb
        have hbit : (k % 2 == 1) = true := by simpa using hodd
        clear hodd
        go_wp2
        go_round
        case rel => exact ⟨out * base % p, base * base % p, k / 2, by omega, by omega, by omega, by omega, by omega, by omega, Hn.out, rfl, rfl, rfl⟩
        case measure => simp [intOf]; omega
      · have hn2' := hP.out.even (by omega)
        have Hn := Lib.hid hn2'; clear hn2'
        have hb := emod_bd (base * base) (p := p) (by omega)
        obtain ⟨hb1, hb2⟩ := hb
        have hbit : (k % 2 == 1) = false := by simpa using hodd
        clear hodd
        go_wp2
        go_round
        case rel => exact ⟨out, base * base % p, k / 2, by omega, by omega, by omega, by omega, by omega, by omega, Hn.out, rfl, rfl, rfl⟩
        case measure => simp [intOf]; omega

theorem rpow_no (a n p : Int) (w : World) (h5 : -9223372036854775808 ≤ p) (h6 : p ≤ 9223372036854775807) (hp : isPrime p = false) :
    Calls Tryz.prog 110 #[.int .i64 a, .int .i64 n, .int .i64 p] w fun e w' => e = .returned (.tuple #[.int .i64 0, .int .i64 1]) ∧ w = w' := by
  go_enter Tryz.func110, Tryz.ntmps110
  go_wp2_with (go_at_call 26; refine (rchk_no _ _ (by omega) (by omega) hp).mono ?_; rintro e w' ⟨rfl, rfl⟩)
  go_ret2
  exact ⟨rfl, rfl⟩
theorem rpow_neg (a n p : Int) (w : World) (hn : n < 0) (h5 : -9223372036854775808 ≤ p) (h6 : p ≤ 9223372036854775807) (hp : isPrime p = true) :
    Calls Tryz.prog 110 #[.int .i64 a, .int .i64 n, .int .i64 p] w fun e w' => e = .returned (.tuple #[.int .i64 0, .int .i64 1]) ∧ w = w' := by
  go_enter Tryz.func110, Tryz.ntmps110
  go_wp2_with (go_at_call 26; refine (rchk_yes _ _ (by omega) (by omega) hp).mono ?_; rintro e w' ⟨rfl, rfl⟩)
  go_ret2
  exact ⟨rfl, rfl⟩

end Go.Proofs.YtpikakapflebkaaGreat

namespace Go.Proofs.YtpikakapflebkaaGreat
open Go.RowKit Cl

end Go.Proofs.YtpikakapflebkaaGreat
