/- Contracts: is it a matrix? The program's and the document's. -/
import Derived.Test.YthpkpnpkkflfpaaFlinA
import Derived.Test.YthpkpnpkkflfpaaFlinMath
import Derived.BigQuiet
import Derived.Deep.QuietTactic
namespace Go.Proofs.Ythpkpnpkkflfpaa
open Go.RowKit Cl

theorem right_any (A : Option Addr) (n c : Nat) (rows : List (List Int)) (p : Int) (w : World) (hx : Mat w A n rows) (h3 : -9223372036854775808 ≤ p) (h4 : p ≤ 9223372036854775807) :
    Calls Try.prog 42 #[.slice A n c, .int .i64 p] w fun e w' => e = .returned (.int .i64 (matE rows p)) ∧ w = w' := by
  have hlen := hx.len
  have hsm := hx.small
  have Hl := Lib.hid hlen
  cases hp : isPrime p with
  | false =>
    have Hm := Lib.hid (matE_no (matOk_no_prime (rows := rows) hp))
    go_enter Try.func42, Try.ntmps42
    go_wp2_with (go_at_call 18; refine (chk_no _ _ (by omega) (by omega) hp).mono ?_; rintro e w' ⟨rfl, rfl⟩)
    go_ret
    exact ⟨ret_int Hm.out.symm, rfl⟩
  | true =>
    by_cases hn : 64 < n
    · have Hm := Lib.hid (matE_no (matOk_no_many (rows := rows) (p := p) (by omega)))
      have hn' : decide ((64 : Int) < (n : Int)) = true := decide_eq_true (by omega)
      clear hlen
      go_enter Try.func42, Try.ntmps42
      go_wp2_with (go_at_call 18; refine (chk_yes _ _ (by omega) (by omega) hp).mono ?_; rintro e w' ⟨rfl, rfl⟩)
      go_ret
      exact ⟨ret_int Hm.out.symm, rfl⟩
    · have hn' : decide ((64 : Int) < (n : Int)) = false := decide_eq_false (by omega)
      clear hlen
      go_enter Try.func42, Try.ntmps42
      go_wp2_with (go_at_call 18; refine (chk_yes _ _ (by omega) (by omega) hp).mono ?_; rintro e w' ⟨rfl, rfl⟩)
      go_loop [19] (fun i => ∃ k : Nat, k ≤ n ∧ i = .int .i64 k ∧ Hid (∀ j, j < k → (rAt rows j).length ≤ 64 ∧ (rAt rows j).length = (rAt rows 0).length)) (fun i => n - (intOf i).toNat)
      case atStart => exact ⟨0, by omega, rfl, fun j hj => absurd hj (by omega)⟩
      case round =>
        obtain ⟨k, hk, rfl, hall⟩ := hrel
        by_cases hlt : k < n
        · obtain ⟨b, o, rfl, hb, hc⟩ := hx.at_ (by omega)
          obtain ⟨Ak, ck, hck, hik⟩ := hc k hlt
          obtain ⟨A0, c0, hc0, hi0⟩ := hc 0 (by omega)
          rw [Nat.add_zero] at hc0
          have hpos : (0 : Int) < (n : Int) := by omega
          by_cases h64 : (rAt rows k).length ≤ 64
          · have hd1 : decide ((64 : Int) < ((rAt rows k).length : Int)) = false := decide_eq_false (by omega)
            by_cases heq : (rAt rows k).length = (rAt rows 0).length
            · have hd2 : (((rAt rows k).length : Int) != ((rAt rows 0).length : Int)) = false := by simp [heq]
              have Heq := Lib.hid heq; clear heq
              go_wp2
              go_round
              case rel => exact ⟨k + 1, by omega, by go_num, fun j hj => if e : j = k then e ▸ ⟨h64, Heq.out⟩ else hall.out j (by omega)⟩
              case measure => simp [intOf]; omega
            · have hd2 : (((rAt rows k).length : Int) != ((rAt rows 0).length : Int)) = true := by simp; omega
              have Hm := Lib.hid (matE_no (matOk_no_row (rows := rows) (p := p) (i := k) (by have := Hl.out; omega) (fun h => heq h.2)))
              clear heq
              go_wp2
              go_ret
              exact ⟨ret_int Hm.out.symm, rfl⟩
          · have hd1 : decide ((64 : Int) < ((rAt rows k).length : Int)) = true := decide_eq_true (by omega)
            have Hm := Lib.hid (matE_no (matOk_no_row (rows := rows) (p := p) (i := k) (by have := Hl.out; omega) (fun h => h64 h.1)))
            go_wp2
            go_ret
            exact ⟨ret_int Hm.out.symm, rfl⟩
        · have Hm : Hid (matE rows p = 0) := matE_yes (matOk_iff.2 ⟨hp, by have := Hl.out; omega, fun i hi => hall.out i (by have := Hl.out; omega)⟩)
          go_wp2
          go_ret
          exact ⟨ret_int Hm.out.symm, rfl⟩

theorem rright_any (A : Option Addr) (n c : Nat) (rows : List (List Int)) (p : Int) (w : World) (hx : Mat w A n rows) (h3 : -9223372036854775808 ≤ p) (h4 : p ≤ 9223372036854775807) :
    Calls Try.prog 47 #[.slice A n c, .int .i64 p] w fun e w' => e = .returned (.bool (matOk rows p)) ∧ ∃ k, w' = w.drewN k := by
  have hlen := hx.len
  have hsm := hx.small
  have Hl := Lib.hid hlen
  cases hp : isPrime p with
  | false =>
    have Hm := Lib.hid (matOk_no_prime (rows := rows) hp)
    go_enter Try.func47, Try.ntmps47
    go_wp2_with (go_at_call 30; refine (rchk_no _ _ (by omega) (by omega) hp).mono ?_; rintro e w' ⟨rfl, rfl⟩)
    go_ret
    exact ⟨ret_bool Hm.out.symm, 0, rfl⟩
  | true =>
    by_cases hn : 64 < n
    · have Hm := Lib.hid (matOk_no_many (rows := rows) (p := p) (by omega))
      have hn' : decide ((64 : Int) < (n : Int)) = true := decide_eq_true (by omega)
      clear hlen
      go_enter Try.func47, Try.ntmps47
      go_wp2_with (go_at_call 30; refine (rchk_yes _ _ (by omega) (by omega) hp).mono ?_; rintro e w' ⟨rfl, rfl⟩)
      go_ret
      exact ⟨ret_bool Hm.out.symm, 0, rfl⟩
    · have hn' : decide ((64 : Int) < (n : Int)) = false := decide_eq_false (by omega)
      clear hlen
      go_enter Try.func47, Try.ntmps47
      go_wp2_with (go_at_call 30; refine (rchk_yes _ _ (by omega) (by omega) hp).mono ?_; rintro e w' ⟨rfl, rfl⟩)
      go_loopw [5] (fun i wr => ∃ k m : Nat, k ≤ n ∧ i = .int .i64 k ∧ Hid (∀ j, j < k → (rAt rows j).length ≤ 64 ∧ (rAt rows j).length = (rAt rows 0).length) ∧ wr = w.drewN m) (fun i _ => n - (intOf i).toNat)
      case atStart => exact ⟨0, 0, by omega, rfl, (fun j hj => absurd hj (by omega)), rfl⟩
      case round =>
        obtain ⟨k, m, hk, rfl, hall, rfl⟩ := hrel
        by_cases hlt : k < n
        · obtain ⟨b, o, rfl, hb, hc⟩ := hx.at_ (by omega)
          obtain ⟨Ak, ck, hck, hik⟩ := hc k hlt
          obtain ⟨A0, c0, hc0, hi0⟩ := hc 0 (by omega)
          rw [Nat.add_zero] at hc0
          have hpos : (0 : Int) < (n : Int) := by omega
          by_cases h64 : (rAt rows k).length ≤ 64
          · have hd1 : decide ((64 : Int) < ((rAt rows k).length : Int)) = false := decide_eq_false (by omega)
            by_cases heq : (rAt rows k).length = (rAt rows 0).length
            · have hd2 : (((rAt rows k).length : Int) != ((rAt rows 0).length : Int)) = false := by simp [heq]
              have Heq := Lib.hid heq; clear heq
              go_wp2
              go_quiet (fail)
              go_wp2
              go_roundw
              case rel => exact ⟨k + 1, _, by omega, by go_num, (fun j hj => if e : j = k then e ▸ ⟨h64, Heq.out⟩ else hall.out j (by omega)), rfl⟩
              case measure => simp [intOf]; omega
            · have hd2 : (((rAt rows k).length : Int) != ((rAt rows 0).length : Int)) = true := by simp; omega
              have Hm := Lib.hid (matOk_no_row (rows := rows) (p := p) (i := k) (by have := Hl.out; omega) (fun h => heq h.2))
              clear heq
              go_wp2
              go_quiet (fail)
              go_wp2
              go_ret
              exact ⟨ret_bool Hm.out.symm, _, by first | rfl | exact World.drewN_drewN _ _ _⟩
          · have hd1 : decide ((64 : Int) < ((rAt rows k).length : Int)) = true := decide_eq_true (by omega)
            have Hm := Lib.hid (matOk_no_row (rows := rows) (p := p) (i := k) (by have := Hl.out; omega) (fun h => h64 h.1))
            go_wp2
            go_quiet (fail)
            go_wp2
            go_ret
            exact ⟨ret_bool Hm.out.symm, _, by first | rfl | exact World.drewN_drewN _ _ _⟩
        · have Hm : Hid (matOk rows p = true) := matOk_iff.2 ⟨hp, by have := Hl.out; omega, fun i hi => hall.out i (by have := Hl.out; omega)⟩
          go_wp2
          go_ret
          exact ⟨ret_bool Hm.out.symm, _, by first | rfl | exact World.drewN_drewN _ _ _⟩

end Go.Proofs.Ythpkpnpkkflfpaa
