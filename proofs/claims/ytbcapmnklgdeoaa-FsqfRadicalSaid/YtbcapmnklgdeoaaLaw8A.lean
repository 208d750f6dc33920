/- Layer 8's laws: parts as the document's; equal parts are the same. -/
import Derived.Test.YtbcapmnklgdeoaaQsfD
import Derived.Test.YtbcapmnklgdeoaaFlinD
namespace Go.Proofs.Ytbcapmnklgdeoaa
open Go.RowKit Cl
attribute [local go_sem ↓] Go.wp_at_zero Go.wp_at_succ

theorem same06_true (A B : Option Addr) (n c d : Nat) (xs : List Int) (w : World) (hx : Ints w A n xs) (hy : Ints w B n xs) (hn : n ≤ 9223372036854775807) :
    Calls Try.prog 12 #[.slice A n c, .slice B n d] w fun e w' => e = .returned (.bool true) ∧ ∃ k, w' = w.drewN k := by
  refine (same06_any A B n n c d xs xs w hx hy hn hn).mono ?_
  rintro e w' ⟨rfl, k, rfl⟩
  exact ⟨ret_bool (eqI_yes rfl), k, rfl⟩
section
variable {q : Prm}
set_option maxRecDepth 100000 in
set_option maxHeartbeats 4000000 in
theorem same8 (A B : Option Addr) (n c d : Nat) (L : List (Poly (Zp q) × Nat)) (w : World) (hx : Prs w A n L) (hy : Prs w B n L) (hn : n ≤ 100000000) (hl : ∀ i (h : i < L.length), (L[i]).1.len ≤ 900000000 ∧ (L[i]).2 ≤ 900000000) :
    Calls Try.prog 18 #[.slice A n c, .slice B n d] w fun e w' => e = .returned (.bool true) ∧ ∃ k, w' = w.drewN k := by
  have hne : ((n : Int) != (n : Int)) = false := by simp
  have hL := Lib.hid hx.len
  go_enter Try.func18, Try.ntmps18
  go_wp2
  go_loopw [5] (fun i wr => ∃ k m : Nat, k ≤ n ∧ i = .int .i64 k ∧ wr = w.drewN m) (fun i _ => n - (intOf i).toNat)
  case atStart => exact ⟨0, 0, by omega, rfl, rfl⟩
  case round =>
    obtain ⟨k, m, hk, rfl, rfl⟩ := hrel
    by_cases hlt : k < n
    · obtain ⟨b, o, rfl, hb, hc⟩ := hx.at_ (by omega)
      obtain ⟨b', o', rfl, hb', hc'⟩ := hy.at_ (by omega)
      have hkl : k < L.length := by rw [hL.out]; exact hlt
      obtain ⟨Ai, ci, e1, e2, e3⟩ := hc k hkl
      obtain ⟨Bi, di, g1, g2, g3⟩ := hc' k hkl
      obtain ⟨hl1, hl2⟩ := hl k hkl
      clear hc hc'
      generalize L[k] = x at *
      obtain ⟨P, kk⟩ := x
      simp only at e1 e2 e3 g1 g2 g3 hl1 hl2
      rw [Nat.mul_comm 2 k] at e1 e2 g1 g2
      rw [← Nat.add_assoc] at e2 g2
      have hz : ((kk : Int) != (kk : Int)) = false := by simp
      have hlt' : (k : Int) < (n : Int) := by omega
      have E3 := Lib.hid e3
      have G3 := Lib.hid g3
      clear e3 g3
      go_wp2
      go_quiet ((go_at_call 12; first | exact quiet_add_ex (same06_true _ _ _ _ _ _ _ (E3.out.drewN _) (G3.out.drewN _) (by omega)) | exact quiet_ex (same06_true _ _ _ _ _ _ _ (E3.out.drewN _) (G3.out.drewN _) (by omega))))
      go_wp2
      go_roundw
      case rel => exact ⟨k + 1, _, by omega, by go_num, by first | rfl | exact World.drewN_drewN _ _ _⟩
      case measure => simp [intOf]; omega
    · go_wp2
      go_ret
      exact ⟨rfl, m, rfl⟩
end
end Go.Proofs.Ytbcapmnklgdeoaa
