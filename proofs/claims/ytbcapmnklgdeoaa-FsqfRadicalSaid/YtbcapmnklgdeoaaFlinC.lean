/- Contracts: a row's first residue that is not 0; are lists the same? -/
import Derived.Test.YtbcapmnklgdeoaaFlinB
namespace Go.Proofs.Ytbcapmnklgdeoaa
open Go.RowKit Cl

theorem same06_any (A B : Option Addr) (n m c d : Nat) (xs ys : List Int) (w : World) (hx : Ints w A n xs) (hy : Ints w B m ys) (hn : n ≤ 9223372036854775807) (hm : m ≤ 9223372036854775807) :
    Calls Try.prog 12 #[.slice A n c, .slice B m d] w fun e w' => e = .returned (.bool (eqI xs ys)) ∧ ∃ k, w' = w.drewN k := by
  have Hl := Lib.hid hx.len
  have Hm := Lib.hid hy.len
  by_cases hnm : n = m
  · subst hnm
    have hne : ((n : Int) != (n : Int)) = false := by simp
    go_enter Try.func12, Try.ntmps12
    go_wp2
    go_loopw [5] (fun i wr => ∃ k q : Nat, k ≤ n ∧ i = .int .i64 k ∧ Hid (∀ j, j < k → nth xs j = nth ys j) ∧ wr = w.drewN q) (fun i _ => n - (intOf i).toNat)
    case atStart => exact ⟨0, 0, by omega, rfl, (fun j hj => absurd hj (by omega)), rfl⟩
    case round =>
      obtain ⟨k, q, hk, rfl, hall, rfl⟩ := hrel
      by_cases hlt : k < n
      · obtain ⟨b, o, rfl, hb, hc⟩ := hx.at_ (by omega)
        obtain ⟨b', o', rfl, hb', hc'⟩ := hy.at_ (by omega)
        have hck := hc k hlt
        have hck' := hc' k hlt
        have hlt' : (k : Int) < (n : Int) := by omega
        by_cases hz : nth xs k = nth ys k
        · have hz' : (nth xs k != nth ys k) = false := by simp [hz]
          have Hz := Lib.hid hz; clear hz
          go_wp2
          go_quiet (fail)
          go_wp2
          go_roundw
          case rel => exact ⟨k + 1, _, by omega, by go_num, (fun j hj => if e : j = k then e ▸ Hz.out else hall.out j (by omega)), rfl⟩
          case measure => simp [intOf]; omega
        · have hz' : (nth xs k != nth ys k) = true := by simp [hz]
          have Hz := Lib.hid (eqI_no (a := xs) (b := ys) (fun e => hz (by rw [e])))
          clear hz
          go_wp2
          go_quiet (fail)
          go_wp2
          go_ret
          exact ⟨ret_bool Hz.out.symm, _, World.drewN_drewN _ _ _⟩
      · have Hz := Lib.hid (eqI_yes (list_ext (xs := xs) (ys := ys) (by rw [Hl.out, Hm.out]) (fun i hi => hall.out i (by have := Hl.out; omega))))
        go_wp2
        go_ret
        exact ⟨ret_bool Hz.out.symm, _, rfl⟩
  · have hne : ((n : Int) != (m : Int)) = true := by simp; omega
    have Hz := Lib.hid (eqI_no (a := xs) (b := ys) (fun e => hnm (by rw [← Hl.out, ← Hm.out, e])))
    go_enter Try.func12, Try.ntmps12
    go_wp2
    go_ret
    exact ⟨ret_bool Hz.out.symm, 0, rfl⟩

end Go.Proofs.Ytbcapmnklgdeoaa
