/- Contracts: are matrices the same? -/
import Derived.Test.YthpkpnpkkflfpaaFlinK
namespace Go.Proofs.Ythpkpnpkkflfpaa
open Go.RowKit Cl

theorem rAt_of_eq {a b : List (List Int)} {i : Nat} (h : rAt a i ≠ rAt b i) : a ≠ b := fun e => h (by rw [e])

set_option maxRecDepth 100000 in
set_option maxHeartbeats 4000000 in
theorem rsame_any (A B : Option Addr) (n m c d : Nat) (xs ys : List (List Int)) (w : World) (hx : Mat w A n xs) (hy : Mat w B m ys) (hs : ∀ i, (rAt ys i).length ≤ 9223372036854775807) :
    Calls Try.prog 34 #[.slice A n c, .slice B m d] w fun e w' => e = .returned (.bool (eqR xs ys)) ∧ ∃ k, w' = w.drewN k := by
  have Hl := Lib.hid hx.len
  have Hm := Lib.hid hy.len
  have hsn := hx.small
  have hsm := hy.small
  by_cases hnm : n = m
  · subst hnm
    have hne : ((n : Int) != (n : Int)) = false := by simp
    go_enter Try.func34, Try.ntmps34
    go_wp2
    go_loopw [5] (fun i wr => ∃ k q : Nat, k ≤ n ∧ i = .int .i64 k ∧ Hid (∀ j, j < k → rAt xs j = rAt ys j) ∧ wr = w.drewN q) (fun i _ => n - (intOf i).toNat)
    case atStart => exact ⟨0, 0, by omega, rfl, (fun j hj => absurd hj (by omega)), rfl⟩
    case round =>
      obtain ⟨k, q, hk, rfl, hall, rfl⟩ := hrel
      by_cases hlt : k < n
      · obtain ⟨b, o, rfl, hb, hc⟩ := hx.at_ (by omega)
        obtain ⟨b', o', rfl, hb', hc'⟩ := hy.at_ (by omega)
        obtain ⟨Ak, ck, hck, hik⟩ := hc k hlt
        obtain ⟨Bk, dk, hck', hik'⟩ := hc' k hlt
        have hlt' : (k : Int) < (n : Int) := by omega
        have hsk := hs k
        by_cases hz : (rAt xs k).length = (rAt ys k).length
        · have hz' : (((rAt xs k).length : Int) != ((rAt ys k).length : Int)) = false := by simp [hz]
          have Hz := Lib.hid hz
          generalize hN : (rAt ys k).length = N at hsk hck' hik' hz' Hz hz
          rw [hz] at hck hik hz'
          have HN := Lib.hid hN
          clear hz hN hc hc'
          go_wp2
          go_quiet (fail)
          go_wp2
          go_loopw [6] (fun i wr => ∃ k2 q2 : Nat, k2 ≤ N ∧ i = .int .i64 k2 ∧ Hid (∀ j, j < k2 → nth (rAt xs k) j = nth (rAt ys k) j) ∧ wr = w.drewN q2) (fun i _ => N - (intOf i).toNat)
          case atStart => exact ⟨0, _, by omega, rfl, (fun j hj => absurd hj (by omega)), by first | rfl | exact World.drewN_drewN _ _ _⟩
          case round =>
            obtain ⟨k2, q2, hk2, rfl, hall2, rfl⟩ := hrel
            by_cases hlt2 : k2 < N
            · obtain ⟨b1, o1, rfl, hb1, hc1⟩ := hik.at_ (by omega)
              obtain ⟨b2, o2, rfl, hb2, hc2⟩ := hik'.at_ (by omega)
              have hck1 := hc1 k2 hlt2
              have hck2 := hc2 k2 hlt2
              have hlt2' : (k2 : Int) < (N : Int) := by omega
              by_cases hy2 : nth (rAt xs k) k2 = nth (rAt ys k) k2
              · have hy2' : (nth (rAt xs k) k2 != nth (rAt ys k) k2) = false := by simp [hy2]
                have Hy := Lib.hid hy2; clear hy2
                go_wp2
                go_quiet (fail)
                go_wp2
                go_roundw
                case rel => exact ⟨k2 + 1, _, by omega, by go_num, (fun j hj => if e : j = k2 then e ▸ Hy.out else hall2.out j (by omega)), by first | rfl | exact World.drewN_drewN _ _ _⟩
                case measure => simp [intOf]; omega
              · have hy2' : (nth (rAt xs k) k2 != nth (rAt ys k) k2) = true := by simp [hy2]
                have Hy := Lib.hid (eqR_no (a := xs) (b := ys) (rAt_of_eq (i := k) (fun e => hy2 (by rw [e]))))
                clear hy2
                go_wp2
                go_quiet (fail)
                go_wp2
                go_ret
                exact ⟨ret_bool Hy.out.symm, _, by first | rfl | exact World.drewN_drewN _ _ _⟩
            · have Hy : Hid (rAt xs k = rAt ys k) := list_ext (by rw [Hz.out, HN.out]) (fun i hi => hall2.out i (by have := Hz.out; omega))
              go_wp2
              go_roundw
              case rel => exact ⟨k + 1, _, by omega, by go_num, (fun j hj => if e : j = k then e ▸ Hy.out else hall.out j (by omega)), rfl⟩
              case measure => simp [intOf]; omega
        · have hz' : (((rAt xs k).length : Int) != ((rAt ys k).length : Int)) = true := by simp; omega
          have Hz := Lib.hid (eqR_no (a := xs) (b := ys) (rAt_of_eq (i := k) (fun e => hz (by rw [e]))))
          clear hz hc hc'
          go_wp2
          go_quiet (fail)
          go_wp2
          go_ret
          exact ⟨ret_bool Hz.out.symm, _, by first | rfl | exact World.drewN_drewN _ _ _⟩
      · have Hz := Lib.hid (eqR_yes (rows_ext (a := xs) (b := ys) (by rw [Hl.out, Hm.out]) (fun i hi => hall.out i (by have := Hl.out; omega))))
        go_wp2
        go_ret
        exact ⟨ret_bool Hz.out.symm, _, rfl⟩
  · have hne : ((n : Int) != (m : Int)) = true := by simp; omega
    have Hz := Lib.hid (eqR_no (a := xs) (b := ys) (fun e => hnm (by rw [← Hl.out, ← Hm.out, e])))
    go_enter Try.func34, Try.ntmps34
    go_wp2
    go_ret
    exact ⟨ret_bool Hz.out.symm, 0, rfl⟩

end Go.Proofs.Ythpkpnpkkflfpaa
