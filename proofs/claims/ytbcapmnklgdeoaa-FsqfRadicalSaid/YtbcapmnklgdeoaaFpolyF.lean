/- Contracts: derivatives and values: the program's. -/
import Derived.Test.YtbcapmnklgdeoaaFpolyE
import Derived.Test.YtbcapmnklgdeoaaPolyB
namespace Go.Proofs.Ytbcapmnklgdeoaa
open Go.RowKit Cl
attribute [local go_sem ↓] Go.wp_at_zero Go.wp_at_succ

noncomputable def derF {q : Prm} (P : Poly (Zp q)) (i : Nat) : Int := ((i : Int) + 1) % q.p * nth (fromP P) (i + 1)
theorem toP_der {q : Prm} (P : Poly (Zp q)) : toP q (tab (P.len - 1) (derF P)) = P.D := Poly.ext fun i => by
  rw [co_toP, nth_tab, Poly.co_D, Poly.nsmul_zp]
  split
  · next h =>
    unfold derF
    rw [Zp.of_mul, nth_fromP, Zp.of_val]
    congr 1
    exact Zp.of_cg (Cg.emod_left _ _)
  · next h => rw [Poly.len_sh P (i + 1) (by omega), CRing.mul_zero]; rfl
theorem derF_bd {q : Prm} (P : Poly (Zp q)) (i : Nat) : 0 ≤ derF P i ∧ derF P i ≤ 65521 * 65521 := by
  have h1 := emod_bd ((i : Int) + 1) (p := q.p) (by have := q.pr.two; omega)
  have h2 := fromP_lt P (i + 1)
  have h3 := q.pr.max
  unfold derF
  exact ⟨Int.mul_nonneg h1.1 h2.1, Int.mul_le_mul (by omega) (by omega) h2.1 (by omega)⟩

set_option maxRecDepth 100000 in
theorem pderiv_yes (A : Option Addr) (n c : Nat) (xs : List Int) (p : Int) (w : World) (hp : Pr p) (hx : Ints w A n xs) (hn : n * 8 ≤ 140737488355320) :
    Calls Try.prog 20 #[.slice A n c, .int .i64 p] w (GivesPE w (toP ⟨p, hp⟩ xs).D 0) := by
  obtain ⟨i0, hi, hz0, hz1, hz2⟩ := info_parts int_info
  have hp1 := hp.two
  have hp2 := hp.max
  have hp0 : ¬ p = 0 := by omega
  have hppos : 0 < p := by omega
  have Ca := Lib.hid (pplain_any A n c xs p w hp hx (by omega))
  have hla : (toP ⟨p, hp⟩ xs).len ≤ n := len_le_toP hx.len
  generalize toP ⟨p, hp⟩ xs = P at *
  go_enter Try.func20, Try.ntmps20
  go_wp2_with fail
  refine (chk_yes _ _ (by omega) (by omega) ((isPrime_iff p).2 hp)).mono ?_
  rintro e w' ⟨rfl, rfl⟩
  go_wp2_with fail
  refine Ca.out.mono ?_
  rintro e w1 ⟨A1, c1, rfl, hn1⟩
  have hrd := hn1.rd
  have hb1 := hn1.bel
  clear hn1
  generalize hL : P.len = L at *
  have HL := Lib.hid hL
  clear hL
  go_wp2_with fail
  go_loopw [7, 19] (fun v i wr => ∃ k : Nat, k ≤ L ∧ i = .int .i64 k ∧ wr.ownsRow w1.heap.size 3 1 v (k - 1) (ints (tab (k - 1) (derF P))) ∧ Below w1.heap.size w1 wr) (fun _ i _ => L - (intOf i).toNat)
  case atStart => exact ⟨0, by omega, rfl, World.ownsRow_nil _ _ _ _, Below.refl _ _⟩
  case round =>
    obtain ⟨k, hk, rfl, hown, hbel⟩ := hrel
    by_cases hlt : k < L
    · obtain ⟨b, o, rfl, hb, hc⟩ := hrd.at_ (by omega)
      cases k with
      | zero =>
        have hcx : wr.cell? ⟨b, o, none⟩ = some (.int .i64 (nth (fromP P) 0)) := (hbel.cell (p := ⟨b, o, none⟩) hb).trans (hc 0 hlt)
        rw [show ((0 : Nat) : Int) = 0 from rfl]
        clear hc
        go_wp2
        go_roundw
        case rel => exact ⟨1, by omega, by go_num, hown, hbel⟩
        case measure => simp [intOf]; omega
      | succ j =>
        have hcx : wr.cell? ⟨b, o + (j + 1), none⟩ = some (.int .i64 (nth (fromP P) (j + 1))) := (hbel.cell (p := ⟨b, o + (j + 1), none⟩) hb).trans (hc (j + 1) hlt)
        have hd := derF_bd P j
        have Hd : Hid (((j : Int) + 1) % p * nth (fromP P) (j + 1) = derF P j) := rfl
        have h1 := emod_bd ((j : Int) + 1) (p := p) (by omega)
        obtain ⟨h2, h3⟩ := fromP_lt P (j + 1)
        have h3' : nth (fromP P) (j + 1) < p := h3
        have m1 : 0 ≤ ((j : Int) + 1) % p * nth (fromP P) (j + 1) := Int.mul_nonneg h1.1 h2
        have m2 : ((j : Int) + 1) % p * nth (fromP P) (j + 1) ≤ 65521 * 65521 := Int.mul_le_mul (by omega) (by omega) h2 (by omega)
        have hpos : (0 : Int) < (j : Int) + 1 := by omega
        rw [show j + 1 - 1 = j by omega] at hown
        have hsz := hbel.size
        clear hc h3 hd h1
        go_wp2_with (at_builtin; refine wpList_append_lies _ (by rfl) _ _ _ (by rfl) w1.heap.size 3 i0 _ 1 8 Try.underlying22 hi hz0 hz1 hz2 rfl (by omega) u7 j (ints (tab j (derF P))) (by rfl) (hown.alloc _) ⟨wr.heap.size, 0, none⟩ 1 1 [.int .i64 (derF P j)] (by rfl) (by rfl) (World.news_of_block (cs := #[.int .i64 (derF P j)]) (t := 3) (fr := (0, 0)) (heap_alloc_new wr _)) (by simp [Value.oneCell']) (by omega) (by unfold maxLen; omega) (by omega) (by simp; omega) (wr.heap.size + 1) (by simp) ?_; intro gg cap w3 hown3 hgrow hat hlt3)
        have hb3 := below_app' hbel hown hgrow hsz
        rw [ints_tab_succ j (derF P)] at hown3
        clear hgrow hat hown
        go_wp2
        go_roundw
        case rel => exact ⟨j + 1 + 1, by omega, by go_num, by rw [show j + 1 + 1 - 1 = j + 1 by omega]; exact hown3, hb3⟩
        case measure => simp [intOf]; omega
    · obtain rfl : k = L := by omega
      obtain ⟨A2, c2, rfl⟩ := own_slice hown
      have hin := Ints.of_own hown (tab_i64 fun i => by have := derF_bd P i; exact I64.small this.1 (by omega))
      have hcp := pplain_any A2 (k - 1) c2 _ p wr hp hin (by omega)
      have hD : toP ⟨p, hp⟩ (tab (k - 1) (derF P)) = P.D := by have := toP_der P; rw [HL.out] at this; exact this
      rw [hD] at hcp
      have Cp := Lib.hid hcp
      clear hcp hD hin hown
      go_wp2_with fail
      refine Cp.out.mono ?_
      rintro e w3 ⟨A3, c3, rfl, hn3⟩
      go_wp2_with fail
      go_ret2
      exact givesPE_of (newInts_sooner hn3 (below_tr hb1 hbel))

theorem pderiv_no (A : Option Addr) (n c : Nat) (p : Int) (w : World) (h3 : -9223372036854775808 ≤ p) (h4 : p ≤ 9223372036854775807) (hp : isPrime p = false) :
    Calls Try.prog 20 #[.slice A n c, .int .i64 p] w fun e w' => e = .returned (.tuple #[.slice none 0 0, .int .i64 1]) ∧ w = w' := by
  go_enter Try.func20, Try.ntmps20
  go_wp2_with fail
  refine (chk_no _ _ h3 h4 hp).mono ?_
  rintro e w' ⟨rfl, rfl⟩
  go_wp2_with fail
  go_ret2
  exact ⟨rfl, rfl⟩
end Go.Proofs.Ytbcapmnklgdeoaa
