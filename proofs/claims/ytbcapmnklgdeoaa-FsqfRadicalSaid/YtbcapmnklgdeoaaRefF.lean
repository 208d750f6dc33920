/- Contracts by polynomials: the document's derivatives and values. -/
import Derived.Test.YtbcapmnklgdeoaaRefE
namespace Go.Proofs.Ytbcapmnklgdeoaa
open Go.RowKit Cl
attribute [local go_sem ↓] Go.wp_at_zero Go.wp_at_succ

noncomputable def derG {q : Prm} (P : Poly (Zp q)) (i : Nat) : Int := ((i : Int) + 1) % q.p * nth (fromP P) (i + 1) % q.p
theorem toP_derG {q : Prm} (P : Poly (Zp q)) : toP q (tab (P.len - 1) (derG P)) = P.D := by
  rw [← toP_der P]
  refine Poly.ext fun i => ?_
  rw [co_toP, co_toP, nth_tab, nth_tab]
  split
  · exact Zp.of_cg (Cg.emod_left _ _)
  · rfl
theorem derG_bd {q : Prm} (P : Poly (Zp q)) (i : Nat) : 0 ≤ derG P i ∧ derG P i < q.p := emod_bd _ (by have := q.pr.two; omega)

section
variable {A : Option Addr} {n c N : Nat} {p : Int} {w : World} {hp : Pr p} {a : Poly (Zp ⟨p, hp⟩)}
set_option maxRecDepth 100000 in
set_option maxHeartbeats 4000000 in
theorem qderivR (ha : Rd w A n a) (hn : n ≤ N) (hN : N ≤ 900000000) : Calls Try.prog 47 #[.slice A n c, .int .i64 p] w (GivesRE w N a.D 0) := by
  obtain ⟨i0, hi, hz0, hz1, hz2⟩ := info_parts int_info
  have hp1 := hp.two
  have hp2 := hp.max
  have hp0 : ¬ p = 0 := by omega
  have hppos : 0 < p := by omega
  have Ca := Lib.hid (qplainR (c := c) ha hn hN)
  have HD := Lib.hid (D_len_le a)
  clear ha
  go_enter Try.func47, Try.ntmps47
  go_wp2_with fail
  refine (rchk_yes _ _ (by omega) (by omega) ((isPrime_iff p).2 hp)).mono ?_
  rintro e w' ⟨rfl, rfl⟩
  go_wp2_with fail
  refine Ca.out.mono ?_
  rintro e w1 ⟨A1, c1, rfl, l1, hrd, hb1⟩
  generalize hL : a.len = L at *
  have HL := Lib.hid hL
  clear hL
  go_wp2_with fail
  go_loopw [7, 8] (fun v i wr => ∃ k : Nat, k ≤ L - 1 ∧ i = .int .i64 ((k : Int) + 1) ∧ wr.ownsRow w1.heap.size 3 1 v k (ints (tab k (derG a))) ∧ Below w1.heap.size w1 wr) (fun _ i _ => L - (intOf i).toNat)
  case atStart => exact ⟨0, by omega, rfl, World.ownsRow_nil _ _ _ _, Below.refl _ _⟩
  case round =>
    obtain ⟨k, hk, rfl, hown, hbel⟩ := hrel
    by_cases hlt : k + 1 < L
    · obtain ⟨b, o, rfl, hb, hc⟩ := hrd.at_ (by omega)
      have hcx : wr.cell? ⟨b, o + (k + 1), none⟩ = some (.int .i64 (nth (fromP a) (k + 1))) := (hbel.cell (p := ⟨b, o + (k + 1), none⟩) hb).trans (hc (k + 1) hlt)
      have Hd : Hid (((k : Int) + 1) % p * nth (fromP a) (k + 1) % p = derG a k) := rfl
      have h1 := emod_bd ((k : Int) + 1) (p := p) (by omega)
      obtain ⟨h2, h3⟩ := fromP_lt a (k + 1)
      have h3' : nth (fromP a) (k + 1) < p := h3
      have m1 : 0 ≤ ((k : Int) + 1) % p * nth (fromP a) (k + 1) := Int.mul_nonneg h1.1 h2
      have m2 : ((k : Int) + 1) % p * nth (fromP a) (k + 1) ≤ 65521 * 65521 := Int.mul_le_mul (by omega) (by omega) h2 (by omega)
      have hlt' : (k : Int) + 1 < (L : Int) := by omega
      have hge0 : (0 : Int) ≤ (k : Int) + 1 := by omega
      have hneg : ¬ (k : Int) + 1 < 0 := by omega
      have e1 : IntKind.i64.wrap (((k : Int) + 1) % p * nth (fromP a) (k + 1)) = ((k : Int) + 1) % p * nth (fromP a) (k + 1) := IntWalk.i64_in _ (by omega)
      have e2 : ((k : Int) + 1).toNat = k + 1 := by omega
      have e3 : ((k : Int) + 1).tmod p = ((k : Int) + 1) % p := by rw [Int.tmod_eq_emod_of_nonneg (by omega)]
      have e4 : (((k : Int) + 1) % p * nth (fromP a) (k + 1)).tmod p = ((k : Int) + 1) % p * nth (fromP a) (k + 1) % p := by rw [Int.tmod_eq_emod_of_nonneg m1]
      have hsz := hbel.size
      clear h3 h1
      go_wp2
      go_region_held3 (fun w' => w'.cell? ⟨b, o + (k + 1), none⟩ = some (.int .i64 (nth (fromP a) (k + 1))))
        (first | go_keep | (have hb3 := below_app hbel hown hgrow hsz; exact (hb3.cell (p := ⟨b, o + (k + 1), none⟩) hb).trans (hc (k + 1) hlt)))
        (first
          | (refine step_append_lies _ (by rfl) _ _ _ (by rfl) w1.heap.size 3 i0 _ 1 8 Try.underlying22 hi hz0 hz1 hz2 rfl (by omega) u7 k (ints (tab k (derG a))) (by rfl) ((hown.alloc _).drew) ⟨wr.heap.size, 0, none⟩ 1 1 [.int .i64 (((k : Int) + 1) % p * nth (fromP a) (k + 1) % p)] (by rfl) (by rfl) (World.news_of_block (cs := #[.int .i64 (((k : Int) + 1) % p * nth (fromP a) (k + 1) % p)]) (t := 3) (fr := (0, 0)) (heap_alloc_new wr _)) (by simp [Value.oneCell']) (by omega) (by unfold maxLen; omega) (by omega) (by simp; omega) (wr.heap.size + 1) (by simp) ?_; intro gg cap w3 hown3 hgrow hat hlt3))
      have hb3 := below_app hbel hown hgrow hsz
      have he : ints (tab k (derG a)) ++ [.int .i64 (((k : Int) + 1) % p * nth (fromP a) (k + 1) % p)] = ints (tab (k + 1) (derG a)) := by rw [Hd.out]; exact ints_tab_succ k (derG a)
      rw [he] at hown3
      clear hgrow hat hown e1 e2 e3 e4 he
      go_wp2
      go_roundw
      case rel => exact ⟨k + 1, by omega, by go_num, hown3, hb3⟩
      case measure => simp [intOf]; omega
    · obtain rfl : k = L - 1 := by omega
      have hlt' : ¬ (((L - 1 : Nat) : Int) + 1 < (L : Int)) := by omega
      obtain ⟨A2, c2, rfl⟩ := own_slice hown
      have hin := Ints.of_own hown (tab_i64 fun i => by have := derG_bd a i; have h9 : derG a i < p := this.2; exact I64.small this.1 (by omega))
      have hD : toP ⟨p, hp⟩ (tab (L - 1) (derG a)) = a.D := by have := toP_derG a; rw [HL.out] at this; exact this
      have hcp := qplainR (c := c2) (N := L - 1) (hp := hp) (Rd.of_list hin) (Nat.le_refl _) (by omega)
      rw [hD] at hcp
      have Cp := Lib.hid hcp
      have hLn : L ≤ N := l1
      clear hcp hD hin hown
      generalize L - 1 = L1 at *
      go_wp2_with fail
      refine Cp.out.mono ?_
      rintro e w3 ⟨A3, c3, rfl, l3, h3, hb3⟩
      go_wp2_with fail
      go_ret2
      exact ⟨_, _, rfl, by have := HD.out; omega, h3, below_tr (below_tr hb1 hbel) hb3⟩

end
end Go.Proofs.Ytbcapmnklgdeoaa
