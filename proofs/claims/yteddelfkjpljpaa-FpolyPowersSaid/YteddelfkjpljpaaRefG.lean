/- Contracts by polynomials: the document's values. -/
import Derived.Test.YteddelfkjpljpaaRefE
namespace Go.Proofs.Yteddelfkjpljpaa
open Go.RowKit Cl
attribute [local go_sem ↓] Go.wp_at_zero Go.wp_at_succ

section
variable {A : Option Addr} {n c N : Nat} {p : Int} {w : World} {hp : Pr p} {a : Poly (Zp ⟨p, hp⟩)}
set_option maxRecDepth 100000 in
set_option maxHeartbeats 4000000 in
theorem qevalR (ha : Rd w A n a) (x : Int) (hn : n ≤ N) (hN : N ≤ 900000000) (h1 : -9223372036854775808 ≤ x) (h2 : x ≤ 9223372036854775807) :
    Calls Try.prog 36 #[.slice A n c, .int .i64 x, .int .i64 p] w fun e w' => e = .returned (.tuple #[.int .i64 (valR a x), .int .i64 0]) ∧ Below w.heap.size w w' := by
  have hp1 := hp.two
  have hp2 := hp.max
  have hp0 : ¬ p = 0 := by omega
  obtain ⟨xs, hx, rfl⟩ := ha
  have hval : Hid (horn (fun i => red (nth xs i) p) (red x p) p n n = valR (toP ⟨p, hp⟩ xs) x) := by
    show _ = _
    have h := horn_val (q := ⟨p, hp⟩) (f := fun i => red (nth xs i) p) (x := red x p) (n := n) (xs := xs) (by rw [hx.len]; omega) (fun i _ => (red_cg (by omega) : Cg p (red (nth xs i) p) (nth xs i)))
    rw [h]
    unfold valP valR
    rw [Zp.of_cg (red_cg (by omega) : Cg p (red x p) x)]
  obtain ⟨r1, r2⟩ := red_bd x (p := p) (by omega)
  have Cx := Lib.hid (fun W => rred_any x p W h1 h2 (by omega) (by omega))
  have Cy := Lib.hid (fun (i : Nat) W => rred_any (nth xs i) p W (hx.ok i).1 (hx.ok i).2 (by omega) (by omega))
  have Hrb := Lib.hid (fun i => red_bd (nth xs i) (p := p) (by omega))
  generalize red x p = y at *
  go_enter Try.func36, Try.ntmps36
  go_wp2_with fail
  refine (rchk_yes _ _ (by omega) (by omega) ((isPrime_iff p).2 hp)).mono ?_
  rintro e w' ⟨rfl, rfl⟩
  go_wp2_with fail
  go_loopg [8, 9] (n + 1) (fun gk s i wr => ∃ (d : Nat) (j : Int), d ≤ n ∧ n - d < gk ∧ i = .int .i64 j ∧ j = (n : Int) - 1 - (d : Int) ∧ s = .int .i64 (horn (fun i => red (nth xs i) p) y p n d) ∧ Hid (∃ q, wr = w.drewN q))
  case atStart => exact ⟨0, _, by omega, by omega, rfl, by omega, rfl, 0, rfl⟩
  case round =>
    obtain ⟨d, j, hd, hgk, rfl, hj, rfl, hwr⟩ := hrel
    obtain ⟨m1, m2⟩ := horn_bd (fun i => red (nth xs i) p) y (p := p) (by omega) n d
    by_cases hlt : d < n
    · obtain ⟨b, o, rfl, hb, hc⟩ := hx.at_ (by omega)
      obtain ⟨t, ht⟩ : ∃ t, t = n - 1 - d := ⟨_, rfl⟩
      obtain rfl : j = (t : Int) := by omega
      have hcx : wr.cell? ⟨b, o + t, none⟩ = some (.int .i64 (nth xs t)) := by obtain ⟨q, e⟩ := hwr.out; rw [e]; exact hc t (by omega)
      obtain ⟨l1, l2⟩ := Hrb.out t
      have Hs : Hid ((horn (fun i => red (nth xs i) p) y p n d * y + red (nth xs t) p) % p = horn (fun i => red (nth xs i) p) y p n (d + 1)) := by show _ = _; rw [ht]; rfl
      have k1 : 0 ≤ horn (fun i => red (nth xs i) p) y p n d * y := Int.mul_nonneg m1 r1
      have k2 : horn (fun i => red (nth xs i) p) y p n d * y ≤ 65521 * 65521 := Int.mul_le_mul (by omega) (by omega) r1 (by omega)
      have htL : t < n := by omega
      have htL' : (t : Int) < (n : Int) := by omega
      have ht0 : (0 : Int) ≤ (t : Int) := by omega
      clear hc hj
      have Ht := Lib.hid ht
      clear ht
      generalize horn (fun i => red (nth xs i) p) y p n d = s0 at *
      have Cz := Lib.hid (Cy.out t)
      generalize red (nth xs t) p = z at *
      generalize nth xs t = x0 at *
      have e1 : IntKind.i64.wrap (s0 * y) = s0 * y := IntWalk.i64_in _ (by omega)
      have e2 : IntKind.i64.wrap (s0 * y + z) = s0 * y + z := IntWalk.i64_in _ (by omega)
      have e3 : (s0 * y + z).tmod p = (s0 * y + z) % p := by rw [Int.tmod_eq_emod_of_nonneg (by omega)]
      clear Cy Hrb hval
      go_wp2
      go_quiet ((go_at_call 60; first | ((with_reducible show Calls _ _ #[.int _ x, _] _ _); first | exact quiet_add_left (Cx.out _) | exact quiet_left (Cx.out _)) | ((with_reducible show Calls _ _ #[.int _ x0, _] _ _); first | exact quiet_add_left (Cz.out _) | exact quiet_left (Cz.out _))))
      go_wp2
      go_roundg (gk - 1)
      case measure => omega
      case rel => exact ⟨d + 1, _, by omega, by omega, rfl, by have := Ht.out; omega, by rw [← Hs.out], by obtain ⟨q, e⟩ := hwr.out; exact ⟨_, by rw [e, World.drewN_drewN]⟩⟩
    · obtain rfl : n = d := by omega
      obtain rfl : j = -1 := by omega
      go_wp2
      go_ret2
      exact ⟨by rw [hval.out]; rfl, by obtain ⟨q, e⟩ := hwr.out; rw [e]; exact below_drewN (Below.refl _ _) _⟩
end
end Go.Proofs.Yteddelfkjpljpaa
