/- Contracts: the document's layer 8: wrong, by, without, root. -/
import Derived.Test.YtbcapmnklgdeoaaRefI
import Derived.Test.YtbcapmnklgdeoaaRefF
import Derived.Test.YtbcapmnklgdeoaaSqfN
namespace Go.Proofs.Ytbcapmnklgdeoaa
open Go.RowKit Cl
attribute [local go_sem ↓] Go.wp_at_zero Go.wp_at_succ

theorem qwrong_no (A : Option Addr) (n c : Nat) (p : Int) (w : World) (h3 : -9223372036854775808 ≤ p) (h4 : p ≤ 9223372036854775807) (hp : isPrime p = false) :
    Calls Try.prog 31 #[.slice A n c, .int .i64 p] w fun e w' => e = .returned (.int .i64 1) ∧ w = w' := by
  go_enter Try.func31, Try.ntmps31
  go_wp2_with fail
  refine (rchk_no _ _ h3 h4 hp).mono ?_
  rintro e w' ⟨rfl, rfl⟩
  go_wp2_with fail
  go_ret
  exact ⟨rfl, rfl⟩
section
variable {A B : Option Addr} {n m c d N M : Nat} {p : Int} {w : World} {hp : Pr p} {a b : Poly (Zp ⟨p, hp⟩)}
theorem qwrongR (ha : Rd w A n a) (hn : n ≤ N) (hN : N ≤ 900000000) (h0 : a ≠ 0) :
    Calls Try.prog 31 #[.slice A n c, .int .i64 p] w fun e w' => e = .returned (.int .i64 0) ∧ Below w.heap.size w w' := by
  have hp1 := hp.two
  have hp2 := hp.max
  have C := Lib.hid (qplainR (c := c) ha hn hN)
  have g0 : ((a.len : Int) == 0) = false := beq_eq_false_iff_ne.2 (by have := Poly.len_pos h0; omega)
  clear ha h0
  go_enter Try.func31, Try.ntmps31
  go_wp2_with fail
  refine (rchk_yes _ _ (by omega) (by omega) ((isPrime_iff p).2 hp)).mono ?_
  rintro e w' ⟨rfl, rfl⟩
  go_wp2_with fail
  refine C.out.mono ?_
  rintro e w1 ⟨A1, c1, rfl, l1, h1, hb1⟩
  go_wp2_with fail
  go_ret
  exact ⟨rfl, hb1⟩
theorem qwrong0R (ha : Rd w A n a) (hn : n ≤ N) (hN : N ≤ 900000000) (h0 : a = 0) :
    Calls Try.prog 31 #[.slice A n c, .int .i64 p] w fun e w' => e = .returned (.int .i64 8) ∧ Below w.heap.size w w' := by
  have hp1 := hp.two
  have hp2 := hp.max
  have C := Lib.hid (qplainR (c := c) ha hn hN)
  have g0 : ((a.len : Int) == 0) = true := by rw [h0, Poly.len_zero]; rfl
  clear ha h0
  go_enter Try.func31, Try.ntmps31
  go_wp2_with fail
  refine (rchk_yes _ _ (by omega) (by omega) ((isPrime_iff p).2 hp)).mono ?_
  rintro e w' ⟨rfl, rfl⟩
  go_wp2_with fail
  refine C.out.mono ?_
  rintro e w1 ⟨A1, c1, rfl, l1, h1, hb1⟩
  go_wp2_with fail
  go_ret
  exact ⟨rfl, hb1⟩
/-- A quotient in a new block. -/
def GivesRat {q : Prm} (w : World) (K : Nat) (a : Poly (Zp q)) (e : Ending) (w' : World) : Prop :=
  ∃ A c, e = .returned (.slice A a.len c) ∧ a.len ≤ K ∧ Ints w' A a.len (fromP a) ∧ Below w.heap.size w w' ∧ ∀ x, A = some x → w.heap.size ≤ x.block
theorem qbyAt (ha : Rd w A n a) (hb : Rd w B m b) (hn : n ≤ N) (hm : m ≤ M) (hK : N ≤ 400000000) (hK2 : M ≤ 400000000) (h0 : b ≠ 0) :
    Calls Try.prog 34 #[.slice A n c, .slice B m d, .int .i64 p] w (GivesRat w N (Poly.quo a b)) := by
  have C := Lib.hid (qdivAt (c := c) (d := d) ha hb hn hm hK hK2 h0)
  clear ha hb h0
  go_enter Try.func34, Try.ntmps34
  go_wp2_with fail
  refine C.out.mono ?_
  rintro e w1 ⟨A1, c1, B1, d1, rfl, l1, m1, h1, k1, hb1, hl1⟩
  go_wp2_with fail
  go_ret
  exact ⟨_, _, rfl, l1, h1, hb1, hl1⟩
theorem qbyR (ha : Rd w A n a) (hb : Rd w B m b) (hn : n ≤ N) (hm : m ≤ M) (hK : N ≤ 400000000) (hK2 : M ≤ 400000000) (h0 : b ≠ 0) :
    Calls Try.prog 34 #[.slice A n c, .slice B m d, .int .i64 p] w (GivesR w N (Poly.quo a b)) :=
  (qbyAt ha hb hn hm hK hK2 h0).mono fun _ _ ⟨A1, c1, e1, l1, h1, hb1, _⟩ => ⟨A1, c1, e1, l1, h1, hb1⟩
set_option maxRecDepth 100000 in
set_option maxHeartbeats 4000000 in
theorem qwithoutR (ha : Ints w A a.len (fromP a)) (hb : Ints w B b.len (fromP b)) (hn : a.len ≤ N) (hm : b.len ≤ N) (hN : N ≤ 90000000) (ham : a.Mon) (hb0 : b ≠ 0) :
    Calls Try.prog 50 #[.slice A a.len c, .slice B b.len d, .int .i64 p] w fun e w' => ∃ W : Poly (Zp ⟨p, hp⟩), W.Mon ∧ (∀ f, f.Irr → Poly.val f W = if 1 ≤ Poly.val f b then 0 else Poly.val f a) ∧ GivesR w N W e w' := by
  have Hwo := Lib.hid (Poly.Wo.start (b := b) ham)
  have Ha := Lib.hid ha
  have Hb := Lib.hid hb
  clear ha hb
  go_enter Try.func50, Try.ntmps50
  go_wp2_with fail
  refine (qgcdR (hp := hp) (N := N) (Rd.of Ha.out) (Rd.of Hb.out) hn hm hN).mono ?_
  rintro e w1 ⟨A1, c1, rfl, l1, h1, hb1⟩
  have H1 := Lib.hid h1
  have Ha1 := Lib.hid (Ha.out.bel hb1)
  clear h1
  go_wp2_with fail
  go_loopg [0, 7] (a.len + 1) (fun gk v0 v7 wr => ∃ (W : Poly (Zp ⟨p, hp⟩)) (AW : Option Addr) (cW : Nat) (AG : Option Addr) (cG : Nat), W.len < gk ∧ v0 = .slice AW W.len cW ∧ v7 = .slice AG (Poly.gcdP W b).len cG ∧ W.len ≤ N ∧ (Poly.gcdP W b).len ≤ N ∧ Hid (Poly.Wo a b W) ∧ Hid (Ints wr AW W.len (fromP W)) ∧ Hid (Ints wr AG (Poly.gcdP W b).len (fromP (Poly.gcdP W b))) ∧ Below w.heap.size w wr)
  case atStart => exact ⟨a, A, c, A1, c1, by omega, rfl, rfl, hn, l1, Hwo, Ha1, H1, hb1⟩
  case round =>
    obtain ⟨W, AW, cW, AG, cG, hgk, rfl, rfl, hWn, hGn, hW, hAW, hAG, hbel⟩ := hrel
    clear Hwo Ha1 H1 hb1
    by_cases hg : 1 < (Poly.gcdP W b).len
    · obtain ⟨hs1, hs2⟩ := hW.out.step hb0 hg
      have Hs1 := Lib.hid hs1
      have hg' : (1 : Int) < ((Poly.gcdP W b).len : Int) := by omega
      have hgne := Lib.hid (((Poly.gcd_is W b).mon_of (.inl hW.out.mon.ne)).ne)
      clear hs1
      go_wp2_with fail
      refine (qbyR (hp := hp) (N := N) (M := N) (Rd.of hAW.out) (Rd.of hAG.out) hWn hGn (by omega) (by omega) hgne.out).mono ?_
      rintro e w2 ⟨A2, c2, rfl, l2, h2, hb2⟩
      have H2 := Lib.hid h2
      have hbel2 := below_tr hbel hb2
      have Hb2 := Lib.hid (Hb.out.bel hbel2)
      clear h2
      go_wp2_with fail
      refine (qgcdR (hp := hp) (N := N) (Rd.of H2.out) (Rd.of Hb2.out) l2 hm hN).mono ?_
      rintro e w3 ⟨A3, c3, rfl, l3, h3, hb3⟩
      have H3 := Lib.hid h3
      have H23 := Lib.hid (H2.out.bel hb3)
      have hbel3 := below_tr hbel2 hb3
      clear h3 hb3
      go_wp2_with fail
      go_roundg W.len
      case measure => omega
      case rel => exact ⟨_, A2, c2, A3, c3, hs2, rfl, rfl, l2, l3, Hs1, H23, H3, hbel3⟩
    · have hg' : ¬ (1 : Int) < ((Poly.gcdP W b).len : Int) := by omega
      have hd := Lib.hid (hW.out.done hb0 hg)
      go_wp2_with fail
      go_ret
      exact ⟨W, hW.out.mon, hd.out, _, _, rfl, hWn, hAW.out, hbel⟩
set_option maxRecDepth 100000 in
set_option maxHeartbeats 4000000 in
/-- Every p-th coefficient. -/
theorem qrootR (ha : Ints w A a.len (fromP a)) (hn : a.len ≤ 100000000) (h0 : a ≠ 0) (hD : a.D = 0) :
    Calls Try.prog 48 #[.slice A a.len c, .int .i64 p] w (GivesR w a.len a.root) := by
  obtain ⟨i0, hi, hz0, hz1, hz2⟩ := info_parts int_info
  have hp1 := hp.two
  have hp2 := hp.max
  have hrl : Hid (a.len = p.toNat * (a.root.len - 1) + 1) := Poly.root_len h0 hD
  have hr1 : 1 ≤ a.root.len := Poly.len_pos (Poly.root_ne hD h0)
  have hrle : a.root.len ≤ a.len := by
    have h1 := hrl.out
    have h2 : a.root.len - 1 ≤ p.toNat * (a.root.len - 1) := Nat.le_mul_of_pos_left _ (by omega)
    omega
  have hC := Lib.hid ha
  have hpn : Hid (((p.toNat : Nat) : Int) = p) := by show _ = _; omega
  have hJ0 : Hid (0 = 0 * p.toNat) := by show _ = _; omega
  clear ha hD
  go_enter Try.func48, Try.ntmps48
  go_wp2_with fail
  go_loopw [5, 6] (fun v i w9 => ∃ (j J : Nat), j ≤ a.root.len ∧ Hid (J = j * p.toNat) ∧ i = .int .i64 (J : Int) ∧ w9.ownsRow w.heap.size 3 1 v j (ints (tab j (fun i => (a.root.co i).val))) ∧ Below w.heap.size w w9) (fun _ i _ => a.len - (intOf i).toNat)
  case atStart => exact ⟨0, 0, by omega, hJ0, rfl, World.ownsRow_nil _ _ _ _, Below.refl _ _⟩
  case round =>
    obtain ⟨j, J, hj, hJ, rfl, hown, hb⟩ := hrel
    by_cases hlt : j < a.root.len
    · obtain ⟨b, o, rfl, hbb, hcc⟩ := hC.out.at_ (by omega)
      have hJl : J < a.len := by
        have h1 : j * p.toNat ≤ (a.root.len - 1) * p.toNat := Nat.mul_le_mul_right _ (by omega)
        rw [hJ.out, hrl.out, Nat.mul_comm p.toNat]; omega
      have hcx : wr.cell? ⟨b, o + J, none⟩ = some (.int .i64 (nth (fromP a) J)) := (hb.cell (p := ⟨b, o + J, none⟩) hbb).trans (hcc J hJl)
      have hv : (a.root.co j).val = nth (fromP a) J := by rw [nth_fromP, hJ.out]; rfl
      have hJ1 : Hid (J + p.toNat = (j + 1) * p.toNat) := by show _ = _; rw [hJ.out, Nat.add_mul, Nat.one_mul]
      have hJ2 : Hid ((J : Int) + p = ((J + p.toNat : Nat) : Int)) := by show _ = _; rw [Int.natCast_add, hpn.out]
      have hJl' : (J : Int) < (a.len : Int) := by omega
      have hsz := hb.size
      clear hcc hJ
      go_wp2_with (at_builtin; go_must (refine wpList_append_lies _ (by rfl) _ _ _ (by rfl) w.heap.size 3 i0 _ 1 8 Try.underlying22 hi hz0 hz1 hz2 rfl (by omega) u5 j (ints (tab j (fun i => (a.root.co i).val))) (by rfl) (hown.alloc _) ⟨wr.heap.size, 0, none⟩ 1 1 [.int .i64 (nth (fromP a) J)] (by rfl) (by rfl) (World.news_of_block (cs := #[.int .i64 (nth (fromP a) J)]) (t := 3) (fr := (0, 0)) (heap_alloc_new wr _)) (by simp [Value.oneCell']) (by omega) (by unfold maxLen; omega) (by omega) (by simp; omega) (wr.heap.size + 1) (by simp) ?_); intro gg cap w3 hown3 hgrow hat hlt3)
      have hb3 := below_app' hb hown hgrow hsz
      rw [← hv, ints_tab_succ j (fun i => (a.root.co i).val)] at hown3
      clear hgrow hat hown hv
      go_wp2
      go_roundw
      case rel => exact ⟨j + 1, J + p.toNat, by omega, hJ1, by rw [hJ2.out], hown3, hb3⟩
      case measure => rw [hJ2.out]; simp [intOf]; omega
    · obtain rfl : j = a.root.len := by omega
      obtain ⟨A9, c9, rfl⟩ := own_slice hown
      have hin : Hid (Ints wr A9 a.root.len (fromP a.root)) := Ints.of_own hown (fromP_i64 _)
      have hJl : ¬ (J : Int) < (a.len : Int) := by
        have h1 : p.toNat * a.root.len = p.toNat * (a.root.len - 1) + p.toNat := by rw [← Nat.mul_succ]; congr 1; omega
        have h2 := hrl.out
        have h3 := hJ.out
        rw [Nat.mul_comm] at h3
        omega
      clear hown hC
      go_wp2_with fail
      go_ret
      exact ⟨A9, c9, rfl, hrle, hin.out, hb⟩
end
end Go.Proofs.Ytbcapmnklgdeoaa
