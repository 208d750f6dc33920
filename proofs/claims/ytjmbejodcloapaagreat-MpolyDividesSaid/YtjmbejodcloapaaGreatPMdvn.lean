/- Contracts: mpoly.Div where the arguments may not be, and where the divisor is nought. -/
import Derived.Test.YtjmbejodcloapaaGreatPMdvg
set_option linter.unusedVariables false
set_option linter.unusedSimpArgs false
namespace Go.Proofs.YtjmbejodcloapaaGreat
open Go.RowKit Cl
attribute [local go_sem ↓] Go.wp_at_zero Go.wp_at_succ
set_option maxRecDepth 100000 in
set_option maxHeartbeats 1000000 in
theorem mall_no (n : Int) (g m c : Nat) (f : Nat → Option Addr) (ms cs : Nat → Nat) (Ls : Nat → List TV) (w : World) (hg : g < w.heap.size) (hm : m ≤ 100)
    (h : ∀ k, k < m → w.cell? ⟨g, k, none⟩ = some (.slice (f k) (ms k) (cs k)) ∧ Trs w (f k) (ms k) (Ls k)) (hno : ∃ k, k < m ∧ chkN n (Ls k) = 1) :
    Calls Tryz.prog 23 #[.int .i64 n, .slice (some ⟨g, 0, none⟩) m c] w fun e w' => e = .returned (.int .i64 1) ∧ Below w.heap.size w w' := by
  have H := Lib.hid h
  have Hno := Lib.hid hno
  clear h hno
  go_enter Tryz.func23, Tryz.ntmps23
  go_wp2
  go_loopw [10] (fun i wr => ∃ k : Nat, k ≤ m ∧ i = .int .i64 k ∧ Below w.heap.size w wr ∧ Hid (∀ j, j < k → chkN n (Ls j) = 0)) (fun i _ => m - (intOf i).toNat)
  case atStart => exact ⟨0, by omega, rfl, Below.refl _ _, fun j hj => absurd hj (Nat.not_lt_zero j)⟩
  case round =>
    obtain ⟨k, hk, rfl, hbel, hgood⟩ := hrel
    obtain ⟨wo, rfl⟩ : ∃ wo : World, wo = wr := ⟨_, rfl⟩
    by_cases hlt : k < m
    · obtain ⟨q1, q2⟩ := H.out k hlt
      have hc := (hbel.cell (p := ⟨g, k, none⟩) hg).trans q1
      have hlt' : (k : Int) < (m : Int) := by omega
      have hk0 : (0 : Int) ≤ (k : Int) := by omega
      have C := Lib.hid (mcheck n (f k) (ms k) (cs k) (Ls k) wo (q2.bel hbel))
      clear q1 q2
      rcases chk_cases n (Ls k) with ⟨h0, _⟩ | h0
      · rw [h0] at C
        have hgood2 : Hid (∀ j, j < k + 1 → chkN n (Ls j) = 0) := fun j hj => by
          rcases Nat.lt_or_ge j k with h2 | h2
          · exact hgood.out j h2
          · obtain rfl : j = k := by omega
            exact h0
        clear h0 hgood
        go_wp2_with fail
        refine C.out.mono ?_
        rintro e w1 ⟨rfl, hb1⟩
        have hb2 := hbel.trans (hb1.mono hbel.size)
        go_wp2
        go_roundw
        case rel => exact ⟨k + 1, by omega, by go_num, hb2, hgood2⟩
        case measure => simp [intOf]; omega
      · rw [h0] at C
        clear h0 hgood
        go_wp2_with fail
        refine C.out.mono ?_
        rintro e w1 ⟨rfl, hb1⟩
        have hb2 := hbel.trans (hb1.mono hbel.size)
        go_wp2
        go_ret
        exact ⟨rfl, hb2⟩
    · exfalso
      obtain ⟨j, hj, h1⟩ := Hno.out
      have h2 := hgood.out j (by omega)
      rw [h1] at h2
      cases h2
set_option maxRecDepth 100000 in
set_option maxHeartbeats 2000000 in
theorem mdiv_no (n : Int) (A B : Option Addr) (ma ca mb cb : Nat) (L T : List TV) (w : World) (hx : Trs w A ma L) (hy : Trs w B mb T) (hno : chkN n L = 1 ∨ chkN n T = 1) :
    Calls Tryz.prog 7 #[.int .i64 n, .slice A ma ca, .slice B mb cb] w (GivesNo w) := by
  have Call2 := Lib.hid (fun g cc W (hg : g < W.heap.size) (q1 : W.cell? ⟨g, 0, none⟩ = some (.slice A ma ca)) (q2 : W.cell? ⟨g, 1, none⟩ = some (.slice B mb cb)) (hW : Below w.heap.size w W) =>
    mall_no n g 2 cc (fun k => if k = 0 then A else B) (fun k => if k = 0 then ma else mb) (fun k => if k = 0 then ca else cb) (fun k => if k = 0 then L else T) W hg (by omega) (fun k hk => by
      rcases Nat.eq_zero_or_pos k with rfl | h
      · exact ⟨q1, hx.bel hW⟩
      · obtain rfl : k = 1 := by omega
        exact ⟨q2, hy.bel hW⟩) (by
      rcases hno with h | h
      · exact ⟨0, by omega, h⟩
      · exact ⟨1, by omega, h⟩))
  clear hx hy hno
  go_enter Tryz.func7, Tryz.ntmps7
  go_wp2_with fail
  refine (Call2.out w.heap.size 2 _ (by simp) (by simp) (by simp) ((Below.refl _ _).alloc (Nat.le_refl _) _)).mono ?_
  rintro e w1 ⟨rfl, hb1'⟩
  have hb1 : Below w.heap.size w w1 := ((Below.refl _ w).alloc (Nat.le_refl _) _).trans (hb1'.mono (by simp))
  clear hb1' Call2
  go_wp2_with fail
  go_ret2
  exact ⟨rfl, hb1⟩
def GivesDz (w : World) (e : Ending) (w' : World) : Prop := e = .returned (.tuple #[.slice none 0 0, .int .i64 3]) ∧ Below w.heap.size w w'
set_option maxRecDepth 100000 in
set_option maxHeartbeats 2000000 in
theorem mdiv_zero (n Ca Cb : Nat) (A B : Option Addr) (ma ca mb cb : Nat) (L T : List TV) (w : World) (hx : Trs w A ma L) (hy : Trs w B mb T) (hL : Arg n Ca L) (hT : Arg n Cb T) (hn : n ≤ 6) (hCb : Cb ≤ 10000) (h0 : ∀ p, p.length = n → coM (mvT T) p = 0) :
    Calls Tryz.prog 7 #[.int .i64 (n : Int), .slice A ma ca, .slice B mb cb] w (GivesDz w) := by
  have hmt := hy.len
  have hct := hT.cnt
  have hmb : mb ≤ 4096 := by omega
  have Call2 := Lib.hid (fun g cc W (hg : g < W.heap.size) (q1 : W.cell? ⟨g, 0, none⟩ = some (.slice A ma ca)) (q2 : W.cell? ⟨g, 1, none⟩ = some (.slice B mb cb)) (hW : Below w.heap.size w W) => mall2 (n : Int) g cc A B ma mb ca cb L T W hg q1 q2 (hx.bel hW) (hy.bel hW) (arg_ok hL hn) (arg_ok hT hn))
  have Cg2 := Lib.hid (fun W (h : Below w.heap.size w W) => mgathered n Cb B mb cb T W (hy.bel h) (by omega) hn (by omega) (arg_terms hT))
  have HLT := Lib.hid hT.lenM
  have H0 := Lib.hid h0
  clear hx hy hL hT h0 hmt hct
  go_enter Tryz.func7, Tryz.ntmps7
  go_wp2_with fail
  refine (Call2.out w.heap.size 2 _ (by simp) (by simp) (by simp) ((Below.refl _ _).alloc (Nat.le_refl _) _)).mono ?_
  rintro e w1 ⟨rfl, hb1'⟩
  have hb1 : Below w.heap.size w w1 := ((Below.refl _ w).alloc (Nat.le_refl _) _).trans (hb1'.mono (by simp))
  clear hb1' Call2
  go_wp2_with fail
  refine (Cg2.out w1 hb1).mono ?_
  rintro e w2 ⟨b0, rfl, hbb0, hs0, hb2'⟩
  have Cf0 := Lib.hid (mfirst b0 mb n (Cb + mb) _ w2 hs0 (by omega))
  have hb2 : Below w.heap.size w w2 := hb1.trans (hb2'.mono hb1.size)
  have hbw1 := hb1.size
  clear hs0 hb1 hb2' Cg2
  go_wp2_with fail
  refine Cf0.out.mono ?_
  rintro e w3 ⟨f0, p0, s2, A2, k2, c2, ls2, rfl, _, ho3, h21, h22, h23, hL2, hz2, hp6, hsome, hnone⟩
  have hne0 : f0 = false := by
    cases f0 with
    | false => rfl
    | true =>
      exfalso
      obtain ⟨hg, h1, _⟩ := hsome rfl
      apply h1
      rw [hg.pad hn, coM_lift HLT.out (hg.take_length hn)]
      exact H0.out _ (hg.take_length hn)
  subst hne0
  have hb3 : Below w.heap.size w w3 := hb2.trans (ho3.below hb2.size (fun x hx => by omega))
  obtain ⟨y0, y1, y2, y3, y4, y5, hpe⟩ : ∃ y0 y1 y2 y3 y4 y5, p0 = [y0, y1, y2, y3, y4, y5] := by
    match p0, hp6 with
    | [y0, y1, y2, y3, y4, y5], _ => exact ⟨_, _, _, _, _, _, rfl⟩
  have hpv : plcV p0 = .agg #[.int .i64 y0, .int .i64 y1, .int .i64 y2, .int .i64 y3, .int .i64 y4, .int .i64 y5] := by rw [hpe]; rfl
  rw [hpv]
  have hb4 : Below w.heap.size w ((w3.alloc (.cells #[.int .i64 y0, .int .i64 y1, .int .i64 y2, .int .i64 y3, .int .i64 y4, .int .i64 y5] 48)).alloc (.cells #[.bool s2, .slice A2 k2 c2] 32)) := hb3.trans ((below_two _ _ _).mono hb3.size)
  clear hsome hnone hL2 hz2 hp6 hpe hpv ho3 Cf0 hb2 hb3
  go_wp2_with fail
  generalize ((w3.alloc (.cells #[.int .i64 y0, .int .i64 y1, .int .i64 y2, .int .i64 y3, .int .i64 y4, .int .i64 y5] 48)).alloc (.cells #[.bool s2, .slice A2 k2 c2] 32)) = w4 at *
  try go_wp2_with fail
  go_ret2
  exact ⟨rfl, hb4⟩
end Go.Proofs.YtjmbejodcloapaaGreat
