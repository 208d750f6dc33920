/- Contracts: whether a polynomial of several variables may be (the program's).
   Contracts: polynomials that may not be.
   Contracts: mpoly.all of polynomials that may be. -/
import Derived.Test.YtjmbejodcloapaaSameK
namespace Go.Proofs.Ytjmbejodcloapaa
open Go.RowKit Cl
attribute [local go_sem ↓] Go.wp_at_zero Go.wp_at_succ
/-- Exponents that may be. -/
def OkE (x : Int) : Prop := 0 ≤ x ∧ x ≤ 1000
set_option maxRecDepth 100000 in
theorem mcheck1_ok (x : Int) (w : World) (h : OkE x) : Calls Try.prog 27 #[.int .i64 x] w fun e w' => e = .returned (.bool false) ∧ w = w' := by
  have h1 : ¬ x < 0 := by have := h.1; omega
  have h2 : ¬ 1000 < x := by have := h.2; omega
  clear h
  go_enter Try.func27, Try.ntmps27
  go_wp2
  go_ret
  exact ⟨rfl, rfl⟩
set_option maxRecDepth 100000 in
theorem mcheck1_no (x : Int) (w : World) (h : ¬ OkE x) : Calls Try.prog 27 #[.int .i64 x] w fun e w' => e = .returned (.bool true) ∧ w = w' := by
  by_cases h1 : x < 0
  · clear h
    go_enter Try.func27, Try.ntmps27
    go_wp2
    go_ret
    exact ⟨rfl, rfl⟩
  · have h2 : 1000 < x := by unfold OkE at h; omega
    clear h
    go_enter Try.func27, Try.ntmps27
    go_wp2
    go_ret
    exact ⟨rfl, rfl⟩
set_option maxRecDepth 100000 in
set_option maxHeartbeats 1000000 in
/-- slices.IndexFunc with Check's literal: -1, if all may be. -/
theorem mindex_ok (A : Option Addr) (n c : Nat) (xs : List Int) (w : World) (hx : Ints w A n xs) (hn : n ≤ 9223372036854775807) (h : ∀ i, i < n → OkE (nth xs i)) :
    Calls Try.prog 47 #[.slice A n c, .func (.func 27) #[] #[]] w fun e w' => e = .returned (.int .i64 (-1)) ∧ w = w' := by
  have H := Lib.hid h
  clear h
  go_enter Try.func47, Try.ntmps47
  go_wp2
  go_loopw [8] (fun i wr => ∃ k : Nat, k ≤ n ∧ i = .int .i64 k ∧ w = wr) (fun i _ => n - (intOf i).toNat)
  case atStart => exact ⟨0, by omega, rfl, rfl⟩
  case round =>
    obtain ⟨k, hk, rfl, rfl⟩ := hrel
    by_cases hlt : k < n
    · obtain ⟨b, o, rfl, hb, hc⟩ := hx.at_ (by omega)
      have hck := hc k hlt
      have hlt' : (k : Int) < (n : Int) := by omega
      go_wp2_with fail
      refine (mcheck1_ok (nth xs k) w (H.out k hlt)).mono ?_
      rintro e w' ⟨rfl, rfl⟩
      go_wp2
      go_roundw
      case rel => exact ⟨k + 1, by omega, by go_num, trivial⟩
      case measure => simp [intOf]; omega
    · have hlt' : ¬ (k : Int) < (n : Int) := by omega
      go_wp2
      go_ret
      exact ⟨rfl, rfl⟩
set_option maxRecDepth 100000 in
set_option maxHeartbeats 1000000 in
theorem mindex_no (A : Option Addr) (n c : Nat) (xs : List Int) (w : World) (hx : Ints w A n xs) (hn : n ≤ 9223372036854775807) (h : ¬ ∀ i, i < n → OkE (nth xs i)) :
    Calls Try.prog 47 #[.slice A n c, .func (.func 27) #[] #[]] w fun e w' => (∃ j : Nat, e = .returned (.int .i64 (j : Int))) ∧ w = w' := by
  have H := Lib.hid h
  clear h
  go_enter Try.func47, Try.ntmps47
  go_wp2
  go_loopw [8] (fun i wr => ∃ k : Nat, k ≤ n ∧ i = .int .i64 k ∧ Hid (∀ j, j < k → OkE (nth xs j)) ∧ w = wr) (fun i _ => n - (intOf i).toNat)
  case atStart => exact ⟨0, by omega, rfl, (fun j hj => absurd hj (by omega)), rfl⟩
  case round =>
    obtain ⟨k, hk, rfl, hall, rfl⟩ := hrel
    by_cases hlt : k < n
    · obtain ⟨b, o, rfl, hb, hc⟩ := hx.at_ (by omega)
      have hck := hc k hlt
      have hlt' : (k : Int) < (n : Int) := by omega
      by_cases hz : OkE (nth xs k)
      · have Hz := Lib.hid hz
        clear hz
        go_wp2_with fail
        refine (mcheck1_ok (nth xs k) w Hz.out).mono ?_
        rintro e w' ⟨rfl, rfl⟩
        go_wp2
        go_roundw
        case rel => exact ⟨k + 1, by omega, by go_num, (fun j hj => if e : j = k then e ▸ Hz.out else hall.out j (by omega)), trivial⟩
        case measure => simp [intOf]; omega
      · have Hz := Lib.hid hz
        clear hz
        go_wp2_with fail
        refine (mcheck1_no (nth xs k) w Hz.out).mono ?_
        rintro e w' ⟨rfl, rfl⟩
        go_wp2
        go_ret
        exact ⟨⟨k, rfl⟩, rfl⟩
    · exact absurd (fun i hi => hall.out i (by omega)) H.out
theorem mcontains_ok (A : Option Addr) (n c : Nat) (xs : List Int) (w : World) (hx : Ints w A n xs) (hn : n ≤ 9223372036854775807) (h : ∀ i, i < n → OkE (nth xs i)) :
    Calls Try.prog 26 #[.slice A n c, .func (.func 27) #[] #[]] w fun e w' => e = .returned (.bool false) ∧ w = w' := by
  have C := Lib.hid (mindex_ok A n c xs w hx hn h)
  clear hx h
  go_enter Try.func26, Try.ntmps26
  go_wp2_with fail
  refine C.out.mono ?_
  rintro e w' ⟨rfl, rfl⟩
  go_wp2
  go_ret
  exact ⟨rfl, rfl⟩
theorem mcontains_no (A : Option Addr) (n c : Nat) (xs : List Int) (w : World) (hx : Ints w A n xs) (hn : n ≤ 9223372036854775807) (h : ¬ ∀ i, i < n → OkE (nth xs i)) :
    Calls Try.prog 26 #[.slice A n c, .func (.func 27) #[] #[]] w fun e w' => e = .returned (.bool true) ∧ w = w' := by
  have C := Lib.hid (mindex_no A n c xs w hx hn h)
  clear hx h
  go_enter Try.func26, Try.ntmps26
  go_wp2_with fail
  refine C.out.mono ?_
  rintro e w' ⟨⟨j, rfl⟩, rfl⟩
  have hj : (0 : Int) ≤ (j : Int) := by omega
  go_wp2
  go_ret
  exact ⟨rfl, rfl⟩
/-- A term that may be. -/
def OkT (n : Int) (t : TV) : Prop := (t.2.length : Int) = n ∧ ∀ i, i < t.2.length → OkE (nth t.2 i)
/-- Terms that may be. -/
def OkL (n : Int) (L : List TV) : Prop := 0 ≤ n ∧ n ≤ 6 ∧ L.length ≤ 4096 ∧ ∀ i (h : i < L.length), OkT n L[i]
set_option maxRecDepth 100000 in
set_option maxHeartbeats 2000000 in
theorem mcheck_ok (n : Int) (A : Option Addr) (m c : Nat) (L : List TV) (w : World) (hx : Trs w A m L) (hL : OkL n L) :
    Calls Try.prog 9 #[.int .i64 n, .slice A m c] w fun e w' => e = .returned (.int .i64 0) ∧ Below w.heap.size w w' := by
  have hl := hx.len
  obtain ⟨h1, h2, h3, h4⟩ := hL
  have h1' : ¬ n < 0 := by omega
  have h2' : ¬ 6 < n := by omega
  have h3' : ¬ (4096 : Int) < (m : Int) := by omega
  have H4 := Lib.hid h4
  have Hl := Lib.hid hl
  clear h4 hl h1 h2
  go_enter Try.func9, Try.ntmps9
  go_wp2
  go_loopw [20] (fun i wr => ∃ k : Nat, k ≤ m ∧ i = .int .i64 k ∧ Below w.heap.size w wr) (fun i _ => m - (intOf i).toNat)
  case atStart => exact ⟨0, by omega, rfl, Below.refl _ _⟩
  case round =>
    obtain ⟨k, hk, rfl, hbel⟩ := hrel
    obtain ⟨wo, rfl⟩ : ∃ wo : World, wo = wr := ⟨_, rfl⟩
    by_cases hlt : k < m
    · obtain ⟨b, o, rfl, hb, hc⟩ := hx.at_ (by omega)
      have hkl : k < L.length := by rw [Hl.out]; exact hlt
      obtain ⟨Ai, ci, Ei, ei, e1, e2, e3, e4, e5, e6, e7, e8, e9⟩ := hc k hkl
      have hok := H4.out k hkl
      clear hc
      generalize L[k] = x at *
      obtain ⟨⟨s, xs⟩, ps⟩ := x
      obtain ⟨o1, o2⟩ := hok
      simp only at e1 e2 e3 e4 e6 e8 e9 o1 o2
      have hlt' : (k : Int) < (m : Int) := by omega
      have hk0 : (0 : Int) ≤ (k : Int) := by omega
      have hz : ((ps.length : Int) != n) = false := by simp [o1]
      have k1 := (hbel.cell (p := ⟨b, o + 3 * k, none⟩) hb).trans e1
      have k2 := (hbel.cell (p := ⟨b, o + (3 * k + 1), none⟩) hb).trans e2
      have k3 := (hbel.cell (p := ⟨b, o + (3 * k + 2), none⟩) hb).trans e3
      rw [Nat.mul_comm 3 k] at k1 k2 k3
      rw [← Nat.add_assoc] at k2 k3
      have Cc := Lib.hid (fun W (h : Below w.heap.size w W) => mcontains_ok Ei ps.length ei ps W (e9.bel h) (by omega) o2)
      clear e8 e9 e1 e2 e3 o1 o2
      go_wp2_with fail
      refine (Cc.out _ (by exact hbel.alloc hbel.size _)).mono ?_
      rintro e w' ⟨rfl, rfl⟩
      go_wp2
      go_roundw
      case rel => exact ⟨k + 1, by omega, by go_num, hbel.alloc hbel.size _⟩
      case measure => simp [intOf]; omega
    · have hlt' : ¬ (k : Int) < (m : Int) := by omega
      go_wp2
      go_ret
      exact ⟨rfl, hbel⟩
end Go.Proofs.Ytjmbejodcloapaa

namespace Go.Proofs.Ytjmbejodcloapaa
open Go.RowKit Cl
attribute [local go_sem ↓] Go.wp_at_zero Go.wp_at_succ
set_option maxRecDepth 100000 in
theorem mcheck_no_a (n : Int) (A : Option Addr) (m c : Nat) (w : World) (h : n < 0) :
    Calls Try.prog 9 #[.int .i64 n, .slice A m c] w fun e w' => e = .returned (.int .i64 1) ∧ Below w.heap.size w w' := by
  have hb := Below.refl w.heap.size w
  go_enter Try.func9, Try.ntmps9
  go_wp2
  go_ret
  exact ⟨rfl, hb⟩
set_option maxRecDepth 100000 in
theorem mcheck_no_b (n : Int) (A : Option Addr) (m c : Nat) (w : World) (h : 6 < n) :
    Calls Try.prog 9 #[.int .i64 n, .slice A m c] w fun e w' => e = .returned (.int .i64 1) ∧ Below w.heap.size w w' := by
  have h1 : ¬ n < 0 := by omega
  have hb := Below.refl w.heap.size w
  go_enter Try.func9, Try.ntmps9
  go_wp2
  go_ret
  exact ⟨rfl, hb⟩
set_option maxRecDepth 100000 in
theorem mcheck_no_c (n : Int) (A : Option Addr) (m c : Nat) (w : World) (h1 : ¬ n < 0) (h2 : ¬ 6 < n) (h : (4096 : Int) < (m : Int)) :
    Calls Try.prog 9 #[.int .i64 n, .slice A m c] w fun e w' => e = .returned (.int .i64 1) ∧ Below w.heap.size w w' := by
  have hb := Below.refl w.heap.size w
  go_enter Try.func9, Try.ntmps9
  go_wp2
  go_ret
  exact ⟨rfl, hb⟩
set_option maxRecDepth 100000 in
set_option maxHeartbeats 2000000 in
theorem mcheck_no_d (n : Int) (A : Option Addr) (m c : Nat) (L : List TV) (w : World) (hx : Trs w A m L) (h1 : 0 ≤ n) (h2 : n ≤ 6) (h3 : m ≤ 4096) (hL : ¬ ∀ i (h : i < L.length), OkT n L[i]) :
    Calls Try.prog 9 #[.int .i64 n, .slice A m c] w fun e w' => e = .returned (.int .i64 1) ∧ Below w.heap.size w w' := by
  have hl := hx.len
  have h1' : ¬ n < 0 := by omega
  have h2' : ¬ 6 < n := by omega
  have h3' : ¬ (4096 : Int) < (m : Int) := by omega
  have H4 := Lib.hid hL
  have Hl := Lib.hid hl
  clear hL hl h1 h2
  go_enter Try.func9, Try.ntmps9
  go_wp2
  go_loopw [20] (fun i wr => ∃ k : Nat, k ≤ m ∧ i = .int .i64 k ∧ Hid (∀ i (h : i < L.length), i < k → OkT n L[i]) ∧ Below w.heap.size w wr) (fun i _ => m - (intOf i).toNat)
  case atStart => exact ⟨0, by omega, rfl, (fun i h hj => absurd hj (by omega)), Below.refl _ _⟩
  case round =>
    obtain ⟨k, hk, rfl, hall, hbel⟩ := hrel
    obtain ⟨wo, rfl⟩ : ∃ wo : World, wo = wr := ⟨_, rfl⟩
    by_cases hlt : k < m
    · obtain ⟨b, o, rfl, hb, hc⟩ := hx.at_ (by omega)
      have hkl : k < L.length := by rw [Hl.out]; exact hlt
      obtain ⟨Ai, ci, Ei, ei, e1, e2, e3, e4, e5, e6, e7, e8, e9⟩ := hc k hkl
      clear hc
      have Hall2 : Hid (OkT n L[k] → ∀ i (h : i < L.length), i < k + 1 → OkT n L[i]) := fun ht i h hi => by
        rcases Nat.lt_or_ge i k with hik | hik
        · exact hall.out i h hik
        · obtain rfl : i = k := by omega
          exact ht
      clear hall
      generalize L[k] = x at *
      obtain ⟨⟨s, xs⟩, ps⟩ := x
      simp only at e1 e2 e3 e4 e6 e8 e9
      have hlt' : (k : Int) < (m : Int) := by omega
      have hk0 : (0 : Int) ≤ (k : Int) := by omega
      have k1 := (hbel.cell (p := ⟨b, o + 3 * k, none⟩) hb).trans e1
      have k2 := (hbel.cell (p := ⟨b, o + (3 * k + 1), none⟩) hb).trans e2
      have k3 := (hbel.cell (p := ⟨b, o + (3 * k + 2), none⟩) hb).trans e3
      rw [Nat.mul_comm 3 k] at k1 k2 k3
      rw [← Nat.add_assoc] at k2 k3
      have E9 := Lib.hid e9
      clear e8 e9 e1 e2 e3
      by_cases o1 : (ps.length : Int) = n
      · have hz : ((ps.length : Int) != n) = false := by simp [o1]
        by_cases o2 : ∀ i, i < ps.length → OkE (nth ps i)
        · have Cc := Lib.hid (fun W (h : Below w.heap.size w W) => mcontains_ok Ei ps.length ei ps W (E9.out.bel h) (by omega) o2)
          have Hok := Lib.hid (Hall2.out ⟨o1, o2⟩)
          clear o1 o2 Hall2
          go_wp2_with fail
          refine (Cc.out _ (by exact hbel.alloc hbel.size _)).mono ?_
          rintro e w' ⟨rfl, rfl⟩
          go_wp2
          go_roundw
          case rel => exact ⟨k + 1, by omega, by go_num, Hok, hbel.alloc hbel.size _⟩
          case measure => simp [intOf]; omega
        · have Cc := Lib.hid (fun W (h : Below w.heap.size w W) => mcontains_no Ei ps.length ei ps W (E9.out.bel h) (by omega) o2)
          clear o1 o2 Hall2
          go_wp2_with fail
          refine (Cc.out _ (by exact hbel.alloc hbel.size _)).mono ?_
          rintro e w' ⟨rfl, rfl⟩
          go_wp2
          go_ret
          exact ⟨rfl, hbel.alloc hbel.size _⟩
      · have hz : ((ps.length : Int) != n) = true := by simp [o1]
        clear o1 Hall2
        go_wp2
        go_ret
        exact ⟨rfl, hbel.alloc hbel.size _⟩
    · exact absurd (fun i h => hall.out i h (by rw [Hl.out] at h; omega)) H4.out
open Classical in
/-- What Check tells. -/
noncomputable def chkN (n : Int) (L : List TV) : Int := if OkL n L then 0 else 1
theorem chkN_ok {n : Int} {L : List TV} (h : OkL n L) : chkN n L = 0 := if_pos h
theorem chkN_no {n : Int} {L : List TV} (h : ¬ OkL n L) : chkN n L = 1 := if_neg h
theorem mcheck (n : Int) (A : Option Addr) (m c : Nat) (L : List TV) (w : World) (hx : Trs w A m L) :
    Calls Try.prog 9 #[.int .i64 n, .slice A m c] w fun e w' => e = .returned (.int .i64 (chkN n L)) ∧ Below w.heap.size w w' := by
  by_cases h : OkL n L
  · rw [chkN_ok h]; exact mcheck_ok n A m c L w hx h
  · rw [chkN_no h]
    by_cases h1 : n < 0
    · exact mcheck_no_a n A m c w h1
    · by_cases h2 : 6 < n
      · exact mcheck_no_b n A m c w h2
      · by_cases h3 : (4096 : Int) < (m : Int)
        · exact mcheck_no_c n A m c w h1 h2 h3
        · exact mcheck_no_d n A m c L w hx (by omega) (by omega) (by omega) (fun h4 => h ⟨by omega, by omega, by rw [hx.len]; omega, h4⟩)
end Go.Proofs.Ytjmbejodcloapaa

namespace Go.Proofs.Ytjmbejodcloapaa
open Go.RowKit Cl
attribute [local go_sem ↓] Go.wp_at_zero Go.wp_at_succ
set_option maxRecDepth 100000 in
set_option maxHeartbeats 1000000 in
theorem mall_any (n : Int) (g m c : Nat) (f : Nat → Option Addr) (ms cs : Nat → Nat) (Ls : Nat → List TV) (w : World) (hg : g < w.heap.size) (hm : m ≤ 100) (h0 : OkL n [])
    (h : ∀ k, k < m → w.cell? ⟨g, k, none⟩ = some (.slice (f k) (ms k) (cs k)) ∧ Trs w (f k) (ms k) (Ls k) ∧ OkL n (Ls k)) :
    Calls Try.prog 35 #[.int .i64 n, .slice (some ⟨g, 0, none⟩) m c] w fun e w' => e = .returned (.int .i64 0) ∧ Below w.heap.size w w' := by
  have H := Lib.hid h
  have H0 := Lib.hid h0
  clear h h0
  go_enter Try.func35, Try.ntmps35
  go_wp2
  go_loopw [10] (fun i wr => ∃ k : Nat, k ≤ m ∧ i = .int .i64 k ∧ Below w.heap.size w wr) (fun i _ => m - (intOf i).toNat)
  case atStart => exact ⟨0, by omega, rfl, Below.refl _ _⟩
  case round =>
    obtain ⟨k, hk, rfl, hbel⟩ := hrel
    obtain ⟨wo, rfl⟩ : ∃ wo : World, wo = wr := ⟨_, rfl⟩
    by_cases hlt : k < m
    · obtain ⟨q1, q2, q3⟩ := H.out k hlt
      have hc := (hbel.cell (p := ⟨g, k, none⟩) hg).trans q1
      have hlt' : (k : Int) < (m : Int) := by omega
      have hk0 : (0 : Int) ≤ (k : Int) := by omega
      have C := Lib.hid (mcheck_ok n (f k) (ms k) (cs k) (Ls k) wo (q2.bel hbel) q3)
      clear q1 q2 q3
      go_wp2_with fail
      refine C.out.mono ?_
      rintro e w1 ⟨rfl, hb1⟩
      have hb2 := hbel.trans (hb1.mono hbel.size)
      go_wp2
      go_roundw
      case rel => exact ⟨k + 1, by omega, by go_num, hb2⟩
      case measure => simp [intOf]; omega
    · have hlt' : ¬ (k : Int) < (m : Int) := by omega
      go_wp2_with fail
      refine (mcheck_ok n none 0 0 [] wo (Trs.nil _ _) H0.out).mono ?_
      rintro e w1 ⟨rfl, hb1⟩
      have hb2 := hbel.trans (hb1.mono hbel.size)
      go_wp2
      go_ret
      exact ⟨rfl, hb2⟩
/-- Of two. -/
theorem mall2 (n : Int) (g c : Nat) (A B : Option Addr) (m1 m2 c1 c2 : Nat) (L M : List TV) (w : World) (hg : g < w.heap.size)
    (q1 : w.cell? ⟨g, 0, none⟩ = some (.slice A m1 c1)) (q2 : w.cell? ⟨g, 1, none⟩ = some (.slice B m2 c2)) (hL : Trs w A m1 L) (hM : Trs w B m2 M) (oL : OkL n L) (oM : OkL n M) :
    Calls Try.prog 35 #[.int .i64 n, .slice (some ⟨g, 0, none⟩) 2 c] w fun e w' => e = .returned (.int .i64 0) ∧ Below w.heap.size w w' := by
  refine mall_any n g 2 c (fun k => if k = 0 then A else B) (fun k => if k = 0 then m1 else m2) (fun k => if k = 0 then c1 else c2) (fun k => if k = 0 then L else M) w hg (by omega) ⟨oL.1, oL.2.1, by simp, fun i h => absurd h (by simp)⟩ fun k hk => ?_
  rcases Nat.eq_zero_or_pos k with rfl | h
  · exact ⟨q1, hL, oL⟩
  · obtain rfl : k = 1 := by omega
    exact ⟨q2, hM, oM⟩
end Go.Proofs.Ytjmbejodcloapaa
