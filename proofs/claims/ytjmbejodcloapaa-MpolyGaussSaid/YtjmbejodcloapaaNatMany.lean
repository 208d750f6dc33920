/- Contract: nat.Mul of any factors. -/
import Derived.Test.YtjmbejodcloapaaNatMulE
import Derived.Test.YtjmbejodcloapaaNatMulL
namespace Go.Proofs.Ytjmbejodcloapaa
open Go.RowKit Cl
attribute [local go_sem ↓] Go.wp_at_zero Go.wp_at_succ
set_option maxRecDepth 100000 in
set_option maxHeartbeats 4000000 in
theorem nat_mulS (A B : Option Addr) (n m c d : Nat) (xs ys : List Int) (w : World) (hx : Limbs w A n xs) (hy : Limbs w B m ys) (hnc : n ≤ c) (hc : c ≤ 9223372036854775807) (hmd : m ≤ d) (hd : d ≤ 9223372036854775807) (hn : n ≤ 10000000) (hm : m ≤ 10000000) (hs : lmN xs n < 8 ∨ lmN ys m < 8) :
    Calls Try.prog 33 #[.slice A n c, .slice B m d] w fun e w' => ∃ zs, PlainL zs ∧ limbs zs = limbs xs * limbs ys ∧ zs.length ≤ n + m + 1 ∧ GivesNew w zs e w' := by
  have hxl := hx.len
  have hyl := hy.len
  have l1 := lmN_le xs n
  have l2 := lmN_le ys m
  obtain ⟨p1, p2⟩ := plainL_take hx.ok hxl
  obtain ⟨q1, q2⟩ := plainL_take hy.ok hyl
  have Hx := Lib.hid (hx.take l1)
  have Hy := Lib.hid (hy.take l2)
  have C1 := Lib.hid (nplain_any A n c xs w hx hnc hc)
  have C2 := Lib.hid (nplain_any B m d ys w hy hmd hd)
  have Cs := Lib.hid (nat_school A B (lmN xs n) (lmN ys m) c d _ _ w Hx.out Hy.out (by omega) (by omega))
  have hmn : min (lmN xs n : Int) (lmN ys m : Int) < 8 := by omega
  have Hres : Hid (∀ zs, MulOut (xs.take (lmN xs n)) (ys.take (lmN ys m)) zs → PlainL zs ∧ limbs zs = limbs xs * limbs ys ∧ zs.length ≤ n + m + 1) := fun zs h => ⟨h.pl, by rw [h.eq, p2, q2], by have := h.len; rw [List.length_take, List.length_take] at this; omega⟩
  clear hx hy p1 p2 q1 q2 Hx Hy hxl hyl
  generalize lmN xs n = u at *
  generalize lmN ys m = v at *
  rcases Nat.lt_trichotomy u v with huv | huv | huv
  · have h1 : (u : Int) < (v : Int) := by omega
    have h2 : (u : Int) ≤ (v : Int) := by omega
    have h3 : ¬ (v : Int) ≤ (u : Int) := by omega
    have h4 : ¬ (v : Int) < (u : Int) := by omega
    have h5 : (u : Int) < 8 := by omega
    go_enter Try.func33, Try.ntmps33
    go_wp2_with fail
    refine C1.out.mono ?_
    rintro e w' ⟨rfl, rfl⟩
    go_wp2_with fail
    refine C2.out.mono ?_
    rintro e w' ⟨rfl, rfl⟩
    go_wp2_with fail
    refine Cs.out.mono ?_
    rintro e w1 ⟨zs, hz, A1, k1, c1, rfl, g1, g2, g3, g4, g5⟩
    obtain ⟨r1, r2, r3⟩ := Hres.out zs hz
    go_wp2_with fail
    go_ret
    exact ⟨zs, r1, r2, r3, A1, k1, c1, rfl, g1, g2, g3, g4, g5⟩
  · subst huv
    have h5 : (u : Int) < 8 := by omega
    have h6 : min (u : Int) (u : Int) = (u : Int) := by omega
    go_enter Try.func33, Try.ntmps33
    go_wp2_with fail
    refine C1.out.mono ?_
    rintro e w' ⟨rfl, rfl⟩
    go_wp2_with fail
    refine C2.out.mono ?_
    rintro e w' ⟨rfl, rfl⟩
    go_wp2_with fail
    refine Cs.out.mono ?_
    rintro e w1 ⟨zs, hz, A1, k1, c1, rfl, g1, g2, g3, g4, g5⟩
    obtain ⟨r1, r2, r3⟩ := Hres.out zs hz
    go_wp2_with fail
    go_ret
    exact ⟨zs, r1, r2, r3, A1, k1, c1, rfl, g1, g2, g3, g4, g5⟩
  · have h1 : (v : Int) < (u : Int) := by omega
    have h2 : (v : Int) ≤ (u : Int) := by omega
    have h3 : ¬ (u : Int) ≤ (v : Int) := by omega
    have h4 : ¬ (u : Int) < (v : Int) := by omega
    have h5 : (v : Int) < 8 := by omega
    go_enter Try.func33, Try.ntmps33
    go_wp2_with fail
    refine C1.out.mono ?_
    rintro e w' ⟨rfl, rfl⟩
    go_wp2_with fail
    refine C2.out.mono ?_
    rintro e w' ⟨rfl, rfl⟩
    go_wp2_with fail
    refine Cs.out.mono ?_
    rintro e w1 ⟨zs, hz, A1, k1, c1, rfl, g1, g2, g3, g4, g5⟩
    obtain ⟨r1, r2, r3⟩ := Hres.out zs hz
    go_wp2_with fail
    go_ret
    exact ⟨zs, r1, r2, r3, A1, k1, c1, rfl, g1, g2, g3, g4, g5⟩
theorem nat_mul_any (k : Nat) : ∀ (A B : Option Addr) (n m c d : Nat) (xs ys : List Int) (w : World), lmN xs n + lmN ys m < k → Limbs w A n xs → Limbs w B m ys → n ≤ c → c ≤ 9223372036854775807 → m ≤ d → d ≤ 9223372036854775807 → n ≤ 10000000 → m ≤ 10000000 → Calls Try.prog 33 #[.slice A n c, .slice B m d] w (MulGives n m xs ys w) := by
  induction k with
  | zero => intro _ _ _ _ _ _ _ _ _ h; omega
  | succ k ih =>
    intro A B n m c d xs ys w hk hx hy hnc hc hmd hd hn hm
    have ih' := fun A B n' m' c d xs' ys' w (h : lmN xs' n' + lmN ys' m' < lmN xs n + lmN ys m) => ih A B n' m' c d xs' ys' w (by omega)
    by_cases hs : lmN xs n < 8 ∨ lmN ys m < 8
    · exact nat_mulS A B n m c d xs ys w hx hy hnc hc hmd hd hn hm hs
    · rcases Nat.lt_trichotomy (lmN xs n) (lmN ys m) with h | h | h
      · exact nat_mulL A B n m c d xs ys w hx hy hnc hc hmd hd hn hm (by omega) (by omega) h ih'
      · exact nat_mulE A B n m c d xs ys w hx hy hnc hc hmd hd hn hm (by omega) (by omega) h.symm ih'
      · exact nat_mulK A B n m c d xs ys w hx hy hnc hc hmd hd hn hm (by omega) (by omega) h ih'
end Go.Proofs.Ytjmbejodcloapaa
