/- Plain facts: a plain polynomial as an argument; the document's example of layer 17.
   Contracts: the law's sum, times, same; the document's example of layer 17 (awake).
   Contract: the law's small: few terms, of few limbs, of low exponents.
   Plain facts for the laws of layer 17: small polynomials, their sums and products.
   Values of sums and products; Leibniz's law; degrees of products. No program in sight. -/
import Derived.Test.YtjmbejodcloapaaGreatPTj
import Derived.Test.YtjmbejodcloapaaGreatPFstK
import Derived.Test.YtjmbejodcloapaaGreatPMvar
import Derived.Test.YtjmbejodcloapaaGreatPMdiv
import Derived.Test.YtjmbejodcloapaaGreatPZsc
import Derived.Test.YtjmbejodcloapaaGreatPPlains
import Derived.Test.YtjmbejodcloapaaGreatPMvs
set_option linter.unusedVariables false
set_option linter.unusedSimpArgs false
namespace Cl
theorem zval_short {s : Bool} {xs : List Int} {z : Int} (h : ZVal s xs z) {C : Nat} (hz : z.natAbs < 2 ^ (64 * C)) : xs.length ≤ C := by
  rcases Nat.eq_zero_or_pos xs.length with h0 | h0
  · omega
  · have h1 := h.pl.low h0
    have h2 : limbs xs = z.natAbs := by
      have := h.eq
      unfold intZ at this
      cases s <;> simp at this <;> omega
    rw [h2] at h1
    by_cases hlt : xs.length ≤ C
    · exact hlt
    · exfalso
      have h3 : 2 ^ (64 * C) ≤ 2 ^ (64 * (xs.length - 1)) := Nat.pow_le_pow_right (by omega) (by omega)
      omega
theorem arg_plain {n C : Nat} {L : List TV} {M : Mv} (h : PlainT n L) (e : EqM n (mvT L) M) (hb : BdM 1000 M) (hz : absM M < 2 ^ (64 * C)) (hl : M.length ≤ 4096) : Arg n C L where
  len t ht := h.mv.len (valT t) (List.mem_map.2 ⟨t, ht, rfl⟩)
  bd t ht := h.mv.bd e hb (valT t) (List.mem_map.2 ⟨t, ht, rfl⟩)
  co t ht := zval_short (h.co t ht) (Nat.lt_of_le_of_lt (h.mv.small e (t := valT t) (List.mem_map.2 ⟨t, ht, rfl⟩)) hz)
  cnt := by
    have := h.mv.count e
    rw [mvT_length] at this
    omega
theorem plain_mv {n : Nat} {L : List TV} {M N : Mv} (h : PlainT n L) (e : EqM n (mvT L) M) (hN : PlainM n N) (e2 : EqM n M N) : mvT L = N := h.mv.unique hN (e.trans e2)
def exX : Mv := [([1, 0], 1)]
def exY : Mv := [([0, 1], 1)]
def exS : Mv := [([1, 0], 1), ([0, 1], 1)]
def exD : Mv := [([1, 0], 1), ([0, 1], -1)]
def exP : Mv := [([2, 0], 1), ([0, 2], -1)]
theorem plain_one {p : Plc} {z : Int} (hp : p.length = 2) (hz : z ≠ 0) : PlainM 2 [(p, z)] := ⟨fun t ht => by rw [List.mem_singleton.1 ht]; exact hp, List.pairwise_singleton _ _, fun t ht => by rw [List.mem_singleton.1 ht]; exact hz⟩
theorem plain_two {p q : Plc} {y z : Int} (hp : p.length = 2) (hq : q.length = 2) (hy : y ≠ 0) (hz : z ≠ 0) (h : ltP q p) : PlainM 2 [(p, y), (q, z)] :=
  ⟨fun t ht => by
    simp only [List.mem_cons, List.not_mem_nil, or_false] at ht
    rcases ht with rfl | rfl
    · exact hp
    · exact hq, List.pairwise_cons.2 ⟨fun t ht => by rw [List.mem_singleton.1 ht]; exact h, List.pairwise_singleton _ _⟩, fun t ht => by
    simp only [List.mem_cons, List.not_mem_nil, or_false] at ht
    rcases ht with rfl | rfl
    · exact hy
    · exact hz⟩
theorem exX_pl : PlainM 2 exX := plain_one rfl (by decide)
theorem exY_pl : PlainM 2 exY := plain_one rfl (by decide)
theorem exS_pl : PlainM 2 exS := plain_two rfl rfl (by decide) (by decide) (Or.inl (by decide))
theorem exD_pl : PlainM 2 exD := plain_two rfl rfl (by decide) (by decide) (Or.inl (by decide))
theorem exP_pl : PlainM 2 exP := plain_two rfl rfl (by decide) (by decide) (Or.inl (by decide))
theorem exS_eq : EqM 2 (exX ++ scaleM 1 exY) exS := fun _ _ => rfl
theorem exD_eq : EqM 2 (exX ++ scaleM (-1) exY) exD := fun _ _ => rfl
theorem exP_eq : EqM 2 (mulM exS exD) exP := fun p _ => by
  show coM [([2, 0], 1), ([1, 1], -1), ([1, 1], 1), ([0, 2], -1)] p = _
  unfold exP
  rw [coM_cons, coM_cons, coM_cons, coM_cons, coM_cons, coM_cons]
  show (if [2, 0] = p then (1 : Int) else 0) + ((if [1, 1] = p then (-1 : Int) else 0) + ((if [1, 1] = p then (1 : Int) else 0) + _)) = (if [2, 0] = p then (1 : Int) else 0) + _
  split <;> split <;> omega
theorem exD_quo : EqM 2 (mulM exD exS) exP := fun p hp => by rw [mulM_comm]; exact exP_eq p hp
theorem ex_bd1 : BdM 1 exX ∧ BdM 1 exY ∧ BdM 1 exS ∧ BdM 1 exD := by
  refine ⟨?_, ?_, ?_, ?_⟩ <;>
  · intro t ht x hx
    simp only [exX, exY, exS, exD, List.mem_cons, List.not_mem_nil, or_false] at ht
    rcases ht with rfl | rfl <;> (simp only [List.mem_cons, List.not_mem_nil, or_false] at hx; rcases hx with rfl | rfl <;> omega)
theorem exP_bd : BdM 2 exP := fun t ht x hx => by
  simp only [exP, List.mem_cons, List.not_mem_nil, or_false] at ht
  rcases ht with rfl | rfl <;> (simp only [List.mem_cons, List.not_mem_nil, or_false] at hx; rcases hx with rfl | rfl <;> omega)
end Cl
namespace Go.Proofs.YtjmbejodcloapaaGreat
open Go.RowKit Cl
attribute [local go_sem ↓] Go.wp_at_zero Go.wp_at_succ
section
variable (n Ca Cb : Nat) (A B : Option Addr) (ma ca mb cb : Nat) (L T : List TV) (w : World) (hx : Trs w A ma L) (hy : Trs w B mb T) (hL : Arg n Ca L) (hT : Arg n Cb T) (hn : n ≤ 6)
include hx hy hL hT hn
set_option maxRecDepth 100000 in
theorem pAdd (hCa : Ca ≤ 10000) (hCb : Cb ≤ 10000) (hl : ma + mb ≤ 4096) : Calls Tryz.prog 20 #[.int .i64 (n : Int), .slice A ma ca, .slice B mb cb] w (GivesP w n (mvT L ++ scaleM 1 (mvT T))) := by
  have C := Lib.hid (mjoined n Ca Cb A B ma ca mb cb L T 1 (.inl rfl) w hx hy hL hT hn hCa hCb hl)
  clear hx hy hL hT
  go_enter Tryz.func20, Tryz.ntmps20
  go_wp2_with fail
  refine C.out.mono ?_
  rintro e w1 ⟨A3, c3, L3, rfl, q1, q2, q3, q4, q5, q6⟩
  have F := Lib.hid (show GivesP w n (mvT L ++ scaleM 1 (mvT T)) (.returned (.tuple #[.slice A3 L3.length c3, .int .i64 0])) w1 from ⟨A3, c3, L3, rfl, q1, q2, q3, q4, q5, q6⟩)
  clear q3 q4 q5 q6
  go_wp2_with fail
  go_ret2
  exact F.out
set_option maxRecDepth 100000 in
theorem pSub (hCa : Ca ≤ 10000) (hCb : Cb ≤ 10000) (hl : ma + mb ≤ 4096) : Calls Tryz.prog 21 #[.int .i64 (n : Int), .slice A ma ca, .slice B mb cb] w (GivesP w n (mvT L ++ scaleM (-1) (mvT T))) := by
  have C := Lib.hid (mjoined n Ca Cb A B ma ca mb cb L T (-1) (.inr rfl) w hx hy hL hT hn hCa hCb hl)
  clear hx hy hL hT
  go_enter Tryz.func21, Tryz.ntmps21
  go_wp2_with fail
  refine C.out.mono ?_
  rintro e w1 ⟨A3, c3, L3, rfl, q1, q2, q3, q4, q5, q6⟩
  have F := Lib.hid (show GivesP w n (mvT L ++ scaleM (-1) (mvT T)) (.returned (.tuple #[.slice A3 L3.length c3, .int .i64 0])) w1 from ⟨A3, c3, L3, rfl, q1, q2, q3, q4, q5, q6⟩)
  clear q3 q4 q5 q6
  go_wp2_with fail
  go_ret2
  exact F.out
end
set_option maxRecDepth 100000 in
theorem lsame_true (A B : Option Addr) (n c d : Nat) (L : List TV) (w : World) (hx : Trs w A n L) (hy : Trs w B n L) (hn : n ≤ 100000000) :
    Calls Tryz.prog 9 #[.slice A n c, .slice B n d] w fun e w' => e = .returned (.bool true) ∧ Below w.heap.size w w' := by
  have C := Lib.hid (same17_true A B n c d L w hx hy hn)
  clear hx hy
  go_enter Tryz.func9, Tryz.ntmps9
  go_wp2_with fail
  refine C.out.mono ?_
  rintro e w1 ⟨rfl, hb⟩
  have Hb := Lib.hid hb
  clear hb
  go_wp2_with fail
  go_ret
  exact ⟨rfl, Hb.out⟩
set_option maxRecDepth 100000 in
theorem lsame_no (A B : Option Addr) (n c d : Nat) (L M : List TV) (w : World) (hx : Trs w A n L) (hy : Trs w B n M) (hn : n ≤ 100000000) (hp : ∀ i (h : i < L.length) (h' : i < M.length), (L[i]).2 = (M[i]).2) (hd : L ≠ M) :
    Calls Tryz.prog 9 #[.slice A n c, .slice B n d] w fun e w' => e = .returned (.bool false) ∧ Below w.heap.size w w' := by
  have C := Lib.hid (same17_no A B n c d L M w hx hy hn hp hd)
  clear hx hy hp hd
  go_enter Tryz.func9, Tryz.ntmps9
  go_wp2_with fail
  refine C.out.mono ?_
  rintro e w1 ⟨rfl, hb⟩
  have Hb := Lib.hid hb
  clear hb
  go_wp2_with fail
  go_ret
  exact ⟨rfl, Hb.out⟩
theorem mv_len {L : List TV} {M : Mv} (h : mvT L = M) {k : Nat} (hk : M.length = k) : L.length = k := by rw [← mvT_length L, h, hk]
set_option maxRecDepth 1000000 in
set_option maxHeartbeats 8000000 in
theorem awake17 (w : World) : Calls Tryz.prog 5 #[] w fun e w' => e = .returned (.bool true) ∧ Below w.heap.size w w' := by
  go_enter Tryz.func5, Tryz.ntmps5
  go_wp2_with fail
  refine (mvar0 w).mono ?_
  rintro e w1 ⟨A1, c1, X, rfl, _, _, x3, x4, x5, hb1⟩
  have eX : mvT X = exX := plain_mv x4 x5 exX_pl (EqM.refl 2 _)
  have aX : Arg 2 1 X := arg_plain x4 (x5.trans (EqM.refl 2 exX)) (ex_bd1.1.mono (by omega)) (by decide) (by decide)
  have lX := mv_len eX (k := 1) rfl
  rw [lX] at x3 ⊢
  have H1 := Lib.hid x3
  have EX := Lib.hid eX
  have AX := Lib.hid aX
  have Hb1 := Lib.hid hb1
  clear x3 x4 x5 eX aX lX hb1
  go_wp2_with fail
  refine (mvar1 w1).mono ?_
  rintro e w2 ⟨A2, c2, Y, rfl, _, _, y3, y4, y5, hb2⟩
  have eY : mvT Y = exY := plain_mv y4 y5 exY_pl (EqM.refl 2 _)
  have aY : Arg 2 1 Y := arg_plain y4 (y5.trans (EqM.refl 2 exY)) (ex_bd1.2.1.mono (by omega)) (by decide) (by decide)
  have lY := mv_len eY (k := 1) rfl
  rw [lY] at y3 ⊢
  have H1' := Lib.hid (H1.out.bel hb2)
  have H2 := Lib.hid y3
  have EY := Lib.hid eY
  have AY := Lib.hid aY
  have Hb2 : Hid (Below w.heap.size w w2) := Hb1.out.trans (hb2.mono Hb1.out.size)
  clear y3 y4 y5 eY aY lY hb2 H1 Hb1
  go_wp2_with fail
  refine (pAdd 2 1 1 A1 A2 1 c1 1 c2 X Y w2 H1'.out H2.out AX.out AY.out (by omega) (by omega) (by omega) (by omega)).mono ?_
  rintro e w3 ⟨A3, c3, S, rfl, _, _, s3, s4, s5, hb3⟩
  rw [EX.out, EY.out] at s5
  have eS : mvT S = exS := plain_mv s4 s5 exS_pl exS_eq
  have aS : Arg 2 1 S := arg_plain s4 (s5.trans exS_eq) (ex_bd1.2.2.1.mono (by omega)) (by decide) (by decide)
  have lS := mv_len eS (k := 2) rfl
  rw [lS] at s3 ⊢
  have H1 := Lib.hid (H1'.out.bel hb3)
  have H2' := Lib.hid (H2.out.bel hb3)
  have H3 := Lib.hid s3
  have ES := Lib.hid eS
  have AS := Lib.hid aS
  have Hb3 : Hid (Below w.heap.size w w3) := Hb2.out.trans (hb3.mono Hb2.out.size)
  clear s3 s4 s5 eS aS lS hb3 H1' H2 Hb2
  go_wp2_with fail
  refine (pSub 2 1 1 A1 A2 1 c1 1 c2 X Y w3 H1.out H2'.out AX.out AY.out (by omega) (by omega) (by omega) (by omega)).mono ?_
  rintro e w4 ⟨A4, c4, D, rfl, _, _, d3, d4, d5, hb4⟩
  rw [EX.out, EY.out] at d5
  have eD : mvT D = exD := plain_mv d4 d5 exD_pl exD_eq
  have aD : Arg 2 1 D := arg_plain d4 (d5.trans exD_eq) (ex_bd1.2.2.2.mono (by omega)) (by decide) (by decide)
  have lD := mv_len eD (k := 2) rfl
  rw [lD] at d3 ⊢
  have H3' := Lib.hid (H3.out.bel hb4)
  have H4 := Lib.hid d3
  have ED := Lib.hid eD
  have AD := Lib.hid aD
  have PD := Lib.hid d4
  have Hb4 : Hid (Below w.heap.size w w4) := Hb3.out.trans (hb4.mono Hb3.out.size)
  clear d3 d4 d5 eD aD lD hb4 H1 H2' H3 Hb3
  go_wp2_with fail
  refine (mmul 2 1 1 A3 A4 2 c3 2 c4 S D 1 1 w4 H3'.out H4.out AS.out AD.out (by omega) (by omega) (by omega) (by omega) (by rw [ES.out]; exact ex_bd1.2.2.1) (by rw [ED.out]; exact ex_bd1.2.2.2) (by omega)).mono ?_
  rintro e w5 ⟨A5, c5, P, rfl, _, _, p3, p4, p5, hb5⟩
  rw [ES.out, ED.out] at p5
  have eP : mvT P = exP := plain_mv p4 p5 exP_pl exP_eq
  have aP : Arg 2 1 P := arg_plain p4 (p5.trans exP_eq) (exP_bd.mono (by omega)) (by decide) (by decide)
  have lP := mv_len eP (k := 2) rfl
  rw [lP] at p3 ⊢
  have H3 := Lib.hid (H3'.out.bel hb5)
  have H4' := Lib.hid (H4.out.bel hb5)
  have H5 := Lib.hid p3
  have EP := Lib.hid eP
  have AP := Lib.hid aP
  have Hb5 : Hid (Below w.heap.size w w5) := Hb4.out.trans (hb5.mono Hb4.out.size)
  clear p3 p4 p5 eP aP lP hb5 H3' H4 Hb4
  go_wp2_with fail
  refine (mdivE 2 1 1 A5 A3 2 c5 2 c3 P S exD [([0, 1], 1)] [1, 0] 1 w5 H5.out H3.out AP.out AS.out (by omega) (by omega) exS_pl (by rw [ES.out]; exact EqM.refl 2 _) exD_pl (by rw [ES.out, EP.out]; exact exD_quo) (ex_bd1.2.2.2.mono (by omega)) (by decide) (by omega) (by decide) (exactC_one _)).mono ?_
  rintro e w6 ⟨A6, c6, Q, rfl, _, _, q3, q4, q5, hb6⟩
  have hQD : Q = D := q4.unique PD.out (by rw [ED.out]; exact q5)
  subst hQD
  have lQ := mv_len ED.out (k := 2) rfl
  rw [lQ] at q3 ⊢
  have H3' := Lib.hid (H3.out.bel hb6)
  have H4 := Lib.hid (H4'.out.bel hb6)
  have H6 := Lib.hid q3
  have Hb6 : Hid (Below w.heap.size w w6) := Hb5.out.trans (hb6.mono Hb5.out.size)
  clear q3 q4 q5 lQ hb6 H3 H4' H5 Hb5
  go_wp2_with fail
  refine (lsame_true A6 A4 2 c6 c4 Q w6 H6.out H4.out (by omega)).mono ?_
  rintro e w7 ⟨rfl, hb7⟩
  have hne : S ≠ Q := fun e => by
    have h1 := ES.out
    rw [e, ED.out] at h1
    exact absurd h1 (by decide)
  have hpl : ∀ i (h : i < S.length) (h' : i < Q.length), (S[i]).2 = (Q[i]).2 := fun i h h' => by
    have e1 : (mvT S)[i]'(by rw [mvT_length]; exact h) = valT S[i] := by simp [mvT]
    have e2 : (mvT Q)[i]'(by rw [mvT_length]; exact h') = valT Q[i] := by simp [mvT]
    have h1 : (valT S[i]).1 = (valT Q[i]).1 := by
      rw [← e1, ← e2]
      have hl := mv_len ES.out (k := 2) rfl
      have g1 := ES.out
      have g2 := ED.out
      have k1 : (mvT S)[i]? = exS[i]? := by rw [g1]
      have k2 : (mvT Q)[i]? = exD[i]? := by rw [g2]
      rw [List.getElem?_eq_getElem (by rw [mvT_length]; exact h)] at k1
      rw [List.getElem?_eq_getElem (by rw [mvT_length]; exact h')] at k2
      match i, hl ▸ h with
      | 0, _ => injection k1 with k1; injection k2 with k2; rw [k1, k2]
      | 1, _ => injection k1 with k1; injection k2 with k2; rw [k1, k2]
    exact h1
  have C8 := Lib.hid (lsame_no A3 A4 2 c3 c4 S Q w7 (H3'.out.bel hb7) (H4.out.bel hb7) (by omega) hpl hne)
  have Hb7 : Hid (Below w.heap.size w w7) := Hb6.out.trans (hb7.mono Hb6.out.size)
  clear hb7 hne hpl
  go_wp2_with fail
  refine C8.out.mono ?_
  rintro e w8 ⟨rfl, hb8⟩
  have Hb8 : Hid (Below w.heap.size w w8) := Hb7.out.trans (hb8.mono Hb7.out.size)
  clear hb8
  go_wp2_with fail
  go_ret
  exact ⟨rfl, Hb8.out⟩
end Go.Proofs.YtjmbejodcloapaaGreat
namespace Go.Proofs.YtjmbejodcloapaaGreat
open Go.RowKit Cl
attribute [local go_sem ↓] Go.wp_at_zero Go.wp_at_succ
def SmallL (most limbs degree : Int) (L : List TV) : Prop := (L.length : Int) ≤ most ∧ ∀ i (h : i < L.length), ((L[i]).1.2.length : Int) ≤ limbs ∧ ∀ j, j < (L[i]).2.length → ¬ (degree < nth (L[i]).2 j ∧ nth (L[i]).2 j ≤ 1000)
def SmallSaid (w : World) (most limbs degree : Int) (m : Nat) (Ls : Nat → List TV) (e : Ending) (w' : World) : Prop :=
  ∃ b : Bool, e = .returned (.bool b) ∧ w = w' ∧ (b = true → ∀ k, k < m → SmallL most limbs degree (Ls k))
theorem small_no {w : World} {most limbs degree : Int} {m : Nat} {Ls : Nat → List TV} : SmallSaid w most limbs degree m Ls (.returned (.bool false)) w := ⟨false, rfl, rfl, fun h => by cases h⟩
set_option maxRecDepth 100000 in
set_option maxHeartbeats 8000000 in
theorem lsmall (most limbs degree : Int) (g m c : Nat) (f : Nat → Option Addr) (ms cs : Nat → Nat) (Ls : Nat → List TV) (w : World) (hm : m ≤ 100)
    (h : ∀ k, k < m → w.cell? ⟨g, k, none⟩ = some (.slice (f k) (ms k) (cs k)) ∧ Trs w (f k) (ms k) (Ls k) ∧ ms k ≤ 9223372036854775807) :
    Calls Tryz.prog 6 #[.int .i64 most, .int .i64 limbs, .int .i64 degree, .slice (some ⟨g, 0, none⟩) m c] w (SmallSaid w most limbs degree m Ls) := by
  have H := Lib.hid h
  have hno : Hid (SmallSaid w most limbs degree m Ls (.returned (.bool false)) w) := small_no
  clear h
  go_enter Tryz.func6, Tryz.ntmps6
  go_wp2
  go_loopw [9] (fun v wr => ∃ i : Nat, i ≤ m ∧ v = .int .i64 i ∧ w = wr ∧ Hid (∀ k, k < i → SmallL most limbs degree (Ls k))) (fun v _ => m - (intOf v).toNat)
  case atStart => exact ⟨0, by omega, rfl, rfl, fun k hk => absurd hk (by omega)⟩
  case round =>
    obtain ⟨i, hi, rfl, rfl, hdone⟩ := hrel
    by_cases hlt : i < m
    · obtain ⟨q1, q2, q3⟩ := H.out i hlt
      have hLl := q2.len
      have HT := Lib.hid q2
      have hlt' : (i : Int) < (m : Int) := by omega
      have hi0 : (0 : Int) ≤ (i : Int) := by omega
      generalize hLe : Ls i = L at *
      generalize f i = A at *
      generalize hme : ms i = n at *
      generalize cs i = cc at *
      have HLe := Lib.hid hLe
      have HLl := Lib.hid hLl
      clear q2 hLe hLl hme
      by_cases hmo : most < (n : Int)
      · go_wp2_with fail
        go_ret
        exact hno.out
      · go_wp2_with fail
        go_loopw [10] (fun v wr => ∃ k : Nat, k ≤ n ∧ v = .int .i64 k ∧ w = wr ∧ Hid (∀ k' (h : k' < L.length), k' < k → ((L[k']).1.2.length : Int) ≤ limbs ∧ ∀ j, j < (L[k']).2.length → ¬ (degree < nth (L[k']).2 j ∧ nth (L[k']).2 j ≤ 1000))) (fun v _ => n - (intOf v).toNat)
        case atStart => exact ⟨0, by omega, rfl, rfl, fun k _ hk => absurd hk (by omega)⟩
        case round =>
          obtain ⟨k, hk, rfl, rfl, hin⟩ := hrel
          by_cases hkn : k < n
          · obtain ⟨b, o, rfl, hb, hc⟩ := HT.out.at_ (by omega)
            have hkl : k < L.length := by rw [HLl.out]; exact hkn
            obtain ⟨Ai, ci, Ei, ei, e1, e2, e3, e4, e5, e6, e7, e8, e9⟩ := hc k hkl
            have hkn' : (k : Int) < (n : Int) := by omega
            have hk0 : (0 : Int) ≤ (k : Int) := by omega
            rw [Nat.mul_comm 3 k] at e2 e3
            rw [← Nat.add_assoc] at e2 e3
            have hstep : Hid (((L[k]).1.2.length : Int) ≤ limbs → (∀ j, j < (L[k]).2.length → ¬ (degree < nth (L[k]).2 j ∧ nth (L[k]).2 j ≤ 1000)) → ∀ k' (h : k' < L.length), k' < k + 1 → ((L[k']).1.2.length : Int) ≤ limbs ∧ ∀ j, j < (L[k']).2.length → ¬ (degree < nth (L[k']).2 j ∧ nth (L[k']).2 j ≤ 1000)) := fun h1 h2 k' h hk' => by
              by_cases e : k' = k
              · subst e; exact ⟨h1, h2⟩
              · exact hin.out k' h (by omega)
            clear hc e1 e8
            generalize L[k] = x at *
            obtain ⟨⟨s, xs⟩, ps⟩ := x
            simp only at e2 e3 e4 e6 e9 hstep
            have E9 := Lib.hid e9
            clear e9
            by_cases hli : limbs < (xs.length : Int)
            · go_wp2_with fail
              go_ret
              exact hno.out
            · go_wp2_with fail
              go_loopw [11] (fun v wr => ∃ j : Nat, j ≤ ps.length ∧ v = .int .i64 j ∧ w = wr ∧ Hid (∀ j', j' < j → ¬ (degree < nth ps j' ∧ nth ps j' ≤ 1000))) (fun v _ => ps.length - (intOf v).toNat)
              case atStart => exact ⟨0, by omega, rfl, rfl, fun j hj => absurd hj (by omega)⟩
              case round =>
                obtain ⟨j, hj, rfl, rfl, hin2⟩ := hrel
                by_cases hjl : j < ps.length
                · obtain ⟨be, oe, rfl, hbe, hce⟩ := E9.out.at_ (by omega)
                  have hcx := hce j hjl
                  have hjl' : (j : Int) < (ps.length : Int) := by omega
                  have hj0 : (0 : Int) ≤ (j : Int) := by omega
                  have hst2 : Hid (¬ (degree < nth ps j ∧ nth ps j ≤ 1000) → ∀ j', j' < j + 1 → ¬ (degree < nth ps j' ∧ nth ps j' ≤ 1000)) := fun h1 j' hj' => by
                    by_cases e : j' = j
                    · subst e; exact h1
                    · exact hin2.out j' (by omega)
                  clear hce
                  generalize nth ps j = y at *
                  by_cases hy1 : degree < y
                  · by_cases hy2 : y ≤ 1000
                    · go_wp2_with fail
                      go_ret
                      exact hno.out
                    · have hn2 := Lib.hid (hst2.out (fun h => hy2 h.2))
                      go_wp2_with fail
                      go_roundw
                      case rel => exact ⟨j + 1, by omega, by go_num, (by first | trivial | rfl), hn2⟩
                      case measure => simp [intOf]; omega
                  · have hn2 := Lib.hid (hst2.out (fun h => hy1 h.1))
                    go_wp2_with fail
                    go_roundw
                    case rel => exact ⟨j + 1, by omega, by go_num, (by first | trivial | rfl), hn2⟩
                    case measure => simp [intOf]; omega
                · obtain rfl : j = ps.length := by omega
                  have hjl' : ¬ (ps.length : Int) < (ps.length : Int) := by omega
                  have hn3 := Lib.hid (hstep.out (by omega) hin2.out)
                  go_wp2_with fail
                  go_roundw
                  case rel => exact ⟨k + 1, by omega, by go_num, (by first | trivial | rfl), hn3⟩
                  case measure => simp [intOf]; omega
          · obtain rfl : k = n := by omega
            have hkn' : ¬ (k : Int) < (k : Int) := by omega
            have hn4 : Hid (∀ k', k' < i + 1 → SmallL most limbs degree (Ls k')) := fun k' hk' => by
              by_cases e : k' = i
              · subst e
                rw [HLe.out]
                exact ⟨by rw [HLl.out]; omega, fun a ha => hin.out a ha (by rw [← HLl.out]; exact ha)⟩
              · exact hdone.out k' (by omega)
            go_wp2_with fail
            go_roundw
            case rel => exact ⟨i + 1, by omega, by go_num, (by first | trivial | rfl), hn4⟩
            case measure => simp [intOf]; omega
    · obtain rfl : i = m := by omega
      have hlt' : ¬ (i : Int) < (i : Int) := by omega
      have hyes : Hid (SmallSaid w most limbs degree i Ls (.returned (.bool true)) w) := ⟨true, rfl, rfl, fun _ => hdone.out⟩
      go_wp2_with fail
      go_ret
      exact hyes.out
def Small2 (w : World) (most limbs degree : Int) (L1 L2 : List TV) (e : Ending) (w' : World) : Prop :=
  ∃ b : Bool, e = .returned (.bool b) ∧ w = w' ∧ (b = true → SmallL most limbs degree L1 ∧ SmallL most limbs degree L2)
theorem lsmall2 (most limbs degree : Int) (g c : Nat) (A1 A2 : Option Addr) (m1 m2 c1 c2 : Nat) (L1 L2 : List TV) (w : World)
    (q1 : w.cell? ⟨g, 0, none⟩ = some (.slice A1 m1 c1)) (q2 : w.cell? ⟨g, 1, none⟩ = some (.slice A2 m2 c2)) (h1 : Trs w A1 m1 L1) (h2 : Trs w A2 m2 L2) (k1 : m1 ≤ 9223372036854775807) (k2 : m2 ≤ 9223372036854775807) :
    Calls Tryz.prog 6 #[.int .i64 most, .int .i64 limbs, .int .i64 degree, .slice (some ⟨g, 0, none⟩) 2 c] w (Small2 w most limbs degree L1 L2) := by
  refine (lsmall most limbs degree g 2 c (fun k => if k = 0 then A1 else A2) (fun k => if k = 0 then m1 else m2) (fun k => if k = 0 then c1 else c2) (fun k => if k = 0 then L1 else L2) w (by omega) fun k hk => ?_).mono ?_
  · match k, hk with
    | 0, _ => exact ⟨q1, h1, k1⟩
    | 1, _ => exact ⟨q2, h2, k2⟩
  · rintro e w' ⟨b, he, hw, hb⟩
    exact ⟨b, he, hw, fun h => ⟨hb h 0 (by omega), hb h 1 (by omega)⟩⟩
end Go.Proofs.YtjmbejodcloapaaGreat
namespace Go.Proofs.YtjmbejodcloapaaGreat
open Go.RowKit Cl
structure In (n : Nat) (d : Int) (L : List TV) : Prop where
  arg : Arg n 2 L
  bd : BdM d (mvT L)
  cnt : L.length ≤ 8
  ab : absM (mvT L) ≤ 8 * 2 ^ 128
theorem intZ_abs (s : Bool) {xs : List Int} (h : IsLimbs xs) {C : Nat} (hC : xs.length ≤ C) : (intZ s xs).natAbs < 2 ^ (64 * C) := by
  have h1 := limbs_lt h
  have h2 : 2 ^ (64 * xs.length) ≤ 2 ^ (64 * C) := Nat.pow_le_pow_right (by omega) (by omega)
  have h3 : (intZ s xs).natAbs = limbs xs := by
    unfold intZ
    cases s <;> simp
  omega
theorem trs_limbs {w : World} {A : Option Addr} {m : Nat} {L : List TV} (h : Trs w A m L) : ∀ t ∈ L, IsLimbs t.1.2 := fun t ht => by
  obtain ⟨i, hi, rfl⟩ := List.getElem_of_mem ht
  have h0 : 0 < m := by rw [← h.len]; omega
  obtain ⟨b, o, _, _, hc⟩ := h.at_ h0
  obtain ⟨_, _, _, _, _, _, _, _, _, _, _, h8, _⟩ := hc i hi
  exact h8.ok
theorem in_of {n : Nat} {d : Int} {w : World} {A : Option Addr} {m : Nat} {L : List TV} (hx : Trs w A m L) (hd : d ≤ 1000) (hs : SmallL 8 2 d L) (ho : OkL (n : Int) L) : In n d L := by
  obtain ⟨h1, h2⟩ := hs
  obtain ⟨_, _, _, h3⟩ := ho
  have hlen : ∀ t ∈ L, t.2.length = n := fun t ht => by
    obtain ⟨i, hi, rfl⟩ := List.getElem_of_mem ht
    have := (h3 i hi).1
    omega
  have hbd : ∀ t ∈ L, ∀ x ∈ t.2, 0 ≤ x ∧ x ≤ d := fun t ht x hxt => by
    obtain ⟨i, hi, rfl⟩ := List.getElem_of_mem ht
    obtain ⟨j, hj, rfl⟩ := List.getElem_of_mem hxt
    have k1 := (h3 i hi).2 j hj
    have k2 := (h2 i hi).2 j hj
    rw [nth_lt hj] at k1 k2
    obtain ⟨k3, k4⟩ := k1
    exact ⟨k3, by omega⟩
  have hco : ∀ t ∈ L, t.1.2.length ≤ 2 := fun t ht => by
    obtain ⟨i, hi, rfl⟩ := List.getElem_of_mem ht
    have := (h2 i hi).1
    omega
  have hcnt : L.length ≤ 8 := by omega
  have hab : absM (mvT L) ≤ L.length * 2 ^ 128 := by
    have h4 := absM_le (L := mvT L) (B := 2 ^ 128) fun t ht => by
      obtain ⟨u, hu, rfl⟩ := List.mem_map.1 ht
      exact Nat.le_of_lt (intZ_abs u.1.1 (trs_limbs hx u hu) (C := 2) (hco u hu))
    rwa [mvT_length] at h4
  exact ⟨⟨hlen, fun t ht x hxt => by have := hbd t ht x hxt; omega, hco, by omega⟩, mvT_bd hbd, hcnt, Nat.le_trans hab (Nat.mul_le_mul_right _ hcnt)⟩
end Go.Proofs.YtjmbejodcloapaaGreat
namespace Cl
section
variable {n i : Nat}
theorem sumL_filter {α : Type} (f : α → Int) (q : α → Bool) {L : List α} (h : ∀ a ∈ L, q a = false → f a = 0) : sumL f L = sumL f (L.filter q) := by
  induction L with
  | nil => rfl
  | cons a L ih =>
    have ih' := ih fun b hb => h b (List.mem_cons_of_mem _ hb)
    cases hq : q a with
    | true => rw [List.filter_cons_of_pos hq]; show f a + _ = f a + _; rw [ih']
    | false => rw [List.filter_cons_of_neg (by simp [hq])]; show f a + _ = _; rw [h a List.mem_cons_self hq, ih', Int.zero_add]
theorem nth_addI {a b : Plc} (ha : a.length = n) (hb : b.length = n) (hi : i < n) : nth (addP a b) i = nth a i + nth b i := by
  unfold addP nth
  simp [List.getD, ha, hb, hi]
theorem degL_spec (i : Nat) : ∀ (L : Mv), (∀ t ∈ L, 0 ≤ nth t.1 i) → (L = [] ∧ degL i L = -1) ∨ (0 ≤ degL i L ∧ (∀ t ∈ L, nth t.1 i ≤ degL i L) ∧ ∃ t ∈ L, nth t.1 i = degL i L) := fun L => by
  have gen : ∀ (M : Mv) (d : Int), (∀ t ∈ M, nth t.1 i ≤ M.foldl (fun d t => max d (nth t.1 i)) d) ∧ d ≤ M.foldl (fun d t => max d (nth t.1 i)) d ∧ (M.foldl (fun d t => max d (nth t.1 i)) d = d ∨ ∃ t ∈ M, nth t.1 i = M.foldl (fun d t => max d (nth t.1 i)) d) := fun M => by
    induction M with
    | nil => intro d; exact ⟨fun t ht => (by cases ht), Int.le_refl _, .inl rfl⟩
    | cons a M ih =>
      intro d
      obtain ⟨h1, h2, h3⟩ := ih (max d (nth a.1 i))
      refine ⟨fun t ht => ?_, ?_, ?_⟩
      · rcases List.mem_cons.1 ht with rfl | ht
        · show _ ≤ M.foldl _ (max d (nth t.1 i)); omega
        · exact h1 t ht
      · show _ ≤ M.foldl _ (max d (nth a.1 i)); omega
      · show M.foldl _ (max d (nth a.1 i)) = d ∨ _
        rcases h3 with h3 | ⟨t, ht, h3⟩
        · by_cases e : d ≤ nth a.1 i
          · exact .inr ⟨a, List.mem_cons_self, by show _ = M.foldl _ (max d (nth a.1 i)); omega⟩
          · exact .inl (by omega)
        · exact .inr ⟨t, List.mem_cons_of_mem _ ht, h3⟩
  intro h0
  obtain ⟨h1, h2, h3⟩ := gen L (-1)
  match L, h0, h1, h2, h3 with
  | [], _, _, _, _ => exact .inl ⟨rfl, rfl⟩
  | t :: L, h0, h1, h2, h3 =>
    have k1 := h1 t List.mem_cons_self
    have k0 := h0 t List.mem_cons_self
    refine .inr ⟨?_, h1, ?_⟩
    · show 0 ≤ List.foldl _ (-1) (t :: L); omega
    · rcases h3 with h3 | h3
      · exfalso; omega
      · exact h3
theorem filter_plain {L : Mv} (h : PlainM n L) (f : Trm → Bool) : PlainM n (L.filter f) := ⟨fun t ht => h.len t (List.mem_filter.1 ht).1, h.ord.sublist List.filter_sublist, fun t ht => h.ne t (List.mem_filter.1 ht).1⟩
theorem deg_mul {A B P : Mv} {dA dB : Int} (hi : i < n) (hA : PlainM n A) (hB : PlainM n B) (hP : PlainM n P) (bA : BdM dA A) (bB : BdM dB B) (e : EqM n P (mulM A B)) (hA0 : A ≠ []) (hB0 : B ≠ []) : degL i P = degL i A + degL i B ∧ 0 ≤ degL i A ∧ 0 ≤ degL i B := by
  have nA : ∀ t ∈ A, 0 ≤ nth t.1 i := fun t ht => (bA t ht _ (nth_mem (by rw [hA.len t ht]; exact hi))).1
  have nB : ∀ t ∈ B, 0 ≤ nth t.1 i := fun t ht => (bB t ht _ (nth_mem (by rw [hB.len t ht]; exact hi))).1
  have from' : ∀ t ∈ P, ∃ a ∈ A, ∃ b ∈ B, addP a.1 b.1 = t.1 := fun t ht => by
    obtain ⟨s, hs, e2⟩ := hP.from_ e ht
    obtain ⟨a, ha, hs⟩ := List.mem_flatMap.1 hs
    obtain ⟨b, hb, rfl⟩ := List.mem_map.1 hs
    exact ⟨a, ha, b, hb, e2⟩
  have nP : ∀ t ∈ P, 0 ≤ nth t.1 i := fun t ht => by
    obtain ⟨a, ha, b, hb, e2⟩ := from' t ht
    rw [← e2, nth_addI (hA.len a ha) (hB.len b hb) hi]
    have := nA a ha
    have := nB b hb
    omega
  rcases degL_spec i A nA with ⟨h, _⟩ | ⟨a0, a1, ⟨ta, hta, ea⟩⟩
  · exact absurd h hA0
  rcases degL_spec i B nB with ⟨h, _⟩ | ⟨b0, b1, ⟨tb, htb, eb⟩⟩
  · exact absurd h hB0
  refine ⟨?_, a0, b0⟩
  generalize hda : degL i A = da at *
  generalize hdb : degL i B = db at *
  -- the terms of greatest exponent
  have hAt := filter_plain hA fun t => decide (nth t.1 i = da)
  have hBt := filter_plain hB fun t => decide (nth t.1 i = db)
  have mA : ta ∈ A.filter fun t => decide (nth t.1 i = da) := List.mem_filter.2 ⟨hta, by simp [ea]⟩
  have mB : tb ∈ B.filter fun t => decide (nth t.1 i = db) := List.mem_filter.2 ⟨htb, by simp [eb]⟩
  obtain ⟨s, A', hsA⟩ := List.exists_cons_of_ne_nil (List.ne_nil_of_mem mA)
  obtain ⟨t, B', htB⟩ := List.exists_cons_of_ne_nil (List.ne_nil_of_mem mB)
  have hsm : s ∈ A.filter fun t => decide (nth t.1 i = da) := by rw [hsA]; exact List.mem_cons_self
  have htm : t ∈ B.filter fun t => decide (nth t.1 i = db) := by rw [htB]; exact List.mem_cons_self
  obtain ⟨hs1, hs2⟩ := List.mem_filter.1 hsm
  obtain ⟨ht1, ht2⟩ := List.mem_filter.1 htm
  have hs2 : nth s.1 i = da := by simpa using hs2
  have ht2 : nth t.1 i = db := by simpa using ht2
  have ls := hA.len s hs1
  have lt := hB.len t ht1
  have hnp : nth (addP s.1 t.1) i = da + db := by rw [nth_addI ls lt hi, hs2, ht2]
  have hpl := addP_length ls lt
  -- at that place the whole product holds what the product of those holds
  have hco : coM (mulM A B) (addP s.1 t.1) = coM (mulM (A.filter fun t => decide (nth t.1 i = da)) (B.filter fun t => decide (nth t.1 i = db))) (addP s.1 t.1) := by
    rw [coM_mul, coM_mul]
    have inner : ∀ a ∈ A, sumL (fun b : Trm => if addP a.1 b.1 = addP s.1 t.1 then a.2 * b.2 else 0) B = if nth a.1 i = da then sumL (fun b : Trm => if addP a.1 b.1 = addP s.1 t.1 then a.2 * b.2 else 0) (B.filter fun t => decide (nth t.1 i = db)) else 0 := fun a ha => by
      have hz : ∀ b ∈ B, addP a.1 b.1 = addP s.1 t.1 → nth a.1 i = da ∧ nth b.1 i = db := fun b hb e3 => by
        have h1 := nth_addI (hA.len a ha) (hB.len b hb) hi
        rw [e3, hnp] at h1
        have := a1 a ha
        have := b1 b hb
        omega
      by_cases ea2 : nth a.1 i = da
      · rw [if_pos ea2]
        exact sumL_filter _ _ fun b hb hnb => by
          rw [if_neg]
          intro e3
          have := (hz b hb e3).2
          simp [this] at hnb
      · rw [if_neg ea2, sumL_congr (g := fun _ => 0) fun b hb => if_neg fun e3 => ea2 (hz b hb e3).1, sumL_zero]
    rw [sumL_congr inner]
    refine (sumL_filter _ (fun a : Trm => decide (nth a.1 i = da)) fun a _ hna => ?_).trans (sumL_congr fun a ha => ?_)
    · rw [if_neg]
      intro e3
      simp [e3] at hna
    · have h2 := (List.mem_filter.1 ha).2
      rw [if_pos (by simpa using h2)]
  have hne : coM P (addP s.1 t.1) ≠ 0 := by
    rw [e _ hpl, hco, hsA, htB]
    rw [hsA] at hAt
    rw [htB] at hBt
    rw [(mul_lead hAt hBt).1]
    exact Int.mul_ne_zero (hA.ne s hs1) (hB.ne t ht1)
  obtain ⟨u, hu, hup⟩ := hP.mem_of_co hne
  rcases degL_spec i P nP with ⟨h, _⟩ | ⟨_, p1, ⟨v, hv, ev⟩⟩
  · rw [h] at hu; cases hu
  have k1 := p1 u hu
  rw [hup, hnp] at k1
  obtain ⟨a, ha, b, hb, e4⟩ := from' v hv
  have k2 := nth_addI (hA.len a ha) (hB.len b hb) hi
  rw [e4] at k2
  have := a1 a ha
  have := b1 b hb
  omega
end
end Cl
