/- Contract: the law's small: few terms, of few limbs, of low exponents.
   Plain facts for the laws of layer 17: small polynomials, their sums and products. -/
import Derived.Test.YtjmbejodcloapaaTermsK
import Derived.Test.YtjmbejodcloapaaAwkK
namespace Go.Proofs.Ytjmbejodcloapaa
open Go.RowKit Cl
attribute [local go_sem ↓] Go.wp_at_zero Go.wp_at_succ
/-- Few terms, of few limbs, of low exponents (or of some that may not be). -/
def SmallL (most limbs degree : Int) (L : List TV) : Prop := (L.length : Int) ≤ most ∧ ∀ i (h : i < L.length), ((L[i]).1.2.length : Int) ≤ limbs ∧ ∀ j, j < (L[i]).2.length → ¬ (degree < nth (L[i]).2 j ∧ nth (L[i]).2 j ≤ 1000)
def SmallSaid (w : World) (most limbs degree : Int) (m : Nat) (Ls : Nat → List TV) (e : Ending) (w' : World) : Prop :=
  ∃ b : Bool, e = .returned (.bool b) ∧ w = w' ∧ (b = true → ∀ k, k < m → SmallL most limbs degree (Ls k))
theorem small_no {w : World} {most limbs degree : Int} {m : Nat} {Ls : Nat → List TV} : SmallSaid w most limbs degree m Ls (.returned (.bool false)) w := ⟨false, rfl, rfl, fun h => by cases h⟩
set_option maxRecDepth 100000 in
set_option maxHeartbeats 8000000 in
theorem lsmall (most limbs degree : Int) (g m c : Nat) (f : Nat → Option Addr) (ms cs : Nat → Nat) (Ls : Nat → List TV) (w : World) (hm : m ≤ 100)
    (h : ∀ k, k < m → w.cell? ⟨g, k, none⟩ = some (.slice (f k) (ms k) (cs k)) ∧ Trs w (f k) (ms k) (Ls k) ∧ ms k ≤ 9223372036854775807) :
    Calls Try.prog 8 #[.int .i64 most, .int .i64 limbs, .int .i64 degree, .slice (some ⟨g, 0, none⟩) m c] w (SmallSaid w most limbs degree m Ls) := by
  have H := Lib.hid h
  have hno : Hid (SmallSaid w most limbs degree m Ls (.returned (.bool false)) w) := small_no
  clear h
  go_enter Try.func8, Try.ntmps8
  go_wp2
  go_loopw [9] (fun v wr => ∃ i : Nat, i ≤ m ∧ v = .int .i64 i ∧ w = wr ∧ Hid (∀ k, k < i → SmallL most limbs degree (Ls k))) (fun v _ => m - (intOf v).toNat)
  case atStart => exact ⟨0, by omega, rfl, rfl, fun k hk => absurd hk (by omega)⟩
  case round =>
    obtain ⟨i, hi, rfl, rfl, hdone⟩ := hrel
    by_cases hlt : i < m
    · obtain ⟨q1, q2, q3⟩ := H.out i hlt
      have hLl := q2.len
      have HT := Lib.hid q2
      have hlt' : (i : Int) < (m : Int) := by omega
      have hi0 : (0 : Int) ≤ (i : Int) := by omega
      generalize hLe : Ls i = L at *
      generalize f i = A at *
      generalize hme : ms i = n at *
      generalize cs i = cc at *
      have HLe := Lib.hid hLe
      have HLl := Lib.hid hLl
      clear q2 hLe hLl hme
      by_cases hmo : most < (n : Int)
      · go_wp2_with fail
        go_ret
        exact hno.out
      · go_wp2_with fail
        go_loopw [10] (fun v wr => ∃ k : Nat, k ≤ n ∧ v = .int .i64 k ∧ w = wr ∧ Hid (∀ k' (h : k' < L.length), k' < k → ((L[k']).1.2.length : Int) ≤ limbs ∧ ∀ j, j < (L[k']).2.length → ¬ (degree < nth (L[k']).2 j ∧ nth (L[k']).2 j ≤ 1000))) (fun v _ => n - (intOf v).toNat)
        case atStart => exact ⟨0, by omega, rfl, rfl, fun k _ hk => absurd hk (by omega)⟩
        case round =>
          obtain ⟨k, hk, rfl, rfl, hin⟩ := hrel
          by_cases hkn : k < n
          · obtain ⟨b, o, rfl, hb, hc⟩ := HT.out.at_ (by omega)
            have hkl : k < L.length := by rw [HLl.out]; exact hkn
            obtain ⟨Ai, ci, Ei, ei, e1, e2, e3, e4, e5, e6, e7, e8, e9⟩ := hc k hkl
            have hkn' : (k : Int) < (n : Int) := by omega
            have hk0 : (0 : Int) ≤ (k : Int) := by omega
            rw [Nat.mul_comm 3 k] at e2 e3
            rw [← Nat.add_assoc] at e2 e3
            have hstep : Hid (((L[k]).1.2.length : Int) ≤ limbs → (∀ j, j < (L[k]).2.length → ¬ (degree < nth (L[k]).2 j ∧ nth (L[k]).2 j ≤ 1000)) → ∀ k' (h : k' < L.length), k' < k + 1 → ((L[k']).1.2.length : Int) ≤ limbs ∧ ∀ j, j < (L[k']).2.length → ¬ (degree < nth (L[k']).2 j ∧ nth (L[k']).2 j ≤ 1000)) := fun h1 h2 k' h hk' => by
              by_cases e : k' = k
              · subst e; exact ⟨h1, h2⟩
              · exact hin.out k' h (by omega)
            clear hc e1 e8
            generalize L[k] = x at *
            obtain ⟨⟨s, xs⟩, ps⟩ := x
            simp only at e2 e3 e4 e6 e9 hstep
            have E9 := Lib.hid e9
            clear e9
            by_cases hli : limbs < (xs.length : Int)
            · go_wp2_with fail
              go_ret
              exact hno.out
            · go_wp2_with fail
              go_loopw [11] (fun v wr => ∃ j : Nat, j ≤ ps.length ∧ v = .int .i64 j ∧ w = wr ∧ Hid (∀ j', j' < j → ¬ (degree < nth ps j' ∧ nth ps j' ≤ 1000))) (fun v _ => ps.length - (intOf v).toNat)
              case atStart => exact ⟨0, by omega, rfl, rfl, fun j hj => absurd hj (by omega)⟩
              case round =>
                obtain ⟨j, hj, rfl, rfl, hin2⟩ := hrel
                by_cases hjl : j < ps.length
                · obtain ⟨be, oe, rfl, hbe, hce⟩ := E9.out.at_ (by omega)
                  have hcx := hce j hjl
                  have hjl' : (j : Int) < (ps.length : Int) := by omega
                  have hj0 : (0 : Int) ≤ (j : Int) := by omega
                  have hst2 : Hid (¬ (degree < nth ps j ∧ nth ps j ≤ 1000) → ∀ j', j' < j + 1 → ¬ (degree < nth ps j' ∧ nth ps j' ≤ 1000)) := fun h1 j' hj' => by
                    by_cases e : j' = j
                    · subst e; exact h1
                    · exact hin2.out j' (by omega)
                  clear hce
                  generalize nth ps j = y at *
                  by_cases hy1 : degree < y
                  · by_cases hy2 : y ≤ 1000
                    · go_wp2_with fail
                      go_ret
                      exact hno.out
                    · have hn2 := Lib.hid (hst2.out (fun h => hy2 h.2))
                      go_wp2_with fail
                      go_roundw
                      case rel => exact ⟨j + 1, by omega, by go_num, (by first | trivial | rfl), hn2⟩
                      case measure => simp [intOf]; omega
                  · have hn2 := Lib.hid (hst2.out (fun h => hy1 h.1))
                    go_wp2_with fail
                    go_roundw
                    case rel => exact ⟨j + 1, by omega, by go_num, (by first | trivial | rfl), hn2⟩
                    case measure => simp [intOf]; omega
                · obtain rfl : j = ps.length := by omega
                  have hjl' : ¬ (ps.length : Int) < (ps.length : Int) := by omega
                  have hn3 := Lib.hid (hstep.out (by omega) hin2.out)
                  go_wp2_with fail
                  go_roundw
                  case rel => exact ⟨k + 1, by omega, by go_num, (by first | trivial | rfl), hn3⟩
                  case measure => simp [intOf]; omega
          · obtain rfl : k = n := by omega
            have hkn' : ¬ (k : Int) < (k : Int) := by omega
            have hn4 : Hid (∀ k', k' < i + 1 → SmallL most limbs degree (Ls k')) := fun k' hk' => by
              by_cases e : k' = i
              · subst e
                rw [HLe.out]
                exact ⟨by rw [HLl.out]; omega, fun a ha => hin.out a ha (by rw [← HLl.out]; exact ha)⟩
              · exact hdone.out k' (by omega)
            go_wp2_with fail
            go_roundw
            case rel => exact ⟨i + 1, by omega, by go_num, (by first | trivial | rfl), hn4⟩
            case measure => simp [intOf]; omega
    · obtain rfl : i = m := by omega
      have hlt' : ¬ (i : Int) < (i : Int) := by omega
      have hyes : Hid (SmallSaid w most limbs degree i Ls (.returned (.bool true)) w) := ⟨true, rfl, rfl, fun _ => hdone.out⟩
      go_wp2_with fail
      go_ret
      exact hyes.out
/-- Of three. -/
def Small3 (w : World) (most limbs degree : Int) (L1 L2 L3 : List TV) (e : Ending) (w' : World) : Prop :=
  ∃ b : Bool, e = .returned (.bool b) ∧ w = w' ∧ (b = true → SmallL most limbs degree L1 ∧ SmallL most limbs degree L2 ∧ SmallL most limbs degree L3)
theorem lsmall3 (most limbs degree : Int) (g c : Nat) (A1 A2 A3 : Option Addr) (m1 m2 m3 c1 c2 c3 : Nat) (L1 L2 L3 : List TV) (w : World)
    (q1 : w.cell? ⟨g, 0, none⟩ = some (.slice A1 m1 c1)) (q2 : w.cell? ⟨g, 1, none⟩ = some (.slice A2 m2 c2)) (q3 : w.cell? ⟨g, 2, none⟩ = some (.slice A3 m3 c3)) (h1 : Trs w A1 m1 L1) (h2 : Trs w A2 m2 L2) (h3 : Trs w A3 m3 L3) (k1 : m1 ≤ 9223372036854775807) (k2 : m2 ≤ 9223372036854775807) (k3 : m3 ≤ 9223372036854775807) :
    Calls Try.prog 8 #[.int .i64 most, .int .i64 limbs, .int .i64 degree, .slice (some ⟨g, 0, none⟩) 3 c] w (Small3 w most limbs degree L1 L2 L3) := by
  refine (lsmall most limbs degree g 3 c (fun k => if k = 0 then A1 else if k = 1 then A2 else A3) (fun k => if k = 0 then m1 else if k = 1 then m2 else m3) (fun k => if k = 0 then c1 else if k = 1 then c2 else c3) (fun k => if k = 0 then L1 else if k = 1 then L2 else L3) w (by omega) fun k hk => ?_).mono ?_
  · match k, hk with
    | 0, _ => exact ⟨q1, h1, k1⟩
    | 1, _ => exact ⟨q2, h2, k2⟩
    | 2, _ => exact ⟨q3, h3, k3⟩
  · rintro e w' ⟨b, he, hw, hb⟩
    exact ⟨b, he, hw, fun h => ⟨hb h 0 (by omega), hb h 1 (by omega), hb h 2 (by omega)⟩⟩
/-- Of two. -/
def Small2 (w : World) (most limbs degree : Int) (L1 L2 : List TV) (e : Ending) (w' : World) : Prop :=
  ∃ b : Bool, e = .returned (.bool b) ∧ w = w' ∧ (b = true → SmallL most limbs degree L1 ∧ SmallL most limbs degree L2)
theorem lsmall2 (most limbs degree : Int) (g c : Nat) (A1 A2 : Option Addr) (m1 m2 c1 c2 : Nat) (L1 L2 : List TV) (w : World)
    (q1 : w.cell? ⟨g, 0, none⟩ = some (.slice A1 m1 c1)) (q2 : w.cell? ⟨g, 1, none⟩ = some (.slice A2 m2 c2)) (h1 : Trs w A1 m1 L1) (h2 : Trs w A2 m2 L2) (k1 : m1 ≤ 9223372036854775807) (k2 : m2 ≤ 9223372036854775807) :
    Calls Try.prog 8 #[.int .i64 most, .int .i64 limbs, .int .i64 degree, .slice (some ⟨g, 0, none⟩) 2 c] w (Small2 w most limbs degree L1 L2) := by
  refine (lsmall most limbs degree g 2 c (fun k => if k = 0 then A1 else A2) (fun k => if k = 0 then m1 else m2) (fun k => if k = 0 then c1 else c2) (fun k => if k = 0 then L1 else L2) w (by omega) fun k hk => ?_).mono ?_
  · match k, hk with
    | 0, _ => exact ⟨q1, h1, k1⟩
    | 1, _ => exact ⟨q2, h2, k2⟩
  · rintro e w' ⟨b, he, hw, hb⟩
    exact ⟨b, he, hw, fun h => ⟨hb h 0 (by omega), hb h 1 (by omega)⟩⟩
end Go.Proofs.Ytjmbejodcloapaa

namespace Go.Proofs.Ytjmbejodcloapaa
open Go.RowKit Cl
/-- A small polynomial that may be. -/
structure In (n : Nat) (d : Int) (L : List TV) : Prop where
  arg : Arg n 2 L
  bd : BdM d (mvT L)
  cnt : L.length ≤ 8
  ab : absM (mvT L) ≤ 8 * 2 ^ 128
theorem intZ_abs (s : Bool) {xs : List Int} (h : IsLimbs xs) {C : Nat} (hC : xs.length ≤ C) : (intZ s xs).natAbs < 2 ^ (64 * C) := by
  have h1 := limbs_lt h
  have h2 : 2 ^ (64 * xs.length) ≤ 2 ^ (64 * C) := Nat.pow_le_pow_right (by omega) (by omega)
  have h3 : (intZ s xs).natAbs = limbs xs := by
    unfold intZ
    cases s <;> simp
  omega
theorem trs_limbs {w : World} {A : Option Addr} {m : Nat} {L : List TV} (h : Trs w A m L) : ∀ t ∈ L, IsLimbs t.1.2 := fun t ht => by
  obtain ⟨i, hi, rfl⟩ := List.getElem_of_mem ht
  have h0 : 0 < m := by rw [← h.len]; omega
  obtain ⟨b, o, _, _, hc⟩ := h.at_ h0
  obtain ⟨_, _, _, _, _, _, _, _, _, _, _, h8, _⟩ := hc i hi
  exact h8.ok
theorem in_of {n : Nat} {d : Int} {w : World} {A : Option Addr} {m : Nat} {L : List TV} (hx : Trs w A m L) (hd : d ≤ 1000) (hs : SmallL 8 2 d L) (ho : OkL (n : Int) L) : In n d L := by
  obtain ⟨h1, h2⟩ := hs
  obtain ⟨_, _, _, h3⟩ := ho
  have hlen : ∀ t ∈ L, t.2.length = n := fun t ht => by
    obtain ⟨i, hi, rfl⟩ := List.getElem_of_mem ht
    have := (h3 i hi).1
    omega
  have hbd : ∀ t ∈ L, ∀ x ∈ t.2, 0 ≤ x ∧ x ≤ d := fun t ht x hxt => by
    obtain ⟨i, hi, rfl⟩ := List.getElem_of_mem ht
    obtain ⟨j, hj, rfl⟩ := List.getElem_of_mem hxt
    have k1 := (h3 i hi).2 j hj
    have k2 := (h2 i hi).2 j hj
    rw [nth_lt hj] at k1 k2
    obtain ⟨k3, k4⟩ := k1
    exact ⟨k3, by omega⟩
  have hco : ∀ t ∈ L, t.1.2.length ≤ 2 := fun t ht => by
    obtain ⟨i, hi, rfl⟩ := List.getElem_of_mem ht
    have := (h2 i hi).1
    omega
  have hcnt : L.length ≤ 8 := by omega
  have hab : absM (mvT L) ≤ L.length * 2 ^ 128 := by
    have h4 := absM_le (L := mvT L) (B := 2 ^ 128) fun t ht => by
      obtain ⟨u, hu, rfl⟩ := List.mem_map.1 ht
      exact Nat.le_of_lt (intZ_abs u.1.1 (trs_limbs hx u hu) (C := 2) (hco u hu))
    rwa [mvT_length] at h4
  exact ⟨⟨hlen, fun t ht x hxt => by have := hbd t ht x hxt; omega, hco, by omega⟩, mvT_bd hbd, hcnt, Nat.le_trans hab (Nat.mul_le_mul_right _ hcnt)⟩
theorem lt_pow_of {x a b c : Nat} (h : x ≤ 2 ^ a * 2 ^ b) (hc : a + b < c) : x < 2 ^ c := by
  rw [← Nat.pow_add] at h
  exact Nat.lt_of_le_of_lt h (Nat.pow_lt_pow_right (by omega) hc)
theorem scale1 (n : Nat) (M : Mv) : EqM n (scaleM 1 M) M := fun p _ => by rw [coM_scale, Int.one_mul]
section
variable {n : Nat} {d : Int} {L T Z : List TV}
theorem prod_ab (ha : In n d L) (hb : In n d T) {C : Nat} (hC : 264 < 64 * C) : absM (mulM (mvT L) (mvT T)) < 2 ^ (64 * C) := by
  rw [absM_mul]
  have h1 : absM (mvT L) ≤ 2 ^ 132 := Nat.le_trans ha.ab (by decide)
  have h2 : absM (mvT T) ≤ 2 ^ 132 := Nat.le_trans hb.ab (by decide)
  exact lt_pow_of (Nat.mul_le_mul h1 h2) (by omega)
theorem prod_arg (ha : In n d L) (hb : In n d T) (hd : d ≤ 400) (hp : PlainT n Z) (e : EqM n (mvT Z) (mulM (mvT L) (mvT T))) : Arg n 5 Z ∧ BdM (d + d) (mvT Z) ∧ Z.length ≤ 64 := by
  have hbd := ha.bd.mul hb.bd
  have hl : (mulM (mvT L) (mvT T)).length ≤ 64 := by
    rw [mulM_length, mvT_length, mvT_length]
    exact Nat.mul_le_mul ha.cnt hb.cnt
  have hc := hp.mv.count e
  rw [mvT_length] at hc
  exact ⟨arg_plain (C := 5) hp e (hbd.mono (by omega)) (prod_ab (C := 5) ha hb (by omega)) (by omega), hp.mv.bd e hbd, by omega⟩
theorem sum_arg (ha : In n d L) (hb : In n d T) (hd : d ≤ 400) (hp : PlainT n Z) (e : EqM n (mvT Z) (mvT L ++ mvT T)) : Arg n 3 Z ∧ BdM d (mvT Z) ∧ Z.length ≤ 16 := by
  have hbd := ha.bd.append hb.bd
  have hl : (mvT L ++ mvT T).length ≤ 16 := by
    rw [List.length_append, mvT_length, mvT_length]
    have := ha.cnt
    have := hb.cnt
    omega
  have hab : absM (mvT L ++ mvT T) < 2 ^ (64 * 3) := by
    rw [absM_append]
    have h1 := ha.ab
    have h2 := hb.ab
    have : 8 * 2 ^ 128 + 8 * 2 ^ 128 < 2 ^ (64 * 3) := by decide
    omega
  have hc := hp.mv.count e
  rw [mvT_length] at hc
  exact ⟨arg_plain hp e (hbd.mono (by omega)) hab (by omega), hp.mv.bd e hbd, by omega⟩
end
/-- A call that hands back plain terms, no more than 4096. -/
def Gives4 (w : World) (n : Nat) (M : Mv) (f : Option Addr → Nat → Nat → Value) (e : Ending) (w' : World) : Prop :=
  ∃ A c L, e = .returned (f A L.length c) ∧ L.length ≤ 4096 ∧ Trs w' A L.length L ∧ PlainT n L ∧ EqM n (mvT L) M ∧ Below w.heap.size w w'
theorem gives4_T {w : World} {n : Nat} {M : Mv} {e : Ending} {w' : World} (h : GivesT w n M e w') (hl : M.length ≤ 4096) : Gives4 w n M (fun A k c => .slice A k c) e w' := by
  obtain ⟨A, c, L, h1, h2, h3, h4, h5, h6, h7⟩ := h
  have hc := h5.mv.count h6
  rw [mvT_length] at hc
  exact ⟨A, c, L, h1, by omega, h4, h5, h6, h7⟩
theorem gives4_P {w : World} {n : Nat} {M : Mv} {e : Ending} {w' : World} (h : GivesP w n M e w') (hl : M.length ≤ 4096) : Gives4 w n M (fun A k c => .tuple #[.slice A k c, .int .i64 0]) e w' := by
  obtain ⟨A, c, L, h1, h2, h3, h4, h5, h6, h7⟩ := h
  have hc := h5.mv.count h6
  rw [mvT_length] at hc
  exact ⟨A, c, L, h1, by omega, h4, h5, h6, h7⟩
section
variable (n Ca Cb : Nat) (A B : Option Addr) (ma ca mb cb : Nat) (L T : List TV) (w : World) (hx : Trs w A ma L) (hy : Trs w B mb T) (hL : Arg n Ca L) (hT : Arg n Cb T) (hn : n ≤ 6)
include hx hy hL hT hn
theorem lsum4 (hCa : Ca ≤ 10000) (hCb : Cb ≤ 10000) (hl : ma + mb ≤ 4096) : Calls Try.prog 13 #[.int .i64 (n : Int), .slice A ma ca, .slice B mb cb] w (Gives4 w n (mvT L ++ mvT T) (fun A k c => .slice A k c)) :=
  (lsum n Ca Cb A B ma ca mb cb L T w hx hy hL hT hn hCa hCb hl).mono fun _ _ h => gives4_T h (by rw [List.length_append, mvT_length, mvT_length, hx.len, hy.len]; exact hl)
theorem pSub4 (hCa : Ca ≤ 10000) (hCb : Cb ≤ 10000) (hl : ma + mb ≤ 4096) : Calls Try.prog 12 #[.int .i64 (n : Int), .slice A ma ca, .slice B mb cb] w (Gives4 w n (mvT L ++ scaleM (-1) (mvT T)) (fun A k c => .tuple #[.slice A k c, .int .i64 0])) :=
  (pSub n Ca Cb A B ma ca mb cb L T w hx hy hL hT hn hCa hCb hl).mono fun _ _ h => gives4_P h (by rw [List.length_append, scaleM, List.length_map, mvT_length, mvT_length, hx.len, hy.len]; exact hl)
theorem ltimes4 (da db : Int) (hCa : Ca ≤ 10000) (hCb : Cb ≤ 10000) (hl : ma * mb ≤ 4096) (hda : BdM da (mvT L)) (hdb : BdM db (mvT T)) (hd : da + db ≤ 1000) : Calls Try.prog 11 #[.int .i64 (n : Int), .slice A ma ca, .slice B mb cb] w (Gives4 w n (mulM (mvT L) (mvT T)) (fun A k c => .slice A k c)) :=
  (ltimes n Ca Cb A B ma ca mb cb L T w hx hy hL hT hn da db hCa hCb hl hda hdb hd).mono fun _ _ h => gives4_T h (by rw [mulM_length, mvT_length, mvT_length, hx.len, hy.len]; exact hl)
end
theorem mnorm4 (n C : Nat) (A : Option Addr) (m c : Nat) (L : List TV) (w : World) (hx : Trs w A m L) (hL : Arg n C L) (hn : n ≤ 6) (hC : C ≤ 10000) :
    Calls Try.prog 10 #[.int .i64 (n : Int), .slice A m c] w (Gives4 w n (mvT L) (fun A k c => .tuple #[.slice A k c, .int .i64 0])) :=
  (mnorm n C A m c L w hx hL hn hC).mono fun _ _ h => gives4_P h (by rw [mvT_length]; exact hL.cnt)
theorem nth_addN {a b : Plc} {n i : Nat} (ha : a.length = n) (hb : b.length = n) (hi : i < n) : nth (addP a b) i = nth a i + nth b i := by
  unfold addP nth
  simp [List.getD, ha, hb, hi]
/-- The first of some terms, as it lies in memory. -/
theorem trs_head {w : World} {A : Option Addr} {m : Nat} {t : TV} {L : List TV} (h : Trs w A m (t :: L)) : ∃ b o Ai ci Ei ei, A = some ⟨b, o, none⟩ ∧ b < w.heap.size ∧ w.cell? ⟨b, o, none⟩ = some (.bool t.1.1) ∧ w.cell? ⟨b, o + 1, none⟩ = some (.slice Ai t.1.2.length ci) ∧ w.cell? ⟨b, o + 2, none⟩ = some (.slice Ei t.2.length ei) ∧
    t.1.2.length ≤ ci ∧ ci ≤ 9223372036854775807 ∧ t.2.length ≤ ei ∧ ei ≤ 9223372036854775807 ∧ Limbs w Ai t.1.2.length t.1.2 ∧ Ints w Ei t.2.length t.2 := by
  have h0 : 0 < m := by rw [← h.len]; simp
  obtain ⟨b, o, e, hb, hc⟩ := h.at_ h0
  obtain ⟨Ai, ci, Ei, ei, e1, e2, e3, e4, e5, e6, e7, e8, e9⟩ := hc 0 (by simp)
  exact ⟨b, o, Ai, ci, Ei, ei, e, hb, e1, e2, e3, e4, e5, e6, e7, e8, e9⟩
end Go.Proofs.Ytjmbejodcloapaa
