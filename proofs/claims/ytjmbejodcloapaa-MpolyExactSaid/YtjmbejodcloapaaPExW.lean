/- Contracts: divisions in the domain of MpolyExact. -/
import Derived.Test.YtjmbejodcloapaaPDxs
import Derived.Test.YtjmbejodcloapaaPMdvn
import Derived.Test.YtjmbejodcloapaaPMulG
import Derived.Test.YtjmbejodcloapaaPLaws
set_option linter.unusedVariables false
set_option linter.unusedSimpArgs false
namespace Go.Proofs.Ytjmbejodcloapaa
open Go.RowKit Cl
attribute [local go_sem ↓] Go.wp_at_zero Go.wp_at_succ
theorem exactC_any {cl : Int} {Kc : Nat} (h0 : cl ≠ 0) (hK : Kc ≤ 1000000) : ExactC cl Kc := by
  intro W s A k c ls s2 A2 k2 c2 ls2 z hl hl2 hkc hc hkc2 hc2 hk hk2 e1 e2 hz
  have h2 : 0 < limbs ls2 := by
    rcases Nat.eq_zero_or_pos (limbs ls2) with h | h
    · exfalso
      apply h0
      rw [← e2]
      unfold intZ
      cases s2 <;> simp [h]
    · exact h
  refine (zexactG s s2 A A2 k k2 c c2 ls ls2 W hl hl2 hkc hc hkc2 hc2 (by omega) (by omega) h2).mono ?_
  rintro e w' ⟨s1, A1, k1, c1, l1, h1, h3, h4, h5, h6, h7, h8, h9⟩
  have hm : intZ s ls % intZ s2 ls2 = 0 := by rw [e1, e2]; exact Int.mul_emod_left _ _
  have hd : intZ s ls / intZ s2 ls2 = z := by rw [e1, e2]; exact Int.mul_ediv_cancel _ h0
  rw [if_pos hm] at h1
  have hv := h7 hm
  rw [hd] at hv
  refine ⟨s1, A1, k1, c1, l1, h1, ?_, h4, h5, h6, hv, h9⟩
  have hle : z.natAbs ≤ (intZ s ls).natAbs := by
    rw [e1, Int.natAbs_mul]
    exact Nat.le_mul_of_pos_right _ (by omega)
  have hab := intZ_abs s hl.ok (C := k) (by rw [hl.len]; exact Nat.le_refl _)
  have hcap := hv.cap (K := k) (Nat.lt_of_le_of_lt hle hab)
  rw [h6.len] at hcap
  exact hcap
theorem mdiv_prod (n : Nat) (A B : Option Addr) (ma ca mb cb : Nat) (L T X Z : List TV) (w : World) (hx : Trs w A ma Z) (hy : Trs w B mb T) (hL : In n 6 L) (hT : In n 6 T) (hZ : Arg n 5 Z) (cZ : Z.length ≤ 64) (hn : n ≤ 6) (pX : PlainT n X) (eX : EqM n (mvT X) (mvT L)) (eZ : EqM n (mvT Z) (mulM (mvT L) (mvT T))) {P' : Mv} {pl : Plc} {cl : Int} (hD : DivT n (wsE n) (vsE n) (2 ^ 131) (mvT T) P' pl cl) :
    Calls Try.prog 17 #[.int .i64 (n : Int), .slice A ma ca, .slice B mb cb] w (GivesP w n (mvT X)) := by
  have hc := pX.mv.count eX
  rw [mvT_length, mvT_length] at hc
  have h1 := hL.cnt
  have h2 := hT.cnt
  have hma := hx.len
  have hmb := hy.len
  have hlen : LenM n (mvT L) := hL.arg.lenM
  have hs : (mvT X).length * (2 + 1 + mb) ≤ 8 * 11 := Nat.mul_le_mul (by rw [mvT_length]; omega) (by omega)
  exact mdivE n 5 2 A B ma ca mb cb Z T (mvT X) P' pl cl w hx hy hZ hT.arg hn (by omega) hD.pln hD.eq pX.mv ((eX.mul (EqM.refl n _) pX.mv.len hlen hT.arg.lenM hT.arg.lenM).trans eZ.symm) ((pX.mv.bd eX hL.bd).mono (by omega)) (by omega) (by omega) (by rw [mvT_length]; omega) (exactC_any hD.cl_ne (by omega))
def GivesX (w : World) (n : Nat) (L T : List TV) (e : Ending) (w' : World) : Prop :=
  (e = .returned (.tuple #[.slice none 0 0, .int .i64 4]) ∧ Below w.heap.size w w') ∨ ∃ A c R, e = .returned (.tuple #[.slice A R.length c, .int .i64 0]) ∧ R.length ≤ c ∧ c ≤ 9223372036854775807 ∧ Trs w' A R.length R ∧ Arg n 240900 R ∧ R.length ≤ 2409 ∧ EqM n (mulM (mvT R) (mvT T)) (mvT L) ∧ Below w.heap.size w w'
theorem mdiv_any (n E K : Nat) (hEE : E = 117648) (hKK : K = 240900) (A B : Option Addr) (ma ca mb cb : Nat) (L T : List TV) (w : World) (hx : Trs w A ma L) (hy : Trs w B mb T) (hn : n ≤ 6) (hL : In n 6 L) (hT : In n 6 T) {P' : Mv} {pl : Plc} {cl : Int} (hD : DivT n (wsE n) (vsE n) (2 ^ 131) (mvT T) P' pl cl) :
    Calls Try.prog 17 #[.int .i64 (n : Int), .slice A ma ca, .slice B mb cb] w (GivesX w n L T) := by
  have hml := hx.len
  have hmt := hy.len
  have hc8 := hT.cnt
  have hl8 := hL.cnt
  have h131 : 8 * 2 ^ 128 = 2 ^ 131 := by decide
  have aL := hL.ab
  have aT := hT.ab
  rw [h131] at aL aT
  clear h131
  obtain ⟨w1', w2', w3', w4', w5', w6', w7', w8'⟩ := weightsE hn
  have hS := start_domE (T := mvT T) (P' := P') (pl := pl) (cl := cl) hEE hn hL.arg.lenM hL.bd aL
  have hcap := cap_domE (T := mvT T) hEE hKK aT
  have hQd : ∀ Q, PlainM n Q → (∀ t ∈ Q, NonNeg t.1 ∧ wP (vsE n) t.1 ≤ 6 * (vsE n).sum) → EqM n (mulM Q (mvT T)) (mvT L) → BdM 6 Q ∧ Q.length ≤ 2409 := fun Q q1 q2 q3 => quo_domE hD hT.bd hL.arg.lenM hL.bd (by rw [mvT_length]; exact hl8) w2' w5' q1 q2 q3
  refine (mdivG n 2 2 K (2 ^ 131 * (2 ^ 131) ^ E) (2 ^ 131) (6 * (vsE n).sum) 1700000000000000 (wsE n) (vsE n) A B ma ca mb cb L T P' pl cl w hx hy hL.arg hT.arg hn (by omega) (by omega) hD hS w2' w5' w8' (by omega) (by omega) (by omega) hcap (by omega) (by omega) (by omega) (by omega) fun Q q1 q2 q3 => have h := hQd Q q1 q2 q3; ⟨h.1.mono (by omega), by omega⟩).mono ?_
  rintro e w' ⟨o, d1, d2, d3⟩
  cases o with
  | none => exact .inl d3
  | some Q =>
    obtain ⟨q1, q2⟩ := d2 Q rfl
    have hab := d1.abs hD hS Q rfl
    have hsm : ∀ t ∈ Q, NonNeg t.1 ∧ wP (vsE n) t.1 ≤ 6 * (vsE n).sum := d1.box hD hS Q rfl
    obtain ⟨b6, cQ⟩ := hQd Q q1 hsm q2
    obtain ⟨A1, c1, R, r0, r1, r2, r3, r4, r5, r6⟩ := d3.1 (by omega)
    have hRQ : mvT R = Q := r4.mv.unique q1 r5
    have hlR : R.length = Q.length := by rw [← hRQ, mvT_length]
    refine .inr ⟨A1, c1, R, r0, r1, r2, r3, ⟨fun t ht => r4.mv.len (valT t) (List.mem_map.2 ⟨t, ht, rfl⟩), fun t ht x hx => ?_, fun t ht => ?_, by omega⟩, by omega, by rw [hRQ]; exact q2, r6⟩
    · have h1 : valT t ∈ Q := by rw [← hRQ]; exact List.mem_map.2 ⟨t, ht, rfl⟩
      have := b6 (valT t) h1 x hx
      omega
    · have h1 : valT t ∈ Q := by rw [← hRQ]; exact List.mem_map.2 ⟨t, ht, rfl⟩
      rw [← hKK]
      refine (r4.co t ht).cap (Nat.lt_of_le_of_lt (hab _ h1) (Nat.lt_of_le_of_lt ?_ hcap))
      rw [Nat.mul_add, Nat.mul_one]
      exact Nat.le_add_right _ _
set_option maxRecDepth 100000 in
theorem ltimesG (n : Nat) (A B : Option Addr) (ma ca mb cb : Nat) (R T X : List TV) (w : World) (hx : Trs w A ma R) (hy : Trs w B mb T) (hR : Arg n 240900 R) (cR : R.length ≤ 2409) (hT : Arg n 2 T) (cT : T.length ≤ 8) (hn : n ≤ 6) (hX : EqM n (mulM (mvT R) (mvT T)) (mvT X)) (pX : PlainT n X) (bX : BdM 6 (mvT X)) (cX : X.length ≤ 8) :
    Calls Try.prog 11 #[.int .i64 (n : Int), .slice A ma ca, .slice B mb cb] w (fun e w' => ∃ A1 c1, e = .returned (.slice A1 X.length c1) ∧ Trs w' A1 X.length X ∧ Below w.heap.size w w') := by
  have e1 := hx.len
  have e2 := hy.len
  have hl : ma * mb ≤ 2409 * 8 := Nat.mul_le_mul (by omega) (by omega)
  have C := Lib.hid (mmulG n 240900 2 A B ma ca mb cb R T (mvT X) w hx hy hR hT hn (by omega) (by omega) (by omega) hX pX.mv.len (bX.mono (by omega)) (by rw [mvT_length]; omega))
  have HX := Lib.hid pX
  clear hx hy hR hT hX bX pX
  go_enter Try.func11, Try.ntmps11
  go_wp2_with fail
  refine C.out.mono ?_
  rintro e w1 ⟨A3, c3, L3, rfl, q1, q2, q3, q4, q5, q6⟩
  obtain rfl : L3 = X := q4.unique HX.out q5
  have F := Lib.hid (show ∃ A1 c1, Ending.returned (.slice A3 L3.length c3) = .returned (.slice A1 L3.length c1) ∧ Trs w1 A1 L3.length L3 ∧ Below w.heap.size w w1 from ⟨A3, c3, rfl, q3, q6⟩)
  clear q3 q4 q5 q6
  go_wp2_with fail
  go_ret
  exact F.out
end Go.Proofs.Ytjmbejodcloapaa
