/- Layer 6's statements: contracts of powers and values, by polynomials. -/
import Derived.Test.YteddelfkjpljpaaLaw6B
import Derived.Laws.BitsLemmas
namespace Go.Proofs.Yteddelfkjpljpaa
open Go.RowKit Cl
attribute [local go_sem ↓] Go.wp_at_zero Go.wp_at_succ

theorem and_65535 (n : Int) : bits .and .i64 n 65535 = n % 65536 := by
  have h127 : (BitVec.ofInt 64 65535).toNat = 2 ^ 16 - 1 := by decide
  have key : (BitVec.ofInt 64 n &&& BitVec.ofInt 64 65535).toNat = (n % ((2 ^ 64 : Nat) : Int)).toNat % 2 ^ 16 := by
    rw [BitVec.toNat_and, BitVec.toNat_ofInt, h127, Nat.and_two_pow_sub_one_eq_mod]
  show IntKind.i64.wrap ((BitVec.ofInt 64 n &&& BitVec.ofInt 64 65535).toNat : Nat) = n % 65536
  rw [key, IntKind.wrap_i64]
  omega
section
variable {p : Int} {hp : Pr p} (a b : Poly (Zp ⟨p, hp⟩)) (x : Int)
theorem valR_bd : 0 ≤ valR a x ∧ valR a x < p := ⟨Zp.lo _, Zp.hi _⟩
theorem val_add' (u v : Zp ⟨p, hp⟩) : (u + v).val = (u.val + v.val) % p := by
  have h : Zp.of ⟨p, hp⟩ (u.val + v.val) = u + v := by rw [Zp.of_add, Zp.of_val, Zp.of_val]
  rw [← h, Zp.val_of]
theorem val_mul' (u v : Zp ⟨p, hp⟩) : (u * v).val = (u.val * v.val) % p := by
  have h : Zp.of ⟨p, hp⟩ (u.val * v.val) = u * v := by rw [Zp.of_mul, Zp.of_val, Zp.of_val]
  rw [← h, Zp.val_of]
theorem valR_add : (valR (a + b) x == addm (valR a x) (valR b x) p) = true := by
  refine beq_iff_eq.2 ?_
  unfold valR
  rw [Poly.ev_add hom_id, val_add']; rfl
theorem valR_mul : (valR (a * b) x == mulm (valR a x) (valR b x) p) = true := by
  refine beq_iff_eq.2 ?_
  unfold valR
  rw [Poly.ev_mul hom_id, val_mul']; rfl
theorem frob_rem {f : Poly (Zp ⟨p, hp⟩)} (hf : f ≠ 0) (N : Nat) (hN : p.toNat = N) : powR (a + b) N f = powR a N f + powR b N f := by
  have hpp := hp.two
  unfold powR
  rw [← Poly.rem_add _ _ hf, ← hN, (Poly.charP (q := ⟨p, hp⟩)).add_pow (by show Pr ((p.toNat : Nat) : Int); rw [Int.toNat_of_nonneg (by omega)]; exact hp)]
theorem pow_rem {f : Poly (Zp ⟨p, hp⟩)} (hf : f ≠ 0) (N M : Nat) : Poly.rem (powR a N f * powR a M f) f = powR a (N + M) f := by
  refine Poly.rem_eq_of_eqm hf (((powR_eqm a N hf).mul (powR_eqm a M hf)).trans ?_)
  rw [← CRing.pow_add]; exact Poly.Eqm.refl _ _
end
section
variable {A B C : Option Addr} {n m c d k e N M T : Nat} {p : Int} {w : World} {hp : Pr p} {a f : Poly (Zp ⟨p, hp⟩)} {ls : List Int}
theorem powmR (ha : Rd w A n a) (hf : Rd w C m f) (hl : Limbs w B k ls) (hT : limbs ls = T) (hn : n ≤ N) (hm : m ≤ M) (hk : k ≤ d) (hd : d ≤ 9223372036854775807) (hk2 : k ≤ 900000000) (hN : N ≤ 900000000) (hM : M ≤ 900000000) (h0 : f ≠ 0) :
    Calls Try.prog 14 #[.slice A n c, .agg #[.bool false, .slice B k d], .slice C m e, .int .i64 p] w (GivesRE w M (powR a T f) 0) := by
  obtain ⟨xs, hx, rfl⟩ := ha
  obtain ⟨ys, hy, rfl⟩ := hf
  subst hT
  have h1 := Cl.rem_len' (toP ⟨p, hp⟩ xs ^ limbs ls) h0
  have h3 : (toP ⟨p, hp⟩ ys).len ≤ m := len_le_toP hy.len
  have hs : ¬ signN false (lmN ls k) < 0 := by
    cases lmN ls k with
    | zero => exact fun h => absurd h (by decide)
    | succ t => exact fun h => absurd (show (1 : Int) < 0 from h) (by decide)
  exact (ppow_yes A B C n c k d m e false xs ls ys p w hp hx hl hy (by omega) (by omega) hk2 hk hd hs h0).mono fun e w' h => GivesRE.of h (by show (Poly.rem _ _).len ≤ _; omega)
end
end Go.Proofs.Yteddelfkjpljpaa
