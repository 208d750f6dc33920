/- The field of residues by a prime, as a type. No program in sight. -/
import Derived.Test.YteddelfkjpljpaaFrob
namespace Cl
open CRing

class CField (F : Type) extends CRing F where
  inv : F → F
  mul_inv : ∀ a : F, a ≠ 0 → a * inv a = 1
  one_ne : (1 : F) ≠ 0
namespace CField
variable {F : Type} [CField F]
theorem inv_mul {a : F} (h : a ≠ 0) : inv a * a = 1 := by rw [mul_comm, mul_inv a h]
theorem no_zero {a b : F} (h : a * b = 0) : a = 0 ∨ b = 0 := by
  by_cases ha : a = 0
  · exact .inl ha
  · right
    have : inv a * (a * b) = inv a * 0 := by rw [h]
    rwa [← CRing.mul_assoc, inv_mul ha, one_mul, CRing.mul_zero] at this
theorem mul_ne {a b : F} (ha : a ≠ 0) (hb : b ≠ 0) : a * b ≠ 0 := fun h => (no_zero h).elim ha hb
theorem inv_ne {a : F} (h : a ≠ 0) : inv a ≠ 0 := fun e => by
  have := mul_inv a h
  rw [e, CRing.mul_zero] at this
  exact one_ne this.symm
theorem mul_left_cancel {a b c : F} (ha : a ≠ 0) (h : a * b = a * c) : b = c := by
  have : inv a * (a * b) = inv a * (a * c) := by rw [h]
  rwa [← CRing.mul_assoc, ← CRing.mul_assoc, inv_mul ha, one_mul, one_mul] at this
end CField

/-- A prime, with what is known of it. -/
structure Prm where
  p : Int
  pr : Pr p

/-- A residue. -/
structure Zp (q : Prm) where
  val : Int
  lo : 0 ≤ val
  hi : val < q.p

namespace Zp
variable {q : Prm}
theorem ext {a b : Zp q} (h : a.val = b.val) : a = b := by cases a; cases b; simp only [mk.injEq]; exact h
/-- A number's residue. -/
def of (q : Prm) (a : Int) : Zp q := ⟨a % q.p, Int.emod_nonneg _ (by have := q.pr.two; omega), Int.emod_lt_of_pos _ q.pr.pos⟩
theorem of_val (a : Zp q) : of q a.val = a := ext (Int.emod_eq_of_lt a.lo a.hi)
theorem val_of (a : Int) : (of q a).val = a % q.p := rfl
theorem of_eq_iff {a b : Int} : of q a = of q b ↔ Cg q.p a b := by
  rw [Cg.iff_emod]
  constructor
  · intro h; exact congrArg val h
  · intro h; exact ext h
theorem of_cg {a b : Int} (h : Cg q.p a b) : of q a = of q b := of_eq_iff.2 h
theorem val_cg (a : Int) : Cg q.p (of q a).val a := Cg.emod_left _ _

instance : Add (Zp q) := ⟨fun a b => of q (a.val + b.val)⟩
instance : Mul (Zp q) := ⟨fun a b => of q (a.val * b.val)⟩
instance : Neg (Zp q) := ⟨fun a => of q (-a.val)⟩
instance : Sub (Zp q) := ⟨fun a b => of q (a.val - b.val)⟩
instance : Zero (Zp q) := ⟨of q 0⟩
instance : One (Zp q) := ⟨of q 1⟩
instance : NatPow (Zp q) := ⟨fun a n => of q (a.val ^ n)⟩

theorem of_add (a b : Int) : of q (a + b) = of q a + of q b := of_cg ((val_cg a).add (val_cg b)).symm
theorem of_mul (a b : Int) : of q (a * b) = of q a * of q b := of_cg ((val_cg a).mul (val_cg b)).symm
theorem of_sub (a b : Int) : of q (a - b) = of q a - of q b := of_cg ((val_cg a).sub (val_cg b)).symm
theorem of_neg (a : Int) : of q (-a) = -of q a := of_cg (val_cg a).neg.symm
theorem of_pow (a : Int) (n : Nat) : of q (a ^ n) = of q a ^ n := of_cg ((val_cg a).pow n).symm
theorem of_zero : of q 0 = 0 := rfl
theorem of_one : of q 1 = 1 := rfl
theorem ind {P : Zp q → Prop} (h : ∀ a, P (of q a)) (a : Zp q) : P a := by rw [← of_val a]; exact h _

instance : CField (Zp q) where
  add_assoc a b c := by
    rw [← of_val a, ← of_val b, ← of_val c, ← of_add, ← of_add, ← of_add, ← of_add, Int.add_assoc]
  add_comm a b := by rw [← of_val a, ← of_val b, ← of_add, ← of_add, Int.add_comm]
  add_zero a := by rw [← of_val a, ← of_zero, ← of_add, Int.add_zero]
  add_neg a := by rw [← of_val a, ← of_neg, ← of_add, Int.add_right_neg]; rfl
  mul_assoc a b c := by
    rw [← of_val a, ← of_val b, ← of_val c, ← of_mul, ← of_mul, ← of_mul, ← of_mul, Int.mul_assoc]
  mul_comm a b := by rw [← of_val a, ← of_val b, ← of_mul, ← of_mul, Int.mul_comm]
  mul_one a := by rw [← of_val a, ← of_one, ← of_mul, Int.mul_one]
  mul_add a b c := by
    rw [← of_val a, ← of_val b, ← of_val c, ← of_add, ← of_mul, ← of_mul, ← of_mul, ← of_add, Int.mul_add]
  sub_def a b := by rw [← of_val a, ← of_val b, ← of_sub, ← of_neg, ← of_add, Int.sub_eq_add_neg]
  pow_zero a := by rw [← of_val a, ← of_pow, Int.pow_zero]; rfl
  pow_succ a n := by rw [← of_val a, ← of_pow, ← of_pow, ← of_mul, Int.pow_succ]
  inv a := of q (invm a.val q.p)
  mul_inv a h := by
    have ha : ¬ Cg q.p a.val 0 := fun h0 => h (by rw [← of_val a]; exact of_cg h0)
    conv => lhs; lhs; rw [← of_val a]
    rw [← of_mul]
    exact of_cg (invm_spec q.pr ha).2.2
  one_ne h := q.pr.one_not (of_eq_iff.1 h)

theorem eq_zero_iff {a : Int} : of q a = 0 ↔ Cg q.p a 0 := of_eq_iff
theorem inv_of (a : Int) : CField.inv (of q a) = of q (invm a q.p) := by
  by_cases ha : Cg q.p a 0
  · show of q (invm (of q a).val q.p) = _
    rw [invm_zero q.pr ha, invm_zero q.pr ((val_cg a).trans ha)]
  · have ha' : of q a ≠ 0 := fun h => ha (eq_zero_iff.1 h)
    apply CField.mul_left_cancel ha'
    rw [CField.mul_inv _ ha', ← of_mul]
    exact (of_cg (invm_spec q.pr ha).2.2).symm
theorem nsmul_one (n : Nat) : nsmul n (1 : Zp q) = of q n := by
  induction n with
  | zero => rfl
  | succ n ih => rw [nsmul_succ, ih, ← of_one, ← of_add]; rfl
theorem charP (q : Prm) : CharP (Zp q) q.p.toNat := by
  show nsmul _ _ = _
  rw [nsmul_one, Int.toNat_of_nonneg (by have := q.pr.two; omega)]
  exact of_cg ⟨1, by omega⟩
theorem pr_nat (q : Prm) : Pr (q.p.toNat : Int) := by
  rw [Int.toNat_of_nonneg (by have := q.pr.two; omega)]; exact q.pr
/-- Fermat: the p-th power of each residue is itself. -/
theorem pow_p (a : Zp q) : a ^ q.p.toNat = a := by
  have key : ∀ n : Nat, (of q n) ^ q.p.toNat = of q n := by
    intro n
    induction n with
    | zero => exact zero_pow (by have := q.pr.two; omega)
    | succ n ih =>
      have e : of q ((n + 1 : Nat) : Int) = of q n + 1 := by rw [← of_one, ← of_add]; rfl
      rw [e, (charP q).add_pow (pr_nat q), ih, one_pow]
  have h := key a.val.toNat
  rwa [Int.toNat_of_nonneg a.lo, of_val] at h
end Zp

theorem fermat {p : Int} (hp : Pr p) (a : Int) : powm a p.toNat p = red a p := by
  have h := Zp.pow_p (Zp.of ⟨p, hp⟩ a)
  rw [← Zp.of_pow, Zp.of_eq_iff, Cg.iff_emod] at h
  rw [red_of_pos (by have := hp.two; omega)]
  exact h
theorem powm_add (a : Int) (m n : Nat) (p : Int) : mulm (powm a m p) (powm a n p) p = powm a (m + n) p := by
  refine emod_eq_of_cg (((powm_cg a m p).mul (powm_cg a n p)).trans (Cg.of_eq ?_))
  rw [Int.pow_add]

end Cl
