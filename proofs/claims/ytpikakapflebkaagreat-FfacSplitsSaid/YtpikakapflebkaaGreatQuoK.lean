/- The polynomials by an irreducible one: a field. No program in sight. -/
import Derived.Test.YtpikakapflebkaaGreatPolyTop
namespace Cl
namespace Poly
variable {F : Type} [CField F]
def modS (f : Poly F) : Setoid (Poly F) := ⟨Eqm f, ⟨Eqm.refl f, fun h => h.symm, fun h k => h.trans k⟩⟩
/-- Polynomials, two held for one where f divides their difference. -/
def QuoK (f : Poly F) : Type := Quotient (modS f)
def QuoK.mk (f : Poly F) (a : Poly F) : QuoK f := Quotient.mk (modS f) a
theorem QuoK.eq {f a b : Poly F} : QuoK.mk f a = QuoK.mk f b ↔ Eqm f a b := ⟨fun h => Quotient.exact (s := modS f) h, fun h => Quotient.sound (s := modS f) h⟩
theorem QuoK.ind {f : Poly F} {P : QuoK f → Prop} (h : ∀ a, P (QuoK.mk f a)) (x : QuoK f) : P x := Quotient.ind (s := modS f) h x
instance (f : Poly F) : CRing (QuoK f) where
  add := Quotient.lift₂ (s₁ := modS f) (s₂ := modS f) (fun a b => QuoK.mk f (a + b)) fun _ _ _ _ h k => QuoK.eq.2 (Eqm.add h k)
  mul := Quotient.lift₂ (s₁ := modS f) (s₂ := modS f) (fun a b => QuoK.mk f (a * b)) fun _ _ _ _ h k => QuoK.eq.2 (Eqm.mul h k)
  neg := Quotient.lift (s := modS f) (fun a => QuoK.mk f (-a)) fun _ _ h => QuoK.eq.2 (Eqm.neg h)
  sub := Quotient.lift₂ (s₁ := modS f) (s₂ := modS f) (fun a b => QuoK.mk f (a - b)) fun _ _ _ _ h k => QuoK.eq.2 (Eqm.sub h k)
  zero := QuoK.mk f 0
  one := QuoK.mk f 1
  pow x n := Quotient.lift (s := modS f) (fun a => QuoK.mk f (a ^ n)) (fun _ _ h => QuoK.eq.2 (Eqm.pow h n)) x
  add_assoc a b c := by
    induction a using QuoK.ind with | h a =>
    induction b using QuoK.ind with | h b =>
    induction c using QuoK.ind with | h c =>
    exact congrArg (QuoK.mk f) (CRing.add_assoc a b c)
  add_comm a b := by
    induction a using QuoK.ind with | h a =>
    induction b using QuoK.ind with | h b =>
    exact congrArg (QuoK.mk f) (CRing.add_comm a b)
  add_zero a := by
    induction a using QuoK.ind with | h a =>
    exact congrArg (QuoK.mk f) (CRing.add_zero a)
  add_neg a := by
    induction a using QuoK.ind with | h a =>
    exact congrArg (QuoK.mk f) (CRing.add_neg a)
  mul_assoc a b c := by
    induction a using QuoK.ind with | h a =>
    induction b using QuoK.ind with | h b =>
    induction c using QuoK.ind with | h c =>
    exact congrArg (QuoK.mk f) (CRing.mul_assoc a b c)
  mul_comm a b := by
    induction a using QuoK.ind with | h a =>
    induction b using QuoK.ind with | h b =>
    exact congrArg (QuoK.mk f) (CRing.mul_comm a b)
  mul_one a := by
    induction a using QuoK.ind with | h a =>
    exact congrArg (QuoK.mk f) (CRing.mul_one a)
  mul_add a b c := by
    induction a using QuoK.ind with | h a =>
    induction b using QuoK.ind with | h b =>
    induction c using QuoK.ind with | h c =>
    exact congrArg (QuoK.mk f) (CRing.mul_add a b c)
  sub_def a b := by
    induction a using QuoK.ind with | h a =>
    induction b using QuoK.ind with | h b =>
    exact congrArg (QuoK.mk f) (CRing.sub_def a b)
  pow_zero a := by
    induction a using QuoK.ind with | h a =>
    exact congrArg (QuoK.mk f) (CRing.pow_zero a)
  pow_succ a n := by
    induction a using QuoK.ind with | h a =>
    exact congrArg (QuoK.mk f) (CRing.pow_succ a n)
theorem QuoK.add (f a b : Poly F) : QuoK.mk f (a + b) = QuoK.mk f a + QuoK.mk f b := rfl
theorem QuoK.mul (f a b : Poly F) : QuoK.mk f (a * b) = QuoK.mk f a * QuoK.mk f b := rfl
theorem QuoK.sub (f a b : Poly F) : QuoK.mk f (a - b) = QuoK.mk f a - QuoK.mk f b := rfl
theorem QuoK.pow (f a : Poly F) (n : Nat) : QuoK.mk f (a ^ n) = QuoK.mk f a ^ n := rfl
theorem QuoK.zero_iff {f a : Poly F} : QuoK.mk f a = 0 ↔ f ∣ a := by
  rw [show (0 : QuoK f) = QuoK.mk f 0 from rfl, QuoK.eq]
  unfold Eqm
  rw [CRing.sub_zero]
theorem QuoK.hom (f : Poly F) : Hom (QuoK.mk f) := ⟨fun _ _ => rfl, fun _ _ => rfl, rfl⟩
theorem QuoK.homC (f : Poly F) : Hom (fun c : F => QuoK.mk f (C c)) := ⟨fun a b => by rw [hom_C.add]; rfl, fun a b => by rw [hom_C.mul]; rfl, by rw [hom_C.one]; rfl⟩
theorem QuoK.inv_ex {f : Poly F} (hf : f.Irr) (x : QuoK f) (hx : x ≠ 0) : ∃ y, x * y = 1 := by
  induction x using QuoK.ind with | h a =>
  have hd : ¬ f ∣ a := fun h => hx (QuoK.zero_iff.2 h)
  obtain ⟨s, t, e⟩ := (hf.gcd a hd).bezout
  refine ⟨QuoK.mk f t, ?_⟩
  rw [← QuoK.mul, show (1 : QuoK f) = QuoK.mk f 1 from rfl, QuoK.eq]
  refine Eqm.symm ?_
  unfold Eqm
  rw [← e, CRing.mul_comm a t, CRing.sub_def, CRing.add_assoc, CRing.add_neg, CRing.add_zero]
  exact ⟨s, CRing.mul_comm _ _⟩
open Classical in
@[instance_reducible] noncomputable def QuoK.field {f : Poly F} (hf : f.Irr) : CField (QuoK f) where
  inv x := if h : ∃ y, x * y = 1 then Classical.choose h else 0
  mul_inv x hx := by
    have h := QuoK.inv_ex hf x hx
    rw [dif_pos h]
    exact Classical.choose_spec h
  one_ne h := hf.not_dvd_one (QuoK.zero_iff.1 h)
end Poly
end Cl
