/- Lists of residues as polynomials, and back; plain lists. No program in sight. -/
import Derived.Test.YteddelfkjpljpaaPolyDer
import Derived.Test.YteddelfkjpljpaaFlinMath
namespace Cl
open CRing Poly

/-- The number of f's values up to n that are left without noughts at the end. -/
def plen (f : Nat → Int) : Nat → Nat
  | 0 => 0
  | n + 1 => if f n = 0 then plen f n else n + 1
theorem plen_le (f : Nat → Int) (n : Nat) : plen f n ≤ n := by
  induction n with
  | zero => exact Nat.le_refl _
  | succ n ih => unfold plen; split <;> omega
theorem plen_zero {f : Nat → Int} {n i : Nat} (h1 : plen f n ≤ i) (h2 : i < n) : f i = 0 := by
  induction n with
  | zero => omega
  | succ n ih =>
    unfold plen at h1
    split at h1
    · next h0 =>
      by_cases e : i = n
      · rw [e, h0]
      · exact ih h1 (by omega)
    · omega
theorem plen_top {f : Nat → Int} {n : Nat} (h : 0 < plen f n) : f (plen f n - 1) ≠ 0 := by
  induction n with
  | zero => unfold plen at h; omega
  | succ n ih =>
    unfold plen at h ⊢
    split at h
    · next h0 => rw [if_pos h0]; exact ih h
    · next h0 => rw [if_neg h0]; exact h0
theorem plen_drop {f : Nat → Int} {n : Nat} (h : f n = 0) : plen f (n + 1) = plen f n := by
  conv => lhs; unfold plen
  rw [if_pos h]
theorem plen_stop {f : Nat → Int} {n : Nat} (h : f n ≠ 0) : plen f (n + 1) = n + 1 := by
  conv => lhs; unfold plen
  rw [if_neg h]
theorem plen_congr {f g : Nat → Int} {n : Nat} (h : ∀ i, i < n → f i = g i) : plen f n = plen g n := by
  induction n with
  | zero => rfl
  | succ n ih => unfold plen; rw [h n (by omega), ih (fun i hi => h i (by omega))]

/-- Plain: residues, the last one not nought. -/
structure IsPl (p : Int) (xs : List Int) : Prop where
  pl : Pl p xs
  top : 0 < xs.length → nth xs (xs.length - 1) ≠ 0

section
variable {q : Prm}
/-- A list's polynomial. -/
def toP (q : Prm) (xs : List Int) : Poly (Zp q) := ⟨fun i => Zp.of q (nth xs i), xs.length, fun i hi => by rw [nth_ge hi]; rfl⟩
theorem co_toP (xs : List Int) (i : Nat) : (toP q xs).co i = Zp.of q (nth xs i) := rfl
/-- A polynomial's plain list. -/
noncomputable def fromP (a : Poly (Zp q)) : List Int := tab a.len (fun i => (a.co i).val)
theorem fromP_length (a : Poly (Zp q)) : (fromP a).length = a.len := tab_length _ _
theorem nth_fromP (a : Poly (Zp q)) (i : Nat) : nth (fromP a) i = (a.co i).val := by
  unfold fromP
  rw [nth_tab]
  split
  · rfl
  · next h => rw [len_sh a i (by omega)]; show 0 = (Zp.of q 0).val; rw [Zp.val_of, Int.zero_emod]
theorem toP_fromP (a : Poly (Zp q)) : toP q (fromP a) = a := Poly.ext fun i => by rw [co_toP, nth_fromP, Zp.of_val]
theorem zp_val_zero {a : Zp q} : a.val = 0 ↔ a = 0 := by
  constructor
  · intro h; rw [← Zp.of_val a, h]; rfl
  · rintro rfl; show (Zp.of q 0).val = 0; rw [Zp.val_of, Int.zero_emod]
theorem fromP_pl (a : Poly (Zp q)) : IsPl q.p (fromP a) := ⟨fun i => by rw [nth_fromP]; exact ⟨(a.co i).lo, (a.co i).hi⟩, fun h => by
  rw [fromP_length] at h ⊢
  rw [nth_fromP]
  exact fun e => len_top h (zp_val_zero.1 e)⟩
theorem of_pl {x : Int} (h1 : 0 ≤ x) (h2 : x < q.p) : (Zp.of q x).val = x := by rw [Zp.val_of]; exact Int.emod_eq_of_lt h1 h2
theorem IsPl.eq_fromP {xs : List Int} (h : IsPl q.p xs) : fromP (toP q xs) = xs := by
  have hl : (toP q xs).len = xs.length := by
    by_cases h0 : xs.length = 0
    · rw [h0]; exact Nat.le_zero.1 (len_le fun i _ => by rw [co_toP, nth_ge (by omega)]; rfl)
    · have e : xs.length = (xs.length - 1) + 1 := by omega
      rw [e]
      refine len_eq (fun i hi => by rw [co_toP, nth_ge (by omega)]; rfl) ?_
      rw [co_toP]
      intro hz
      have h1 := h.pl (xs.length - 1)
      have := zp_val_zero.2 hz
      rw [of_pl h1.1 h1.2] at this
      exact h.top (by omega) this
  refine list_ext (by rw [fromP_length, hl]) fun i hi => ?_
  rw [nth_fromP, co_toP, of_pl (h.pl i).1 (h.pl i).2]
theorem IsPl.len {xs : List Int} (h : IsPl q.p xs) : (toP q xs).len = xs.length := by
  conv => rhs; rw [← h.eq_fromP]
  rw [fromP_length]
theorem fromP_inj {a b : Poly (Zp q)} (h : fromP a = fromP b) : a = b := by rw [← toP_fromP a, h, toP_fromP]
theorem fromP_iff {a b : Poly (Zp q)} : eqI (fromP a) (fromP b) = decide (fromP a = fromP b) := rfl
theorem fromP_zero : fromP (0 : Poly (Zp q)) = [] := List.eq_nil_of_length_eq_zero (by rw [fromP_length, len_zero])
theorem fromP_nil {a : Poly (Zp q)} : (fromP a).length = 0 ↔ a = 0 := by rw [fromP_length]; exact len_eq_zero
/-- The residues of f's first n values, without noughts at the end. -/
def canon (n : Nat) (f : Nat → Int) (p : Int) : List Int := tab (plen (fun i => red (f i) p) n) (fun i => red (f i) p)
theorem canon_length (n : Nat) (f : Nat → Int) (p : Int) : (canon n f p).length = plen (fun i => red (f i) p) n := tab_length _ _
theorem canon_le (n : Nat) (f : Nat → Int) (p : Int) : (canon n f p).length ≤ n := by rw [canon_length]; exact plen_le _ _
theorem canon_eq {n : Nat} {f : Nat → Int} {a : Poly (Zp q)} (h : ∀ i, i < n → Zp.of q (f i) = a.co i) (hs : a.Sh n) : canon n f q.p = fromP a := by
  have hp := q.pr.two
  have hv : ∀ i, i < n → red (f i) q.p = (a.co i).val := fun i hi => by rw [red_of_pos (by omega), ← Zp.val_of, h i hi]
  have hl : plen (fun i => red (f i) q.p) n = a.len := by
    refine Nat.le_antisymm ?_ ?_
    · refine Nat.le_of_not_lt fun hlt => ?_
      refine plen_top (f := fun i => red (f i) q.p) (n := n) (by omega) ?_
      have := plen_le (fun i => red (f i) q.p) n
      show red (f _) q.p = 0
      rw [hv _ (by omega), len_sh a _ (by omega)]
      exact zp_val_zero.2 rfl
    · refine len_le fun i hi => ?_
      by_cases hin : i < n
      · have := plen_zero hi hin
        rw [hv i hin] at this
        exact zp_val_zero.1 this
      · exact hs i (by omega)
  unfold canon
  refine list_ext (by rw [tab_length, fromP_length, hl]) fun i hi => ?_
  rw [tab_length] at hi
  rw [nth_tab, if_pos hi, nth_fromP, hv i (by have := plen_le (fun i => red (f i) q.p) n; omega)]
theorem canon_toP (xs : List Int) : canon xs.length (nth xs) q.p = fromP (toP q xs) := canon_eq (fun _ _ => rfl) (fun i hi => by rw [co_toP, nth_ge hi]; rfl)

theorem toP_nil : toP q [] = 0 := Poly.ext fun i => by rw [co_toP, nth_ge (by simp)]; rfl
theorem toP_one (c : Int) : toP q [c] = C (Zp.of q c) := Poly.ext fun i => by
  rw [co_toP, co_C]
  by_cases h : i = 0
  · subst h; rfl
  · rw [if_neg h, nth_ge (by simp; omega)]; rfl
theorem toP_sh (xs : List Int) : (toP q xs).Sh xs.length := fun i hi => by rw [co_toP, nth_ge hi]; rfl
theorem len_toP_le (xs : List Int) : (toP q xs).len ≤ xs.length := len_le (toP_sh xs)
theorem toP_red (xs : List Int) : toP q (redRow xs q.p) = toP q xs := Poly.ext fun i => by
  rw [co_toP, nth_redRow, co_toP]
  exact Zp.of_cg (red_cg (by have := q.pr.two; omega))
theorem of_sum (n : Nat) (f : Nat → Int) : Zp.of q (sum n f) = sum n (fun i => Zp.of q (f i)) := by
  induction n with
  | zero => rfl
  | succ n ih => rw [sum_succ, Zp.of_add, ih, sum_succ]
/-- The coefficients of a product, of lists. -/
def mulAt (xs ys : List Int) (i : Nat) : Int := sum (i + 1) (fun k => nth xs k * nth ys (i - k))
theorem of_mulAt (xs ys : List Int) (i : Nat) : Zp.of q (mulAt xs ys i) = (toP q xs * toP q ys).co i := by
  unfold mulAt
  rw [of_sum, co_mul]
  exact sum_congr fun k _ => by rw [Zp.of_mul]; rfl
/-- The product of two lists. -/
def mulL (xs ys : List Int) (p : Int) : List Int := canon (xs.length + ys.length) (mulAt xs ys) p
theorem mulL_eq (xs ys : List Int) : mulL xs ys q.p = fromP (toP q xs * toP q ys) :=
  canon_eq (fun i _ => of_mulAt xs ys i) ((toP_sh xs).mul (toP_sh ys) (by omega))
def addL (xs ys : List Int) (k p : Int) : List Int := canon (max xs.length ys.length) (fun i => nth xs i + k * nth ys i) p
theorem of_add_mul (a b c : Int) : Zp.of q (a + c * b) = Zp.of q a + Zp.of q c * Zp.of q b := by rw [Zp.of_add, Zp.of_mul]
theorem addL_eq (xs ys : List Int) (k : Int) : addL xs ys k q.p = fromP (toP q xs + C (Zp.of q k) * toP q ys) := by
  refine canon_eq (fun i _ => ?_) (((toP_sh xs).mono (by omega)).add ?_)
  · rw [of_add_mul, co_add, co_C_mul]; rfl
  · intro i hi
    rw [co_C_mul, toP_sh ys i (by omega), CRing.mul_zero]
theorem toP_mulL (xs ys : List Int) : toP q (mulL xs ys q.p) = toP q xs * toP q ys := by rw [mulL_eq, toP_fromP]
theorem toP_addL (xs ys : List Int) (k : Int) : toP q (addL xs ys k q.p) = toP q xs + C (Zp.of q k) * toP q ys := by rw [addL_eq, toP_fromP]
theorem fromP_lt (a : Poly (Zp q)) (i : Nat) : 0 ≤ nth (fromP a) i ∧ nth (fromP a) i < q.p := (fromP_pl a).pl i
theorem fromP_i64 (a : Poly (Zp q)) (i : Nat) : I64 (nth (fromP a) i) := by
  have := fromP_lt a i
  have := q.pr.max
  exact I64.small (by omega) (by omega)
theorem fromP_top {a : Poly (Zp q)} (_h : a ≠ 0) : Zp.of q (nth (fromP a) (a.len - 1)) = a.lc := by rw [nth_fromP, Zp.of_val]; rfl
end

end Cl
