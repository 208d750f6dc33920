/- Words on memory: a slice of limbs of 64 bits. No program in sight. -/
import Derived.Test.YteddelfkjpljpaaBase
import Derived.Test.YteddelfkjpljpaaPolyB
import Derived.Lib.BitFns
namespace Cl
open Go Go.RowKit

def lmbs (xs : List Int) : List Value := xs.map (Value.int .u64)
theorem lmbs_length (xs : List Int) : (lmbs xs).length = xs.length := by simp [lmbs]
theorem lmbs_get {xs : List Int} {i : Nat} (h : i < xs.length) : (lmbs xs)[i]? = some (.int .u64 (nth xs i)) := by
  simp [lmbs, nth_lt h, h]
theorem lmbs_oneCell (xs : List Int) : ∀ u ∈ lmbs xs, u.oneCell' = true := by
  intro u hu
  simp only [lmbs, List.mem_map] at hu
  obtain ⟨x, _, rfl⟩ := hu
  rfl
/-- The slice at A, of n elements, reads as the limbs xs. -/
structure Limbs (w : World) (A : Option Addr) (n : Nat) (xs : List Int) : Prop where
  len : xs.length = n
  at_ : 0 < n → ∃ b o, A = some ⟨b, o, none⟩ ∧ b < w.heap.size ∧ ∀ i, i < n → w.cell? ⟨b, o + i, none⟩ = some (.int .u64 (nth xs i))
  ok : IsLimbs xs
section
variable {w w' : World} {A : Option Addr} {n : Nat} {xs : List Int}
theorem Limbs.keep (h : Limbs w A n xs) (hs : w.heap.size ≤ w'.heap.size) (hk : ∀ p : Addr, p.block < w.heap.size → w'.cell? p = w.cell? p) : Limbs w' A n xs :=
  ⟨h.len, fun hn => by
    obtain ⟨b, o, e, hb, hc⟩ := h.at_ hn
    exact ⟨b, o, e, by omega, fun i hi => (hk ⟨b, o + i, none⟩ hb).trans (hc i hi)⟩, h.ok⟩
theorem Limbs.below (h : Limbs w A n xs) {B : Nat} (hb : Below B w w') (hB : w.heap.size ≤ B) : Limbs w' A n xs := h.keep hb.size fun _ hp => hb.cell (by omega)
theorem Limbs.bel (h : Limbs w A n xs) (hb : Below w.heap.size w w') : Limbs w' A n xs := h.below hb (Nat.le_refl _)
theorem Limbs.drew (h : Limbs w A n xs) : Limbs w.drew A n xs := ⟨h.len, h.at_, h.ok⟩
theorem Limbs.alloc (h : Limbs w A n xs) (o : Obj) : Limbs (w.alloc o) A n xs := h.keep (by simp) fun p hp => World.cell?_alloc_lt w o p hp
theorem IsLimbs.take {xs : List Int} (h : IsLimbs xs) (k : Nat) : IsLimbs (xs.take k) := fun i => by
  by_cases hi : i < k
  · have : nth (xs.take k) i = nth xs i := by unfold nth; simp [List.getD, hi]
    rw [this]; exact h i
  · rw [nth_ge (by simp; omega)]; omega
theorem nth_take {xs : List Int} {k i : Nat} (hi : i < k) : nth (xs.take k) i = nth xs i := by unfold nth; simp [List.getD, hi]
theorem Limbs.take (h : Limbs w A n xs) {k : Nat} (hk : k ≤ n) : Limbs w A k (xs.take k) :=
  ⟨by rw [List.length_take, h.len]; omega, fun h0 => by
    obtain ⟨b, o, e, hb, hc⟩ := h.at_ (by omega)
    exact ⟨b, o, e, hb, fun i hi => by rw [nth_take hi]; exact hc i (by omega)⟩, h.ok.take k⟩
theorem Limbs.nil (w : World) (A : Option Addr) : Limbs w A 0 [] := ⟨rfl, fun h => absurd h (by omega), fun i => by rw [nth_ge (by simp)]; omega⟩
theorem Limbs.reads (h : Limbs w A n xs) : Reads w w.heap.size 1 A n (lmbs xs) :=
  ⟨by rw [lmbs_length, h.len, Nat.mul_one], fun h0 => by
    obtain ⟨b, o, e, hb, hc⟩ := h.at_ h0
    refine ⟨_, e, hb, fun j u hu => ?_⟩
    have hj : j < n := by
      have := (List.getElem?_eq_some_iff.1 hu).1
      rw [lmbs_length, h.len] at this; exact this
    rw [lmbs_get (by rw [h.len]; exact hj)] at hu
    injection hu with hu
    rw [← hu]
    have : (⟨b, o, none⟩ : Addr).add j = ⟨b, o + j, none⟩ := by
      unfold Addr.add; split
      · rename_i e; subst e; rfl
      · rfl
    rw [this]; exact hc j hj⟩
theorem Limbs.of_own {base : Nat} {e : TypeId} {c : Nat} (h : w.ownsRow base e 1 (.slice A n c) n (lmbs xs)) (hok : IsLimbs xs) : Limbs w A n xs := by
  have hl := h.1
  rw [lmbs_length, Nat.mul_one] at hl
  refine ⟨hl, fun hn => ?_, hok⟩
  rcases h.2 with ⟨h', h0⟩ | ⟨g, cap, cur, hv, _, hg, hnc, hcm, hcs, htake⟩
  · omega
  · simp only [Value.slice.injEq] at hv
    obtain ⟨rfl, _, rfl⟩ := hv
    refine ⟨g, 0, rfl, (Array.getElem?_eq_some_iff.1 hg).1, fun i hi => ?_⟩
    rw [Nat.zero_add, cell_of_row w g i cur e (0, 0) hg]
    have := lmbs_get (xs := xs) (i := i) (by omega)
    rw [← htake, List.getElem?_take, if_pos (by omega)] at this
    simpa using this
/-- One limb in new memory. -/
theorem Limbs.one (w : World) (t : TypeId) {x : Int} (h0 : 0 ≤ x) (h1 : x < 18446744073709551616) : Limbs (w.alloc (.cells #[.int .u64 x] t)) (some ⟨w.heap.size, 0, none⟩) 1 [x] :=
  ⟨rfl, fun _ => ⟨_, 0, rfl, by simp, fun i hi => by
    obtain rfl : i = 0 := by omega
    exact cell_new0 w _ t⟩, fun i => by
    match i with
    | 0 => exact ⟨h0, h1⟩
    | i + 1 => rw [nth_ge (by simp)]; omega⟩
end
/-- How many limbs are left without noughts at the end. -/
def lmN (xs : List Int) (n : Nat) : Nat := plen (nth xs) n
theorem lmN_le (xs : List Int) (n : Nat) : lmN xs n ≤ n := plen_le _ _
theorem limbs_append (xs ys : List Int) : limbs (xs ++ ys) = limbs xs + 2 ^ (64 * xs.length) * limbs ys := by
  induction xs with
  | nil => simp [limbs]
  | cons x xs ih =>
    show x.toNat + 2 ^ 64 * limbs (xs ++ ys) = x.toNat + 2 ^ 64 * limbs xs + 2 ^ (64 * (xs.length + 1)) * limbs ys
    rw [ih, Nat.mul_succ, Nat.add_comm (64 * xs.length), Nat.pow_add, Nat.mul_add, Nat.mul_assoc]; omega
theorem limbs_take_succ {xs : List Int} {k : Nat} (h : k < xs.length) : limbs (xs.take (k + 1)) = limbs (xs.take k) + 2 ^ (64 * k) * (nth xs k).toNat := by
  have e : xs.take (k + 1) = xs.take k ++ [nth xs k] := by rw [nth_lt h]; exact List.take_succ_eq_append_getElem h
  rw [e, limbs_append, List.length_take, Nat.min_eq_left (by omega)]
  show _ + _ * ((nth xs k).toNat + 2 ^ 64 * 0) = _
  rw [Nat.mul_zero, Nat.add_zero]
theorem limbs_lmN {xs : List Int} {n : Nat} (hn : n ≤ xs.length) : limbs (xs.take (lmN xs n)) = limbs (xs.take n) := by
  induction n with
  | zero => rfl
  | succ n ih =>
    unfold lmN
    by_cases h : nth xs n = 0
    · rw [plen_drop h, limbs_take_succ (by omega), h]
      show _ = _ + _ * 0
      rw [Nat.mul_zero, Nat.add_zero]; exact ih (by omega)
    · rw [plen_stop h]
theorem lmN_zero {xs : List Int} {n : Nat} (hn : xs.length = n) (h : lmN xs n = 0) : limbs xs = 0 := by
  have := limbs_lmN (xs := xs) (n := n) (by omega)
  rw [h, List.take_of_length_le (i := n) (by omega)] at this
  rw [← this]; rfl
theorem lt_bitLen {x : Nat} (h : x < 2 ^ 64) : x < 2 ^ Lib.bitLen x := by
  unfold Lib.bitLen
  revert h
  generalize 64 = f
  induction f generalizing x with
  | zero => intro h; simpa [Lib.bitLenAux] using h
  | succ f ih =>
    intro h
    unfold Lib.bitLenAux
    split
    · rename_i e; subst e; decide
    · rw [Nat.pow_succ] at h
      have := ih (x := x / 2) (by omega)
      rw [Nat.pow_add]; omega
/-- How many bits the program tells. -/
def bitsN (xs : List Int) (n : Nat) : Nat := if lmN xs n = 0 then 0 else 64 * (lmN xs n - 1) + Lib.bitLen (nth xs (lmN xs n - 1)).toNat
theorem bitsN_le {xs : List Int} (h : IsLimbs xs) (n : Nat) : bitsN xs n ≤ 64 * n := by
  unfold bitsN
  split
  · omega
  · have h1 := lmN_le xs n
    have h2 := h (lmN xs n - 1)
    have := Lib.bitLen_le (nth xs (lmN xs n - 1)).toNat 64 (by omega) (by omega)
    omega
theorem limbs_lt_bitsN {xs : List Int} (h : IsLimbs xs) {n : Nat} (hn : xs.length = n) : limbs xs < 2 ^ bitsN xs n := by
  have e := limbs_lmN (xs := xs) (n := n) (by omega)
  rw [List.take_of_length_le (i := n) (by omega)] at e
  unfold bitsN
  by_cases h0 : lmN xs n = 0
  · rw [if_pos h0, ← e, h0]; show (0 : Nat) < 2 ^ 0; decide
  · rw [if_neg h0]
    have h1 := lmN_le xs n
    have h2 := h (lmN xs n - 1)
    obtain ⟨k, hk⟩ : ∃ k, lmN xs n = k + 1 := ⟨lmN xs n - 1, by omega⟩
    rw [hk] at e ⊢ h2
    rw [Nat.add_sub_cancel] at h2 ⊢
    rw [← e, limbs_take_succ (by omega)]
    have h3 := limbs_lt (h.take k)
    rw [List.length_take, Nat.min_eq_left (by omega)] at h3
    have h4 := lt_bitLen (x := (nth xs k).toNat) (by omega)
    rw [Nat.pow_add]
    have h5 : 2 ^ (64 * k) * ((nth xs k).toNat + 1) ≤ 2 ^ (64 * k) * 2 ^ Lib.bitLen (nth xs k).toNat := Nat.mul_le_mul_left _ h4
    rw [Nat.mul_add, Nat.mul_one] at h5
    omega
end Cl
